/- Own text: VWalks. -/
import Derived.Test.YtecbnklmjehofaaVWalksA
import Derived.Test.YtecbnklmjehofaaVFacts
import Derived.Test.YtecbnklmjehofaaVRaw
import Derived.Test.YtecbnklmjehofaaVIter
set_option linter.all false
set_option linter.unusedVariables false
set_option linter.unusedSimpArgs false
set_option linter.unnecessarySimpa false
set_option linter.deprecated false
namespace Xb
open Go Go.Proofs
set_option linter.unusedVariables false
set_option maxRecDepth 20000

theorem vp9_layers_y2_c {z : Option Nat} {box0 : vp9_reader} {box1 : Vp9} {r : vp9_reader × Vp9} (h : vp9_layers_y2 z box0 box1 = some r) :
    AY Try.prog 101 [.ifc 121 (.ptr 9000 0), .ptr 9001 0] [(9000, [.list 1 (List.map e8 box0.c.bytes), .int .i64 box0.c.at_, .int .i64 box0.c.err]), (9001, [.bool box1.hasPic, .bool box1.wide, .int .i64 box1.pic, .bool box1.inter, .bool box1.hasLayer, .int .i64 box1.tid, .int .i64 box1.sid, .bool box1.up, .bool box1.depends, .bool box1.flexible, .int .i64 box1.level, .list 1 (List.map (ei .i64) box1.refs), .bool box1.begin, .bool box1.end_, .bool box1.hasScale, .int .i64 box1.scale.layers, .bool box1.scale.hasSizes, .list 2 (List.map cells_Size box1.scale.sizes), .bool box1.scale.hasPics, .list 3 (List.map cells_Group box1.scale.pics), .bool box1.notRef])] [0, 1] (.ro (.tup [])) [] [(0, .ifc 121 (.ptr 9000 0)), (1, .ptr 9001 0)] [(9000, [.list 1 (List.map e8 r.1.c.bytes), .int .i64 r.1.c.at_, .int .i64 r.1.c.err]), (9001, [.bool r.2.hasPic, .bool r.2.wide, .int .i64 r.2.pic, .bool r.2.inter, .bool r.2.hasLayer, .int .i64 r.2.tid, .int .i64 r.2.sid, .bool r.2.up, .bool r.2.depends, .bool r.2.flexible, .int .i64 r.2.level, .list 1 (List.map (ei .i64) r.2.refs), .bool r.2.begin, .bool r.2.end_, .bool r.2.hasScale, .int .i64 r.2.scale.layers, .bool r.2.scale.hasSizes, .list 2 (List.map cells_Size r.2.scale.sizes), .bool r.2.scale.hasPics, .list 3 (List.map cells_Group r.2.scale.pics), .bool r.2.notRef])] := by
  refine AY.of Try.func101 rfl rfl fun w X M0 hM pv => ?_
  refine .kq (l := [(0, .ifc 121 (.ptr 9000 0)), (1, .ptr 9001 0)]) (o := [(9000, some (.box [.ro (.list 1 (List.map e8 box0.c.bytes)), .ro (.int .i64 box0.c.at_), .ro (.int .i64 box0.c.err)])), (9001, some (.box [.ro (.bool box1.hasPic), .ro (.bool box1.wide), .ro (.int .i64 box1.pic), .ro (.bool box1.inter), .ro (.bool box1.hasLayer), .ro (.int .i64 box1.tid), .ro (.int .i64 box1.sid), .ro (.bool box1.up), .ro (.bool box1.depends), .ro (.bool box1.flexible), .ro (.int .i64 box1.level), .ro (.list 1 (List.map (ei .i64) box1.refs)), .ro (.bool box1.begin), .ro (.bool box1.end_), .ro (.bool box1.hasScale), .ro (.int .i64 box1.scale.layers), .ro (.bool box1.scale.hasSizes), .ro (.list 2 (List.map cells_Size box1.scale.sizes)), .ro (.bool box1.scale.hasPics), .ro (.list 3 (List.map cells_Group box1.scale.pics)), .ro (.bool box1.notRef)]))]) ?_ (.c rfl (.c rfl .n)) (.c rfl (.c rfl .n))
  unfold vp9_layers_y2 at h
  refine .sq ?_
  refine be h fun x1 hx1 h => ?_
  refine .rd mixed (u (mv (.t rfl)) <| u (mv (.t rfl)) <| u (mv (.t rfl)) <| u (nkp (.t rfl)) <| u (fa ff62_5 (.t rfl)) <| u (ld tf3 (.t rfl) rfl rfl) <| u (mfm (.t rfl)) <| u (nkm nm121_2 (.t rfl)) <| u (mv (.t rfl)) <| ciy 14000000 cm121_144 (AY.ly (fun i => bif Nat.beq i 9000 then 9000 else i) (vp9_reader_num_y1_c hx1) rfl rfl rfl rfl rfl rfl rfl) (.t rfl) (.c (.t rfl) <| .c (.i rfl) <| .n) rfl (.c rfl <| .n) rfl <| u (nkp (.t rfl)) <| u (fa ff62_5 (.t rfl)) <| st tf3 (.t rfl) rfl (.t rfl) rfl rfl rfl <| .nil _) (by kernel_rfl) rfl ?_
  refine .sq ?_
  refine be h fun x2 hx2 h => ?_
  refine .rg (u (mv (.t rfl)) <| u (mv (.t rfl)) <| u (mv (.t rfl)) <| u (nkp (.t rfl)) <| u (fa ff62_7 (.t rfl)) <| u (ld tf4 (.t rfl) rfl rfl) <| cly 23000000 cf100 (AY.ly (fun i => bif Nat.beq i 9000 then 9000 else i) (vp9_truth_y2_c hx2) rfl rfl rfl rfl rfl rfl rfl)  (.c (.t rfl) <| .c (.t rfl) <| .n) rfl (.c rfl <| .n) rfl <| u (nkp (.t rfl)) <| u (fa ff62_7 (.t rfl)) <| st tf4 (.t rfl) rfl (.t rfl) rfl rfl rfl <| .nil _) rfl ?_
  refine .sq ?_
  refine be h fun x3 hx3 h => ?_
  refine .rd mixed (u (mv (.t rfl)) <| u (mv (.t rfl)) <| u (mv (.t rfl)) <| u (nkp (.t rfl)) <| u (fa ff62_6 (.t rfl)) <| u (ld tf3 (.t rfl) rfl rfl) <| u (mfm (.t rfl)) <| u (nkm nm121_2 (.t rfl)) <| u (mv (.t rfl)) <| ciy 35000000 cm121_144 (AY.ly (fun i => bif Nat.beq i 9000 then 9000 else i) (vp9_reader_num_y1_c hx3) rfl rfl rfl rfl rfl rfl rfl) (.t rfl) (.c (.t rfl) <| .c (.i rfl) <| .n) rfl (.c rfl <| .n) rfl <| u (nkp (.t rfl)) <| u (fa ff62_6 (.t rfl)) <| st tf3 (.t rfl) rfl (.t rfl) rfl rfl rfl <| .nil _) (by kernel_rfl) rfl ?_
  refine .sq ?_
  refine be h fun x4 hx4 h => ?_
  refine .rg (u (mv (.t rfl)) <| u (mv (.t rfl)) <| u (mv (.t rfl)) <| u (nkp (.t rfl)) <| u (fa ff62_8 (.t rfl)) <| u (ld tf4 (.t rfl) rfl rfl) <| cly 44000000 cf100 (AY.ly (fun i => bif Nat.beq i 9000 then 9000 else i) (vp9_truth_y2_c hx4) rfl rfl rfl rfl rfl rfl rfl)  (.c (.t rfl) <| .c (.t rfl) <| .n) rfl (.c rfl <| .n) rfl <| u (nkp (.t rfl)) <| u (fa ff62_8 (.t rfl)) <| st tf4 (.t rfl) rfl (.t rfl) rfl rfl rfl <| .nil _) rfl ?_
  refine .sq ?_
  refine .rg (u (mv (.t rfl)) <| u (nkp (.t rfl)) <| u (fa ff62_9 (.t rfl)) <| u (ld tf4 (.t rfl) rfl rfl) <| u (no (.t rfl)) <| .nil _) rfl ?_
  refine .bq h (.t rfl) (fun h => ?_) (fun h => ?_)
  · refine be h fun x5 hx5 h => ?_
    refine .rd mixed (u (mv (.t rfl)) <| u (mv (.t rfl)) <| u (mv (.t rfl)) <| u (nkp (.t rfl)) <| u (fa ff62_10 (.t rfl)) <| u (ld tf3 (.t rfl) rfl rfl) <| u (mfm (.t rfl)) <| u (nkm nm121_2 (.t rfl)) <| u (mv (.t rfl)) <| ciy 61000000 cm121_144 (AY.ly (fun i => bif Nat.beq i 9000 then 9000 else i) (vp9_reader_num_y1_c hx5) rfl rfl rfl rfl rfl rfl rfl) (.t rfl) (.c (.t rfl) <| .c (.i rfl) <| .n) rfl (.c rfl <| .n) rfl <| u (nkp (.t rfl)) <| u (fa ff62_10 (.t rfl)) <| st tf3 (.t rfl) rfl (.t rfl) rfl rfl rfl <| .nil _) (by kernel_rfl) rfl ?_
    obtain rfl := Option.some.inj h
    exact .rte (o := [(9000, some (.box [.ro (.list 1 (List.map e8 x5.2.c.bytes)), .ro (.int .i64 x5.2.c.at_), .ro (.int .i64 x5.2.c.err)])), (9001, some (.box [.ro (.bool box1.hasPic), .ro (.bool box1.wide), .ro (.int .i64 box1.pic), .ro (.bool box1.inter), .ro (.bool box1.hasLayer), .ro (.int .i64 x1.1), .ro (.int .i64 x3.1), .ro (.bool x2.1), .ro (.bool x4.1), .ro (.bool box1.flexible), .ro (.int .i64 x5.1), .ro (.list 1 (List.map (ei .i64) box1.refs)), .ro (.bool box1.begin), .ro (.bool box1.end_), .ro (.bool box1.hasScale), .ro (.int .i64 box1.scale.layers), .ro (.bool box1.scale.hasSizes), .ro (.list 2 (List.map cells_Size box1.scale.sizes)), .ro (.bool box1.scale.hasPics), .ro (.list 3 (List.map cells_Group box1.scale.pics)), .ro (.bool box1.notRef)]))]) Try.func101 (.n) (.c rfl (.c rfl .n)) rfl rfl (.c rfl (.c rfl .n)) rfl
  · refine .skp ?_
    obtain rfl := Option.some.inj h
    exact .rte (o := [(9000, some (.box [.ro (.list 1 (List.map e8 x4.2.c.bytes)), .ro (.int .i64 x4.2.c.at_), .ro (.int .i64 x4.2.c.err)])), (9001, some (.box [.ro (.bool box1.hasPic), .ro (.bool box1.wide), .ro (.int .i64 box1.pic), .ro (.bool box1.inter), .ro (.bool box1.hasLayer), .ro (.int .i64 x1.1), .ro (.int .i64 x3.1), .ro (.bool x2.1), .ro (.bool x4.1), .ro (.bool box1.flexible), .ro (.int .i64 box1.level), .ro (.list 1 (List.map (ei .i64) box1.refs)), .ro (.bool box1.begin), .ro (.bool box1.end_), .ro (.bool box1.hasScale), .ro (.int .i64 box1.scale.layers), .ro (.bool box1.scale.hasSizes), .ro (.list 2 (List.map cells_Size box1.scale.sizes)), .ro (.bool box1.scale.hasPics), .ro (.list 3 (List.map cells_Group box1.scale.pics)), .ro (.bool box1.notRef)]))]) Try.func101 (.n) (.c rfl (.c rfl .n)) rfl rfl (.c rfl (.c rfl .n)) rfl

theorem vp9_through_y2_c {z : Option Nat} {p_d : Vp9} {box0 : vp9_reader} {r : Vp9 × vp9_reader} (h : vp9_through_y2 z p_d box0 = some r) :
    AY Try.prog 70 [.ifc 121 (.ptr 9000 0), .ro (enc_Vp9 p_d)] [(9000, [.list 1 (List.map e8 box0.c.bytes), .int .i64 box0.c.at_, .int .i64 box0.c.err])] [0] (.ro (enc_Vp9 r.1)) [] [(0, .ifc 121 (.ptr 9000 0))] [(9000, [.list 1 (List.map e8 r.2.c.bytes), .int .i64 r.2.c.at_, .int .i64 r.2.c.err])] := by
  refine AY.of Try.func70 rfl rfl fun w X M0 hM pv => ?_
  refine .kq (l := [(0, .ifc 121 (.ptr 9000 0)), (1, .ro (enc_Vp9 p_d))]) (o := [(9000, some (.box [.ro (.list 1 (List.map e8 box0.c.bytes)), .ro (.int .i64 box0.c.at_), .ro (.int .i64 box0.c.err)]))]) ?_ (.c rfl (.c rfl .n)) (.c rfl .n)
  unfold vp9_through_y2 at h
  refine .sq ?_
  refine .rg (bx 3 (.t rfl) rfl rfl <| al 4 zf62 rfl <| .nil _) rfl ?_
  refine .sq ?_
  refine .sq ?_
  refine .rg (u (fa ff62_0 (.t rfl)) <| u (fa ff62_3 (.t rfl)) <| u (fa ff62_4 (.t rfl)) <| u (fa ff62_9 (.t rfl)) <| u (fa ff62_12 (.t rfl)) <| u (fa ff62_13 (.t rfl)) <| u (fa ff62_14 (.t rfl)) <| u (fa ff62_16 (.t rfl)) <| bsp 16 pf148 (.c (.t rfl) <| .c (.t rfl) <| .c (.t rfl) <| .c (.t rfl) <| .c (.t rfl) <| .c (.t rfl) <| .c (.t rfl) <| .c (.t rfl) <| .n) rfl rfl rfl rfl <| u (lnv sf148 (.t rfl)) <| u (mv (.i rfl)) <| .nil _) rfl ?_
  refine .bl ?_
  refine .lp ?_
  refine .sq ?_
  refine .rg (u (bc (.t rfl) (.t rfl) rfl rfl) <| .nil _) rfl ?_
  refine .sq ?_
  refine .ct (.t rfl) rfl ?_
  refine .skp ?_
  refine .sq ?_
  refine .bl ?_
  refine .sq ?_
  refine .rg (u (ixb sf148 (.t rfl) (.t rfl) rfl rfl) <| u (ld tf147 (.t rfl) rfl rfl) <| u (asg (.t rfl)) <| .nil _) rfl ?_
  refine be h fun x1 hx1 h => ?_
  refine .rg (u (mv (.t rfl)) <| u (mv (.t rfl)) <| u (mv (.t rfl)) <| u (nkp (.t rfl)) <| u (ld tf4 (.t rfl) rfl rfl) <| cly 28000000 cf100 (AY.ly (fun i => bif Nat.beq i 9000 then 9000 else i) (vp9_truth_y2_c hx1) rfl rfl rfl rfl rfl rfl rfl)  (.c (.t rfl) <| .c (.t rfl) <| .n) rfl (.c rfl <| .n) rfl <| u (nkp (.t rfl)) <| st tf4 (.t rfl) rfl (.t rfl) rfl rfl rfl <| .nil _) rfl ?_
  refine .ib ?_
  refine .rg (u (bi (.t rfl) (.i rfl) rfl) <| u (mv (.t rfl)) <| .nil _) rfl ?_
  refine .il ?_
  refine .sq ?_
  refine .rg (u (bc (.t rfl) (.t rfl) rfl rfl) <| .nil _) rfl ?_
  refine .sq ?_
  refine .ct (.t rfl) rfl ?_
  refine .skp ?_
  refine .sq ?_
  refine .bl ?_
  refine .sq ?_
  refine .rg (u (ixb sf148 (.t rfl) (.t rfl) rfl rfl) <| u (ld tf147 (.t rfl) rfl rfl) <| u (asg (.t rfl)) <| .nil _) rfl ?_
  refine be h fun x2 hx2 h => ?_
  refine .rg (u (mv (.t rfl)) <| u (mv (.t rfl)) <| u (mv (.t rfl)) <| u (nkp (.t rfl)) <| u (ld tf4 (.t rfl) rfl rfl) <| cly 28000000 cf100 (AY.ly (fun i => bif Nat.beq i 9000 then 9000 else i) (vp9_truth_y2_c hx2) rfl rfl rfl rfl rfl rfl rfl)  (.c (.t rfl) <| .c (.t rfl) <| .n) rfl (.c rfl <| .n) rfl <| u (nkp (.t rfl)) <| st tf4 (.t rfl) rfl (.t rfl) rfl rfl rfl <| .nil _) rfl ?_
  refine .ib ?_
  refine .rg (u (bi (.t rfl) (.i rfl) rfl) <| u (mv (.t rfl)) <| .nil _) rfl ?_
  refine .il ?_
  refine .sq ?_
  refine .rg (u (bc (.t rfl) (.t rfl) rfl rfl) <| .nil _) rfl ?_
  refine .sq ?_
  refine .ct (.t rfl) rfl ?_
  refine .skp ?_
  refine .sq ?_
  refine .bl ?_
  refine .sq ?_
  refine .rg (u (ixb sf148 (.t rfl) (.t rfl) rfl rfl) <| u (ld tf147 (.t rfl) rfl rfl) <| u (asg (.t rfl)) <| .nil _) rfl ?_
  refine be h fun x3 hx3 h => ?_
  refine .rg (u (mv (.t rfl)) <| u (mv (.t rfl)) <| u (mv (.t rfl)) <| u (nkp (.t rfl)) <| u (ld tf4 (.t rfl) rfl rfl) <| cly 28000000 cf100 (AY.ly (fun i => bif Nat.beq i 9000 then 9000 else i) (vp9_truth_y2_c hx3) rfl rfl rfl rfl rfl rfl rfl)  (.c (.t rfl) <| .c (.t rfl) <| .n) rfl (.c rfl <| .n) rfl <| u (nkp (.t rfl)) <| st tf4 (.t rfl) rfl (.t rfl) rfl rfl rfl <| .nil _) rfl ?_
  refine .ib ?_
  refine .rg (u (bi (.t rfl) (.i rfl) rfl) <| u (mv (.t rfl)) <| .nil _) rfl ?_
  refine .il ?_
  refine .sq ?_
  refine .rg (u (bc (.t rfl) (.t rfl) rfl rfl) <| .nil _) rfl ?_
  refine .sq ?_
  refine .ct (.t rfl) rfl ?_
  refine .skp ?_
  refine .sq ?_
  refine .bl ?_
  refine .sq ?_
  refine .rg (u (ixb sf148 (.t rfl) (.t rfl) rfl rfl) <| u (ld tf147 (.t rfl) rfl rfl) <| u (asg (.t rfl)) <| .nil _) rfl ?_
  refine be h fun x4 hx4 h => ?_
  refine .rg (u (mv (.t rfl)) <| u (mv (.t rfl)) <| u (mv (.t rfl)) <| u (nkp (.t rfl)) <| u (ld tf4 (.t rfl) rfl rfl) <| cly 28000000 cf100 (AY.ly (fun i => bif Nat.beq i 9000 then 9000 else i) (vp9_truth_y2_c hx4) rfl rfl rfl rfl rfl rfl rfl)  (.c (.t rfl) <| .c (.t rfl) <| .n) rfl (.c rfl <| .n) rfl <| u (nkp (.t rfl)) <| st tf4 (.t rfl) rfl (.t rfl) rfl rfl rfl <| .nil _) rfl ?_
  refine .ib ?_
  refine .rg (u (bi (.t rfl) (.i rfl) rfl) <| u (mv (.t rfl)) <| .nil _) rfl ?_
  refine .il ?_
  refine .sq ?_
  refine .rg (u (bc (.t rfl) (.t rfl) rfl rfl) <| .nil _) rfl ?_
  refine .sq ?_
  refine .ct (.t rfl) rfl ?_
  refine .skp ?_
  refine .sq ?_
  refine .bl ?_
  refine .sq ?_
  refine .rg (u (ixb sf148 (.t rfl) (.t rfl) rfl rfl) <| u (ld tf147 (.t rfl) rfl rfl) <| u (asg (.t rfl)) <| .nil _) rfl ?_
  refine be h fun x5 hx5 h => ?_
  refine .rg (u (mv (.t rfl)) <| u (mv (.t rfl)) <| u (mv (.t rfl)) <| u (nkp (.t rfl)) <| u (ld tf4 (.t rfl) rfl rfl) <| cly 28000000 cf100 (AY.ly (fun i => bif Nat.beq i 9000 then 9000 else i) (vp9_truth_y2_c hx5) rfl rfl rfl rfl rfl rfl rfl)  (.c (.t rfl) <| .c (.t rfl) <| .n) rfl (.c rfl <| .n) rfl <| u (nkp (.t rfl)) <| st tf4 (.t rfl) rfl (.t rfl) rfl rfl rfl <| .nil _) rfl ?_
  refine .ib ?_
  refine .rg (u (bi (.t rfl) (.i rfl) rfl) <| u (mv (.t rfl)) <| .nil _) rfl ?_
  refine .il ?_
  refine .sq ?_
  refine .rg (u (bc (.t rfl) (.t rfl) rfl rfl) <| .nil _) rfl ?_
  refine .sq ?_
  refine .ct (.t rfl) rfl ?_
  refine .skp ?_
  refine .sq ?_
  refine .bl ?_
  refine .sq ?_
  refine .rg (u (ixb sf148 (.t rfl) (.t rfl) rfl rfl) <| u (ld tf147 (.t rfl) rfl rfl) <| u (asg (.t rfl)) <| .nil _) rfl ?_
  refine be h fun x6 hx6 h => ?_
  refine .rg (u (mv (.t rfl)) <| u (mv (.t rfl)) <| u (mv (.t rfl)) <| u (nkp (.t rfl)) <| u (ld tf4 (.t rfl) rfl rfl) <| cly 28000000 cf100 (AY.ly (fun i => bif Nat.beq i 9000 then 9000 else i) (vp9_truth_y2_c hx6) rfl rfl rfl rfl rfl rfl rfl)  (.c (.t rfl) <| .c (.t rfl) <| .n) rfl (.c rfl <| .n) rfl <| u (nkp (.t rfl)) <| st tf4 (.t rfl) rfl (.t rfl) rfl rfl rfl <| .nil _) rfl ?_
  refine .ib ?_
  refine .rg (u (bi (.t rfl) (.i rfl) rfl) <| u (mv (.t rfl)) <| .nil _) rfl ?_
  refine .il ?_
  refine .sq ?_
  refine .rg (u (bc (.t rfl) (.t rfl) rfl rfl) <| .nil _) rfl ?_
  refine .sq ?_
  refine .ct (.t rfl) rfl ?_
  refine .skp ?_
  refine .sq ?_
  refine .bl ?_
  refine .sq ?_
  refine .rg (u (ixb sf148 (.t rfl) (.t rfl) rfl rfl) <| u (ld tf147 (.t rfl) rfl rfl) <| u (asg (.t rfl)) <| .nil _) rfl ?_
  refine be h fun x7 hx7 h => ?_
  refine .rg (u (mv (.t rfl)) <| u (mv (.t rfl)) <| u (mv (.t rfl)) <| u (nkp (.t rfl)) <| u (ld tf4 (.t rfl) rfl rfl) <| cly 28000000 cf100 (AY.ly (fun i => bif Nat.beq i 9000 then 9000 else i) (vp9_truth_y2_c hx7) rfl rfl rfl rfl rfl rfl rfl)  (.c (.t rfl) <| .c (.t rfl) <| .n) rfl (.c rfl <| .n) rfl <| u (nkp (.t rfl)) <| st tf4 (.t rfl) rfl (.t rfl) rfl rfl rfl <| .nil _) rfl ?_
  refine .ib ?_
  refine .rg (u (bi (.t rfl) (.i rfl) rfl) <| u (mv (.t rfl)) <| .nil _) rfl ?_
  refine .il ?_
  refine .sq ?_
  refine .rg (u (bc (.t rfl) (.t rfl) rfl rfl) <| .nil _) rfl ?_
  refine .sq ?_
  refine .ct (.t rfl) rfl ?_
  refine .skp ?_
  refine .sq ?_
  refine .bl ?_
  refine .sq ?_
  refine .rg (u (ixb sf148 (.t rfl) (.t rfl) rfl rfl) <| u (ld tf147 (.t rfl) rfl rfl) <| u (asg (.t rfl)) <| .nil _) rfl ?_
  refine be h fun x8 hx8 h => ?_
  refine .rg (u (mv (.t rfl)) <| u (mv (.t rfl)) <| u (mv (.t rfl)) <| u (nkp (.t rfl)) <| u (ld tf4 (.t rfl) rfl rfl) <| cly 28000000 cf100 (AY.ly (fun i => bif Nat.beq i 9000 then 9000 else i) (vp9_truth_y2_c hx8) rfl rfl rfl rfl rfl rfl rfl)  (.c (.t rfl) <| .c (.t rfl) <| .n) rfl (.c rfl <| .n) rfl <| u (nkp (.t rfl)) <| st tf4 (.t rfl) rfl (.t rfl) rfl rfl rfl <| .nil _) rfl ?_
  refine .ib ?_
  refine .rg (u (bi (.t rfl) (.i rfl) rfl) <| u (mv (.t rfl)) <| .nil _) rfl ?_
  refine .il ?_
  refine .sq ?_
  refine .rg (u (bc (.t rfl) (.t rfl) rfl rfl) <| .nil _) rfl ?_
  refine .sq ?_
  refine .cf (.t rfl) rfl ?_
  refine .xt rfl ?_
  refine .sq ?_
  refine .sq ?_
  refine .rg (u (fa ff62_0 (.t rfl)) <| u (ld tf4 (.t rfl) rfl rfl) <| .nil _) rfl ?_
  refine .jq (t := some r) (fun (a : Vp9 × vp9_reader) => ⟨[(0, .ifc 121 (.ptr 9000 0)), (3, .ptr 3 0), (4, .ptr 4 0)], [(3, some (.box [.ro (.bool a.1.hasPic), .ro (.bool a.1.wide), .ro (.int .i64 a.1.pic), .ro (.bool a.1.inter), .ro (.bool a.1.hasLayer), .ro (.int .i64 a.1.tid), .ro (.int .i64 a.1.sid), .ro (.bool a.1.up), .ro (.bool a.1.depends), .ro (.bool a.1.flexible), .ro (.int .i64 a.1.level), .ro (.list 1 (List.map (ei .i64) a.1.refs)), .ro (.bool a.1.begin), .ro (.bool a.1.end_), .ro (.bool a.1.hasScale), .ro (.int .i64 a.1.scale.layers), .ro (.bool a.1.scale.hasSizes), .ro (.list 2 (List.map cells_Size a.1.scale.sizes)), .ro (.bool a.1.scale.hasPics), .ro (.list 3 (List.map cells_Group a.1.scale.pics)), .ro (.bool a.1.notRef)])), (4, some (.box [.ro (.bool false), .ro (.bool false), .ro (.int .i64 0), .ro (.bool false), .ro (.bool false), .ro (.int .i64 0), .ro (.int .i64 0), .ro (.bool false), .ro (.bool false), .ro (.bool false), .ro (.int .i64 0), .ro (.list 1 (List.map (ei .i64) [])), .ro (.bool false), .ro (.bool false), .ro (.bool false), .ro (.int .i64 0), .ro (.bool false), .ro (.list 2 (List.map cells_Size [])), .ro (.bool false), .ro (.list 3 (List.map cells_Group [])), .ro (.bool false)])), (9000, some (.box [.ro (.list 1 (List.map e8 a.2.c.bytes)), .ro (.int .i64 a.2.c.at_), .ro (.int .i64 a.2.c.err)]))]⟩) (fun (a : Vp9 × vp9_reader) => vp9_through_y2_j1 z a.1 a.2) ?_ (fun J1 => ?_)
  · rintro ⟨v9, v10⟩ h
    replace h : vp9_through_y2_j1 z v9 v10 = _ := h
    unfold vp9_through_y2_j1 at h
    refine .sq ?_
    refine .sq ?_
    refine .rg (u (fa ff62_4 (.t rfl)) <| u (ld tf4 (.t rfl) rfl rfl) <| .nil _) rfl ?_
    refine .jq (t := some r) (fun (a : Vp9 × vp9_reader) => ⟨[(0, .ifc 121 (.ptr 9000 0)), (3, .ptr 3 0), (4, .ptr 4 0)], [(3, some (.box [.ro (.bool a.1.hasPic), .ro (.bool a.1.wide), .ro (.int .i64 a.1.pic), .ro (.bool a.1.inter), .ro (.bool a.1.hasLayer), .ro (.int .i64 a.1.tid), .ro (.int .i64 a.1.sid), .ro (.bool a.1.up), .ro (.bool a.1.depends), .ro (.bool a.1.flexible), .ro (.int .i64 a.1.level), .ro (.list 1 (List.map (ei .i64) a.1.refs)), .ro (.bool a.1.begin), .ro (.bool a.1.end_), .ro (.bool a.1.hasScale), .ro (.int .i64 a.1.scale.layers), .ro (.bool a.1.scale.hasSizes), .ro (.list 2 (List.map cells_Size a.1.scale.sizes)), .ro (.bool a.1.scale.hasPics), .ro (.list 3 (List.map cells_Group a.1.scale.pics)), .ro (.bool a.1.notRef)])), (4, some (.box [.ro (.bool false), .ro (.bool false), .ro (.int .i64 0), .ro (.bool false), .ro (.bool false), .ro (.int .i64 0), .ro (.int .i64 0), .ro (.bool false), .ro (.bool false), .ro (.bool false), .ro (.int .i64 0), .ro (.list 1 (List.map (ei .i64) [])), .ro (.bool false), .ro (.bool false), .ro (.bool false), .ro (.int .i64 0), .ro (.bool false), .ro (.list 2 (List.map cells_Size [])), .ro (.bool false), .ro (.list 3 (List.map cells_Group [])), .ro (.bool false)])), (9000, some (.box [.ro (.list 1 (List.map e8 a.2.c.bytes)), .ro (.int .i64 a.2.c.at_), .ro (.int .i64 a.2.c.err)]))]⟩) (fun (a : Vp9 × vp9_reader) => vp9_through_y2_j2 z a.1 a.2) ?_ (fun J2 => ?_)
    · rintro ⟨v11, v12⟩ h
      replace h : vp9_through_y2_j2 z v11 v12 = _ := h
      unfold vp9_through_y2_j2 at h
      refine .sq ?_
      refine .sq ?_
      refine .rg (u (fa ff62_9 (.t rfl)) <| u (ld tf4 (.t rfl) rfl rfl) <| u (mv (.t rfl)) <| gd rfl rfl (fun hB => fa ff62_3 (.t rfl)) <| gd rfl rfl (fun hB => ld tf4 (.m rfl hB) rfl rfl) <| u (pka (.t rfl) (.t rfl)) <| .nil _) rfl ?_
      refine .jq (t := some r) (fun (a : Vp9 × vp9_reader) => ⟨[(0, .ifc 121 (.ptr 9000 0)), (3, .ptr 3 0), (4, .ptr 4 0)], [(3, some (.box [.ro (.bool a.1.hasPic), .ro (.bool a.1.wide), .ro (.int .i64 a.1.pic), .ro (.bool a.1.inter), .ro (.bool a.1.hasLayer), .ro (.int .i64 a.1.tid), .ro (.int .i64 a.1.sid), .ro (.bool a.1.up), .ro (.bool a.1.depends), .ro (.bool a.1.flexible), .ro (.int .i64 a.1.level), .ro (.list 1 (List.map (ei .i64) a.1.refs)), .ro (.bool a.1.begin), .ro (.bool a.1.end_), .ro (.bool a.1.hasScale), .ro (.int .i64 a.1.scale.layers), .ro (.bool a.1.scale.hasSizes), .ro (.list 2 (List.map cells_Size a.1.scale.sizes)), .ro (.bool a.1.scale.hasPics), .ro (.list 3 (List.map cells_Group a.1.scale.pics)), .ro (.bool a.1.notRef)])), (4, some (.box [.ro (.bool false), .ro (.bool false), .ro (.int .i64 0), .ro (.bool false), .ro (.bool false), .ro (.int .i64 0), .ro (.int .i64 0), .ro (.bool false), .ro (.bool false), .ro (.bool false), .ro (.int .i64 0), .ro (.list 1 (List.map (ei .i64) [])), .ro (.bool false), .ro (.bool false), .ro (.bool false), .ro (.int .i64 0), .ro (.bool false), .ro (.list 2 (List.map cells_Size [])), .ro (.bool false), .ro (.list 3 (List.map cells_Group [])), .ro (.bool false)])), (9000, some (.box [.ro (.list 1 (List.map e8 a.2.c.bytes)), .ro (.int .i64 a.2.c.at_), .ro (.int .i64 a.2.c.err)]))]⟩) (fun (a : Vp9 × vp9_reader) => vp9_through_y2_j3 z a.1 a.2) ?_ (fun J3 => ?_)
      · rintro ⟨v13, v14⟩ h
        replace h : vp9_through_y2_j3 z v13 v14 = _ := h
        unfold vp9_through_y2_j3 at h
        refine .sq ?_
        refine .sq ?_
        refine .rg (u (fa ff62_14 (.t rfl)) <| u (ld tf4 (.t rfl) rfl rfl) <| .nil _) rfl ?_
        refine .jq (t := some r) (fun (a : Vp9 × vp9_reader) => ⟨[(0, .ifc 121 (.ptr 9000 0)), (3, .ptr 3 0), (4, .ptr 4 0)], [(3, some (.box [.ro (.bool a.1.hasPic), .ro (.bool a.1.wide), .ro (.int .i64 a.1.pic), .ro (.bool a.1.inter), .ro (.bool a.1.hasLayer), .ro (.int .i64 a.1.tid), .ro (.int .i64 a.1.sid), .ro (.bool a.1.up), .ro (.bool a.1.depends), .ro (.bool a.1.flexible), .ro (.int .i64 a.1.level), .ro (.list 1 (List.map (ei .i64) a.1.refs)), .ro (.bool a.1.begin), .ro (.bool a.1.end_), .ro (.bool a.1.hasScale), .ro (.int .i64 a.1.scale.layers), .ro (.bool a.1.scale.hasSizes), .ro (.list 2 (List.map cells_Size a.1.scale.sizes)), .ro (.bool a.1.scale.hasPics), .ro (.list 3 (List.map cells_Group a.1.scale.pics)), .ro (.bool a.1.notRef)])), (4, some (.box [.ro (.bool false), .ro (.bool false), .ro (.int .i64 0), .ro (.bool false), .ro (.bool false), .ro (.int .i64 0), .ro (.int .i64 0), .ro (.bool false), .ro (.bool false), .ro (.bool false), .ro (.int .i64 0), .ro (.list 1 (List.map (ei .i64) [])), .ro (.bool false), .ro (.bool false), .ro (.bool false), .ro (.int .i64 0), .ro (.bool false), .ro (.list 2 (List.map cells_Size [])), .ro (.bool false), .ro (.list 3 (List.map cells_Group [])), .ro (.bool false)])), (9000, some (.box [.ro (.list 1 (List.map e8 a.2.c.bytes)), .ro (.int .i64 a.2.c.at_), .ro (.int .i64 a.2.c.err)]))]⟩) (fun (a : Vp9 × vp9_reader) => vp9_through_y2_j4 z a.1 a.2) ?_ (fun J4 => ?_)
        · rintro ⟨v15, v16⟩ h
          replace h : vp9_through_y2_j4 z v15 v16 = _ := h
          unfold vp9_through_y2_j4 at h
          refine .sq ?_
          refine .rg (u (ld tf62 (.t rfl) rfl rfl) <| st tf62 (.t rfl) rfl (.t rfl) rfl rfl rfl <| .nil _) rfl ?_
          obtain rfl := Option.some.inj h
          exact .rtx (o := [(9000, some (.box [.ro (.list 1 (List.map e8 v16.c.bytes)), .ro (.int .i64 v16.c.at_), .ro (.int .i64 v16.c.err)]))]) Try.func70 (.c tf62 rfl rfl rfl <| .n) (.c rfl .n) rfl rfl (.c rfl .n) rfl
        refine .bq h (.t rfl) (fun h => ?_) (fun h => ?_)
        · refine be h fun x17 hx17 h => ?_
          refine .rg (u (mv (.t rfl)) <| u (fa ff62_15 (.t rfl)) <| u (ld tf60 (.t rfl) rfl rfl) <| cly 66000000 cf103 (AY.ly (fun i => bif Nat.beq i 9000 then 9000 else i) (vp9_scale_y2_c hx17) rfl rfl rfl rfl rfl rfl rfl)  (.c (.t rfl) <| .c (.t rfl) <| .n) rfl (.c rfl <| .n) rfl <| u (fa ff62_15 (.t rfl)) <| st tf60 (.t rfl) rfl (.t rfl) rfl rfl rfl <| .nil _) rfl ?_
          exact .kq (J4 ({ v13 with scale := x17.1 }, x17.2) h) (.c rfl (.c rfl (.c rfl .n))) (.c rfl (.c rfl (.c rfl .n)))
        · refine .skp ?_
          exact .kq (J4 (v13, v14) h) (.c rfl (.c rfl (.c rfl .n))) (.c rfl (.c rfl (.c rfl .n)))
      refine .bq h (.t rfl) (fun h => ?_) (fun h => ?_)
      · refine be h fun x18 hx18 h => ?_
        refine .rg (u (mv (.t rfl)) <| u (fa ff62_11 (.t rfl)) <| u (ld tf22 (.t rfl) rfl rfl) <| cly 59000000 cf102 (AY.ly (fun i => bif Nat.beq i 9000 then 9000 else i) (vp9_references_y2_c hx18) rfl rfl rfl rfl rfl rfl rfl)  (.c (.t rfl) <| .c (.t rfl) <| .n) rfl (.c rfl <| .n) rfl <| u (fa ff62_11 (.t rfl)) <| st tf22 (.t rfl) rfl (.t rfl) rfl rfl rfl <| .nil _) rfl ?_
        refine .fz 59008000 rfl ?_
        exact .kq (J3 ({ v11 with refs := x18.1 }, x18.2) h) (.c rfl (.c rfl (.c rfl .n))) (.c rfl (.c rfl (.c rfl .n)))
      · refine .skp ?_
        exact .kq (J3 (v11, v12) h) (.c rfl (.c rfl (.c rfl .n))) (.c rfl (.c rfl (.c rfl .n)))
    refine .bq h (.t rfl) (fun h => ?_) (fun h => ?_)
    · refine be h fun x19 hx19 h => ?_
      refine .rg (u (mv (.t rfl)) <| cly 49000000 cf101 (AY.ly (fun i => bif Nat.beq i 9001 then 3 else bif Nat.beq i 9000 then 9000 else i) (vp9_layers_y2_c hx19) rfl rfl rfl rfl rfl rfl rfl)  (.c (.t rfl) <| .c (.t rfl) <| .n) rfl (.c rfl <| .c rfl <| .n) rfl <| .nil _) rfl ?_
      exact .kq (J2 (x19.2, x19.1) h) (.c rfl (.c rfl (.c rfl .n))) (.c rfl (.c rfl (.c rfl .n)))
    · refine .skp ?_
      exact .kq (J2 (v9, v10) h) (.c rfl (.c rfl (.c rfl .n))) (.c rfl (.c rfl (.c rfl .n)))
  refine .bq h (.t rfl) (fun h => ?_) (fun h => ?_)
  · refine .sq ?_
    refine be h fun x20 hx20 h => ?_
    refine .rg (u (mv (.t rfl)) <| u (fa ff62_1 (.t rfl)) <| u (ld tf4 (.t rfl) rfl rfl) <| cly 36000000 cf100 (AY.ly (fun i => bif Nat.beq i 9000 then 9000 else i) (vp9_truth_y2_c hx20) rfl rfl rfl rfl rfl rfl rfl)  (.c (.t rfl) <| .c (.t rfl) <| .n) rfl (.c rfl <| .n) rfl <| u (fa ff62_1 (.t rfl)) <| st tf4 (.t rfl) rfl (.t rfl) rfl rfl rfl <| .nil _) rfl ?_
    refine .sq ?_
    refine .rg (u (asg (.i rfl)) <| .nil _) rfl ?_
    refine .sq ?_
    refine .sq ?_
    refine .rg (u (fa ff62_1 (.t rfl)) <| u (ld tf4 (.t rfl) rfl rfl) <| .nil _) rfl ?_
    refine .jq (t := some r) (fun (a : Int) => ⟨[(0, .ifc 121 (.ptr 9000 0)), (3, .ptr 3 0), (4, .ptr 4 0), (7, .ro (.int .i64 a))], [(3, some (.box [.ro (.bool x1.1), .ro (.bool x20.1), .ro (.int .i64 p_d.pic), .ro (.bool x2.1), .ro (.bool x3.1), .ro (.int .i64 p_d.tid), .ro (.int .i64 p_d.sid), .ro (.bool p_d.up), .ro (.bool p_d.depends), .ro (.bool x4.1), .ro (.int .i64 p_d.level), .ro (.list 1 (List.map (ei .i64) p_d.refs)), .ro (.bool x5.1), .ro (.bool x6.1), .ro (.bool x7.1), .ro (.int .i64 p_d.scale.layers), .ro (.bool p_d.scale.hasSizes), .ro (.list 2 (List.map cells_Size p_d.scale.sizes)), .ro (.bool p_d.scale.hasPics), .ro (.list 3 (List.map cells_Group p_d.scale.pics)), .ro (.bool x8.1)])), (4, some (.box [.ro (.bool false), .ro (.bool false), .ro (.int .i64 0), .ro (.bool false), .ro (.bool false), .ro (.int .i64 0), .ro (.int .i64 0), .ro (.bool false), .ro (.bool false), .ro (.bool false), .ro (.int .i64 0), .ro (.list 1 (List.map (ei .i64) [])), .ro (.bool false), .ro (.bool false), .ro (.bool false), .ro (.int .i64 0), .ro (.bool false), .ro (.list 2 (List.map cells_Size [])), .ro (.bool false), .ro (.list 3 (List.map cells_Group [])), .ro (.bool false)])), (9000, some (.box [.ro (.list 1 (List.map e8 x20.2.c.bytes)), .ro (.int .i64 x20.2.c.at_), .ro (.int .i64 x20.2.c.err)]))]⟩) (fun (a : Int) => vp9_through_y2_j5 z p_d x1 x2 x3 x4 x5 x6 x7 x8 x20 a) ?_ (fun J5 => ?_)
    · intro v21 h
      replace h : vp9_through_y2_j5 z p_d x1 x2 x3 x4 x5 x6 x7 x8 x20 v21 = _ := h
      unfold vp9_through_y2_j5 at h
      refine be h fun x22 hx22 h => ?_
      refine .rg (u (mv (.t rfl)) <| u (fa ff62_2 (.t rfl)) <| u (ld tf3 (.t rfl) rfl rfl) <| u (mv (.t rfl)) <| ciy 44000000 cm121_144 (AY.ly (fun i => bif Nat.beq i 9000 then 9000 else i) (vp9_reader_num_y1_c hx22) rfl rfl rfl rfl rfl rfl rfl) (.t rfl) (.c (.t rfl) <| .c (.t rfl) <| .n) rfl (.c rfl <| .n) rfl <| u (fa ff62_2 (.t rfl)) <| st tf3 (.t rfl) rfl (.t rfl) rfl rfl rfl <| .nil _) rfl ?_
      exact .kq (J1 ((Vp9.mk x1.1 x20.1 x22.1 x2.1 x3.1 p_d.tid p_d.sid p_d.up p_d.depends x4.1 p_d.level p_d.refs x5.1 x6.1 x7.1 p_d.scale x8.1), x22.2) h) (.c rfl (.c rfl (.c rfl .n))) (.c rfl (.c rfl (.c rfl .n)))
    refine .bq h (.t rfl) (fun h => ?_) (fun h => ?_)
    · refine .rg (u (asg (.i rfl)) <| .nil _) rfl ?_
      exact .kq (J5 15 h) (.c rfl (.c rfl (.c rfl (.c rfl .n)))) (.c rfl (.c rfl (.c rfl .n)))
    · refine .skp ?_
      exact .kq (J5 7 h) (.c rfl (.c rfl (.c rfl (.c rfl .n)))) (.c rfl (.c rfl (.c rfl .n)))
  · refine .skp ?_
    exact .kq (J1 ({ p_d with hasPic := x1.1, inter := x2.1, hasLayer := x3.1, flexible := x4.1, begin := x5.1, end_ := x6.1, hasScale := x7.1, notRef := x8.1 }, x8.2) h) (.c rfl (.c rfl (.c rfl .n))) (.c rfl (.c rfl (.c rfl .n)))

theorem vp9_Read_c {z : Option Nat} {b : List Int} {r : Vp9 × Int × Int} (h : vp9_Read z b = some r) :
    AC Try.prog 32 [.ro (.list 1 (List.map e8 b))] (.ro (.tup [enc_Vp9 r.1, .int .i64 r.2.1, .int .i64 r.2.2])) [] := by
  refine AC.of Try.func32 rfl rfl fun w M0 hM => ?_
  unfold vp9_Read at h
  refine .sq ?_
  refine .rg (al 2 zf62 rfl <| u (asg (.i rfl)) <| u (asg (.i rfl)) <| .nil _) rfl ?_
  refine .sq ?_
  refine .rg (u (mv (.t rfl)) <| cl [] cf26 (bits_Start_c b) (.c (.t rfl) <| .n) (.inl rfl) <| u (bd bf123 zf123 (.c rfl (.t rfl) rfl rfl rfl <| .n) rfl) <| bx 10 (.t rfl) rfl rfl <| u (asg (.t rfl)) <| .nil _) rfl ?_
  refine .sq ?_
  refine be h fun x1 hx1 h => ?_
  refine .rg (u (mv (.t rfl)) <| u (mkx pc121 (.t rfl)) <| u (bd bf62 zf62 (.n) rfl) <| cly 15000000 cf70 (AY.ly (fun i => bif Nat.beq i 9000 then 10 else i) (vp9_through_y2_c hx1) rfl rfl rfl rfl rfl rfl rfl)  (.c (.t rfl) <| .c (.t rfl) <| .n) rfl (.c rfl <| .n) rfl <| al 6 zf62 rfl <| st tf62 (.t rfl) rfl (.t rfl) rfl rfl rfl <| .nil _) rfl ?_
  refine .sq ?_
  refine .sq ?_
  refine .rg (u (mv (.t rfl)) <| u (nkp (.t rfl)) <| u (fa ff123_0 (.t rfl)) <| u (fa ff32_2 (.t rfl)) <| u (ld tf30 (.t rfl) rfl rfl) <| u (bc (.t rfl) (.i rfl) rfl rfl) <| .nil _) rfl ?_
  refine .bq h (.t rfl) (fun h => ?_) (fun h => ?_)
  · refine .sq ?_
    refine .rd mixed (u (bd bf62 zf62 (.n) rfl) <| u (mv (.t rfl)) <| u (nkp (.t rfl)) <| u (fa ff123_0 (.t rfl)) <| u (fa ff32_2 (.t rfl)) <| u (ld tf30 (.t rfl) rfl rfl) <| st tf62 (.t rfl) rfl (.t rfl) rfl rfl rfl <| u (asg (.i rfl)) <| u (asg (.t rfl)) <| .nil _) (by kernel_rfl) rfl ?_
    obtain rfl := Option.some.inj h
    exact .rt Try.func32 (.c tf62 rfl rfl rfl <| .t rfl <| .t rfl <| .n) .n rfl rfl
  · refine .skp ?_
    refine .sq ?_
    refine .rd mixed (u (ld tf62 (.t rfl) rfl rfl) <| u (mv (.t rfl)) <| u (nkp (.t rfl)) <| u (fa ff123_0 (.t rfl)) <| u (fa ff32_1 (.t rfl)) <| u (ld tf3 (.t rfl) rfl rfl) <| u (di (.t rfl) (.i rfl) rfl (by decide)) <| st tf62 (.t rfl) rfl (.t rfl) rfl rfl rfl <| u (asg (.t rfl)) <| u (asg (.i rfl)) <| .nil _) (by kernel_rfl) rfl ?_
    obtain rfl := Option.some.inj h
    exact .rt Try.func32 (.c tf62 rfl rfl rfl <| .t rfl <| .t rfl <| .n) .n rfl rfl

theorem vp9_Set_c {z : Option Nat} {b : List Int} {pic : Int} {level : Int} {r : List Int × Int} (h : vp9_Set z b pic level = some r) :
    AC Try.prog 37 [.ro (.list 1 (List.map e8 b)), .ro (.int .i64 pic), .ro (.int .i64 level)] (.tup [.own 0, .ro (.int .i64 r.2)]) [(0, .arr 5 1 (List.map e8 r.1))] := by
  refine AC.of Try.func37 rfl rfl fun w M0 hM => ?_
  unfold vp9_Set at h
  refine .sq ?_
  refine .rg (anm e8 6 5 1 rfl rfl <| u (asg (.i rfl)) <| .nil _) rfl ?_
  refine .sq ?_
  refine be h fun x1 hx1 h => ?_
  refine .rg (u (mv (.t rfl)) <| cl [] cf32 (vp9_Read_c hx1) (.c (.t rfl) <| .n) (.inl rfl) <| u (mv (.t rfl)) <| u (ex (.t rfl) rfl rfl) <| u (ex (.t rfl) rfl rfl) <| u (ex (.t rfl) rfl rfl) <| al 8 zf62 rfl <| st tf62 (.t rfl) rfl (.t rfl) rfl rfl rfl <| u (asg (.t rfl)) <| u (asg (.t rfl)) <| .nil _) rfl ?_
  refine .sq ?_
  refine .sq ?_
  refine .rg (u (mv (.t rfl)) <| u (bc (.t rfl) (.i rfl) rfl rfl) <| .nil _) rfl ?_
  refine .bq h (.t rfl) (fun h => ?_) (fun h => ?_)
  · refine .sq ?_
    refine .rg (u (mv (.t rfl)) <| anm e8 100006 5 1 rfl rfl <| u (asg (.t rfl)) <| .nil _) rfl ?_
    obtain rfl := Option.some.inj h
    refine .ks (l := [(6, .own 0), (7, .ro (.int .i64 x1.2.2))]) (o := [(0, some (.arr 5 1 (List.map e8 [])))]) (fun i => bif Nat.beq i 0 then 100006 else i) ?_ (.c rfl (.c rfl .n)) (.c rfl .n) rfl
    exact .rt Try.func37 (.t rfl <| .t rfl <| .n) (.c rfl .n) rfl rfl
  · refine .skp ?_
    refine .sq ?_
    refine .rg (u (fa ff62_0 (.t rfl)) <| u (ld tf4 (.t rfl) rfl rfl) <| u (mv (.t rfl)) <| gd rfl rfl (fun hB => mv (.t rfl)) <| gd rfl rfl (fun hB => bc (.m rfl hB) (.i rfl) rfl rfl) <| u (pka (.t rfl) (.t rfl)) <| u (fa ff62_4 (.t rfl)) <| u (ld tf4 (.t rfl) rfl rfl) <| u (mv (.t rfl)) <| gd rfl rfl (fun hB => fa ff62_9 (.t rfl)) <| gd rfl rfl (fun hB => ld tf4 (.m rfl hB) rfl rfl) <| gd rfl rfl (fun hB => no (.m rfl hB)) <| u (pka (.t rfl) (.t rfl)) <| u (mv (.t rfl)) <| gd rfl rfl (fun hB => mv (.t rfl)) <| gd rfl rfl (fun hB => bc (.m rfl hB) (.i rfl) rfl rfl) <| u (pka (.t rfl) (.t rfl)) <| u (asg (.t rfl)) <| u (asg (.t rfl)) <| .nil _) rfl ?_
    refine .sq ?_
    refine .sq ?_
    refine .rg (u (mv (.t rfl)) <| u (mv (.t rfl)) <| gd rfl rfl (fun hB => mv (.t rfl)) <| gd rfl rfl (fun hB => ld tf62 (.t rfl) rfl rfl) <| cg rfl rfl cf80 (fun hB => (vp9_most_c x1.1)) (fun hB => .c (.m rfl hB) <| .n) (.inl rfl) <| cg rfl rfl cf74 (fun hB => (vp9_in_c pic 0 (vp9_most x1.1))) (fun hB => .c (.m rfl hB) <| .c (.i rfl) <| .c (.m rfl hB) <| .n) (.inl rfl) <| gd rfl rfl (fun hB => no (.m rfl hB)) <| u (pka (.t rfl) (.t rfl)) <| u (mv (.t rfl)) <| gd rfl rfl (fun hB => mv (.t rfl)) <| gd rfl rfl (fun hB => mv (.m rfl hB)) <| gm rfl rfl (fun hB => mv (.t rfl)) <| cgm rfl rfl cf74 (fun hB => (vp9_in_c level 0 255)) (fun hB => .c (.m rfl hB) <| .c (.i rfl) <| .c (.i rfl) <| .n) (.inl rfl) <| gm rfl rfl (fun hB => no (.m rfl hB)) <| gd rfl rfl (fun hB => pkam (.m rfl hB) (.t rfl) hB) <| u (pko (.t rfl) (.t rfl)) <| .nil _) rfl ?_
    refine .bq h (.t rfl) (fun h => ?_) (fun h => ?_)
    · refine .sq ?_
      refine .rg (anm e8 100006 5 1 rfl rfl <| u (asg (.i rfl)) <| .nil _) rfl ?_
      obtain rfl := Option.some.inj h
      refine .ks (l := [(6, .own 0), (7, .ro (.int .i64 6))]) (o := [(0, some (.arr 5 1 (List.map e8 [])))]) (fun i => bif Nat.beq i 0 then 100006 else i) ?_ (.c rfl (.c rfl .n)) (.c rfl .n) rfl
      exact .rt Try.func37 (.t rfl <| .t rfl <| .n) (.c rfl .n) rfl rfl
    · refine .skp ?_
      refine .sq ?_
      refine be h fun x2 hx2 h => ?_
      refine .rg (u (mv (.t rfl)) <| cnl 58 cf64 (slices_Clone_c hx2) (.c (.t rfl) <| .n) rfl <| u (asg (.t rfl)) <| .nil _) rfl ?_
      refine .sq ?_
      refine .rg (u (asg (.i rfl)) <| .nil _) rfl ?_
      refine .sq ?_
      refine .sq ?_
      refine .rg (u (fa ff62_0 (.t rfl)) <| u (ld tf4 (.t rfl) rfl rfl) <| .nil _) rfl ?_
      refine .jq (t := some r) (fun (a : List Int × Int) => ⟨[(2, .ro (.int .i64 level)), (12, .ro (.bool ((x1.1.hasLayer && (!x1.1.flexible)) && (cm .neq level (-1))))), (13, .own 13), (14, .ro (.int .i64 a.2))], [(13, some (.arr 5 1 (List.map e8 a.1)))]⟩) (fun (a : List Int × Int) => vp9_Set_j1 z level x1 a.1 a.2) ?_ (fun J1 => ?_)
      · rintro ⟨v3, v4⟩ h
        replace h : vp9_Set_j1 z level x1 v3 v4 = _ := h
        unfold vp9_Set_j1 at h
        refine .sq ?_
        refine .sq ?_
        refine .rg (u (mv (.t rfl)) <| .nil _) rfl ?_
        refine .jq (t := some r) (fun (a : List Int) => ⟨[(13, .own 13)], [(13, some (.arr 5 1 (List.map e8 a)))]⟩) (fun (a : List Int) => vp9_Set_j2 z a) ?_ (fun J2 => ?_)
        · intro v5 h
          replace h : vp9_Set_j2 z v5 = _ := h
          unfold vp9_Set_j2 at h
          refine .sq ?_
          refine .rg (u (mv (.t rfl)) <| u (asg (.t rfl)) <| u (asg (.i rfl)) <| .nil _) rfl ?_
          obtain rfl := Option.some.inj h
          refine .ks (l := [(6, .own 0), (7, .ro (.int .i64 0))]) (o := [(0, some (.arr 5 1 (List.map e8 v5)))]) (fun i => bif Nat.beq i 0 then 13 else i) ?_ (.c rfl (.c rfl .n)) (.c rfl .n) rfl
          exact .rt Try.func37 (.t rfl <| .t rfl <| .n) (.c rfl .n) rfl rfl
        refine .bq h (.t rfl) (fun h => ?_) (fun h => ?_)
        · refine be h fun x6 hx6 h => ?_
          refine .rg (u (mv (.t rfl)) <| u (mv (.t rfl)) <| u (bi (.t rfl) (.i rfl) rfl) <| u (mv (.t rfl)) <| u (cv cv3_5 (.t rfl)) <| u (io sf27 (.t rfl) rfl (.t rfl) (ix_map e8 hx6)) <| se (q := (IntKind.u8.wrap level)) tf5 (.t rfl) rfl (.t rfl) rfl rfl rfl (ixn hx6) <| .nil _) rfl ?_
          exact .kq (J2 (List.set v3 ((ar .add .i64 v4 1) : Int).toNat (IntKind.u8.wrap level)) h) (.c rfl .n) (.c rfl .n)
        · refine .skp ?_
          exact .kq (J2 v3 h) (.c rfl .n) (.c rfl .n)
      refine .bq h (.t rfl) (fun h => ?_) (fun h => ?_)
      · refine .sq ?_
        refine .sq ?_
        refine .rg (u (fa ff62_1 (.t rfl)) <| u (ld tf4 (.t rfl) rfl rfl) <| .nil _) rfl ?_
        refine .jq (t := some r) (fun (a : Int) => ⟨[(1, .ro (.int .i64 pic)), (2, .ro (.int .i64 level)), (8, .ptr 8 0), (11, .ro (.bool (x1.1.hasPic && (cm .neq pic (-1))))), (12, .ro (.bool ((x1.1.hasLayer && (!x1.1.flexible)) && (cm .neq level (-1))))), (13, .own 58), (14, .ro (.int .i64 a))], [(8, some (.box [.ro (.bool x1.1.hasPic), .ro (.bool x1.1.wide), .ro (.int .i64 x1.1.pic), .ro (.bool x1.1.inter), .ro (.bool x1.1.hasLayer), .ro (.int .i64 x1.1.tid), .ro (.int .i64 x1.1.sid), .ro (.bool x1.1.up), .ro (.bool x1.1.depends), .ro (.bool x1.1.flexible), .ro (.int .i64 x1.1.level), .ro (.list 1 (List.map (ei .i64) x1.1.refs)), .ro (.bool x1.1.begin), .ro (.bool x1.1.end_), .ro (.bool x1.1.hasScale), .ro (.int .i64 x1.1.scale.layers), .ro (.bool x1.1.scale.hasSizes), .ro (.list 2 (List.map cells_Size x1.1.scale.sizes)), .ro (.bool x1.1.scale.hasPics), .ro (.list 3 (List.map cells_Group x1.1.scale.pics)), .ro (.bool x1.1.notRef)])), (58, some (.arr 5 1 (List.map e8 x2)))]⟩) (fun (a : Int) => vp9_Set_j3 z pic level x1 x2 a) ?_ (fun J3 => ?_)
        · intro v7 h
          replace h : vp9_Set_j3 z pic level x1 x2 v7 = _ := h
          unfold vp9_Set_j3 at h
          refine .sq ?_
          refine .sq ?_
          refine .rg (u (mv (.t rfl)) <| u (mv (.t rfl)) <| gd rfl rfl (fun hB => fa ff62_1 (.t rfl)) <| gd rfl rfl (fun hB => ld tf4 (.m rfl hB) rfl rfl) <| u (pka (.t rfl) (.t rfl)) <| .nil _) rfl ?_
          refine .jq (t := some r) (fun (a : List Int) => ⟨[(1, .ro (.int .i64 pic)), (2, .ro (.int .i64 level)), (11, .ro (.bool (x1.1.hasPic && (cm .neq pic (-1))))), (12, .ro (.bool ((x1.1.hasLayer && (!x1.1.flexible)) && (cm .neq level (-1))))), (13, .own 13), (14, .ro (.int .i64 v7))], [(13, some (.arr 5 1 (List.map e8 a)))]⟩) (fun (a : List Int) => vp9_Set_j4 z pic level x1 v7 a) ?_ (fun J4 => ?_)
          · intro v8 h
            replace h : vp9_Set_j4 z pic level x1 v7 v8 = _ := h
            unfold vp9_Set_j4 at h
            refine .sq ?_
            refine .sq ?_
            refine .rg (u (mv (.t rfl)) <| .nil _) rfl ?_
            refine .jq (t := some r) (fun (a : List Int) => ⟨[(2, .ro (.int .i64 level)), (12, .ro (.bool ((x1.1.hasLayer && (!x1.1.flexible)) && (cm .neq level (-1))))), (13, .own 13), (14, .ro (.int .i64 v7))], [(13, some (.arr 5 1 (List.map e8 a)))]⟩) (fun (a : List Int) => vp9_Set_j5 z level x1 v7 a) ?_ (fun J5 => ?_)
            · intro v9 h
              replace h : vp9_Set_j5 z level x1 v7 v9 = _ := h
              unfold vp9_Set_j5 at h
              refine .rg (u (mv (.t rfl)) <| u (bi (.t rfl) (.i rfl) rfl) <| u (asg (.t rfl)) <| .nil _) rfl ?_
              exact .kq (J1 (v9, (ar .add .i64 v7 1)) h) (.c rfl (.c rfl (.c rfl (.c rfl .n)))) (.c rfl .n)
            refine .bq h (.t rfl) (fun h => ?_) (fun h => ?_)
            · refine be h fun x10 hx10 h => ?_
              refine .rg (u (mv (.t rfl)) <| u (mv (.t rfl)) <| u (mv (.t rfl)) <| u (cv cv3_5 (.t rfl)) <| u (io sf27 (.t rfl) rfl (.t rfl) (ix_map e8 hx10)) <| se (q := (IntKind.u8.wrap pic)) tf5 (.t rfl) rfl (.t rfl) rfl rfl rfl (ixn hx10) <| .nil _) rfl ?_
              exact .kq (J5 (List.set v8 (v7 : Int).toNat (IntKind.u8.wrap pic)) h) (.c rfl (.c rfl (.c rfl (.c rfl .n)))) (.c rfl .n)
            · refine .skp ?_
              exact .kq (J5 v8 h) (.c rfl (.c rfl (.c rfl (.c rfl .n)))) (.c rfl .n)
          refine .bq h (.t rfl) (fun h => ?_) (fun h => ?_)
          · refine be h fun x11 hx11 h => ?_
            refine .rg (u (mv (.t rfl)) <| u (mv (.t rfl)) <| u (bi (.t rfl) (.i rfl) rfl) <| u (mv (.t rfl)) <| u (sh (.t rfl) (.i rfl) rfl (by decide)) <| u (bi (.i rfl) (.t rfl) rfl) <| u (cv cv3_5 (.t rfl)) <| u (io sf27 (.t rfl) rfl (.t rfl) (ix_map e8 hx11)) <| se (q := (IntKind.u8.wrap (ar .or .i64 128 (sf .shr .i64 pic 8)))) tf5 (.t rfl) rfl (.t rfl) rfl rfl rfl (ixn hx11) <| .nil _) rfl ?_
            exact .ks (fun i => bif Nat.beq i 13 then 58 else i) (J4 (List.set x2 ((ar .sub .i64 v7 1) : Int).toNat (IntKind.u8.wrap (ar .or .i64 128 (sf .shr .i64 pic 8)))) h) (.c rfl (.c rfl (.c rfl (.c rfl (.c rfl (.c rfl .n)))))) (.c rfl .n) rfl
          · refine .skp ?_
            exact .ks (fun i => bif Nat.beq i 13 then 58 else i) (J4 x2 h) (.c rfl (.c rfl (.c rfl (.c rfl (.c rfl (.c rfl .n)))))) (.c rfl .n) rfl
        refine .bq h (.t rfl) (fun h => ?_) (fun h => ?_)
        · refine .rg (u (mv (.t rfl)) <| u (bi (.t rfl) (.i rfl) rfl) <| u (asg (.t rfl)) <| .nil _) rfl ?_
          exact .kq (J3 (ar .add .i64 1 1) h) (.c rfl (.c rfl (.c rfl (.c rfl (.c rfl (.c rfl (.c rfl .n))))))) (.c rfl (.c rfl .n))
        · refine .skp ?_
          exact .kq (J3 1 h) (.c rfl (.c rfl (.c rfl (.c rfl (.c rfl (.c rfl (.c rfl .n))))))) (.c rfl (.c rfl .n))
      · refine .skp ?_
        exact .ks (fun i => bif Nat.beq i 13 then 58 else i) (J1 (x2, 1) h) (.c rfl (.c rfl (.c rfl (.c rfl .n)))) (.c rfl .n) rfl

theorem vp9_Set_r {z : Option Nat} {b : List Int} {pic : Int} {level : Int} {r : List Int × Int} (h : vp9_Set z b pic level = some r) :
    AC Try.prog 37 [.ro (.list 1 (List.map e8 b)), .ro (.int .i64 pic), .ro (.int .i64 level)] (.ro (.tup [.list 1 (List.map e8 r.1), .int .i64 r.2])) [] := AC.fz (vp9_Set_c h) rfl

theorem ref24_Ints_c {z : Option Nat} {p_a : List Int} {b : List Int} {r : Bool} (h : ref24_Ints z p_a b = some r) :
    AC Try.prog 58 [.ro (.list 1 (List.map (ei .i64) p_a)), .ro (.list 1 (List.map (ei .i64) b))] (.ro (.bool r)) [] := by
  refine AC.of Try.func58 rfl rfl fun w M0 hM => ?_
  unfold ref24_Ints at h
  refine .sq ?_
  refine .rg (u (asg .b) <| .nil _) rfl ?_
  refine .sq ?_
  refine .sq ?_
  refine .rg (u (mv (.t rfl)) <| u (lnm sf22 (.t rfl)) <| u (mv (.t rfl)) <| u (lnm sf22 (.t rfl)) <| u (bc (.t rfl) (.t rfl) rfl rfl) <| .nil _) rfl ?_
  refine .bq h (.t rfl) (fun h => ?_) (fun h => ?_)
  · refine .sq ?_
    refine .rg (u (asg .b) <| .nil _) rfl ?_
    obtain rfl := Option.some.inj h
    exact .rt Try.func58 (.t rfl <| .n) .n rfl rfl
  · refine .skp ?_
    refine .sq ?_
    refine .sq ?_
    refine .rg (u (asg (.i rfl)) <| .nil _) rfl ?_
    refine .bl ?_
    unfold ref24_Ints_l1 at h
    refine .kq (.lo (fun (s : Int) => ⟨[(0, .ro (.list 1 (List.map (ei .i64) p_a))), (1, .ro (.list 1 (List.map (ei .i64) b))), (5, .ro (.int .i64 s))], []⟩) h ?_) (.c rfl (.c rfl (.c rfl .n))) .n
    intro v1 u1 h ih1 hx1
    replace h : ref24_Ints_s1 z p_a b v1 = _ := h
    unfold ref24_Ints_s1 at h
    refine .sq ?_
    refine .sq ?_
    refine .rg (u (mv (.t rfl)) <| u (mv (.t rfl)) <| u (lnm sf22 (.t rfl)) <| u (bc (.t rfl) (.t rfl) rfl rfl) <| .nil _) rfl ?_
    refine .bq h (.t rfl) (fun h => ?_) (fun h => ?_)
    · refine .skp ?_
      refine .sq ?_
      refine .bl ?_
      refine .sq ?_
      refine be h fun x2 hx2 h => ?_
      refine be h fun x3 hx3 h => ?_
      refine .rd mixed (u (mv (.t rfl)) <| u (mv (.t rfl)) <| u (ia sf22 (.t rfl) (.t rfl) (ix_map (ei .i64) hx2)) <| u (lr tf3 (.t rfl) rfl) <| u (mv (.t rfl)) <| u (mv (.t rfl)) <| u (ia sf22 (.t rfl) (.t rfl) (ix_map (ei .i64) hx3)) <| u (lr tf3 (.t rfl) rfl) <| u (bc (.t rfl) (.t rfl) rfl rfl) <| .nil _) (by kernel_rfl) rfl ?_
      refine .bq h (.t rfl) (fun h => ?_) (fun h => ?_)
      · refine .sq ?_
        refine .rg (u (asg .b) <| .nil _) rfl ?_
        replace h := mpR h hx1
        obtain rfl := Option.some.inj h
        exact .rt Try.func58 (.t rfl <| .n) .n rfl rfl
      · refine .skp ?_
        refine .ib ?_
        refine .rg (u (mv (.t rfl)) <| u (bi (.t rfl) (.i rfl) rfl) <| u (asg (.t rfl)) <| .nil _) rfl ?_
        exact .kq (.il (ih1 (ar .add .i64 v1 1) (nxi h))) (.c rfl (.c rfl (.c rfl .n))) .n
    · refine .xt rfl ?_
      replace h := mpR h hx1
      refine .sq ?_
      refine .rg (u (asg .b) <| .nil _) rfl ?_
      obtain rfl := Option.some.inj h
      exact .rt Try.func58 (.t rfl <| .n) .n rfl rfl

theorem ref24_SameScale_c {z : Option Nat} {p_a : Scale} {b : Scale} {r : Bool} (h : ref24_SameScale z p_a b = some r) :
    AC Try.prog 69 [.ro (enc_Scale p_a), .ro (enc_Scale b)] (.ro (.bool r)) [] := by
  refine AC.of Try.func69 rfl rfl fun w M0 hM => ?_
  unfold ref24_SameScale at h
  refine .sq ?_
  refine .rg (bx 2 (.t rfl) rfl rfl <| bx 3 (.t rfl) rfl rfl <| u (asg .b) <| .nil _) rfl ?_
  refine .sq ?_
  refine .sq ?_
  refine .rg (u (fa ff60_0 (.t rfl)) <| u (ld tf3 (.t rfl) rfl rfl) <| u (fa ff60_0 (.t rfl)) <| u (ld tf3 (.t rfl) rfl rfl) <| u (bc (.t rfl) (.t rfl) rfl rfl) <| u (mv (.t rfl)) <| gd rfl rfl (fun hB => fa ff60_1 (.t rfl)) <| gd rfl rfl (fun hB => ld tf4 (.m rfl hB) rfl rfl) <| gd rfl rfl (fun hB => fa ff60_1 (.t rfl)) <| gd rfl rfl (fun hB => ld tf4 (.m rfl hB) rfl rfl) <| gd rfl rfl (fun hB => be2 ub4 (.m rfl hB) (.m rfl hB) rfl) <| u (pko (.t rfl) (.t rfl)) <| u (mv (.t rfl)) <| gd rfl rfl (fun hB => fa ff60_3 (.t rfl)) <| gd rfl rfl (fun hB => ld tf4 (.m rfl hB) rfl rfl) <| gd rfl rfl (fun hB => fa ff60_3 (.t rfl)) <| gd rfl rfl (fun hB => ld tf4 (.m rfl hB) rfl rfl) <| gd rfl rfl (fun hB => be2 ub4 (.m rfl hB) (.m rfl hB) rfl) <| u (pko (.t rfl) (.t rfl)) <| u (mv (.t rfl)) <| gd rfl rfl (fun hB => fa ff60_2 (.t rfl)) <| gd rfl rfl (fun hB => ld tf24 (.m rfl hB) rfl rfl) <| gd rfl rfl (fun hB => lnm sf24 (.m rfl hB)) <| gd rfl rfl (fun hB => fa ff60_2 (.t rfl)) <| gd rfl rfl (fun hB => ld tf24 (.m rfl hB) rfl rfl) <| gd rfl rfl (fun hB => lnm sf24 (.m rfl hB)) <| gd rfl rfl (fun hB => bc (.m rfl hB) (.m rfl hB) rfl rfl) <| u (pko (.t rfl) (.t rfl)) <| u (mv (.t rfl)) <| gd rfl rfl (fun hB => fa ff60_4 (.t rfl)) <| gd rfl rfl (fun hB => ld tf58 (.m rfl hB) rfl rfl) <| gd rfl rfl (fun hB => lnm sf58 (.m rfl hB)) <| gd rfl rfl (fun hB => fa ff60_4 (.t rfl)) <| gd rfl rfl (fun hB => ld tf58 (.m rfl hB) rfl rfl) <| gd rfl rfl (fun hB => lnm sf58 (.m rfl hB)) <| gd rfl rfl (fun hB => bc (.m rfl hB) (.m rfl hB) rfl rfl) <| u (pko (.t rfl) (.t rfl)) <| .nil _) rfl ?_
  refine .bq h (.t rfl) (fun h => ?_) (fun h => ?_)
  · refine .sq ?_
    refine .rg (u (asg .b) <| .nil _) rfl ?_
    obtain rfl := Option.some.inj h
    exact .rt Try.func69 (.t rfl <| .n) .n rfl rfl
  · refine .skp ?_
    refine .sq ?_
    refine .sq ?_
    refine .rg (u (asg (.i rfl)) <| .nil _) rfl ?_
    refine .bl ?_
    unfold ref24_SameScale_l1 at h
    refine .kq (.lo (fun (s : Int) => ⟨[(2, .ptr 2 0), (3, .ptr 3 0), (5, .ro (.int .i64 s))], [(2, some (.box [.ro (.int .i64 p_a.layers), .ro (.bool p_a.hasSizes), .ro (.list 2 (List.map cells_Size p_a.sizes)), .ro (.bool p_a.hasPics), .ro (.list 3 (List.map cells_Group p_a.pics))])), (3, some (.box [.ro (.int .i64 b.layers), .ro (.bool b.hasSizes), .ro (.list 2 (List.map cells_Size b.sizes)), .ro (.bool b.hasPics), .ro (.list 3 (List.map cells_Group b.pics))]))]⟩) h ?_) (.c rfl (.c rfl (.c rfl .n))) (.c rfl (.c rfl .n))
    intro v1 u1 h ih1 hx1
    replace h : ref24_SameScale_s1 z p_a b v1 = _ := h
    unfold ref24_SameScale_s1 at h
    refine .sq ?_
    refine .sq ?_
    refine .rg (u (mv (.t rfl)) <| u (fa ff60_2 (.t rfl)) <| u (ld tf24 (.t rfl) rfl rfl) <| u (lnm sf24 (.t rfl)) <| u (bc (.t rfl) (.t rfl) rfl rfl) <| .nil _) rfl ?_
    refine .bq h (.t rfl) (fun h => ?_) (fun h => ?_)
    · refine .skp ?_
      refine .sq ?_
      refine .bl ?_
      refine .sq ?_
      refine be h fun x2 hx2 h => ?_
      refine be h fun x3 hx3 h => ?_
      refine .rd mixed (u (fa ff60_2 (.t rfl)) <| u (ld tf24 (.t rfl) rfl rfl) <| u (mv (.t rfl)) <| u (ia sf24 (.t rfl) (.t rfl) (ix_map cells_Size hx2)) <| u (lr tf83 (.t rfl) rfl) <| u (fa ff60_2 (.t rfl)) <| u (ld tf24 (.t rfl) rfl rfl) <| u (mv (.t rfl)) <| u (ia sf24 (.t rfl) (.t rfl) (ix_map cells_Size hx3)) <| u (lr tf83 (.t rfl) rfl) <| u (eqs qf83 (.t rfl) (.t rfl) rfl rfl rfl rfl) <| .nil _) (by kernel_rfl) rfl ?_
      refine .bq h (.t rfl) (fun h => ?_) (fun h => ?_)
      · refine .sq ?_
        refine .rg (u (asg .b) <| .nil _) rfl ?_
        replace h := mpR h hx1
        obtain rfl := Option.some.inj h
        exact .rt Try.func69 (.t rfl <| .n) .n rfl rfl
      · refine .skp ?_
        refine .ib ?_
        refine .rg (u (mv (.t rfl)) <| u (bi (.t rfl) (.i rfl) rfl) <| u (asg (.t rfl)) <| .nil _) rfl ?_
        exact .kq (.il (ih1 (ar .add .i64 v1 1) (nxi h))) (.c rfl (.c rfl (.c rfl .n))) (.c rfl (.c rfl .n))
    · refine .xt rfl ?_
      replace h := mpR h hx1
      refine .sq ?_
      refine .sq ?_
      refine .rg (u (asg (.i rfl)) <| .nil _) rfl ?_
      refine .bl ?_
      unfold ref24_SameScale_l2 at h
      refine .kq (.lo (fun (s : Int × Scale × Scale) => ⟨[(2, .ptr 2 0), (3, .ptr 3 0), (6, .ro (.int .i64 s.1))], [(2, some (.box [.ro (.int .i64 s.2.1.layers), .ro (.bool s.2.1.hasSizes), .ro (.list 2 (List.map cells_Size s.2.1.sizes)), .ro (.bool s.2.1.hasPics), .ro (.list 3 (List.map cells_Group s.2.1.pics))])), (3, some (.box [.ro (.int .i64 s.2.2.layers), .ro (.bool s.2.2.hasSizes), .ro (.list 2 (List.map cells_Size s.2.2.sizes)), .ro (.bool s.2.2.hasPics), .ro (.list 3 (List.map cells_Group s.2.2.pics))]))]⟩) h ?_) (.c rfl (.c rfl (.c rfl .n))) (.c rfl (.c rfl .n))
      rintro ⟨v4, v5, v6⟩ u2 h ih2 hx2
      replace h : ref24_SameScale_s2 z v4 v5 v6 = _ := h
      unfold ref24_SameScale_s2 at h
      refine .sq ?_
      refine .sq ?_
      refine .rg (u (mv (.t rfl)) <| u (fa ff60_4 (.t rfl)) <| u (ld tf58 (.t rfl) rfl rfl) <| u (lnm sf58 (.t rfl)) <| u (bc (.t rfl) (.t rfl) rfl rfl) <| .nil _) rfl ?_
      refine .bq h (.t rfl) (fun h => ?_) (fun h => ?_)
      · refine .skp ?_
        refine .sq ?_
        refine .bl ?_
        refine .sq ?_
        refine be h fun x7 hx7 h => ?_
        refine be h fun x8 hx8 h => ?_
        refine be h fun x9 hx9 h => ?_
        refine be h fun x10 hx10 h => ?_
        refine be h fun x11 hx11 h => ?_
        refine be h fun x12 hx12 h => ?_
        refine be h fun x13 hx13 h => ?_
        refine .rd mixed (u (fa ff60_4 (.t rfl)) <| u (ld tf58 (.t rfl) rfl rfl) <| u (mv (.t rfl)) <| u (ia sf58 (.t rfl) (.t rfl) (ix_map cells_Group hx7)) <| u (fr ff113_0 (.t rfl) rfl) <| u (lr tf3 (.t rfl) rfl) <| u (fa ff60_4 (.t rfl)) <| u (ld tf58 (.t rfl) rfl rfl) <| u (mv (.t rfl)) <| u (ia sf58 (.t rfl) (.t rfl) (ix_map cells_Group hx8)) <| u (fr ff113_0 (.t rfl) rfl) <| u (lr tf3 (.t rfl) rfl) <| u (bc (.t rfl) (.t rfl) rfl rfl) <| u (mv (.t rfl)) <| gd rfl rfl (fun hB => fa ff60_4 (.t rfl)) <| gd rfl rfl (fun hB => ld tf58 (.m rfl hB) rfl rfl) <| gd rfl rfl (fun hB => mv (.t rfl)) <| gd rfl rfl (fun hB => ia sf58 (.m rfl hB) (.m rfl hB) (ix_map cells_Group (gTt hx9 (nt hB)))) <| gd rfl rfl (fun hB => fr ff113_1 (.m rfl hB) rfl) <| gd rfl rfl (fun hB => lr tf4 (.m rfl hB) rfl) <| gd rfl rfl (fun hB => fa ff60_4 (.t rfl)) <| gd rfl rfl (fun hB => ld tf58 (.m rfl hB) rfl rfl) <| gd rfl rfl (fun hB => mv (.t rfl)) <| gd rfl rfl (fun hB => ia sf58 (.m rfl hB) (.m rfl hB) (ix_map cells_Group (gTt hx10 (nt hB)))) <| gd rfl rfl (fun hB => fr ff113_1 (.m rfl hB) rfl) <| gd rfl rfl (fun hB => lr tf4 (.m rfl hB) rfl) <| gd rfl rfl (fun hB => be2 ub4 (.m rfl hB) (.m rfl hB) rfl) <| u (pko (.t rfl) (.t rfl)) <| u (mv (.t rfl)) <| gd rfl rfl (fun hB => fa ff60_4 (.t rfl)) <| gd rfl rfl (fun hB => ld tf58 (.m rfl hB) rfl rfl) <| gd rfl rfl (fun hB => mv (.t rfl)) <| gd rfl rfl (fun hB => ia sf58 (.m rfl hB) (.m rfl hB) (ix_map cells_Group (gTt hx11 (nt hB)))) <| gd rfl rfl (fun hB => fr ff113_2 (.m rfl hB) rfl) <| gd rfl rfl (fun hB => lr tf22 (.m rfl hB) rfl) <| gd rfl rfl (fun hB => fa ff60_4 (.t rfl)) <| gd rfl rfl (fun hB => ld tf58 (.m rfl hB) rfl rfl) <| gd rfl rfl (fun hB => mv (.t rfl)) <| gd rfl rfl (fun hB => ia sf58 (.m rfl hB) (.m rfl hB) (ix_map cells_Group (gTt hx12 (nt hB)))) <| gd rfl rfl (fun hB => fr ff113_2 (.m rfl hB) rfl) <| gd rfl rfl (fun hB => lr tf22 (.m rfl hB) rfl) <| cg rfl rfl cf58 (fun hB => (ref24_Ints_c (gTt hx13 (nt hB)))) (fun hB => .c (.m rfl hB) <| .c (.m rfl hB) <| .n) (.inl rfl) <| gd rfl rfl (fun hB => no (.m rfl hB)) <| u (pko (.t rfl) (.t rfl)) <| .nil _) (by kernel_rfl) rfl ?_
        refine .bq h (.t rfl) (fun h => ?_) (fun h => ?_)
        · refine .sq ?_
          refine .rg (u (asg .b) <| .nil _) rfl ?_
          replace h := mpR h hx2
          obtain rfl := Option.some.inj h
          exact .rt Try.func69 (.t rfl <| .n) .n rfl rfl
        · refine .skp ?_
          refine .ib ?_
          refine .rg (u (mv (.t rfl)) <| u (bi (.t rfl) (.i rfl) rfl) <| u (asg (.t rfl)) <| .nil _) rfl ?_
          exact .kq (.il (ih2 ((ar .add .i64 v4 1), v5, v6) (nxi h))) (.c rfl (.c rfl (.c rfl .n))) (.c rfl (.c rfl .n))
      · refine .xt rfl ?_
        replace h := mpR h hx2
        refine .sq ?_
        refine .rg (u (asg .b) <| .nil _) rfl ?_
        obtain rfl := Option.some.inj h
        exact .rt Try.func69 (.t rfl <| .n) .n rfl rfl

theorem ref24_Same_c {z : Option Nat} {p_a : Vp9} {b : Vp9} {r : Bool} (h : ref24_Same z p_a b = some r) :
    AC Try.prog 34 [.ro (enc_Vp9 p_a), .ro (enc_Vp9 b)] (.ro (.bool r)) [] := by
  refine AC.of Try.func34 rfl rfl fun w M0 hM => ?_
  unfold ref24_Same at h
  refine .sq ?_
  refine .rg (bx 2 (.t rfl) rfl rfl <| bx 3 (.t rfl) rfl rfl <| u (asg .b) <| .nil _) rfl ?_
  refine .sq ?_
  refine .sq ?_
  refine .rg (u (fa ff62_0 (.t rfl)) <| u (ld tf4 (.t rfl) rfl rfl) <| u (fa ff62_0 (.t rfl)) <| u (ld tf4 (.t rfl) rfl rfl) <| u (be2 ub4 (.t rfl) (.t rfl) rfl) <| u (mv (.t rfl)) <| gd rfl rfl (fun hB => fa ff62_1 (.t rfl)) <| gd rfl rfl (fun hB => ld tf4 (.m rfl hB) rfl rfl) <| gd rfl rfl (fun hB => fa ff62_1 (.t rfl)) <| gd rfl rfl (fun hB => ld tf4 (.m rfl hB) rfl rfl) <| gd rfl rfl (fun hB => be2 ub4 (.m rfl hB) (.m rfl hB) rfl) <| u (pko (.t rfl) (.t rfl)) <| u (mv (.t rfl)) <| gd rfl rfl (fun hB => fa ff62_2 (.t rfl)) <| gd rfl rfl (fun hB => ld tf3 (.m rfl hB) rfl rfl) <| gd rfl rfl (fun hB => fa ff62_2 (.t rfl)) <| gd rfl rfl (fun hB => ld tf3 (.m rfl hB) rfl rfl) <| gd rfl rfl (fun hB => bc (.m rfl hB) (.m rfl hB) rfl rfl) <| u (pko (.t rfl) (.t rfl)) <| u (mv (.t rfl)) <| gd rfl rfl (fun hB => fa ff62_3 (.t rfl)) <| gd rfl rfl (fun hB => ld tf4 (.m rfl hB) rfl rfl) <| gd rfl rfl (fun hB => fa ff62_3 (.t rfl)) <| gd rfl rfl (fun hB => ld tf4 (.m rfl hB) rfl rfl) <| gd rfl rfl (fun hB => be2 ub4 (.m rfl hB) (.m rfl hB) rfl) <| u (pko (.t rfl) (.t rfl)) <| u (mv (.t rfl)) <| gd rfl rfl (fun hB => fa ff62_4 (.t rfl)) <| gd rfl rfl (fun hB => ld tf4 (.m rfl hB) rfl rfl) <| gd rfl rfl (fun hB => fa ff62_4 (.t rfl)) <| gd rfl rfl (fun hB => ld tf4 (.m rfl hB) rfl rfl) <| gd rfl rfl (fun hB => be2 ub4 (.m rfl hB) (.m rfl hB) rfl) <| u (pko (.t rfl) (.t rfl)) <| u (mv (.t rfl)) <| gd rfl rfl (fun hB => fa ff62_5 (.t rfl)) <| gd rfl rfl (fun hB => ld tf3 (.m rfl hB) rfl rfl) <| gd rfl rfl (fun hB => fa ff62_5 (.t rfl)) <| gd rfl rfl (fun hB => ld tf3 (.m rfl hB) rfl rfl) <| gd rfl rfl (fun hB => bc (.m rfl hB) (.m rfl hB) rfl rfl) <| u (pko (.t rfl) (.t rfl)) <| u (mv (.t rfl)) <| gd rfl rfl (fun hB => fa ff62_6 (.t rfl)) <| gd rfl rfl (fun hB => ld tf3 (.m rfl hB) rfl rfl) <| gd rfl rfl (fun hB => fa ff62_6 (.t rfl)) <| gd rfl rfl (fun hB => ld tf3 (.m rfl hB) rfl rfl) <| gd rfl rfl (fun hB => bc (.m rfl hB) (.m rfl hB) rfl rfl) <| u (pko (.t rfl) (.t rfl)) <| u (mv (.t rfl)) <| gd rfl rfl (fun hB => fa ff62_7 (.t rfl)) <| gd rfl rfl (fun hB => ld tf4 (.m rfl hB) rfl rfl) <| gd rfl rfl (fun hB => fa ff62_7 (.t rfl)) <| gd rfl rfl (fun hB => ld tf4 (.m rfl hB) rfl rfl) <| gd rfl rfl (fun hB => be2 ub4 (.m rfl hB) (.m rfl hB) rfl) <| u (pko (.t rfl) (.t rfl)) <| u (mv (.t rfl)) <| gd rfl rfl (fun hB => fa ff62_8 (.t rfl)) <| gd rfl rfl (fun hB => ld tf4 (.m rfl hB) rfl rfl) <| gd rfl rfl (fun hB => fa ff62_8 (.t rfl)) <| gd rfl rfl (fun hB => ld tf4 (.m rfl hB) rfl rfl) <| gd rfl rfl (fun hB => be2 ub4 (.m rfl hB) (.m rfl hB) rfl) <| u (pko (.t rfl) (.t rfl)) <| .nil _) rfl ?_
  refine .bq h (.t rfl) (fun h => ?_) (fun h => ?_)
  · refine .sq ?_
    refine .rg (u (asg .b) <| .nil _) rfl ?_
    obtain rfl := Option.some.inj h
    exact .rt Try.func34 (.t rfl <| .n) .n rfl rfl
  · refine .skp ?_
    refine .sq ?_
    refine .sq ?_
    refine .rg (u (fa ff62_9 (.t rfl)) <| u (ld tf4 (.t rfl) rfl rfl) <| u (fa ff62_9 (.t rfl)) <| u (ld tf4 (.t rfl) rfl rfl) <| u (be2 ub4 (.t rfl) (.t rfl) rfl) <| u (mv (.t rfl)) <| gd rfl rfl (fun hB => fa ff62_10 (.t rfl)) <| gd rfl rfl (fun hB => ld tf3 (.m rfl hB) rfl rfl) <| gd rfl rfl (fun hB => fa ff62_10 (.t rfl)) <| gd rfl rfl (fun hB => ld tf3 (.m rfl hB) rfl rfl) <| gd rfl rfl (fun hB => bc (.m rfl hB) (.m rfl hB) rfl rfl) <| u (pko (.t rfl) (.t rfl)) <| u (mv (.t rfl)) <| gd rfl rfl (fun hB => fa ff62_12 (.t rfl)) <| gd rfl rfl (fun hB => ld tf4 (.m rfl hB) rfl rfl) <| gd rfl rfl (fun hB => fa ff62_12 (.t rfl)) <| gd rfl rfl (fun hB => ld tf4 (.m rfl hB) rfl rfl) <| gd rfl rfl (fun hB => be2 ub4 (.m rfl hB) (.m rfl hB) rfl) <| u (pko (.t rfl) (.t rfl)) <| u (mv (.t rfl)) <| gd rfl rfl (fun hB => fa ff62_13 (.t rfl)) <| gd rfl rfl (fun hB => ld tf4 (.m rfl hB) rfl rfl) <| gd rfl rfl (fun hB => fa ff62_13 (.t rfl)) <| gd rfl rfl (fun hB => ld tf4 (.m rfl hB) rfl rfl) <| gd rfl rfl (fun hB => be2 ub4 (.m rfl hB) (.m rfl hB) rfl) <| u (pko (.t rfl) (.t rfl)) <| u (mv (.t rfl)) <| gd rfl rfl (fun hB => fa ff62_14 (.t rfl)) <| gd rfl rfl (fun hB => ld tf4 (.m rfl hB) rfl rfl) <| gd rfl rfl (fun hB => fa ff62_14 (.t rfl)) <| gd rfl rfl (fun hB => ld tf4 (.m rfl hB) rfl rfl) <| gd rfl rfl (fun hB => be2 ub4 (.m rfl hB) (.m rfl hB) rfl) <| u (pko (.t rfl) (.t rfl)) <| u (mv (.t rfl)) <| gd rfl rfl (fun hB => fa ff62_16 (.t rfl)) <| gd rfl rfl (fun hB => ld tf4 (.m rfl hB) rfl rfl) <| gd rfl rfl (fun hB => fa ff62_16 (.t rfl)) <| gd rfl rfl (fun hB => ld tf4 (.m rfl hB) rfl rfl) <| gd rfl rfl (fun hB => be2 ub4 (.m rfl hB) (.m rfl hB) rfl) <| u (pko (.t rfl) (.t rfl)) <| .nil _) rfl ?_
    refine .bq h (.t rfl) (fun h => ?_) (fun h => ?_)
    · refine .sq ?_
      refine .rg (u (asg .b) <| .nil _) rfl ?_
      obtain rfl := Option.some.inj h
      exact .rt Try.func34 (.t rfl <| .n) .n rfl rfl
    · refine .skp ?_
      refine .sq ?_
      refine be h fun x1 hx1 h => ?_
      refine be h fun x2 hx2 h => ?_
      refine .rg (u (fa ff62_11 (.t rfl)) <| u (ld tf22 (.t rfl) rfl rfl) <| u (fa ff62_11 (.t rfl)) <| u (ld tf22 (.t rfl) rfl rfl) <| cl [] cf58 (ref24_Ints_c hx1) (.c (.t rfl) <| .c (.t rfl) <| .n) (.inl rfl) <| u (mv (.t rfl)) <| gd rfl rfl (fun hB => fa ff62_15 (.t rfl)) <| gd rfl rfl (fun hB => ld tf60 (.m rfl hB) rfl rfl) <| gd rfl rfl (fun hB => fa ff62_15 (.t rfl)) <| gd rfl rfl (fun hB => ld tf60 (.m rfl hB) rfl rfl) <| cg rfl rfl cf69 (fun hB => (ref24_SameScale_c (gTt hx2 hB))) (fun hB => .c (.m rfl hB) <| .c (.m rfl hB) <| .n) (.inl rfl) <| u (pka (.t rfl) (.t rfl)) <| u (asg (.t rfl)) <| .nil _) rfl ?_
      obtain rfl := Option.some.inj h
      exact .rt Try.func34 (.t rfl <| .n) .n rfl rfl

theorem slices_Equal_byte_c {z : Option Nat} {s1 : List Int} {s2 : List Int} {r : Bool} (h : slices_Equal_byte z s1 s2 = some r) :
    AC Try.prog 83 [.ro (.list 1 (List.map e8 s1)), .ro (.list 1 (List.map e8 s2))] (.ro (.bool r)) [] := by
  refine AC.of Try.func83 rfl rfl fun w M0 hM => ?_
  unfold slices_Equal_byte at h
  refine .sq ?_
  refine .rg (u (asg .b) <| .nil _) rfl ?_
  refine .sq ?_
  refine .sq ?_
  refine .rg (u (mv (.t rfl)) <| u (lnm sf27 (.t rfl)) <| u (mv (.t rfl)) <| u (lnm sf27 (.t rfl)) <| u (bc (.t rfl) (.t rfl) rfl rfl) <| .nil _) rfl ?_
  refine .bq h (.t rfl) (fun h => ?_) (fun h => ?_)
  · refine .sq ?_
    refine .rg (u (asg .b) <| .nil _) rfl ?_
    obtain rfl := Option.some.inj h
    exact .rt Try.func83 (.t rfl <| .n) .n rfl rfl
  · refine .skp ?_
    refine .sq ?_
    refine .sq ?_
    refine .rg (u (mv (.t rfl)) <| u (lnm sf27 (.t rfl)) <| u (mv (.i rfl)) <| .nil _) rfl ?_
    refine .bl ?_
    unfold slices_Equal_byte_l1 at h
    refine .kq (.lo (fun (s : Int) => ⟨[(0, .ro (.list 1 (List.map e8 s1))), (1, .ro (.list 1 (List.map e8 s2))), (12, .ro (.int .i64 (s1.length : Int))), (13, .ro (.int .i64 s))], []⟩) h ?_) (.c rfl (.c rfl (.c rfl (.c rfl .n)))) .n
    intro v1 u1 h ih1 hx1
    replace h : slices_Equal_byte_s1 z s1 s2 v1 = _ := h
    unfold slices_Equal_byte_s1 at h
    refine .sq ?_
    refine .rg (u (bc (.t rfl) (.t rfl) rfl rfl) <| .nil _) rfl ?_
    refine .sq ?_
    refine .bq h (.t rfl) (fun h => ?_) (fun h => ?_)
    · refine .skp ?_
      refine .sq ?_
      refine .bl ?_
      refine .sq ?_
      refine .rg (u (mv (.t rfl)) <| u (asg (.t rfl)) <| .nil _) rfl ?_
      refine .sq ?_
      refine be h fun x2 hx2 h => ?_
      refine be h fun x3 hx3 h => ?_
      refine .rd mixed (u (mv (.t rfl)) <| u (mv (.t rfl)) <| u (ia sf27 (.t rfl) (.t rfl) (ix_map e8 hx2)) <| u (lr tf5 (.t rfl) rfl) <| u (mv (.t rfl)) <| u (mv (.t rfl)) <| u (ia sf27 (.t rfl) (.t rfl) (ix_map e8 hx3)) <| u (lr tf5 (.t rfl) rfl) <| u (bc (.t rfl) (.t rfl) rfl rfl) <| .nil _) (by kernel_rfl) rfl ?_
      refine .bq h (.t rfl) (fun h => ?_) (fun h => ?_)
      · refine .sq ?_
        refine .rg (u (asg .b) <| .nil _) rfl ?_
        replace h := mpR h hx1
        obtain rfl := Option.some.inj h
        exact .rt Try.func83 (.t rfl <| .n) .n rfl rfl
      · refine .skp ?_
        refine .ib ?_
        refine .rg (u (bi (.t rfl) (.i rfl) rfl) <| u (mv (.t rfl)) <| .nil _) rfl ?_
        exact .kq (.il (ih1 (ar .add .i64 v1 1) (nxi h))) (.c rfl (.c rfl (.c rfl (.c rfl .n)))) .n
    · refine .xt rfl ?_
      replace h := mpR h hx1
      refine .sq ?_
      refine .rg (u (asg .b) <| .nil _) rfl ?_
      obtain rfl := Option.some.inj h
      exact .rt Try.func83 (.t rfl <| .n) .n rfl rfl

theorem vp9_Canon_c {z : Option Nat} {b : List Int} {r : Bool} (h : vp9_Canon z b = some r) :
    AC Try.prog 40 [.ro (.list 1 (List.map e8 b))] (.ro (.bool r)) [] := by
  refine AC.of Try.func40 rfl rfl fun w M0 hM => ?_
  unfold vp9_Canon at h
  refine .sq ?_
  refine .rg (u (asg .b) <| .nil _) rfl ?_
  refine .sq ?_
  refine be h fun x1 hx1 h => ?_
  refine .rg (u (mv (.t rfl)) <| cl [] cf32 (vp9_Read_c hx1) (.c (.t rfl) <| .n) (.inl rfl) <| u (mv (.t rfl)) <| u (ex (.t rfl) rfl rfl) <| u (ex (.t rfl) rfl rfl) <| u (ex (.t rfl) rfl rfl) <| al 3 zf62 rfl <| st tf62 (.t rfl) rfl (.t rfl) rfl rfl rfl <| u (asg (.t rfl)) <| u (asg (.t rfl)) <| .nil _) rfl ?_
  refine .sq ?_
  refine .sq ?_
  refine .rg (u (mv (.t rfl)) <| u (bc (.t rfl) (.i rfl) rfl rfl) <| .nil _) rfl ?_
  refine .bq h (.t rfl) (fun h => ?_) (fun h => ?_)
  · refine .sq ?_
    refine .rg (u (asg .b) <| .nil _) rfl ?_
    obtain rfl := Option.some.inj h
    exact .rt Try.func40 (.t rfl <| .n) .n rfl rfl
  · refine .skp ?_
    refine .sq ?_
    refine be h fun x2 hx2 h => ?_
    refine .rg (u (ld tf62 (.t rfl) rfl rfl) <| cl [] cf30 (vp9_Write_c hx2) (.c (.t rfl) <| .n) (.inl rfl) <| u (mv (.t rfl)) <| u (ex (.t rfl) rfl rfl) <| u (ex (.t rfl) rfl rfl) <| u (asg (.t rfl)) <| u (asg (.t rfl)) <| .nil _) rfl ?_
    refine .sq ?_
    refine be h fun x3 hx3 h => ?_
    refine be h fun x4 hx4 h => ?_
    refine .rg (u (mv (.t rfl)) <| u (mv (.t rfl)) <| u (mv (.t rfl)) <| u (sl sf27 (.t rfl) .n (.s (.t rfl)) hx3) <| cl [] cf83 (slices_Equal_byte_c hx4) (.c (.t rfl) <| .c (.t rfl) <| .n) (.inl rfl) <| u (asg (.t rfl)) <| .nil _) rfl ?_
    obtain rfl := Option.some.inj h
    exact .rt Try.func40 (.t rfl <| .n) .n rfl rfl

theorem law24_awake_c {z : Option Nat}  {r : Bool} (h : law24_awake z = some r) :
    AC Try.prog 27 [] (.ro (.bool r)) [] := by
  refine AC.of Try.func27 rfl rfl fun w M0 hM => ?_
  unfold law24_awake at h
  refine .sq ?_
  refine .rg (u (asg .b) <| .nil _) rfl ?_
  refine .sq ?_
  refine .rg (bs (F := (ei .i64)) (l := [1, 2]) 12 pf22 (.c (.i rfl) rfl <| .c (.i rfl) rfl <| .n) rfl (fun _ _ => rfl) rfl rfl <| nu (bsn (F := (ei .i64)) (l := [9]) pf22 (.c (.i rfl) rfl <| .n) rfl (fun _ _ => rfl) rfl) <| u (bd bf113 zf113 (.c rfl (.i rfl) rfl rfl rfl <| .c rfl .b rfl rfl rfl <| .c rfl (.t rfl) rfl rfl rfl <| .n) rfl) <| bs (F := cells_Group) (l := [(Group.mk 1 true [9])]) 15 pf58 (.c (.t rfl) rfl <| .n) rfl (fun _ _ => rfl) rfl rfl <| u (bd bf60 zf60 (.c rfl (.i rfl) rfl rfl rfl <| .c rfl .b rfl rfl rfl <| .c rfl (.t rfl) rfl rfl rfl <| .n) rfl) <| u (bd bf62 zf62 (.c rfl .b rfl rfl rfl <| .c rfl (.i rfl) rfl rfl rfl <| .c rfl .b rfl rfl rfl <| .c rfl .b rfl rfl rfl <| .c rfl .b rfl rfl rfl <| .c rfl (.t rfl) rfl rfl rfl <| .c rfl .b rfl rfl rfl <| .c rfl (.t rfl) rfl rfl rfl <| .n) rfl) <| al 1 zf62 rfl <| st tf62 (.t rfl) rfl (.t rfl) rfl rfl rfl <| .nil _) rfl ?_
  refine .sq ?_
  refine .fz 12 rfl ?_
  refine .fz 15 rfl ?_
  refine be h fun x1 hx1 h => ?_
  refine .rg (u (ld tf62 (.t rfl) rfl rfl) <| cl [] cf30 (vp9_Write_c hx1) (.c (.t rfl) <| .n) (.inl rfl) <| u (mv (.t rfl)) <| u (ex (.t rfl) rfl rfl) <| u (ex (.t rfl) rfl rfl) <| u (asg (.t rfl)) <| u (asg (.t rfl)) <| .nil _) rfl ?_
  refine .sq ?_
  refine be h fun x2 hx2 h => ?_
  refine be h fun x3 hx3 h => ?_
  refine be h fun x4 hx4 h => ?_
  refine .rg (bs (F := e8) (l := ([] : List Int)) 24 pf27 (.n) rfl (fun _ _ => rfl) rfl rfl <| u (mv (.t rfl)) <| ap 26 pf27 (.t rfl) rfl (.t rfl) hx2 rfl <| bs (F := e8) (l := [9]) 27 pf27 (.c (.i rfl) rfl <| .n) rfl (fun _ _ => rfl) rfl rfl <| apo 28 pf27 (.t rfl) rfl (.t rfl) rfl hx3 rfl <| cl [28] cf32 (vp9_Read_c hx4) (.b (.t rfl) rfl <| .n) (.inl rfl) <| u (mv (.t rfl)) <| u (ex (.t rfl) rfl rfl) <| u (ex (.t rfl) rfl rfl) <| u (ex (.t rfl) rfl rfl) <| al 4 zf62 rfl <| st tf62 (.t rfl) rfl (.t rfl) rfl rfl rfl <| u (asg (.t rfl)) <| u (asg (.t rfl)) <| .nil _) rfl ?_
  refine .sq ?_
  refine be h fun x5 hx5 h => ?_
  refine .rg (u (mv (.t rfl)) <| cnf 36000 cf37 (vp9_Set_c hx5) (.c (.t rfl) <| .c (.i rfl) <| .c (.i rfl) <| .n) rfl rfl rfl <| u (mv (.t rfl)) <| u (ex (.t rfl) rfl rfl) <| u (ex (.t rfl) rfl rfl) <| u (asg (.t rfl)) <| u (asg (.t rfl)) <| .nil _) rfl ?_
  refine .sq ?_
  refine be h fun x6 hx6 h => ?_
  refine .rg (bs (F := e8) (l := [80, 0]) 39 pf27 (.c (.i rfl) rfl <| .c (.i rfl) rfl <| .n) rfl (fun _ _ => rfl) rfl rfl <| cl [39] cf32 (vp9_Read_c hx6) (.b (.t rfl) rfl <| .n) (.inl rfl) <| u (mv (.t rfl)) <| u (ex (.t rfl) rfl rfl) <| u (ex (.t rfl) rfl rfl) <| u (ex (.t rfl) rfl rfl) <| al 9 zf62 rfl <| st tf62 (.t rfl) rfl (.t rfl) rfl rfl rfl <| u (asg (.t rfl)) <| u (asg (.t rfl)) <| .nil _) rfl ?_
  refine .sq ?_
  refine be h fun x7 hx7 h => ?_
  refine be h fun x8 hx8 h => ?_
  refine be h fun x9 hx9 h => ?_
  refine be h fun x10 hx10 h => ?_
  refine .rg (u (mv (.t rfl)) <| u (bc (.t rfl) (.i rfl) rfl rfl) <| u (mv (.t rfl)) <| gd rfl rfl (fun hB => mv (.t rfl)) <| gd rfl rfl (fun hB => bc (.m rfl hB) (.i rfl) rfl rfl) <| u (pka (.t rfl) (.t rfl)) <| u (mv (.t rfl)) <| gd rfl rfl (fun hB => mv (.t rfl)) <| gd rfl rfl (fun hB => bc (.m rfl hB) (.i rfl) rfl rfl) <| u (pka (.t rfl) (.t rfl)) <| u (mv (.t rfl)) <| gd rfl rfl (fun hB => mv (.t rfl)) <| gd rfl rfl (fun hB => bc (.m rfl hB) (.i rfl) rfl rfl) <| u (pka (.t rfl) (.t rfl)) <| u (mv (.t rfl)) <| gd rfl rfl (fun hB => mv (.t rfl)) <| gd rfl rfl (fun hB => bc (.m rfl hB) (.i rfl) rfl rfl) <| u (pka (.t rfl) (.t rfl)) <| u (mv (.t rfl)) <| gd rfl rfl (fun hB => mv (.t rfl)) <| gd rfl rfl (fun hB => bt bt27_9 (.m rfl hB)) <| gd rfl rfl (fun hB => sq (.m rfl hB) (.s rfl) rfl rfl) <| u (pka (.t rfl) (.t rfl)) <| u (mv (.t rfl)) <| gd rfl rfl (fun hB => ld tf62 (.t rfl) rfl rfl) <| gd rfl rfl (fun hB => ld tf62 (.t rfl) rfl rfl) <| cg rfl rfl cf34 (fun hB => (ref24_Same_c (gTt hx7 hB))) (fun hB => .c (.m rfl hB) <| .c (.m rfl hB) <| .n) (.inl rfl) <| u (pka (.t rfl) (.t rfl)) <| u (mv (.t rfl)) <| gd rfl rfl (fun hB => mv (.t rfl)) <| gd rfl rfl (fun hB => bto bt27_9 (.m rfl hB) rfl) <| gd rfl rfl (fun hB => sq (.m rfl hB) (.s rfl) rfl rfl) <| u (pka (.t rfl) (.t rfl)) <| u (mv (.t rfl)) <| gd rfl rfl (fun hB => mv (.t rfl)) <| cg rfl rfl cf40 (fun hB => (vp9_Canon_c (gTt hx8 hB))) (fun hB => .c (.m rfl hB) <| .n) (.inl rfl) <| u (pka (.t rfl) (.t rfl)) <| u (mv (.t rfl)) <| gd rfl rfl (fun hB => ld tf62 (.t rfl) rfl rfl) <| cg rfl rfl cf39 (fun hB => (vp9_Right_c (gTt hx9 hB))) (fun hB => .c (.m rfl hB) <| .n) (.inl rfl) <| u (pka (.t rfl) (.t rfl)) <| u (mv (.t rfl)) <| gd rfl rfl (fun hB => fa ff62_15 (.t rfl)) <| gd rfl rfl (fun hB => ld tf60 (.m rfl hB) rfl rfl) <| cg rfl rfl cf35 (fun hB => (vp9_RightScale_c (gTt hx10 hB))) (fun hB => .c (.m rfl hB) <| .n) (.inl rfl) <| u (pka (.t rfl) (.t rfl)) <| u (asg (.t rfl)) <| .nil _) rfl ?_
  obtain rfl := Option.some.inj h
  exact .rt Try.func27 (.t rfl <| .n) .n rfl rfl

theorem law24_awake_t : law24_awake (some 1000) = some true := by decide +kernel
theorem law24_awake_k : AC Try.prog 27 [] (.ro (.bool true)) [] := law24_awake_c law24_awake_t

theorem ref24_Short_c {z : Option Nat} {p_d : Vp9} {r : Bool} (h : ref24_Short z p_d = some r) :
    AC Try.prog 28 [.ro (enc_Vp9 p_d)] (.ro (.bool r)) [] := by
  refine AC.of Try.func28 rfl rfl fun w M0 hM => ?_
  unfold ref24_Short at h
  refine .sq ?_
  refine .rg (bx 1 (.t rfl) rfl rfl <| u (asg .b) <| .nil _) rfl ?_
  refine .sq ?_
  refine .sq ?_
  refine .rg (u (asg (.i rfl)) <| .nil _) rfl ?_
  refine .bl ?_
  unfold ref24_Short_l1 at h
  refine .kq (.lo (fun (s : Int) => ⟨[(1, .ptr 1 0), (3, .ro (.int .i64 s))], [(1, some (.box [.ro (.bool p_d.hasPic), .ro (.bool p_d.wide), .ro (.int .i64 p_d.pic), .ro (.bool p_d.inter), .ro (.bool p_d.hasLayer), .ro (.int .i64 p_d.tid), .ro (.int .i64 p_d.sid), .ro (.bool p_d.up), .ro (.bool p_d.depends), .ro (.bool p_d.flexible), .ro (.int .i64 p_d.level), .ro (.list 1 (List.map (ei .i64) p_d.refs)), .ro (.bool p_d.begin), .ro (.bool p_d.end_), .ro (.bool p_d.hasScale), .ro (.int .i64 p_d.scale.layers), .ro (.bool p_d.scale.hasSizes), .ro (.list 2 (List.map cells_Size p_d.scale.sizes)), .ro (.bool p_d.scale.hasPics), .ro (.list 3 (List.map cells_Group p_d.scale.pics)), .ro (.bool p_d.notRef)]))]⟩) h ?_) (.c rfl (.c rfl .n)) (.c rfl .n)
  intro v1 u1 h ih1 hx1
  replace h : ref24_Short_s1 z p_d v1 = _ := h
  unfold ref24_Short_s1 at h
  refine .sq ?_
  refine .sq ?_
  refine .rg (u (mv (.t rfl)) <| u (fa ff62_15 (.t rfl)) <| u (fa ff60_4 (.t rfl)) <| u (ld tf58 (.t rfl) rfl rfl) <| u (lnm sf58 (.t rfl)) <| u (bc (.t rfl) (.t rfl) rfl rfl) <| u (mv (.t rfl)) <| gd rfl rfl (fun hB => mv (.t rfl)) <| gd rfl rfl (fun hB => bc (.m rfl hB) (.i rfl) rfl rfl) <| u (pka (.t rfl) (.t rfl)) <| .nil _) rfl ?_
  refine .bq h (.t rfl) (fun h => ?_) (fun h => ?_)
  · refine .skp ?_
    refine .sq ?_
    refine .bl ?_
    refine .sq ?_
    refine be h fun x2 hx2 h => ?_
    refine .rg (u (fa ff62_15 (.t rfl)) <| u (fa ff60_4 (.t rfl)) <| u (ld tf58 (.t rfl) rfl rfl) <| u (mv (.t rfl)) <| u (ia sf58 (.t rfl) (.t rfl) (ix_map cells_Group hx2)) <| u (fr ff113_2 (.t rfl) rfl) <| u (lr tf22 (.t rfl) rfl) <| u (lnm sf22 (.t rfl)) <| u (bc (.t rfl) (.i rfl) rfl rfl) <| .nil _) rfl ?_
    refine .bq h (.t rfl) (fun h => ?_) (fun h => ?_)
    · refine .sq ?_
      refine .rg (u (asg .b) <| .nil _) rfl ?_
      replace h := mpR h hx1
      obtain rfl := Option.some.inj h
      exact .rt Try.func28 (.t rfl <| .n) .n rfl rfl
    · refine .skp ?_
      refine .ib ?_
      refine .rg (u (mv (.t rfl)) <| u (bi (.t rfl) (.i rfl) rfl) <| u (asg (.t rfl)) <| .nil _) rfl ?_
      exact .kq (.il (ih1 (ar .add .i64 v1 1) (nxi h))) (.c rfl (.c rfl .n)) (.c rfl .n)
  · refine .xt rfl ?_
    replace h := mpR h hx1
    refine .sq ?_
    refine .rg (u (fa ff62_11 (.t rfl)) <| u (ld tf22 (.t rfl) rfl rfl) <| u (lnm sf22 (.t rfl)) <| u (bc (.t rfl) (.i rfl) rfl rfl) <| u (mv (.t rfl)) <| gd rfl rfl (fun hB => fa ff62_15 (.t rfl)) <| gd rfl rfl (fun hB => fa ff60_2 (.m rfl hB)) <| gd rfl rfl (fun hB => ld tf24 (.m rfl hB) rfl rfl) <| gd rfl rfl (fun hB => lnm sf24 (.m rfl hB)) <| gd rfl rfl (fun hB => bc (.m rfl hB) (.i rfl) rfl rfl) <| u (pka (.t rfl) (.t rfl)) <| u (mv (.t rfl)) <| gd rfl rfl (fun hB => fa ff62_15 (.t rfl)) <| gd rfl rfl (fun hB => fa ff60_4 (.m rfl hB)) <| gd rfl rfl (fun hB => ld tf58 (.m rfl hB) rfl rfl) <| gd rfl rfl (fun hB => lnm sf58 (.m rfl hB)) <| gd rfl rfl (fun hB => bc (.m rfl hB) (.i rfl) rfl rfl) <| u (pka (.t rfl) (.t rfl)) <| u (asg (.t rfl)) <| .nil _) rfl ?_
    obtain rfl := Option.some.inj h
    exact .rt Try.func28 (.t rfl <| .n) .n rfl rfl

theorem ref24_in_c (n : Int) (least : Int) (most : Int) :
    AC Try.prog 68 [.ro (.int .i64 n), .ro (.int .i64 least), .ro (.int .i64 most)] (.ro (.bool (ref24_in n least most))) [] := by
  obtain ⟨r, h⟩ : ∃ r, ref24_in n least most = r := ⟨_, rfl⟩
  rw [h]
  refine AC.of Try.func68 rfl rfl fun w M0 hM => ?_
  unfold ref24_in at h
  refine .sq ?_
  refine .rg (u (asg .b) <| .nil _) rfl ?_
  refine .sq ?_
  refine .rg (u (mv (.t rfl)) <| u (mv (.t rfl)) <| u (bc (.t rfl) (.t rfl) rfl rfl) <| u (mv (.t rfl)) <| gd rfl rfl (fun hB => mv (.t rfl)) <| gd rfl rfl (fun hB => mv (.t rfl)) <| gd rfl rfl (fun hB => bc (.m rfl hB) (.m rfl hB) rfl rfl) <| u (pka (.t rfl) (.t rfl)) <| u (asg (.t rfl)) <| .nil _) rfl ?_
  subst h
  exact .rt Try.func68 (.t rfl <| .n) .n rfl rfl

theorem ref24_RightScale_c {z : Option Nat} {p_s : Scale} {r : Bool} (h : ref24_RightScale z p_s = some r) :
    AC Try.prog 36 [.ro (enc_Scale p_s)] (.ro (.bool r)) [] := by
  refine AC.of Try.func36 rfl rfl fun w M0 hM => ?_
  unfold ref24_RightScale at h
  refine .sq ?_
  refine .rg (bx 1 (.t rfl) rfl rfl <| u (asg .b) <| .nil _) rfl ?_
  refine .sq ?_
  refine .sq ?_
  refine .rg (u (fa ff60_0 (.t rfl)) <| u (ld tf3 (.t rfl) rfl rfl) <| u (bc (.t rfl) (.i rfl) rfl rfl) <| u (mv (.t rfl)) <| gd rfl rfl (fun hB => fa ff60_0 (.t rfl)) <| gd rfl rfl (fun hB => ld tf3 (.m rfl hB) rfl rfl) <| gd rfl rfl (fun hB => bc (.m rfl hB) (.i rfl) rfl rfl) <| u (pko (.t rfl) (.t rfl)) <| u (mv (.t rfl)) <| gd rfl rfl (fun hB => fa ff60_4 (.t rfl)) <| gd rfl rfl (fun hB => ld tf58 (.m rfl hB) rfl rfl) <| gd rfl rfl (fun hB => lnm sf58 (.m rfl hB)) <| gd rfl rfl (fun hB => bc (.m rfl hB) (.i rfl) rfl rfl) <| u (pko (.t rfl) (.t rfl)) <| u (mv (.t rfl)) <| gd rfl rfl (fun hB => fa ff60_4 (.t rfl)) <| gd rfl rfl (fun hB => ld tf58 (.m rfl hB) rfl rfl) <| gd rfl rfl (fun hB => lnm sf58 (.m rfl hB)) <| gd rfl rfl (fun hB => bc (.m rfl hB) (.i rfl) rfl rfl) <| gd rfl rfl (fun hB => mv (.m rfl hB)) <| gm rfl rfl (fun hB => fa ff60_3 (.t rfl)) <| gm rfl rfl (fun hB => ld tf4 (.m rfl hB) rfl rfl) <| gm rfl rfl (fun hB => no (.m rfl hB)) <| gd rfl rfl (fun hB => pkam (.m rfl hB) (.t rfl) hB) <| u (pko (.t rfl) (.t rfl)) <| .nil _) rfl ?_
  refine .bq h (.t rfl) (fun h => ?_) (fun h => ?_)
  · refine .sq ?_
    refine .rg (u (asg .b) <| .nil _) rfl ?_
    obtain rfl := Option.some.inj h
    exact .rt Try.func36 (.t rfl <| .n) .n rfl rfl
  · refine .skp ?_
    refine .sq ?_
    refine .sq ?_
    refine .rg (u (fa ff60_1 (.t rfl)) <| u (ld tf4 (.t rfl) rfl rfl) <| u (mv (.t rfl)) <| gd rfl rfl (fun hB => fa ff60_2 (.t rfl)) <| gd rfl rfl (fun hB => ld tf24 (.m rfl hB) rfl rfl) <| gd rfl rfl (fun hB => lnm sf24 (.m rfl hB)) <| gd rfl rfl (fun hB => fa ff60_0 (.t rfl)) <| gd rfl rfl (fun hB => ld tf3 (.m rfl hB) rfl rfl) <| gd rfl rfl (fun hB => bc (.m rfl hB) (.m rfl hB) rfl rfl) <| u (pka (.t rfl) (.t rfl)) <| u (mv (.t rfl)) <| gd rfl rfl (fun hB => fa ff60_1 (.t rfl)) <| gd rfl rfl (fun hB => ld tf4 (.m rfl hB) rfl rfl) <| gd rfl rfl (fun hB => no (.m rfl hB)) <| gd rfl rfl (fun hB => mv (.m rfl hB)) <| gm rfl rfl (fun hB => fa ff60_2 (.t rfl)) <| gm rfl rfl (fun hB => ld tf24 (.m rfl hB) rfl rfl) <| gm rfl rfl (fun hB => lnm sf24 (.m rfl hB)) <| gm rfl rfl (fun hB => bc (.m rfl hB) (.i rfl) rfl rfl) <| gd rfl rfl (fun hB => pkam (.m rfl hB) (.t rfl) hB) <| u (pko (.t rfl) (.t rfl)) <| .nil _) rfl ?_
    refine .bq h (.t rfl) (fun h => ?_) (fun h => ?_)
    · refine .sq ?_
      refine .rg (u (asg .b) <| .nil _) rfl ?_
      obtain rfl := Option.some.inj h
      exact .rt Try.func36 (.t rfl <| .n) .n rfl rfl
    · refine .skp ?_
      refine .sq ?_
      refine .sq ?_
      refine .rg (u (asg (.i rfl)) <| .nil _) rfl ?_
      refine .bl ?_
      unfold ref24_RightScale_l1 at h
      refine .kq (.lo (fun (s : Int × Scale) => ⟨[(1, .ptr 1 0), (3, .ro (.int .i64 s.1))], [(1, some (.box [.ro (.int .i64 s.2.layers), .ro (.bool s.2.hasSizes), .ro (.list 2 (List.map cells_Size s.2.sizes)), .ro (.bool s.2.hasPics), .ro (.list 3 (List.map cells_Group s.2.pics))]))]⟩) h ?_) (.c rfl (.c rfl .n)) (.c rfl .n)
      rintro ⟨v1, v2⟩ u1 h ih1 hx1
      replace h : ref24_RightScale_s1 z v1 v2 = _ := h
      unfold ref24_RightScale_s1 at h
      refine .sq ?_
      refine .sq ?_
      refine .rg (u (mv (.t rfl)) <| u (fa ff60_2 (.t rfl)) <| u (ld tf24 (.t rfl) rfl rfl) <| u (lnm sf24 (.t rfl)) <| u (bc (.t rfl) (.t rfl) rfl rfl) <| .nil _) rfl ?_
      refine .bq h (.t rfl) (fun h => ?_) (fun h => ?_)
      · refine .skp ?_
        refine .sq ?_
        refine .bl ?_
        refine .sq ?_
        refine be h fun x3 hx3 h => ?_
        refine be h fun x4 hx4 h => ?_
        refine .rg (u (fa ff60_2 (.t rfl)) <| u (ld tf24 (.t rfl) rfl rfl) <| u (mv (.t rfl)) <| u (ia sf24 (.t rfl) (.t rfl) (ix_map cells_Size hx3)) <| u (fr ff83_0 (.t rfl) rfl) <| u (lr tf3 (.t rfl) rfl) <| cl [] cf68 (ref24_in_c x3.wide 0 65535) (.c (.t rfl) <| .c (.i rfl) <| .c (.i rfl) <| .n) (.inl rfl) <| u (no (.t rfl)) <| u (mv (.t rfl)) <| gd rfl rfl (fun hB => fa ff60_2 (.t rfl)) <| gd rfl rfl (fun hB => ld tf24 (.m rfl hB) rfl rfl) <| gd rfl rfl (fun hB => mv (.t rfl)) <| gd rfl rfl (fun hB => ia sf24 (.m rfl hB) (.m rfl hB) (ix_map cells_Size (gTt hx4 (nt hB)))) <| gd rfl rfl (fun hB => fr ff83_1 (.m rfl hB) rfl) <| gd rfl rfl (fun hB => lr tf3 (.m rfl hB) rfl) <| cg rfl rfl cf68 (fun hB => (ref24_in_c x4.high 0 65535)) (fun hB => .c (.m rfl hB) <| .c (.i rfl) <| .c (.i rfl) <| .n) (.inl rfl) <| gd rfl rfl (fun hB => no (.m rfl hB)) <| u (pko (.t rfl) (.t rfl)) <| .nil _) rfl ?_
        refine .bq h (.t rfl) (fun h => ?_) (fun h => ?_)
        · refine .sq ?_
          refine .rg (u (asg .b) <| .nil _) rfl ?_
          replace h := mpR h hx1
          obtain rfl := Option.some.inj h
          exact .rt Try.func36 (.t rfl <| .n) .n rfl rfl
        · refine .skp ?_
          refine .ib ?_
          refine .rg (u (mv (.t rfl)) <| u (bi (.t rfl) (.i rfl) rfl) <| u (asg (.t rfl)) <| .nil _) rfl ?_
          exact .kq (.il (ih1 ((ar .add .i64 v1 1), v2) (nxi h))) (.c rfl (.c rfl .n)) (.c rfl .n)
      · refine .xt rfl ?_
        replace h := mpR h hx1
        refine .sq ?_
        refine .sq ?_
        refine .rg (u (asg (.i rfl)) <| .nil _) rfl ?_
        refine .bl ?_
        unfold ref24_RightScale_l2 at h
        refine .kq (.lo (fun (s : Int × Scale) => ⟨[(1, .ptr 1 0), (4, .ro (.int .i64 s.1))], [(1, some (.box [.ro (.int .i64 s.2.layers), .ro (.bool s.2.hasSizes), .ro (.list 2 (List.map cells_Size s.2.sizes)), .ro (.bool s.2.hasPics), .ro (.list 3 (List.map cells_Group s.2.pics))]))]⟩) h ?_) (.c rfl (.c rfl .n)) (.c rfl .n)
        rintro ⟨v5, v6⟩ u2 h ih2 hx2
        replace h : ref24_RightScale_s2 z v5 v6 = _ := h
        unfold ref24_RightScale_s2 at h
        refine .sq ?_
        refine .sq ?_
        refine .rg (u (mv (.t rfl)) <| u (fa ff60_4 (.t rfl)) <| u (ld tf58 (.t rfl) rfl rfl) <| u (lnm sf58 (.t rfl)) <| u (bc (.t rfl) (.t rfl) rfl rfl) <| .nil _) rfl ?_
        refine .bq h (.t rfl) (fun h => ?_) (fun h => ?_)
        · refine .skp ?_
          refine .sq ?_
          refine .bl ?_
          refine .sq ?_
          refine .sq ?_
          refine be h fun x7 hx7 h => ?_
          refine be h fun x8 hx8 h => ?_
          refine .rg (u (fa ff60_4 (.t rfl)) <| u (ld tf58 (.t rfl) rfl rfl) <| u (mv (.t rfl)) <| u (ia sf58 (.t rfl) (.t rfl) (ix_map cells_Group hx7)) <| u (fr ff113_0 (.t rfl) rfl) <| u (lr tf3 (.t rfl) rfl) <| cl [] cf68 (ref24_in_c x7.tid 0 7) (.c (.t rfl) <| .c (.i rfl) <| .c (.i rfl) <| .n) (.inl rfl) <| u (no (.t rfl)) <| u (mv (.t rfl)) <| gd rfl rfl (fun hB => fa ff60_4 (.t rfl)) <| gd rfl rfl (fun hB => ld tf58 (.m rfl hB) rfl rfl) <| gd rfl rfl (fun hB => mv (.t rfl)) <| gd rfl rfl (fun hB => ia sf58 (.m rfl hB) (.m rfl hB) (ix_map cells_Group (gTt hx8 (nt hB)))) <| gd rfl rfl (fun hB => fr ff113_2 (.m rfl hB) rfl) <| gd rfl rfl (fun hB => lr tf22 (.m rfl hB) rfl) <| gd rfl rfl (fun hB => lnm sf22 (.m rfl hB)) <| gd rfl rfl (fun hB => bc (.m rfl hB) (.i rfl) rfl rfl) <| u (pko (.t rfl) (.t rfl)) <| .nil _) rfl ?_
          refine .bq h (.t rfl) (fun h => ?_) (fun h => ?_)
          · refine .sq ?_
            refine .rg (u (asg .b) <| .nil _) rfl ?_
            replace h := mpR h hx2
            obtain rfl := Option.some.inj h
            exact .rt Try.func36 (.t rfl <| .n) .n rfl rfl
          · refine .skp ?_
            refine .sq ?_
            refine .rg (u (asg (.i rfl)) <| .nil _) rfl ?_
            refine .bl ?_
            unfold ref24_RightScale_l3 at h
            refine .kq (.lo (fun (s : Int × Scale) => ⟨[(1, .ptr 1 0), (4, .ro (.int .i64 v5)), (5, .ro (.int .i64 s.1))], [(1, some (.box [.ro (.int .i64 s.2.layers), .ro (.bool s.2.hasSizes), .ro (.list 2 (List.map cells_Size s.2.sizes)), .ro (.bool s.2.hasPics), .ro (.list 3 (List.map cells_Group s.2.pics))]))]⟩) h ?_) (.c rfl (.c rfl (.c rfl .n))) (.c rfl .n)
            rintro ⟨v9, v10⟩ u3 h ih3 hx3
            replace h : ref24_RightScale_s3 z v5 v9 v10 = _ := h
            unfold ref24_RightScale_s3 at h
            refine .sq ?_
            refine .sq ?_
            refine be h fun x11 hx11 h => ?_
            refine .rg (u (mv (.t rfl)) <| u (fa ff60_4 (.t rfl)) <| u (ld tf58 (.t rfl) rfl rfl) <| u (mv (.t rfl)) <| u (ia sf58 (.t rfl) (.t rfl) (ix_map cells_Group hx11)) <| u (fr ff113_2 (.t rfl) rfl) <| u (lr tf22 (.t rfl) rfl) <| u (lnm sf22 (.t rfl)) <| u (bc (.t rfl) (.t rfl) rfl rfl) <| .nil _) rfl ?_
            refine .bq h (.t rfl) (fun h => ?_) (fun h => ?_)
            · refine .skp ?_
              refine .sq ?_
              refine .bl ?_
              refine .sq ?_
              refine be h fun x12 hx12 h => ?_
              refine be h fun x13 hx13 h => ?_
              refine .rg (u (fa ff60_4 (.t rfl)) <| u (ld tf58 (.t rfl) rfl rfl) <| u (mv (.t rfl)) <| u (ia sf58 (.t rfl) (.t rfl) (ix_map cells_Group hx12)) <| u (fr ff113_2 (.t rfl) rfl) <| u (lr tf22 (.t rfl) rfl) <| u (mv (.t rfl)) <| u (ia sf22 (.t rfl) (.t rfl) (ix_map (ei .i64) hx13)) <| u (lr tf3 (.t rfl) rfl) <| cl [] cf68 (ref24_in_c x13 0 255) (.c (.t rfl) <| .c (.i rfl) <| .c (.i rfl) <| .n) (.inl rfl) <| u (no (.t rfl)) <| .nil _) rfl ?_
              refine .bq h (.t rfl) (fun h => ?_) (fun h => ?_)
              · refine .sq ?_
                refine .rg (u (asg .b) <| .nil _) rfl ?_
                replace h := mpR h hx3
                replace h := mpR h hx2
                obtain rfl := Option.some.inj h
                exact .rt Try.func36 (.t rfl <| .n) .n rfl rfl
              · refine .skp ?_
                refine .ib ?_
                refine .rg (u (mv (.t rfl)) <| u (bi (.t rfl) (.i rfl) rfl) <| u (asg (.t rfl)) <| .nil _) rfl ?_
                exact .kq (.il (ih3 ((ar .add .i64 v9 1), v10) (nxi h))) (.c rfl (.c rfl (.c rfl .n))) (.c rfl .n)
            · refine .xt rfl ?_
              replace h := mpR h hx3
              refine .ib ?_
              refine .rg (u (mv (.t rfl)) <| u (bi (.t rfl) (.i rfl) rfl) <| u (asg (.t rfl)) <| .nil _) rfl ?_
              exact .kq (.il (ih2 ((ar .add .i64 v5 1), v10) (nxi h))) (.c rfl (.c rfl .n)) (.c rfl .n)
        · refine .xt rfl ?_
          replace h := mpR h hx2
          refine .sq ?_
          refine .rg (u (asg .b) <| .nil _) rfl ?_
          obtain rfl := Option.some.inj h
          exact .rt Try.func36 (.t rfl <| .n) .n rfl rfl

theorem ref24_Right_c {z : Option Nat} {p_d : Vp9} {r : Bool} (h : ref24_Right z p_d = some r) :
    AC Try.prog 29 [.ro (enc_Vp9 p_d)] (.ro (.bool r)) [] := by
  refine AC.of Try.func29 rfl rfl fun w M0 hM => ?_
  unfold ref24_Right at h
  refine .sq ?_
  refine .rg (bx 1 (.t rfl) rfl rfl <| u (asg .b) <| .nil _) rfl ?_
  refine .sq ?_
  refine .sq ?_
  refine .rg (u (fa ff62_0 (.t rfl)) <| u (ld tf4 (.t rfl) rfl rfl) <| u (no (.t rfl)) <| u (mv (.t rfl)) <| gd rfl rfl (fun hB => fa ff62_1 (.t rfl)) <| gd rfl rfl (fun hB => ld tf4 (.m rfl hB) rfl rfl) <| gd rfl rfl (fun hB => mv (.m rfl hB)) <| gm rfl rfl (fun hB => fa ff62_2 (.t rfl)) <| gm rfl rfl (fun hB => ld tf3 (.m rfl hB) rfl rfl) <| gm rfl rfl (fun hB => bc (.m rfl hB) (.i rfl) rfl rfl) <| gd rfl rfl (fun hB => pkom (.m rfl hB) (.t rfl) hB) <| u (pka (.t rfl) (.t rfl)) <| u (mv (.t rfl)) <| gd rfl rfl (fun hB => fa ff62_2 (.t rfl)) <| gd rfl rfl (fun hB => ld tf3 (.m rfl hB) rfl rfl) <| gd rfl rfl (fun hB => bc (.m rfl hB) (.i rfl) rfl rfl) <| u (pko (.t rfl) (.t rfl)) <| u (mv (.t rfl)) <| gd rfl rfl (fun hB => fa ff62_2 (.t rfl)) <| gd rfl rfl (fun hB => ld tf3 (.m rfl hB) rfl rfl) <| gd rfl rfl (fun hB => bc (.m rfl hB) (.i rfl) rfl rfl) <| u (pko (.t rfl) (.t rfl)) <| u (mv (.t rfl)) <| gd rfl rfl (fun hB => fa ff62_2 (.t rfl)) <| gd rfl rfl (fun hB => ld tf3 (.m rfl hB) rfl rfl) <| gd rfl rfl (fun hB => bc (.m rfl hB) (.i rfl) rfl rfl) <| gd rfl rfl (fun hB => mv (.m rfl hB)) <| gm rfl rfl (fun hB => fa ff62_1 (.t rfl)) <| gm rfl rfl (fun hB => ld tf4 (.m rfl hB) rfl rfl) <| gm rfl rfl (fun hB => no (.m rfl hB)) <| gd rfl rfl (fun hB => pkam (.m rfl hB) (.t rfl) hB) <| u (pko (.t rfl) (.t rfl)) <| .nil _) rfl ?_
  refine .bq h (.t rfl) (fun h => ?_) (fun h => ?_)
  · refine .sq ?_
    refine .rg (u (asg .b) <| .nil _) rfl ?_
    obtain rfl := Option.some.inj h
    exact .rt Try.func29 (.t rfl <| .n) .n rfl rfl
  · refine .skp ?_
    refine .sq ?_
    refine .sq ?_
    refine .rg (u (fa ff62_5 (.t rfl)) <| u (ld tf3 (.t rfl) rfl rfl) <| cl [] cf68 (ref24_in_c p_d.tid 0 7) (.c (.t rfl) <| .c (.i rfl) <| .c (.i rfl) <| .n) (.inl rfl) <| u (no (.t rfl)) <| u (mv (.t rfl)) <| gd rfl rfl (fun hB => fa ff62_6 (.t rfl)) <| gd rfl rfl (fun hB => ld tf3 (.m rfl hB) rfl rfl) <| cg rfl rfl cf68 (fun hB => (ref24_in_c p_d.sid 0 7)) (fun hB => .c (.m rfl hB) <| .c (.i rfl) <| .c (.i rfl) <| .n) (.inl rfl) <| gd rfl rfl (fun hB => no (.m rfl hB)) <| u (pko (.t rfl) (.t rfl)) <| u (mv (.t rfl)) <| gd rfl rfl (fun hB => fa ff62_10 (.t rfl)) <| gd rfl rfl (fun hB => ld tf3 (.m rfl hB) rfl rfl) <| cg rfl rfl cf68 (fun hB => (ref24_in_c p_d.level 0 255)) (fun hB => .c (.m rfl hB) <| .c (.i rfl) <| .c (.i rfl) <| .n) (.inl rfl) <| gd rfl rfl (fun hB => no (.m rfl hB)) <| u (pko (.t rfl) (.t rfl)) <| u (mv (.t rfl)) <| gd rfl rfl (fun hB => fa ff62_9 (.t rfl)) <| gd rfl rfl (fun hB => ld tf4 (.m rfl hB) rfl rfl) <| gd rfl rfl (fun hB => mv (.m rfl hB)) <| gm rfl rfl (fun hB => fa ff62_10 (.t rfl)) <| gm rfl rfl (fun hB => ld tf3 (.m rfl hB) rfl rfl) <| gm rfl rfl (fun hB => bc (.m rfl hB) (.i rfl) rfl rfl) <| gd rfl rfl (fun hB => pkam (.m rfl hB) (.t rfl) hB) <| u (pko (.t rfl) (.t rfl)) <| .nil _) rfl ?_
    refine .bq h (.t rfl) (fun h => ?_) (fun h => ?_)
    · refine .sq ?_
      refine .rg (u (asg .b) <| .nil _) rfl ?_
      obtain rfl := Option.some.inj h
      exact .rt Try.func29 (.t rfl <| .n) .n rfl rfl
    · refine .skp ?_
      refine .sq ?_
      refine .sq ?_
      refine .rg (u (fa ff62_4 (.t rfl)) <| u (ld tf4 (.t rfl) rfl rfl) <| u (no (.t rfl)) <| u (mv (.t rfl)) <| gd rfl rfl (fun hB => fa ff62_5 (.t rfl)) <| gd rfl rfl (fun hB => ld tf3 (.m rfl hB) rfl rfl) <| gd rfl rfl (fun hB => bc (.m rfl hB) (.i rfl) rfl rfl) <| gd rfl rfl (fun hB => mv (.m rfl hB)) <| gm rfl rfl (fun hB => fa ff62_6 (.t rfl)) <| gm rfl rfl (fun hB => ld tf3 (.m rfl hB) rfl rfl) <| gm rfl rfl (fun hB => bc (.m rfl hB) (.i rfl) rfl rfl) <| gd rfl rfl (fun hB => pkom (.m rfl hB) (.t rfl) hB) <| gd rfl rfl (fun hB => mv (.m rfl hB)) <| gm rfl rfl (fun hB => fa ff62_10 (.t rfl)) <| gm rfl rfl (fun hB => ld tf3 (.m rfl hB) rfl rfl) <| gm rfl rfl (fun hB => bc (.m rfl hB) (.i rfl) rfl rfl) <| gd rfl rfl (fun hB => pkom (.m rfl hB) (.t rfl) hB) <| gd rfl rfl (fun hB => mv (.m rfl hB)) <| gm rfl rfl (fun hB => fa ff62_7 (.t rfl)) <| gm rfl rfl (fun hB => ld tf4 (.m rfl hB) rfl rfl) <| gd rfl rfl (fun hB => pkom (.m rfl hB) (.t rfl) hB) <| gd rfl rfl (fun hB => mv (.m rfl hB)) <| gm rfl rfl (fun hB => fa ff62_8 (.t rfl)) <| gm rfl rfl (fun hB => ld tf4 (.m rfl hB) rfl rfl) <| gd rfl rfl (fun hB => pkom (.m rfl hB) (.t rfl) hB) <| u (pka (.t rfl) (.t rfl)) <| .nil _) rfl ?_
      refine .bq h (.t rfl) (fun h => ?_) (fun h => ?_)
      · refine .sq ?_
        refine .rg (u (asg .b) <| .nil _) rfl ?_
        obtain rfl := Option.some.inj h
        exact .rt Try.func29 (.t rfl <| .n) .n rfl rfl
      · refine .skp ?_
        refine .sq ?_
        refine .sq ?_
        refine .rg (u (fa ff62_9 (.t rfl)) <| u (ld tf4 (.t rfl) rfl rfl) <| u (mv (.t rfl)) <| gd rfl rfl (fun hB => fa ff62_3 (.t rfl)) <| gd rfl rfl (fun hB => ld tf4 (.m rfl hB) rfl rfl) <| u (pka (.t rfl) (.t rfl)) <| .nil _) rfl ?_
        refine .jq (t := some r) (fun (a : Vp9) => ⟨[(1, .ptr 1 0)], [(1, some (.box [.ro (.bool a.hasPic), .ro (.bool a.wide), .ro (.int .i64 a.pic), .ro (.bool a.inter), .ro (.bool a.hasLayer), .ro (.int .i64 a.tid), .ro (.int .i64 a.sid), .ro (.bool a.up), .ro (.bool a.depends), .ro (.bool a.flexible), .ro (.int .i64 a.level), .ro (.list 1 (List.map (ei .i64) a.refs)), .ro (.bool a.begin), .ro (.bool a.end_), .ro (.bool a.hasScale), .ro (.int .i64 a.scale.layers), .ro (.bool a.scale.hasSizes), .ro (.list 2 (List.map cells_Size a.scale.sizes)), .ro (.bool a.scale.hasPics), .ro (.list 3 (List.map cells_Group a.scale.pics)), .ro (.bool a.notRef)]))]⟩) (fun (a : Vp9) => ref24_Right_j1 z a) ?_ (fun J1 => ?_)
        · intro v1 h
          replace h : ref24_Right_j1 z v1 = _ := h
          unfold ref24_Right_j1 at h
          refine .sq ?_
          refine .sq ?_
          refine .rg (u (fa ff62_14 (.t rfl)) <| u (ld tf4 (.t rfl) rfl rfl) <| .nil _) rfl ?_
          refine .bq h (.t rfl) (fun h => ?_) (fun h => ?_)
          · refine .sq ?_
            refine be h fun x2 hx2 h => ?_
            refine .rg (u (fa ff62_15 (.t rfl)) <| u (ld tf60 (.t rfl) rfl rfl) <| cl [] cf36 (ref24_RightScale_c hx2) (.c (.t rfl) <| .n) (.inl rfl) <| u (asg (.t rfl)) <| .nil _) rfl ?_
            obtain rfl := Option.some.inj h
            exact .rt Try.func29 (.t rfl <| .n) .n rfl rfl
          · refine .skp ?_
            refine .sq ?_
            refine be h fun x3 hx3 h => ?_
            refine .rg (u (fa ff62_15 (.t rfl)) <| u (ld tf60 (.t rfl) rfl rfl) <| u (bd bf60 zf60 (.n) rfl) <| cl [] cf69 (ref24_SameScale_c hx3) (.c (.t rfl) <| .c (.t rfl) <| .n) (.inl rfl) <| u (asg (.t rfl)) <| .nil _) rfl ?_
            obtain rfl := Option.some.inj h
            exact .rt Try.func29 (.t rfl <| .n) .n rfl rfl
        refine .bq h (.t rfl) (fun h => ?_) (fun h => ?_)
        · refine .sq ?_
          refine .sq ?_
          refine .rg (u (fa ff62_11 (.t rfl)) <| u (ld tf22 (.t rfl) rfl rfl) <| u (lnm sf22 (.t rfl)) <| u (bc (.t rfl) (.i rfl) rfl rfl) <| u (mv (.t rfl)) <| gd rfl rfl (fun hB => fa ff62_11 (.t rfl)) <| gd rfl rfl (fun hB => ld tf22 (.m rfl hB) rfl rfl) <| gd rfl rfl (fun hB => lnm sf22 (.m rfl hB)) <| gd rfl rfl (fun hB => bc (.m rfl hB) (.i rfl) rfl rfl) <| u (pko (.t rfl) (.t rfl)) <| .nil _) rfl ?_
          refine .bq h (.t rfl) (fun h => ?_) (fun h => ?_)
          · refine .sq ?_
            refine .rg (u (asg .b) <| .nil _) rfl ?_
            obtain rfl := Option.some.inj h
            exact .rt Try.func29 (.t rfl <| .n) .n rfl rfl
          · refine .skp ?_
            refine .sq ?_
            refine .rg (u (asg (.i rfl)) <| .nil _) rfl ?_
            refine .bl ?_
            unfold ref24_Right_l2 at h
            refine .kq (.lo (fun (s : Int × Vp9) => ⟨[(1, .ptr 1 0), (3, .ro (.int .i64 s.1))], [(1, some (.box [.ro (.bool s.2.hasPic), .ro (.bool s.2.wide), .ro (.int .i64 s.2.pic), .ro (.bool s.2.inter), .ro (.bool s.2.hasLayer), .ro (.int .i64 s.2.tid), .ro (.int .i64 s.2.sid), .ro (.bool s.2.up), .ro (.bool s.2.depends), .ro (.bool s.2.flexible), .ro (.int .i64 s.2.level), .ro (.list 1 (List.map (ei .i64) s.2.refs)), .ro (.bool s.2.begin), .ro (.bool s.2.end_), .ro (.bool s.2.hasScale), .ro (.int .i64 s.2.scale.layers), .ro (.bool s.2.scale.hasSizes), .ro (.list 2 (List.map cells_Size s.2.scale.sizes)), .ro (.bool s.2.scale.hasPics), .ro (.list 3 (List.map cells_Group s.2.scale.pics)), .ro (.bool s.2.notRef)]))]⟩) h ?_) (.c rfl (.c rfl .n)) (.c rfl .n)
            rintro ⟨v4, v5⟩ u2 h ih2 hx2
            replace h : ref24_Right_s2 z v4 v5 = _ := h
            unfold ref24_Right_s2 at h
            refine .sq ?_
            refine .sq ?_
            refine .rg (u (mv (.t rfl)) <| u (fa ff62_11 (.t rfl)) <| u (ld tf22 (.t rfl) rfl rfl) <| u (lnm sf22 (.t rfl)) <| u (bc (.t rfl) (.t rfl) rfl rfl) <| .nil _) rfl ?_
            refine .bq h (.t rfl) (fun h => ?_) (fun h => ?_)
            · refine .skp ?_
              refine .sq ?_
              refine .bl ?_
              refine .sq ?_
              refine be h fun x6 hx6 h => ?_
              refine .rg (u (fa ff62_11 (.t rfl)) <| u (ld tf22 (.t rfl) rfl rfl) <| u (mv (.t rfl)) <| u (ia sf22 (.t rfl) (.t rfl) (ix_map (ei .i64) hx6)) <| u (lr tf3 (.t rfl) rfl) <| cl [] cf68 (ref24_in_c x6 1 127) (.c (.t rfl) <| .c (.i rfl) <| .c (.i rfl) <| .n) (.inl rfl) <| u (no (.t rfl)) <| .nil _) rfl ?_
              refine .bq h (.t rfl) (fun h => ?_) (fun h => ?_)
              · refine .sq ?_
                refine .rg (u (asg .b) <| .nil _) rfl ?_
                replace h := mpR h hx2
                obtain rfl := Option.some.inj h
                exact .rt Try.func29 (.t rfl <| .n) .n rfl rfl
              · refine .skp ?_
                refine .ib ?_
                refine .rg (u (mv (.t rfl)) <| u (bi (.t rfl) (.i rfl) rfl) <| u (asg (.t rfl)) <| .nil _) rfl ?_
                exact .kq (.il (ih2 ((ar .add .i64 v4 1), v5) (nxi h))) (.c rfl (.c rfl .n)) (.c rfl .n)
            · refine .xt rfl ?_
              replace h := mpR h hx2
              exact .kq (J1 v5 h) (.c rfl .n) (.c rfl .n)
        · refine .sq ?_
          refine .rg (u (fa ff62_11 (.t rfl)) <| u (ld tf22 (.t rfl) rfl rfl) <| u (lnm sf22 (.t rfl)) <| u (bc (.t rfl) (.i rfl) rfl rfl) <| .nil _) rfl ?_
          refine .bq h (.t rfl) (fun h => ?_) (fun h => ?_)
          · refine .sq ?_
            refine .rg (u (asg .b) <| .nil _) rfl ?_
            obtain rfl := Option.some.inj h
            exact .rt Try.func29 (.t rfl <| .n) .n rfl rfl
          · refine .skp ?_
            exact .kq (J1 p_d h) (.c rfl .n) (.c rfl .n)

theorem ref24_put_c (is_ : Bool) (n : Int) :
    AC Try.prog 71 [.ro (.bool is_), .ro (.int .i64 n)] (.ro (.int .i64 (ref24_put is_ n))) [] := by
  obtain ⟨r, h⟩ : ∃ r, ref24_put is_ n = r := ⟨_, rfl⟩
  rw [h]
  refine AC.of Try.func71 rfl rfl fun w M0 hM => ?_
  unfold ref24_put at h
  refine .sq ?_
  refine .rg (u (asg (.i rfl)) <| .nil _) rfl ?_
  refine .sq ?_
  refine .sq ?_
  refine .rg (u (mv (.t rfl)) <| .nil _) rfl ?_
  refine .bq h (.t rfl) (fun h => ?_) (fun h => ?_)
  · refine .sq ?_
    refine .rg (u (mv (.t rfl)) <| u (asg (.t rfl)) <| .nil _) rfl ?_
    subst h
    exact .rt Try.func71 (.t rfl <| .n) .n rfl rfl
  · refine .skp ?_
    refine .sq ?_
    refine .rg (u (asg (.i rfl)) <| .nil _) rfl ?_
    subst h
    exact .rt Try.func71 (.t rfl <| .n) .n rfl rfl

theorem ref24_Write_c {z : Option Nat} {p_d : Vp9} {r : List Int} (h : ref24_Write z p_d = some r) :
    AC Try.prog 31 [.ro (enc_Vp9 p_d)] (.own 0) [(0, .arr 5 1 (List.map e8 r))] := by
  refine AC.of Try.func31 rfl rfl fun w M0 hM => ?_
  unfold ref24_Write at h
  refine .sq ?_
  refine .rg (bx 1 (.t rfl) rfl rfl <| anm e8 2 5 1 rfl rfl <| .nil _) rfl ?_
  refine .sq ?_
  refine .rd mixed (u (fa ff62_0 (.t rfl)) <| u (ld tf4 (.t rfl) rfl rfl) <| cl [] cf71 (ref24_put_c p_d.hasPic 128) (.c (.t rfl) <| .c (.i rfl) <| .n) (.inl rfl) <| u (fa ff62_3 (.t rfl)) <| u (ld tf4 (.t rfl) rfl rfl) <| cl [] cf71 (ref24_put_c p_d.inter 64) (.c (.t rfl) <| .c (.i rfl) <| .n) (.inl rfl) <| u (bi (.t rfl) (.t rfl) rfl) <| u (fa ff62_4 (.t rfl)) <| u (ld tf4 (.t rfl) rfl rfl) <| cl [] cf71 (ref24_put_c p_d.hasLayer 32) (.c (.t rfl) <| .c (.i rfl) <| .n) (.inl rfl) <| u (bi (.t rfl) (.t rfl) rfl) <| u (fa ff62_9 (.t rfl)) <| u (ld tf4 (.t rfl) rfl rfl) <| cl [] cf71 (ref24_put_c p_d.flexible 16) (.c (.t rfl) <| .c (.i rfl) <| .n) (.inl rfl) <| u (bi (.t rfl) (.t rfl) rfl) <| u (fa ff62_12 (.t rfl)) <| u (ld tf4 (.t rfl) rfl rfl) <| cl [] cf71 (ref24_put_c p_d.begin 8) (.c (.t rfl) <| .c (.i rfl) <| .n) (.inl rfl) <| u (bi (.t rfl) (.t rfl) rfl) <| u (fa ff62_13 (.t rfl)) <| u (ld tf4 (.t rfl) rfl rfl) <| cl [] cf71 (ref24_put_c p_d.end_ 4) (.c (.t rfl) <| .c (.i rfl) <| .n) (.inl rfl) <| u (bi (.t rfl) (.t rfl) rfl) <| u (fa ff62_14 (.t rfl)) <| u (ld tf4 (.t rfl) rfl rfl) <| cl [] cf71 (ref24_put_c p_d.hasScale 2) (.c (.t rfl) <| .c (.i rfl) <| .n) (.inl rfl) <| u (bi (.t rfl) (.t rfl) rfl) <| u (fa ff62_16 (.t rfl)) <| u (ld tf4 (.t rfl) rfl rfl) <| cl [] cf71 (ref24_put_c p_d.notRef 1) (.c (.t rfl) <| .c (.i rfl) <| .n) (.inl rfl) <| u (bi (.t rfl) (.t rfl) rfl) <| u (cv cv3_5 (.t rfl)) <| bs (F := e8) (l := [(IntKind.u8.wrap (ar .add .i64 (ar .add .i64 (ar .add .i64 (ar .add .i64 (ar .add .i64 (ar .add .i64 (ar .add .i64 (ref24_put p_d.hasPic 128) (ref24_put p_d.inter 64)) (ref24_put p_d.hasLayer 32)) (ref24_put p_d.flexible 16)) (ref24_put p_d.begin 8)) (ref24_put p_d.end_ 4)) (ref24_put p_d.hasScale 2)) (ref24_put p_d.notRef 1)))]) 43 pf27 (.c (.t rfl) rfl <| .n) rfl (fun _ _ => rfl) rfl rfl <| u (asg (.t rfl)) <| .nil _) (by kernel_rfl) rfl ?_
  refine .sq ?_
  refine .sq ?_
  refine .rg (u (fa ff62_0 (.t rfl)) <| u (ld tf4 (.t rfl) rfl rfl) <| u (mv (.t rfl)) <| gd rfl rfl (fun hB => fa ff62_1 (.t rfl)) <| gd rfl rfl (fun hB => ld tf4 (.m rfl hB) rfl rfl) <| u (pka (.t rfl) (.t rfl)) <| .nil _) rfl ?_
  refine .jq (t := some r) (fun (a : List Int) => ⟨[(1, .ptr 1 0), (3, .own 3)], [(1, some (.box [.ro (.bool p_d.hasPic), .ro (.bool p_d.wide), .ro (.int .i64 p_d.pic), .ro (.bool p_d.inter), .ro (.bool p_d.hasLayer), .ro (.int .i64 p_d.tid), .ro (.int .i64 p_d.sid), .ro (.bool p_d.up), .ro (.bool p_d.depends), .ro (.bool p_d.flexible), .ro (.int .i64 p_d.level), .ro (.list 1 (List.map (ei .i64) p_d.refs)), .ro (.bool p_d.begin), .ro (.bool p_d.end_), .ro (.bool p_d.hasScale), .ro (.int .i64 p_d.scale.layers), .ro (.bool p_d.scale.hasSizes), .ro (.list 2 (List.map cells_Size p_d.scale.sizes)), .ro (.bool p_d.scale.hasPics), .ro (.list 3 (List.map cells_Group p_d.scale.pics)), .ro (.bool p_d.notRef)])), (3, some (.arr 5 1 (List.map e8 a)))]⟩) (fun (a : List Int) => ref24_Write_j1 z p_d a) ?_ (fun J1 => ?_)
  · intro v1 h
    replace h : ref24_Write_j1 z p_d v1 = _ := h
    unfold ref24_Write_j1 at h
    refine .sq ?_
    refine .sq ?_
    refine .rg (u (fa ff62_4 (.t rfl)) <| u (ld tf4 (.t rfl) rfl rfl) <| .nil _) rfl ?_
    refine .jq (t := some r) (fun (a : List Int × Vp9) => ⟨[(1, .ptr 1 0), (3, .own 3)], [(1, some (.box [.ro (.bool a.2.hasPic), .ro (.bool a.2.wide), .ro (.int .i64 a.2.pic), .ro (.bool a.2.inter), .ro (.bool a.2.hasLayer), .ro (.int .i64 a.2.tid), .ro (.int .i64 a.2.sid), .ro (.bool a.2.up), .ro (.bool a.2.depends), .ro (.bool a.2.flexible), .ro (.int .i64 a.2.level), .ro (.list 1 (List.map (ei .i64) a.2.refs)), .ro (.bool a.2.begin), .ro (.bool a.2.end_), .ro (.bool a.2.hasScale), .ro (.int .i64 a.2.scale.layers), .ro (.bool a.2.scale.hasSizes), .ro (.list 2 (List.map cells_Size a.2.scale.sizes)), .ro (.bool a.2.scale.hasPics), .ro (.list 3 (List.map cells_Group a.2.scale.pics)), .ro (.bool a.2.notRef)])), (3, some (.arr 5 1 (List.map e8 a.1)))]⟩) (fun (a : List Int × Vp9) => ref24_Write_j2 z a.1 a.2) ?_ (fun J2 => ?_)
    · rintro ⟨v2, v3⟩ h
      replace h : ref24_Write_j2 z v2 v3 = _ := h
      unfold ref24_Write_j2 at h
      refine .sq ?_
      refine .sq ?_
      refine .rg (u (asg (.i rfl)) <| .nil _) rfl ?_
      refine .bl ?_
      unfold ref24_Write_l3 at h
      refine .kq (.lo (fun (s : List Int × Int) => ⟨[(1, .ptr 1 0), (3, .own 3), (4, .ro (.int .i64 s.2))], [(1, some (.box [.ro (.bool v3.hasPic), .ro (.bool v3.wide), .ro (.int .i64 v3.pic), .ro (.bool v3.inter), .ro (.bool v3.hasLayer), .ro (.int .i64 v3.tid), .ro (.int .i64 v3.sid), .ro (.bool v3.up), .ro (.bool v3.depends), .ro (.bool v3.flexible), .ro (.int .i64 v3.level), .ro (.list 1 (List.map (ei .i64) v3.refs)), .ro (.bool v3.begin), .ro (.bool v3.end_), .ro (.bool v3.hasScale), .ro (.int .i64 v3.scale.layers), .ro (.bool v3.scale.hasSizes), .ro (.list 2 (List.map cells_Size v3.scale.sizes)), .ro (.bool v3.scale.hasPics), .ro (.list 3 (List.map cells_Group v3.scale.pics)), .ro (.bool v3.notRef)])), (3, some (.arr 5 1 (List.map e8 s.1)))]⟩) h ?_) (.c rfl (.c rfl (.c rfl .n))) (.c rfl (.c rfl .n))
      rintro ⟨v4, v5⟩ u3 h ih3 hx3
      replace h : ref24_Write_s3 z v3 v4 v5 = _ := h
      unfold ref24_Write_s3 at h
      refine .sq ?_
      refine .sq ?_
      refine .rg (u (mv (.t rfl)) <| u (fa ff62_11 (.t rfl)) <| u (ld tf22 (.t rfl) rfl rfl) <| u (lnm sf22 (.t rfl)) <| u (bc (.t rfl) (.t rfl) rfl rfl) <| .nil _) rfl ?_
      refine .bq h (.t rfl) (fun h => ?_) (fun h => ?_)
      · refine .skp ?_
        refine .sq ?_
        refine .bl ?_
        refine be h fun x6 hx6 h => ?_
        refine be h fun x7 hx7 h => ?_
        refine .rd mixed (u (mv (.t rfl)) <| u (fa ff62_11 (.t rfl)) <| u (ld tf22 (.t rfl) rfl rfl) <| u (mv (.t rfl)) <| u (ia sf22 (.t rfl) (.t rfl) (ix_map (ei .i64) hx6)) <| u (lr tf3 (.t rfl) rfl) <| u (bi (.i rfl) (.t rfl) rfl) <| u (mv (.t rfl)) <| u (bi (.t rfl) (.i rfl) rfl) <| u (fa ff62_11 (.t rfl)) <| u (ld tf22 (.t rfl) rfl rfl) <| u (lnm sf22 (.t rfl)) <| u (bc (.t rfl) (.t rfl) rfl rfl) <| cl [] cf71 (ref24_put_c (cm .lss (ar .add .i64 v5 1) (v3.refs.length : Int)) 1) (.c (.t rfl) <| .c (.i rfl) <| .n) (.inl rfl) <| u (bi (.t rfl) (.t rfl) rfl) <| u (cv cv3_5 (.t rfl)) <| bs (F := e8) (l := [(IntKind.u8.wrap (ar .add .i64 (ar .mul .i64 2 x6) (ref24_put (cm .lss (ar .add .i64 v5 1) (v3.refs.length : Int)) 1)))]) 123 pf27 (.c (.t rfl) rfl <| .n) rfl (fun _ _ => rfl) rfl rfl <| apo 124 pf27 (.t rfl) rfl (.t rfl) rfl hx7 rfl <| u (asg (.t rfl)) <| .nil _) (by kernel_rfl) rfl ?_
        refine .ib ?_
        refine .rg (u (mv (.t rfl)) <| u (bi (.t rfl) (.i rfl) rfl) <| u (asg (.t rfl)) <| .nil _) rfl ?_
        exact .ks (fun i => bif Nat.beq i 3 then 124 else i) (.il (ih3 (x7, (ar .add .i64 v5 1)) (nxi h))) (.c rfl (.c rfl (.c rfl .n))) (.c rfl (.c rfl .n)) rfl
      · refine .xt rfl ?_
        replace h := mpR h hx3
        refine .sq ?_
        refine .sq ?_
        refine .rg (u (fa ff62_14 (.t rfl)) <| u (ld tf4 (.t rfl) rfl rfl) <| u (no (.t rfl)) <| .nil _) rfl ?_
        refine .bq h (.t rfl) (fun h => ?_) (fun h => ?_)
        · refine .sq ?_
          refine .rg (u (mv (.t rfl)) <| u (asg (.t rfl)) <| .nil _) rfl ?_
          obtain rfl := Option.some.inj h
          refine .ks (l := [(2, .own 0)]) (o := [(0, some (.arr 5 1 (List.map e8 v4)))]) (fun i => bif Nat.beq i 0 then 3 else i) ?_ (.c rfl .n) (.c rfl .n) rfl
          exact .rt Try.func31 (.t rfl <| .n) (.c rfl .n) rfl rfl
        · refine .skp ?_
          refine .sq ?_
          refine .rg (u (fa ff62_15 (.t rfl)) <| u (ld tf60 (.t rfl) rfl rfl) <| al 5 zf60 rfl <| st tf60 (.t rfl) rfl (.t rfl) rfl rfl rfl <| .nil _) rfl ?_
          refine .sq ?_
          refine be h fun x8 hx8 h => ?_
          refine .rd mixed (u (mv (.t rfl)) <| u (fa ff60_0 (.t rfl)) <| u (ld tf3 (.t rfl) rfl rfl) <| u (bi (.t rfl) (.i rfl) rfl) <| u (bi (.i rfl) (.t rfl) rfl) <| u (fa ff60_1 (.t rfl)) <| u (ld tf4 (.t rfl) rfl rfl) <| cl [] cf71 (ref24_put_c v3.scale.hasSizes 16) (.c (.t rfl) <| .c (.i rfl) <| .n) (.inl rfl) <| u (bi (.t rfl) (.t rfl) rfl) <| u (fa ff60_3 (.t rfl)) <| u (ld tf4 (.t rfl) rfl rfl) <| cl [] cf71 (ref24_put_c v3.scale.hasPics 8) (.c (.t rfl) <| .c (.i rfl) <| .n) (.inl rfl) <| u (bi (.t rfl) (.t rfl) rfl) <| u (cv cv3_5 (.t rfl)) <| bs (F := e8) (l := [(IntKind.u8.wrap (ar .add .i64 (ar .add .i64 (ar .mul .i64 32 (ar .sub .i64 v3.scale.layers 1)) (ref24_put v3.scale.hasSizes 16)) (ref24_put v3.scale.hasPics 8)))]) 145 pf27 (.c (.t rfl) rfl <| .n) rfl (fun _ _ => rfl) rfl rfl <| apo 146 pf27 (.t rfl) rfl (.t rfl) rfl hx8 rfl <| u (asg (.t rfl)) <| .nil _) (by kernel_rfl) rfl ?_
          refine .sq ?_
          refine .sq ?_
          refine .rg (u (asg (.i rfl)) <| .nil _) rfl ?_
          refine .bl ?_
          unfold ref24_Write_l4 at h
          refine .ks (fun i => bif Nat.beq i 3 then 146 else i) (.lo (fun (s : List Int × Int) => ⟨[(3, .own 3), (5, .ptr 5 0), (6, .ro (.int .i64 s.2))], [(3, some (.arr 5 1 (List.map e8 s.1))), (5, some (.box [.ro (.int .i64 v3.scale.layers), .ro (.bool v3.scale.hasSizes), .ro (.list 2 (List.map cells_Size v3.scale.sizes)), .ro (.bool v3.scale.hasPics), .ro (.list 3 (List.map cells_Group v3.scale.pics))]))]⟩) h ?_) (.c rfl (.c rfl (.c rfl .n))) (.c rfl (.c rfl .n)) rfl
          rintro ⟨v9, v10⟩ u4 h ih4 hx4
          replace h : ref24_Write_s4 z v3 v9 v10 = _ := h
          unfold ref24_Write_s4 at h
          refine .sq ?_
          refine .sq ?_
          refine .rg (u (mv (.t rfl)) <| u (fa ff60_2 (.t rfl)) <| u (ld tf24 (.t rfl) rfl rfl) <| u (lnm sf24 (.t rfl)) <| u (bc (.t rfl) (.t rfl) rfl rfl) <| .nil _) rfl ?_
          refine .bq h (.t rfl) (fun h => ?_) (fun h => ?_)
          · refine .skp ?_
            refine .sq ?_
            refine .bl ?_
            refine .sq ?_
            refine be h fun x11 hx11 h => ?_
            refine .rg (u (fa ff60_2 (.t rfl)) <| u (ld tf24 (.t rfl) rfl rfl) <| u (mv (.t rfl)) <| u (ia sf24 (.t rfl) (.t rfl) (ix_map cells_Size hx11)) <| u (lr tf83 (.t rfl) rfl) <| al 7 zf83 rfl <| st tf83 (.t rfl) rfl (.t rfl) rfl rfl rfl <| .nil _) rfl ?_
            refine be h fun x12 hx12 h => ?_
            refine .rg (u (mv (.t rfl)) <| u (fa ff83_0 (.t rfl)) <| u (ld tf3 (.t rfl) rfl rfl) <| u (di (.t rfl) (.i rfl) rfl (by decide)) <| u (cv cv3_5 (.t rfl)) <| u (fa ff83_0 (.t rfl)) <| u (ld tf3 (.t rfl) rfl rfl) <| u (di (.t rfl) (.i rfl) rfl (by decide)) <| u (cv cv3_5 (.t rfl)) <| u (fa ff83_1 (.t rfl)) <| u (ld tf3 (.t rfl) rfl rfl) <| u (di (.t rfl) (.i rfl) rfl (by decide)) <| u (cv cv3_5 (.t rfl)) <| u (fa ff83_1 (.t rfl)) <| u (ld tf3 (.t rfl) rfl rfl) <| u (di (.t rfl) (.i rfl) rfl (by decide)) <| u (cv cv3_5 (.t rfl)) <| bs (F := e8) (l := [(IntKind.u8.wrap (dv .quo .i64 x11.wide 256)), (IntKind.u8.wrap (dv .rem .i64 x11.wide 256)), (IntKind.u8.wrap (dv .quo .i64 x11.high 256)), (IntKind.u8.wrap (dv .rem .i64 x11.high 256))]) 176 pf27 (.c (.t rfl) rfl <| .c (.t rfl) rfl <| .c (.t rfl) rfl <| .c (.t rfl) rfl <| .n) rfl (fun _ _ => rfl) rfl rfl <| apo 177 pf27 (.t rfl) rfl (.t rfl) rfl hx12 rfl <| u (asg (.t rfl)) <| .nil _) rfl ?_
            refine .ib ?_
            refine .rg (u (mv (.t rfl)) <| u (bi (.t rfl) (.i rfl) rfl) <| u (asg (.t rfl)) <| .nil _) rfl ?_
            exact .ks (fun i => bif Nat.beq i 3 then 177 else i) (.il (ih4 (x12, (ar .add .i64 v10 1)) (nxi h))) (.c rfl (.c rfl (.c rfl .n))) (.c rfl (.c rfl .n)) rfl
          · refine .xt rfl ?_
            replace h := mpR h hx4
            refine .sq ?_
            refine .sq ?_
            refine .rg (u (fa ff60_3 (.t rfl)) <| u (ld tf4 (.t rfl) rfl rfl) <| .nil _) rfl ?_
            refine .jq (t := some r) (fun (a : List Int) => ⟨[(3, .own 3), (5, .ptr 5 0)], [(3, some (.arr 5 1 (List.map e8 a))), (5, some (.box [.ro (.int .i64 v3.scale.layers), .ro (.bool v3.scale.hasSizes), .ro (.list 2 (List.map cells_Size v3.scale.sizes)), .ro (.bool v3.scale.hasPics), .ro (.list 3 (List.map cells_Group v3.scale.pics))]))]⟩) (fun (a : List Int) => ref24_Write_j5 z v3 a) ?_ (fun J5 => ?_)
            · intro v13 h
              replace h : ref24_Write_j5 z v3 v13 = _ := h
              unfold ref24_Write_j5 at h
              refine .sq ?_
              refine .sq ?_
              refine .rg (u (asg (.i rfl)) <| .nil _) rfl ?_
              refine .bl ?_
              unfold ref24_Write_l6 at h
              refine .kq (.lo (fun (s : List Int × Int) => ⟨[(3, .own 3), (5, .ptr 5 0), (8, .ro (.int .i64 s.2))], [(3, some (.arr 5 1 (List.map e8 s.1))), (5, some (.box [.ro (.int .i64 v3.scale.layers), .ro (.bool v3.scale.hasSizes), .ro (.list 2 (List.map cells_Size v3.scale.sizes)), .ro (.bool v3.scale.hasPics), .ro (.list 3 (List.map cells_Group v3.scale.pics))]))]⟩) h ?_) (.c rfl (.c rfl (.c rfl .n))) (.c rfl (.c rfl .n))
              rintro ⟨v14, v15⟩ u6 h ih6 hx6
              replace h : ref24_Write_s6 z v3 v14 v15 = _ := h
              unfold ref24_Write_s6 at h
              refine .sq ?_
              refine .sq ?_
              refine .rg (u (mv (.t rfl)) <| u (fa ff60_4 (.t rfl)) <| u (ld tf58 (.t rfl) rfl rfl) <| u (lnm sf58 (.t rfl)) <| u (bc (.t rfl) (.t rfl) rfl rfl) <| .nil _) rfl ?_
              refine .bq h (.t rfl) (fun h => ?_) (fun h => ?_)
              · refine .skp ?_
                refine .sq ?_
                refine .bl ?_
                refine .sq ?_
                refine be h fun x16 hx16 h => ?_
                refine .rg (u (fa ff60_4 (.t rfl)) <| u (ld tf58 (.t rfl) rfl rfl) <| u (mv (.t rfl)) <| u (ia sf58 (.t rfl) (.t rfl) (ix_map cells_Group hx16)) <| u (lr tf113 (.t rfl) rfl) <| al 9 zf113 rfl <| st tf113 (.t rfl) rfl (.t rfl) rfl rfl rfl <| .nil _) rfl ?_
                refine .sq ?_
                refine be h fun x17 hx17 h => ?_
                refine .rd mixed (u (mv (.t rfl)) <| u (fa ff113_0 (.t rfl)) <| u (ld tf3 (.t rfl) rfl rfl) <| u (bi (.i rfl) (.t rfl) rfl) <| u (fa ff113_1 (.t rfl)) <| u (ld tf4 (.t rfl) rfl rfl) <| cl [] cf71 (ref24_put_c x16.up 16) (.c (.t rfl) <| .c (.i rfl) <| .n) (.inl rfl) <| u (bi (.t rfl) (.t rfl) rfl) <| u (fa ff113_2 (.t rfl)) <| u (ld tf22 (.t rfl) rfl rfl) <| u (lnm sf22 (.t rfl)) <| u (bi (.i rfl) (.t rfl) rfl) <| u (bi (.t rfl) (.t rfl) rfl) <| u (cv cv3_5 (.t rfl)) <| bs (F := e8) (l := [(IntKind.u8.wrap (ar .add .i64 (ar .add .i64 (ar .mul .i64 32 x16.tid) (ref24_put x16.up 16)) (ar .mul .i64 4 (x16.refs.length : Int))))]) 213 pf27 (.c (.t rfl) rfl <| .n) rfl (fun _ _ => rfl) rfl rfl <| apo 214 pf27 (.t rfl) rfl (.t rfl) rfl hx17 rfl <| u (asg (.t rfl)) <| .nil _) (by kernel_rfl) rfl ?_
                refine .sq ?_
                refine .rg (u (asg (.i rfl)) <| .nil _) rfl ?_
                refine .bl ?_
                unfold ref24_Write_l7 at h
                refine .ks (fun i => bif Nat.beq i 3 then 214 else i) (.lo (fun (s : List Int × Int) => ⟨[(3, .own 3), (5, .ptr 5 0), (8, .ro (.int .i64 v15)), (9, .ptr 9 0), (10, .ro (.int .i64 s.2))], [(3, some (.arr 5 1 (List.map e8 s.1))), (5, some (.box [.ro (.int .i64 v3.scale.layers), .ro (.bool v3.scale.hasSizes), .ro (.list 2 (List.map cells_Size v3.scale.sizes)), .ro (.bool v3.scale.hasPics), .ro (.list 3 (List.map cells_Group v3.scale.pics))])), (9, some (.box [.ro (.int .i64 x16.tid), .ro (.bool x16.up), .ro (.list 1 (List.map (ei .i64) x16.refs))]))]⟩) h ?_) (.c rfl (.c rfl (.c rfl (.c rfl (.c rfl .n))))) (.c rfl (.c rfl (.c rfl .n))) rfl
                rintro ⟨v18, v19⟩ u7 h ih7 hx7
                replace h : ref24_Write_s7 z v15 x16 v18 v19 = _ := h
                unfold ref24_Write_s7 at h
                refine .sq ?_
                refine .sq ?_
                refine .rg (u (mv (.t rfl)) <| u (fa ff113_2 (.t rfl)) <| u (ld tf22 (.t rfl) rfl rfl) <| u (lnm sf22 (.t rfl)) <| u (bc (.t rfl) (.t rfl) rfl rfl) <| .nil _) rfl ?_
                refine .bq h (.t rfl) (fun h => ?_) (fun h => ?_)
                · refine .skp ?_
                  refine .sq ?_
                  refine .bl ?_
                  refine be h fun x20 hx20 h => ?_
                  refine be h fun x21 hx21 h => ?_
                  refine .rg (u (mv (.t rfl)) <| u (fa ff113_2 (.t rfl)) <| u (ld tf22 (.t rfl) rfl rfl) <| u (mv (.t rfl)) <| u (ia sf22 (.t rfl) (.t rfl) (ix_map (ei .i64) hx20)) <| u (lr tf3 (.t rfl) rfl) <| u (cv cv3_5 (.t rfl)) <| bs (F := e8) (l := [(IntKind.u8.wrap x20)]) 229 pf27 (.c (.t rfl) rfl <| .n) rfl (fun _ _ => rfl) rfl rfl <| apo 230 pf27 (.t rfl) rfl (.t rfl) rfl hx21 rfl <| u (asg (.t rfl)) <| .nil _) rfl ?_
                  refine .ib ?_
                  refine .rg (u (mv (.t rfl)) <| u (bi (.t rfl) (.i rfl) rfl) <| u (asg (.t rfl)) <| .nil _) rfl ?_
                  exact .ks (fun i => bif Nat.beq i 3 then 230 else i) (.il (ih7 (x21, (ar .add .i64 v19 1)) (nxi h))) (.c rfl (.c rfl (.c rfl (.c rfl (.c rfl .n))))) (.c rfl (.c rfl (.c rfl .n))) rfl
                · refine .xt rfl ?_
                  replace h := mpR h hx7
                  refine .ib ?_
                  refine .rg (u (mv (.t rfl)) <| u (bi (.t rfl) (.i rfl) rfl) <| u (asg (.t rfl)) <| .nil _) rfl ?_
                  exact .kq (.il (ih6 (v18, (ar .add .i64 v15 1)) (nxi h))) (.c rfl (.c rfl (.c rfl .n))) (.c rfl (.c rfl .n))
              · refine .xt rfl ?_
                replace h := mpR h hx6
                refine .sq ?_
                refine .rg (u (mv (.t rfl)) <| u (asg (.t rfl)) <| .nil _) rfl ?_
                obtain rfl := Option.some.inj h
                refine .ks (l := [(2, .own 0)]) (o := [(0, some (.arr 5 1 (List.map e8 v14)))]) (fun i => bif Nat.beq i 0 then 3 else i) ?_ (.c rfl .n) (.c rfl .n) rfl
                exact .rt Try.func31 (.t rfl <| .n) (.c rfl .n) rfl rfl
            refine .bq h (.t rfl) (fun h => ?_) (fun h => ?_)
            · refine be h fun x22 hx22 h => ?_
              refine .rg (u (mv (.t rfl)) <| u (fa ff60_4 (.t rfl)) <| u (ld tf58 (.t rfl) rfl rfl) <| u (lnm sf58 (.t rfl)) <| u (cv cv3_5 (.t rfl)) <| bs (F := e8) (l := [(IntKind.u8.wrap (v3.scale.pics.length : Int))]) 185 pf27 (.c (.t rfl) rfl <| .n) rfl (fun _ _ => rfl) rfl rfl <| apo 186 pf27 (.t rfl) rfl (.t rfl) rfl hx22 rfl <| u (asg (.t rfl)) <| .nil _) rfl ?_
              exact .ks (fun i => bif Nat.beq i 3 then 186 else i) (J5 x22 h) (.c rfl (.c rfl .n)) (.c rfl (.c rfl .n)) rfl
            · refine .skp ?_
              exact .kq (J5 v9 h) (.c rfl (.c rfl .n)) (.c rfl (.c rfl .n))
    refine .bq h (.t rfl) (fun h => ?_) (fun h => ?_)
    · refine .sq ?_
      refine be h fun x23 hx23 h => ?_
      refine .rd mixed (u (mv (.t rfl)) <| u (fa ff62_5 (.t rfl)) <| u (ld tf3 (.t rfl) rfl rfl) <| u (bi (.i rfl) (.t rfl) rfl) <| u (fa ff62_7 (.t rfl)) <| u (ld tf4 (.t rfl) rfl rfl) <| cl [] cf71 (ref24_put_c p_d.up 16) (.c (.t rfl) <| .c (.i rfl) <| .n) (.inl rfl) <| u (bi (.t rfl) (.t rfl) rfl) <| u (fa ff62_6 (.t rfl)) <| u (ld tf3 (.t rfl) rfl rfl) <| u (bi (.i rfl) (.t rfl) rfl) <| u (bi (.t rfl) (.t rfl) rfl) <| u (fa ff62_8 (.t rfl)) <| u (ld tf4 (.t rfl) rfl rfl) <| cl [] cf71 (ref24_put_c p_d.depends 1) (.c (.t rfl) <| .c (.i rfl) <| .n) (.inl rfl) <| u (bi (.t rfl) (.t rfl) rfl) <| u (cv cv3_5 (.t rfl)) <| bs (F := e8) (l := [(IntKind.u8.wrap (ar .add .i64 (ar .add .i64 (ar .add .i64 (ar .mul .i64 32 p_d.tid) (ref24_put p_d.up 16)) (ar .mul .i64 2 p_d.sid)) (ref24_put p_d.depends 1)))]) 89 pf27 (.c (.t rfl) rfl <| .n) rfl (fun _ _ => rfl) rfl rfl <| apo 90 pf27 (.t rfl) rfl (.t rfl) rfl hx23 rfl <| u (asg (.t rfl)) <| .nil _) (by kernel_rfl) rfl ?_
      refine .sq ?_
      refine .rg (u (fa ff62_9 (.t rfl)) <| u (ld tf4 (.t rfl) rfl rfl) <| u (no (.t rfl)) <| .nil _) rfl ?_
      refine .bq h (.t rfl) (fun h => ?_) (fun h => ?_)
      · refine be h fun x24 hx24 h => ?_
        refine .rg (u (mv (.t rfl)) <| u (fa ff62_10 (.t rfl)) <| u (ld tf3 (.t rfl) rfl rfl) <| u (cv cv3_5 (.t rfl)) <| bs (F := e8) (l := [(IntKind.u8.wrap p_d.level)]) 98 pf27 (.c (.t rfl) rfl <| .n) rfl (fun _ _ => rfl) rfl rfl <| apo 99 pf27 (.t rfl) rfl (.t rfl) rfl hx24 rfl <| u (asg (.t rfl)) <| .nil _) rfl ?_
        exact .ks (fun i => bif Nat.beq i 3 then 99 else i) (J2 (x24, p_d) h) (.c rfl (.c rfl .n)) (.c rfl (.c rfl .n)) rfl
      · refine .skp ?_
        exact .ks (fun i => bif Nat.beq i 3 then 90 else i) (J2 (x23, p_d) h) (.c rfl (.c rfl .n)) (.c rfl (.c rfl .n)) rfl
    · refine .skp ?_
      exact .kq (J2 (v1, p_d) h) (.c rfl (.c rfl .n)) (.c rfl (.c rfl .n))
  refine .bq h (.t rfl) (fun h => ?_) (fun h => ?_)
  · refine be h fun x25 hx25 h => ?_
    refine .rg (u (mv (.t rfl)) <| u (fa ff62_2 (.t rfl)) <| u (ld tf3 (.t rfl) rfl rfl) <| u (di (.t rfl) (.i rfl) rfl (by decide)) <| u (bi (.i rfl) (.t rfl) rfl) <| u (cv cv3_5 (.t rfl)) <| u (fa ff62_2 (.t rfl)) <| u (ld tf3 (.t rfl) rfl rfl) <| u (di (.t rfl) (.i rfl) rfl (by decide)) <| u (cv cv3_5 (.t rfl)) <| bs (F := e8) (l := [(IntKind.u8.wrap (ar .add .i64 128 (dv .quo .i64 p_d.pic 256))), (IntKind.u8.wrap (dv .rem .i64 p_d.pic 256))]) 60 pf27 (.c (.t rfl) rfl <| .c (.t rfl) rfl <| .n) rfl (fun _ _ => rfl) rfl rfl <| apo 61 pf27 (.t rfl) rfl (.t rfl) rfl hx25 rfl <| u (asg (.t rfl)) <| .nil _) rfl ?_
    exact .ks (fun i => bif Nat.beq i 3 then 61 else i) (J1 x25 h) (.c rfl (.c rfl .n)) (.c rfl (.c rfl .n)) rfl
  · refine .sq ?_
    refine .rg (u (fa ff62_0 (.t rfl)) <| u (ld tf4 (.t rfl) rfl rfl) <| .nil _) rfl ?_
    refine .bq h (.t rfl) (fun h => ?_) (fun h => ?_)
    · refine be h fun x26 hx26 h => ?_
      refine .rg (u (mv (.t rfl)) <| u (fa ff62_2 (.t rfl)) <| u (ld tf3 (.t rfl) rfl rfl) <| u (cv cv3_5 (.t rfl)) <| bs (F := e8) (l := [(IntKind.u8.wrap p_d.pic)]) 68 pf27 (.c (.t rfl) rfl <| .n) rfl (fun _ _ => rfl) rfl rfl <| apo 69 pf27 (.t rfl) rfl (.t rfl) rfl hx26 rfl <| u (asg (.t rfl)) <| .nil _) rfl ?_
      exact .ks (fun i => bif Nat.beq i 3 then 69 else i) (J1 x26 h) (.c rfl (.c rfl .n)) (.c rfl (.c rfl .n)) rfl
    · refine .skp ?_
      exact .ks (fun i => bif Nat.beq i 3 then 43 else i) (J1 [(IntKind.u8.wrap (ar .add .i64 (ar .add .i64 (ar .add .i64 (ar .add .i64 (ar .add .i64 (ar .add .i64 (ar .add .i64 (ref24_put p_d.hasPic 128) (ref24_put p_d.inter 64)) (ref24_put p_d.hasLayer 32)) (ref24_put p_d.flexible 16)) (ref24_put p_d.begin 8)) (ref24_put p_d.end_ 4)) (ref24_put p_d.hasScale 2)) (ref24_put p_d.notRef 1)))] h) (.c rfl (.c rfl .n)) (.c rfl (.c rfl .n)) rfl

theorem ref24_Write_r {z : Option Nat} {p_d : Vp9} {r : List Int} (h : ref24_Write z p_d = some r) :
    AC Try.prog 31 [.ro (enc_Vp9 p_d)] (.ro (.list 1 (List.map e8 r))) [] := AC.fz (ref24_Write_c h) rfl

theorem ref24_Eye_byte_y1_c {z : Option Nat} {box0 : crossbarref24_Eye} {r : Int × crossbarref24_Eye} (h : ref24_Eye_byte_y1 z box0 = some r) :
    AY Try.prog 72 [.ptr 9000 0] [(9000, [.list 1 (List.map e8 box0.b), .int .i64 box0.at_, .int .i64 box0.e])] [0] (.ro (.int .i64 r.1)) [] [(0, .ptr 9000 0)] [(9000, [.list 1 (List.map e8 r.2.b), .int .i64 r.2.at_, .int .i64 r.2.e])] := by
  refine AY.of Try.func72 rfl rfl fun w X M0 hM pv => ?_
  refine .kq (l := [(0, .ptr 9000 0)]) (o := [(9000, some (.box [.ro (.list 1 (List.map e8 box0.b)), .ro (.int .i64 box0.at_), .ro (.int .i64 box0.e)]))]) ?_ (.c rfl .n) (.c rfl .n)
  unfold ref24_Eye_byte_y1 at h
  refine .sq ?_
  refine .rg (u (asg (.i rfl)) <| .nil _) rfl ?_
  refine .sq ?_
  refine .sq ?_
  refine .rd mixed (u (mv (.t rfl)) <| u (nkp (.t rfl)) <| u (fa ff126_2 (.t rfl)) <| u (ld tf3 (.t rfl) rfl rfl) <| u (bc (.t rfl) (.i rfl) rfl rfl) <| u (mv (.t rfl)) <| gd rfl rfl (fun hB => mv (.t rfl)) <| gd rfl rfl (fun hB => nkp (.m rfl hB)) <| gd rfl rfl (fun hB => fa ff126_1 (.m rfl hB)) <| gd rfl rfl (fun hB => ld tf3 (.m rfl hB) rfl rfl) <| gd rfl rfl (fun hB => mv (.t rfl)) <| gd rfl rfl (fun hB => nkp (.m rfl hB)) <| gd rfl rfl (fun hB => fa ff126_0 (.m rfl hB)) <| gd rfl rfl (fun hB => ld tf27 (.m rfl hB) rfl rfl) <| gd rfl rfl (fun hB => lnm sf27 (.m rfl hB)) <| gd rfl rfl (fun hB => bc (.m rfl hB) (.m rfl hB) rfl rfl) <| u (pko (.t rfl) (.t rfl)) <| .nil _) (by kernel_rfl) rfl ?_
  refine .bq h (.t rfl) (fun h => ?_) (fun h => ?_)
  · refine .sq ?_
    refine .sq ?_
    refine .rg (u (mv (.t rfl)) <| u (nkp (.t rfl)) <| u (fa ff126_2 (.t rfl)) <| u (ld tf3 (.t rfl) rfl rfl) <| u (bc (.t rfl) (.i rfl) rfl rfl) <| .nil _) rfl ?_
    refine .jq (t := some r) (fun (a : crossbarref24_Eye) => ⟨[(0, .ptr 9000 0)], [(9000, some (.box [.ro (.list 1 (List.map e8 a.b)), .ro (.int .i64 a.at_), .ro (.int .i64 a.e)]))]⟩) (fun (a : crossbarref24_Eye) => ref24_Eye_byte_y1_j1 z a) ?_ (fun J1 => ?_)
    · intro v1 h
      replace h : ref24_Eye_byte_y1_j1 z v1 = _ := h
      unfold ref24_Eye_byte_y1_j1 at h
      refine .sq ?_
      refine .rg (u (asg (.i rfl)) <| .nil _) rfl ?_
      obtain rfl := Option.some.inj h
      exact .rtx (o := [(9000, some (.box [.ro (.list 1 (List.map e8 v1.b)), .ro (.int .i64 v1.at_), .ro (.int .i64 v1.e)]))]) Try.func72 (.t rfl <| .n) (.c rfl .n) rfl rfl (.c rfl .n) rfl
    refine .bq h (.t rfl) (fun h => ?_) (fun h => ?_)
    · refine .rg (u (mv (.t rfl)) <| u (nkp (.t rfl)) <| u (fa ff126_2 (.t rfl)) <| st tf3 (.t rfl) rfl (.i rfl) rfl rfl rfl <| .nil _) rfl ?_
      exact .kq (J1 ({ box0 with e := 2 }) h) (.c rfl .n) (.c rfl .n)
    · refine .skp ?_
      exact .kq (J1 box0 h) (.c rfl .n) (.c rfl .n)
  · refine .skp ?_
    refine .sq ?_
    refine .rg (u (mv (.t rfl)) <| u (nkp (.t rfl)) <| u (fa ff126_1 (.t rfl)) <| u (ld tf3 (.t rfl) rfl rfl) <| u (bi (.t rfl) (.i rfl) rfl) <| u (nkp (.t rfl)) <| u (fa ff126_1 (.t rfl)) <| st tf3 (.t rfl) rfl (.t rfl) rfl rfl rfl <| .nil _) rfl ?_
    refine .sq ?_
    refine be h fun x2 hx2 h => ?_
    refine .rd mixed (u (mv (.t rfl)) <| u (nkp (.t rfl)) <| u (fa ff126_0 (.t rfl)) <| u (ld tf27 (.t rfl) rfl rfl) <| u (mv (.t rfl)) <| u (nkp (.t rfl)) <| u (fa ff126_1 (.t rfl)) <| u (ld tf3 (.t rfl) rfl rfl) <| u (bi (.t rfl) (.i rfl) rfl) <| u (ia sf27 (.t rfl) (.t rfl) (ix_map e8 hx2)) <| u (lr tf5 (.t rfl) rfl) <| u (cv cv5_3 (.t rfl)) <| u (asg (.t rfl)) <| .nil _) (by kernel_rfl) rfl ?_
    obtain rfl := Option.some.inj h
    exact .rtx (o := [(9000, some (.box [.ro (.list 1 (List.map e8 box0.b)), .ro (.int .i64 (ar .add .i64 box0.at_ 1)), .ro (.int .i64 box0.e)]))]) Try.func72 (.t rfl <| .n) (.c rfl .n) rfl rfl (.c rfl .n) rfl

theorem ref24_Eye_scale_y1_c {z : Option Nat} {box0 : crossbarref24_Eye} {r : Scale × crossbarref24_Eye} (h : ref24_Eye_scale_y1 z box0 = some r) :
    AY Try.prog 73 [.ptr 9000 0] [(9000, [.list 1 (List.map e8 box0.b), .int .i64 box0.at_, .int .i64 box0.e])] [0] (.ro (enc_Scale r.1)) [] [(0, .ptr 9000 0)] [(9000, [.list 1 (List.map e8 r.2.b), .int .i64 r.2.at_, .int .i64 r.2.e])] := by
  refine AY.of Try.func73 rfl rfl fun w X M0 hM pv => ?_
  refine .kq (l := [(0, .ptr 9000 0)]) (o := [(9000, some (.box [.ro (.list 1 (List.map e8 box0.b)), .ro (.int .i64 box0.at_), .ro (.int .i64 box0.e)]))]) ?_ (.c rfl .n) (.c rfl .n)
  unfold ref24_Eye_scale_y1 at h
  refine .sq ?_
  refine .rg (al 2 zf60 rfl <| .nil _) rfl ?_
  refine .sq ?_
  refine be h fun x1 hx1 h => ?_
  refine .rg (u (mv (.t rfl)) <| cly 15000000 cf72 (AY.ly (fun i => bif Nat.beq i 9000 then 9000 else i) (ref24_Eye_byte_y1_c hx1) rfl rfl rfl rfl rfl rfl rfl)  (.c (.t rfl) <| .n) rfl (.c rfl <| .n) rfl <| u (asg (.t rfl)) <| .nil _) rfl ?_
  refine .sq ?_
  refine .rg (u (mv (.t rfl)) <| u (di (.t rfl) (.i rfl) rfl (by decide)) <| u (bi (.t rfl) (.i rfl) rfl) <| u (mv (.t rfl)) <| u (di (.t rfl) (.i rfl) rfl (by decide)) <| u (di (.t rfl) (.i rfl) rfl (by decide)) <| u (bc (.t rfl) (.i rfl) rfl rfl) <| u (mv (.t rfl)) <| u (di (.t rfl) (.i rfl) rfl (by decide)) <| u (di (.t rfl) (.i rfl) rfl (by decide)) <| u (bc (.t rfl) (.i rfl) rfl rfl) <| u (bd bf60 zf60_2_4 (.c rfl (.t rfl) rfl rfl rfl <| .c rfl (.t rfl) rfl rfl rfl <| .c rfl (.t rfl) rfl rfl rfl <| .n) rfl) <| al 4 zf60_2_4 rfl <| st tf60 (.t rfl) rfl (.t rfl) rfl rfl rfl <| .nil _) rfl ?_
  refine .th (F := cells_Size) 4 2 700402 83 2 rfl rfl rfl ?_
  refine .th (F := cells_Group) 4 4 700404 113 3 rfl rfl rfl ?_
  refine .sq ?_
  refine .sq ?_
  refine .rg (u (asg (.i rfl)) <| .nil _) rfl ?_
  refine .bl ?_
  unfold ref24_Eye_scale_y1_l1 at h
  refine .ks (fun i => bif Nat.beq i 10140004 then 700404 else bif Nat.beq i 10140002 then 700402 else i) (.lo (fun (s : Int × Scale × crossbarref24_Eye) => ⟨[(0, .ptr 9000 0), (2, .ptr 2 0), (4, .ptr 4 0), (5, .ro (.int .i64 s.1))], [(2, some (.box [.ro (.int .i64 0), .ro (.bool false), .ro (.list 2 (List.map cells_Size [])), .ro (.bool false), .ro (.list 3 (List.map cells_Group []))])), (4, some (.box [.ro (.int .i64 s.2.1.layers), .ro (.bool s.2.1.hasSizes), .own 10140002, .ro (.bool s.2.1.hasPics), .own 10140004])), (9000, some (.box [.ro (.list 1 (List.map e8 s.2.2.b)), .ro (.int .i64 s.2.2.at_), .ro (.int .i64 s.2.2.e)])), (10140002, some (.arr 83 2 (List.map cells_Size s.2.1.sizes))), (10140004, some (.arr 113 3 (List.map cells_Group s.2.1.pics)))]⟩) h ?_) (.c rfl (.c rfl (.c rfl (.c rfl .n)))) (.c rfl (.c rfl (.c rfl (.c rfl (.c rfl .n))))) rfl
  rintro ⟨v2, v3, v4⟩ u1 h ih1 hx1
  replace h : ref24_Eye_scale_y1_s1 z v2 v3 v4 = _ := h
  unfold ref24_Eye_scale_y1_s1 at h
  refine .sq ?_
  refine .sq ?_
  refine .rg (u (fa ff60_1 (.t rfl)) <| u (ld tf4 (.t rfl) rfl rfl) <| u (mv (.t rfl)) <| gd rfl rfl (fun hB => mv (.t rfl)) <| gd rfl rfl (fun hB => fa ff60_0 (.t rfl)) <| gd rfl rfl (fun hB => ld tf3 (.m rfl hB) rfl rfl) <| gd rfl rfl (fun hB => bc (.m rfl hB) (.m rfl hB) rfl rfl) <| u (pka (.t rfl) (.t rfl)) <| .nil _) rfl ?_
  refine .bq h (.t rfl) (fun h => ?_) (fun h => ?_)
  · refine .skp ?_
    refine .sq ?_
    refine .bl ?_
    refine .sq ?_
    refine be h fun x5 hx5 h => ?_
    refine .rg (u (mv (.t rfl)) <| cly 39000000 cf72 (AY.ly (fun i => bif Nat.beq i 9000 then 9000 else i) (ref24_Eye_byte_y1_c hx5) rfl rfl rfl rfl rfl rfl rfl)  (.c (.t rfl) <| .n) rfl (.c rfl <| .n) rfl <| u (bi (.i rfl) (.t rfl) rfl) <| u (asg (.t rfl)) <| .nil _) rfl ?_
    refine .sq ?_
    refine be h fun x6 hx6 h => ?_
    refine .rg (u (mv (.t rfl)) <| u (mv (.t rfl)) <| cly 43000000 cf72 (AY.ly (fun i => bif Nat.beq i 9000 then 9000 else i) (ref24_Eye_byte_y1_c hx6) rfl rfl rfl rfl rfl rfl rfl)  (.c (.t rfl) <| .n) rfl (.c rfl <| .n) rfl <| u (bi (.t rfl) (.t rfl) rfl) <| u (asg (.t rfl)) <| .nil _) rfl ?_
    refine .sq ?_
    refine be h fun x7 hx7 h => ?_
    refine .rg (u (mv (.t rfl)) <| cly 46000000 cf72 (AY.ly (fun i => bif Nat.beq i 9000 then 9000 else i) (ref24_Eye_byte_y1_c hx7) rfl rfl rfl rfl rfl rfl rfl)  (.c (.t rfl) <| .n) rfl (.c rfl <| .n) rfl <| u (bi (.i rfl) (.t rfl) rfl) <| u (asg (.t rfl)) <| .nil _) rfl ?_
    refine .sq ?_
    refine be h fun x8 hx8 h => ?_
    refine .rg (u (mv (.t rfl)) <| u (mv (.t rfl)) <| cly 50000000 cf72 (AY.ly (fun i => bif Nat.beq i 9000 then 9000 else i) (ref24_Eye_byte_y1_c hx8) rfl rfl rfl rfl rfl rfl rfl)  (.c (.t rfl) <| .n) rfl (.c rfl <| .n) rfl <| u (bi (.t rfl) (.t rfl) rfl) <| u (asg (.t rfl)) <| .nil _) rfl ?_
    refine be h fun x9 hx9 h => ?_
    refine .rg (u (fa ff60_2 (.t rfl)) <| u (ld tf24 (.t rfl) rfl rfl) <| u (mv (.t rfl)) <| u (mv (.t rfl)) <| u (bd bf83 zf83 (.c rfl (.t rfl) rfl rfl rfl <| .c rfl (.t rfl) rfl rfl rfl <| .n) rfl) <| bs (F := cells_Size) (l := [(Size.mk (ar .add .i64 (ar .mul .i64 256 x5.1) x6.1) (ar .add .i64 (ar .mul .i64 256 x7.1) x8.1))]) 56 pf24 (.c (.t rfl) rfl <| .n) rfl (fun _ _ => rfl) rfl rfl <| apo 57 pf24 (.t rfl) rfl (.t rfl) rfl hx9 rfl <| u (fa ff60_2 (.t rfl)) <| st tf24 (.t rfl) rfl (.t rfl) rfl rfl rfl <| .nil _) rfl ?_
    refine .ib ?_
    refine .rg (u (mv (.t rfl)) <| u (bi (.t rfl) (.i rfl) rfl) <| u (asg (.t rfl)) <| .nil _) rfl ?_
    exact .ks (fun i => bif Nat.beq i 10140002 then 57 else i) (.il (ih1 ((ar .add .i64 v2 1), { v3 with sizes := x9 }, x8.2) (nxi h))) (.c rfl (.c rfl (.c rfl (.c rfl .n)))) (.c rfl (.c rfl (.c rfl (.c rfl (.c rfl .n))))) rfl
  · refine .xt rfl ?_
    replace h := mpR h hx1
    refine .sq ?_
    refine .sq ?_
    refine .rg (u (fa ff60_3 (.t rfl)) <| u (ld tf4 (.t rfl) rfl rfl) <| u (no (.t rfl)) <| .nil _) rfl ?_
    refine .bq h (.t rfl) (fun h => ?_) (fun h => ?_)
    · refine .sq ?_
      refine .rg (u (ld tf60 (.t rfl) rfl rfl) <| st tf60 (.t rfl) rfl (.t rfl) rfl rfl rfl <| .nil _) rfl ?_
      refine .fz 10140002 rfl ?_
      refine .fz 10140004 rfl ?_
      obtain rfl := Option.some.inj h
      exact .rtx (o := [(9000, some (.box [.ro (.list 1 (List.map e8 v4.b)), .ro (.int .i64 v4.at_), .ro (.int .i64 v4.e)]))]) Try.func73 (.c tf60 rfl rfl rfl <| .n) (.c rfl .n) rfl rfl (.c rfl .n) rfl
    · refine .skp ?_
      refine .sq ?_
      refine be h fun x10 hx10 h => ?_
      refine .rg (u (mv (.t rfl)) <| cly 65000000 cf72 (AY.ly (fun i => bif Nat.beq i 9000 then 9000 else i) (ref24_Eye_byte_y1_c hx10) rfl rfl rfl rfl rfl rfl rfl)  (.c (.t rfl) <| .n) rfl (.c rfl <| .n) rfl <| u (asg (.t rfl)) <| .nil _) rfl ?_
      refine .sq ?_
      refine .sq ?_
      refine .rg (u (asg (.i rfl)) <| .nil _) rfl ?_
      refine .bl ?_
      unfold ref24_Eye_scale_y1_l2 at h
      refine .kq (.lo (fun (s : Int × Scale × crossbarref24_Eye) => ⟨[(0, .ptr 9000 0), (2, .ptr 2 0), (4, .ptr 4 0), (8, .ro (.int .i64 x10.1)), (9, .ro (.int .i64 s.1))], [(2, some (.box [.ro (.int .i64 0), .ro (.bool false), .ro (.list 2 (List.map cells_Size [])), .ro (.bool false), .ro (.list 3 (List.map cells_Group []))])), (4, some (.box [.ro (.int .i64 s.2.1.layers), .ro (.bool s.2.1.hasSizes), .own 10140002, .ro (.bool s.2.1.hasPics), .own 10140004])), (9000, some (.box [.ro (.list 1 (List.map e8 s.2.2.b)), .ro (.int .i64 s.2.2.at_), .ro (.int .i64 s.2.2.e)])), (10140002, some (.arr 83 2 (List.map cells_Size s.2.1.sizes))), (10140004, some (.arr 113 3 (List.map cells_Group s.2.1.pics)))]⟩) h ?_) (.c rfl (.c rfl (.c rfl (.c rfl (.c rfl .n))))) (.c rfl (.c rfl (.c rfl (.c rfl (.c rfl .n)))))
      rintro ⟨v11, v12, v13⟩ u2 h ih2 hx2
      replace h : ref24_Eye_scale_y1_s2 z x10 v11 v12 v13 = _ := h
      unfold ref24_Eye_scale_y1_s2 at h
      refine .sq ?_
      refine .sq ?_
      refine .rg (u (mv (.t rfl)) <| u (mv (.t rfl)) <| u (bc (.t rfl) (.t rfl) rfl rfl) <| u (mv (.t rfl)) <| gd rfl rfl (fun hB => mv (.t rfl)) <| gd rfl rfl (fun hB => nkp (.m rfl hB)) <| gd rfl rfl (fun hB => fa ff126_2 (.m rfl hB)) <| gd rfl rfl (fun hB => ld tf3 (.m rfl hB) rfl rfl) <| gd rfl rfl (fun hB => bc (.m rfl hB) (.i rfl) rfl rfl) <| u (pka (.t rfl) (.t rfl)) <| .nil _) rfl ?_
      refine .bq h (.t rfl) (fun h => ?_) (fun h => ?_)
      · refine .skp ?_
        refine .sq ?_
        refine .bl ?_
        refine .sq ?_
        refine be h fun x14 hx14 h => ?_
        refine .rg (u (mv (.t rfl)) <| cly 79000000 cf72 (AY.ly (fun i => bif Nat.beq i 9000 then 9000 else i) (ref24_Eye_byte_y1_c hx14) rfl rfl rfl rfl rfl rfl rfl)  (.c (.t rfl) <| .n) rfl (.c rfl <| .n) rfl <| u (asg (.t rfl)) <| .nil _) rfl ?_
        refine .sq ?_
        refine .rg (u (mv (.t rfl)) <| u (di (.t rfl) (.i rfl) rfl (by decide)) <| u (mv (.t rfl)) <| u (di (.t rfl) (.i rfl) rfl (by decide)) <| u (di (.t rfl) (.i rfl) rfl (by decide)) <| u (bc (.t rfl) (.i rfl) rfl rfl) <| u (bd bf113 zf113_2 (.c rfl (.t rfl) rfl rfl rfl <| .c rfl (.t rfl) rfl rfl rfl <| .n) rfl) <| al 11 zf113_2 rfl <| st tf113 (.t rfl) rfl (.t rfl) rfl rfl rfl <| .nil _) rfl ?_
        refine .th (F := (ei .i64)) 11 2 701102 3 1 rfl rfl rfl ?_
        refine .sq ?_
        refine .sq ?_
        refine .rg (u (asg (.i rfl)) <| .nil _) rfl ?_
        refine .bl ?_
        unfold ref24_Eye_scale_y1_l3 at h
        refine .ks (fun i => bif Nat.beq i 10210002 then 701102 else i) (.lo (fun (s : Int × Group × crossbarref24_Eye) => ⟨[(0, .ptr 9000 0), (2, .ptr 2 0), (4, .ptr 4 0), (8, .ro (.int .i64 x10.1)), (9, .ro (.int .i64 v11)), (10, .ro (.int .i64 x14.1)), (11, .ptr 11 0), (12, .ro (.int .i64 s.1))], [(2, some (.box [.ro (.int .i64 0), .ro (.bool false), .ro (.list 2 (List.map cells_Size [])), .ro (.bool false), .ro (.list 3 (List.map cells_Group []))])), (4, some (.box [.ro (.int .i64 v12.layers), .ro (.bool v12.hasSizes), .own 10140002, .ro (.bool v12.hasPics), .own 10140004])), (11, some (.box [.ro (.int .i64 s.2.1.tid), .ro (.bool s.2.1.up), .own 10210002])), (9000, some (.box [.ro (.list 1 (List.map e8 s.2.2.b)), .ro (.int .i64 s.2.2.at_), .ro (.int .i64 s.2.2.e)])), (10140002, some (.arr 83 2 (List.map cells_Size v12.sizes))), (10140004, some (.arr 113 3 (List.map cells_Group v12.pics))), (10210002, some (.arr 3 1 (List.map (ei .i64) s.2.1.refs)))]⟩) h ?_) (.c rfl (.c rfl (.c rfl (.c rfl (.c rfl (.c rfl (.c rfl (.c rfl .n)))))))) (.c rfl (.c rfl (.c rfl (.c rfl (.c rfl (.c rfl (.c rfl .n))))))) rfl
        rintro ⟨v15, v16, v17⟩ u3 h ih3 hx3
        replace h : ref24_Eye_scale_y1_s3 z v11 v12 x14 v15 v16 v17 = _ := h
        unfold ref24_Eye_scale_y1_s3 at h
        refine .sq ?_
        refine .sq ?_
        refine .rg (u (mv (.t rfl)) <| u (mv (.t rfl)) <| u (di (.t rfl) (.i rfl) rfl (by decide)) <| u (di (.t rfl) (.i rfl) rfl (by decide)) <| u (bc (.t rfl) (.t rfl) rfl rfl) <| .nil _) rfl ?_
        refine .bq h (.t rfl) (fun h => ?_) (fun h => ?_)
        · refine .skp ?_
          refine .sq ?_
          refine .bl ?_
          refine be h fun x18 hx18 h => ?_
          refine be h fun x19 hx19 h => ?_
          refine .rd mixed (u (fa ff113_2 (.t rfl)) <| u (ld tf22 (.t rfl) rfl rfl) <| u (mv (.t rfl)) <| cly 97000000 cf72 (AY.ly (fun i => bif Nat.beq i 9000 then 9000 else i) (ref24_Eye_byte_y1_c hx18) rfl rfl rfl rfl rfl rfl rfl)  (.c (.t rfl) <| .n) rfl (.c rfl <| .n) rfl <| bs (F := (ei .i64)) (l := [x18.1]) 97 pf22 (.c (.t rfl) rfl <| .n) rfl (fun _ _ => rfl) rfl rfl <| apo 98 pf22 (.t rfl) rfl (.t rfl) rfl hx19 rfl <| u (fa ff113_2 (.t rfl)) <| st tf22 (.t rfl) rfl (.t rfl) rfl rfl rfl <| .nil _) (by kernel_rfl) rfl ?_
          refine .ib ?_
          refine .rg (u (mv (.t rfl)) <| u (bi (.t rfl) (.i rfl) rfl) <| u (asg (.t rfl)) <| .nil _) rfl ?_
          exact .ks (fun i => bif Nat.beq i 10210002 then 98 else i) (.il (ih3 ((ar .add .i64 v15 1), { v16 with refs := x19 }, x18.2) (nxi h))) (.c rfl (.c rfl (.c rfl (.c rfl (.c rfl (.c rfl (.c rfl (.c rfl .n)))))))) (.c rfl (.c rfl (.c rfl (.c rfl (.c rfl (.c rfl (.c rfl .n))))))) rfl
        · refine .xt rfl ?_
          replace h := mpR h hx3
          refine .fz 10210002 rfl ?_
          refine be h fun x20 hx20 h => ?_
          refine .rg (u (fa ff60_4 (.t rfl)) <| u (ld tf58 (.t rfl) rfl rfl) <| u (ld tf113 (.t rfl) rfl rfl) <| bs (F := cells_Group) (l := [v16]) 103 pf58 (.c (.t rfl) rfl <| .n) rfl (fun _ _ => rfl) rfl rfl <| apo 104 pf58 (.t rfl) rfl (.t rfl) rfl hx20 rfl <| u (fa ff60_4 (.t rfl)) <| st tf58 (.t rfl) rfl (.t rfl) rfl rfl rfl <| .nil _) rfl ?_
          refine .ib ?_
          refine .rg (u (mv (.t rfl)) <| u (bi (.t rfl) (.i rfl) rfl) <| u (asg (.t rfl)) <| .nil _) rfl ?_
          exact .ks (fun i => bif Nat.beq i 10140004 then 104 else i) (.il (ih2 ((ar .add .i64 v11 1), { v12 with pics := x20 }, v17) (nxi h))) (.c rfl (.c rfl (.c rfl (.c rfl (.c rfl .n))))) (.c rfl (.c rfl (.c rfl (.c rfl (.c rfl .n))))) rfl
      · refine .xt rfl ?_
        replace h := mpR h hx2
        refine .sq ?_
        refine .rg (u (ld tf60 (.t rfl) rfl rfl) <| st tf60 (.t rfl) rfl (.t rfl) rfl rfl rfl <| .nil _) rfl ?_
        refine .fz 10140002 rfl ?_
        refine .fz 10140004 rfl ?_
        obtain rfl := Option.some.inj h
        exact .rtx (o := [(9000, some (.box [.ro (.list 1 (List.map e8 v13.b)), .ro (.int .i64 v13.at_), .ro (.int .i64 v13.e)]))]) Try.func73 (.c tf60 rfl rfl rfl <| .n) (.c rfl .n) rfl rfl (.c rfl .n) rfl

theorem ref24_Read_c {z : Option Nat} {b : List Int} {r : Vp9 × Int × Int} (h : ref24_Read z b = some r) :
    AC Try.prog 33 [.ro (.list 1 (List.map e8 b))] (.ro (.tup [enc_Vp9 r.1, .int .i64 r.2.1, .int .i64 r.2.2])) [] := by
  refine AC.of Try.func33 rfl rfl fun w M0 hM => ?_
  unfold ref24_Read at h
  refine .sq ?_
  refine .rg (al 2 zf62 rfl <| u (asg (.i rfl)) <| u (asg (.i rfl)) <| .nil _) rfl ?_
  refine .sq ?_
  refine .rg (u (mv (.t rfl)) <| u (bd bf126 zf126 (.c rfl (.t rfl) rfl rfl rfl <| .n) rfl) <| bx 12 (.t rfl) rfl rfl <| u (asg (.t rfl)) <| .nil _) rfl ?_
  refine .sq ?_
  refine be h fun x1 hx1 h => ?_
  refine .rg (u (mv (.t rfl)) <| cly 15000000 cf72 (AY.ly (fun i => bif Nat.beq i 9000 then 12 else i) (ref24_Eye_byte_y1_c hx1) rfl rfl rfl rfl rfl rfl rfl)  (.c (.t rfl) <| .n) rfl (.c rfl <| .n) rfl <| u (asg (.t rfl)) <| .nil _) rfl ?_
  refine .sq ?_
  refine .rg (u (mv (.t rfl)) <| u (di (.t rfl) (.i rfl) rfl (by decide)) <| u (bc (.t rfl) (.i rfl) rfl rfl) <| u (mv (.t rfl)) <| u (di (.t rfl) (.i rfl) rfl (by decide)) <| u (di (.t rfl) (.i rfl) rfl (by decide)) <| u (bc (.t rfl) (.i rfl) rfl rfl) <| u (mv (.t rfl)) <| u (di (.t rfl) (.i rfl) rfl (by decide)) <| u (di (.t rfl) (.i rfl) rfl (by decide)) <| u (bc (.t rfl) (.i rfl) rfl rfl) <| u (mv (.t rfl)) <| u (di (.t rfl) (.i rfl) rfl (by decide)) <| u (di (.t rfl) (.i rfl) rfl (by decide)) <| u (bc (.t rfl) (.i rfl) rfl rfl) <| u (bd bf62 zf62_11 (.c rfl (.t rfl) rfl rfl rfl <| .c rfl (.t rfl) rfl rfl rfl <| .c rfl (.t rfl) rfl rfl rfl <| .c rfl (.t rfl) rfl rfl rfl <| .n) rfl) <| al 7 zf62_11 rfl <| st tf62 (.t rfl) rfl (.t rfl) rfl rfl rfl <| .nil _) rfl ?_
  refine .th (F := (ei .i64)) 7 11 700711 3 1 rfl rfl rfl ?_
  refine .sq ?_
  refine .rg (u (mv (.t rfl)) <| u (di (.t rfl) (.i rfl) rfl (by decide)) <| u (di (.t rfl) (.i rfl) rfl (by decide)) <| u (bc (.t rfl) (.i rfl) rfl rfl) <| u (mv (.t rfl)) <| u (di (.t rfl) (.i rfl) rfl (by decide)) <| u (di (.t rfl) (.i rfl) rfl (by decide)) <| u (bc (.t rfl) (.i rfl) rfl rfl) <| u (mv (.t rfl)) <| u (di (.t rfl) (.i rfl) rfl (by decide)) <| u (di (.t rfl) (.i rfl) rfl (by decide)) <| u (bc (.t rfl) (.i rfl) rfl rfl) <| u (mv (.t rfl)) <| u (di (.t rfl) (.i rfl) rfl (by decide)) <| u (bc (.t rfl) (.i rfl) rfl rfl) <| u (fa ff62_12 (.t rfl)) <| st tf4 (.t rfl) rfl (.t rfl) rfl rfl rfl <| u (fa ff62_13 (.t rfl)) <| st tf4 (.t rfl) rfl (.t rfl) rfl rfl rfl <| u (fa ff62_14 (.t rfl)) <| st tf4 (.t rfl) rfl (.t rfl) rfl rfl rfl <| u (fa ff62_16 (.t rfl)) <| st tf4 (.t rfl) rfl (.t rfl) rfl rfl rfl <| .nil _) rfl ?_
  refine .sq ?_
  refine .sq ?_
  refine .rg (u (fa ff62_0 (.t rfl)) <| u (ld tf4 (.t rfl) rfl rfl) <| .nil _) rfl ?_
  refine .jq (t := some r) (fun (a : Vp9 × crossbarref24_Eye) => ⟨[(2, .ptr 2 0), (5, .ptr 12 0), (7, .ptr 7 0)], [(2, some (.box [.ro (.bool false), .ro (.bool false), .ro (.int .i64 0), .ro (.bool false), .ro (.bool false), .ro (.int .i64 0), .ro (.int .i64 0), .ro (.bool false), .ro (.bool false), .ro (.bool false), .ro (.int .i64 0), .ro (.list 1 (List.map (ei .i64) [])), .ro (.bool false), .ro (.bool false), .ro (.bool false), .ro (.int .i64 0), .ro (.bool false), .ro (.list 2 (List.map cells_Size [])), .ro (.bool false), .ro (.list 3 (List.map cells_Group [])), .ro (.bool false)])), (7, some (.box [.ro (.bool a.1.hasPic), .ro (.bool a.1.wide), .ro (.int .i64 a.1.pic), .ro (.bool a.1.inter), .ro (.bool a.1.hasLayer), .ro (.int .i64 a.1.tid), .ro (.int .i64 a.1.sid), .ro (.bool a.1.up), .ro (.bool a.1.depends), .ro (.bool a.1.flexible), .ro (.int .i64 a.1.level), .own 10170011, .ro (.bool a.1.begin), .ro (.bool a.1.end_), .ro (.bool a.1.hasScale), .ro (.int .i64 a.1.scale.layers), .ro (.bool a.1.scale.hasSizes), .ro (.list 2 (List.map cells_Size a.1.scale.sizes)), .ro (.bool a.1.scale.hasPics), .ro (.list 3 (List.map cells_Group a.1.scale.pics)), .ro (.bool a.1.notRef)])), (12, some (.box [.ro (.list 1 (List.map e8 a.2.b)), .ro (.int .i64 a.2.at_), .ro (.int .i64 a.2.e)])), (10170011, some (.arr 3 1 (List.map (ei .i64) a.1.refs)))]⟩) (fun (a : Vp9 × crossbarref24_Eye) => ref24_Read_j1 z a.1 a.2) ?_ (fun J1 => ?_)
  · rintro ⟨v2, v3⟩ h
    replace h : ref24_Read_j1 z v2 v3 = _ := h
    unfold ref24_Read_j1 at h
    refine .sq ?_
    refine .sq ?_
    refine .rg (u (fa ff62_4 (.t rfl)) <| u (ld tf4 (.t rfl) rfl rfl) <| .nil _) rfl ?_
    refine .jq (t := some r) (fun (a : Vp9 × crossbarref24_Eye) => ⟨[(2, .ptr 2 0), (5, .ptr 12 0), (7, .ptr 7 0)], [(2, some (.box [.ro (.bool false), .ro (.bool false), .ro (.int .i64 0), .ro (.bool false), .ro (.bool false), .ro (.int .i64 0), .ro (.int .i64 0), .ro (.bool false), .ro (.bool false), .ro (.bool false), .ro (.int .i64 0), .ro (.list 1 (List.map (ei .i64) [])), .ro (.bool false), .ro (.bool false), .ro (.bool false), .ro (.int .i64 0), .ro (.bool false), .ro (.list 2 (List.map cells_Size [])), .ro (.bool false), .ro (.list 3 (List.map cells_Group [])), .ro (.bool false)])), (7, some (.box [.ro (.bool a.1.hasPic), .ro (.bool a.1.wide), .ro (.int .i64 a.1.pic), .ro (.bool a.1.inter), .ro (.bool a.1.hasLayer), .ro (.int .i64 a.1.tid), .ro (.int .i64 a.1.sid), .ro (.bool a.1.up), .ro (.bool a.1.depends), .ro (.bool a.1.flexible), .ro (.int .i64 a.1.level), .own 10170011, .ro (.bool a.1.begin), .ro (.bool a.1.end_), .ro (.bool a.1.hasScale), .ro (.int .i64 a.1.scale.layers), .ro (.bool a.1.scale.hasSizes), .ro (.list 2 (List.map cells_Size a.1.scale.sizes)), .ro (.bool a.1.scale.hasPics), .ro (.list 3 (List.map cells_Group a.1.scale.pics)), .ro (.bool a.1.notRef)])), (12, some (.box [.ro (.list 1 (List.map e8 a.2.b)), .ro (.int .i64 a.2.at_), .ro (.int .i64 a.2.e)])), (10170011, some (.arr 3 1 (List.map (ei .i64) a.1.refs)))]⟩) (fun (a : Vp9 × crossbarref24_Eye) => ref24_Read_j2 z a.1 a.2) ?_ (fun J2 => ?_)
    · rintro ⟨v4, v5⟩ h
      replace h : ref24_Read_j2 z v4 v5 = _ := h
      unfold ref24_Read_j2 at h
      refine .sq ?_
      refine .sq ?_
      refine .rg (u (fa ff62_9 (.t rfl)) <| u (ld tf4 (.t rfl) rfl rfl) <| u (mv (.t rfl)) <| gd rfl rfl (fun hB => fa ff62_3 (.t rfl)) <| gd rfl rfl (fun hB => ld tf4 (.m rfl hB) rfl rfl) <| u (pka (.t rfl) (.t rfl)) <| .nil _) rfl ?_
      refine .jq (t := some r) (fun (a : Vp9 × crossbarref24_Eye) => ⟨[(2, .ptr 2 0), (5, .ptr 12 0), (7, .ptr 7 0)], [(2, some (.box [.ro (.bool false), .ro (.bool false), .ro (.int .i64 0), .ro (.bool false), .ro (.bool false), .ro (.int .i64 0), .ro (.int .i64 0), .ro (.bool false), .ro (.bool false), .ro (.bool false), .ro (.int .i64 0), .ro (.list 1 (List.map (ei .i64) [])), .ro (.bool false), .ro (.bool false), .ro (.bool false), .ro (.int .i64 0), .ro (.bool false), .ro (.list 2 (List.map cells_Size [])), .ro (.bool false), .ro (.list 3 (List.map cells_Group [])), .ro (.bool false)])), (7, some (.box [.ro (.bool a.1.hasPic), .ro (.bool a.1.wide), .ro (.int .i64 a.1.pic), .ro (.bool a.1.inter), .ro (.bool a.1.hasLayer), .ro (.int .i64 a.1.tid), .ro (.int .i64 a.1.sid), .ro (.bool a.1.up), .ro (.bool a.1.depends), .ro (.bool a.1.flexible), .ro (.int .i64 a.1.level), .own 10170011, .ro (.bool a.1.begin), .ro (.bool a.1.end_), .ro (.bool a.1.hasScale), .ro (.int .i64 a.1.scale.layers), .ro (.bool a.1.scale.hasSizes), .ro (.list 2 (List.map cells_Size a.1.scale.sizes)), .ro (.bool a.1.scale.hasPics), .ro (.list 3 (List.map cells_Group a.1.scale.pics)), .ro (.bool a.1.notRef)])), (12, some (.box [.ro (.list 1 (List.map e8 a.2.b)), .ro (.int .i64 a.2.at_), .ro (.int .i64 a.2.e)])), (10170011, some (.arr 3 1 (List.map (ei .i64) a.1.refs)))]⟩) (fun (a : Vp9 × crossbarref24_Eye) => ref24_Read_j3 z a.1 a.2) ?_ (fun J3 => ?_)
      · rintro ⟨v6, v7⟩ h
        replace h : ref24_Read_j3 z v6 v7 = _ := h
        unfold ref24_Read_j3 at h
        refine .sq ?_
        refine .sq ?_
        refine .rg (u (fa ff62_14 (.t rfl)) <| u (ld tf4 (.t rfl) rfl rfl) <| .nil _) rfl ?_
        refine .jq (t := some r) (fun (a : Vp9 × crossbarref24_Eye) => ⟨[(2, .ptr 2 0), (5, .ptr 12 0), (7, .ptr 7 0)], [(2, some (.box [.ro (.bool false), .ro (.bool false), .ro (.int .i64 0), .ro (.bool false), .ro (.bool false), .ro (.int .i64 0), .ro (.int .i64 0), .ro (.bool false), .ro (.bool false), .ro (.bool false), .ro (.int .i64 0), .ro (.list 1 (List.map (ei .i64) [])), .ro (.bool false), .ro (.bool false), .ro (.bool false), .ro (.int .i64 0), .ro (.bool false), .ro (.list 2 (List.map cells_Size [])), .ro (.bool false), .ro (.list 3 (List.map cells_Group [])), .ro (.bool false)])), (7, some (.box [.ro (.bool a.1.hasPic), .ro (.bool a.1.wide), .ro (.int .i64 a.1.pic), .ro (.bool a.1.inter), .ro (.bool a.1.hasLayer), .ro (.int .i64 a.1.tid), .ro (.int .i64 a.1.sid), .ro (.bool a.1.up), .ro (.bool a.1.depends), .ro (.bool a.1.flexible), .ro (.int .i64 a.1.level), .own 10170011, .ro (.bool a.1.begin), .ro (.bool a.1.end_), .ro (.bool a.1.hasScale), .ro (.int .i64 a.1.scale.layers), .ro (.bool a.1.scale.hasSizes), .ro (.list 2 (List.map cells_Size a.1.scale.sizes)), .ro (.bool a.1.scale.hasPics), .ro (.list 3 (List.map cells_Group a.1.scale.pics)), .ro (.bool a.1.notRef)])), (12, some (.box [.ro (.list 1 (List.map e8 a.2.b)), .ro (.int .i64 a.2.at_), .ro (.int .i64 a.2.e)])), (10170011, some (.arr 3 1 (List.map (ei .i64) a.1.refs)))]⟩) (fun (a : Vp9 × crossbarref24_Eye) => ref24_Read_j4 z a.1 a.2) ?_ (fun J4 => ?_)
        · rintro ⟨v8, v9⟩ h
          replace h : ref24_Read_j4 z v8 v9 = _ := h
          unfold ref24_Read_j4 at h
          refine .sq ?_
          refine .sq ?_
          refine .rg (u (mv (.t rfl)) <| u (nkp (.t rfl)) <| u (fa ff126_2 (.t rfl)) <| u (ld tf3 (.t rfl) rfl rfl) <| u (bc (.t rfl) (.i rfl) rfl rfl) <| .nil _) rfl ?_
          refine .bq h (.t rfl) (fun h => ?_) (fun h => ?_)
          · refine .sq ?_
            refine .rd mixed (u (bd bf62 zf62 (.n) rfl) <| u (mv (.t rfl)) <| u (nkp (.t rfl)) <| u (fa ff126_2 (.t rfl)) <| u (ld tf3 (.t rfl) rfl rfl) <| st tf62 (.t rfl) rfl (.t rfl) rfl rfl rfl <| u (asg (.i rfl)) <| u (asg (.t rfl)) <| .nil _) (by kernel_rfl) rfl ?_
            obtain rfl := Option.some.inj h
            exact .rt Try.func33 (.c tf62 rfl rfl rfl <| .t rfl <| .t rfl <| .n) .n rfl rfl
          · refine .skp ?_
            refine .sq ?_
            refine .rd mixed (u (ld tf62 (.t rfl) rfl rfl) <| u (mv (.t rfl)) <| u (nkp (.t rfl)) <| u (fa ff126_1 (.t rfl)) <| u (ld tf3 (.t rfl) rfl rfl) <| st tf62 (.t rfl) rfl (.t rfl) rfl rfl rfl <| u (asg (.t rfl)) <| u (asg (.i rfl)) <| .nil _) (by kernel_rfl) rfl ?_
            refine .fz 10170011 rfl ?_
            obtain rfl := Option.some.inj h
            exact .rt Try.func33 (.c tf62 rfl rfl rfl <| .t rfl <| .t rfl <| .n) .n rfl rfl
        refine .bq h (.t rfl) (fun h => ?_) (fun h => ?_)
        · refine be h fun x10 hx10 h => ?_
          refine .rg (u (mv (.t rfl)) <| cly 144000000 cf73 (AY.ly (fun i => bif Nat.beq i 9000 then 12 else i) (ref24_Eye_scale_y1_c hx10) rfl rfl rfl rfl rfl rfl rfl)  (.c (.t rfl) <| .n) rfl (.c rfl <| .n) rfl <| u (fa ff62_15 (.t rfl)) <| st tf60 (.t rfl) rfl (.t rfl) rfl rfl rfl <| .nil _) rfl ?_
          exact .kq (J4 ({ v6 with scale := x10.1 }, x10.2) h) (.c rfl (.c rfl (.c rfl .n))) (.c rfl (.c rfl (.c rfl (.c rfl .n))))
        · refine .skp ?_
          exact .kq (J4 (v6, v7) h) (.c rfl (.c rfl (.c rfl .n))) (.c rfl (.c rfl (.c rfl (.c rfl .n))))
      refine .bq h (.t rfl) (fun h => ?_) (fun h => ?_)
      · refine .bl ?_
        unfold ref24_Read_l5 at h
        refine .kq (.lo (fun (s : Vp9 × crossbarref24_Eye) => ⟨[(2, .ptr 2 0), (5, .ptr 12 0), (7, .ptr 7 0)], [(2, some (.box [.ro (.bool false), .ro (.bool false), .ro (.int .i64 0), .ro (.bool false), .ro (.bool false), .ro (.int .i64 0), .ro (.int .i64 0), .ro (.bool false), .ro (.bool false), .ro (.bool false), .ro (.int .i64 0), .ro (.list 1 (List.map (ei .i64) [])), .ro (.bool false), .ro (.bool false), .ro (.bool false), .ro (.int .i64 0), .ro (.bool false), .ro (.list 2 (List.map cells_Size [])), .ro (.bool false), .ro (.list 3 (List.map cells_Group [])), .ro (.bool false)])), (7, some (.box [.ro (.bool s.1.hasPic), .ro (.bool s.1.wide), .ro (.int .i64 s.1.pic), .ro (.bool s.1.inter), .ro (.bool s.1.hasLayer), .ro (.int .i64 s.1.tid), .ro (.int .i64 s.1.sid), .ro (.bool s.1.up), .ro (.bool s.1.depends), .ro (.bool s.1.flexible), .ro (.int .i64 s.1.level), .own 10170011, .ro (.bool s.1.begin), .ro (.bool s.1.end_), .ro (.bool s.1.hasScale), .ro (.int .i64 s.1.scale.layers), .ro (.bool s.1.scale.hasSizes), .ro (.list 2 (List.map cells_Size s.1.scale.sizes)), .ro (.bool s.1.scale.hasPics), .ro (.list 3 (List.map cells_Group s.1.scale.pics)), .ro (.bool s.1.notRef)])), (12, some (.box [.ro (.list 1 (List.map e8 s.2.b)), .ro (.int .i64 s.2.at_), .ro (.int .i64 s.2.e)])), (10170011, some (.arr 3 1 (List.map (ei .i64) s.1.refs)))]⟩) h ?_) (.c rfl (.c rfl (.c rfl .n))) (.c rfl (.c rfl (.c rfl (.c rfl .n))))
        rintro ⟨v11, v12⟩ u5 h ih5 hx5
        replace h : ref24_Read_s5 z v11 v12 = _ := h
        unfold ref24_Read_s5 at h
        refine .bl ?_
        refine .sq ?_
        refine be h fun x13 hx13 h => ?_
        refine .rg (u (mv (.t rfl)) <| cly 101000000 cf72 (AY.ly (fun i => bif Nat.beq i 9000 then 12 else i) (ref24_Eye_byte_y1_c hx13) rfl rfl rfl rfl rfl rfl rfl)  (.c (.t rfl) <| .n) rfl (.c rfl <| .n) rfl <| u (asg (.t rfl)) <| .nil _) rfl ?_
        refine .sq ?_
        refine .sq ?_
        refine .rg (u (mv (.t rfl)) <| u (nkp (.t rfl)) <| u (fa ff126_2 (.t rfl)) <| u (ld tf3 (.t rfl) rfl rfl) <| u (bc (.t rfl) (.i rfl) rfl rfl) <| .nil _) rfl ?_
        refine .bq h (.t rfl) (fun h => ?_) (fun h => ?_)
        · refine .xt rfl ?_
          replace h := mpR h hx5
          exact .kq (J3 (v11, x13.2) h) (.c rfl (.c rfl (.c rfl .n))) (.c rfl (.c rfl (.c rfl (.c rfl .n))))
        · refine .skp ?_
          refine .sq ?_
          refine be h fun x14 hx14 h => ?_
          refine .rg (u (fa ff62_11 (.t rfl)) <| u (ld tf22 (.t rfl) rfl rfl) <| u (mv (.t rfl)) <| u (di (.t rfl) (.i rfl) rfl (by decide)) <| bs (F := (ei .i64)) (l := [(dv .quo .i64 x13.1 2)]) 110 pf22 (.c (.t rfl) rfl <| .n) rfl (fun _ _ => rfl) rfl rfl <| apo 111 pf22 (.t rfl) rfl (.t rfl) rfl hx14 rfl <| u (fa ff62_11 (.t rfl)) <| st tf22 (.t rfl) rfl (.t rfl) rfl rfl rfl <| .nil _) rfl ?_
          refine .sq ?_
          refine .sq ?_
          refine .rg (u (mv (.t rfl)) <| u (di (.t rfl) (.i rfl) rfl (by decide)) <| u (bc (.t rfl) (.i rfl) rfl rfl) <| u (mv (.t rfl)) <| gd rfl rfl (fun hB => mv (.t rfl)) <| gd rfl rfl (fun hB => di (.m rfl hB) (.i rfl) rfl (by decide)) <| gd rfl rfl (fun hB => bc (.m rfl hB) (.i rfl) rfl rfl) <| gd rfl rfl (fun hB => mv (.m rfl hB)) <| gm rfl rfl (fun hB => fa ff62_11 (.t rfl)) <| gm rfl rfl (fun hB => ld tf22 (.m rfl hB) rfl rfl) <| gm rfl rfl (fun hB => lom sf22 (.m rfl hB) rfl) <| gm rfl rfl (fun hB => bc (.m rfl hB) (.i rfl) rfl rfl) <| gd rfl rfl (fun hB => pkam (.m rfl hB) (.t rfl) hB) <| u (pko (.t rfl) (.t rfl)) <| .nil _) rfl ?_
          refine .jq (t := some u5) (fun (a : crossbarref24_Eye) => ⟨[(2, .ptr 2 0), (5, .ptr 12 0), (7, .ptr 7 0), (9, .ro (.int .i64 x13.1))], [(2, some (.box [.ro (.bool false), .ro (.bool false), .ro (.int .i64 0), .ro (.bool false), .ro (.bool false), .ro (.int .i64 0), .ro (.int .i64 0), .ro (.bool false), .ro (.bool false), .ro (.bool false), .ro (.int .i64 0), .ro (.list 1 (List.map (ei .i64) [])), .ro (.bool false), .ro (.bool false), .ro (.bool false), .ro (.int .i64 0), .ro (.bool false), .ro (.list 2 (List.map cells_Size [])), .ro (.bool false), .ro (.list 3 (List.map cells_Group [])), .ro (.bool false)])), (7, some (.box [.ro (.bool v11.hasPic), .ro (.bool v11.wide), .ro (.int .i64 v11.pic), .ro (.bool v11.inter), .ro (.bool v11.hasLayer), .ro (.int .i64 v11.tid), .ro (.int .i64 v11.sid), .ro (.bool v11.up), .ro (.bool v11.depends), .ro (.bool v11.flexible), .ro (.int .i64 v11.level), .own 111, .ro (.bool v11.begin), .ro (.bool v11.end_), .ro (.bool v11.hasScale), .ro (.int .i64 v11.scale.layers), .ro (.bool v11.scale.hasSizes), .ro (.list 2 (List.map cells_Size v11.scale.sizes)), .ro (.bool v11.scale.hasPics), .ro (.list 3 (List.map cells_Group v11.scale.pics)), .ro (.bool v11.notRef)])), (12, some (.box [.ro (.list 1 (List.map e8 a.b)), .ro (.int .i64 a.at_), .ro (.int .i64 a.e)])), (111, some (.arr 3 1 (List.map (ei .i64) x14)))]⟩) (fun (a : crossbarref24_Eye) => ref24_Read_j6 z v11 x13 x14 a) ?_ (fun J6 => ?_)
          · intro v15 h
            replace h : ref24_Read_j6 z v11 x13 x14 v15 = _ := h
            unfold ref24_Read_j6 at h
            refine .sq ?_
            refine .rg (u (mv (.t rfl)) <| u (di (.t rfl) (.i rfl) rfl (by decide)) <| u (bc (.t rfl) (.i rfl) rfl rfl) <| u (mv (.t rfl)) <| gd rfl rfl (fun hB => mv (.t rfl)) <| gd rfl rfl (fun hB => nkp (.m rfl hB)) <| gd rfl rfl (fun hB => fa ff126_2 (.m rfl hB)) <| gd rfl rfl (fun hB => ld tf3 (.m rfl hB) rfl rfl) <| gd rfl rfl (fun hB => bc (.m rfl hB) (.i rfl) rfl rfl) <| u (pko (.t rfl) (.t rfl)) <| .nil _) rfl ?_
            refine .bq h (.t rfl) (fun h => ?_) (fun h => ?_)
            · refine .xt rfl ?_
              replace h := mpR h hx5
              exact .ks (fun i => bif Nat.beq i 10170011 then 111 else i) (J3 ({ v11 with refs := x14 }, v15) h) (.c rfl (.c rfl (.c rfl .n))) (.c rfl (.c rfl (.c rfl (.c rfl .n)))) rfl
            · refine .skp ?_
              refine .ib ?_
              exact .ks (fun i => bif Nat.beq i 10170011 then 111 else i) (.il (ih5 ({ v11 with refs := x14 }, v15) (nxi h))) (.c rfl (.c rfl (.c rfl .n))) (.c rfl (.c rfl (.c rfl (.c rfl .n)))) rfl
          refine .bq h (.t rfl) (fun h => ?_) (fun h => ?_)
          · refine .rg (u (mv (.t rfl)) <| u (nkp (.t rfl)) <| u (fa ff126_2 (.t rfl)) <| st tf3 (.t rfl) rfl (.i rfl) rfl rfl rfl <| .nil _) rfl ?_
            exact .kq (J6 ({ x13.2 with e := 6 }) h) (.c rfl (.c rfl (.c rfl (.c rfl .n)))) (.c rfl (.c rfl (.c rfl (.c rfl .n))))
          · refine .skp ?_
            exact .kq (J6 x13.2 h) (.c rfl (.c rfl (.c rfl (.c rfl .n)))) (.c rfl (.c rfl (.c rfl (.c rfl .n))))
      · refine .skp ?_
        exact .kq (J3 (v4, v5) h) (.c rfl (.c rfl (.c rfl .n))) (.c rfl (.c rfl (.c rfl (.c rfl .n))))
    refine .bq h (.t rfl) (fun h => ?_) (fun h => ?_)
    · refine .sq ?_
      refine be h fun x16 hx16 h => ?_
      refine .rg (u (mv (.t rfl)) <| cly 71000000 cf72 (AY.ly (fun i => bif Nat.beq i 9000 then 12 else i) (ref24_Eye_byte_y1_c hx16) rfl rfl rfl rfl rfl rfl rfl)  (.c (.t rfl) <| .n) rfl (.c rfl <| .n) rfl <| u (asg (.t rfl)) <| .nil _) rfl ?_
      refine .sq ?_
      refine .rg (u (mv (.t rfl)) <| u (di (.t rfl) (.i rfl) rfl (by decide)) <| u (mv (.t rfl)) <| u (di (.t rfl) (.i rfl) rfl (by decide)) <| u (di (.t rfl) (.i rfl) rfl (by decide)) <| u (bc (.t rfl) (.i rfl) rfl rfl) <| u (mv (.t rfl)) <| u (di (.t rfl) (.i rfl) rfl (by decide)) <| u (di (.t rfl) (.i rfl) rfl (by decide)) <| u (mv (.t rfl)) <| u (di (.t rfl) (.i rfl) rfl (by decide)) <| u (bc (.t rfl) (.i rfl) rfl rfl) <| u (fa ff62_5 (.t rfl)) <| st tf3 (.t rfl) rfl (.t rfl) rfl rfl rfl <| u (fa ff62_7 (.t rfl)) <| st tf4 (.t rfl) rfl (.t rfl) rfl rfl rfl <| u (fa ff62_6 (.t rfl)) <| st tf3 (.t rfl) rfl (.t rfl) rfl rfl rfl <| u (fa ff62_8 (.t rfl)) <| st tf4 (.t rfl) rfl (.t rfl) rfl rfl rfl <| .nil _) rfl ?_
      refine .sq ?_
      refine .rg (u (fa ff62_9 (.t rfl)) <| u (ld tf4 (.t rfl) rfl rfl) <| u (no (.t rfl)) <| .nil _) rfl ?_
      refine .bq h (.t rfl) (fun h => ?_) (fun h => ?_)
      · refine be h fun x17 hx17 h => ?_
        refine .rg (u (mv (.t rfl)) <| cly 92000000 cf72 (AY.ly (fun i => bif Nat.beq i 9000 then 12 else i) (ref24_Eye_byte_y1_c hx17) rfl rfl rfl rfl rfl rfl rfl)  (.c (.t rfl) <| .n) rfl (.c rfl <| .n) rfl <| u (fa ff62_10 (.t rfl)) <| st tf3 (.t rfl) rfl (.t rfl) rfl rfl rfl <| .nil _) rfl ?_
        exact .kq (J2 ({ v2 with tid := (dv .quo .i64 x16.1 32), sid := (dv .rem .i64 (dv .quo .i64 x16.1 2) 8), up := (cm .eql (dv .rem .i64 (dv .quo .i64 x16.1 16) 2) 1), depends := (cm .eql (dv .rem .i64 x16.1 2) 1), level := x17.1 }, x17.2) h) (.c rfl (.c rfl (.c rfl .n))) (.c rfl (.c rfl (.c rfl (.c rfl .n))))
      · refine .skp ?_
        exact .kq (J2 ({ v2 with tid := (dv .quo .i64 x16.1 32), sid := (dv .rem .i64 (dv .quo .i64 x16.1 2) 8), up := (cm .eql (dv .rem .i64 (dv .quo .i64 x16.1 16) 2) 1), depends := (cm .eql (dv .rem .i64 x16.1 2) 1) }, x16.2) h) (.c rfl (.c rfl (.c rfl .n))) (.c rfl (.c rfl (.c rfl (.c rfl .n))))
    · refine .skp ?_
      exact .kq (J2 (v2, v3) h) (.c rfl (.c rfl (.c rfl .n))) (.c rfl (.c rfl (.c rfl (.c rfl .n))))
  refine .bq h (.t rfl) (fun h => ?_) (fun h => ?_)
  · refine .sq ?_
    refine be h fun x18 hx18 h => ?_
    refine .rg (u (mv (.t rfl)) <| cly 54000000 cf72 (AY.ly (fun i => bif Nat.beq i 9000 then 12 else i) (ref24_Eye_byte_y1_c hx18) rfl rfl rfl rfl rfl rfl rfl)  (.c (.t rfl) <| .n) rfl (.c rfl <| .n) rfl <| u (fa ff62_2 (.t rfl)) <| st tf3 (.t rfl) rfl (.t rfl) rfl rfl rfl <| .nil _) rfl ?_
    refine .sq ?_
    refine .rg (u (fa ff62_2 (.t rfl)) <| u (ld tf3 (.t rfl) rfl rfl) <| u (bc (.t rfl) (.i rfl) rfl rfl) <| .nil _) rfl ?_
    refine .bq h (.t rfl) (fun h => ?_) (fun h => ?_)
    · refine .sq ?_
      refine .rg (u (fa ff62_1 (.t rfl)) <| st tf4 (.t rfl) rfl .b rfl rfl rfl <| .nil _) rfl ?_
      refine be h fun x19 hx19 h => ?_
      refine .rd mixed (u (fa ff62_2 (.t rfl)) <| u (ld tf3 (.t rfl) rfl rfl) <| u (bi (.t rfl) (.i rfl) rfl) <| u (bi (.i rfl) (.t rfl) rfl) <| u (mv (.t rfl)) <| cly 65000000 cf72 (AY.ly (fun i => bif Nat.beq i 9000 then 12 else i) (ref24_Eye_byte_y1_c hx19) rfl rfl rfl rfl rfl rfl rfl)  (.c (.t rfl) <| .n) rfl (.c rfl <| .n) rfl <| u (bi (.t rfl) (.t rfl) rfl) <| u (fa ff62_2 (.t rfl)) <| st tf3 (.t rfl) rfl (.t rfl) rfl rfl rfl <| .nil _) (by kernel_rfl) rfl ?_
      exact .ks (fun i => bif Nat.beq i 10170011 then 700711 else i) (J1 ((Vp9.mk (cm .eql (dv .quo .i64 x1.1 128) 1) true (ar .add .i64 (ar .mul .i64 256 (ar .sub .i64 x18.1 128)) x19.1) (cm .eql (dv .rem .i64 (dv .quo .i64 x1.1 64) 2) 1) (cm .eql (dv .rem .i64 (dv .quo .i64 x1.1 32) 2) 1) 0 0 false false (cm .eql (dv .rem .i64 (dv .quo .i64 x1.1 16) 2) 1) 0 ([] : List Int) (cm .eql (dv .rem .i64 (dv .quo .i64 x1.1 8) 2) 1) (cm .eql (dv .rem .i64 (dv .quo .i64 x1.1 4) 2) 1) (cm .eql (dv .rem .i64 (dv .quo .i64 x1.1 2) 2) 1) (Scale.mk 0 false [] false []) (cm .eql (dv .rem .i64 x1.1 2) 1)), x19.2) h) (.c rfl (.c rfl (.c rfl .n))) (.c rfl (.c rfl (.c rfl (.c rfl .n)))) rfl
    · refine .skp ?_
      exact .ks (fun i => bif Nat.beq i 10170011 then 700711 else i) (J1 ((Vp9.mk (cm .eql (dv .quo .i64 x1.1 128) 1) false x18.1 (cm .eql (dv .rem .i64 (dv .quo .i64 x1.1 64) 2) 1) (cm .eql (dv .rem .i64 (dv .quo .i64 x1.1 32) 2) 1) 0 0 false false (cm .eql (dv .rem .i64 (dv .quo .i64 x1.1 16) 2) 1) 0 ([] : List Int) (cm .eql (dv .rem .i64 (dv .quo .i64 x1.1 8) 2) 1) (cm .eql (dv .rem .i64 (dv .quo .i64 x1.1 4) 2) 1) (cm .eql (dv .rem .i64 (dv .quo .i64 x1.1 2) 2) 1) (Scale.mk 0 false [] false []) (cm .eql (dv .rem .i64 x1.1 2) 1)), x18.2) h) (.c rfl (.c rfl (.c rfl .n))) (.c rfl (.c rfl (.c rfl (.c rfl .n)))) rfl
  · refine .skp ?_
    exact .ks (fun i => bif Nat.beq i 10170011 then 700711 else i) (J1 ((Vp9.mk (cm .eql (dv .quo .i64 x1.1 128) 1) false 0 (cm .eql (dv .rem .i64 (dv .quo .i64 x1.1 64) 2) 1) (cm .eql (dv .rem .i64 (dv .quo .i64 x1.1 32) 2) 1) 0 0 false false (cm .eql (dv .rem .i64 (dv .quo .i64 x1.1 16) 2) 1) 0 ([] : List Int) (cm .eql (dv .rem .i64 (dv .quo .i64 x1.1 8) 2) 1) (cm .eql (dv .rem .i64 (dv .quo .i64 x1.1 4) 2) 1) (cm .eql (dv .rem .i64 (dv .quo .i64 x1.1 2) 2) 1) (Scale.mk 0 false [] false []) (cm .eql (dv .rem .i64 x1.1 2) 1)), x1.2) h) (.c rfl (.c rfl (.c rfl .n))) (.c rfl (.c rfl (.c rfl (.c rfl .n)))) rfl

theorem ref24_Set_c {z : Option Nat} {b : List Int} {pic : Int} {level : Int} {r : List Int × Int} (h : ref24_Set z b pic level = some r) :
    AC Try.prog 38 [.ro (.list 1 (List.map e8 b)), .ro (.int .i64 pic), .ro (.int .i64 level)] (.tup [.own 0, .ro (.int .i64 r.2)]) [(0, .arr 5 1 (List.map e8 r.1))] := by
  refine AC.of Try.func38 rfl rfl fun w M0 hM => ?_
  unfold ref24_Set at h
  refine .sq ?_
  refine .rg (anm e8 6 5 1 rfl rfl <| u (asg (.i rfl)) <| .nil _) rfl ?_
  refine .sq ?_
  refine be h fun x1 hx1 h => ?_
  refine .rg (u (mv (.t rfl)) <| cl [] cf33 (ref24_Read_c hx1) (.c (.t rfl) <| .n) (.inl rfl) <| u (mv (.t rfl)) <| u (ex (.t rfl) rfl rfl) <| u (ex (.t rfl) rfl rfl) <| u (ex (.t rfl) rfl rfl) <| al 8 zf62 rfl <| st tf62 (.t rfl) rfl (.t rfl) rfl rfl rfl <| u (asg (.t rfl)) <| u (asg (.t rfl)) <| .nil _) rfl ?_
  refine .sq ?_
  refine .sq ?_
  refine .rg (u (mv (.t rfl)) <| u (bc (.t rfl) (.i rfl) rfl rfl) <| .nil _) rfl ?_
  refine .bq h (.t rfl) (fun h => ?_) (fun h => ?_)
  · refine .sq ?_
    refine .rg (u (mv (.t rfl)) <| anm e8 100006 5 1 rfl rfl <| u (asg (.t rfl)) <| .nil _) rfl ?_
    obtain rfl := Option.some.inj h
    refine .ks (l := [(6, .own 0), (7, .ro (.int .i64 x1.2.2))]) (o := [(0, some (.arr 5 1 (List.map e8 [])))]) (fun i => bif Nat.beq i 0 then 100006 else i) ?_ (.c rfl (.c rfl .n)) (.c rfl .n) rfl
    exact .rt Try.func38 (.t rfl <| .t rfl <| .n) (.c rfl .n) rfl rfl
  · refine .skp ?_
    refine .sq ?_
    refine .rg (u (ld tf62 (.t rfl) rfl rfl) <| al 11 zf62 rfl <| st tf62 (.t rfl) rfl (.t rfl) rfl rfl rfl <| .nil _) rfl ?_
    refine .sq ?_
    refine .sq ?_
    refine .rg (u (fa ff62_0 (.t rfl)) <| u (ld tf4 (.t rfl) rfl rfl) <| u (mv (.t rfl)) <| gd rfl rfl (fun hB => mv (.t rfl)) <| gd rfl rfl (fun hB => bc (.m rfl hB) (.i rfl) rfl rfl) <| u (pka (.t rfl) (.t rfl)) <| .nil _) rfl ?_
    refine .jq (t := some r) (fun (a : Vp9) => ⟨[(0, .ro (.list 1 (List.map e8 b))), (2, .ro (.int .i64 level)), (8, .ptr 8 0), (11, .ptr 11 0)], [(8, some (.box [.ro (.bool x1.1.hasPic), .ro (.bool x1.1.wide), .ro (.int .i64 x1.1.pic), .ro (.bool x1.1.inter), .ro (.bool x1.1.hasLayer), .ro (.int .i64 x1.1.tid), .ro (.int .i64 x1.1.sid), .ro (.bool x1.1.up), .ro (.bool x1.1.depends), .ro (.bool x1.1.flexible), .ro (.int .i64 x1.1.level), .ro (.list 1 (List.map (ei .i64) x1.1.refs)), .ro (.bool x1.1.begin), .ro (.bool x1.1.end_), .ro (.bool x1.1.hasScale), .ro (.int .i64 x1.1.scale.layers), .ro (.bool x1.1.scale.hasSizes), .ro (.list 2 (List.map cells_Size x1.1.scale.sizes)), .ro (.bool x1.1.scale.hasPics), .ro (.list 3 (List.map cells_Group x1.1.scale.pics)), .ro (.bool x1.1.notRef)])), (11, some (.box [.ro (.bool a.hasPic), .ro (.bool a.wide), .ro (.int .i64 a.pic), .ro (.bool a.inter), .ro (.bool a.hasLayer), .ro (.int .i64 a.tid), .ro (.int .i64 a.sid), .ro (.bool a.up), .ro (.bool a.depends), .ro (.bool a.flexible), .ro (.int .i64 a.level), .ro (.list 1 (List.map (ei .i64) a.refs)), .ro (.bool a.begin), .ro (.bool a.end_), .ro (.bool a.hasScale), .ro (.int .i64 a.scale.layers), .ro (.bool a.scale.hasSizes), .ro (.list 2 (List.map cells_Size a.scale.sizes)), .ro (.bool a.scale.hasPics), .ro (.list 3 (List.map cells_Group a.scale.pics)), .ro (.bool a.notRef)]))]⟩) (fun (a : Vp9) => ref24_Set_j1 z b level x1 a) ?_ (fun J1 => ?_)
    · intro v2 h
      replace h : ref24_Set_j1 z b level x1 v2 = _ := h
      unfold ref24_Set_j1 at h
      refine .sq ?_
      refine .sq ?_
      refine .rg (u (fa ff62_4 (.t rfl)) <| u (ld tf4 (.t rfl) rfl rfl) <| u (mv (.t rfl)) <| gd rfl rfl (fun hB => fa ff62_9 (.t rfl)) <| gd rfl rfl (fun hB => ld tf4 (.m rfl hB) rfl rfl) <| gd rfl rfl (fun hB => no (.m rfl hB)) <| u (pka (.t rfl) (.t rfl)) <| u (mv (.t rfl)) <| gd rfl rfl (fun hB => mv (.t rfl)) <| gd rfl rfl (fun hB => bc (.m rfl hB) (.i rfl) rfl rfl) <| u (pka (.t rfl) (.t rfl)) <| .nil _) rfl ?_
      refine .jq (t := some r) (fun (a : Vp9) => ⟨[(0, .ro (.list 1 (List.map e8 b))), (8, .ptr 8 0), (11, .ptr 11 0)], [(8, some (.box [.ro (.bool x1.1.hasPic), .ro (.bool x1.1.wide), .ro (.int .i64 x1.1.pic), .ro (.bool x1.1.inter), .ro (.bool x1.1.hasLayer), .ro (.int .i64 x1.1.tid), .ro (.int .i64 x1.1.sid), .ro (.bool x1.1.up), .ro (.bool x1.1.depends), .ro (.bool x1.1.flexible), .ro (.int .i64 x1.1.level), .ro (.list 1 (List.map (ei .i64) x1.1.refs)), .ro (.bool x1.1.begin), .ro (.bool x1.1.end_), .ro (.bool x1.1.hasScale), .ro (.int .i64 x1.1.scale.layers), .ro (.bool x1.1.scale.hasSizes), .ro (.list 2 (List.map cells_Size x1.1.scale.sizes)), .ro (.bool x1.1.scale.hasPics), .ro (.list 3 (List.map cells_Group x1.1.scale.pics)), .ro (.bool x1.1.notRef)])), (11, some (.box [.ro (.bool a.hasPic), .ro (.bool a.wide), .ro (.int .i64 a.pic), .ro (.bool a.inter), .ro (.bool a.hasLayer), .ro (.int .i64 a.tid), .ro (.int .i64 a.sid), .ro (.bool a.up), .ro (.bool a.depends), .ro (.bool a.flexible), .ro (.int .i64 a.level), .ro (.list 1 (List.map (ei .i64) a.refs)), .ro (.bool a.begin), .ro (.bool a.end_), .ro (.bool a.hasScale), .ro (.int .i64 a.scale.layers), .ro (.bool a.scale.hasSizes), .ro (.list 2 (List.map cells_Size a.scale.sizes)), .ro (.bool a.scale.hasPics), .ro (.list 3 (List.map cells_Group a.scale.pics)), .ro (.bool a.notRef)]))]⟩) (fun (a : Vp9) => ref24_Set_j2 z b x1 a) ?_ (fun J2 => ?_)
      · intro v3 h
        replace h : ref24_Set_j2 z b x1 v3 = _ := h
        unfold ref24_Set_j2 at h
        refine .sq ?_
        refine .sq ?_
        refine be h fun x4 hx4 h => ?_
        refine .rg (u (ld tf62 (.t rfl) rfl rfl) <| cl [] cf29 (ref24_Right_c hx4) (.c (.t rfl) <| .n) (.inl rfl) <| u (no (.t rfl)) <| .nil _) rfl ?_
        refine .bq h (.t rfl) (fun h => ?_) (fun h => ?_)
        · refine .sq ?_
          refine .rg (anm e8 6 5 1 rfl rfl <| u (asg (.i rfl)) <| .nil _) rfl ?_
          obtain rfl := Option.some.inj h
          refine .ks (l := [(6, .own 0), (7, .ro (.int .i64 6))]) (o := [(0, some (.arr 5 1 (List.map e8 [])))]) (fun i => bif Nat.beq i 0 then 6 else i) ?_ (.c rfl (.c rfl .n)) (.c rfl .n) rfl
          exact .rt Try.func38 (.t rfl <| .t rfl <| .n) (.c rfl .n) rfl rfl
        · refine .skp ?_
          refine .sq ?_
          refine be h fun x5 hx5 h => ?_
          refine be h fun x6 hx6 h => ?_
          refine .rd mixed (u (ld tf62 (.t rfl) rfl rfl) <| cnf 52000 cf31 (ref24_Write_c hx5) (.c (.t rfl) <| .n) rfl rfl rfl <| u (ld tf62 (.t rfl) rfl rfl) <| cnf 54000 cf31 (ref24_Write_c hx6) (.c (.t rfl) <| .n) rfl rfl rfl <| u (asg (.t rfl)) <| u (asg (.t rfl)) <| .nil _) (by kernel_rfl) rfl ?_
          refine .sq ?_
          refine be h fun x7 hx7 h => ?_
          refine .rg (bs (F := e8) (l := ([] : List Int)) 54 pf27 (.n) rfl (fun _ _ => rfl) rfl rfl <| u (mv (.t rfl)) <| ap 56 pf27 (.t rfl) rfl (.t rfl) hx7 rfl <| u (asg (.t rfl)) <| .nil _) rfl ?_
          refine .sq ?_
          refine .sq ?_
          refine .rg (u (asg (.i rfl)) <| .nil _) rfl ?_
          refine .bl ?_
          unfold ref24_Set_l3 at h
          refine .ks (fun i => bif Nat.beq i 14 then 56 else i) (.lo (fun (s : List Int × Int) => ⟨[(12, .own 52000), (13, .own 54000), (14, .own 14), (15, .ro (.int .i64 s.2))], [(14, some (.arr 5 1 (List.map e8 s.1))), (52000, some (.arr 5 1 (List.map e8 x5))), (54000, some (.arr 5 1 (List.map e8 x6)))]⟩) h ?_) (.c rfl (.c rfl (.c rfl (.c rfl .n)))) (.c rfl (.c rfl (.c rfl .n))) rfl
          rintro ⟨v8, v9⟩ u3 h ih3 hx3
          replace h : ref24_Set_s3 z x5 x6 v8 v9 = _ := h
          unfold ref24_Set_s3 at h
          refine .sq ?_
          refine .sq ?_
          refine .rg (u (mv (.t rfl)) <| u (bc (.t rfl) (.i rfl) rfl rfl) <| u (mv (.t rfl)) <| gd rfl rfl (fun hB => mv (.t rfl)) <| gd rfl rfl (fun hB => mv (.t rfl)) <| gd rfl rfl (fun hB => lom sf27 (.m rfl hB) rfl) <| gd rfl rfl (fun hB => bc (.m rfl hB) (.m rfl hB) rfl rfl) <| u (pka (.t rfl) (.t rfl)) <| .nil _) rfl ?_
          refine .bq h (.t rfl) (fun h => ?_) (fun h => ?_)
          · refine .skp ?_
            refine .sq ?_
            refine .bl ?_
            refine .sq ?_
            refine be h fun x10 hx10 h => ?_
            refine be h fun x11 hx11 h => ?_
            refine .rd mixed (u (mv (.t rfl)) <| u (mv (.t rfl)) <| u (io sf27 (.t rfl) rfl (.t rfl) (ix_map e8 hx10)) <| u (le tf5 (.t rfl) rfl (ix_lt (ix_map _ hx10)).2.2 rfl) <| u (mv (.t rfl)) <| u (mv (.t rfl)) <| u (io sf27 (.t rfl) rfl (.t rfl) (ix_map e8 hx11)) <| u (le tf5 (.t rfl) rfl (ix_lt (ix_map _ hx11)).2.2 rfl) <| u (bc (.t rfl) (.t rfl) rfl rfl) <| .nil _) (by kernel_rfl) rfl ?_
            refine .jq (t := some u3) (fun (a : List Int) => ⟨[(12, .own 52000), (13, .own 54000), (14, .own 14), (15, .ro (.int .i64 v9))], [(14, some (.arr 5 1 (List.map e8 a))), (52000, some (.arr 5 1 (List.map e8 x5))), (54000, some (.arr 5 1 (List.map e8 x6)))]⟩) (fun (a : List Int) => ref24_Set_j4 z v9 a) ?_ (fun J4 => ?_)
            · intro v12 h
              replace h : ref24_Set_j4 z v9 v12 = _ := h
              unfold ref24_Set_j4 at h
              refine .ib ?_
              refine .rg (u (mv (.t rfl)) <| u (bi (.t rfl) (.i rfl) rfl) <| u (asg (.t rfl)) <| .nil _) rfl ?_
              exact .kq (.il (ih3 (v12, (ar .add .i64 v9 1)) (nxi h))) (.c rfl (.c rfl (.c rfl (.c rfl .n)))) (.c rfl (.c rfl (.c rfl .n)))
            refine .bq h (.t rfl) (fun h => ?_) (fun h => ?_)
            · refine be h fun x13 hx13 h => ?_
              refine be h fun x14 hx14 h => ?_
              refine .rg (u (mv (.t rfl)) <| u (mv (.t rfl)) <| u (mv (.t rfl)) <| u (mv (.t rfl)) <| u (io sf27 (.t rfl) rfl (.t rfl) (ix_map e8 hx13)) <| u (le tf5 (.t rfl) rfl (ix_lt (ix_map _ hx13)).2.2 rfl) <| u (io sf27 (.t rfl) rfl (.t rfl) (ix_map e8 hx14)) <| se (q := x13) tf5 (.t rfl) rfl (.t rfl) rfl rfl rfl (ixn hx14) <| .nil _) rfl ?_
              exact .kq (J4 (List.set v8 (v9 : Int).toNat x13) h) (.c rfl (.c rfl (.c rfl (.c rfl .n)))) (.c rfl (.c rfl (.c rfl .n)))
            · refine .skp ?_
              exact .kq (J4 v8 h) (.c rfl (.c rfl (.c rfl (.c rfl .n)))) (.c rfl (.c rfl (.c rfl .n)))
          · refine .xt rfl ?_
            replace h := mpR h hx3
            refine .sq ?_
            refine .rg (u (mv (.t rfl)) <| u (asg (.t rfl)) <| u (asg (.i rfl)) <| .nil _) rfl ?_
            obtain rfl := Option.some.inj h
            refine .ks (l := [(6, .own 0), (7, .ro (.int .i64 0))]) (o := [(0, some (.arr 5 1 (List.map e8 v8)))]) (fun i => bif Nat.beq i 0 then 14 else i) ?_ (.c rfl (.c rfl .n)) (.c rfl .n) rfl
            exact .rt Try.func38 (.t rfl <| .t rfl <| .n) (.c rfl .n) rfl rfl
      refine .bq h (.t rfl) (fun h => ?_) (fun h => ?_)
      · refine .rg (u (mv (.t rfl)) <| u (fa ff62_10 (.t rfl)) <| st tf3 (.t rfl) rfl (.t rfl) rfl rfl rfl <| .nil _) rfl ?_
        exact .kq (J2 ({ v2 with level := level }) h) (.c rfl (.c rfl (.c rfl .n))) (.c rfl (.c rfl .n))
      · refine .skp ?_
        exact .kq (J2 v2 h) (.c rfl (.c rfl (.c rfl .n))) (.c rfl (.c rfl .n))
    refine .bq h (.t rfl) (fun h => ?_) (fun h => ?_)
    · refine .rg (u (mv (.t rfl)) <| u (fa ff62_2 (.t rfl)) <| st tf3 (.t rfl) rfl (.t rfl) rfl rfl rfl <| .nil _) rfl ?_
      exact .kq (J1 ({ x1.1 with pic := pic }) h) (.c rfl (.c rfl (.c rfl (.c rfl .n)))) (.c rfl (.c rfl .n))
    · refine .skp ?_
      exact .kq (J1 x1.1 h) (.c rfl (.c rfl (.c rfl (.c rfl .n)))) (.c rfl (.c rfl .n))

theorem ref24_Set_r {z : Option Nat} {b : List Int} {pic : Int} {level : Int} {r : List Int × Int} (h : ref24_Set z b pic level = some r) :
    AC Try.prog 38 [.ro (.list 1 (List.map e8 b)), .ro (.int .i64 pic), .ro (.int .i64 level)] (.ro (.tup [.list 1 (List.map e8 r.1), .int .i64 r.2])) [] := AC.fz (ref24_Set_c h) rfl

theorem ref24_Canon_c {z : Option Nat} {b : List Int} {r : Bool} (h : ref24_Canon z b = some r) :
    AC Try.prog 41 [.ro (.list 1 (List.map e8 b))] (.ro (.bool r)) [] := by
  refine AC.of Try.func41 rfl rfl fun w M0 hM => ?_
  unfold ref24_Canon at h
  refine .sq ?_
  refine .rg (u (asg .b) <| .nil _) rfl ?_
  refine .sq ?_
  refine be h fun x1 hx1 h => ?_
  refine .rg (u (mv (.t rfl)) <| cl [] cf33 (ref24_Read_c hx1) (.c (.t rfl) <| .n) (.inl rfl) <| u (mv (.t rfl)) <| u (ex (.t rfl) rfl rfl) <| u (ex (.t rfl) rfl rfl) <| u (ex (.t rfl) rfl rfl) <| al 3 zf62 rfl <| st tf62 (.t rfl) rfl (.t rfl) rfl rfl rfl <| u (asg (.t rfl)) <| u (asg (.t rfl)) <| .nil _) rfl ?_
  refine .sq ?_
  refine be h fun x2 hx2 h => ?_
  refine be h fun x3 hx3 h => ?_
  refine .rd mixed (u (mv (.t rfl)) <| u (bc (.t rfl) (.i rfl) rfl rfl) <| u (mv (.t rfl)) <| gd rfl rfl (fun hB => ld tf62 (.t rfl) rfl rfl) <| cg rfl rfl cf31 (fun hB => (ref24_Write_r (gTt hx2 hB))) (fun hB => .c (.m rfl hB) <| .n) (.inl rfl) <| gd rfl rfl (fun hB => bt bt27_9 (.m rfl hB)) <| gd rfl rfl (fun hB => mv (.t rfl)) <| gd rfl rfl (fun hB => mv (.t rfl)) <| gd rfl rfl (fun hB => sl sf27 (.m rfl hB) .n (.s (.m rfl hB)) (gTt hx3 hB)) <| gd rfl rfl (fun hB => bt bt27_9 (.m rfl hB)) <| gd rfl rfl (fun hB => sq (.m rfl hB) (.m rfl hB) rfl rfl) <| u (pka (.t rfl) (.t rfl)) <| u (asg (.t rfl)) <| .nil _) (by kernel_rfl) rfl ?_
  obtain rfl := Option.some.inj h
  exact .rt Try.func41 (.t rfl <| .n) .n rfl rfl

theorem law24_Vp9Right_c {z : Option Nat} {p_d : Vp9} {b : List Int} {pic : Int} {level : Int} {r : Bool} (h : law24_Vp9Right z p_d b pic level = some r) :
    AC Try.prog 6 [.ro (enc_Vp9 p_d), .ro (.list 1 (List.map e8 b)), .ro (.int .i64 pic), .ro (.int .i64 level)] (.ro (.bool r)) [] := by
  refine AC.of Try.func6 rfl rfl fun w M0 hM => ?_
  unfold law24_Vp9Right at h
  refine .sq ?_
  refine .rg (bx 4 (.t rfl) rfl rfl <| u (asg .b) <| .nil _) rfl ?_
  refine .sq ?_
  refine .sq ?_
  refine .rg (cl [] cf27 law24_awake_k (.n) (.inl rfl) <| u (no (.t rfl)) <| .nil _) rfl ?_
  refine .cf (.t rfl) rfl ?_
  refine .skp ?_
  refine .sq ?_
  refine .sq ?_
  refine be h fun x1 hx1 h => ?_
  refine .rg (u (ld tf62 (.t rfl) rfl rfl) <| cl [] cf28 (ref24_Short_c hx1) (.c (.t rfl) <| .n) (.inl rfl) <| u (no (.t rfl)) <| u (mv (.t rfl)) <| gd rfl rfl (fun hB => mv (.t rfl)) <| gd rfl rfl (fun hB => lnm sf27 (.m rfl hB)) <| gd rfl rfl (fun hB => bc (.m rfl hB) (.i rfl) rfl rfl) <| u (pko (.t rfl) (.t rfl)) <| .nil _) rfl ?_
  refine .bq h (.t rfl) (fun h => ?_) (fun h => ?_)
  · refine .sq ?_
    refine .rg (u (asg .b) <| .nil _) rfl ?_
    obtain rfl := Option.some.inj h
    exact .rt Try.func6 (.t rfl <| .n) .n rfl rfl
  · refine .skp ?_
    refine .sq ?_
    refine be h fun x2 hx2 h => ?_
    refine .rg (u (ld tf62 (.t rfl) rfl rfl) <| cl [] cf29 (ref24_Right_c hx2) (.c (.t rfl) <| .n) (.inl rfl) <| u (asg (.t rfl)) <| .nil _) rfl ?_
    refine .sq ?_
    refine be h fun x3 hx3 h => ?_
    refine .rg (u (ld tf62 (.t rfl) rfl rfl) <| cl [] cf30 (vp9_Write_c hx3) (.c (.t rfl) <| .n) (.inl rfl) <| u (mv (.t rfl)) <| u (ex (.t rfl) rfl rfl) <| u (ex (.t rfl) rfl rfl) <| u (asg (.t rfl)) <| u (asg (.t rfl)) <| .nil _) rfl ?_
    refine .sq ?_
    refine .sq ?_
    refine .rg (u (mv (.t rfl)) <| .nil _) rfl ?_
    refine .jq (t := some r) (fun (a : Vp9) => ⟨[(1, .ro (.list 1 (List.map e8 b))), (2, .ro (.int .i64 pic)), (3, .ro (.int .i64 level)), (4, .ptr 4 0), (9, .ro (.bool x2))], [(4, some (.box [.ro (.bool a.hasPic), .ro (.bool a.wide), .ro (.int .i64 a.pic), .ro (.bool a.inter), .ro (.bool a.hasLayer), .ro (.int .i64 a.tid), .ro (.int .i64 a.sid), .ro (.bool a.up), .ro (.bool a.depends), .ro (.bool a.flexible), .ro (.int .i64 a.level), .ro (.list 1 (List.map (ei .i64) a.refs)), .ro (.bool a.begin), .ro (.bool a.end_), .ro (.bool a.hasScale), .ro (.int .i64 a.scale.layers), .ro (.bool a.scale.hasSizes), .ro (.list 2 (List.map cells_Size a.scale.sizes)), .ro (.bool a.scale.hasPics), .ro (.list 3 (List.map cells_Group a.scale.pics)), .ro (.bool a.notRef)]))]⟩) (fun (a : Vp9) => law24_Vp9Right_j1 z b pic level x2 a) ?_ (fun J1 => ?_)
    · intro v4 h
      replace h : law24_Vp9Right_j1 z b pic level x2 v4 = _ := h
      unfold law24_Vp9Right_j1 at h
      refine .sq ?_
      refine be h fun x5 hx5 h => ?_
      refine .rg (u (mv (.t rfl)) <| cl [] cf32 (vp9_Read_c hx5) (.c (.t rfl) <| .n) (.inl rfl) <| u (mv (.t rfl)) <| u (ex (.t rfl) rfl rfl) <| u (ex (.t rfl) rfl rfl) <| u (ex (.t rfl) rfl rfl) <| al 12 zf62 rfl <| st tf62 (.t rfl) rfl (.t rfl) rfl rfl rfl <| u (asg (.t rfl)) <| u (asg (.t rfl)) <| .nil _) rfl ?_
      refine .sq ?_
      refine be h fun x6 hx6 h => ?_
      refine .rg (u (mv (.t rfl)) <| cl [] cf33 (ref24_Read_c hx6) (.c (.t rfl) <| .n) (.inl rfl) <| u (mv (.t rfl)) <| u (ex (.t rfl) rfl rfl) <| u (ex (.t rfl) rfl rfl) <| u (ex (.t rfl) rfl rfl) <| al 15 zf62 rfl <| st tf62 (.t rfl) rfl (.t rfl) rfl rfl rfl <| u (asg (.t rfl)) <| u (asg (.t rfl)) <| .nil _) rfl ?_
      refine .sq ?_
      refine .sq ?_
      refine be h fun x7 hx7 h => ?_
      refine be h fun x8 hx8 h => ?_
      refine be h fun x9 hx9 h => ?_
      refine .rd mixed (u (mv (.t rfl)) <| u (mv (.t rfl)) <| u (bc (.t rfl) (.t rfl) rfl rfl) <| u (mv (.t rfl)) <| gd rfl rfl (fun hB => mv (.t rfl)) <| gd rfl rfl (fun hB => mv (.t rfl)) <| gd rfl rfl (fun hB => bc (.m rfl hB) (.m rfl hB) rfl rfl) <| u (pko (.t rfl) (.t rfl)) <| u (mv (.t rfl)) <| gd rfl rfl (fun hB => ld tf62 (.t rfl) rfl rfl) <| gd rfl rfl (fun hB => ld tf62 (.t rfl) rfl rfl) <| cg rfl rfl cf34 (fun hB => (ref24_Same_c (gTt hx7 (nt hB)))) (fun hB => .c (.m rfl hB) <| .c (.m rfl hB) <| .n) (.inl rfl) <| gd rfl rfl (fun hB => no (.m rfl hB)) <| u (pko (.t rfl) (.t rfl)) <| u (mv (.t rfl)) <| gd rfl rfl (fun hB => fa ff62_15 (.t rfl)) <| gd rfl rfl (fun hB => ld tf60 (.m rfl hB) rfl rfl) <| cg rfl rfl cf35 (fun hB => (vp9_RightScale_c (gTt hx8 (nt hB)))) (fun hB => .c (.m rfl hB) <| .n) (.inl rfl) <| gd rfl rfl (fun hB => fa ff62_15 (.t rfl)) <| gd rfl rfl (fun hB => ld tf60 (.m rfl hB) rfl rfl) <| cg rfl rfl cf36 (fun hB => (ref24_RightScale_c (gTt hx9 (nt hB)))) (fun hB => .c (.m rfl hB) <| .n) (.inl rfl) <| gd rfl rfl (fun hB => be2 ub4 (.m rfl hB) (.m rfl hB) rfl) <| u (pko (.t rfl) (.t rfl)) <| .nil _) (by kernel_rfl) rfl ?_
      refine .bq h (.t rfl) (fun h => ?_) (fun h => ?_)
      · refine .sq ?_
        refine .rg (u (asg .b) <| .nil _) rfl ?_
        obtain rfl := Option.some.inj h
        exact .rt Try.func6 (.t rfl <| .n) .n rfl rfl
      · refine .skp ?_
        refine .sq ?_
        refine be h fun x10 hx10 h => ?_
        refine .rg (u (mv (.t rfl)) <| u (mv (.t rfl)) <| u (mv (.t rfl)) <| cnf 97000 cf37 (vp9_Set_c hx10) (.c (.t rfl) <| .c (.t rfl) <| .c (.t rfl) <| .n) rfl rfl rfl <| u (mv (.t rfl)) <| u (ex (.t rfl) rfl rfl) <| u (ex (.t rfl) rfl rfl) <| u (asg (.t rfl)) <| u (asg (.t rfl)) <| .nil _) rfl ?_
        refine .sq ?_
        refine be h fun x11 hx11 h => ?_
        refine .rg (u (mv (.t rfl)) <| u (mv (.t rfl)) <| u (mv (.t rfl)) <| cnf 104000 cf38 (ref24_Set_c hx11) (.c (.t rfl) <| .c (.t rfl) <| .c (.t rfl) <| .n) rfl rfl rfl <| u (mv (.t rfl)) <| u (ex (.t rfl) rfl rfl) <| u (ex (.t rfl) rfl rfl) <| u (asg (.t rfl)) <| u (asg (.t rfl)) <| .nil _) rfl ?_
        refine .sq ?_
        refine be h fun x12 hx12 h => ?_
        refine be h fun x13 hx13 h => ?_
        refine be h fun x14 hx14 h => ?_
        refine .rg (u (ld tf62 (.t rfl) rfl rfl) <| cl [] cf39 (vp9_Right_c hx12) (.c (.t rfl) <| .n) (.inl rfl) <| u (mv (.t rfl)) <| u (be2 ub4 (.t rfl) (.t rfl) rfl) <| u (mv (.t rfl)) <| gd rfl rfl (fun hB => mv (.t rfl)) <| cg rfl rfl cf40 (fun hB => (vp9_Canon_c (gTt hx13 hB))) (fun hB => .c (.m rfl hB) <| .n) (.inl rfl) <| gd rfl rfl (fun hB => mv (.t rfl)) <| cg rfl rfl cf41 (fun hB => (ref24_Canon_c (gTt hx14 hB))) (fun hB => .c (.m rfl hB) <| .n) (.inl rfl) <| gd rfl rfl (fun hB => be2 ub4 (.m rfl hB) (.m rfl hB) rfl) <| u (pka (.t rfl) (.t rfl)) <| u (mv (.t rfl)) <| gd rfl rfl (fun hB => mv (.t rfl)) <| gd rfl rfl (fun hB => mv (.t rfl)) <| gd rfl rfl (fun hB => bc (.m rfl hB) (.m rfl hB) rfl rfl) <| u (pka (.t rfl) (.t rfl)) <| u (mv (.t rfl)) <| gd rfl rfl (fun hB => mv (.t rfl)) <| gd rfl rfl (fun hB => bto bt27_9 (.m rfl hB) rfl) <| gd rfl rfl (fun hB => mv (.t rfl)) <| gd rfl rfl (fun hB => bto bt27_9 (.m rfl hB) rfl) <| gd rfl rfl (fun hB => sq (.m rfl hB) (.m rfl hB) rfl rfl) <| u (pka (.t rfl) (.t rfl)) <| u (asg (.t rfl)) <| .nil _) rfl ?_
        obtain rfl := Option.some.inj h
        exact .rt Try.func6 (.t rfl <| .n) .n rfl rfl
    refine .bq h (.t rfl) (fun h => ?_) (fun h => ?_)
    · refine .sq ?_
      refine be h fun x15 hx15 h => ?_
      refine .rd mixed (u (mv (.t rfl)) <| u (bc (.t rfl) (.i rfl) rfl rfl) <| u (mv (.t rfl)) <| gd rfl rfl (fun hB => mv (.t rfl)) <| gd rfl rfl (fun hB => bt bt27_9 (.m rfl hB)) <| gd rfl rfl (fun hB => ld tf62 (.t rfl) rfl rfl) <| cg rfl rfl cf31 (fun hB => (ref24_Write_r (gTt hx15 (nt hB)))) (fun hB => .c (.m rfl hB) <| .n) (.inl rfl) <| gd rfl rfl (fun hB => bt bt27_9 (.m rfl hB)) <| gd rfl rfl (fun hB => sq (.m rfl hB) (.m rfl hB) rfl rfl) <| u (pko (.t rfl) (.t rfl)) <| .nil _) (by kernel_rfl) rfl ?_
      refine .bq h (.t rfl) (fun h => ?_) (fun h => ?_)
      · refine .sq ?_
        refine .rg (u (asg .b) <| .nil _) rfl ?_
        obtain rfl := Option.some.inj h
        exact .rt Try.func6 (.t rfl <| .n) .n rfl rfl
      · refine .skp ?_
        exact .kq (J1 p_d h) (.c rfl (.c rfl (.c rfl (.c rfl (.c rfl .n))))) (.c rfl .n)
    · refine .sq ?_
      refine .rg (u (mv (.t rfl)) <| u (bc (.t rfl) (.i rfl) rfl rfl) <| u (mv (.t rfl)) <| gd rfl rfl (fun hB => mv (.t rfl)) <| gd rfl rfl (fun hB => lnm sf27 (.m rfl hB)) <| gd rfl rfl (fun hB => bc (.m rfl hB) (.i rfl) rfl rfl) <| u (pko (.t rfl) (.t rfl)) <| .nil _) rfl ?_
      refine .bq h (.t rfl) (fun h => ?_) (fun h => ?_)
      · refine .sq ?_
        refine .rg (u (asg .b) <| .nil _) rfl ?_
        obtain rfl := Option.some.inj h
        exact .rt Try.func6 (.t rfl <| .n) .n rfl rfl
      · refine .skp ?_
        exact .kq (J1 p_d h) (.c rfl (.c rfl (.c rfl (.c rfl (.c rfl .n))))) (.c rfl .n)

end Xb
