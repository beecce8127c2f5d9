/- Own text: QWalks. -/
import Derived.Test.YtjjaohddaclafaaQWalksA
import Derived.Test.YtjjaohddaclafaaQFacts
import Derived.Test.YtjjaohddaclafaaQRaw
import Derived.Test.YtjjaohddaclafaaQIter
set_option linter.all false
set_option linter.unusedVariables false
set_option linter.unusedSimpArgs false
set_option linter.unnecessarySimpa false
set_option linter.deprecated false
namespace Xb
open Go Go.Proofs
set_option linter.unusedVariables false
set_option maxRecDepth 20000

theorem templ_eye_diffs_y2_c {z : Option Nat} {box0 : templ_eye} {r : List Int × templ_eye} (h : templ_eye_diffs_y2 z box0 = some r) :
    AY Try.prog 75 [.ptr 9000 0] [(9000, [.list 1 (List.map e8 box0.c.bytes), .int .i64 box0.c.at_, .int .i64 box0.c.err])] [0] (.ro (.list 1 (List.map (ei .i64) r.1))) [] [(0, .ptr 9000 0)] [(9000, [.list 1 (List.map e8 r.2.c.bytes), .int .i64 r.2.c.at_, .int .i64 r.2.c.err])] := by
  refine AY.of Try.func75 rfl rfl fun w X M0 hM pv => ?_
  refine .kq (l := [(0, .ptr 9000 0)]) (o := [(9000, some (.box [.ro (.list 1 (List.map e8 box0.c.bytes)), .ro (.int .i64 box0.c.at_), .ro (.int .i64 box0.c.err)]))]) ?_ (.c rfl .n) (.c rfl .n)
  unfold templ_eye_diffs_y2 at h
  refine .sq ?_
  refine .rg (u (asg (.n (sz := 1) (F := (ei .i64)))) <| .nil _) rfl ?_
  refine .sq ?_
  refine .rg (anm (ei .i64) 3 3 1 rfl rfl <| .nil _) rfl ?_
  refine .sq ?_
  refine .bl ?_
  unfold templ_eye_diffs_y2_l1 at h
  refine .kq (.lo (fun (s : List Int × templ_eye) => ⟨[(0, .ptr 9000 0), (3, .own 3)], [(3, some (.arr 3 1 (List.map (ei .i64) s.1))), (9000, some (.box [.ro (.list 1 (List.map e8 s.2.c.bytes)), .ro (.int .i64 s.2.c.at_), .ro (.int .i64 s.2.c.err)]))]⟩) h ?_) (.c rfl (.c rfl .n)) (.c rfl (.c rfl .n))
  rintro ⟨v1, v2⟩ u1 h ih1 hx1
  replace h : templ_eye_diffs_y2_s1 z v1 v2 = _ := h
  unfold templ_eye_diffs_y2_s1 at h
  refine .sq ?_
  refine .sq ?_
  refine be h fun x3 hx3 h => ?_
  refine .rg (u (mv (.t rfl)) <| cly 6000000 cf71 (AY.ly (fun i => bif Nat.beq i 9000 then 9000 else i) (templ_eye_num_y1_c hx3) rfl rfl rfl rfl rfl rfl rfl)  (.c (.t rfl) <| .c (.i rfl) <| .n) rfl (.c rfl <| .n) rfl <| u (bc (.t rfl) (.i rfl) rfl rfl) <| u (mv (.t rfl)) <| gd rfl rfl (fun hB => mv (.t rfl)) <| cg rfl rfl cf69 (fun hB => (templ_eye_fine_p_c x3.2)) (fun hB => .p (.m rfl hB) rfl rfl rfl <| .n) (.inr rfl) <| u (pka (.t rfl) (.t rfl)) <| .nil _) rfl ?_
  refine .bq h (.t rfl) (fun h => ?_) (fun h => ?_)
  · refine .skp ?_
    refine .bl ?_
    refine .sq ?_
    refine be h fun x4 hx4 h => ?_
    refine .rg (u (mv (.t rfl)) <| u (mv (.t rfl)) <| u (lom sf22 (.t rfl) rfl) <| u (bc (.t rfl) (.i rfl) rfl rfl) <| cly 16000000 cf80 (AY.ly (fun i => bif Nat.beq i 9000 then 9000 else i) (templ_eye_need_y1_c hx4) rfl rfl rfl rfl rfl rfl rfl)  (.c (.t rfl) <| .c (.t rfl) <| .n) rfl (.c rfl <| .n) rfl <| .nil _) rfl ?_
    refine be h fun x5 hx5 h => ?_
    refine be h fun x6 hx6 h => ?_
    refine .rg (u (mv (.t rfl)) <| u (mv (.t rfl)) <| cly 19000000 cf71 (AY.ly (fun i => bif Nat.beq i 9000 then 9000 else i) (templ_eye_num_y1_c hx5) rfl rfl rfl rfl rfl rfl rfl)  (.c (.t rfl) <| .c (.i rfl) <| .n) rfl (.c rfl <| .n) rfl <| u (bi (.t rfl) (.i rfl) rfl) <| bs (F := (ei .i64)) (l := [(ar .add .i64 x5.1 1)]) 20 pf22 (.c (.t rfl) rfl <| .n) rfl (fun _ _ => rfl) rfl rfl <| apo 21 pf22 (.t rfl) rfl (.t rfl) rfl hx6 rfl <| u (asg (.t rfl)) <| .nil _) rfl ?_
    refine .ib ?_
    exact .ks (fun i => bif Nat.beq i 3 then 21 else i) (.il (ih1 (x6, x5.2) (nxi h))) (.c rfl (.c rfl .n)) (.c rfl (.c rfl .n)) rfl
  · refine .xt rfl ?_
    replace h := mpR h hx1
    refine .sq ?_
    refine .rg (u (mv (.t rfl)) <| u (asg (.t rfl)) <| .nil _) rfl ?_
    refine .fz 3 rfl ?_
    obtain rfl := Option.some.inj h
    exact .rtx (o := [(9000, some (.box [.ro (.list 1 (List.map e8 x3.2.c.bytes)), .ro (.int .i64 x3.2.c.at_), .ro (.int .i64 x3.2.c.err)]))]) Try.func75 (.t rfl <| .n) (.c rfl .n) rfl rfl (.c rfl .n) rfl

theorem templ_eye_ranged_y1_c {z : Option Nat} {many : Int} {box0 : templ_eye} {r : Int × templ_eye} (h : templ_eye_ranged_y1 z many box0 = some r) :
    AY Try.prog 76 [.ptr 9000 0, .ro (.int .i64 many)] [(9000, [.list 1 (List.map e8 box0.c.bytes), .int .i64 box0.c.at_, .int .i64 box0.c.err])] [0] (.ro (.int .i64 r.1)) [] [(0, .ptr 9000 0)] [(9000, [.list 1 (List.map e8 r.2.c.bytes), .int .i64 r.2.c.at_, .int .i64 r.2.c.err])] := by
  refine AY.of Try.func76 rfl rfl fun w X M0 hM pv => ?_
  refine .kq (l := [(0, .ptr 9000 0), (1, .ro (.int .i64 many))]) (o := [(9000, some (.box [.ro (.list 1 (List.map e8 box0.c.bytes)), .ro (.int .i64 box0.c.at_), .ro (.int .i64 box0.c.err)]))]) ?_ (.c rfl (.c rfl .n)) (.c rfl .n)
  unfold templ_eye_ranged_y1 at h
  refine .sq ?_
  refine .rg (u (asg (.i rfl)) <| .nil _) rfl ?_
  refine .sq ?_
  refine be h fun x1 hx1 h => ?_
  refine .rg (u (mv (.t rfl)) <| u (nkp (.t rfl)) <| u (fa ff113_0 (.t rfl)) <| u (ld tf59 (.t rfl) rfl rfl) <| u (mv (.t rfl)) <| u (cv cv3_83 (.t rfl)) <| cl [] cf81 (bits_Range_c hx1) (.c (.t rfl) <| .c (.t rfl) <| .n) (.inl rfl) <| u (mv (.t rfl)) <| u (ex (.t rfl) rfl rfl) <| u (ex (.t rfl) rfl rfl) <| al 5 zf59 rfl <| st tf59 (.t rfl) rfl (.t rfl) rfl rfl rfl <| u (asg (.t rfl)) <| .nil _) rfl ?_
  refine .sq ?_
  refine .rg (u (mv (.t rfl)) <| u (ld tf59 (.t rfl) rfl rfl) <| u (nkp (.t rfl)) <| u (fa ff113_0 (.t rfl)) <| st tf59 (.t rfl) rfl (.t rfl) rfl rfl rfl <| .nil _) rfl ?_
  refine .sq ?_
  refine .rg (u (mv (.t rfl)) <| u (cv cv83_3 (.t rfl)) <| u (asg (.t rfl)) <| .nil _) rfl ?_
  obtain rfl := Option.some.inj h
  exact .rtx (o := [(9000, some (.box [.ro (.list 1 (List.map e8 x1.1.bytes)), .ro (.int .i64 x1.1.at_), .ro (.int .i64 x1.1.err)]))]) Try.func76 (.t rfl <| .n) (.c rfl .n) rfl rfl (.c rfl .n) rfl

theorem templ_eye_read_3_y1_c {z : Option Nat} {box0 : templ_eye} {r : Int × templ_eye} (h : templ_eye_read_3_y1 z box0 = some r) :
    AY Try.prog 78 [.cptr [.ptr 9000 0]] [(9000, [.list 1 (List.map e8 box0.c.bytes), .int .i64 box0.c.at_, .int .i64 box0.c.err])] [0] (.ro (.int .i64 r.1)) [] [(0, .cptr [.ptr 9000 0])] [(9000, [.list 1 (List.map e8 r.2.c.bytes), .int .i64 r.2.c.at_, .int .i64 r.2.c.err])] := by
  refine AY.of Try.func78 rfl rfl fun w X M0 hM pv => ?_
  refine .kq (l := [(0, .cptr [.ptr 9000 0])]) (o := [(9000, some (.box [.ro (.list 1 (List.map e8 box0.c.bytes)), .ro (.int .i64 box0.c.at_), .ro (.int .i64 box0.c.err)]))]) ?_ (.c rfl .n) (.c rfl .n)
  unfold templ_eye_read_3_y1 at h
  refine .sq ?_
  refine .rg (u (asg (.i rfl)) <| .nil _) rfl ?_
  refine .sq ?_
  refine be h fun x1 hx1 h => ?_
  refine .rg (u (lc tf111 (.t rfl) rfl) <| cly 4000000 cf71 (AY.ly (fun i => bif Nat.beq i 9000 then 9000 else i) (templ_eye_num_y1_c hx1) rfl rfl rfl rfl rfl rfl rfl)  (.c (.t rfl) <| .c (.i rfl) <| .n) rfl (.c rfl <| .n) rfl <| u (asg (.t rfl)) <| .nil _) rfl ?_
  obtain rfl := Option.some.inj h
  exact .rtx (o := [(9000, some (.box [.ro (.list 1 (List.map e8 x1.2.c.bytes)), .ro (.int .i64 x1.2.c.at_), .ro (.int .i64 x1.2.c.err)]))]) Try.func78 (.t rfl <| .n) (.c rfl .n) rfl rfl (.c rfl .n) rfl

theorem templ_eye_some_y3_c {z : Option Nat} {many : Int} {box0 : templ_eye} {r : List Int × templ_eye} (h : templ_eye_some_y3 z many box0 = some r) :
    AY Try.prog 73 [.ptr 9000 0, .ro (.int .i64 many), .fn (.func 78) [] [.cptr [.ptr 9000 0]]] [(9000, [.list 1 (List.map e8 box0.c.bytes), .int .i64 box0.c.at_, .int .i64 box0.c.err])] [0, 2] (.own 8000) [(8000, .arr 3 1 (List.map (ei .i64) r.1))] [(0, .ptr 9000 0), (2, .fn (.func 78) [] [.cptr [.ptr 9000 0]])] [(9000, [.list 1 (List.map e8 r.2.c.bytes), .int .i64 r.2.c.at_, .int .i64 r.2.c.err])] := by
  refine AY.of Try.func73 rfl rfl fun w X M0 hM pv => ?_
  refine .kq (l := [(0, .ptr 9000 0), (1, .ro (.int .i64 many)), (2, .fn (.func 78) [] [.cptr [.ptr 9000 0]])]) (o := [(9000, some (.box [.ro (.list 1 (List.map e8 box0.c.bytes)), .ro (.int .i64 box0.c.at_), .ro (.int .i64 box0.c.err)]))]) ?_ (.c rfl (.c rfl (.c rfl .n))) (.c rfl .n)
  unfold templ_eye_some_y3 at h
  refine .sq ?_
  refine .rg (anm (ei .i64) 6 3 1 rfl rfl <| .nil _) rfl ?_
  refine .sq ?_
  refine .rg (anm (ei .i64) 7 3 1 rfl rfl <| .nil _) rfl ?_
  refine .sq ?_
  refine .sq ?_
  refine .rg (u (asg (.i rfl)) <| .nil _) rfl ?_
  refine .bl ?_
  unfold templ_eye_some_y3_l1 at h
  refine .kq (.lo (fun (s : List Int × Int × templ_eye) => ⟨[(0, .ptr 9000 0), (1, .ro (.int .i64 many)), (2, .fn (.func 78) [] [.cptr [.ptr 9000 0]]), (7, .own 7), (8, .ro (.int .i64 s.2.1))], [(7, some (.arr 3 1 (List.map (ei .i64) s.1))), (9000, some (.box [.ro (.list 1 (List.map e8 s.2.2.c.bytes)), .ro (.int .i64 s.2.2.c.at_), .ro (.int .i64 s.2.2.c.err)]))]⟩) h ?_) (.c rfl (.c rfl (.c rfl (.c rfl (.c rfl .n))))) (.c rfl (.c rfl .n))
  rintro ⟨v1, v2, v3⟩ u1 h ih1 hx1
  replace h : templ_eye_some_y3_s1 z many v1 v2 v3 = _ := h
  unfold templ_eye_some_y3_s1 at h
  refine .sq ?_
  refine .sq ?_
  refine .rg (u (mv (.t rfl)) <| u (mv (.t rfl)) <| u (bc (.t rfl) (.t rfl) rfl rfl) <| u (mv (.t rfl)) <| gd rfl rfl (fun hB => mv (.t rfl)) <| cg rfl rfl cf69 (fun hB => (templ_eye_fine_p_c v3)) (fun hB => .p (.m rfl hB) rfl rfl rfl <| .n) (.inr rfl) <| u (pka (.t rfl) (.t rfl)) <| .nil _) rfl ?_
  refine .bq h (.t rfl) (fun h => ?_) (fun h => ?_)
  · refine .skp ?_
    refine .sq ?_
    refine .bl ?_
    refine be h fun x4 hx4 h => ?_
    refine be h fun x5 hx5 h => ?_
    refine .rg (u (mv (.t rfl)) <| u (mv (.t rfl)) <| cvy 21000000 cf78 (AY.ly (fun i => bif Nat.beq i 9000 then 9000 else i) (templ_eye_read_3_y1_c hx4) rfl rfl rfl rfl rfl rfl rfl) (.t rfl) (.n) rfl (.c rfl <| .n) rfl <| bs (F := (ei .i64)) (l := [x4.1]) 21 pf22 (.c (.t rfl) rfl <| .n) rfl (fun _ _ => rfl) rfl rfl <| apo 22 pf22 (.t rfl) rfl (.t rfl) rfl hx5 rfl <| u (asg (.t rfl)) <| .nil _) rfl ?_
    refine .ib ?_
    refine .rg (u (mv (.t rfl)) <| u (bi (.t rfl) (.i rfl) rfl) <| u (asg (.t rfl)) <| .nil _) rfl ?_
    exact .ks (fun i => bif Nat.beq i 7 then 22 else i) (.il (ih1 (x5, (ar .add .i64 v2 1), x4.2) (nxi h))) (.c rfl (.c rfl (.c rfl (.c rfl (.c rfl .n))))) (.c rfl (.c rfl .n)) rfl
  · refine .xt rfl ?_
    replace h := mpR h hx1
    refine .sq ?_
    refine .rg (u (mv (.t rfl)) <| u (asg (.t rfl)) <| .nil _) rfl ?_
    obtain rfl := Option.some.inj h
    refine .ks (l := [(6, .own 8000), (0, .ptr 9000 0), (2, .fn (.func 78) [] [.cptr [.ptr 9000 0]])]) (o := [(9000, some (.box [.ro (.list 1 (List.map e8 v3.c.bytes)), .ro (.int .i64 v3.c.at_), .ro (.int .i64 v3.c.err)])), (8000, some (.arr 3 1 (List.map (ei .i64) v1)))]) (fun i => bif Nat.beq i 8000 then 7 else i) ?_ (.c rfl (.c rfl (.c rfl .n))) (.c rfl (.c rfl .n)) rfl
    exact .rtx (o := [(9000, some (.box [.ro (.list 1 (List.map e8 v3.c.bytes)), .ro (.int .i64 v3.c.at_), .ro (.int .i64 v3.c.err)])), (8000, some (.arr 3 1 (List.map (ei .i64) v1)))]) Try.func73 (.t rfl <| .n) (.c rfl (.c rfl .n)) rfl rfl (.c rfl (.c rfl .n)) rfl

theorem templ_eye_some_y4_c {z : Option Nat} {many : Int} {box0 : templ_eye} {r : List Int × templ_eye} (h : templ_eye_some_y4 z many box0 = some r) :
    AY Try.prog 73 [.ptr 9000 0, .ro (.int .i64 many), .fn (.func 78) [] [.cptr [.ptr 9000 0]]] [(9000, [.list 1 (List.map e8 box0.c.bytes), .int .i64 box0.c.at_, .int .i64 box0.c.err])] [0, 2] (.ro (.list 1 (List.map (ei .i64) r.1))) [] [(0, .ptr 9000 0), (2, .fn (.func 78) [] [.cptr [.ptr 9000 0]])] [(9000, [.list 1 (List.map e8 r.2.c.bytes), .int .i64 r.2.c.at_, .int .i64 r.2.c.err])] := by
  refine AY.of Try.func73 rfl rfl fun w X M0 hM pv => ?_
  refine .kq (l := [(0, .ptr 9000 0), (1, .ro (.int .i64 many)), (2, .fn (.func 78) [] [.cptr [.ptr 9000 0]])]) (o := [(9000, some (.box [.ro (.list 1 (List.map e8 box0.c.bytes)), .ro (.int .i64 box0.c.at_), .ro (.int .i64 box0.c.err)]))]) ?_ (.c rfl (.c rfl (.c rfl .n))) (.c rfl .n)
  unfold templ_eye_some_y4 at h
  refine .sq ?_
  refine .rg (u (asg (.n (sz := 1) (F := (ei .i64)))) <| .nil _) rfl ?_
  refine .sq ?_
  refine .rg (anm (ei .i64) 7 3 1 rfl rfl <| .nil _) rfl ?_
  refine .sq ?_
  refine .sq ?_
  refine .rg (u (asg (.i rfl)) <| .nil _) rfl ?_
  refine .bl ?_
  unfold templ_eye_some_y4_l1 at h
  refine .kq (.lo (fun (s : List Int × Int × templ_eye) => ⟨[(0, .ptr 9000 0), (1, .ro (.int .i64 many)), (2, .fn (.func 78) [] [.cptr [.ptr 9000 0]]), (7, .own 7), (8, .ro (.int .i64 s.2.1))], [(7, some (.arr 3 1 (List.map (ei .i64) s.1))), (9000, some (.box [.ro (.list 1 (List.map e8 s.2.2.c.bytes)), .ro (.int .i64 s.2.2.c.at_), .ro (.int .i64 s.2.2.c.err)]))]⟩) h ?_) (.c rfl (.c rfl (.c rfl (.c rfl (.c rfl .n))))) (.c rfl (.c rfl .n))
  rintro ⟨v1, v2, v3⟩ u1 h ih1 hx1
  replace h : templ_eye_some_y4_s1 z many v1 v2 v3 = _ := h
  unfold templ_eye_some_y4_s1 at h
  refine .sq ?_
  refine .sq ?_
  refine .rg (u (mv (.t rfl)) <| u (mv (.t rfl)) <| u (bc (.t rfl) (.t rfl) rfl rfl) <| u (mv (.t rfl)) <| gd rfl rfl (fun hB => mv (.t rfl)) <| cg rfl rfl cf69 (fun hB => (templ_eye_fine_p_c v3)) (fun hB => .p (.m rfl hB) rfl rfl rfl <| .n) (.inr rfl) <| u (pka (.t rfl) (.t rfl)) <| .nil _) rfl ?_
  refine .bq h (.t rfl) (fun h => ?_) (fun h => ?_)
  · refine .skp ?_
    refine .sq ?_
    refine .bl ?_
    refine be h fun x4 hx4 h => ?_
    refine be h fun x5 hx5 h => ?_
    refine .rg (u (mv (.t rfl)) <| u (mv (.t rfl)) <| cvy 21000000 cf78 (AY.ly (fun i => bif Nat.beq i 9000 then 9000 else i) (templ_eye_read_3_y1_c hx4) rfl rfl rfl rfl rfl rfl rfl) (.t rfl) (.n) rfl (.c rfl <| .n) rfl <| bs (F := (ei .i64)) (l := [x4.1]) 21 pf22 (.c (.t rfl) rfl <| .n) rfl (fun _ _ => rfl) rfl rfl <| apo 22 pf22 (.t rfl) rfl (.t rfl) rfl hx5 rfl <| u (asg (.t rfl)) <| .nil _) rfl ?_
    refine .ib ?_
    refine .rg (u (mv (.t rfl)) <| u (bi (.t rfl) (.i rfl) rfl) <| u (asg (.t rfl)) <| .nil _) rfl ?_
    exact .ks (fun i => bif Nat.beq i 7 then 22 else i) (.il (ih1 (x5, (ar .add .i64 v2 1), x4.2) (nxi h))) (.c rfl (.c rfl (.c rfl (.c rfl (.c rfl .n))))) (.c rfl (.c rfl .n)) rfl
  · refine .xt rfl ?_
    replace h := mpR h hx1
    refine .sq ?_
    refine .rg (u (mv (.t rfl)) <| u (asg (.t rfl)) <| .nil _) rfl ?_
    refine .fz 7 rfl ?_
    obtain rfl := Option.some.inj h
    exact .rtx (o := [(9000, some (.box [.ro (.list 1 (List.map e8 v3.c.bytes)), .ro (.int .i64 v3.c.at_), .ro (.int .i64 v3.c.err)]))]) Try.func73 (.t rfl <| .n) (.c rfl .n) rfl rfl (.c rfl (.c rfl .n)) rfl

theorem templ_eye_read_2_y1_c {z : Option Nat} {box0 : templ_eye} {box1 : Structure} {hq0 : Value} {hq1 : Value} {r : Int × templ_eye} (h : templ_eye_read_2_y1 z box0 box1 = some r) :
    AY Try.prog 77 [.cptr [.ptr 9000 0], .ptr 9001 0] [(9000, [.list 1 (List.map e8 box0.c.bytes), .int .i64 box0.c.at_, .int .i64 box0.c.err]), (9001, [.int .i64 box1.id_, .int .i64 box1.targets, .int .i64 box1.chains, .list 1 (List.map (ei .i64) box1.protect), .raw hq0, .raw hq1])] [0, 1] (.ro (.int .i64 r.1)) [] [(0, .cptr [.ptr 9000 0]), (1, .ptr 9001 0)] [(9000, [.list 1 (List.map e8 r.2.c.bytes), .int .i64 r.2.c.at_, .int .i64 r.2.c.err]), (9001, [.int .i64 box1.id_, .int .i64 box1.targets, .int .i64 box1.chains, .list 1 (List.map (ei .i64) box1.protect), .raw hq0, .raw hq1])] := by
  refine AY.of Try.func77 rfl rfl fun w X M0 hM pv => ?_
  refine .kq (l := [(0, .cptr [.ptr 9000 0]), (1, .ptr 9001 0)]) (o := [(9000, some (.box [.ro (.list 1 (List.map e8 box0.c.bytes)), .ro (.int .i64 box0.c.at_), .ro (.int .i64 box0.c.err)])), (9001, some (.box [.ro (.int .i64 box1.id_), .ro (.int .i64 box1.targets), .ro (.int .i64 box1.chains), .ro (.list 1 (List.map (ei .i64) box1.protect)), .ro (.raw hq0), .ro (.raw hq1)]))]) ?_ (.c rfl (.c rfl .n)) (.c rfl (.c rfl .n))
  unfold templ_eye_read_2_y1 at h
  refine .sq ?_
  refine .rg (u (asg (.i rfl)) <| .nil _) rfl ?_
  refine .sq ?_
  refine be h fun x1 hx1 h => ?_
  refine .rg (u (lc tf111 (.t rfl) rfl) <| u (fa ff26_2 (.t rfl)) <| u (ld tf3 (.t rfl) rfl rfl) <| cly 7000000 cf76 (AY.ly (fun i => bif Nat.beq i 9000 then 9000 else i) (templ_eye_ranged_y1_c hx1) rfl rfl rfl rfl rfl rfl rfl)  (.c (.t rfl) <| .c (.t rfl) <| .n) rfl (.c rfl <| .n) rfl <| u (asg (.t rfl)) <| .nil _) rfl ?_
  obtain rfl := Option.some.inj h
  exact .rtx (o := [(9000, some (.box [.ro (.list 1 (List.map e8 x1.2.c.bytes)), .ro (.int .i64 x1.2.c.at_), .ro (.int .i64 x1.2.c.err)])), (9001, some (.box [.ro (.int .i64 box1.id_), .ro (.int .i64 box1.targets), .ro (.int .i64 box1.chains), .ro (.list 1 (List.map (ei .i64) box1.protect)), .ro (.raw hq0), .ro (.raw hq1)]))]) Try.func77 (.t rfl <| .n) (.c rfl (.c rfl .n)) rfl rfl (.c rfl (.c rfl .n)) rfl

theorem templ_eye_some_y5_c {z : Option Nat} {many : Int} {box0 : templ_eye} {box1 : Structure} {hq0 : Value} {hq1 : Value} {r : List Int × templ_eye} (h : templ_eye_some_y5 z many box0 box1 = some r) :
    AY Try.prog 73 [.ptr 9000 0, .ro (.int .i64 many), .fn (.func 77) [] [.cptr [.ptr 9000 0], .ptr 9001 0]] [(9000, [.list 1 (List.map e8 box0.c.bytes), .int .i64 box0.c.at_, .int .i64 box0.c.err]), (9001, [.int .i64 box1.id_, .int .i64 box1.targets, .int .i64 box1.chains, .list 1 (List.map (ei .i64) box1.protect), .raw hq0, .raw hq1])] [0, 2] (.own 8000) [(8000, .arr 3 1 (List.map (ei .i64) r.1))] [(0, .ptr 9000 0), (2, .fn (.func 77) [] [.cptr [.ptr 9000 0], .ptr 9001 0])] [(9000, [.list 1 (List.map e8 r.2.c.bytes), .int .i64 r.2.c.at_, .int .i64 r.2.c.err]), (9001, [.int .i64 box1.id_, .int .i64 box1.targets, .int .i64 box1.chains, .list 1 (List.map (ei .i64) box1.protect), .raw hq0, .raw hq1])] := by
  refine AY.of Try.func73 rfl rfl fun w X M0 hM pv => ?_
  refine .kq (l := [(0, .ptr 9000 0), (1, .ro (.int .i64 many)), (2, .fn (.func 77) [] [.cptr [.ptr 9000 0], .ptr 9001 0])]) (o := [(9000, some (.box [.ro (.list 1 (List.map e8 box0.c.bytes)), .ro (.int .i64 box0.c.at_), .ro (.int .i64 box0.c.err)])), (9001, some (.box [.ro (.int .i64 box1.id_), .ro (.int .i64 box1.targets), .ro (.int .i64 box1.chains), .ro (.list 1 (List.map (ei .i64) box1.protect)), .ro (.raw hq0), .ro (.raw hq1)]))]) ?_ (.c rfl (.c rfl (.c rfl .n))) (.c rfl (.c rfl .n))
  unfold templ_eye_some_y5 at h
  refine .sq ?_
  refine .rg (anm (ei .i64) 6 3 1 rfl rfl <| .nil _) rfl ?_
  refine .sq ?_
  refine .rg (anm (ei .i64) 7 3 1 rfl rfl <| .nil _) rfl ?_
  refine .sq ?_
  refine .sq ?_
  refine .rg (u (asg (.i rfl)) <| .nil _) rfl ?_
  refine .bl ?_
  unfold templ_eye_some_y5_l1 at h
  refine .kq (.lo (fun (s : List Int × Int × templ_eye) => ⟨[(0, .ptr 9000 0), (1, .ro (.int .i64 many)), (2, .fn (.func 77) [] [.cptr [.ptr 9000 0], .ptr 9001 0]), (7, .own 7), (8, .ro (.int .i64 s.2.1))], [(7, some (.arr 3 1 (List.map (ei .i64) s.1))), (9000, some (.box [.ro (.list 1 (List.map e8 s.2.2.c.bytes)), .ro (.int .i64 s.2.2.c.at_), .ro (.int .i64 s.2.2.c.err)])), (9001, some (.box [.ro (.int .i64 box1.id_), .ro (.int .i64 box1.targets), .ro (.int .i64 box1.chains), .ro (.list 1 (List.map (ei .i64) box1.protect)), .ro (.raw hq0), .ro (.raw hq1)]))]⟩) h ?_) (.c rfl (.c rfl (.c rfl (.c rfl (.c rfl .n))))) (.c rfl (.c rfl (.c rfl .n)))
  rintro ⟨v1, v2, v3⟩ u1 h ih1 hx1
  replace h : templ_eye_some_y5_s1 z many box1 v1 v2 v3 = _ := h
  unfold templ_eye_some_y5_s1 at h
  refine .sq ?_
  refine .sq ?_
  refine .rg (u (mv (.t rfl)) <| u (mv (.t rfl)) <| u (bc (.t rfl) (.t rfl) rfl rfl) <| u (mv (.t rfl)) <| gd rfl rfl (fun hB => mv (.t rfl)) <| cg rfl rfl cf69 (fun hB => (templ_eye_fine_p_c v3)) (fun hB => .p (.m rfl hB) rfl rfl rfl <| .n) (.inr rfl) <| u (pka (.t rfl) (.t rfl)) <| .nil _) rfl ?_
  refine .bq h (.t rfl) (fun h => ?_) (fun h => ?_)
  · refine .skp ?_
    refine .sq ?_
    refine .bl ?_
    refine be h fun x4 hx4 h => ?_
    refine be h fun x5 hx5 h => ?_
    refine .rg (u (mv (.t rfl)) <| u (mv (.t rfl)) <| cvy 21000000 cf77 (AY.ly (fun i => bif Nat.beq i 9001 then 9001 else bif Nat.beq i 9000 then 9000 else i) (templ_eye_read_2_y1_c hx4) rfl rfl rfl rfl rfl rfl rfl) (.t rfl) (.n) rfl (.c rfl <| .c rfl <| .n) rfl <| bs (F := (ei .i64)) (l := [x4.1]) 21 pf22 (.c (.t rfl) rfl <| .n) rfl (fun _ _ => rfl) rfl rfl <| apo 22 pf22 (.t rfl) rfl (.t rfl) rfl hx5 rfl <| u (asg (.t rfl)) <| .nil _) rfl ?_
    refine .ib ?_
    refine .rg (u (mv (.t rfl)) <| u (bi (.t rfl) (.i rfl) rfl) <| u (asg (.t rfl)) <| .nil _) rfl ?_
    exact .ks (fun i => bif Nat.beq i 7 then 22 else i) (.il (ih1 (x5, (ar .add .i64 v2 1), x4.2) (nxi h))) (.c rfl (.c rfl (.c rfl (.c rfl (.c rfl .n))))) (.c rfl (.c rfl (.c rfl .n))) rfl
  · refine .xt rfl ?_
    replace h := mpR h hx1
    refine .sq ?_
    refine .rg (u (mv (.t rfl)) <| u (asg (.t rfl)) <| .nil _) rfl ?_
    obtain rfl := Option.some.inj h
    refine .ks (l := [(6, .own 8000), (0, .ptr 9000 0), (2, .fn (.func 77) [] [.cptr [.ptr 9000 0], .ptr 9001 0])]) (o := [(9000, some (.box [.ro (.list 1 (List.map e8 v3.c.bytes)), .ro (.int .i64 v3.c.at_), .ro (.int .i64 v3.c.err)])), (9001, some (.box [.ro (.int .i64 box1.id_), .ro (.int .i64 box1.targets), .ro (.int .i64 box1.chains), .ro (.list 1 (List.map (ei .i64) box1.protect)), .ro (.raw hq0), .ro (.raw hq1)])), (8000, some (.arr 3 1 (List.map (ei .i64) v1)))]) (fun i => bif Nat.beq i 8000 then 7 else i) ?_ (.c rfl (.c rfl (.c rfl .n))) (.c rfl (.c rfl (.c rfl .n))) rfl
    exact .rtx (o := [(9000, some (.box [.ro (.list 1 (List.map e8 v3.c.bytes)), .ro (.int .i64 v3.c.at_), .ro (.int .i64 v3.c.err)])), (9001, some (.box [.ro (.int .i64 box1.id_), .ro (.int .i64 box1.targets), .ro (.int .i64 box1.chains), .ro (.list 1 (List.map (ei .i64) box1.protect)), .ro (.raw hq0), .ro (.raw hq1)])), (8000, some (.arr 3 1 (List.map (ei .i64) v1)))]) Try.func73 (.t rfl <| .n) (.c rfl (.c rfl (.c rfl .n))) rfl rfl (.c rfl (.c rfl .n)) rfl

theorem templ_eye_read_y1_c {z : Option Nat} {box0 : templ_eye} {r : Structure × templ_eye} (h : templ_eye_read_y1 z box0 = some r) :
    AY Try.prog 68 [.ptr 9000 0] [(9000, [.list 1 (List.map e8 box0.c.bytes), .int .i64 box0.c.at_, .int .i64 box0.c.err])] [0] (.ro (enc_Structure r.1)) [] [(0, .ptr 9000 0)] [(9000, [.list 1 (List.map e8 r.2.c.bytes), .int .i64 r.2.c.at_, .int .i64 r.2.c.err])] := by
  refine AY.of Try.func68 rfl rfl fun w X M0 hM pv => ?_
  refine .kq (l := [(0, .ptr 9000 0)]) (o := [(9000, some (.box [.ro (.list 1 (List.map e8 box0.c.bytes)), .ro (.int .i64 box0.c.at_), .ro (.int .i64 box0.c.err)]))]) ?_ (.c rfl .n) (.c rfl .n)
  unfold templ_eye_read_y1 at h
  refine .sq ?_
  refine .rg (bx 1 (.t rfl) rfl rfl <| al 2 zf26 rfl <| .nil _) rfl ?_
  refine .fc 1 rfl ?_
  refine .sq ?_
  refine be h fun x1 hx1 h => ?_
  refine be h fun x2 hx2 h => ?_
  refine .rd mixed (u (lc tf111 (.t rfl) rfl) <| cly 9000000 cf71 (AY.ly (fun i => bif Nat.beq i 9000 then 9000 else i) (templ_eye_num_y1_c hx1) rfl rfl rfl rfl rfl rfl rfl)  (.c (.t rfl) <| .c (.i rfl) <| .n) rfl (.c rfl <| .n) rfl <| u (lc tf111 (.t rfl) rfl) <| cly 11000000 cf71 (AY.ly (fun i => bif Nat.beq i 9000 then 9000 else i) (templ_eye_num_y1_c hx2) rfl rfl rfl rfl rfl rfl rfl)  (.c (.t rfl) <| .c (.i rfl) <| .n) rfl (.c rfl <| .n) rfl <| u (bi (.t rfl) (.i rfl) rfl) <| u (bd bf26 zf26_4_5 (.c rfl (.t rfl) rfl rfl rfl <| .c rfl (.t rfl) rfl rfl rfl <| .n) rfl) <| al 3 zf26_4_5 rfl <| st tf26 (.t rfl) rfl (.t rfl) rfl rfl rfl <| .nil _) (by kernel_rfl) rfl ?_
  refine .th (F := cells_Template) 3 4 700304 46 5 rfl rfl rfl ?_
  refine .th (F := cells_Size) 3 5 700305 74 2 rfl rfl rfl ?_
  refine .sq ?_
  refine be h fun x3 hx3 h => ?_
  refine .rg (u (lc tf111 (.t rfl) rfl) <| cly 15000000 cf72 (AY.ly (fun i => bif Nat.beq i 9000 then 9000 else i) (templ_eye_layers_y1_c hx3) rfl rfl rfl rfl rfl rfl rfl)  (.c (.t rfl) <| .n) rfl (.c rfl <| .n) rfl <| u (fa ff26_4 (.t rfl)) <| st tf23 (.t rfl) rfl (.t rfl) rfl rfl rfl <| .nil _) rfl ?_
  refine .sq ?_
  refine .sq ?_
  refine .rg (u (fa ff26_4 (.t rfl)) <| u (ld tf23 (.t rfl) rfl rfl) <| u (lom sf23 (.t rfl) rfl) <| u (mv (.i rfl)) <| .nil _) rfl ?_
  refine .bl ?_
  unfold templ_eye_read_y1_l1 at h
  refine .ks (fun i => bif Nat.beq i 10130005 then 700305 else bif Nat.beq i 10130004 then 15008000 else i) (.lo (fun (s : Int × Structure × templ_eye) => ⟨[(0, .ptr 9000 0), (1, .cptr [.ptr 9000 0]), (2, .ptr 2 0), (3, .ptr 3 0), (18, .ro (.int .i64 (x3.1.length : Int))), (19, .ro (.int .i64 s.1))], [(2, some (.box [.ro (.int .i64 0), .ro (.int .i64 0), .ro (.int .i64 0), .ro (.list 1 (List.map (ei .i64) [])), .ro (.list 5 (List.map cells_Template [])), .ro (.list 2 (List.map cells_Size []))])), (3, some (.box [.ro (.int .i64 s.2.1.id_), .ro (.int .i64 s.2.1.targets), .ro (.int .i64 s.2.1.chains), .ro (.list 1 (List.map (ei .i64) s.2.1.protect)), .own 10130004, .own 10130005])), (9000, some (.box [.ro (.list 1 (List.map e8 s.2.2.c.bytes)), .ro (.int .i64 s.2.2.c.at_), .ro (.int .i64 s.2.2.c.err)])), (10130004, some (.arr 46 5 (List.map cells_Template s.2.1.templates))), (10130005, some (.arr 74 2 (List.map cells_Size s.2.1.sizes)))]⟩) h ?_) (.c rfl (.c rfl (.c rfl (.c rfl (.c rfl (.c rfl .n)))))) (.c rfl (.c rfl (.c rfl (.c rfl (.c rfl .n))))) rfl
  rintro ⟨v4, v5, v6⟩ u1 h ih1 hx1
  replace h : templ_eye_read_y1_s1 z x3 v4 v5 v6 = _ := h
  unfold templ_eye_read_y1_s1 at h
  refine .sq ?_
  refine .rg (u (bc (.t rfl) (.t rfl) rfl rfl) <| .nil _) rfl ?_
  refine .sq ?_
  refine .bq h (.t rfl) (fun h => ?_) (fun h => ?_)
  · refine .skp ?_
    refine .sq ?_
    refine .bl ?_
    refine .sq ?_
    refine .rg (u (mv (.t rfl)) <| u (asg (.t rfl)) <| .nil _) rfl ?_
    refine be h fun x7 hx7 h => ?_
    refine be h fun x8 hx8 h => ?_
    refine .rd mixed (u (fa ff26_4 (.t rfl)) <| u (ld tf23 (.t rfl) rfl rfl) <| u (mv (.t rfl)) <| u (lc tf111 (.t rfl) rfl) <| u (fa ff26_1 (.t rfl)) <| u (ld tf3 (.t rfl) rfl rfl) <| u (mfn (.c (.t rfl) <| .n)) <| cly 30000000 cf73 (AY.ly (fun i => bif Nat.beq i 9000 then 9000 else i) (templ_eye_some_y2_c hx7) rfl rfl rfl rfl rfl rfl rfl)  (.c (.t rfl) <| .c (.t rfl) <| .c (.t rfl) <| .n) rfl (.c rfl <| .n) rfl <| u (io sf23 (.t rfl) rfl (.t rfl) (ix_map cells_Template hx8)) <| u (fa ff46_2 (.t rfl)) <| sef (F := cells_Template) (q := { x8 with marks := x7.1 }) (ys := [.list 1 (List.map (ei .i64) x7.1)]) tf22 (.t rfl) rfl (ix_lt hx8).2.2 (.t rfl) rfl rfl rfl <| .nil _) (by kernel_rfl) rfl ?_
    refine .ib ?_
    refine .rg (u (bi (.t rfl) (.i rfl) rfl) <| u (mv (.t rfl)) <| .nil _) rfl ?_
    exact .kq (.il (ih1 ((ar .add .i64 v4 1), { v5 with templates := (List.set v5.templates (v4 : Int).toNat ({ x8 with marks := x7.1 })) }, x7.2) (nxi h))) (.c rfl (.c rfl (.c rfl (.c rfl (.c rfl (.c rfl .n)))))) (.c rfl (.c rfl (.c rfl (.c rfl (.c rfl .n)))))
  · refine .xt rfl ?_
    replace h := mpR h hx1
    refine .sq ?_
    refine .sq ?_
    refine .rg (u (fa ff26_4 (.t rfl)) <| u (ld tf23 (.t rfl) rfl rfl) <| u (lom sf23 (.t rfl) rfl) <| u (mv (.i rfl)) <| .nil _) rfl ?_
    refine .bl ?_
    unfold templ_eye_read_y1_l2 at h
    refine .kq (.lo (fun (s : Int × Structure × templ_eye) => ⟨[(0, .ptr 9000 0), (1, .cptr [.ptr 9000 0]), (2, .ptr 2 0), (3, .ptr 3 0), (35, .ro (.int .i64 (v5.templates.length : Int))), (36, .ro (.int .i64 s.1))], [(2, some (.box [.ro (.int .i64 0), .ro (.int .i64 0), .ro (.int .i64 0), .ro (.list 1 (List.map (ei .i64) [])), .ro (.list 5 (List.map cells_Template [])), .ro (.list 2 (List.map cells_Size []))])), (3, some (.box [.ro (.int .i64 s.2.1.id_), .ro (.int .i64 s.2.1.targets), .ro (.int .i64 s.2.1.chains), .ro (.list 1 (List.map (ei .i64) s.2.1.protect)), .own 10130004, .own 10130005])), (9000, some (.box [.ro (.list 1 (List.map e8 s.2.2.c.bytes)), .ro (.int .i64 s.2.2.c.at_), .ro (.int .i64 s.2.2.c.err)])), (10130004, some (.arr 46 5 (List.map cells_Template s.2.1.templates))), (10130005, some (.arr 74 2 (List.map cells_Size s.2.1.sizes)))]⟩) h ?_) (.c rfl (.c rfl (.c rfl (.c rfl (.c rfl (.c rfl .n)))))) (.c rfl (.c rfl (.c rfl (.c rfl (.c rfl .n)))))
    rintro ⟨v9, v10, v11⟩ u2 h ih2 hx2
    replace h : templ_eye_read_y1_s2 z v5 v9 v10 v11 = _ := h
    unfold templ_eye_read_y1_s2 at h
    refine .sq ?_
    refine .rg (u (bc (.t rfl) (.t rfl) rfl rfl) <| .nil _) rfl ?_
    refine .sq ?_
    refine .bq h (.t rfl) (fun h => ?_) (fun h => ?_)
    · refine .skp ?_
      refine .sq ?_
      refine .bl ?_
      refine .sq ?_
      refine .rg (u (mv (.t rfl)) <| u (asg (.t rfl)) <| .nil _) rfl ?_
      refine be h fun x12 hx12 h => ?_
      refine be h fun x13 hx13 h => ?_
      refine .rd mixed (u (fa ff26_4 (.t rfl)) <| u (ld tf23 (.t rfl) rfl rfl) <| u (mv (.t rfl)) <| u (lc tf111 (.t rfl) rfl) <| cly 44000000 cf75 (AY.ly (fun i => bif Nat.beq i 9000 then 9000 else i) (templ_eye_diffs_y2_c hx12) rfl rfl rfl rfl rfl rfl rfl)  (.c (.t rfl) <| .n) rfl (.c rfl <| .n) rfl <| u (io sf23 (.t rfl) rfl (.t rfl) (ix_map cells_Template hx13)) <| u (fa ff46_3 (.t rfl)) <| sef (F := cells_Template) (q := { x13 with diffs := x12.1 }) (ys := [.list 1 (List.map (ei .i64) x12.1)]) tf22 (.t rfl) rfl (ix_lt hx13).2.2 (.t rfl) rfl rfl rfl <| .nil _) (by kernel_rfl) rfl ?_
      refine .ib ?_
      refine .rg (u (bi (.t rfl) (.i rfl) rfl) <| u (mv (.t rfl)) <| .nil _) rfl ?_
      exact .kq (.il (ih2 ((ar .add .i64 v9 1), { v10 with templates := (List.set v10.templates (v9 : Int).toNat ({ x13 with diffs := x12.1 })) }, x12.2) (nxi h))) (.c rfl (.c rfl (.c rfl (.c rfl (.c rfl (.c rfl .n)))))) (.c rfl (.c rfl (.c rfl (.c rfl (.c rfl .n)))))
    · refine .xt rfl ?_
      replace h := mpR h hx2
      refine .sq ?_
      refine be h fun x14 hx14 h => ?_
      refine .rg (u (lc tf111 (.t rfl) rfl) <| u (fa ff26_1 (.t rfl)) <| u (ld tf3 (.t rfl) rfl rfl) <| u (bi (.t rfl) (.i rfl) rfl) <| cly 52000000 cf76 (AY.ly (fun i => bif Nat.beq i 9000 then 9000 else i) (templ_eye_ranged_y1_c hx14) rfl rfl rfl rfl rfl rfl rfl)  (.c (.t rfl) <| .c (.t rfl) <| .n) rfl (.c rfl <| .n) rfl <| u (fa ff26_2 (.t rfl)) <| st tf3 (.t rfl) rfl (.t rfl) rfl rfl rfl <| .nil _) rfl ?_
      refine .sq ?_
      refine .sq ?_
      refine .rg (u (fa ff26_2 (.t rfl)) <| u (ld tf3 (.t rfl) rfl rfl) <| u (bc (.t rfl) (.i rfl) rfl rfl) <| .nil _) rfl ?_
      refine .jq (t := some r) (fun (a : Structure × templ_eye) => ⟨[(0, .ptr 9000 0), (1, .cptr [.ptr 9000 0]), (2, .ptr 2 0), (3, .ptr 3 0)], [(2, some (.box [.ro (.int .i64 0), .ro (.int .i64 0), .ro (.int .i64 0), .ro (.list 1 (List.map (ei .i64) [])), .ro (.list 5 (List.map cells_Template [])), .ro (.list 2 (List.map cells_Size []))])), (3, some (.box [.ro (.int .i64 a.1.id_), .ro (.int .i64 a.1.targets), .ro (.int .i64 a.1.chains), .ro (.list 1 (List.map (ei .i64) a.1.protect)), .own 10130004, .own 10130005])), (9000, some (.box [.ro (.list 1 (List.map e8 a.2.c.bytes)), .ro (.int .i64 a.2.c.at_), .ro (.int .i64 a.2.c.err)])), (10130004, some (.arr 46 5 (List.map cells_Template a.1.templates))), (10130005, some (.arr 74 2 (List.map cells_Size a.1.sizes)))]⟩) (fun (a : Structure × templ_eye) => templ_eye_read_y1_j3 z a.1 a.2) ?_ (fun J3 => ?_)
      · rintro ⟨v15, v16⟩ h
        replace h : templ_eye_read_y1_j3 z v15 v16 = _ := h
        unfold templ_eye_read_y1_j3 at h
        refine .sq ?_
        refine .sq ?_
        refine .rg (u (fa ff26_4 (.t rfl)) <| u (ld tf23 (.t rfl) rfl rfl) <| u (lom sf23 (.t rfl) rfl) <| u (mv (.i rfl)) <| .nil _) rfl ?_
        refine .bl ?_
        unfold templ_eye_read_y1_l4 at h
        refine .kq (.lo (fun (s : Int × Structure × templ_eye) => ⟨[(0, .ptr 9000 0), (1, .cptr [.ptr 9000 0]), (2, .ptr 2 0), (3, .ptr 3 0), (64, .ro (.int .i64 (v15.templates.length : Int))), (65, .ro (.int .i64 s.1))], [(2, some (.box [.ro (.int .i64 0), .ro (.int .i64 0), .ro (.int .i64 0), .ro (.list 1 (List.map (ei .i64) [])), .ro (.list 5 (List.map cells_Template [])), .ro (.list 2 (List.map cells_Size []))])), (3, some (.box [.ro (.int .i64 s.2.1.id_), .ro (.int .i64 s.2.1.targets), .ro (.int .i64 s.2.1.chains), .ro (.list 1 (List.map (ei .i64) s.2.1.protect)), .own 10130004, .own 10130005])), (9000, some (.box [.ro (.list 1 (List.map e8 s.2.2.c.bytes)), .ro (.int .i64 s.2.2.c.at_), .ro (.int .i64 s.2.2.c.err)])), (10130004, some (.arr 46 5 (List.map cells_Template s.2.1.templates))), (10130005, some (.arr 74 2 (List.map cells_Size s.2.1.sizes)))]⟩) h ?_) (.c rfl (.c rfl (.c rfl (.c rfl (.c rfl (.c rfl .n)))))) (.c rfl (.c rfl (.c rfl (.c rfl (.c rfl .n)))))
        rintro ⟨v17, v18, v19⟩ u4 h ih4 hx4
        replace h : templ_eye_read_y1_s4 z v15 v17 v18 v19 = _ := h
        unfold templ_eye_read_y1_s4 at h
        refine .sq ?_
        refine .rg (u (bc (.t rfl) (.t rfl) rfl rfl) <| .nil _) rfl ?_
        refine .sq ?_
        refine .bq h (.t rfl) (fun h => ?_) (fun h => ?_)
        · refine .skp ?_
          refine .sq ?_
          refine .bl ?_
          refine .sq ?_
          refine .rg (u (mv (.t rfl)) <| u (asg (.t rfl)) <| .nil _) rfl ?_
          refine be h fun x20 hx20 h => ?_
          refine be h fun x21 hx21 h => ?_
          refine .rd mixed (u (fa ff26_4 (.t rfl)) <| u (ld tf23 (.t rfl) rfl rfl) <| u (mv (.t rfl)) <| u (lc tf111 (.t rfl) rfl) <| u (fa ff26_2 (.t rfl)) <| u (ld tf3 (.t rfl) rfl rfl) <| u (mfn (.c (.t rfl) <| .n)) <| cly 76000000 cf73 (AY.ly (fun i => bif Nat.beq i 9000 then 9000 else i) (templ_eye_some_y4_c hx20) rfl rfl rfl rfl rfl rfl rfl)  (.c (.t rfl) <| .c (.t rfl) <| .c (.t rfl) <| .n) rfl (.c rfl <| .n) rfl <| u (io sf23 (.t rfl) rfl (.t rfl) (ix_map cells_Template hx21)) <| u (fa ff46_4 (.t rfl)) <| sef (F := cells_Template) (q := { x21 with chains := x20.1 }) (ys := [.list 1 (List.map (ei .i64) x20.1)]) tf22 (.t rfl) rfl (ix_lt hx21).2.2 (.t rfl) rfl rfl rfl <| .nil _) (by kernel_rfl) rfl ?_
          refine .ib ?_
          refine .rg (u (bi (.t rfl) (.i rfl) rfl) <| u (mv (.t rfl)) <| .nil _) rfl ?_
          exact .kq (.il (ih4 ((ar .add .i64 v17 1), { v18 with templates := (List.set v18.templates (v17 : Int).toNat ({ x21 with chains := x20.1 })) }, x20.2) (nxi h))) (.c rfl (.c rfl (.c rfl (.c rfl (.c rfl (.c rfl .n)))))) (.c rfl (.c rfl (.c rfl (.c rfl (.c rfl .n)))))
        · refine .xt rfl ?_
          replace h := mpR h hx4
          refine .sq ?_
          refine .sq ?_
          refine be h fun x22 hx22 h => ?_
          refine .rg (u (lc tf111 (.t rfl) rfl) <| cly 81000000 cf71 (AY.ly (fun i => bif Nat.beq i 9000 then 9000 else i) (templ_eye_num_y1_c hx22) rfl rfl rfl rfl rfl rfl rfl)  (.c (.t rfl) <| .c (.i rfl) <| .n) rfl (.c rfl <| .n) rfl <| u (bc (.t rfl) (.i rfl) rfl rfl) <| .nil _) rfl ?_
          refine .bq h (.t rfl) (fun h => ?_) (fun h => ?_)
          · refine .sq ?_
            refine .rg (u (ld tf26 (.t rfl) rfl rfl) <| st tf26 (.t rfl) rfl (.t rfl) rfl rfl rfl <| .nil _) rfl ?_
            refine .fz 10130004 rfl ?_
            refine .fz 10130005 rfl ?_
            obtain rfl := Option.some.inj h
            exact .rtx (o := [(9000, some (.box [.ro (.list 1 (List.map e8 x22.2.c.bytes)), .ro (.int .i64 x22.2.c.at_), .ro (.int .i64 x22.2.c.err)]))]) Try.func68 (.c tf26 rfl rfl rfl <| .n) (.c rfl .n) rfl rfl (.c rfl .n) rfl
          · refine .skp ?_
            refine .sq ?_
            refine .sq ?_
            refine be h fun x23 hx23 h => ?_
            refine .rg (u (fa ff26_4 (.t rfl)) <| u (ld tf23 (.t rfl) rfl rfl) <| u (fa ff26_4 (.t rfl)) <| u (ld tf23 (.t rfl) rfl rfl) <| u (lom sf23 (.t rfl) rfl) <| u (bi (.t rfl) (.i rfl) rfl) <| u (io sf23 (.t rfl) rfl (.t rfl) (ix_map cells_Template hx23)) <| u (fa ff46_0 (.t rfl)) <| u (lef tf3 (.t rfl) rfl (ix_lt (ix_map cells_Template hx23)).2.2 rfl rfl) <| u (bi (.t rfl) (.i rfl) rfl) <| u (mv (.i rfl)) <| .nil _) rfl ?_
            refine .bl ?_
            unfold templ_eye_read_y1_l5 at h
            refine .kq (.lo (fun (s : Int × Structure × templ_eye) => ⟨[(0, .ptr 9000 0), (1, .cptr [.ptr 9000 0]), (2, .ptr 2 0), (3, .ptr 3 0), (92, .ro (.int .i64 (ar .add .i64 x23.sid 1))), (93, .ro (.int .i64 s.1))], [(2, some (.box [.ro (.int .i64 0), .ro (.int .i64 0), .ro (.int .i64 0), .ro (.list 1 (List.map (ei .i64) [])), .ro (.list 5 (List.map cells_Template [])), .ro (.list 2 (List.map cells_Size []))])), (3, some (.box [.ro (.int .i64 s.2.1.id_), .ro (.int .i64 s.2.1.targets), .ro (.int .i64 s.2.1.chains), .ro (.list 1 (List.map (ei .i64) s.2.1.protect)), .own 10130004, .own 10130005])), (9000, some (.box [.ro (.list 1 (List.map e8 s.2.2.c.bytes)), .ro (.int .i64 s.2.2.c.at_), .ro (.int .i64 s.2.2.c.err)])), (10130004, some (.arr 46 5 (List.map cells_Template s.2.1.templates))), (10130005, some (.arr 74 2 (List.map cells_Size s.2.1.sizes)))]⟩) h ?_) (.c rfl (.c rfl (.c rfl (.c rfl (.c rfl (.c rfl .n)))))) (.c rfl (.c rfl (.c rfl (.c rfl (.c rfl .n)))))
            rintro ⟨v24, v25, v26⟩ u5 h ih5 hx5
            replace h : templ_eye_read_y1_s5 z x23 v24 v25 v26 = _ := h
            unfold templ_eye_read_y1_s5 at h
            refine .sq ?_
            refine .rg (u (bc (.t rfl) (.t rfl) rfl rfl) <| .nil _) rfl ?_
            refine .sq ?_
            refine .bq h (.t rfl) (fun h => ?_) (fun h => ?_)
            · refine .skp ?_
              refine .sq ?_
              refine .bl ?_
              refine be h fun x27 hx27 h => ?_
              refine be h fun x28 hx28 h => ?_
              refine be h fun x29 hx29 h => ?_
              refine .rd mixed (u (fa ff26_5 (.t rfl)) <| u (ld tf24 (.t rfl) rfl rfl) <| u (lc tf111 (.t rfl) rfl) <| cly 99000000 cf71 (AY.ly (fun i => bif Nat.beq i 9000 then 9000 else i) (templ_eye_num_y1_c hx27) rfl rfl rfl rfl rfl rfl rfl)  (.c (.t rfl) <| .c (.i rfl) <| .n) rfl (.c rfl <| .n) rfl <| u (bi (.t rfl) (.i rfl) rfl) <| u (lc tf111 (.t rfl) rfl) <| cly 102000000 cf71 (AY.ly (fun i => bif Nat.beq i 9000 then 9000 else i) (templ_eye_num_y1_c hx28) rfl rfl rfl rfl rfl rfl rfl)  (.c (.t rfl) <| .c (.i rfl) <| .n) rfl (.c rfl <| .n) rfl <| u (bi (.t rfl) (.i rfl) rfl) <| u (bd bf74 zf74 (.c rfl (.t rfl) rfl rfl rfl <| .c rfl (.t rfl) rfl rfl rfl <| .n) rfl) <| bs (F := cells_Size) (l := [(Size.mk (ar .add .i64 x27.1 1) (ar .add .i64 x28.1 1))]) 104 pf24 (.c (.t rfl) rfl <| .n) rfl (fun _ _ => rfl) rfl rfl <| apo 105 pf24 (.t rfl) rfl (.t rfl) rfl hx29 rfl <| u (fa ff26_5 (.t rfl)) <| st tf24 (.t rfl) rfl (.t rfl) rfl rfl rfl <| .nil _) (by kernel_rfl) rfl ?_
              refine .ib ?_
              refine .rg (u (bi (.t rfl) (.i rfl) rfl) <| u (mv (.t rfl)) <| .nil _) rfl ?_
              exact .ks (fun i => bif Nat.beq i 10130005 then 105 else i) (.il (ih5 ((ar .add .i64 v24 1), { v25 with sizes := x29 }, x28.2) (nxi h))) (.c rfl (.c rfl (.c rfl (.c rfl (.c rfl (.c rfl .n)))))) (.c rfl (.c rfl (.c rfl (.c rfl (.c rfl .n))))) rfl
            · refine .xt rfl ?_
              replace h := mpR h hx5
              refine .sq ?_
              refine .rg (u (ld tf26 (.t rfl) rfl rfl) <| st tf26 (.t rfl) rfl (.t rfl) rfl rfl rfl <| .nil _) rfl ?_
              refine .fz 10130004 rfl ?_
              refine .fz 10130005 rfl ?_
              obtain rfl := Option.some.inj h
              exact .rtx (o := [(9000, some (.box [.ro (.list 1 (List.map e8 v26.c.bytes)), .ro (.int .i64 v26.c.at_), .ro (.int .i64 v26.c.err)]))]) Try.func68 (.c tf26 rfl rfl rfl <| .n) (.c rfl .n) rfl rfl (.c rfl .n) rfl
      refine .bq h (.t rfl) (fun h => ?_) (fun h => ?_)
      · refine be h fun x30 hx30 h => ?_
        refine .rg (u (lc tf111 (.t rfl) rfl) <| u (fa ff26_1 (.t rfl)) <| u (ld tf3 (.t rfl) rfl rfl) <| u (mfn (.c (.t rfl) <| .c (.t rfl) <| .n)) <| clz 61000000 cf73 (AY.lz (lz := [(9000, [.ro (.list 1 (List.map e8 x14.2.c.bytes)), .ro (.int .i64 x14.2.c.at_), .ro (.int .i64 x14.2.c.err)]), (9001, [.ro (.int .i64 v10.id_), .ro (.int .i64 v10.targets), .ro (.int .i64 x14.1), .ro (.list 1 (List.map (ei .i64) v10.protect)), .own 10130004, .own 10130005])]) (lz' := [(9000, [.ro (.list 1 (List.map e8 x30.2.c.bytes)), .ro (.int .i64 x30.2.c.at_), .ro (.int .i64 x30.2.c.err)]), (9001, [.ro (.int .i64 v10.id_), .ro (.int .i64 v10.targets), .ro (.int .i64 x14.1), .ro (.list 1 (List.map (ei .i64) v10.protect)), .own 10130004, .own 10130005])]) (js := [(10130004, .arr 46 5 (List.map cells_Template v10.templates)), (10130005, .arr 74 2 (List.map cells_Size v10.sizes))]) (fun i => bif Nat.beq i 9001 then 3 else bif Nat.beq i 9000 then 9000 else i) (fun ρ => templ_eye_some_y5_c (hq0 := ρ 10130004) (hq1 := ρ 10130005) hx30) rfl rfl rfl rfl rfl rfl rfl rfl rfl rfl) (.c (.t rfl) <| .c (.t rfl) <| .c (.t rfl) <| .n) rfl (.c rfl <| .c rfl <| .n) (.c rfl <| .c rfl <| .n) rfl <| u (fa ff26_3 (.t rfl)) <| st tf22 (.t rfl) rfl (.t rfl) rfl rfl rfl <| .nil _) rfl ?_
        refine .fz 61008000 rfl ?_
        exact .kq (J3 ({ v10 with chains := x14.1, protect := x30.1 }, x30.2) h) (.c rfl (.c rfl (.c rfl (.c rfl .n)))) (.c rfl (.c rfl (.c rfl (.c rfl (.c rfl .n)))))
      · refine .skp ?_
        exact .kq (J3 ({ v10 with chains := x14.1 }, x14.2) h) (.c rfl (.c rfl (.c rfl (.c rfl .n)))) (.c rfl (.c rfl (.c rfl (.c rfl (.c rfl .n)))))

theorem templ_Get_c {z : Option Nat} {c : GBits} {r : GBits × Structure} (h : templ_Get z c = some r) :
    AC Try.prog 62 [.ro (enc_GBits c)] (.ro (.tup [enc_GBits r.1, enc_Structure r.2])) [] := by
  refine AC.of Try.func62 rfl rfl fun w M0 hM => ?_
  unfold templ_Get at h
  refine .sq ?_
  refine .rg (bx 1 (.t rfl) rfl rfl <| al 2 zf59 rfl <| al 3 zf26 rfl <| .nil _) rfl ?_
  refine .sq ?_
  refine .rg (u (ld tf59 (.t rfl) rfl rfl) <| u (bd bf113 zf113 (.c rfl (.t rfl) rfl rfl rfl <| .n) rfl) <| bx 8 (.t rfl) rfl rfl <| u (asg (.t rfl)) <| .nil _) rfl ?_
  refine .sq ?_
  refine be h fun x1 hx1 h => ?_
  refine .rg (u (mv (.t rfl)) <| cly 11000000 cf68 (AY.ly (fun i => bif Nat.beq i 9000 then 8 else i) (templ_eye_read_y1_c hx1) rfl rfl rfl rfl rfl rfl rfl)  (.c (.t rfl) <| .n) rfl (.c rfl <| .n) rfl <| al 5 zf26 rfl <| st tf26 (.t rfl) rfl (.t rfl) rfl rfl rfl <| .nil _) rfl ?_
  refine .sq ?_
  refine .sq ?_
  refine .rg (u (mv (.t rfl)) <| cl [] cf69 (templ_eye_fine_p_c x1.2) (.p (.t rfl) rfl rfl rfl <| .n) (.inr rfl) <| u (no (.t rfl)) <| .nil _) rfl ?_
  refine .bq h (.t rfl) (fun h => ?_) (fun h => ?_)
  · refine .sq ?_
    refine .rg (u (mv (.t rfl)) <| u (nkp (.t rfl)) <| u (fa ff113_0 (.t rfl)) <| u (fa ff59_2 (.t rfl)) <| u (ld tf34 (.t rfl) rfl rfl) <| u (fa ff59_2 (.t rfl)) <| st tf34 (.t rfl) rfl (.t rfl) rfl rfl rfl <| .nil _) rfl ?_
    refine .sq ?_
    refine .rg (u (ld tf59 (.t rfl) rfl rfl) <| u (bd bf26 zf26 (.n) rfl) <| st tf59 (.t rfl) rfl (.t rfl) rfl rfl rfl <| st tf26 (.t rfl) rfl (.t rfl) rfl rfl rfl <| .nil _) rfl ?_
    obtain rfl := Option.some.inj h
    exact .rt Try.func62 (.c tf59 rfl rfl rfl <| .c tf26 rfl rfl rfl <| .n) .n rfl rfl
  · refine .skp ?_
    refine .sq ?_
    refine .rd mixed (u (mv (.t rfl)) <| u (nkp (.t rfl)) <| u (fa ff113_0 (.t rfl)) <| u (ld tf59 (.t rfl) rfl rfl) <| u (ld tf26 (.t rfl) rfl rfl) <| st tf59 (.t rfl) rfl (.t rfl) rfl rfl rfl <| st tf26 (.t rfl) rfl (.t rfl) rfl rfl rfl <| .nil _) (by kernel_rfl) rfl ?_
    obtain rfl := Option.some.inj h
    exact .rt Try.func62 (.c tf59 rfl rfl rfl <| .c tf26 rfl rfl rfl <| .n) .n rfl rfl

theorem av1_eye_num_y1_c {z : Option Nat} {width : Int} {box0 : av1_eye} {r : Int × av1_eye} (h : av1_eye_num_y1 z width box0 = some r) :
    AY Try.prog 47 [.ptr 9000 0, .ro (.int .i64 width)] [(9000, [.list 1 (List.map e8 box0.c.bytes), .int .i64 box0.c.at_, .int .i64 box0.c.err])] [0] (.ro (.int .i64 r.1)) [] [(0, .ptr 9000 0)] [(9000, [.list 1 (List.map e8 r.2.c.bytes), .int .i64 r.2.c.at_, .int .i64 r.2.c.err])] := by
  refine AY.of Try.func47 rfl rfl fun w X M0 hM pv => ?_
  refine .kq (l := [(0, .ptr 9000 0), (1, .ro (.int .i64 width))]) (o := [(9000, some (.box [.ro (.list 1 (List.map e8 box0.c.bytes)), .ro (.int .i64 box0.c.at_), .ro (.int .i64 box0.c.err)]))]) ?_ (.c rfl (.c rfl .n)) (.c rfl .n)
  unfold av1_eye_num_y1 at h
  refine .sq ?_
  refine .rg (u (asg (.i rfl)) <| .nil _) rfl ?_
  refine .sq ?_
  refine be h fun x1 hx1 h => ?_
  refine .rg (u (mv (.t rfl)) <| u (nkp (.t rfl)) <| u (fa ff62_0 (.t rfl)) <| u (ld tf59 (.t rfl) rfl rfl) <| u (mv (.t rfl)) <| cl [] cf61 (bits_Get_c hx1) (.c (.t rfl) <| .c (.t rfl) <| .n) (.inl rfl) <| u (mv (.t rfl)) <| u (ex (.t rfl) rfl rfl) <| u (ex (.t rfl) rfl rfl) <| al 5 zf59 rfl <| st tf59 (.t rfl) rfl (.t rfl) rfl rfl rfl <| u (asg (.t rfl)) <| .nil _) rfl ?_
  refine .sq ?_
  refine .rg (u (mv (.t rfl)) <| u (ld tf59 (.t rfl) rfl rfl) <| u (nkp (.t rfl)) <| u (fa ff62_0 (.t rfl)) <| st tf59 (.t rfl) rfl (.t rfl) rfl rfl rfl <| .nil _) rfl ?_
  refine .sq ?_
  refine .rg (u (mv (.t rfl)) <| u (cv cv83_3 (.t rfl)) <| u (asg (.t rfl)) <| .nil _) rfl ?_
  obtain rfl := Option.some.inj h
  exact .rtx (o := [(9000, some (.box [.ro (.list 1 (List.map e8 x1.1.bytes)), .ro (.int .i64 x1.1.at_), .ro (.int .i64 x1.1.err)]))]) Try.func47 (.t rfl <| .n) (.c rfl .n) rfl rfl (.c rfl .n) rfl

theorem av1_eye_truth_y1_c {z : Option Nat} {box0 : av1_eye} {r : Bool × av1_eye} (h : av1_eye_truth_y1 z box0 = some r) :
    AY Try.prog 46 [.ptr 9000 0] [(9000, [.list 1 (List.map e8 box0.c.bytes), .int .i64 box0.c.at_, .int .i64 box0.c.err])] [0] (.ro (.bool r.1)) [] [(0, .ptr 9000 0)] [(9000, [.list 1 (List.map e8 r.2.c.bytes), .int .i64 r.2.c.at_, .int .i64 r.2.c.err])] := by
  refine AY.of Try.func46 rfl rfl fun w X M0 hM pv => ?_
  refine .kq (l := [(0, .ptr 9000 0)]) (o := [(9000, some (.box [.ro (.list 1 (List.map e8 box0.c.bytes)), .ro (.int .i64 box0.c.at_), .ro (.int .i64 box0.c.err)]))]) ?_ (.c rfl .n) (.c rfl .n)
  unfold av1_eye_truth_y1 at h
  refine .sq ?_
  refine .rg (u (asg .b) <| .nil _) rfl ?_
  refine .sq ?_
  refine be h fun x1 hx1 h => ?_
  refine .rg (u (mv (.t rfl)) <| cly 5000000 cf47 (AY.ly (fun i => bif Nat.beq i 9000 then 9000 else i) (av1_eye_num_y1_c hx1) rfl rfl rfl rfl rfl rfl rfl)  (.c (.t rfl) <| .c (.i rfl) <| .n) rfl (.c rfl <| .n) rfl <| u (bc (.t rfl) (.i rfl) rfl rfl) <| u (asg (.t rfl)) <| .nil _) rfl ?_
  obtain rfl := Option.some.inj h
  exact .rtx (o := [(9000, some (.box [.ro (.list 1 (List.map e8 x1.2.c.bytes)), .ro (.int .i64 x1.2.c.at_), .ro (.int .i64 x1.2.c.err)]))]) Try.func46 (.t rfl <| .n) (.c rfl .n) rfl rfl (.c rfl .n) rfl

theorem av1_eye_fine_p_c (y : av1_eye) :
    AC Try.prog 26 [.rptr [.list 1 (List.map e8 y.c.bytes), .int .i64 y.c.at_, .int .i64 y.c.err]] (.ro (.bool (av1_eye_fine_p y))) [] := by
  obtain ⟨r, h⟩ : ∃ r, av1_eye_fine_p y = r := ⟨_, rfl⟩
  rw [h]
  refine AC.of Try.func26 rfl rfl fun w M0 hM => ?_
  unfold av1_eye_fine_p at h
  refine .sq ?_
  refine .rg (u (asg .b) <| .nil _) rfl ?_
  refine .sq ?_
  refine .rg (u (mv (.t rfl)) <| u (nkr (.t rfl)) <| u (fr ff62_0 (.t rfl) rfl) <| u (fr ff59_2 (.t rfl) rfl) <| u (lr tf34 (.t rfl) rfl) <| u (bc (.t rfl) (.i rfl) rfl rfl) <| u (asg (.t rfl)) <| .nil _) rfl ?_
  subst h
  exact .rt Try.func26 (.t rfl <| .n) .n rfl rfl

theorem av1_eye_need_y1_c {z : Option Nat} {ok : Bool} {p_e : Int} {box0 : av1_eye} {r : av1_eye} (h : av1_eye_need_y1 z ok p_e box0 = some r) :
    AY Try.prog 24 [.ptr 9000 0, .ro (.bool ok), .ro (.int .i64 p_e)] [(9000, [.list 1 (List.map e8 box0.c.bytes), .int .i64 box0.c.at_, .int .i64 box0.c.err])] [0] (.ro (.tup [])) [] [(0, .ptr 9000 0)] [(9000, [.list 1 (List.map e8 r.c.bytes), .int .i64 r.c.at_, .int .i64 r.c.err])] := by
  refine AY.of Try.func24 rfl rfl fun w X M0 hM pv => ?_
  refine .kq (l := [(0, .ptr 9000 0), (1, .ro (.bool ok)), (2, .ro (.int .i64 p_e))]) (o := [(9000, some (.box [.ro (.list 1 (List.map e8 box0.c.bytes)), .ro (.int .i64 box0.c.at_), .ro (.int .i64 box0.c.err)]))]) ?_ (.c rfl (.c rfl (.c rfl .n))) (.c rfl .n)
  unfold av1_eye_need_y1 at h
  refine .sq ?_
  refine .rg (u (mv (.t rfl)) <| cl [] cf26 (av1_eye_fine_p_c box0) (.p (.t rfl) rfl rfl rfl <| .n) (.inr rfl) <| u (mv (.t rfl)) <| gd rfl rfl (fun hB => mv (.t rfl)) <| gd rfl rfl (fun hB => no (.m rfl hB)) <| u (pka (.t rfl) (.t rfl)) <| .nil _) rfl ?_
  refine .bq h (.t rfl) (fun h => ?_) (fun h => ?_)
  · refine .rg (u (mv (.t rfl)) <| u (mv (.t rfl)) <| u (nkp (.t rfl)) <| u (fa ff62_0 (.t rfl)) <| u (fa ff59_2 (.t rfl)) <| st tf34 (.t rfl) rfl (.t rfl) rfl rfl rfl <| .nil _) rfl ?_
    obtain rfl := Option.some.inj h
    exact .rte (o := [(9000, some (.box [.ro (.list 1 (List.map e8 box0.c.bytes)), .ro (.int .i64 box0.c.at_), .ro (.int .i64 p_e)]))]) Try.func24 (.n) (.c rfl .n) rfl rfl (.c rfl .n) rfl
  · refine .skp ?_
    obtain rfl := Option.some.inj h
    exact .rte (o := [(9000, some (.box [.ro (.list 1 (List.map e8 box0.c.bytes)), .ro (.int .i64 box0.c.at_), .ro (.int .i64 box0.c.err)]))]) Try.func24 (.n) (.c rfl .n) rfl rfl (.c rfl .n) rfl

theorem av1_eye_some_y1_c {z : Option Nat} {many : Int} {width : Int} {box0 : av1_eye} {r : List Int × av1_eye} (h : av1_eye_some_y1 z many width box0 = some r) :
    AY Try.prog 63 [.ptr 9000 0, .ro (.int .i64 many), .ro (.int .i64 width)] [(9000, [.list 1 (List.map e8 box0.c.bytes), .int .i64 box0.c.at_, .int .i64 box0.c.err])] [0] (.own 8000) [(8000, .arr 3 1 (List.map (ei .i64) r.1))] [(0, .ptr 9000 0)] [(9000, [.list 1 (List.map e8 r.2.c.bytes), .int .i64 r.2.c.at_, .int .i64 r.2.c.err])] := by
  refine AY.of Try.func63 rfl rfl fun w X M0 hM pv => ?_
  refine .kq (l := [(0, .ptr 9000 0), (1, .ro (.int .i64 many)), (2, .ro (.int .i64 width))]) (o := [(9000, some (.box [.ro (.list 1 (List.map e8 box0.c.bytes)), .ro (.int .i64 box0.c.at_), .ro (.int .i64 box0.c.err)]))]) ?_ (.c rfl (.c rfl (.c rfl .n))) (.c rfl .n)
  unfold av1_eye_some_y1 at h
  refine .sq ?_
  refine .rg (anm (ei .i64) 6 3 1 rfl rfl <| .nil _) rfl ?_
  refine .sq ?_
  refine .rg (anm (ei .i64) 7 3 1 rfl rfl <| .nil _) rfl ?_
  refine .sq ?_
  refine .sq ?_
  refine .rg (u (asg (.i rfl)) <| .nil _) rfl ?_
  refine .bl ?_
  unfold av1_eye_some_y1_l1 at h
  refine .kq (.lo (fun (s : List Int × Int × av1_eye) => ⟨[(0, .ptr 9000 0), (1, .ro (.int .i64 many)), (2, .ro (.int .i64 width)), (7, .own 7), (8, .ro (.int .i64 s.2.1))], [(7, some (.arr 3 1 (List.map (ei .i64) s.1))), (9000, some (.box [.ro (.list 1 (List.map e8 s.2.2.c.bytes)), .ro (.int .i64 s.2.2.c.at_), .ro (.int .i64 s.2.2.c.err)]))]⟩) h ?_) (.c rfl (.c rfl (.c rfl (.c rfl (.c rfl .n))))) (.c rfl (.c rfl .n))
  rintro ⟨v1, v2, v3⟩ u1 h ih1 hx1
  replace h : av1_eye_some_y1_s1 z many width v1 v2 v3 = _ := h
  unfold av1_eye_some_y1_s1 at h
  refine .sq ?_
  refine .sq ?_
  refine .rg (u (mv (.t rfl)) <| u (mv (.t rfl)) <| u (bc (.t rfl) (.t rfl) rfl rfl) <| u (mv (.t rfl)) <| gd rfl rfl (fun hB => mv (.t rfl)) <| cg rfl rfl cf26 (fun hB => (av1_eye_fine_p_c v3)) (fun hB => .p (.m rfl hB) rfl rfl rfl <| .n) (.inr rfl) <| u (pka (.t rfl) (.t rfl)) <| .nil _) rfl ?_
  refine .bq h (.t rfl) (fun h => ?_) (fun h => ?_)
  · refine .skp ?_
    refine .sq ?_
    refine .bl ?_
    refine be h fun x4 hx4 h => ?_
    refine be h fun x5 hx5 h => ?_
    refine .rg (u (mv (.t rfl)) <| u (mv (.t rfl)) <| u (mv (.t rfl)) <| cly 22000000 cf47 (AY.ly (fun i => bif Nat.beq i 9000 then 9000 else i) (av1_eye_num_y1_c hx4) rfl rfl rfl rfl rfl rfl rfl)  (.c (.t rfl) <| .c (.t rfl) <| .n) rfl (.c rfl <| .n) rfl <| bs (F := (ei .i64)) (l := [x4.1]) 22 pf22 (.c (.t rfl) rfl <| .n) rfl (fun _ _ => rfl) rfl rfl <| apo 23 pf22 (.t rfl) rfl (.t rfl) rfl hx5 rfl <| u (asg (.t rfl)) <| .nil _) rfl ?_
    refine .ib ?_
    refine .rg (u (mv (.t rfl)) <| u (bi (.t rfl) (.i rfl) rfl) <| u (asg (.t rfl)) <| .nil _) rfl ?_
    exact .ks (fun i => bif Nat.beq i 7 then 23 else i) (.il (ih1 (x5, (ar .add .i64 v2 1), x4.2) (nxi h))) (.c rfl (.c rfl (.c rfl (.c rfl (.c rfl .n))))) (.c rfl (.c rfl .n)) rfl
  · refine .xt rfl ?_
    replace h := mpR h hx1
    refine .sq ?_
    refine .rg (u (mv (.t rfl)) <| u (asg (.t rfl)) <| .nil _) rfl ?_
    obtain rfl := Option.some.inj h
    refine .ks (l := [(6, .own 8000), (0, .ptr 9000 0)]) (o := [(9000, some (.box [.ro (.list 1 (List.map e8 v3.c.bytes)), .ro (.int .i64 v3.c.at_), .ro (.int .i64 v3.c.err)])), (8000, some (.arr 3 1 (List.map (ei .i64) v1)))]) (fun i => bif Nat.beq i 8000 then 7 else i) ?_ (.c rfl (.c rfl .n)) (.c rfl (.c rfl .n)) rfl
    exact .rtx (o := [(9000, some (.box [.ro (.list 1 (List.map e8 v3.c.bytes)), .ro (.int .i64 v3.c.at_), .ro (.int .i64 v3.c.err)])), (8000, some (.arr 3 1 (List.map (ei .i64) v1)))]) Try.func63 (.t rfl <| .n) (.c rfl (.c rfl .n)) rfl rfl (.c rfl .n) rfl

theorem av1_eye_diffs_y1_c {z : Option Nat} {box0 : av1_eye} {r : List Int × av1_eye} (h : av1_eye_diffs_y1 z box0 = some r) :
    AY Try.prog 64 [.ptr 9000 0] [(9000, [.list 1 (List.map e8 box0.c.bytes), .int .i64 box0.c.at_, .int .i64 box0.c.err])] [0] (.own 8000) [(8000, .arr 3 1 (List.map (ei .i64) r.1))] [(0, .ptr 9000 0)] [(9000, [.list 1 (List.map e8 r.2.c.bytes), .int .i64 r.2.c.at_, .int .i64 r.2.c.err])] := by
  refine AY.of Try.func64 rfl rfl fun w X M0 hM pv => ?_
  refine .kq (l := [(0, .ptr 9000 0)]) (o := [(9000, some (.box [.ro (.list 1 (List.map e8 box0.c.bytes)), .ro (.int .i64 box0.c.at_), .ro (.int .i64 box0.c.err)]))]) ?_ (.c rfl .n) (.c rfl .n)
  unfold av1_eye_diffs_y1 at h
  refine .sq ?_
  refine .rg (anm (ei .i64) 2 3 1 rfl rfl <| .nil _) rfl ?_
  refine .sq ?_
  refine .rg (anm (ei .i64) 3 3 1 rfl rfl <| .nil _) rfl ?_
  refine .sq ?_
  refine .sq ?_
  refine be h fun x1 hx1 h => ?_
  refine .rg (u (mv (.t rfl)) <| cly 7000000 cf47 (AY.ly (fun i => bif Nat.beq i 9000 then 9000 else i) (av1_eye_num_y1_c hx1) rfl rfl rfl rfl rfl rfl rfl)  (.c (.t rfl) <| .c (.i rfl) <| .n) rfl (.c rfl <| .n) rfl <| u (asg (.t rfl)) <| .nil _) rfl ?_
  refine .bl ?_
  unfold av1_eye_diffs_y1_l1 at h
  refine .kq (.lo (fun (s : List Int × Int × av1_eye) => ⟨[(0, .ptr 9000 0), (3, .own 3), (4, .ro (.int .i64 s.2.1))], [(3, some (.arr 3 1 (List.map (ei .i64) s.1))), (9000, some (.box [.ro (.list 1 (List.map e8 s.2.2.c.bytes)), .ro (.int .i64 s.2.2.c.at_), .ro (.int .i64 s.2.2.c.err)]))]⟩) h ?_) (.c rfl (.c rfl (.c rfl .n))) (.c rfl (.c rfl .n))
  rintro ⟨v2, v3, v4⟩ u1 h ih1 hx1
  replace h : av1_eye_diffs_y1_s1 z v2 v3 v4 = _ := h
  unfold av1_eye_diffs_y1_s1 at h
  refine .sq ?_
  refine .sq ?_
  refine .rg (u (mv (.t rfl)) <| u (bc (.t rfl) (.i rfl) rfl rfl) <| u (mv (.t rfl)) <| gd rfl rfl (fun hB => mv (.t rfl)) <| cg rfl rfl cf26 (fun hB => (av1_eye_fine_p_c v4)) (fun hB => .p (.m rfl hB) rfl rfl rfl <| .n) (.inr rfl) <| u (pka (.t rfl) (.t rfl)) <| .nil _) rfl ?_
  refine .bq h (.t rfl) (fun h => ?_) (fun h => ?_)
  · refine .skp ?_
    refine .sq ?_
    refine .bl ?_
    refine .sq ?_
    refine be h fun x5 hx5 h => ?_
    refine .rg (u (mv (.t rfl)) <| u (mv (.t rfl)) <| u (lom sf22 (.t rfl) rfl) <| u (bc (.t rfl) (.i rfl) rfl rfl) <| cly 20000000 cf24 (AY.ly (fun i => bif Nat.beq i 9000 then 9000 else i) (av1_eye_need_y1_c hx5) rfl rfl rfl rfl rfl rfl rfl)  (.c (.t rfl) <| .c (.t rfl) <| .c (.i rfl) <| .n) rfl (.c rfl <| .n) rfl <| .nil _) rfl ?_
    refine be h fun x6 hx6 h => ?_
    refine be h fun x7 hx7 h => ?_
    refine .rg (u (mv (.t rfl)) <| u (mv (.t rfl)) <| u (mv (.t rfl)) <| u (bi (.i rfl) (.t rfl) rfl) <| cly 25000000 cf47 (AY.ly (fun i => bif Nat.beq i 9000 then 9000 else i) (av1_eye_num_y1_c hx6) rfl rfl rfl rfl rfl rfl rfl)  (.c (.t rfl) <| .c (.t rfl) <| .n) rfl (.c rfl <| .n) rfl <| u (bi (.t rfl) (.i rfl) rfl) <| bs (F := (ei .i64)) (l := [(ar .add .i64 x6.1 1)]) 26 pf22 (.c (.t rfl) rfl <| .n) rfl (fun _ _ => rfl) rfl rfl <| apo 27 pf22 (.t rfl) rfl (.t rfl) rfl hx7 rfl <| u (asg (.t rfl)) <| .nil _) rfl ?_
    refine .ib ?_
    refine be h fun x8 hx8 h => ?_
    refine .rg (u (mv (.t rfl)) <| cly 15000000 cf47 (AY.ly (fun i => bif Nat.beq i 9000 then 9000 else i) (av1_eye_num_y1_c hx8) rfl rfl rfl rfl rfl rfl rfl)  (.c (.t rfl) <| .c (.i rfl) <| .n) rfl (.c rfl <| .n) rfl <| u (asg (.t rfl)) <| .nil _) rfl ?_
    exact .ks (fun i => bif Nat.beq i 3 then 27 else i) (.il (ih1 (x7, x8.1, x8.2) (nxi h))) (.c rfl (.c rfl (.c rfl .n))) (.c rfl (.c rfl .n)) rfl
  · refine .xt rfl ?_
    replace h := mpR h hx1
    refine .sq ?_
    refine .rg (u (mv (.t rfl)) <| u (asg (.t rfl)) <| .nil _) rfl ?_
    obtain rfl := Option.some.inj h
    refine .ks (l := [(2, .own 8000), (0, .ptr 9000 0)]) (o := [(9000, some (.box [.ro (.list 1 (List.map e8 v4.c.bytes)), .ro (.int .i64 v4.c.at_), .ro (.int .i64 v4.c.err)])), (8000, some (.arr 3 1 (List.map (ei .i64) v2)))]) (fun i => bif Nat.beq i 8000 then 3 else i) ?_ (.c rfl (.c rfl .n)) (.c rfl (.c rfl .n)) rfl
    exact .rtx (o := [(9000, some (.box [.ro (.list 1 (List.map e8 v4.c.bytes)), .ro (.int .i64 v4.c.at_), .ro (.int .i64 v4.c.err)])), (8000, some (.arr 3 1 (List.map (ei .i64) v2)))]) Try.func64 (.t rfl <| .n) (.c rfl (.c rfl .n)) rfl rfl (.c rfl .n) rfl

theorem av1_eye_rest_y1_c {z : Option Nat} {p_s : Structure} {box0 : av1_eye} {box1 : Frame} {r : av1_eye × Frame} (h : av1_eye_rest_y1 z p_s box0 box1 = some r) :
    AY Try.prog 49 [.ptr 9000 0, .ptr 9001 0, .ro (enc_Structure p_s)] [(9000, [.list 1 (List.map e8 box0.c.bytes), .int .i64 box0.c.at_, .int .i64 box0.c.err]), (9001, [.bool box1.start, .bool box1.end_, .int .i64 box1.template, .int .i64 box1.number, .bool box1.hasStructure, .int .i64 box1.structure_.id_, .int .i64 box1.structure_.targets, .int .i64 box1.structure_.chains, .list 1 (List.map (ei .i64) box1.structure_.protect), .list 5 (List.map cells_Template box1.structure_.templates), .list 2 (List.map cells_Size box1.structure_.sizes), .bool box1.hasActive, .int .u32 box1.active, .bool box1.ownMarks, .list 1 (List.map (ei .i64) box1.marks), .bool box1.ownDiffs, .list 1 (List.map (ei .i64) box1.diffs), .bool box1.ownChains, .list 1 (List.map (ei .i64) box1.chains)])] [0, 1] (.ro (.tup [])) [] [(0, .ptr 9000 0), (1, .ptr 9001 0)] [(9000, [.list 1 (List.map e8 r.1.c.bytes), .int .i64 r.1.c.at_, .int .i64 r.1.c.err]), (9001, [.bool r.2.start, .bool r.2.end_, .int .i64 r.2.template, .int .i64 r.2.number, .bool r.2.hasStructure, .int .i64 r.2.structure_.id_, .int .i64 r.2.structure_.targets, .int .i64 r.2.structure_.chains, .list 1 (List.map (ei .i64) r.2.structure_.protect), .list 5 (List.map cells_Template r.2.structure_.templates), .list 2 (List.map cells_Size r.2.structure_.sizes), .bool r.2.hasActive, .int .u32 r.2.active, .bool r.2.ownMarks, .list 1 (List.map (ei .i64) r.2.marks), .bool r.2.ownDiffs, .list 1 (List.map (ei .i64) r.2.diffs), .bool r.2.ownChains, .list 1 (List.map (ei .i64) r.2.chains)])] := by
  refine AY.of Try.func49 rfl rfl fun w X M0 hM pv => ?_
  refine .kq (l := [(0, .ptr 9000 0), (1, .ptr 9001 0), (2, .ro (enc_Structure p_s))]) (o := [(9000, some (.box [.ro (.list 1 (List.map e8 box0.c.bytes)), .ro (.int .i64 box0.c.at_), .ro (.int .i64 box0.c.err)])), (9001, some (.box [.ro (.bool box1.start), .ro (.bool box1.end_), .ro (.int .i64 box1.template), .ro (.int .i64 box1.number), .ro (.bool box1.hasStructure), .ro (.int .i64 box1.structure_.id_), .ro (.int .i64 box1.structure_.targets), .ro (.int .i64 box1.structure_.chains), .ro (.list 1 (List.map (ei .i64) box1.structure_.protect)), .ro (.list 5 (List.map cells_Template box1.structure_.templates)), .ro (.list 2 (List.map cells_Size box1.structure_.sizes)), .ro (.bool box1.hasActive), .ro (.int .u32 box1.active), .ro (.bool box1.ownMarks), .ro (.list 1 (List.map (ei .i64) box1.marks)), .ro (.bool box1.ownDiffs), .ro (.list 1 (List.map (ei .i64) box1.diffs)), .ro (.bool box1.ownChains), .ro (.list 1 (List.map (ei .i64) box1.chains))]))]) ?_ (.c rfl (.c rfl (.c rfl .n))) (.c rfl (.c rfl .n))
  unfold av1_eye_rest_y1 at h
  refine .sq ?_
  refine .rg (bx 5 (.t rfl) rfl rfl <| .nil _) rfl ?_
  refine .sq ?_
  refine .sq ?_
  refine .rg (u (mv (.t rfl)) <| u (nkp (.t rfl)) <| u (fa ff29_6 (.t rfl)) <| u (ld tf4 (.t rfl) rfl rfl) <| .nil _) rfl ?_
  refine .jq (t := some r) (fun (a : Structure × av1_eye × Frame) => ⟨[(0, .ptr 9000 0), (1, .ptr 9001 0), (5, .ptr 5 0)], [(5, some (.box [.ro (.int .i64 a.1.id_), .ro (.int .i64 a.1.targets), .ro (.int .i64 a.1.chains), .ro (.list 1 (List.map (ei .i64) a.1.protect)), .ro (.list 5 (List.map cells_Template a.1.templates)), .ro (.list 2 (List.map cells_Size a.1.sizes))])), (9000, some (.box [.ro (.list 1 (List.map e8 a.2.1.c.bytes)), .ro (.int .i64 a.2.1.c.at_), .ro (.int .i64 a.2.1.c.err)])), (9001, some (.box [.ro (.bool a.2.2.start), .ro (.bool a.2.2.end_), .ro (.int .i64 a.2.2.template), .ro (.int .i64 a.2.2.number), .ro (.bool a.2.2.hasStructure), .ro (.int .i64 a.2.2.structure_.id_), .ro (.int .i64 a.2.2.structure_.targets), .ro (.int .i64 a.2.2.structure_.chains), .ro (.list 1 (List.map (ei .i64) a.2.2.structure_.protect)), .ro (.list 5 (List.map cells_Template a.2.2.structure_.templates)), .ro (.list 2 (List.map cells_Size a.2.2.structure_.sizes)), .ro (.bool a.2.2.hasActive), .ro (.int .u32 a.2.2.active), .ro (.bool a.2.2.ownMarks), .ro (.list 1 (List.map (ei .i64) a.2.2.marks)), .ro (.bool a.2.2.ownDiffs), .ro (.list 1 (List.map (ei .i64) a.2.2.diffs)), .ro (.bool a.2.2.ownChains), .ro (.list 1 (List.map (ei .i64) a.2.2.chains))]))]⟩) (fun (a : Structure × av1_eye × Frame) => av1_eye_rest_y1_j1 z a.1 a.2.1 a.2.2) ?_ (fun J1 => ?_)
  · rintro ⟨v1, v2, v3⟩ h
    replace h : av1_eye_rest_y1_j1 z v1 v2 v3 = _ := h
    unfold av1_eye_rest_y1_j1 at h
    refine .sq ?_
    refine .sq ?_
    refine .rg (u (mv (.t rfl)) <| u (nkp (.t rfl)) <| u (fa ff29_8 (.t rfl)) <| u (ld tf4 (.t rfl) rfl rfl) <| .nil _) rfl ?_
    refine .jq (t := some r) (fun (a : Structure × av1_eye × Frame) => ⟨[(0, .ptr 9000 0), (1, .ptr 9001 0), (5, .ptr 5 0)], [(5, some (.box [.ro (.int .i64 a.1.id_), .ro (.int .i64 a.1.targets), .ro (.int .i64 a.1.chains), .ro (.list 1 (List.map (ei .i64) a.1.protect)), .ro (.list 5 (List.map cells_Template a.1.templates)), .ro (.list 2 (List.map cells_Size a.1.sizes))])), (9000, some (.box [.ro (.list 1 (List.map e8 a.2.1.c.bytes)), .ro (.int .i64 a.2.1.c.at_), .ro (.int .i64 a.2.1.c.err)])), (9001, some (.box [.ro (.bool a.2.2.start), .ro (.bool a.2.2.end_), .ro (.int .i64 a.2.2.template), .ro (.int .i64 a.2.2.number), .ro (.bool a.2.2.hasStructure), .ro (.int .i64 a.2.2.structure_.id_), .ro (.int .i64 a.2.2.structure_.targets), .ro (.int .i64 a.2.2.structure_.chains), .ro (.list 1 (List.map (ei .i64) a.2.2.structure_.protect)), .ro (.list 5 (List.map cells_Template a.2.2.structure_.templates)), .ro (.list 2 (List.map cells_Size a.2.2.structure_.sizes)), .ro (.bool a.2.2.hasActive), .ro (.int .u32 a.2.2.active), .ro (.bool a.2.2.ownMarks), .ro (.list 1 (List.map (ei .i64) a.2.2.marks)), .ro (.bool a.2.2.ownDiffs), .ro (.list 1 (List.map (ei .i64) a.2.2.diffs)), .ro (.bool a.2.2.ownChains), .ro (.list 1 (List.map (ei .i64) a.2.2.chains))]))]⟩) (fun (a : Structure × av1_eye × Frame) => av1_eye_rest_y1_j2 z a.1 a.2.1 a.2.2) ?_ (fun J2 => ?_)
    · rintro ⟨v4, v5, v6⟩ h
      replace h : av1_eye_rest_y1_j2 z v4 v5 v6 = _ := h
      unfold av1_eye_rest_y1_j2 at h
      refine .sq ?_
      refine .sq ?_
      refine .rg (u (mv (.t rfl)) <| u (nkp (.t rfl)) <| u (fa ff29_10 (.t rfl)) <| u (ld tf4 (.t rfl) rfl rfl) <| .nil _) rfl ?_
      refine .jq (t := some r) (fun (a : av1_eye × Frame) => ⟨[(0, .ptr 9000 0), (1, .ptr 9001 0), (5, .ptr 5 0)], [(5, some (.box [.ro (.int .i64 v4.id_), .ro (.int .i64 v4.targets), .ro (.int .i64 v4.chains), .ro (.list 1 (List.map (ei .i64) v4.protect)), .ro (.list 5 (List.map cells_Template v4.templates)), .ro (.list 2 (List.map cells_Size v4.sizes))])), (9000, some (.box [.ro (.list 1 (List.map e8 a.1.c.bytes)), .ro (.int .i64 a.1.c.at_), .ro (.int .i64 a.1.c.err)])), (9001, some (.box [.ro (.bool a.2.start), .ro (.bool a.2.end_), .ro (.int .i64 a.2.template), .ro (.int .i64 a.2.number), .ro (.bool a.2.hasStructure), .ro (.int .i64 a.2.structure_.id_), .ro (.int .i64 a.2.structure_.targets), .ro (.int .i64 a.2.structure_.chains), .ro (.list 1 (List.map (ei .i64) a.2.structure_.protect)), .ro (.list 5 (List.map cells_Template a.2.structure_.templates)), .ro (.list 2 (List.map cells_Size a.2.structure_.sizes)), .ro (.bool a.2.hasActive), .ro (.int .u32 a.2.active), .ro (.bool a.2.ownMarks), .ro (.list 1 (List.map (ei .i64) a.2.marks)), .ro (.bool a.2.ownDiffs), .ro (.list 1 (List.map (ei .i64) a.2.diffs)), .ro (.bool a.2.ownChains), .ro (.list 1 (List.map (ei .i64) a.2.chains))]))]⟩) (fun (a : av1_eye × Frame) => av1_eye_rest_y1_j3 z v4 a.1 a.2) ?_ (fun J3 => ?_)
      · rintro ⟨v7, v8⟩ h
        replace h : av1_eye_rest_y1_j3 z v4 v7 v8 = _ := h
        unfold av1_eye_rest_y1_j3 at h
        refine .sq ?_
        refine .rg (u (mv (.t rfl)) <| u (nkp (.t rfl)) <| u (fa ff29_12 (.t rfl)) <| u (ld tf4 (.t rfl) rfl rfl) <| .nil _) rfl ?_
        refine .bq h (.t rfl) (fun h => ?_) (fun h => ?_)
        · refine be h fun x9 hx9 h => ?_
          refine .rg (u (mv (.t rfl)) <| u (mv (.t rfl)) <| u (fa ff26_2 (.t rfl)) <| u (ld tf3 (.t rfl) rfl rfl) <| cly 47000000 cf63 (AY.ly (fun i => bif Nat.beq i 9000 then 9000 else i) (av1_eye_some_y1_c hx9) rfl rfl rfl rfl rfl rfl rfl)  (.c (.t rfl) <| .c (.t rfl) <| .c (.i rfl) <| .n) rfl (.c rfl <| .n) rfl <| u (nkp (.t rfl)) <| u (fa ff29_13 (.t rfl)) <| st tf22 (.t rfl) rfl (.t rfl) rfl rfl rfl <| .nil _) rfl ?_
          refine .fz 47008000 rfl ?_
          obtain rfl := Option.some.inj h
          exact .rte (o := [(9000, some (.box [.ro (.list 1 (List.map e8 x9.2.c.bytes)), .ro (.int .i64 x9.2.c.at_), .ro (.int .i64 x9.2.c.err)])), (9001, some (.box [.ro (.bool v8.start), .ro (.bool v8.end_), .ro (.int .i64 v8.template), .ro (.int .i64 v8.number), .ro (.bool v8.hasStructure), .ro (.int .i64 v8.structure_.id_), .ro (.int .i64 v8.structure_.targets), .ro (.int .i64 v8.structure_.chains), .ro (.list 1 (List.map (ei .i64) v8.structure_.protect)), .ro (.list 5 (List.map cells_Template v8.structure_.templates)), .ro (.list 2 (List.map cells_Size v8.structure_.sizes)), .ro (.bool v8.hasActive), .ro (.int .u32 v8.active), .ro (.bool v8.ownMarks), .ro (.list 1 (List.map (ei .i64) v8.marks)), .ro (.bool v8.ownDiffs), .ro (.list 1 (List.map (ei .i64) v8.diffs)), .ro (.bool v8.ownChains), .ro (.list 1 (List.map (ei .i64) x9.1))]))]) Try.func49 (.n) (.c rfl (.c rfl .n)) rfl rfl (.c rfl (.c rfl .n)) rfl
        · refine .skp ?_
          obtain rfl := Option.some.inj h
          exact .rte (o := [(9000, some (.box [.ro (.list 1 (List.map e8 v7.c.bytes)), .ro (.int .i64 v7.c.at_), .ro (.int .i64 v7.c.err)])), (9001, some (.box [.ro (.bool v8.start), .ro (.bool v8.end_), .ro (.int .i64 v8.template), .ro (.int .i64 v8.number), .ro (.bool v8.hasStructure), .ro (.int .i64 v8.structure_.id_), .ro (.int .i64 v8.structure_.targets), .ro (.int .i64 v8.structure_.chains), .ro (.list 1 (List.map (ei .i64) v8.structure_.protect)), .ro (.list 5 (List.map cells_Template v8.structure_.templates)), .ro (.list 2 (List.map cells_Size v8.structure_.sizes)), .ro (.bool v8.hasActive), .ro (.int .u32 v8.active), .ro (.bool v8.ownMarks), .ro (.list 1 (List.map (ei .i64) v8.marks)), .ro (.bool v8.ownDiffs), .ro (.list 1 (List.map (ei .i64) v8.diffs)), .ro (.bool v8.ownChains), .ro (.list 1 (List.map (ei .i64) v8.chains))]))]) Try.func49 (.n) (.c rfl (.c rfl .n)) rfl rfl (.c rfl (.c rfl .n)) rfl
      refine .bq h (.t rfl) (fun h => ?_) (fun h => ?_)
      · refine be h fun x10 hx10 h => ?_
        refine .rg (u (mv (.t rfl)) <| u (mv (.t rfl)) <| cly 36000000 cf64 (AY.ly (fun i => bif Nat.beq i 9000 then 9000 else i) (av1_eye_diffs_y1_c hx10) rfl rfl rfl rfl rfl rfl rfl)  (.c (.t rfl) <| .n) rfl (.c rfl <| .n) rfl <| u (nkp (.t rfl)) <| u (fa ff29_11 (.t rfl)) <| st tf22 (.t rfl) rfl (.t rfl) rfl rfl rfl <| .nil _) rfl ?_
        refine .fz 36008000 rfl ?_
        exact .kq (J3 (x10.2, { v6 with diffs := x10.1 }) h) (.c rfl (.c rfl (.c rfl .n))) (.c rfl (.c rfl (.c rfl .n)))
      · refine .skp ?_
        exact .kq (J3 (v5, v6) h) (.c rfl (.c rfl (.c rfl .n))) (.c rfl (.c rfl (.c rfl .n)))
    refine .bq h (.t rfl) (fun h => ?_) (fun h => ?_)
    · refine be h fun x11 hx11 h => ?_
      refine .rg (u (mv (.t rfl)) <| u (mv (.t rfl)) <| u (fa ff26_1 (.t rfl)) <| u (ld tf3 (.t rfl) rfl rfl) <| cly 27000000 cf63 (AY.ly (fun i => bif Nat.beq i 9000 then 9000 else i) (av1_eye_some_y1_c hx11) rfl rfl rfl rfl rfl rfl rfl)  (.c (.t rfl) <| .c (.t rfl) <| .c (.i rfl) <| .n) rfl (.c rfl <| .n) rfl <| u (nkp (.t rfl)) <| u (fa ff29_9 (.t rfl)) <| st tf22 (.t rfl) rfl (.t rfl) rfl rfl rfl <| .nil _) rfl ?_
      refine .fz 27008000 rfl ?_
      exact .kq (J2 (v1, x11.2, { v3 with marks := x11.1 }) h) (.c rfl (.c rfl (.c rfl .n))) (.c rfl (.c rfl (.c rfl .n)))
    · refine .skp ?_
      exact .kq (J2 (v1, v2, v3) h) (.c rfl (.c rfl (.c rfl .n))) (.c rfl (.c rfl (.c rfl .n)))
  refine .bq h (.t rfl) (fun h => ?_) (fun h => ?_)
  · refine be h fun x12 hx12 h => ?_
    refine .rg (u (mv (.t rfl)) <| u (mv (.t rfl)) <| u (fa ff26_1 (.t rfl)) <| u (ld tf3 (.t rfl) rfl rfl) <| cly 15000000 cf47 (AY.ly (fun i => bif Nat.beq i 9000 then 9000 else i) (av1_eye_num_y1_c hx12) rfl rfl rfl rfl rfl rfl rfl)  (.c (.t rfl) <| .c (.t rfl) <| .n) rfl (.c rfl <| .n) rfl <| u (cv cv3_27 (.t rfl)) <| u (nkp (.t rfl)) <| u (fa ff29_7 (.t rfl)) <| st tf27 (.t rfl) rfl (.t rfl) rfl rfl rfl <| .nil _) rfl ?_
    exact .kq (J1 (p_s, x12.2, { box1 with active := (IntKind.u32.wrap x12.1) }) h) (.c rfl (.c rfl (.c rfl .n))) (.c rfl (.c rfl (.c rfl .n)))
  · refine .skp ?_
    exact .kq (J1 (p_s, box0, box1) h) (.c rfl (.c rfl (.c rfl .n))) (.c rfl (.c rfl (.c rfl .n)))

theorem av1_eye_flags_y1_c {z : Option Nat} {box0 : av1_eye} {box1 : Frame} {r : av1_eye × Frame} (h : av1_eye_flags_y1 z box0 box1 = some r) :
    AY Try.prog 48 [.ptr 9000 0, .ptr 9001 0] [(9000, [.list 1 (List.map e8 box0.c.bytes), .int .i64 box0.c.at_, .int .i64 box0.c.err]), (9001, [.bool box1.start, .bool box1.end_, .int .i64 box1.template, .int .i64 box1.number, .bool box1.hasStructure, .int .i64 box1.structure_.id_, .int .i64 box1.structure_.targets, .int .i64 box1.structure_.chains, .list 1 (List.map (ei .i64) box1.structure_.protect), .list 5 (List.map cells_Template box1.structure_.templates), .list 2 (List.map cells_Size box1.structure_.sizes), .bool box1.hasActive, .int .u32 box1.active, .bool box1.ownMarks, .list 1 (List.map (ei .i64) box1.marks), .bool box1.ownDiffs, .list 1 (List.map (ei .i64) box1.diffs), .bool box1.ownChains, .list 1 (List.map (ei .i64) box1.chains)])] [0, 1] (.ro (.tup [])) [] [(0, .ptr 9000 0), (1, .ptr 9001 0)] [(9000, [.list 1 (List.map e8 r.1.c.bytes), .int .i64 r.1.c.at_, .int .i64 r.1.c.err]), (9001, [.bool r.2.start, .bool r.2.end_, .int .i64 r.2.template, .int .i64 r.2.number, .bool r.2.hasStructure, .int .i64 r.2.structure_.id_, .int .i64 r.2.structure_.targets, .int .i64 r.2.structure_.chains, .list 1 (List.map (ei .i64) r.2.structure_.protect), .list 5 (List.map cells_Template r.2.structure_.templates), .list 2 (List.map cells_Size r.2.structure_.sizes), .bool r.2.hasActive, .int .u32 r.2.active, .bool r.2.ownMarks, .list 1 (List.map (ei .i64) r.2.marks), .bool r.2.ownDiffs, .list 1 (List.map (ei .i64) r.2.diffs), .bool r.2.ownChains, .list 1 (List.map (ei .i64) r.2.chains)])] := by
  refine AY.of Try.func48 rfl rfl fun w X M0 hM pv => ?_
  refine .kq (l := [(0, .ptr 9000 0), (1, .ptr 9001 0)]) (o := [(9000, some (.box [.ro (.list 1 (List.map e8 box0.c.bytes)), .ro (.int .i64 box0.c.at_), .ro (.int .i64 box0.c.err)])), (9001, some (.box [.ro (.bool box1.start), .ro (.bool box1.end_), .ro (.int .i64 box1.template), .ro (.int .i64 box1.number), .ro (.bool box1.hasStructure), .ro (.int .i64 box1.structure_.id_), .ro (.int .i64 box1.structure_.targets), .ro (.int .i64 box1.structure_.chains), .ro (.list 1 (List.map (ei .i64) box1.structure_.protect)), .ro (.list 5 (List.map cells_Template box1.structure_.templates)), .ro (.list 2 (List.map cells_Size box1.structure_.sizes)), .ro (.bool box1.hasActive), .ro (.int .u32 box1.active), .ro (.bool box1.ownMarks), .ro (.list 1 (List.map (ei .i64) box1.marks)), .ro (.bool box1.ownDiffs), .ro (.list 1 (List.map (ei .i64) box1.diffs)), .ro (.bool box1.ownChains), .ro (.list 1 (List.map (ei .i64) box1.chains))]))]) ?_ (.c rfl (.c rfl .n)) (.c rfl (.c rfl .n))
  unfold av1_eye_flags_y1 at h
  refine .sq ?_
  refine .sq ?_
  refine .rd mixed (u (mv (.t rfl)) <| u (nkp (.t rfl)) <| u (fa ff29_4 (.t rfl)) <| u (mv (.t rfl)) <| u (nkp (.t rfl)) <| u (fa ff29_6 (.t rfl)) <| u (mv (.t rfl)) <| u (nkp (.t rfl)) <| u (fa ff29_8 (.t rfl)) <| u (mv (.t rfl)) <| u (nkp (.t rfl)) <| u (fa ff29_10 (.t rfl)) <| u (mv (.t rfl)) <| u (nkp (.t rfl)) <| u (fa ff29_12 (.t rfl)) <| bsp 21 pf103 (.c (.t rfl) <| .c (.t rfl) <| .c (.t rfl) <| .c (.t rfl) <| .c (.t rfl) <| .n) rfl rfl rfl rfl <| u (lnv sf103 (.t rfl)) <| u (mv (.i rfl)) <| .nil _) (by kernel_rfl) rfl ?_
  refine .bl ?_
  refine .lp ?_
  refine .sq ?_
  refine .rg (u (bc (.t rfl) (.t rfl) rfl rfl) <| .nil _) rfl ?_
  refine .sq ?_
  refine .ct (.t rfl) rfl ?_
  refine .skp ?_
  refine .sq ?_
  refine .bl ?_
  refine .sq ?_
  refine .rg (u (ixb sf103 (.t rfl) (.t rfl) rfl rfl) <| u (ld tf102 (.t rfl) rfl rfl) <| u (asg (.t rfl)) <| .nil _) rfl ?_
  refine be h fun x1 hx1 h => ?_
  refine .rg (u (mv (.t rfl)) <| u (mv (.t rfl)) <| cly 30000000 cf46 (AY.ly (fun i => bif Nat.beq i 9000 then 9000 else i) (av1_eye_truth_y1_c hx1) rfl rfl rfl rfl rfl rfl rfl)  (.c (.t rfl) <| .n) rfl (.c rfl <| .n) rfl <| u (nkp (.t rfl)) <| st tf4 (.t rfl) rfl (.t rfl) rfl rfl rfl <| .nil _) rfl ?_
  refine .ib ?_
  refine .rg (u (bi (.t rfl) (.i rfl) rfl) <| u (mv (.t rfl)) <| .nil _) rfl ?_
  refine .il ?_
  refine .sq ?_
  refine .rg (u (bc (.t rfl) (.t rfl) rfl rfl) <| .nil _) rfl ?_
  refine .sq ?_
  refine .ct (.t rfl) rfl ?_
  refine .skp ?_
  refine .sq ?_
  refine .bl ?_
  refine .sq ?_
  refine .rg (u (ixb sf103 (.t rfl) (.t rfl) rfl rfl) <| u (ld tf102 (.t rfl) rfl rfl) <| u (asg (.t rfl)) <| .nil _) rfl ?_
  refine be h fun x2 hx2 h => ?_
  refine .rg (u (mv (.t rfl)) <| u (mv (.t rfl)) <| cly 30000000 cf46 (AY.ly (fun i => bif Nat.beq i 9000 then 9000 else i) (av1_eye_truth_y1_c hx2) rfl rfl rfl rfl rfl rfl rfl)  (.c (.t rfl) <| .n) rfl (.c rfl <| .n) rfl <| u (nkp (.t rfl)) <| st tf4 (.t rfl) rfl (.t rfl) rfl rfl rfl <| .nil _) rfl ?_
  refine .ib ?_
  refine .rg (u (bi (.t rfl) (.i rfl) rfl) <| u (mv (.t rfl)) <| .nil _) rfl ?_
  refine .il ?_
  refine .sq ?_
  refine .rg (u (bc (.t rfl) (.t rfl) rfl rfl) <| .nil _) rfl ?_
  refine .sq ?_
  refine .ct (.t rfl) rfl ?_
  refine .skp ?_
  refine .sq ?_
  refine .bl ?_
  refine .sq ?_
  refine .rg (u (ixb sf103 (.t rfl) (.t rfl) rfl rfl) <| u (ld tf102 (.t rfl) rfl rfl) <| u (asg (.t rfl)) <| .nil _) rfl ?_
  refine be h fun x3 hx3 h => ?_
  refine .rg (u (mv (.t rfl)) <| u (mv (.t rfl)) <| cly 30000000 cf46 (AY.ly (fun i => bif Nat.beq i 9000 then 9000 else i) (av1_eye_truth_y1_c hx3) rfl rfl rfl rfl rfl rfl rfl)  (.c (.t rfl) <| .n) rfl (.c rfl <| .n) rfl <| u (nkp (.t rfl)) <| st tf4 (.t rfl) rfl (.t rfl) rfl rfl rfl <| .nil _) rfl ?_
  refine .ib ?_
  refine .rg (u (bi (.t rfl) (.i rfl) rfl) <| u (mv (.t rfl)) <| .nil _) rfl ?_
  refine .il ?_
  refine .sq ?_
  refine .rg (u (bc (.t rfl) (.t rfl) rfl rfl) <| .nil _) rfl ?_
  refine .sq ?_
  refine .ct (.t rfl) rfl ?_
  refine .skp ?_
  refine .sq ?_
  refine .bl ?_
  refine .sq ?_
  refine .rg (u (ixb sf103 (.t rfl) (.t rfl) rfl rfl) <| u (ld tf102 (.t rfl) rfl rfl) <| u (asg (.t rfl)) <| .nil _) rfl ?_
  refine be h fun x4 hx4 h => ?_
  refine .rg (u (mv (.t rfl)) <| u (mv (.t rfl)) <| cly 30000000 cf46 (AY.ly (fun i => bif Nat.beq i 9000 then 9000 else i) (av1_eye_truth_y1_c hx4) rfl rfl rfl rfl rfl rfl rfl)  (.c (.t rfl) <| .n) rfl (.c rfl <| .n) rfl <| u (nkp (.t rfl)) <| st tf4 (.t rfl) rfl (.t rfl) rfl rfl rfl <| .nil _) rfl ?_
  refine .ib ?_
  refine .rg (u (bi (.t rfl) (.i rfl) rfl) <| u (mv (.t rfl)) <| .nil _) rfl ?_
  refine .il ?_
  refine .sq ?_
  refine .rg (u (bc (.t rfl) (.t rfl) rfl rfl) <| .nil _) rfl ?_
  refine .sq ?_
  refine .ct (.t rfl) rfl ?_
  refine .skp ?_
  refine .sq ?_
  refine .bl ?_
  refine .sq ?_
  refine .rg (u (ixb sf103 (.t rfl) (.t rfl) rfl rfl) <| u (ld tf102 (.t rfl) rfl rfl) <| u (asg (.t rfl)) <| .nil _) rfl ?_
  refine be h fun x5 hx5 h => ?_
  refine .rg (u (mv (.t rfl)) <| u (mv (.t rfl)) <| cly 30000000 cf46 (AY.ly (fun i => bif Nat.beq i 9000 then 9000 else i) (av1_eye_truth_y1_c hx5) rfl rfl rfl rfl rfl rfl rfl)  (.c (.t rfl) <| .n) rfl (.c rfl <| .n) rfl <| u (nkp (.t rfl)) <| st tf4 (.t rfl) rfl (.t rfl) rfl rfl rfl <| .nil _) rfl ?_
  refine .ib ?_
  refine .rg (u (bi (.t rfl) (.i rfl) rfl) <| u (mv (.t rfl)) <| .nil _) rfl ?_
  refine .il ?_
  refine .sq ?_
  refine .rg (u (bc (.t rfl) (.t rfl) rfl rfl) <| .nil _) rfl ?_
  refine .sq ?_
  refine .cf (.t rfl) rfl ?_
  refine .xt rfl ?_
  refine .sq ?_
  refine .rg (u (mv (.t rfl)) <| u (nkp (.t rfl)) <| u (fa ff29_4 (.t rfl)) <| u (ld tf4 (.t rfl) rfl rfl) <| .nil _) rfl ?_
  refine .bq h (.t rfl) (fun h => ?_) (fun h => ?_)
  · refine be h fun x6 hx6 h => ?_
    refine .rg (u (mv (.t rfl)) <| u (mv (.t rfl)) <| u (mv (.t rfl)) <| u (nkp (.t rfl)) <| u (fa ff62_0 (.t rfl)) <| u (ld tf59 (.t rfl) rfl rfl) <| cl [] cf62 (templ_Get_c hx6) (.c (.t rfl) <| .n) (.inl rfl) <| u (mv (.t rfl)) <| u (ex (.t rfl) rfl rfl) <| u (ex (.t rfl) rfl rfl) <| u (nkp (.t rfl)) <| u (fa ff62_0 (.t rfl)) <| st tf59 (.t rfl) rfl (.t rfl) rfl rfl rfl <| u (nkp (.t rfl)) <| u (fa ff29_5 (.t rfl)) <| st tf26 (.t rfl) rfl (.t rfl) rfl rfl rfl <| .nil _) rfl ?_
    obtain rfl := Option.some.inj h
    exact .rte (o := [(9000, some (.box [.ro (.list 1 (List.map e8 x6.1.bytes)), .ro (.int .i64 x6.1.at_), .ro (.int .i64 x6.1.err)])), (9001, some (.box [.ro (.bool box1.start), .ro (.bool box1.end_), .ro (.int .i64 box1.template), .ro (.int .i64 box1.number), .ro (.bool x1.1), .ro (.int .i64 x6.2.id_), .ro (.int .i64 x6.2.targets), .ro (.int .i64 x6.2.chains), .ro (.list 1 (List.map (ei .i64) x6.2.protect)), .ro (.list 5 (List.map cells_Template x6.2.templates)), .ro (.list 2 (List.map cells_Size x6.2.sizes)), .ro (.bool x2.1), .ro (.int .u32 box1.active), .ro (.bool x3.1), .ro (.list 1 (List.map (ei .i64) box1.marks)), .ro (.bool x4.1), .ro (.list 1 (List.map (ei .i64) box1.diffs)), .ro (.bool x5.1), .ro (.list 1 (List.map (ei .i64) box1.chains))]))]) Try.func48 (.n) (.c rfl (.c rfl .n)) rfl rfl (.c rfl (.c rfl .n)) rfl
  · refine .skp ?_
    obtain rfl := Option.some.inj h
    exact .rte (o := [(9000, some (.box [.ro (.list 1 (List.map e8 x5.2.c.bytes)), .ro (.int .i64 x5.2.c.at_), .ro (.int .i64 x5.2.c.err)])), (9001, some (.box [.ro (.bool box1.start), .ro (.bool box1.end_), .ro (.int .i64 box1.template), .ro (.int .i64 box1.number), .ro (.bool x1.1), .ro (.int .i64 box1.structure_.id_), .ro (.int .i64 box1.structure_.targets), .ro (.int .i64 box1.structure_.chains), .ro (.list 1 (List.map (ei .i64) box1.structure_.protect)), .ro (.list 5 (List.map cells_Template box1.structure_.templates)), .ro (.list 2 (List.map cells_Size box1.structure_.sizes)), .ro (.bool x2.1), .ro (.int .u32 box1.active), .ro (.bool x3.1), .ro (.list 1 (List.map (ei .i64) box1.marks)), .ro (.bool x4.1), .ro (.list 1 (List.map (ei .i64) box1.diffs)), .ro (.bool x5.1), .ro (.list 1 (List.map (ei .i64) box1.chains))]))]) Try.func48 (.n) (.c rfl (.c rfl .n)) rfl rfl (.c rfl (.c rfl .n)) rfl

theorem av1_eye_read_y1_c {z : Option Nat} {known : Structure} {more : Bool} {box0 : av1_eye} {r : Frame × av1_eye} (h : av1_eye_read_y1 z known more box0 = some r) :
    AY Try.prog 23 [.ptr 9000 0, .ro (enc_Structure known), .ro (.bool more)] [(9000, [.list 1 (List.map e8 box0.c.bytes), .int .i64 box0.c.at_, .int .i64 box0.c.err])] [0] (.ro (enc_Frame r.1)) [] [(0, .ptr 9000 0)] [(9000, [.list 1 (List.map e8 r.2.c.bytes), .int .i64 r.2.c.at_, .int .i64 r.2.c.err])] := by
  refine AY.of Try.func23 rfl rfl fun w X M0 hM pv => ?_
  refine .kq (l := [(0, .ptr 9000 0), (1, .ro (enc_Structure known)), (2, .ro (.bool more))]) (o := [(9000, some (.box [.ro (.list 1 (List.map e8 box0.c.bytes)), .ro (.int .i64 box0.c.at_), .ro (.int .i64 box0.c.err)]))]) ?_ (.c rfl (.c rfl (.c rfl .n))) (.c rfl .n)
  unfold av1_eye_read_y1 at h
  refine .sq ?_
  refine .rg (bx 4 (.t rfl) rfl rfl <| al 6 zf29 rfl <| .nil _) rfl ?_
  refine .sq ?_
  refine be h fun x1 hx1 h => ?_
  refine be h fun x2 hx2 h => ?_
  refine be h fun x3 hx3 h => ?_
  refine be h fun x4 hx4 h => ?_
  refine .rg (u (mv (.t rfl)) <| cly 11000000 cf46 (AY.ly (fun i => bif Nat.beq i 9000 then 9000 else i) (av1_eye_truth_y1_c hx1) rfl rfl rfl rfl rfl rfl rfl)  (.c (.t rfl) <| .n) rfl (.c rfl <| .n) rfl <| u (mv (.t rfl)) <| cly 13000000 cf46 (AY.ly (fun i => bif Nat.beq i 9000 then 9000 else i) (av1_eye_truth_y1_c hx2) rfl rfl rfl rfl rfl rfl rfl)  (.c (.t rfl) <| .n) rfl (.c rfl <| .n) rfl <| u (mv (.t rfl)) <| cly 15000000 cf47 (AY.ly (fun i => bif Nat.beq i 9000 then 9000 else i) (av1_eye_num_y1_c hx3) rfl rfl rfl rfl rfl rfl rfl)  (.c (.t rfl) <| .c (.i rfl) <| .n) rfl (.c rfl <| .n) rfl <| u (mv (.t rfl)) <| cly 17000000 cf47 (AY.ly (fun i => bif Nat.beq i 9000 then 9000 else i) (av1_eye_num_y1_c hx4) rfl rfl rfl rfl rfl rfl rfl)  (.c (.t rfl) <| .c (.i rfl) <| .n) rfl (.c rfl <| .n) rfl <| u (bd bf29 zf29 (.c rfl (.t rfl) rfl rfl rfl <| .c rfl (.t rfl) rfl rfl rfl <| .c rfl (.t rfl) rfl rfl rfl <| .c rfl (.t rfl) rfl rfl rfl <| .n) rfl) <| al 7 zf29 rfl <| st tf29 (.t rfl) rfl (.t rfl) rfl rfl rfl <| .nil _) rfl ?_
  refine .sq ?_
  refine .sq ?_
  refine .rg (u (mv (.t rfl)) <| .nil _) rfl ?_
  refine .jq (t := some r) (fun (a : Frame × av1_eye) => ⟨[(0, .ptr 9000 0), (4, .ptr 4 0), (6, .ptr 6 0), (7, .ptr 7 0)], [(4, some (.box [.ro (.int .i64 known.id_), .ro (.int .i64 known.targets), .ro (.int .i64 known.chains), .ro (.list 1 (List.map (ei .i64) known.protect)), .ro (.list 5 (List.map cells_Template known.templates)), .ro (.list 2 (List.map cells_Size known.sizes))])), (6, some (.box [.ro (.bool false), .ro (.bool false), .ro (.int .i64 0), .ro (.int .i64 0), .ro (.bool false), .ro (.int .i64 0), .ro (.int .i64 0), .ro (.int .i64 0), .ro (.list 1 (List.map (ei .i64) [])), .ro (.list 5 (List.map cells_Template [])), .ro (.list 2 (List.map cells_Size [])), .ro (.bool false), .ro (.int .u32 0), .ro (.bool false), .ro (.list 1 (List.map (ei .i64) [])), .ro (.bool false), .ro (.list 1 (List.map (ei .i64) [])), .ro (.bool false), .ro (.list 1 (List.map (ei .i64) []))])), (7, some (.box [.ro (.bool a.1.start), .ro (.bool a.1.end_), .ro (.int .i64 a.1.template), .ro (.int .i64 a.1.number), .ro (.bool a.1.hasStructure), .ro (.int .i64 a.1.structure_.id_), .ro (.int .i64 a.1.structure_.targets), .ro (.int .i64 a.1.structure_.chains), .ro (.list 1 (List.map (ei .i64) a.1.structure_.protect)), .ro (.list 5 (List.map cells_Template a.1.structure_.templates)), .ro (.list 2 (List.map cells_Size a.1.structure_.sizes)), .ro (.bool a.1.hasActive), .ro (.int .u32 a.1.active), .ro (.bool a.1.ownMarks), .ro (.list 1 (List.map (ei .i64) a.1.marks)), .ro (.bool a.1.ownDiffs), .ro (.list 1 (List.map (ei .i64) a.1.diffs)), .ro (.bool a.1.ownChains), .ro (.list 1 (List.map (ei .i64) a.1.chains))])), (9000, some (.box [.ro (.list 1 (List.map e8 a.2.c.bytes)), .ro (.int .i64 a.2.c.at_), .ro (.int .i64 a.2.c.err)]))]⟩) (fun (a : Frame × av1_eye) => av1_eye_read_y1_j1 z known a.1 a.2) ?_ (fun J1 => ?_)
  · rintro ⟨v5, v6⟩ h
    replace h : av1_eye_read_y1_j1 z known v5 v6 = _ := h
    unfold av1_eye_read_y1_j1 at h
    refine .sq ?_
    refine .rg (u (ld tf29 (.t rfl) rfl rfl) <| u (ld tf26 (.t rfl) rfl rfl) <| cl [] cf20 (av1_structure_c v5 known) (.c (.t rfl) <| .c (.t rfl) <| .n) (.inl rfl) <| al 8 zf26 rfl <| st tf26 (.t rfl) rfl (.t rfl) rfl rfl rfl <| .nil _) rfl ?_
    refine .sq ?_
    refine be h fun x7 hx7 h => ?_
    refine .rg (u (mv (.t rfl)) <| u (fa ff26_4 (.t rfl)) <| u (ld tf23 (.t rfl) rfl rfl) <| u (lnm sf23 (.t rfl)) <| u (bc (.t rfl) (.i rfl) rfl rfl) <| cly 30000000 cf24 (AY.ly (fun i => bif Nat.beq i 9000 then 9000 else i) (av1_eye_need_y1_c hx7) rfl rfl rfl rfl rfl rfl rfl)  (.c (.t rfl) <| .c (.t rfl) <| .c (.i rfl) <| .n) rfl (.c rfl <| .n) rfl <| .nil _) rfl ?_
    refine .sq ?_
    refine be h fun x8 hx8 h => ?_
    refine .rg (u (mv (.t rfl)) <| u (ld tf29 (.t rfl) rfl rfl) <| u (ld tf26 (.t rfl) rfl rfl) <| cl [] cf31 (av1_place_c v5 (av1_structure v5 known)) (.c (.t rfl) <| .c (.t rfl) <| .n) (.inl rfl) <| u (bc (.t rfl) (.i rfl) rfl rfl) <| cly 36000000 cf24 (AY.ly (fun i => bif Nat.beq i 9000 then 9000 else i) (av1_eye_need_y1_c hx8) rfl rfl rfl rfl rfl rfl rfl)  (.c (.t rfl) <| .c (.t rfl) <| .c (.i rfl) <| .n) rfl (.c rfl <| .n) rfl <| .nil _) rfl ?_
    refine .sq ?_
    refine be h fun x9 hx9 h => ?_
    refine .rg (u (mv (.t rfl)) <| u (ld tf26 (.t rfl) rfl rfl) <| cly 39000000 cf49 (AY.ly (fun i => bif Nat.beq i 9001 then 7 else bif Nat.beq i 9000 then 9000 else i) (av1_eye_rest_y1_c hx9) rfl rfl rfl rfl rfl rfl rfl)  (.c (.t rfl) <| .c (.t rfl) <| .c (.t rfl) <| .n) rfl (.c rfl <| .c rfl <| .n) rfl <| .nil _) rfl ?_
    refine .sq ?_
    refine .rg (u (ld tf29 (.t rfl) rfl rfl) <| st tf29 (.t rfl) rfl (.t rfl) rfl rfl rfl <| .nil _) rfl ?_
    obtain rfl := Option.some.inj h
    exact .rtx (o := [(9000, some (.box [.ro (.list 1 (List.map e8 x9.1.c.bytes)), .ro (.int .i64 x9.1.c.at_), .ro (.int .i64 x9.1.c.err)]))]) Try.func23 (.c tf29 rfl rfl rfl <| .n) (.c rfl .n) rfl rfl (.c rfl .n) rfl
  refine .bq h (.t rfl) (fun h => ?_) (fun h => ?_)
  · refine be h fun x10 hx10 h => ?_
    refine .rg (u (mv (.t rfl)) <| cly 21000000 cf48 (AY.ly (fun i => bif Nat.beq i 9001 then 7 else bif Nat.beq i 9000 then 9000 else i) (av1_eye_flags_y1_c hx10) rfl rfl rfl rfl rfl rfl rfl)  (.c (.t rfl) <| .c (.t rfl) <| .n) rfl (.c rfl <| .c rfl <| .n) rfl <| .nil _) rfl ?_
    exact .kq (J1 (x10.2, x10.1) h) (.c rfl (.c rfl (.c rfl (.c rfl .n)))) (.c rfl (.c rfl (.c rfl (.c rfl .n))))
  · refine .skp ?_
    exact .kq (J1 ((Frame.mk x1.1 x2.1 x3.1 x4.1 false (Structure.mk 0 0 0 [] [] []) false 0 false [] false [] false []), x4.2) h) (.c rfl (.c rfl (.c rfl (.c rfl .n)))) (.c rfl (.c rfl (.c rfl (.c rfl .n))))

theorem av1_Read_c {z : Option Nat} {b : List Int} {known : Structure} {r : Frame × Int} (h : av1_Read z b known = some r) :
    AC Try.prog 9 [.ro (.list 1 (List.map e8 b)), .ro (enc_Structure known)] (.ro (.tup [enc_Frame r.1, .int .i64 r.2])) [] := by
  refine AC.of Try.func9 rfl rfl fun w M0 hM => ?_
  unfold av1_Read at h
  refine .sq ?_
  refine .rg (bx 3 (.t rfl) rfl rfl <| al 4 zf29 rfl <| u (asg (.i rfl)) <| .nil _) rfl ?_
  refine .sq ?_
  refine .bl ?_
  refine .sq ?_
  refine be h fun x1 hx1 h => ?_
  refine .rg (u (ld tf26 (.t rfl) rfl rfl) <| cl [] cf21 (av1_may_c hx1) (.c (.t rfl) <| .n) (.inl rfl) <| u (no (.t rfl)) <| u (asg (.t rfl)) <| .nil _) rfl ?_
  refine .bq h (.t rfl) (fun h => ?_) (fun h => ?_)
  · refine .sq ?_
    refine .rg (u (bd bf29 zf29 (.n) rfl) <| st tf29 (.t rfl) rfl (.t rfl) rfl rfl rfl <| u (asg (.i rfl)) <| .nil _) rfl ?_
    obtain rfl := Option.some.inj h
    exact .rt Try.func9 (.c tf29 rfl rfl rfl <| .t rfl <| .n) .n rfl rfl
  · refine .sq ?_
    refine .rg (u (mv (.t rfl)) <| u (lnm sf30 (.t rfl)) <| u (bc (.t rfl) (.i rfl) rfl rfl) <| u (asg (.t rfl)) <| .nil _) rfl ?_
    refine .bq h (.t rfl) (fun h => ?_) (fun h => ?_)
    · refine .sq ?_
      refine .rg (u (bd bf29 zf29 (.n) rfl) <| st tf29 (.t rfl) rfl (.t rfl) rfl rfl rfl <| u (asg (.i rfl)) <| .nil _) rfl ?_
      obtain rfl := Option.some.inj h
      exact .rt Try.func9 (.c tf29 rfl rfl rfl <| .t rfl <| .n) .n rfl rfl
    · refine .skp ?_
      refine .ib ?_
      refine .sq ?_
      refine .rg (u (mv (.t rfl)) <| cl [] cf22 (bits_Start_c b) (.c (.t rfl) <| .n) (.inl rfl) <| u (bd bf62 zf62 (.c rfl (.t rfl) rfl rfl rfl <| .n) rfl) <| bx 21 (.t rfl) rfl rfl <| u (asg (.t rfl)) <| .nil _) rfl ?_
      refine .sq ?_
      refine be h fun x2 hx2 h => ?_
      refine .rg (u (mv (.t rfl)) <| u (ld tf26 (.t rfl) rfl rfl) <| u (mv (.t rfl)) <| u (lnm sf30 (.t rfl)) <| u (bc (.t rfl) (.i rfl) rfl rfl) <| cly 28000000 cf23 (AY.ly (fun i => bif Nat.beq i 9000 then 21 else i) (av1_eye_read_y1_c hx2) rfl rfl rfl rfl rfl rfl rfl)  (.c (.t rfl) <| .c (.t rfl) <| .c (.t rfl) <| .n) rfl (.c rfl <| .n) rfl <| al 7 zf29 rfl <| st tf29 (.t rfl) rfl (.t rfl) rfl rfl rfl <| .nil _) rfl ?_
      refine .sq ?_
      refine be h fun x3 hx3 h => ?_
      refine .rg (u (mv (.t rfl)) <| u (mv (.t rfl)) <| u (nkp (.t rfl)) <| u (fa ff62_0 (.t rfl)) <| u (ld tf59 (.t rfl) rfl rfl) <| cl [] cf25 (bits_Left_c x2.2.c) (.c (.t rfl) <| .n) (.inl rfl) <| u (bc (.t rfl) (.i rfl) rfl rfl) <| cly 36000000 cf24 (AY.ly (fun i => bif Nat.beq i 9000 then 21 else i) (av1_eye_need_y1_c hx3) rfl rfl rfl rfl rfl rfl rfl)  (.c (.t rfl) <| .c (.t rfl) <| .c (.i rfl) <| .n) rfl (.c rfl <| .n) rfl <| .nil _) rfl ?_
      refine .sq ?_
      refine .sq ?_
      refine .rg (u (mv (.t rfl)) <| cl [] cf26 (av1_eye_fine_p_c x3) (.p (.t rfl) rfl rfl rfl <| .n) (.inr rfl) <| u (no (.t rfl)) <| .nil _) rfl ?_
      refine .bq h (.t rfl) (fun h => ?_) (fun h => ?_)
      · refine .sq ?_
        refine .rd mixed (u (bd bf29 zf29 (.n) rfl) <| u (mv (.t rfl)) <| u (nkp (.t rfl)) <| u (fa ff62_0 (.t rfl)) <| u (fa ff59_2 (.t rfl)) <| u (ld tf34 (.t rfl) rfl rfl) <| st tf29 (.t rfl) rfl (.t rfl) rfl rfl rfl <| u (asg (.t rfl)) <| .nil _) (by kernel_rfl) rfl ?_
        obtain rfl := Option.some.inj h
        exact .rt Try.func9 (.c tf29 rfl rfl rfl <| .t rfl <| .n) .n rfl rfl
      · refine .skp ?_
        refine .sq ?_
        refine .rg (u (ld tf29 (.t rfl) rfl rfl) <| st tf29 (.t rfl) rfl (.t rfl) rfl rfl rfl <| u (asg (.i rfl)) <| .nil _) rfl ?_
        obtain rfl := Option.some.inj h
        exact .rt Try.func9 (.c tf29 rfl rfl rfl <| .t rfl <| .n) .n rfl rfl

theorem slices_Clone2_c {l r : List Int} (h : slices_Clone2 l = some r) : AC Try.prog 42 [.ro (.list 1 (List.map (ei .i64) l))] (.own 0) [(0, .arr 3 1 (List.map (ei .i64) r))] := by
  unfold slices_Clone2 at h
  obtain rfl := app_nil h
  refine AC.of Try.func42 rfl rfl fun w M0 hM => ?_
  refine .sq ?_
  refine .rg (anm (ei .i64) 0 3 1 rfl rfl <| .nil _) rfl ?_
  refine .sq ?_
  refine .sq ?_
  refine .nq rfl sf22 rfl rfl fun b hb => ?_
  refine .cd (.t rfl) (fun hh => ?_) (fun _ => ?_)
  · have hl := hb hh
    obtain rfl := List.map_eq_nil_iff.1 hl
    refine .sq ?_
    refine .rg (anm (ei .i64) 10 3 1 rfl rfl <| .nil _) rfl ?_
    refine .ks (l := [(2, .own 0)]) (o := [(0, some (.arr 3 1 (List.map (ei .i64) [])))]) (fun i => bif Nat.beq i 0 then 10 else i) ?_ (.c rfl .n) (.c rfl .n) rfl
    exact .rt Try.func42 (.t rfl <| .n) (.c rfl .n) rfl rfl
  · refine .skp ?_
    refine .sq ?_
    refine .rg (bs (F := (ei .i64)) (l := ([] : List Int)) 5 pf22 .n rfl (fun _ _ => rfl) rfl rfl <| u (mv (.t rfl)) <| ap 7 pf22 (.t rfl) rfl (.t rfl) h rfl <| u (asg (.t rfl)) <| .nil _) rfl ?_
    refine .ks (l := [(2, .own 0)]) (o := [(0, some (.arr 3 1 (List.map (ei .i64) l)))]) (fun i => bif Nat.beq i 0 then 7 else i) ?_ (.c rfl .n) (.c rfl .n) rfl
    exact .rt Try.func42 (.t rfl <| .n) (.c rfl .n) rfl rfl

theorem slices_Clone2_r {l r : List Int} (h : slices_Clone2 l = some r) : AC Try.prog 42 [.ro (.list 1 (List.map (ei .i64) l))] (.ro (.list 1 (List.map (ei .i64) r))) [] := AC.fz (slices_Clone2_c h) rfl

theorem av1_Whole_1_c {own : Bool} {mine : List Int} {its : List Int} {r : List Int} (h : av1_Whole_1 own mine its = some r) :
    AC Try.prog 41 [.ro (.bool own), .ro (.list 1 (List.map (ei .i64) mine)), .ro (.list 1 (List.map (ei .i64) its))] (.own 0) [(0, .arr 3 1 (List.map (ei .i64) r))] := by
  refine AC.of Try.func41 rfl rfl fun w M0 hM => ?_
  unfold av1_Whole_1 at h
  refine .sq ?_
  refine .rg (anm (ei .i64) 6 3 1 rfl rfl <| .nil _) rfl ?_
  refine .sq ?_
  refine .sq ?_
  refine .rg (u (mv (.t rfl)) <| .nil _) rfl ?_
  refine .bq h (.t rfl) (fun h => ?_) (fun h => ?_)
  · refine .sq ?_
    refine be h fun x1 hx1 h => ?_
    refine .rg (u (mv (.t rfl)) <| cnl 9 cf42 (slices_Clone2_c hx1) (.c (.t rfl) <| .n) rfl <| u (asg (.t rfl)) <| .nil _) rfl ?_
    obtain rfl := Option.some.inj h
    refine .ks (l := [(6, .own 0)]) (o := [(0, some (.arr 3 1 (List.map (ei .i64) x1)))]) (fun i => bif Nat.beq i 0 then 9 else i) ?_ (.c rfl .n) (.c rfl .n) rfl
    exact .rt Try.func41 (.t rfl <| .n) (.c rfl .n) rfl rfl
  · refine .skp ?_
    refine .sq ?_
    refine be h fun x2 hx2 h => ?_
    refine .rg (u (mv (.t rfl)) <| cnl 11 cf42 (slices_Clone2_c hx2) (.c (.t rfl) <| .n) rfl <| u (asg (.t rfl)) <| .nil _) rfl ?_
    obtain rfl := Option.some.inj h
    refine .ks (l := [(6, .own 0)]) (o := [(0, some (.arr 3 1 (List.map (ei .i64) x2)))]) (fun i => bif Nat.beq i 0 then 11 else i) ?_ (.c rfl .n) (.c rfl .n) rfl
    exact .rt Try.func41 (.t rfl <| .n) (.c rfl .n) rfl rfl

theorem av1_Whole_1_r {own : Bool} {mine : List Int} {its : List Int} {r : List Int} (h : av1_Whole_1 own mine its = some r) :
    AC Try.prog 41 [.ro (.bool own), .ro (.list 1 (List.map (ei .i64) mine)), .ro (.list 1 (List.map (ei .i64) its))] (.ro (.list 1 (List.map (ei .i64) r))) [] := AC.fz (av1_Whole_1_c h) rfl

theorem av1_Whole_c {z : Option Nat} {f : Frame} {known : Structure} {r : Template × Int} (h : av1_Whole z f known = some r) :
    AC Try.prog 16 [.ro (enc_Frame f), .ro (enc_Structure known)] (.ro (.tup [enc_Template r.1, .int .i64 r.2])) [] := by
  refine AC.of Try.func16 rfl rfl fun w M0 hM => ?_
  unfold av1_Whole at h
  refine .sq ?_
  refine .rg (bx 2 (.t rfl) rfl rfl <| bx 3 (.t rfl) rfl rfl <| al 4 zf46 rfl <| u (asg (.i rfl)) <| .nil _) rfl ?_
  refine .sq ?_
  refine .sq ?_
  refine be h fun x1 hx1 h => ?_
  refine .rg (u (ld tf29 (.t rfl) rfl rfl) <| u (ld tf26 (.t rfl) rfl rfl) <| cl [] cf12 (av1_Right_c hx1) (.c (.t rfl) <| .c (.t rfl) <| .n) (.inl rfl) <| u (no (.t rfl)) <| .nil _) rfl ?_
  refine .bq h (.t rfl) (fun h => ?_) (fun h => ?_)
  · refine .sq ?_
    refine .rg (u (bd bf46 zf46 (.n) rfl) <| st tf46 (.t rfl) rfl (.t rfl) rfl rfl rfl <| u (asg (.i rfl)) <| .nil _) rfl ?_
    obtain rfl := Option.some.inj h
    exact .rt Try.func16 (.c tf46 rfl rfl rfl <| .t rfl <| .n) .n rfl rfl
  · refine .skp ?_
    refine .sq ?_
    refine .rg (u (ld tf29 (.t rfl) rfl rfl) <| u (ld tf26 (.t rfl) rfl rfl) <| cl [] cf20 (av1_structure_c f known) (.c (.t rfl) <| .c (.t rfl) <| .n) (.inl rfl) <| al 6 zf26 rfl <| st tf26 (.t rfl) rfl (.t rfl) rfl rfl rfl <| .nil _) rfl ?_
    refine .sq ?_
    refine be h fun x2 hx2 h => ?_
    refine .rd mixed (u (fa ff26_4 (.t rfl)) <| u (ld tf23 (.t rfl) rfl rfl) <| u (ld tf29 (.t rfl) rfl rfl) <| u (ld tf26 (.t rfl) rfl rfl) <| cl [] cf31 (av1_place_c f (av1_structure f known)) (.c (.t rfl) <| .c (.t rfl) <| .n) (.inl rfl) <| u (ia sf23 (.t rfl) (.t rfl) (ix_map cells_Template hx2)) <| u (lr tf46 (.t rfl) rfl) <| al 7 zf46 rfl <| st tf46 (.t rfl) rfl (.t rfl) rfl rfl rfl <| .nil _) (by kernel_rfl) rfl ?_
    refine .sq ?_
    refine .rg (u (fa ff46_0 (.t rfl)) <| u (ld tf3 (.t rfl) rfl rfl) <| u (fa ff46_1 (.t rfl)) <| u (ld tf3 (.t rfl) rfl rfl) <| u (bd bf46 zf46 (.c rfl (.t rfl) rfl rfl rfl <| .c rfl (.t rfl) rfl rfl rfl <| .n) rfl) <| al 8 zf46 rfl <| st tf46 (.t rfl) rfl (.t rfl) rfl rfl rfl <| .nil _) rfl ?_
    refine .sq ?_
    refine .rg (u (asg .f) <| .nil _) rfl ?_
    refine .sq ?_
    refine be h fun x3 hx3 h => ?_
    refine .rg (u (mv (.t rfl)) <| u (fa ff29_8 (.t rfl)) <| u (ld tf4 (.t rfl) rfl rfl) <| u (fa ff29_9 (.t rfl)) <| u (ld tf22 (.t rfl) rfl rfl) <| u (fa ff46_2 (.t rfl)) <| u (ld tf22 (.t rfl) rfl rfl) <| clv [] cf41 (.t rfl) (av1_Whole_1_r hx3) (.c (.t rfl) <| .c (.t rfl) <| .c (.t rfl) <| .n) (.inl rfl) <| u (fa ff46_2 (.t rfl)) <| st tf22 (.t rfl) rfl (.t rfl) rfl rfl rfl <| .nil _) rfl ?_
    refine .sq ?_
    refine be h fun x4 hx4 h => ?_
    refine .rg (u (mv (.t rfl)) <| u (fa ff29_10 (.t rfl)) <| u (ld tf4 (.t rfl) rfl rfl) <| u (fa ff29_11 (.t rfl)) <| u (ld tf22 (.t rfl) rfl rfl) <| u (fa ff46_3 (.t rfl)) <| u (ld tf22 (.t rfl) rfl rfl) <| clv [] cf41 (.t rfl) (av1_Whole_1_r hx4) (.c (.t rfl) <| .c (.t rfl) <| .c (.t rfl) <| .n) (.inl rfl) <| u (fa ff46_3 (.t rfl)) <| st tf22 (.t rfl) rfl (.t rfl) rfl rfl rfl <| .nil _) rfl ?_
    refine .sq ?_
    refine be h fun x5 hx5 h => ?_
    refine .rg (u (mv (.t rfl)) <| u (fa ff29_12 (.t rfl)) <| u (ld tf4 (.t rfl) rfl rfl) <| u (fa ff29_13 (.t rfl)) <| u (ld tf22 (.t rfl) rfl rfl) <| u (fa ff46_4 (.t rfl)) <| u (ld tf22 (.t rfl) rfl rfl) <| clv [] cf41 (.t rfl) (av1_Whole_1_r hx5) (.c (.t rfl) <| .c (.t rfl) <| .c (.t rfl) <| .n) (.inl rfl) <| u (fa ff46_4 (.t rfl)) <| st tf22 (.t rfl) rfl (.t rfl) rfl rfl rfl <| .nil _) rfl ?_
    refine .sq ?_
    refine .rg (u (ld tf46 (.t rfl) rfl rfl) <| st tf46 (.t rfl) rfl (.t rfl) rfl rfl rfl <| u (asg (.i rfl)) <| .nil _) rfl ?_
    obtain rfl := Option.some.inj h
    exact .rt Try.func16 (.c tf46 rfl rfl rfl <| .t rfl <| .n) .n rfl rfl

theorem ref24_Ints_c {z : Option Nat} {p_a : List Int} {b : List Int} {r : Bool} (h : ref24_Ints z p_a b = some r) :
    AC Try.prog 28 [.ro (.list 1 (List.map (ei .i64) p_a)), .ro (.list 1 (List.map (ei .i64) b))] (.ro (.bool r)) [] := by
  refine AC.of Try.func28 rfl rfl fun w M0 hM => ?_
  unfold ref24_Ints at h
  refine .sq ?_
  refine .rg (u (asg .b) <| .nil _) rfl ?_
  refine .sq ?_
  refine .sq ?_
  refine .rg (u (mv (.t rfl)) <| u (lnm sf22 (.t rfl)) <| u (mv (.t rfl)) <| u (lnm sf22 (.t rfl)) <| u (bc (.t rfl) (.t rfl) rfl rfl) <| .nil _) rfl ?_
  refine .bq h (.t rfl) (fun h => ?_) (fun h => ?_)
  · refine .sq ?_
    refine .rg (u (asg .b) <| .nil _) rfl ?_
    obtain rfl := Option.some.inj h
    exact .rt Try.func28 (.t rfl <| .n) .n rfl rfl
  · refine .skp ?_
    refine .sq ?_
    refine .sq ?_
    refine .rg (u (asg (.i rfl)) <| .nil _) rfl ?_
    refine .bl ?_
    unfold ref24_Ints_l1 at h
    refine .kq (.lo (fun (s : Int) => ⟨[(0, .ro (.list 1 (List.map (ei .i64) p_a))), (1, .ro (.list 1 (List.map (ei .i64) b))), (5, .ro (.int .i64 s))], []⟩) h ?_) (.c rfl (.c rfl (.c rfl .n))) .n
    intro v1 u1 h ih1 hx1
    replace h : ref24_Ints_s1 z p_a b v1 = _ := h
    unfold ref24_Ints_s1 at h
    refine .sq ?_
    refine .sq ?_
    refine .rg (u (mv (.t rfl)) <| u (mv (.t rfl)) <| u (lnm sf22 (.t rfl)) <| u (bc (.t rfl) (.t rfl) rfl rfl) <| .nil _) rfl ?_
    refine .bq h (.t rfl) (fun h => ?_) (fun h => ?_)
    · refine .skp ?_
      refine .sq ?_
      refine .bl ?_
      refine .sq ?_
      refine be h fun x2 hx2 h => ?_
      refine be h fun x3 hx3 h => ?_
      refine .rd mixed (u (mv (.t rfl)) <| u (mv (.t rfl)) <| u (ia sf22 (.t rfl) (.t rfl) (ix_map (ei .i64) hx2)) <| u (lr tf3 (.t rfl) rfl) <| u (mv (.t rfl)) <| u (mv (.t rfl)) <| u (ia sf22 (.t rfl) (.t rfl) (ix_map (ei .i64) hx3)) <| u (lr tf3 (.t rfl) rfl) <| u (bc (.t rfl) (.t rfl) rfl rfl) <| .nil _) (by kernel_rfl) rfl ?_
      refine .bq h (.t rfl) (fun h => ?_) (fun h => ?_)
      · refine .sq ?_
        refine .rg (u (asg .b) <| .nil _) rfl ?_
        replace h := mpR h hx1
        obtain rfl := Option.some.inj h
        exact .rt Try.func28 (.t rfl <| .n) .n rfl rfl
      · refine .skp ?_
        refine .ib ?_
        refine .rg (u (mv (.t rfl)) <| u (bi (.t rfl) (.i rfl) rfl) <| u (asg (.t rfl)) <| .nil _) rfl ?_
        exact .kq (.il (ih1 (ar .add .i64 v1 1) (nxi h))) (.c rfl (.c rfl (.c rfl .n))) .n
    · refine .xt rfl ?_
      replace h := mpR h hx1
      refine .sq ?_
      refine .rg (u (asg .b) <| .nil _) rfl ?_
      obtain rfl := Option.some.inj h
      exact .rt Try.func28 (.t rfl <| .n) .n rfl rfl

theorem ref26_Same_c {z : Option Nat} {p_a : Structure} {b : Structure} {r : Bool} (h : ref26_Same z p_a b = some r) :
    AC Try.prog 27 [.ro (enc_Structure p_a), .ro (enc_Structure b)] (.ro (.bool r)) [] := by
  refine AC.of Try.func27 rfl rfl fun w M0 hM => ?_
  unfold ref26_Same at h
  refine .sq ?_
  refine .rg (bx 2 (.t rfl) rfl rfl <| bx 3 (.t rfl) rfl rfl <| u (asg .b) <| .nil _) rfl ?_
  refine .sq ?_
  refine .sq ?_
  refine be h fun x1 hx1 h => ?_
  refine .rg (u (fa ff26_0 (.t rfl)) <| u (ld tf3 (.t rfl) rfl rfl) <| u (fa ff26_0 (.t rfl)) <| u (ld tf3 (.t rfl) rfl rfl) <| u (bc (.t rfl) (.t rfl) rfl rfl) <| u (mv (.t rfl)) <| gd rfl rfl (fun hB => fa ff26_1 (.t rfl)) <| gd rfl rfl (fun hB => ld tf3 (.m rfl hB) rfl rfl) <| gd rfl rfl (fun hB => fa ff26_1 (.t rfl)) <| gd rfl rfl (fun hB => ld tf3 (.m rfl hB) rfl rfl) <| gd rfl rfl (fun hB => bc (.m rfl hB) (.m rfl hB) rfl rfl) <| u (pko (.t rfl) (.t rfl)) <| u (mv (.t rfl)) <| gd rfl rfl (fun hB => fa ff26_2 (.t rfl)) <| gd rfl rfl (fun hB => ld tf3 (.m rfl hB) rfl rfl) <| gd rfl rfl (fun hB => fa ff26_2 (.t rfl)) <| gd rfl rfl (fun hB => ld tf3 (.m rfl hB) rfl rfl) <| gd rfl rfl (fun hB => bc (.m rfl hB) (.m rfl hB) rfl rfl) <| u (pko (.t rfl) (.t rfl)) <| u (mv (.t rfl)) <| gd rfl rfl (fun hB => fa ff26_3 (.t rfl)) <| gd rfl rfl (fun hB => ld tf22 (.m rfl hB) rfl rfl) <| gd rfl rfl (fun hB => fa ff26_3 (.t rfl)) <| gd rfl rfl (fun hB => ld tf22 (.m rfl hB) rfl rfl) <| cg rfl rfl cf28 (fun hB => (ref24_Ints_c (gTt hx1 (nt hB)))) (fun hB => .c (.m rfl hB) <| .c (.m rfl hB) <| .n) (.inl rfl) <| gd rfl rfl (fun hB => no (.m rfl hB)) <| u (pko (.t rfl) (.t rfl)) <| u (mv (.t rfl)) <| gd rfl rfl (fun hB => fa ff26_4 (.t rfl)) <| gd rfl rfl (fun hB => ld tf23 (.m rfl hB) rfl rfl) <| gd rfl rfl (fun hB => lnm sf23 (.m rfl hB)) <| gd rfl rfl (fun hB => fa ff26_4 (.t rfl)) <| gd rfl rfl (fun hB => ld tf23 (.m rfl hB) rfl rfl) <| gd rfl rfl (fun hB => lnm sf23 (.m rfl hB)) <| gd rfl rfl (fun hB => bc (.m rfl hB) (.m rfl hB) rfl rfl) <| u (pko (.t rfl) (.t rfl)) <| u (mv (.t rfl)) <| gd rfl rfl (fun hB => fa ff26_5 (.t rfl)) <| gd rfl rfl (fun hB => ld tf24 (.m rfl hB) rfl rfl) <| gd rfl rfl (fun hB => lnm sf24 (.m rfl hB)) <| gd rfl rfl (fun hB => fa ff26_5 (.t rfl)) <| gd rfl rfl (fun hB => ld tf24 (.m rfl hB) rfl rfl) <| gd rfl rfl (fun hB => lnm sf24 (.m rfl hB)) <| gd rfl rfl (fun hB => bc (.m rfl hB) (.m rfl hB) rfl rfl) <| u (pko (.t rfl) (.t rfl)) <| .nil _) rfl ?_
  refine .bq h (.t rfl) (fun h => ?_) (fun h => ?_)
  · refine .sq ?_
    refine .rg (u (asg .b) <| .nil _) rfl ?_
    obtain rfl := Option.some.inj h
    exact .rt Try.func27 (.t rfl <| .n) .n rfl rfl
  · refine .skp ?_
    refine .sq ?_
    refine .sq ?_
    refine .rg (u (asg (.i rfl)) <| .nil _) rfl ?_
    refine .bl ?_
    unfold ref26_Same_l1 at h
    refine .kq (.lo (fun (s : Int) => ⟨[(2, .ptr 2 0), (3, .ptr 3 0), (5, .ro (.int .i64 s))], [(2, some (.box [.ro (.int .i64 p_a.id_), .ro (.int .i64 p_a.targets), .ro (.int .i64 p_a.chains), .ro (.list 1 (List.map (ei .i64) p_a.protect)), .ro (.list 5 (List.map cells_Template p_a.templates)), .ro (.list 2 (List.map cells_Size p_a.sizes))])), (3, some (.box [.ro (.int .i64 b.id_), .ro (.int .i64 b.targets), .ro (.int .i64 b.chains), .ro (.list 1 (List.map (ei .i64) b.protect)), .ro (.list 5 (List.map cells_Template b.templates)), .ro (.list 2 (List.map cells_Size b.sizes))]))]⟩) h ?_) (.c rfl (.c rfl (.c rfl .n))) (.c rfl (.c rfl .n))
    intro v2 u1 h ih1 hx1
    replace h : ref26_Same_s1 z p_a b v2 = _ := h
    unfold ref26_Same_s1 at h
    refine .sq ?_
    refine .sq ?_
    refine .rg (u (mv (.t rfl)) <| u (fa ff26_5 (.t rfl)) <| u (ld tf24 (.t rfl) rfl rfl) <| u (lnm sf24 (.t rfl)) <| u (bc (.t rfl) (.t rfl) rfl rfl) <| .nil _) rfl ?_
    refine .bq h (.t rfl) (fun h => ?_) (fun h => ?_)
    · refine .skp ?_
      refine .sq ?_
      refine .bl ?_
      refine .sq ?_
      refine be h fun x3 hx3 h => ?_
      refine be h fun x4 hx4 h => ?_
      refine .rd mixed (u (fa ff26_5 (.t rfl)) <| u (ld tf24 (.t rfl) rfl rfl) <| u (mv (.t rfl)) <| u (ia sf24 (.t rfl) (.t rfl) (ix_map cells_Size hx3)) <| u (lr tf74 (.t rfl) rfl) <| u (fa ff26_5 (.t rfl)) <| u (ld tf24 (.t rfl) rfl rfl) <| u (mv (.t rfl)) <| u (ia sf24 (.t rfl) (.t rfl) (ix_map cells_Size hx4)) <| u (lr tf74 (.t rfl) rfl) <| u (eqs qf74 (.t rfl) (.t rfl) rfl rfl rfl rfl) <| .nil _) (by kernel_rfl) rfl ?_
      refine .bq h (.t rfl) (fun h => ?_) (fun h => ?_)
      · refine .sq ?_
        refine .rg (u (asg .b) <| .nil _) rfl ?_
        replace h := mpR h hx1
        obtain rfl := Option.some.inj h
        exact .rt Try.func27 (.t rfl <| .n) .n rfl rfl
      · refine .skp ?_
        refine .ib ?_
        refine .rg (u (mv (.t rfl)) <| u (bi (.t rfl) (.i rfl) rfl) <| u (asg (.t rfl)) <| .nil _) rfl ?_
        exact .kq (.il (ih1 (ar .add .i64 v2 1) (nxi h))) (.c rfl (.c rfl (.c rfl .n))) (.c rfl (.c rfl .n))
    · refine .xt rfl ?_
      replace h := mpR h hx1
      refine .sq ?_
      refine .sq ?_
      refine .rg (u (asg (.i rfl)) <| .nil _) rfl ?_
      refine .bl ?_
      unfold ref26_Same_l2 at h
      refine .kq (.lo (fun (s : Int) => ⟨[(2, .ptr 2 0), (3, .ptr 3 0), (6, .ro (.int .i64 s))], [(2, some (.box [.ro (.int .i64 p_a.id_), .ro (.int .i64 p_a.targets), .ro (.int .i64 p_a.chains), .ro (.list 1 (List.map (ei .i64) p_a.protect)), .ro (.list 5 (List.map cells_Template p_a.templates)), .ro (.list 2 (List.map cells_Size p_a.sizes))])), (3, some (.box [.ro (.int .i64 b.id_), .ro (.int .i64 b.targets), .ro (.int .i64 b.chains), .ro (.list 1 (List.map (ei .i64) b.protect)), .ro (.list 5 (List.map cells_Template b.templates)), .ro (.list 2 (List.map cells_Size b.sizes))]))]⟩) h ?_) (.c rfl (.c rfl (.c rfl .n))) (.c rfl (.c rfl .n))
      intro v5 u2 h ih2 hx2
      replace h : ref26_Same_s2 z p_a b v5 = _ := h
      unfold ref26_Same_s2 at h
      refine .sq ?_
      refine .sq ?_
      refine .rg (u (mv (.t rfl)) <| u (fa ff26_4 (.t rfl)) <| u (ld tf23 (.t rfl) rfl rfl) <| u (lnm sf23 (.t rfl)) <| u (bc (.t rfl) (.t rfl) rfl rfl) <| .nil _) rfl ?_
      refine .bq h (.t rfl) (fun h => ?_) (fun h => ?_)
      · refine .skp ?_
        refine .sq ?_
        refine .bl ?_
        refine .sq ?_
        refine be h fun x6 hx6 h => ?_
        refine be h fun x7 hx7 h => ?_
        refine .rd mixed (u (fa ff26_4 (.t rfl)) <| u (ld tf23 (.t rfl) rfl rfl) <| u (mv (.t rfl)) <| u (ia sf23 (.t rfl) (.t rfl) (ix_map cells_Template hx6)) <| u (lr tf46 (.t rfl) rfl) <| u (fa ff26_4 (.t rfl)) <| u (ld tf23 (.t rfl) rfl rfl) <| u (mv (.t rfl)) <| u (ia sf23 (.t rfl) (.t rfl) (ix_map cells_Template hx7)) <| u (lr tf46 (.t rfl) rfl) <| al 7 zf46 rfl <| al 8 zf46 rfl <| st tf46 (.t rfl) rfl (.t rfl) rfl rfl rfl <| st tf46 (.t rfl) rfl (.t rfl) rfl rfl rfl <| .nil _) (by kernel_rfl) rfl ?_
        refine .sq ?_
        refine be h fun x8 hx8 h => ?_
        refine be h fun x9 hx9 h => ?_
        refine be h fun x10 hx10 h => ?_
        refine .rg (u (fa ff46_0 (.t rfl)) <| u (ld tf3 (.t rfl) rfl rfl) <| u (fa ff46_0 (.t rfl)) <| u (ld tf3 (.t rfl) rfl rfl) <| u (bc (.t rfl) (.t rfl) rfl rfl) <| u (mv (.t rfl)) <| gd rfl rfl (fun hB => fa ff46_1 (.t rfl)) <| gd rfl rfl (fun hB => ld tf3 (.m rfl hB) rfl rfl) <| gd rfl rfl (fun hB => fa ff46_1 (.t rfl)) <| gd rfl rfl (fun hB => ld tf3 (.m rfl hB) rfl rfl) <| gd rfl rfl (fun hB => bc (.m rfl hB) (.m rfl hB) rfl rfl) <| u (pko (.t rfl) (.t rfl)) <| u (mv (.t rfl)) <| gd rfl rfl (fun hB => fa ff46_2 (.t rfl)) <| gd rfl rfl (fun hB => ld tf22 (.m rfl hB) rfl rfl) <| gd rfl rfl (fun hB => fa ff46_2 (.t rfl)) <| gd rfl rfl (fun hB => ld tf22 (.m rfl hB) rfl rfl) <| cg rfl rfl cf28 (fun hB => (ref24_Ints_c (gTt hx8 (nt hB)))) (fun hB => .c (.m rfl hB) <| .c (.m rfl hB) <| .n) (.inl rfl) <| gd rfl rfl (fun hB => no (.m rfl hB)) <| u (pko (.t rfl) (.t rfl)) <| u (mv (.t rfl)) <| gd rfl rfl (fun hB => fa ff46_3 (.t rfl)) <| gd rfl rfl (fun hB => ld tf22 (.m rfl hB) rfl rfl) <| gd rfl rfl (fun hB => fa ff46_3 (.t rfl)) <| gd rfl rfl (fun hB => ld tf22 (.m rfl hB) rfl rfl) <| cg rfl rfl cf28 (fun hB => (ref24_Ints_c (gTt hx9 (nt hB)))) (fun hB => .c (.m rfl hB) <| .c (.m rfl hB) <| .n) (.inl rfl) <| gd rfl rfl (fun hB => no (.m rfl hB)) <| u (pko (.t rfl) (.t rfl)) <| u (mv (.t rfl)) <| gd rfl rfl (fun hB => fa ff46_4 (.t rfl)) <| gd rfl rfl (fun hB => ld tf22 (.m rfl hB) rfl rfl) <| gd rfl rfl (fun hB => fa ff46_4 (.t rfl)) <| gd rfl rfl (fun hB => ld tf22 (.m rfl hB) rfl rfl) <| cg rfl rfl cf28 (fun hB => (ref24_Ints_c (gTt hx10 (nt hB)))) (fun hB => .c (.m rfl hB) <| .c (.m rfl hB) <| .n) (.inl rfl) <| gd rfl rfl (fun hB => no (.m rfl hB)) <| u (pko (.t rfl) (.t rfl)) <| .nil _) rfl ?_
        refine .bq h (.t rfl) (fun h => ?_) (fun h => ?_)
        · refine .sq ?_
          refine .rg (u (asg .b) <| .nil _) rfl ?_
          replace h := mpR h hx2
          obtain rfl := Option.some.inj h
          exact .rt Try.func27 (.t rfl <| .n) .n rfl rfl
        · refine .skp ?_
          refine .ib ?_
          refine .rg (u (mv (.t rfl)) <| u (bi (.t rfl) (.i rfl) rfl) <| u (asg (.t rfl)) <| .nil _) rfl ?_
          exact .kq (.il (ih2 (ar .add .i64 v5 1) (nxi h))) (.c rfl (.c rfl (.c rfl .n))) (.c rfl (.c rfl .n))
      · refine .xt rfl ?_
        replace h := mpR h hx2
        refine .sq ?_
        refine .rg (u (asg .b) <| .nil _) rfl ?_
        obtain rfl := Option.some.inj h
        exact .rt Try.func27 (.t rfl <| .n) .n rfl rfl

theorem ref27_Same_c {z : Option Nat} {p_a : Frame} {b : Frame} {r : Bool} (h : ref27_Same z p_a b = some r) :
    AC Try.prog 10 [.ro (enc_Frame p_a), .ro (enc_Frame b)] (.ro (.bool r)) [] := by
  refine AC.of Try.func10 rfl rfl fun w M0 hM => ?_
  unfold ref27_Same at h
  refine .sq ?_
  refine .rg (bx 2 (.t rfl) rfl rfl <| bx 3 (.t rfl) rfl rfl <| u (asg .b) <| .nil _) rfl ?_
  refine .sq ?_
  refine .sq ?_
  refine .rg (u (fa ff29_0 (.t rfl)) <| u (ld tf4 (.t rfl) rfl rfl) <| u (fa ff29_0 (.t rfl)) <| u (ld tf4 (.t rfl) rfl rfl) <| u (be2 ub4 (.t rfl) (.t rfl) rfl) <| u (mv (.t rfl)) <| gd rfl rfl (fun hB => fa ff29_1 (.t rfl)) <| gd rfl rfl (fun hB => ld tf4 (.m rfl hB) rfl rfl) <| gd rfl rfl (fun hB => fa ff29_1 (.t rfl)) <| gd rfl rfl (fun hB => ld tf4 (.m rfl hB) rfl rfl) <| gd rfl rfl (fun hB => be2 ub4 (.m rfl hB) (.m rfl hB) rfl) <| u (pko (.t rfl) (.t rfl)) <| u (mv (.t rfl)) <| gd rfl rfl (fun hB => fa ff29_2 (.t rfl)) <| gd rfl rfl (fun hB => ld tf3 (.m rfl hB) rfl rfl) <| gd rfl rfl (fun hB => fa ff29_2 (.t rfl)) <| gd rfl rfl (fun hB => ld tf3 (.m rfl hB) rfl rfl) <| gd rfl rfl (fun hB => bc (.m rfl hB) (.m rfl hB) rfl rfl) <| u (pko (.t rfl) (.t rfl)) <| u (mv (.t rfl)) <| gd rfl rfl (fun hB => fa ff29_3 (.t rfl)) <| gd rfl rfl (fun hB => ld tf3 (.m rfl hB) rfl rfl) <| gd rfl rfl (fun hB => fa ff29_3 (.t rfl)) <| gd rfl rfl (fun hB => ld tf3 (.m rfl hB) rfl rfl) <| gd rfl rfl (fun hB => bc (.m rfl hB) (.m rfl hB) rfl rfl) <| u (pko (.t rfl) (.t rfl)) <| u (mv (.t rfl)) <| gd rfl rfl (fun hB => fa ff29_4 (.t rfl)) <| gd rfl rfl (fun hB => ld tf4 (.m rfl hB) rfl rfl) <| gd rfl rfl (fun hB => fa ff29_4 (.t rfl)) <| gd rfl rfl (fun hB => ld tf4 (.m rfl hB) rfl rfl) <| gd rfl rfl (fun hB => be2 ub4 (.m rfl hB) (.m rfl hB) rfl) <| u (pko (.t rfl) (.t rfl)) <| u (mv (.t rfl)) <| gd rfl rfl (fun hB => fa ff29_6 (.t rfl)) <| gd rfl rfl (fun hB => ld tf4 (.m rfl hB) rfl rfl) <| gd rfl rfl (fun hB => fa ff29_6 (.t rfl)) <| gd rfl rfl (fun hB => ld tf4 (.m rfl hB) rfl rfl) <| gd rfl rfl (fun hB => be2 ub4 (.m rfl hB) (.m rfl hB) rfl) <| u (pko (.t rfl) (.t rfl)) <| u (mv (.t rfl)) <| gd rfl rfl (fun hB => fa ff29_7 (.t rfl)) <| gd rfl rfl (fun hB => ld tf27 (.m rfl hB) rfl rfl) <| gd rfl rfl (fun hB => fa ff29_7 (.t rfl)) <| gd rfl rfl (fun hB => ld tf27 (.m rfl hB) rfl rfl) <| gd rfl rfl (fun hB => bc (.m rfl hB) (.m rfl hB) rfl rfl) <| u (pko (.t rfl) (.t rfl)) <| .nil _) rfl ?_
  refine .bq h (.t rfl) (fun h => ?_) (fun h => ?_)
  · refine .sq ?_
    refine .rg (u (asg .b) <| .nil _) rfl ?_
    obtain rfl := Option.some.inj h
    exact .rt Try.func10 (.t rfl <| .n) .n rfl rfl
  · refine .skp ?_
    refine .sq ?_
    refine .sq ?_
    refine be h fun x1 hx1 h => ?_
    refine .rg (u (fa ff29_8 (.t rfl)) <| u (ld tf4 (.t rfl) rfl rfl) <| u (fa ff29_8 (.t rfl)) <| u (ld tf4 (.t rfl) rfl rfl) <| u (be2 ub4 (.t rfl) (.t rfl) rfl) <| u (mv (.t rfl)) <| gd rfl rfl (fun hB => fa ff29_10 (.t rfl)) <| gd rfl rfl (fun hB => ld tf4 (.m rfl hB) rfl rfl) <| gd rfl rfl (fun hB => fa ff29_10 (.t rfl)) <| gd rfl rfl (fun hB => ld tf4 (.m rfl hB) rfl rfl) <| gd rfl rfl (fun hB => be2 ub4 (.m rfl hB) (.m rfl hB) rfl) <| u (pko (.t rfl) (.t rfl)) <| u (mv (.t rfl)) <| gd rfl rfl (fun hB => fa ff29_12 (.t rfl)) <| gd rfl rfl (fun hB => ld tf4 (.m rfl hB) rfl rfl) <| gd rfl rfl (fun hB => fa ff29_12 (.t rfl)) <| gd rfl rfl (fun hB => ld tf4 (.m rfl hB) rfl rfl) <| gd rfl rfl (fun hB => be2 ub4 (.m rfl hB) (.m rfl hB) rfl) <| u (pko (.t rfl) (.t rfl)) <| u (mv (.t rfl)) <| gd rfl rfl (fun hB => fa ff29_5 (.t rfl)) <| gd rfl rfl (fun hB => ld tf26 (.m rfl hB) rfl rfl) <| gd rfl rfl (fun hB => fa ff29_5 (.t rfl)) <| gd rfl rfl (fun hB => ld tf26 (.m rfl hB) rfl rfl) <| cg rfl rfl cf27 (fun hB => (ref26_Same_c (gTt hx1 (nt hB)))) (fun hB => .c (.m rfl hB) <| .c (.m rfl hB) <| .n) (.inl rfl) <| gd rfl rfl (fun hB => no (.m rfl hB)) <| u (pko (.t rfl) (.t rfl)) <| .nil _) rfl ?_
    refine .bq h (.t rfl) (fun h => ?_) (fun h => ?_)
    · refine .sq ?_
      refine .rg (u (asg .b) <| .nil _) rfl ?_
      obtain rfl := Option.some.inj h
      exact .rt Try.func10 (.t rfl <| .n) .n rfl rfl
    · refine .skp ?_
      refine .sq ?_
      refine be h fun x2 hx2 h => ?_
      refine be h fun x3 hx3 h => ?_
      refine be h fun x4 hx4 h => ?_
      refine .rg (u (fa ff29_9 (.t rfl)) <| u (ld tf22 (.t rfl) rfl rfl) <| u (fa ff29_9 (.t rfl)) <| u (ld tf22 (.t rfl) rfl rfl) <| cl [] cf28 (ref24_Ints_c hx2) (.c (.t rfl) <| .c (.t rfl) <| .n) (.inl rfl) <| u (mv (.t rfl)) <| gd rfl rfl (fun hB => fa ff29_11 (.t rfl)) <| gd rfl rfl (fun hB => ld tf22 (.m rfl hB) rfl rfl) <| gd rfl rfl (fun hB => fa ff29_11 (.t rfl)) <| gd rfl rfl (fun hB => ld tf22 (.m rfl hB) rfl rfl) <| cg rfl rfl cf28 (fun hB => (ref24_Ints_c (gTt hx3 hB))) (fun hB => .c (.m rfl hB) <| .c (.m rfl hB) <| .n) (.inl rfl) <| u (pka (.t rfl) (.t rfl)) <| u (mv (.t rfl)) <| gd rfl rfl (fun hB => fa ff29_13 (.t rfl)) <| gd rfl rfl (fun hB => ld tf22 (.m rfl hB) rfl rfl) <| gd rfl rfl (fun hB => fa ff29_13 (.t rfl)) <| gd rfl rfl (fun hB => ld tf22 (.m rfl hB) rfl rfl) <| cg rfl rfl cf28 (fun hB => (ref24_Ints_c (gTt hx4 hB))) (fun hB => .c (.m rfl hB) <| .c (.m rfl hB) <| .n) (.inl rfl) <| u (pka (.t rfl) (.t rfl)) <| u (asg (.t rfl)) <| .nil _) rfl ?_
      obtain rfl := Option.some.inj h
      exact .rt Try.func10 (.t rfl <| .n) .n rfl rfl

theorem slices_Equal_byte_c {z : Option Nat} {s1 : List Int} {s2 : List Int} {r : Bool} (h : slices_Equal_byte z s1 s2 = some r) :
    AC Try.prog 29 [.ro (.list 1 (List.map e8 s1)), .ro (.list 1 (List.map e8 s2))] (.ro (.bool r)) [] := by
  refine AC.of Try.func29 rfl rfl fun w M0 hM => ?_
  unfold slices_Equal_byte at h
  refine .sq ?_
  refine .rg (u (asg .b) <| .nil _) rfl ?_
  refine .sq ?_
  refine .sq ?_
  refine .rg (u (mv (.t rfl)) <| u (lnm sf30 (.t rfl)) <| u (mv (.t rfl)) <| u (lnm sf30 (.t rfl)) <| u (bc (.t rfl) (.t rfl) rfl rfl) <| .nil _) rfl ?_
  refine .bq h (.t rfl) (fun h => ?_) (fun h => ?_)
  · refine .sq ?_
    refine .rg (u (asg .b) <| .nil _) rfl ?_
    obtain rfl := Option.some.inj h
    exact .rt Try.func29 (.t rfl <| .n) .n rfl rfl
  · refine .skp ?_
    refine .sq ?_
    refine .sq ?_
    refine .rg (u (mv (.t rfl)) <| u (lnm sf30 (.t rfl)) <| u (mv (.i rfl)) <| .nil _) rfl ?_
    refine .bl ?_
    unfold slices_Equal_byte_l1 at h
    refine .kq (.lo (fun (s : Int) => ⟨[(0, .ro (.list 1 (List.map e8 s1))), (1, .ro (.list 1 (List.map e8 s2))), (12, .ro (.int .i64 (s1.length : Int))), (13, .ro (.int .i64 s))], []⟩) h ?_) (.c rfl (.c rfl (.c rfl (.c rfl .n)))) .n
    intro v1 u1 h ih1 hx1
    replace h : slices_Equal_byte_s1 z s1 s2 v1 = _ := h
    unfold slices_Equal_byte_s1 at h
    refine .sq ?_
    refine .rg (u (bc (.t rfl) (.t rfl) rfl rfl) <| .nil _) rfl ?_
    refine .sq ?_
    refine .bq h (.t rfl) (fun h => ?_) (fun h => ?_)
    · refine .skp ?_
      refine .sq ?_
      refine .bl ?_
      refine .sq ?_
      refine .rg (u (mv (.t rfl)) <| u (asg (.t rfl)) <| .nil _) rfl ?_
      refine .sq ?_
      refine be h fun x2 hx2 h => ?_
      refine be h fun x3 hx3 h => ?_
      refine .rd mixed (u (mv (.t rfl)) <| u (mv (.t rfl)) <| u (ia sf30 (.t rfl) (.t rfl) (ix_map e8 hx2)) <| u (lr tf5 (.t rfl) rfl) <| u (mv (.t rfl)) <| u (mv (.t rfl)) <| u (ia sf30 (.t rfl) (.t rfl) (ix_map e8 hx3)) <| u (lr tf5 (.t rfl) rfl) <| u (bc (.t rfl) (.t rfl) rfl rfl) <| .nil _) (by kernel_rfl) rfl ?_
      refine .bq h (.t rfl) (fun h => ?_) (fun h => ?_)
      · refine .sq ?_
        refine .rg (u (asg .b) <| .nil _) rfl ?_
        replace h := mpR h hx1
        obtain rfl := Option.some.inj h
        exact .rt Try.func29 (.t rfl <| .n) .n rfl rfl
      · refine .skp ?_
        refine .ib ?_
        refine .rg (u (bi (.t rfl) (.i rfl) rfl) <| u (mv (.t rfl)) <| .nil _) rfl ?_
        exact .kq (.il (ih1 (ar .add .i64 v1 1) (nxi h))) (.c rfl (.c rfl (.c rfl (.c rfl .n)))) .n
    · refine .xt rfl ?_
      replace h := mpR h hx1
      refine .sq ?_
      refine .rg (u (asg .b) <| .nil _) rfl ?_
      obtain rfl := Option.some.inj h
      exact .rt Try.func29 (.t rfl <| .n) .n rfl rfl

theorem av1_Canon_c {z : Option Nat} {b : List Int} {known : Structure} {r : Bool} (h : av1_Canon z b known = some r) :
    AC Try.prog 11 [.ro (.list 1 (List.map e8 b)), .ro (enc_Structure known)] (.ro (.bool r)) [] := by
  refine AC.of Try.func11 rfl rfl fun w M0 hM => ?_
  unfold av1_Canon at h
  refine .sq ?_
  refine .rg (bx 3 (.t rfl) rfl rfl <| u (asg .b) <| .nil _) rfl ?_
  refine .sq ?_
  refine be h fun x1 hx1 h => ?_
  refine .rg (u (mv (.t rfl)) <| u (ld tf26 (.t rfl) rfl rfl) <| cl [] cf9 (av1_Read_c hx1) (.c (.t rfl) <| .c (.t rfl) <| .n) (.inl rfl) <| u (mv (.t rfl)) <| u (ex (.t rfl) rfl rfl) <| u (ex (.t rfl) rfl rfl) <| al 5 zf29 rfl <| st tf29 (.t rfl) rfl (.t rfl) rfl rfl rfl <| u (asg (.t rfl)) <| .nil _) rfl ?_
  refine .sq ?_
  refine .sq ?_
  refine .rg (u (mv (.t rfl)) <| u (bc (.t rfl) (.i rfl) rfl rfl) <| .nil _) rfl ?_
  refine .bq h (.t rfl) (fun h => ?_) (fun h => ?_)
  · refine .sq ?_
    refine .rg (u (asg .b) <| .nil _) rfl ?_
    obtain rfl := Option.some.inj h
    exact .rt Try.func11 (.t rfl <| .n) .n rfl rfl
  · refine .skp ?_
    refine .sq ?_
    refine be h fun x2 hx2 h => ?_
    refine .rg (u (ld tf29 (.t rfl) rfl rfl) <| u (ld tf26 (.t rfl) rfl rfl) <| cl [] cf8 (av1_Write_c hx2) (.c (.t rfl) <| .c (.t rfl) <| .n) (.inl rfl) <| u (mv (.t rfl)) <| u (ex (.t rfl) rfl rfl) <| u (ex (.t rfl) rfl rfl) <| u (asg (.t rfl)) <| u (asg (.t rfl)) <| .nil _) rfl ?_
    refine .sq ?_
    refine be h fun x3 hx3 h => ?_
    refine .rg (u (mv (.t rfl)) <| u (bc (.t rfl) (.i rfl) rfl rfl) <| u (mv (.t rfl)) <| gd rfl rfl (fun hB => mv (.t rfl)) <| gd rfl rfl (fun hB => mv (.t rfl)) <| cg rfl rfl cf29 (fun hB => (slices_Equal_byte_c (gTt hx3 hB))) (fun hB => .c (.m rfl hB) <| .c (.m rfl hB) <| .n) (.inl rfl) <| u (pka (.t rfl) (.t rfl)) <| u (asg (.t rfl)) <| .nil _) rfl ?_
    obtain rfl := Option.some.inj h
    exact .rt Try.func11 (.t rfl <| .n) .n rfl rfl

theorem av1_Known_c {z : Option Nat} {f : Frame} {known : Structure} {r : Structure} (h : av1_Known z f known = some r) :
    AC Try.prog 13 [.ro (enc_Frame f), .ro (enc_Structure known)] (.ro (enc_Structure r)) [] := by
  refine AC.of Try.func13 rfl rfl fun w M0 hM => ?_
  unfold av1_Known at h
  refine .sq ?_
  refine .rg (bx 2 (.t rfl) rfl rfl <| bx 3 (.t rfl) rfl rfl <| al 4 zf26 rfl <| .nil _) rfl ?_
  refine .sq ?_
  refine .sq ?_
  refine be h fun x1 hx1 h => ?_
  refine .rg (u (ld tf29 (.t rfl) rfl rfl) <| u (ld tf26 (.t rfl) rfl rfl) <| cl [] cf12 (av1_Right_c hx1) (.c (.t rfl) <| .c (.t rfl) <| .n) (.inl rfl) <| u (no (.t rfl)) <| .nil _) rfl ?_
  refine .bq h (.t rfl) (fun h => ?_) (fun h => ?_)
  · refine .sq ?_
    refine .rg (u (ld tf26 (.t rfl) rfl rfl) <| st tf26 (.t rfl) rfl (.t rfl) rfl rfl rfl <| .nil _) rfl ?_
    obtain rfl := Option.some.inj h
    exact .rt Try.func13 (.c tf26 rfl rfl rfl <| .n) .n rfl rfl
  · refine .skp ?_
    refine .sq ?_
    refine .rg (u (ld tf29 (.t rfl) rfl rfl) <| u (ld tf26 (.t rfl) rfl rfl) <| cl [] cf20 (av1_structure_c f known) (.c (.t rfl) <| .c (.t rfl) <| .n) (.inl rfl) <| st tf26 (.t rfl) rfl (.t rfl) rfl rfl rfl <| .nil _) rfl ?_
    obtain rfl := Option.some.inj h
    exact .rt Try.func13 (.c tf26 rfl rfl rfl <| .n) .n rfl rfl

theorem law27_awake_c {z : Option Nat}  {r : Bool} (h : law27_awake z = some r) :
    AC Try.prog 5 [] (.ro (.bool r)) [] := by
  refine AC.of Try.func5 rfl rfl fun w M0 hM => ?_
  unfold law27_awake at h
  refine .sq ?_
  refine .rg (u (asg .b) <| .nil _) rfl ?_
  refine .sq ?_
  refine .rg (nu (bsn (F := (ei .i64)) (l := [3]) pf22 (.c (.i rfl) rfl <| .n) rfl (fun _ _ => rfl) rfl) <| u (bd bf46 zf46 (.c rfl (.t rfl) rfl rfl rfl <| .n) rfl) <| nu (bsn (F := (ei .i64)) (l := [1]) pf22 (.c (.i rfl) rfl <| .n) rfl (fun _ _ => rfl) rfl) <| nu (bsn (F := (ei .i64)) (l := [2]) pf22 (.c (.i rfl) rfl <| .n) rfl (fun _ _ => rfl) rfl) <| u (bd bf46 zf46 (.c rfl (.t rfl) rfl rfl rfl <| .c rfl (.t rfl) rfl rfl rfl <| .n) rfl) <| bs (F := cells_Template) (l := [(Template.mk 0 0 [3] [] []), (Template.mk 0 0 [1] [2] [])]) 18 pf23 (.c (.t rfl) rfl <| .c (.t rfl) rfl <| .n) rfl (fun _ _ => rfl) rfl rfl <| u (bd bf26 zf26 (.c rfl (.i rfl) rfl rfl rfl <| .c rfl (.i rfl) rfl rfl rfl <| .c rfl (.t rfl) rfl rfl rfl <| .n) rfl) <| al 1 zf26 rfl <| st tf26 (.t rfl) rfl (.t rfl) rfl rfl rfl <| .nil _) rfl ?_
  refine .sq ?_
  refine .rg (bs (F := (ei .i64)) (l := [17]) 20 pf22 (.c (.i rfl) rfl <| .n) rfl (fun _ _ => rfl) rfl rfl <| u (bd bf29 zf29 (.c rfl .b rfl rfl rfl <| .c rfl (.i rfl) rfl rfl rfl <| .c rfl (.i rfl) rfl rfl rfl <| .c rfl .b rfl rfl rfl <| .c rfl (.t rfl) rfl rfl rfl <| .n) rfl) <| al 2 zf29 rfl <| st tf29 (.t rfl) rfl (.t rfl) rfl rfl rfl <| .nil _) rfl ?_
  refine .sq ?_
  refine .fz 20 rfl ?_
  refine .fz 18 rfl ?_
  refine be h fun x1 hx1 h => ?_
  refine .rg (u (ld tf29 (.t rfl) rfl rfl) <| u (ld tf26 (.t rfl) rfl rfl) <| cl [] cf8 (av1_Write_c hx1) (.c (.t rfl) <| .c (.t rfl) <| .n) (.inl rfl) <| u (mv (.t rfl)) <| u (ex (.t rfl) rfl rfl) <| u (ex (.t rfl) rfl rfl) <| u (asg (.t rfl)) <| u (asg (.t rfl)) <| .nil _) rfl ?_
  refine .sq ?_
  refine be h fun x2 hx2 h => ?_
  refine .rg (u (mv (.t rfl)) <| u (ld tf26 (.t rfl) rfl rfl) <| cl [] cf9 (av1_Read_c hx2) (.c (.t rfl) <| .c (.t rfl) <| .n) (.inl rfl) <| u (mv (.t rfl)) <| u (ex (.t rfl) rfl rfl) <| u (ex (.t rfl) rfl rfl) <| al 5 zf29 rfl <| st tf29 (.t rfl) rfl (.t rfl) rfl rfl rfl <| u (asg (.t rfl)) <| .nil _) rfl ?_
  refine .sq ?_
  refine be h fun x3 hx3 h => ?_
  refine .rg (u (ld tf29 (.t rfl) rfl rfl) <| u (ld tf26 (.t rfl) rfl rfl) <| cl [] cf16 (av1_Whole_c hx3) (.c (.t rfl) <| .c (.t rfl) <| .n) (.inl rfl) <| u (mv (.t rfl)) <| u (ex (.t rfl) rfl rfl) <| u (ex (.t rfl) rfl rfl) <| al 7 zf46 rfl <| st tf46 (.t rfl) rfl (.t rfl) rfl rfl rfl <| u (asg (.t rfl)) <| .nil _) rfl ?_
  refine .sq ?_
  refine be h fun x4 hx4 h => ?_
  refine .rg (bs (F := e8) (l := [7, 0, 0]) 41 pf30 (.c (.i rfl) rfl <| .c (.i rfl) rfl <| .c (.i rfl) rfl <| .n) rfl (fun _ _ => rfl) rfl rfl <| u (ld tf26 (.t rfl) rfl rfl) <| cl [41] cf9 (av1_Read_c hx4) (.b (.t rfl) rfl <| .c (.t rfl) <| .n) (.inl rfl) <| u (mv (.t rfl)) <| u (ex (.t rfl) rfl rfl) <| u (ex (.t rfl) rfl rfl) <| al 9 zf29 rfl <| st tf29 (.t rfl) rfl (.t rfl) rfl rfl rfl <| u (asg (.t rfl)) <| .nil _) rfl ?_
  refine .sq ?_
  refine be h fun x5 hx5 h => ?_
  refine .rg (bs (F := e8) (l := [5, 0, 0]) 47 pf30 (.c (.i rfl) rfl <| .c (.i rfl) rfl <| .c (.i rfl) rfl <| .n) rfl (fun _ _ => rfl) rfl rfl <| u (bd bf26 zf26 (.n) rfl) <| cl [47] cf9 (av1_Read_c hx5) (.b (.t rfl) rfl <| .c (.t rfl) <| .n) (.inl rfl) <| u (mv (.t rfl)) <| u (ex (.t rfl) rfl rfl) <| u (ex (.t rfl) rfl rfl) <| al 11 zf29 rfl <| st tf29 (.t rfl) rfl (.t rfl) rfl rfl rfl <| u (asg (.t rfl)) <| .nil _) rfl ?_
  refine .sq ?_
  refine be h fun x6 hx6 h => ?_
  refine be h fun x7 hx7 h => ?_
  refine be h fun x8 hx8 h => ?_
  refine be h fun x9 hx9 h => ?_
  refine be h fun x10 hx10 h => ?_
  refine be h fun x11 hx11 h => ?_
  refine be h fun x12 hx12 h => ?_
  refine .rd mixed (u (mv (.t rfl)) <| u (bc (.t rfl) (.i rfl) rfl rfl) <| u (mv (.t rfl)) <| gd rfl rfl (fun hB => mv (.t rfl)) <| gd rfl rfl (fun hB => bc (.m rfl hB) (.i rfl) rfl rfl) <| u (pka (.t rfl) (.t rfl)) <| u (mv (.t rfl)) <| gd rfl rfl (fun hB => mv (.t rfl)) <| gd rfl rfl (fun hB => bc (.m rfl hB) (.i rfl) rfl rfl) <| u (pka (.t rfl) (.t rfl)) <| u (mv (.t rfl)) <| gd rfl rfl (fun hB => mv (.t rfl)) <| gd rfl rfl (fun hB => bc (.m rfl hB) (.i rfl) rfl rfl) <| u (pka (.t rfl) (.t rfl)) <| u (mv (.t rfl)) <| gd rfl rfl (fun hB => mv (.t rfl)) <| gd rfl rfl (fun hB => bc (.m rfl hB) (.i rfl) rfl rfl) <| u (pka (.t rfl) (.t rfl)) <| u (mv (.t rfl)) <| gd rfl rfl (fun hB => mv (.t rfl)) <| gd rfl rfl (fun hB => bt bt30_9 (.m rfl hB)) <| gd rfl rfl (fun hB => sq (.m rfl hB) (.s rfl) rfl rfl) <| u (pka (.t rfl) (.t rfl)) <| u (mv (.t rfl)) <| gd rfl rfl (fun hB => ld tf29 (.t rfl) rfl rfl) <| gd rfl rfl (fun hB => ld tf29 (.t rfl) rfl rfl) <| cg rfl rfl cf10 (fun hB => (ref27_Same_c (gTt hx6 hB))) (fun hB => .c (.m rfl hB) <| .c (.m rfl hB) <| .n) (.inl rfl) <| u (pka (.t rfl) (.t rfl)) <| u (mv (.t rfl)) <| gd rfl rfl (fun hB => fa ff46_2 (.t rfl)) <| gd rfl rfl (fun hB => ld tf22 (.m rfl hB) rfl rfl) <| gd rfl rfl (fun hB => lnm sf22 (.m rfl hB)) <| gd rfl rfl (fun hB => bc (.m rfl hB) (.i rfl) rfl rfl) <| u (pka (.t rfl) (.t rfl)) <| u (mv (.t rfl)) <| gd rfl rfl (fun hB => fa ff46_2 (.t rfl)) <| gd rfl rfl (fun hB => ld tf22 (.m rfl hB) rfl rfl) <| gd rfl rfl (fun hB => ia sf22 (.m rfl hB) (.i rfl) (ix_map (ei .i64) (gTt hx7 hB))) <| gd rfl rfl (fun hB => lr tf3 (.m rfl hB) rfl) <| gd rfl rfl (fun hB => bc (.m rfl hB) (.i rfl) rfl rfl) <| u (pka (.t rfl) (.t rfl)) <| u (mv (.t rfl)) <| gd rfl rfl (fun hB => fa ff46_3 (.t rfl)) <| gd rfl rfl (fun hB => ld tf22 (.m rfl hB) rfl rfl) <| gd rfl rfl (fun hB => lnm sf22 (.m rfl hB)) <| gd rfl rfl (fun hB => bc (.m rfl hB) (.i rfl) rfl rfl) <| u (pka (.t rfl) (.t rfl)) <| u (mv (.t rfl)) <| gd rfl rfl (fun hB => fa ff46_3 (.t rfl)) <| gd rfl rfl (fun hB => ld tf22 (.m rfl hB) rfl rfl) <| gd rfl rfl (fun hB => ia sf22 (.m rfl hB) (.i rfl) (ix_map (ei .i64) (gTt hx8 hB))) <| gd rfl rfl (fun hB => lr tf3 (.m rfl hB) rfl) <| gd rfl rfl (fun hB => bc (.m rfl hB) (.i rfl) rfl rfl) <| u (pka (.t rfl) (.t rfl)) <| u (mv (.t rfl)) <| gd rfl rfl (fun hB => mv (.t rfl)) <| gd rfl rfl (fun hB => ld tf26 (.t rfl) rfl rfl) <| cg rfl rfl cf11 (fun hB => (av1_Canon_c (gTt hx9 hB))) (fun hB => .c (.m rfl hB) <| .c (.m rfl hB) <| .n) (.inl rfl) <| u (pka (.t rfl) (.t rfl)) <| u (mv (.t rfl)) <| gd rfl rfl (fun hB => ld tf29 (.t rfl) rfl rfl) <| gd rfl rfl (fun hB => ld tf26 (.t rfl) rfl rfl) <| cg rfl rfl cf12 (fun hB => (av1_Right_c (gTt hx10 hB))) (fun hB => .c (.m rfl hB) <| .c (.m rfl hB) <| .n) (.inl rfl) <| u (pka (.t rfl) (.t rfl)) <| u (mv (.t rfl)) <| gd rfl rfl (fun hB => ld tf29 (.t rfl) rfl rfl) <| gd rfl rfl (fun hB => ld tf26 (.t rfl) rfl rfl) <| cg rfl rfl cf13 (fun hB => (av1_Known_c (gTt hx11 hB))) (fun hB => .c (.m rfl hB) <| .c (.m rfl hB) <| .n) (.inl rfl) <| gd rfl rfl (fun hB => ld tf26 (.t rfl) rfl rfl) <| cg rfl rfl cf15 (fun hB => (templ_Same_c (gTt hx12 hB))) (fun hB => .c (.m rfl hB) <| .c (.m rfl hB) <| .n) (.inl rfl) <| u (pka (.t rfl) (.t rfl)) <| u (asg (.t rfl)) <| .nil _) (by kernel_rfl) rfl ?_
  obtain rfl := Option.some.inj h
  exact .rt Try.func5 (.t rfl <| .n) .n rfl rfl

theorem law27_awake_t : law27_awake (some 1000) = some true := by decide +kernel
theorem law27_awake_k : AC Try.prog 5 [] (.ro (.bool true)) [] := law27_awake_c law27_awake_t

theorem ref26_Short_c {z : Option Nat} {p_s : Structure} {r : Bool} (h : ref26_Short z p_s = some r) :
    AC Try.prog 7 [.ro (enc_Structure p_s)] (.ro (.bool r)) [] := by
  refine AC.of Try.func7 rfl rfl fun w M0 hM => ?_
  unfold ref26_Short at h
  refine .sq ?_
  refine .rg (bx 1 (.t rfl) rfl rfl <| u (asg .b) <| .nil _) rfl ?_
  refine .sq ?_
  refine .sq ?_
  refine .rg (u (asg (.i rfl)) <| .nil _) rfl ?_
  refine .bl ?_
  unfold ref26_Short_l1 at h
  refine .kq (.lo (fun (s : Int) => ⟨[(1, .ptr 1 0), (3, .ro (.int .i64 s))], [(1, some (.box [.ro (.int .i64 p_s.id_), .ro (.int .i64 p_s.targets), .ro (.int .i64 p_s.chains), .ro (.list 1 (List.map (ei .i64) p_s.protect)), .ro (.list 5 (List.map cells_Template p_s.templates)), .ro (.list 2 (List.map cells_Size p_s.sizes))]))]⟩) h ?_) (.c rfl (.c rfl .n)) (.c rfl .n)
  intro v1 u1 h ih1 hx1
  replace h : ref26_Short_s1 z p_s v1 = _ := h
  unfold ref26_Short_s1 at h
  refine .sq ?_
  refine .sq ?_
  refine .rg (u (mv (.t rfl)) <| u (fa ff26_4 (.t rfl)) <| u (ld tf23 (.t rfl) rfl rfl) <| u (lnm sf23 (.t rfl)) <| u (bc (.t rfl) (.t rfl) rfl rfl) <| u (mv (.t rfl)) <| gd rfl rfl (fun hB => mv (.t rfl)) <| gd rfl rfl (fun hB => bc (.m rfl hB) (.i rfl) rfl rfl) <| u (pka (.t rfl) (.t rfl)) <| .nil _) rfl ?_
  refine .bq h (.t rfl) (fun h => ?_) (fun h => ?_)
  · refine .skp ?_
    refine .sq ?_
    refine .bl ?_
    refine .sq ?_
    refine be h fun x2 hx2 h => ?_
    refine .rg (u (fa ff26_4 (.t rfl)) <| u (ld tf23 (.t rfl) rfl rfl) <| u (mv (.t rfl)) <| u (ia sf23 (.t rfl) (.t rfl) (ix_map cells_Template hx2)) <| u (lr tf46 (.t rfl) rfl) <| al 4 zf46 rfl <| st tf46 (.t rfl) rfl (.t rfl) rfl rfl rfl <| .nil _) rfl ?_
    refine .sq ?_
    refine .rg (u (fa ff46_2 (.t rfl)) <| u (ld tf22 (.t rfl) rfl rfl) <| u (lnm sf22 (.t rfl)) <| u (bc (.t rfl) (.i rfl) rfl rfl) <| u (mv (.t rfl)) <| gd rfl rfl (fun hB => fa ff46_3 (.t rfl)) <| gd rfl rfl (fun hB => ld tf22 (.m rfl hB) rfl rfl) <| gd rfl rfl (fun hB => lnm sf22 (.m rfl hB)) <| gd rfl rfl (fun hB => bc (.m rfl hB) (.i rfl) rfl rfl) <| u (pko (.t rfl) (.t rfl)) <| u (mv (.t rfl)) <| gd rfl rfl (fun hB => fa ff46_4 (.t rfl)) <| gd rfl rfl (fun hB => ld tf22 (.m rfl hB) rfl rfl) <| gd rfl rfl (fun hB => lnm sf22 (.m rfl hB)) <| gd rfl rfl (fun hB => bc (.m rfl hB) (.i rfl) rfl rfl) <| u (pko (.t rfl) (.t rfl)) <| .nil _) rfl ?_
    refine .bq h (.t rfl) (fun h => ?_) (fun h => ?_)
    · refine .sq ?_
      refine .rg (u (asg .b) <| .nil _) rfl ?_
      replace h := mpR h hx1
      obtain rfl := Option.some.inj h
      exact .rt Try.func7 (.t rfl <| .n) .n rfl rfl
    · refine .skp ?_
      refine .ib ?_
      refine .rg (u (mv (.t rfl)) <| u (bi (.t rfl) (.i rfl) rfl) <| u (asg (.t rfl)) <| .nil _) rfl ?_
      exact .kq (.il (ih1 (ar .add .i64 v1 1) (nxi h))) (.c rfl (.c rfl .n)) (.c rfl .n)
  · refine .xt rfl ?_
    replace h := mpR h hx1
    refine .sq ?_
    refine .rg (u (fa ff26_4 (.t rfl)) <| u (ld tf23 (.t rfl) rfl rfl) <| u (lnm sf23 (.t rfl)) <| u (bc (.t rfl) (.i rfl) rfl rfl) <| u (mv (.t rfl)) <| gd rfl rfl (fun hB => fa ff26_3 (.t rfl)) <| gd rfl rfl (fun hB => ld tf22 (.m rfl hB) rfl rfl) <| gd rfl rfl (fun hB => lnm sf22 (.m rfl hB)) <| gd rfl rfl (fun hB => bc (.m rfl hB) (.i rfl) rfl rfl) <| u (pka (.t rfl) (.t rfl)) <| u (mv (.t rfl)) <| gd rfl rfl (fun hB => fa ff26_5 (.t rfl)) <| gd rfl rfl (fun hB => ld tf24 (.m rfl hB) rfl rfl) <| gd rfl rfl (fun hB => lnm sf24 (.m rfl hB)) <| gd rfl rfl (fun hB => bc (.m rfl hB) (.i rfl) rfl rfl) <| u (pka (.t rfl) (.t rfl)) <| u (asg (.t rfl)) <| .nil _) rfl ?_
    obtain rfl := Option.some.inj h
    exact .rt Try.func7 (.t rfl <| .n) .n rfl rfl

theorem ref27_Short_c {z : Option Nat} {f : Frame} {r : Bool} (h : ref27_Short z f = some r) :
    AC Try.prog 6 [.ro (enc_Frame f)] (.ro (.bool r)) [] := by
  refine AC.of Try.func6 rfl rfl fun w M0 hM => ?_
  unfold ref27_Short at h
  refine .sq ?_
  refine .rg (bx 1 (.t rfl) rfl rfl <| u (asg .b) <| .nil _) rfl ?_
  refine .sq ?_
  refine be h fun x1 hx1 h => ?_
  refine .rg (u (fa ff29_5 (.t rfl)) <| u (ld tf26 (.t rfl) rfl rfl) <| cl [] cf7 (ref26_Short_c hx1) (.c (.t rfl) <| .n) (.inl rfl) <| u (mv (.t rfl)) <| gd rfl rfl (fun hB => fa ff29_9 (.t rfl)) <| gd rfl rfl (fun hB => ld tf22 (.m rfl hB) rfl rfl) <| gd rfl rfl (fun hB => lnm sf22 (.m rfl hB)) <| gd rfl rfl (fun hB => bc (.m rfl hB) (.i rfl) rfl rfl) <| u (pka (.t rfl) (.t rfl)) <| u (mv (.t rfl)) <| gd rfl rfl (fun hB => fa ff29_11 (.t rfl)) <| gd rfl rfl (fun hB => ld tf22 (.m rfl hB) rfl rfl) <| gd rfl rfl (fun hB => lnm sf22 (.m rfl hB)) <| gd rfl rfl (fun hB => bc (.m rfl hB) (.i rfl) rfl rfl) <| u (pka (.t rfl) (.t rfl)) <| u (mv (.t rfl)) <| gd rfl rfl (fun hB => fa ff29_13 (.t rfl)) <| gd rfl rfl (fun hB => ld tf22 (.m rfl hB) rfl rfl) <| gd rfl rfl (fun hB => lnm sf22 (.m rfl hB)) <| gd rfl rfl (fun hB => bc (.m rfl hB) (.i rfl) rfl rfl) <| u (pka (.t rfl) (.t rfl)) <| u (asg (.t rfl)) <| .nil _) rfl ?_
  obtain rfl := Option.some.inj h
  exact .rt Try.func6 (.t rfl <| .n) .n rfl rfl

theorem law27_Av1Back_c {z : Option Nat} {f : Frame} {g : Frame} {known : Structure} {b : List Int} {more : Int} {r : Bool} (h : law27_Av1Back z f g known b more = some r) :
    AC Try.prog 3 [.ro (enc_Frame f), .ro (enc_Frame g), .ro (enc_Structure known), .ro (.list 1 (List.map e8 b)), .ro (.int .u8 more)] (.ro (.bool r)) [] := by
  refine AC.of Try.func3 rfl rfl fun w M0 hM => ?_
  unfold law27_Av1Back at h
  refine .sq ?_
  refine .rg (bx 5 (.t rfl) rfl rfl <| bx 6 (.t rfl) rfl rfl <| bx 7 (.t rfl) rfl rfl <| u (asg .b) <| .nil _) rfl ?_
  refine .sq ?_
  refine .sq ?_
  refine .rg (cl [] cf5 law27_awake_k (.n) (.inl rfl) <| u (no (.t rfl)) <| .nil _) rfl ?_
  refine .cf (.t rfl) rfl ?_
  refine .skp ?_
  refine .sq ?_
  refine .sq ?_
  refine be h fun x1 hx1 h => ?_
  refine be h fun x2 hx2 h => ?_
  refine be h fun x3 hx3 h => ?_
  refine .rg (u (ld tf29 (.t rfl) rfl rfl) <| cl [] cf6 (ref27_Short_c hx1) (.c (.t rfl) <| .n) (.inl rfl) <| u (no (.t rfl)) <| u (mv (.t rfl)) <| gd rfl rfl (fun hB => ld tf29 (.t rfl) rfl rfl) <| cg rfl rfl cf6 (fun hB => (ref27_Short_c (gTt hx2 (nt hB)))) (fun hB => .c (.m rfl hB) <| .n) (.inl rfl) <| gd rfl rfl (fun hB => no (.m rfl hB)) <| u (pko (.t rfl) (.t rfl)) <| u (mv (.t rfl)) <| gd rfl rfl (fun hB => ld tf26 (.t rfl) rfl rfl) <| cg rfl rfl cf7 (fun hB => (ref26_Short_c (gTt hx3 (nt hB)))) (fun hB => .c (.m rfl hB) <| .n) (.inl rfl) <| gd rfl rfl (fun hB => no (.m rfl hB)) <| u (pko (.t rfl) (.t rfl)) <| u (mv (.t rfl)) <| gd rfl rfl (fun hB => mv (.t rfl)) <| gd rfl rfl (fun hB => lnm sf30 (.m rfl hB)) <| gd rfl rfl (fun hB => bc (.m rfl hB) (.i rfl) rfl rfl) <| u (pko (.t rfl) (.t rfl)) <| .nil _) rfl ?_
  refine .bq h (.t rfl) (fun h => ?_) (fun h => ?_)
  · refine .sq ?_
    refine .rg (u (asg .b) <| .nil _) rfl ?_
    obtain rfl := Option.some.inj h
    exact .rt Try.func3 (.t rfl <| .n) .n rfl rfl
  · refine .skp ?_
    refine .sq ?_
    refine be h fun x4 hx4 h => ?_
    refine .rg (u (ld tf29 (.t rfl) rfl rfl) <| u (ld tf26 (.t rfl) rfl rfl) <| cl [] cf8 (av1_Write_c hx4) (.c (.t rfl) <| .c (.t rfl) <| .n) (.inl rfl) <| u (mv (.t rfl)) <| u (ex (.t rfl) rfl rfl) <| u (ex (.t rfl) rfl rfl) <| u (asg (.t rfl)) <| u (asg (.t rfl)) <| .nil _) rfl ?_
    refine .sq ?_
    refine be h fun x5 hx5 h => ?_
    refine .rg (u (ld tf29 (.t rfl) rfl rfl) <| u (ld tf26 (.t rfl) rfl rfl) <| cl [] cf8 (av1_Write_c hx5) (.c (.t rfl) <| .c (.t rfl) <| .n) (.inl rfl) <| u (mv (.t rfl)) <| u (ex (.t rfl) rfl rfl) <| u (ex (.t rfl) rfl rfl) <| u (asg (.t rfl)) <| u (asg (.t rfl)) <| .nil _) rfl ?_
    refine .sq ?_
    refine .sq ?_
    refine .rg (u (mv (.t rfl)) <| u (bc (.t rfl) (.i rfl) rfl rfl) <| .nil _) rfl ?_
    refine .jq (t := some r) (fun (a : Structure) => ⟨[(3, .ro (.list 1 (List.map e8 b))), (7, .ptr 7 0)], [(7, some (.box [.ro (.int .i64 a.id_), .ro (.int .i64 a.targets), .ro (.int .i64 a.chains), .ro (.list 1 (List.map (ei .i64) a.protect)), .ro (.list 5 (List.map cells_Template a.templates)), .ro (.list 2 (List.map cells_Size a.sizes))]))]⟩) (fun (a : Structure) => law27_Av1Back_j1 z b a) ?_ (fun J1 => ?_)
    · intro v6 h
      replace h : law27_Av1Back_j1 z b v6 = _ := h
      unfold law27_Av1Back_j1 at h
      refine .sq ?_
      refine be h fun x7 hx7 h => ?_
      refine .rg (u (mv (.t rfl)) <| u (ld tf26 (.t rfl) rfl rfl) <| cl [] cf9 (av1_Read_c hx7) (.c (.t rfl) <| .c (.t rfl) <| .n) (.inl rfl) <| u (mv (.t rfl)) <| u (ex (.t rfl) rfl rfl) <| u (ex (.t rfl) rfl rfl) <| al 19 zf29 rfl <| st tf29 (.t rfl) rfl (.t rfl) rfl rfl rfl <| u (asg (.t rfl)) <| .nil _) rfl ?_
      refine .sq ?_
      refine .sq ?_
      refine .rg (u (mv (.t rfl)) <| u (bc (.t rfl) (.i rfl) rfl rfl) <| .nil _) rfl ?_
      refine .bq h (.t rfl) (fun h => ?_) (fun h => ?_)
      · refine .sq ?_
        refine be h fun x8 hx8 h => ?_
        refine be h fun x9 hx9 h => ?_
        refine .rg (u (ld tf29 (.t rfl) rfl rfl) <| u (bd bf29 zf29 (.n) rfl) <| cl [] cf10 (ref27_Same_c hx8) (.c (.t rfl) <| .c (.t rfl) <| .n) (.inl rfl) <| u (mv (.t rfl)) <| gd rfl rfl (fun hB => mv (.t rfl)) <| gd rfl rfl (fun hB => ld tf26 (.t rfl) rfl rfl) <| cg rfl rfl cf11 (fun hB => (av1_Canon_c (gTt hx9 hB))) (fun hB => .c (.m rfl hB) <| .c (.m rfl hB) <| .n) (.inl rfl) <| gd rfl rfl (fun hB => no (.m rfl hB)) <| u (pka (.t rfl) (.t rfl)) <| u (asg (.t rfl)) <| .nil _) rfl ?_
        obtain rfl := Option.some.inj h
        exact .rt Try.func3 (.t rfl <| .n) .n rfl rfl
      · refine .skp ?_
        refine .sq ?_
        refine be h fun x10 hx10 h => ?_
        refine .rg (u (ld tf29 (.t rfl) rfl rfl) <| u (ld tf26 (.t rfl) rfl rfl) <| cl [] cf8 (av1_Write_c hx10) (.c (.t rfl) <| .c (.t rfl) <| .n) (.inl rfl) <| u (mv (.t rfl)) <| u (ex (.t rfl) rfl rfl) <| u (ex (.t rfl) rfl rfl) <| u (asg (.t rfl)) <| u (asg (.t rfl)) <| .nil _) rfl ?_
        refine .sq ?_
        refine be h fun x11 hx11 h => ?_
        refine .rg (u (mv (.t rfl)) <| u (ld tf26 (.t rfl) rfl rfl) <| cl [] cf9 (av1_Read_c hx11) (.c (.t rfl) <| .c (.t rfl) <| .n) (.inl rfl) <| u (mv (.t rfl)) <| u (ex (.t rfl) rfl rfl) <| u (ex (.t rfl) rfl rfl) <| al 23 zf29 rfl <| st tf29 (.t rfl) rfl (.t rfl) rfl rfl rfl <| u (asg (.t rfl)) <| .nil _) rfl ?_
        refine .sq ?_
        refine be h fun x12 hx12 h => ?_
        refine be h fun x13 hx13 h => ?_
        refine be h fun x14 hx14 h => ?_
        refine .rd mixed (u (mv (.t rfl)) <| u (bc (.t rfl) (.i rfl) rfl rfl) <| u (mv (.t rfl)) <| gd rfl rfl (fun hB => mv (.t rfl)) <| gd rfl rfl (fun hB => bc (.m rfl hB) (.i rfl) rfl rfl) <| u (pka (.t rfl) (.t rfl)) <| u (mv (.t rfl)) <| gd rfl rfl (fun hB => ld tf29 (.t rfl) rfl rfl) <| gd rfl rfl (fun hB => ld tf26 (.t rfl) rfl rfl) <| cg rfl rfl cf12 (fun hB => (av1_Right_c (gTt hx12 hB))) (fun hB => .c (.m rfl hB) <| .c (.m rfl hB) <| .n) (.inl rfl) <| u (pka (.t rfl) (.t rfl)) <| u (mv (.t rfl)) <| gd rfl rfl (fun hB => ld tf29 (.t rfl) rfl rfl) <| gd rfl rfl (fun hB => ld tf29 (.t rfl) rfl rfl) <| cg rfl rfl cf10 (fun hB => (ref27_Same_c (gTt hx13 hB))) (fun hB => .c (.m rfl hB) <| .c (.m rfl hB) <| .n) (.inl rfl) <| u (pka (.t rfl) (.t rfl)) <| u (mv (.t rfl)) <| gd rfl rfl (fun hB => mv (.t rfl)) <| gd rfl rfl (fun hB => ld tf26 (.t rfl) rfl rfl) <| cg rfl rfl cf11 (fun hB => (av1_Canon_c (gTt hx14 hB))) (fun hB => .c (.m rfl hB) <| .c (.m rfl hB) <| .n) (.inl rfl) <| gd rfl rfl (fun hB => mv (.t rfl)) <| gd rfl rfl (fun hB => bt bt30_9 (.m rfl hB)) <| gd rfl rfl (fun hB => mv (.t rfl)) <| gd rfl rfl (fun hB => bt bt30_9 (.m rfl hB)) <| gd rfl rfl (fun hB => sq (.m rfl hB) (.m rfl hB) rfl rfl) <| gd rfl rfl (fun hB => be2 ub4 (.m rfl hB) (.m rfl hB) rfl) <| u (pka (.t rfl) (.t rfl)) <| u (asg (.t rfl)) <| .nil _) (by kernel_rfl) rfl ?_
        obtain rfl := Option.some.inj h
        exact .rt Try.func3 (.t rfl <| .n) .n rfl rfl
    refine .bq h (.t rfl) (fun h => ?_) (fun h => ?_)
    · refine .sq ?_
      refine be h fun x15 hx15 h => ?_
      refine .rg (u (mv (.t rfl)) <| u (ld tf26 (.t rfl) rfl rfl) <| cl [] cf9 (av1_Read_c hx15) (.c (.t rfl) <| .c (.t rfl) <| .n) (.inl rfl) <| u (mv (.t rfl)) <| u (ex (.t rfl) rfl rfl) <| u (ex (.t rfl) rfl rfl) <| al 15 zf29 rfl <| st tf29 (.t rfl) rfl (.t rfl) rfl rfl rfl <| u (asg (.t rfl)) <| .nil _) rfl ?_
      refine .sq ?_
      refine .sq ?_
      refine be h fun x16 hx16 h => ?_
      refine be h fun x17 hx17 h => ?_
      refine be h fun x18 hx18 h => ?_
      refine .rd mixed (u (mv (.t rfl)) <| u (bc (.t rfl) (.i rfl) rfl rfl) <| u (mv (.t rfl)) <| gd rfl rfl (fun hB => ld tf29 (.t rfl) rfl rfl) <| gd rfl rfl (fun hB => ld tf29 (.t rfl) rfl rfl) <| cg rfl rfl cf10 (fun hB => (ref27_Same_c (gTt hx16 (nt hB)))) (fun hB => .c (.m rfl hB) <| .c (.m rfl hB) <| .n) (.inl rfl) <| gd rfl rfl (fun hB => no (.m rfl hB)) <| u (pko (.t rfl) (.t rfl)) <| u (mv (.t rfl)) <| gd rfl rfl (fun hB => mv (.t rfl)) <| gd rfl rfl (fun hB => ld tf26 (.t rfl) rfl rfl) <| cg rfl rfl cf11 (fun hB => (av1_Canon_c (gTt hx17 (nt hB)))) (fun hB => .c (.m rfl hB) <| .c (.m rfl hB) <| .n) (.inl rfl) <| gd rfl rfl (fun hB => no (.m rfl hB)) <| u (pko (.t rfl) (.t rfl)) <| u (mv (.t rfl)) <| gd rfl rfl (fun hB => mv (.t rfl)) <| gd rfl rfl (fun hB => lnm sf30 (.m rfl hB)) <| gd rfl rfl (fun hB => bc (.m rfl hB) (.i rfl) rfl rfl) <| u (pko (.t rfl) (.t rfl)) <| u (mv (.t rfl)) <| gd rfl rfl (fun hB => mv (.t rfl)) <| gd rfl rfl (fun hB => bc (.m rfl hB) (.i rfl) rfl rfl) <| gd rfl rfl (fun hB => mv (.m rfl hB)) <| gm rfl rfl (fun hB => mv (.t rfl)) <| gm rfl rfl (fun hB => bt bt30_9 (.m rfl hB)) <| gm rfl rfl (fun hB => mv (.t rfl)) <| gm rfl rfl (fun hB => bt bt30_9 (.m rfl hB)) <| gm rfl rfl (fun hB => sq (.m rfl hB) (.m rfl hB) rfl rfl) <| gm rfl rfl (fun hB => ld tf29 (.t rfl) rfl rfl) <| gm rfl rfl (fun hB => ld tf29 (.t rfl) rfl rfl) <| cgm rfl rfl cf10 (fun hB => (ref27_Same_c (gTt hx18 (an2 (nt hB.1) hB.2)))) (fun hB => .c (.m rfl hB) <| .c (.m rfl hB) <| .n) (.inl rfl) <| gm rfl rfl (fun hB => be2 ub4 (.m rfl hB) (.m rfl hB) rfl) <| gd rfl rfl (fun hB => pkam (.m rfl hB) (.t rfl) hB) <| u (pko (.t rfl) (.t rfl)) <| .nil _) (by kernel_rfl) rfl ?_
      refine .bq h (.t rfl) (fun h => ?_) (fun h => ?_)
      · refine .sq ?_
        refine .rg (u (asg .b) <| .nil _) rfl ?_
        obtain rfl := Option.some.inj h
        exact .rt Try.func3 (.t rfl <| .n) .n rfl rfl
      · refine .skp ?_
        refine .sq ?_
        refine be h fun x19 hx19 h => ?_
        refine be h fun x20 hx20 h => ?_
        refine be h fun x21 hx21 h => ?_
        refine .rd mixed (bs (F := e8) (l := ([] : List Int)) 100 pf30 (.n) rfl (fun _ _ => rfl) rfl rfl <| u (mv (.t rfl)) <| ap 102 pf30 (.t rfl) rfl (.t rfl) hx19 rfl <| u (mv (.t rfl)) <| bs (F := e8) (l := [more]) 104 pf30 (.c (.t rfl) rfl <| .n) rfl (fun _ _ => rfl) rfl rfl <| apo 105 pf30 (.t rfl) rfl (.t rfl) rfl hx20 rfl <| u (ld tf26 (.t rfl) rfl rfl) <| cl [105] cf9 (av1_Read_c hx21) (.b (.t rfl) rfl <| .c (.t rfl) <| .n) (.inl rfl) <| u (mv (.t rfl)) <| u (ex (.t rfl) rfl rfl) <| u (ex (.t rfl) rfl rfl) <| al 17 zf29 rfl <| st tf29 (.t rfl) rfl (.t rfl) rfl rfl rfl <| u (asg (.t rfl)) <| .nil _) (by kernel_rfl) rfl ?_
        refine .sq ?_
        rcases btf ((cm .gtr (x4.1.length : Int) 3) && (cm .neq x21.2 4)) with hs0 | hs0
        · replace h := ifT h hs0
          refine .rd mixed (u (mv (.t rfl)) <| u (lnm sf30 (.t rfl)) <| u (bc (.t rfl) (.i rfl) rfl rfl) <| u (mv (.t rfl)) <| gd rfl rfl (fun hB => mv (.t rfl)) <| gd rfl rfl (fun hB => bc (.m rfl hB) (.i rfl) rfl rfl) <| u (pka (.t rfl) (.t rfl)) <| u (mv (.t rfl)) <| gd (v := .ro (.bool false)) (rs := []) (ro := []) rfl rfl (fun hB => absurd (hB.symm.trans hs0) (by decide)) <| gd (v := .ro (.bool false)) (rs := []) (ro := []) rfl rfl (fun hB => absurd (hB.symm.trans hs0) (by decide)) <| gd (v := .ro (.bool false)) (rs := []) (ro := []) rfl rfl (fun hB => absurd (hB.symm.trans hs0) (by decide)) <| gd (v := .ro (.bool false)) (rs := []) (ro := []) rfl rfl (fun hB => absurd (hB.symm.trans hs0) (by decide)) <| gd (v := .ro (.bool false)) (rs := []) (ro := []) rfl rfl (fun hB => absurd (hB.symm.trans hs0) (by decide)) <| gd (v := .ro (.bool false)) (rs := []) (ro := []) rfl rfl (fun hB => absurd (hB.symm.trans hs0) (by decide)) <| gd (v := .ro (.bool false)) (rs := []) (ro := []) rfl rfl (fun hB => absurd (hB.symm.trans hs0) (by decide)) <| u (pkt hs0 (.t rfl) .b) <| .nil _) (by kernel_rfl) rfl ?_
          refine .ct (.t rfl) rfl ?_
          refine .sq ?_
          refine .rg (u (asg .b) <| .nil _) rfl ?_
          obtain rfl := Option.some.inj h
          exact .rt Try.func3 (.t rfl <| .n) .n rfl rfl
        · replace h := ifF h hs0
          refine be h fun x22 hx22 h => ?_
          refine be h fun x23 hx23 h => ?_
          refine be h fun x24 hx24 h => ?_
          refine .rd mixed (u (mv (.t rfl)) <| u (lnm sf30 (.t rfl)) <| u (bc (.t rfl) (.i rfl) rfl rfl) <| u (mv (.t rfl)) <| gd rfl rfl (fun hB => mv (.t rfl)) <| gd rfl rfl (fun hB => bc (.m rfl hB) (.i rfl) rfl rfl) <| u (pka (.t rfl) (.t rfl)) <| u (mv (.t rfl)) <| gdk rfl rfl hs0 <| bs (F := e8) (l := ([] : List Int)) 118 pf30 (.n) rfl (fun _ _ => rfl) rfl rfl <| gdk rfl rfl hs0 <| u (mv (.t rfl)) <| gdk rfl rfl hs0 <| ap 120 pf30 (.t rfl) rfl (.t rfl) hx22 rfl <| gdk rfl rfl hs0 <| bs (F := e8) (l := [0]) 121 pf30 (.c (.i rfl) rfl <| .n) rfl (fun _ _ => rfl) rfl rfl <| gdk rfl rfl hs0 <| apo 122 pf30 (.t rfl) rfl (.t rfl) rfl hx23 rfl <| gdk rfl rfl hs0 <| u (ld tf26 (.t rfl) rfl rfl) <| gdk rfl rfl hs0 <| cl [] cf11 (av1_Canon_c hx24) (.b (.t rfl) rfl <| .c (.t rfl) <| .n) (.inr rfl) <| u (pkf hs0 (.t rfl) (.t rfl)) <| .nil _) (by kernel_rfl) rfl ?_
          refine .bq h (.t rfl) (fun h => ?_) (fun h => ?_)
          · refine .sq ?_
            refine .rg (u (asg .b) <| .nil _) rfl ?_
            obtain rfl := Option.some.inj h
            exact .rt Try.func3 (.t rfl <| .n) .n rfl rfl
          · refine .skp ?_
            exact .kq (J1 known h) (.c rfl (.c rfl .n)) (.c rfl .n)
    · refine .skp ?_
      exact .kq (J1 known h) (.c rfl (.c rfl .n)) (.c rfl .n)

theorem law27_Av1Known_c {z : Option Nat} {f : Frame} {known : Structure} {r : Bool} (h : law27_Av1Known z f known = some r) :
    AC Try.prog 4 [.ro (enc_Frame f), .ro (enc_Structure known)] (.ro (.bool r)) [] := by
  refine AC.of Try.func4 rfl rfl fun w M0 hM => ?_
  unfold law27_Av1Known at h
  refine .sq ?_
  refine .rg (bx 2 (.t rfl) rfl rfl <| bx 3 (.t rfl) rfl rfl <| u (asg .b) <| .nil _) rfl ?_
  refine .sq ?_
  refine .sq ?_
  refine .rg (cl [] cf5 law27_awake_k (.n) (.inl rfl) <| u (no (.t rfl)) <| .nil _) rfl ?_
  refine .cf (.t rfl) rfl ?_
  refine .skp ?_
  refine .sq ?_
  refine .sq ?_
  refine be h fun x1 hx1 h => ?_
  refine be h fun x2 hx2 h => ?_
  refine .rg (u (ld tf29 (.t rfl) rfl rfl) <| cl [] cf6 (ref27_Short_c hx1) (.c (.t rfl) <| .n) (.inl rfl) <| u (no (.t rfl)) <| u (mv (.t rfl)) <| gd rfl rfl (fun hB => ld tf26 (.t rfl) rfl rfl) <| cg rfl rfl cf7 (fun hB => (ref26_Short_c (gTt hx2 (nt hB)))) (fun hB => .c (.m rfl hB) <| .n) (.inl rfl) <| gd rfl rfl (fun hB => no (.m rfl hB)) <| u (pko (.t rfl) (.t rfl)) <| .nil _) rfl ?_
  refine .bq h (.t rfl) (fun h => ?_) (fun h => ?_)
  · refine .sq ?_
    refine .rg (u (asg .b) <| .nil _) rfl ?_
    obtain rfl := Option.some.inj h
    exact .rt Try.func4 (.t rfl <| .n) .n rfl rfl
  · refine .skp ?_
    refine .sq ?_
    refine be h fun x3 hx3 h => ?_
    refine .rg (u (ld tf29 (.t rfl) rfl rfl) <| u (ld tf26 (.t rfl) rfl rfl) <| cl [] cf8 (av1_Write_c hx3) (.c (.t rfl) <| .c (.t rfl) <| .n) (.inl rfl) <| u (mv (.t rfl)) <| u (ex (.t rfl) rfl rfl) <| u (ex (.t rfl) rfl rfl) <| u (asg (.t rfl)) <| u (asg (.t rfl)) <| .nil _) rfl ?_
    refine .sq ?_
    refine be h fun x4 hx4 h => ?_
    refine .rg (u (ld tf29 (.t rfl) rfl rfl) <| u (ld tf26 (.t rfl) rfl rfl) <| cl [] cf13 (av1_Known_c hx4) (.c (.t rfl) <| .c (.t rfl) <| .n) (.inl rfl) <| al 7 zf26 rfl <| st tf26 (.t rfl) rfl (.t rfl) rfl rfl rfl <| .nil _) rfl ?_
    refine .sq ?_
    refine .sq ?_
    refine be h fun x5 hx5 h => ?_
    refine be h fun x6 hx6 h => ?_
    refine .rg (u (fa ff29_4 (.t rfl)) <| u (ld tf4 (.t rfl) rfl rfl) <| u (mv (.t rfl)) <| gd rfl rfl (fun hB => ld tf26 (.t rfl) rfl rfl) <| cg rfl rfl cf14 (fun hB => (templ_Right_c (gTt hx5 hB))) (fun hB => .c (.m rfl hB) <| .n) (.inl rfl) <| gd rfl rfl (fun hB => mv (.m rfl hB)) <| gm rfl rfl (fun hB => ld tf26 (.t rfl) rfl rfl) <| gm rfl rfl (fun hB => bd bf26 zf26 (.n) rfl) <| cgm rfl rfl cf15 (fun hB => (templ_Same_c (gTt hx6 (an2 hB.1 (nt hB.2))))) (fun hB => .c (.m rfl hB) <| .c (.m rfl hB) <| .n) (.inl rfl) <| gd rfl rfl (fun hB => pkom (.m rfl hB) (.t rfl) hB) <| u (pka (.t rfl) (.t rfl)) <| .nil _) rfl ?_
    refine .jq (t := some r) (fun (a : Frame × Structure) => ⟨[(2, .ptr 2 0), (3, .ptr 3 0), (6, .ro (.int .i64 x3.2)), (7, .ptr 7 0)], [(2, some (.box [.ro (.bool a.1.start), .ro (.bool a.1.end_), .ro (.int .i64 a.1.template), .ro (.int .i64 a.1.number), .ro (.bool a.1.hasStructure), .ro (.int .i64 a.1.structure_.id_), .ro (.int .i64 a.1.structure_.targets), .ro (.int .i64 a.1.structure_.chains), .ro (.list 1 (List.map (ei .i64) a.1.structure_.protect)), .ro (.list 5 (List.map cells_Template a.1.structure_.templates)), .ro (.list 2 (List.map cells_Size a.1.structure_.sizes)), .ro (.bool a.1.hasActive), .ro (.int .u32 a.1.active), .ro (.bool a.1.ownMarks), .ro (.list 1 (List.map (ei .i64) a.1.marks)), .ro (.bool a.1.ownDiffs), .ro (.list 1 (List.map (ei .i64) a.1.diffs)), .ro (.bool a.1.ownChains), .ro (.list 1 (List.map (ei .i64) a.1.chains))])), (3, some (.box [.ro (.int .i64 known.id_), .ro (.int .i64 known.targets), .ro (.int .i64 known.chains), .ro (.list 1 (List.map (ei .i64) known.protect)), .ro (.list 5 (List.map cells_Template known.templates)), .ro (.list 2 (List.map cells_Size known.sizes))])), (7, some (.box [.ro (.int .i64 a.2.id_), .ro (.int .i64 a.2.targets), .ro (.int .i64 a.2.chains), .ro (.list 1 (List.map (ei .i64) a.2.protect)), .ro (.list 5 (List.map cells_Template a.2.templates)), .ro (.list 2 (List.map cells_Size a.2.sizes))]))]⟩) (fun (a : Frame × Structure) => law27_Av1Known_j1 z known x3 a.1 a.2) ?_ (fun J1 => ?_)
    · rintro ⟨v7, v8⟩ h
      replace h : law27_Av1Known_j1 z known x3 v7 v8 = _ := h
      unfold law27_Av1Known_j1 at h
      refine .sq ?_
      refine .sq ?_
      refine be h fun x9 hx9 h => ?_
      refine .rg (u (fa ff29_4 (.t rfl)) <| u (ld tf4 (.t rfl) rfl rfl) <| u (no (.t rfl)) <| u (mv (.t rfl)) <| gd rfl rfl (fun hB => ld tf26 (.t rfl) rfl rfl) <| gd rfl rfl (fun hB => ld tf26 (.t rfl) rfl rfl) <| cg rfl rfl cf15 (fun hB => (templ_Same_c (gTt hx9 hB))) (fun hB => .c (.m rfl hB) <| .c (.m rfl hB) <| .n) (.inl rfl) <| gd rfl rfl (fun hB => no (.m rfl hB)) <| u (pka (.t rfl) (.t rfl)) <| .nil _) rfl ?_
      refine .bq h (.t rfl) (fun h => ?_) (fun h => ?_)
      · refine .sq ?_
        refine .rg (u (asg .b) <| .nil _) rfl ?_
        obtain rfl := Option.some.inj h
        exact .rt Try.func4 (.t rfl <| .n) .n rfl rfl
      · refine .skp ?_
        refine .sq ?_
        refine be h fun x10 hx10 h => ?_
        refine .rg (u (ld tf29 (.t rfl) rfl rfl) <| u (ld tf26 (.t rfl) rfl rfl) <| cl [] cf16 (av1_Whole_c hx10) (.c (.t rfl) <| .c (.t rfl) <| .n) (.inl rfl) <| u (mv (.t rfl)) <| u (ex (.t rfl) rfl rfl) <| u (ex (.t rfl) rfl rfl) <| al 10 zf46 rfl <| st tf46 (.t rfl) rfl (.t rfl) rfl rfl rfl <| u (asg (.t rfl)) <| .nil _) rfl ?_
        refine .sq ?_
        refine .sq ?_
        refine .rg (u (mv (.t rfl)) <| u (bc (.t rfl) (.i rfl) rfl rfl) <| .nil _) rfl ?_
        refine .bq h (.t rfl) (fun h => ?_) (fun h => ?_)
        · refine .sq ?_
          refine be h fun x11 hx11 h => ?_
          refine .rg (u (mv (.t rfl)) <| u (bc (.t rfl) (.i rfl) rfl rfl) <| u (mv (.t rfl)) <| gd rfl rfl (fun hB => ld tf26 (.t rfl) rfl rfl) <| gd rfl rfl (fun hB => ld tf26 (.t rfl) rfl rfl) <| cg rfl rfl cf15 (fun hB => (templ_Same_c (gTt hx11 hB))) (fun hB => .c (.m rfl hB) <| .c (.m rfl hB) <| .n) (.inl rfl) <| u (pka (.t rfl) (.t rfl)) <| u (asg (.t rfl)) <| .nil _) rfl ?_
          obtain rfl := Option.some.inj h
          exact .rt Try.func4 (.t rfl <| .n) .n rfl rfl
        · refine .skp ?_
          refine .sq ?_
          refine .sq ?_
          refine be h fun x12 hx12 h => ?_
          refine .rg (u (mv (.t rfl)) <| u (bc (.t rfl) (.i rfl) rfl rfl) <| u (mv (.t rfl)) <| gd rfl rfl (fun hB => fa ff46_2 (.t rfl)) <| gd rfl rfl (fun hB => ld tf22 (.m rfl hB) rfl rfl) <| gd rfl rfl (fun hB => lnm sf22 (.m rfl hB)) <| gd rfl rfl (fun hB => fa ff26_1 (.t rfl)) <| gd rfl rfl (fun hB => ld tf3 (.m rfl hB) rfl rfl) <| gd rfl rfl (fun hB => bc (.m rfl hB) (.m rfl hB) rfl rfl) <| u (pko (.t rfl) (.t rfl)) <| u (mv (.t rfl)) <| gd rfl rfl (fun hB => fa ff46_4 (.t rfl)) <| gd rfl rfl (fun hB => ld tf22 (.m rfl hB) rfl rfl) <| gd rfl rfl (fun hB => lnm sf22 (.m rfl hB)) <| gd rfl rfl (fun hB => fa ff26_2 (.t rfl)) <| gd rfl rfl (fun hB => ld tf3 (.m rfl hB) rfl rfl) <| gd rfl rfl (fun hB => bc (.m rfl hB) (.m rfl hB) rfl rfl) <| u (pko (.t rfl) (.t rfl)) <| u (mv (.t rfl)) <| gd rfl rfl (fun hB => ld tf26 (.t rfl) rfl rfl) <| cg rfl rfl cf14 (fun hB => (templ_Right_c (gTt hx12 (nt hB)))) (fun hB => .c (.m rfl hB) <| .n) (.inl rfl) <| gd rfl rfl (fun hB => no (.m rfl hB)) <| u (pko (.t rfl) (.t rfl)) <| .nil _) rfl ?_
          refine .bq h (.t rfl) (fun h => ?_) (fun h => ?_)
          · refine .sq ?_
            refine .rg (u (asg .b) <| .nil _) rfl ?_
            obtain rfl := Option.some.inj h
            exact .rt Try.func4 (.t rfl <| .n) .n rfl rfl
          · refine .skp ?_
            refine .sq ?_
            refine .sq ?_
            refine .rg (u (asg (.i rfl)) <| .nil _) rfl ?_
            refine .bl ?_
            unfold law27_Av1Known_l2 at h
            refine .kq (.lo (fun (s : Int) => ⟨[(2, .ptr 2 0), (7, .ptr 7 0), (10, .ptr 10 0), (12, .ro (.int .i64 s))], [(2, some (.box [.ro (.bool v7.start), .ro (.bool v7.end_), .ro (.int .i64 v7.template), .ro (.int .i64 v7.number), .ro (.bool v7.hasStructure), .ro (.int .i64 v7.structure_.id_), .ro (.int .i64 v7.structure_.targets), .ro (.int .i64 v7.structure_.chains), .ro (.list 1 (List.map (ei .i64) v7.structure_.protect)), .ro (.list 5 (List.map cells_Template v7.structure_.templates)), .ro (.list 2 (List.map cells_Size v7.structure_.sizes)), .ro (.bool v7.hasActive), .ro (.int .u32 v7.active), .ro (.bool v7.ownMarks), .ro (.list 1 (List.map (ei .i64) v7.marks)), .ro (.bool v7.ownDiffs), .ro (.list 1 (List.map (ei .i64) v7.diffs)), .ro (.bool v7.ownChains), .ro (.list 1 (List.map (ei .i64) v7.chains))])), (7, some (.box [.ro (.int .i64 v8.id_), .ro (.int .i64 v8.targets), .ro (.int .i64 v8.chains), .ro (.list 1 (List.map (ei .i64) v8.protect)), .ro (.list 5 (List.map cells_Template v8.templates)), .ro (.list 2 (List.map cells_Size v8.sizes))])), (10, some (.box [.ro (.int .i64 x10.1.sid), .ro (.int .i64 x10.1.tid), .ro (.list 1 (List.map (ei .i64) x10.1.marks)), .ro (.list 1 (List.map (ei .i64) x10.1.diffs)), .ro (.list 1 (List.map (ei .i64) x10.1.chains))]))]⟩) h ?_) (.c rfl (.c rfl (.c rfl (.c rfl .n)))) (.c rfl (.c rfl (.c rfl .n)))
            intro v13 u2 h ih2 hx2
            replace h : law27_Av1Known_s2 z v7 v8 x10 v13 = _ := h
            unfold law27_Av1Known_s2 at h
            refine .sq ?_
            refine .sq ?_
            refine .rg (u (mv (.t rfl)) <| u (fa ff26_4 (.t rfl)) <| u (ld tf23 (.t rfl) rfl rfl) <| u (lnm sf23 (.t rfl)) <| u (bc (.t rfl) (.t rfl) rfl rfl) <| .nil _) rfl ?_
            refine .bq h (.t rfl) (fun h => ?_) (fun h => ?_)
            · refine .skp ?_
              refine .sq ?_
              refine .bl ?_
              refine .sq ?_
              refine .rg (u (fa ff26_0 (.t rfl)) <| u (ld tf3 (.t rfl) rfl rfl) <| u (mv (.t rfl)) <| u (bi (.t rfl) (.t rfl) rfl) <| u (di (.t rfl) (.i rfl) rfl (by decide)) <| u (fa ff29_2 (.t rfl)) <| u (ld tf3 (.t rfl) rfl rfl) <| u (bc (.t rfl) (.t rfl) rfl rfl) <| .nil _) rfl ?_
              refine .bq h (.t rfl) (fun h => ?_) (fun h => ?_)
              · refine .sq ?_
                refine be h fun x14 hx14 h => ?_
                refine be h fun x15 hx15 h => ?_
                refine .rd mixed (u (fa ff46_0 (.t rfl)) <| u (ld tf3 (.t rfl) rfl rfl) <| u (fa ff26_4 (.t rfl)) <| u (ld tf23 (.t rfl) rfl rfl) <| u (mv (.t rfl)) <| u (ia sf23 (.t rfl) (.t rfl) (ix_map cells_Template hx14)) <| u (fr ff46_0 (.t rfl) rfl) <| u (lr tf3 (.t rfl) rfl) <| u (bc (.t rfl) (.t rfl) rfl rfl) <| u (mv (.t rfl)) <| gd rfl rfl (fun hB => fa ff46_1 (.t rfl)) <| gd rfl rfl (fun hB => ld tf3 (.m rfl hB) rfl rfl) <| gd rfl rfl (fun hB => fa ff26_4 (.t rfl)) <| gd rfl rfl (fun hB => ld tf23 (.m rfl hB) rfl rfl) <| gd rfl rfl (fun hB => mv (.t rfl)) <| gd rfl rfl (fun hB => ia sf23 (.m rfl hB) (.m rfl hB) (ix_map cells_Template (gTt hx15 hB))) <| gd rfl rfl (fun hB => fr ff46_1 (.m rfl hB) rfl) <| gd rfl rfl (fun hB => lr tf3 (.m rfl hB) rfl) <| gd rfl rfl (fun hB => bc (.m rfl hB) (.m rfl hB) rfl rfl) <| u (pka (.t rfl) (.t rfl)) <| u (asg (.t rfl)) <| .nil _) (by kernel_rfl) rfl ?_
                replace h := mpR h hx2
                obtain rfl := Option.some.inj h
                exact .rt Try.func4 (.t rfl <| .n) .n rfl rfl
              · refine .skp ?_
                refine .ib ?_
                refine .rg (u (mv (.t rfl)) <| u (bi (.t rfl) (.i rfl) rfl) <| u (asg (.t rfl)) <| .nil _) rfl ?_
                exact .kq (.il (ih2 (ar .add .i64 v13 1) (nxi h))) (.c rfl (.c rfl (.c rfl (.c rfl .n)))) (.c rfl (.c rfl (.c rfl .n)))
            · refine .xt rfl ?_
              replace h := mpR h hx2
              refine .sq ?_
              refine .rg (u (asg .b) <| .nil _) rfl ?_
              obtain rfl := Option.some.inj h
              exact .rt Try.func4 (.t rfl <| .n) .n rfl rfl
    refine .bq h (.t rfl) (fun h => ?_) (fun h => ?_)
    · refine .sq ?_
      refine be h fun x16 hx16 h => ?_
      refine .rg (u (ld tf29 (.t rfl) rfl rfl) <| u (bd bf26 zf26 (.n) rfl) <| cl [] cf8 (av1_Write_c hx16) (.c (.t rfl) <| .c (.t rfl) <| .n) (.inl rfl) <| u (mv (.t rfl)) <| u (ex (.t rfl) rfl rfl) <| u (ex (.t rfl) rfl rfl) <| u (asg (.t rfl)) <| u (asg (.t rfl)) <| .nil _) rfl ?_
      refine .sq ?_
      refine be h fun x17 hx17 h => ?_
      refine .rg (u (mv (.t rfl)) <| u (mv (.t rfl)) <| u (bc (.t rfl) (.t rfl) rfl rfl) <| u (mv (.t rfl)) <| gd rfl rfl (fun hB => mv (.t rfl)) <| gd rfl rfl (fun hB => bt bt30_9 (.m rfl hB)) <| gd rfl rfl (fun hB => mv (.t rfl)) <| gd rfl rfl (fun hB => bt bt30_9 (.m rfl hB)) <| gd rfl rfl (fun hB => sq (.m rfl hB) (.m rfl hB) rfl rfl) <| u (pko (.t rfl) (.t rfl)) <| u (mv (.t rfl)) <| gd rfl rfl (fun hB => mv (.t rfl)) <| gd rfl rfl (fun hB => bc (.m rfl hB) (.i rfl) rfl rfl) <| gd rfl rfl (fun hB => mv (.m rfl hB)) <| gm rfl rfl (fun hB => ld tf26 (.t rfl) rfl rfl) <| gm rfl rfl (fun hB => fa ff29_5 (.t rfl)) <| gm rfl rfl (fun hB => ld tf26 (.m rfl hB) rfl rfl) <| cgm rfl rfl cf15 (fun hB => (templ_Same_c (gTt hx17 (an2 (nt hB.1) hB.2)))) (fun hB => .c (.m rfl hB) <| .c (.m rfl hB) <| .n) (.inl rfl) <| gm rfl rfl (fun hB => no (.m rfl hB)) <| gd rfl rfl (fun hB => pkam (.m rfl hB) (.t rfl) hB) <| u (pko (.t rfl) (.t rfl)) <| .nil _) rfl ?_
      refine .bq h (.t rfl) (fun h => ?_) (fun h => ?_)
      · refine .sq ?_
        refine .rg (u (asg .b) <| .nil _) rfl ?_
        obtain rfl := Option.some.inj h
        exact .rt Try.func4 (.t rfl <| .n) .n rfl rfl
      · refine .skp ?_
        exact .kq (J1 (f, x4) h) (.c rfl (.c rfl (.c rfl (.c rfl .n)))) (.c rfl (.c rfl (.c rfl .n)))
    · refine .skp ?_
      exact .kq (J1 (f, x4) h) (.c rfl (.c rfl (.c rfl (.c rfl .n)))) (.c rfl (.c rfl (.c rfl .n)))

end Xb
