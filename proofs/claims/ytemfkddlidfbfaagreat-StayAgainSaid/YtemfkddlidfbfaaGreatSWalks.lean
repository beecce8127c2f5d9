/- Own text: SWalks. -/
import Derived.Test.YtemfkddlidfbfaaGreatSWalksA
import Derived.Test.YtemfkddlidfbfaaGreatSFacts
import Derived.Test.YtemfkddlidfbfaaGreatSRaw
import Derived.Test.YtemfkddlidfbfaaGreatSIter
set_option linter.all false
set_option linter.unusedVariables false
set_option linter.unusedSimpArgs false
set_option linter.unnecessarySimpa false
set_option linter.deprecated false
namespace Xb
open Go Go.Proofs
set_option linter.unusedVariables false
set_option maxRecDepth 20000

theorem plan_behind_c {z : Option Nat} {p : Plan} {k : Packet} {r : Packet × Bool} (h : plan_behind z p k = some r) :
    AC Tryz.prog 38 [.ro (enc_Plan p), .ro (enc_Packet k)] (.ro (.tup [enc_Packet r.1, .bool r.2])) [] := by
  refine AC.of Tryz.func38 rfl rfl fun w M0 hM => ?_
  unfold plan_behind at h
  refine .sq ?_
  refine .rg (bx 2 (.t rfl) rfl rfl <| bx 3 (.t rfl) rfl rfl <| al 4 zf50 rfl <| u (asg .b) <| .nil _) rfl ?_
  refine .sq ?_
  refine .sq ?_
  refine be h fun x1 hx1 h => ?_
  refine .rg (u (ld tf50 (.t rfl) rfl rfl) <| cl [] cf39 (packet_Right_c k) (.c (.t rfl) <| .n) (.inl rfl) <| u (no (.t rfl)) <| u (mv (.t rfl)) <| gd rfl rfl (fun hB => ld tf28 (.t rfl) rfl rfl) <| cg rfl rfl cf71 (fun hB => (plan_Right_c (gTt hx1 (nt hB)))) (fun hB => .c (.m rfl hB) <| .n) (.inl rfl) <| gd rfl rfl (fun hB => no (.m rfl hB)) <| u (pko (.t rfl) (.t rfl)) <| .nil _) rfl ?_
  refine .bq h (.t rfl) (fun h => ?_) (fun h => ?_)
  · refine .sq ?_
    refine .rg (u (ld tf50 (.t rfl) rfl rfl) <| st tf50 (.t rfl) rfl (.t rfl) rfl rfl rfl <| u (asg .b) <| .nil _) rfl ?_
    obtain rfl := Option.some.inj h
    exact .rt Tryz.func38 (.c tf50 rfl rfl rfl <| .t rfl <| .n) .n rfl rfl
  · refine .skp ?_
    refine .sq ?_
    refine .rg (u (asg .b) <| .nil _) rfl ?_
    refine .sq ?_
    refine .sq ?_
    refine .rg (u (ld tf28 (.t rfl) rfl rfl) <| cl [] cf42 (plan_Elements_c p) (.c (.t rfl) <| .n) (.inl rfl) <| .nil _) rfl ?_
    refine .jq (t := some r) (fun (a : Bool × Plan × Packet) => ⟨[(2, .ptr 2 0), (3, .ptr 3 0), (4, .ptr 4 0), (6, .ro (.bool a.1))], [(2, some (.box [.ro (.bool a.2.1.setMarker), .ro (.bool a.2.1.marker), .ro (.bool a.2.1.setType), .ro (.int .i64 a.2.1.type), .ro (.bool a.2.1.setSeq), .ro (.int .u16 a.2.1.seq), .ro (.bool a.2.1.setTime), .ro (.int .u32 a.2.1.time), .ro (.bool a.2.1.setSsrc), .ro (.int .u32 a.2.1.ssrc), .ro (.list 2 (List.map cells_GMap a.2.1.maps)), .ro (.list 2 (List.map cells_Elem a.2.1.over)), .ro (.list 1 (List.map (ei .i64) a.2.1.drops)), .ro (.list 2 (List.map cells_Elem a.2.1.adds)), .ro (.bool a.2.1.noPad)])), (3, some (.box [.ro (.bool a.2.2.head.hasPad), .ro (.bool a.2.2.head.hasExt), .ro (.bool a.2.2.head.marker), .ro (.int .i64 a.2.2.head.type), .ro (.int .u16 a.2.2.head.seq), .ro (.int .u32 a.2.2.head.time), .ro (.int .u32 a.2.2.head.ssrc), .ro (.list 1 (List.map (ei .u32) a.2.2.head.csrc)), .ro (.int .u16 a.2.2.profile), .ro (.list 1 (List.map e8 a.2.2.ext)), .ro (.list 1 (List.map e8 a.2.2.payload)), .ro (.int .i64 a.2.2.pad)])), (4, some (.box [.ro (.bool false), .ro (.bool false), .ro (.bool false), .ro (.int .i64 0), .ro (.int .u16 0), .ro (.int .u32 0), .ro (.int .u32 0), .ro (.list 1 (List.map (ei .u32) [])), .ro (.int .u16 0), .ro (.list 1 (List.map e8 [])), .ro (.list 1 (List.map e8 [])), .ro (.int .i64 0)]))]⟩) (fun (a : Bool × Plan × Packet) => plan_behind_j1 z a.1 a.2.1 a.2.2) ?_ (fun J1 => ?_)
    · rintro ⟨v2, v3, v4⟩ h
      replace h : plan_behind_j1 z v2 v3 v4 = _ := h
      unfold plan_behind_j1 at h
      refine .sq ?_
      refine .rg (u (ld tf28 (.t rfl) rfl rfl) <| u (fa ff50_0 (.t rfl)) <| u (ld tf48 (.t rfl) rfl rfl) <| cl [] cf73 (plan_set_c v3 v4.head) (.c (.t rfl) <| .c (.t rfl) <| .n) (.inl rfl) <| u (fa ff50_0 (.t rfl)) <| st tf48 (.t rfl) rfl (.t rfl) rfl rfl rfl <| .nil _) rfl ?_
      refine .sq ?_
      refine .sq ?_
      refine .rg (u (fa ff28_14 (.t rfl)) <| u (ld tf4 (.t rfl) rfl rfl) <| .nil _) rfl ?_
      refine .jq (t := some r) (fun (a : Packet) => ⟨[(3, .ptr 3 0), (4, .ptr 4 0), (6, .ro (.bool v2))], [(3, some (.box [.ro (.bool a.head.hasPad), .ro (.bool a.head.hasExt), .ro (.bool a.head.marker), .ro (.int .i64 a.head.type), .ro (.int .u16 a.head.seq), .ro (.int .u32 a.head.time), .ro (.int .u32 a.head.ssrc), .ro (.list 1 (List.map (ei .u32) a.head.csrc)), .ro (.int .u16 a.profile), .ro (.list 1 (List.map e8 a.ext)), .ro (.list 1 (List.map e8 a.payload)), .ro (.int .i64 a.pad)])), (4, some (.box [.ro (.bool false), .ro (.bool false), .ro (.bool false), .ro (.int .i64 0), .ro (.int .u16 0), .ro (.int .u32 0), .ro (.int .u32 0), .ro (.list 1 (List.map (ei .u32) [])), .ro (.int .u16 0), .ro (.list 1 (List.map e8 [])), .ro (.list 1 (List.map e8 [])), .ro (.int .i64 0)]))]⟩) (fun (a : Packet) => plan_behind_j2 z v2 a) ?_ (fun J2 => ?_)
      · intro v5 h
        replace h : plan_behind_j2 z v2 v5 = _ := h
        unfold plan_behind_j2 at h
        refine .sq ?_
        refine .rd mixed (u (ld tf50 (.t rfl) rfl rfl) <| u (mv (.t rfl)) <| u (mv (.t rfl)) <| gd rfl rfl (fun hB => ld tf50 (.t rfl) rfl rfl) <| cg rfl rfl cf39 (fun hB => (packet_Right_c v5)) (fun hB => .c (.m rfl hB) <| .n) (.inl rfl) <| u (pka (.t rfl) (.t rfl)) <| st tf50 (.t rfl) rfl (.t rfl) rfl rfl rfl <| u (asg (.t rfl)) <| .nil _) (by kernel_rfl) rfl ?_
        obtain rfl := Option.some.inj h
        exact .rt Tryz.func38 (.c tf50 rfl rfl rfl <| .t rfl <| .n) .n rfl rfl
      refine .bq h (.t rfl) (fun h => ?_) (fun h => ?_)
      · refine .rg (u (fa ff50_0 (.t rfl)) <| u (fa ff48_0 (.t rfl)) <| st tf4 (.t rfl) rfl .b rfl rfl rfl <| u (fa ff50_4 (.t rfl)) <| st tf3 (.t rfl) rfl (.i rfl) rfl rfl rfl <| .nil _) rfl ?_
        exact .kq (J2 ({ v4 with head := (Head.mk false ((plan_set v3 v4.head).hasExt) ((plan_set v3 v4.head).marker) ((plan_set v3 v4.head).type) ((plan_set v3 v4.head).seq) ((plan_set v3 v4.head).time) ((plan_set v3 v4.head).ssrc) ((plan_set v3 v4.head).csrc)), pad := 0 }) h) (.c rfl (.c rfl (.c rfl .n))) (.c rfl (.c rfl .n))
      · refine .skp ?_
        exact .kq (J2 ({ v4 with head := (plan_set v3 v4.head) }) h) (.c rfl (.c rfl (.c rfl .n))) (.c rfl (.c rfl .n))
    refine .bq h (.t rfl) (fun h => ?_) (fun h => ?_)
    · refine be h fun x6 hx6 h => ?_
      refine .rg (u (ld tf28 (.t rfl) rfl rfl) <| u (ld tf50 (.t rfl) rfl rfl) <| cl [] cf72 (plan_extend_c hx6) (.c (.t rfl) <| .c (.t rfl) <| .n) (.inl rfl) <| u (mv (.t rfl)) <| u (ex (.t rfl) rfl rfl) <| u (ex (.t rfl) rfl rfl) <| st tf50 (.t rfl) rfl (.t rfl) rfl rfl rfl <| u (asg (.t rfl)) <| .nil _) rfl ?_
      exact .kq (J1 (x6.2, p, x6.1) h) (.c rfl (.c rfl (.c rfl (.c rfl .n)))) (.c rfl (.c rfl (.c rfl .n)))
    · refine .skp ?_
      exact .kq (J1 (true, p, k) h) (.c rfl (.c rfl (.c rfl (.c rfl .n)))) (.c rfl (.c rfl (.c rfl .n)))

theorem plan_Fits_c {z : Option Nat} {p : Plan} {k : Packet} {r : Bool} (h : plan_Fits z p k = some r) :
    AC Tryz.prog 17 [.ro (enc_Plan p), .ro (enc_Packet k)] (.ro (.bool r)) [] := by
  refine AC.of Tryz.func17 rfl rfl fun w M0 hM => ?_
  unfold plan_Fits at h
  refine .sq ?_
  refine .rg (bx 2 (.t rfl) rfl rfl <| bx 3 (.t rfl) rfl rfl <| u (asg .b) <| .nil _) rfl ?_
  refine .sq ?_
  refine be h fun x1 hx1 h => ?_
  refine .rg (u (ld tf28 (.t rfl) rfl rfl) <| u (ld tf50 (.t rfl) rfl rfl) <| cl [] cf38 (plan_behind_c hx1) (.c (.t rfl) <| .c (.t rfl) <| .n) (.inl rfl) <| u (mv (.t rfl)) <| u (ex (.t rfl) rfl rfl) <| u (ex (.t rfl) rfl rfl) <| al 5 zf50 rfl <| st tf50 (.t rfl) rfl (.t rfl) rfl rfl rfl <| u (asg (.t rfl)) <| .nil _) rfl ?_
  refine .sq ?_
  refine .rg (u (mv (.t rfl)) <| u (asg (.t rfl)) <| .nil _) rfl ?_
  obtain rfl := Option.some.inj h
  exact .rt Tryz.func17 (.t rfl <| .n) .n rfl rfl

theorem plan_Keeps_c (p : Plan) :
    AC Tryz.prog 16 [.ro (enc_Plan p)] (.ro (.bool (plan_Keeps p))) [] := by
  obtain ⟨r, h⟩ : ∃ r, plan_Keeps p = r := ⟨_, rfl⟩
  rw [h]
  refine AC.of Tryz.func16 rfl rfl fun w M0 hM => ?_
  unfold plan_Keeps at h
  refine .sq ?_
  refine .rg (bx 1 (.t rfl) rfl rfl <| u (asg .b) <| .nil _) rfl ?_
  refine .sq ?_
  refine .rg (u (ld tf28 (.t rfl) rfl rfl) <| cl [] cf37 (plan_turns_c p) (.c (.t rfl) <| .n) (.inl rfl) <| u (no (.t rfl)) <| u (mv (.t rfl)) <| gd rfl rfl (fun hB => fa ff28_14 (.t rfl)) <| gd rfl rfl (fun hB => ld tf4 (.m rfl hB) rfl rfl) <| gd rfl rfl (fun hB => no (.m rfl hB)) <| u (pka (.t rfl) (.t rfl)) <| u (asg (.t rfl)) <| .nil _) rfl ?_
  subst h
  exact .rt Tryz.func16 (.t rfl <| .n) .n rfl rfl

theorem place_row_add_y2_c {z : Option Nat} {field : Int} {sizes : List Int} {box0 : place_row} {r : place_row} (h : place_row_add_y2 z field sizes box0 = some r) :
    AW Tryz.prog 87 [.ptr 9000 0, .ro (.int .i64 field), .ro (.list 1 (List.map (ei .i64) sizes))] [(9000, .box [.own 9100, .ro (.int .i64 box0.at_)]), (9100, .arr 59 3 (List.map cells_Place box0.l))] [0] (.ro (.tup [])) [(0, .ptr 9000 0)] [(9000, .box [.own 9500, .ro (.int .i64 r.at_)]), (9500, .arr 59 3 (List.map cells_Place r.l))] := by
  refine AW.of Tryz.func87 rfl rfl fun w X M0 hM pv => ?_
  refine .kq (l := [(0, .ptr 9000 0), (1, .ro (.int .i64 field)), (2, .ro (.list 1 (List.map (ei .i64) sizes)))]) (o := [(9000, some (.box [.own 9100, .ro (.int .i64 box0.at_)])), (9100, some (.arr 59 3 (List.map cells_Place box0.l)))]) ?_ (.c rfl (.c rfl (.c rfl .n))) (.c rfl (.c rfl .n))
  unfold place_row_add_y2 at h
  refine .sq ?_
  refine .rg (u (mv (.t rfl)) <| u (lnm sf26 (.t rfl)) <| u (mv (.i rfl)) <| .nil _) rfl ?_
  refine .bl ?_
  unfold place_row_add_y2_l1 at h
  refine .ks (fun i => bif Nat.beq i 100100000 then 9100 else i) (.lo (fun (s : Int × place_row) => ⟨[(0, .ptr 9000 0), (1, .ro (.int .i64 field)), (8, .ro (.list 1 (List.map (ei .i64) sizes))), (9, .ro (.int .i64 (sizes.length : Int))), (10, .ro (.int .i64 s.1))], [(9000, some (.box [.own 100100000, .ro (.int .i64 s.2.at_)])), (100100000, some (.arr 59 3 (List.map cells_Place s.2.l)))]⟩) h ?_) (.c rfl (.c rfl (.c rfl (.c rfl (.c rfl .n))))) (.c rfl (.c rfl .n)) rfl
  rintro ⟨v1, v2⟩ u1 h ih1 hx1
  replace h : place_row_add_y2_s1 z field sizes v1 v2 = _ := h
  unfold place_row_add_y2_s1 at h
  refine .sq ?_
  refine .rg (u (bc (.t rfl) (.t rfl) rfl rfl) <| .nil _) rfl ?_
  refine .sq ?_
  refine .bq h (.t rfl) (fun h => ?_) (fun h => ?_)
  · refine .skp ?_
    refine .sq ?_
    refine .bl ?_
    refine .sq ?_
    refine be h fun x3 hx3 h => ?_
    refine .rg (u (ia sf26 (.t rfl) (.t rfl) (ix_map (ei .i64) hx3)) <| u (lr tf3 (.t rfl) rfl) <| u (asg (.t rfl)) <| .nil _) rfl ?_
    refine .sq ?_
    refine .rg (u (mv (.t rfl)) <| u (bc (.t rfl) (.i rfl) rfl rfl) <| .nil _) rfl ?_
    refine .jq (t := some u1) (fun (a : place_row) => ⟨[(0, .ptr 9000 0), (1, .ro (.int .i64 field)), (8, .ro (.list 1 (List.map (ei .i64) sizes))), (9, .ro (.int .i64 (sizes.length : Int))), (10, .ro (.int .i64 v1))], [(9000, some (.box [.own 100100000, .ro (.int .i64 a.at_)])), (100100000, some (.arr 59 3 (List.map cells_Place a.l)))]⟩) (fun (a : place_row) => place_row_add_y2_j2 z v1 a) ?_ (fun J2 => ?_)
    · intro v4 h
      replace h : place_row_add_y2_j2 z v1 v4 = _ := h
      unfold place_row_add_y2_j2 at h
      refine .ib ?_
      refine .rg (u (bi (.t rfl) (.i rfl) rfl) <| u (mv (.t rfl)) <| .nil _) rfl ?_
      exact .kq (.il (ih1 ((ar .add .i64 v1 1), v4) (nxi h))) (.c rfl (.c rfl (.c rfl (.c rfl (.c rfl .n))))) (.c rfl (.c rfl .n))
    refine .bq h (.t rfl) (fun h => ?_) (fun h => ?_)
    · refine .sq ?_
      refine be h fun x5 hx5 h => ?_
      refine .rd mixed (u (mv (.t rfl)) <| u (mv (.t rfl)) <| u (nkp (.t rfl)) <| u (fa ff140_0 (.t rfl)) <| u (ld tf32 (.t rfl) rfl rfl) <| u (mv (.t rfl)) <| u (mv (.t rfl)) <| u (nkp (.t rfl)) <| u (fa ff140_1 (.t rfl)) <| u (ld tf3 (.t rfl) rfl rfl) <| u (mv (.t rfl)) <| u (bd bf59 zf59 (.c rfl (.t rfl) rfl rfl rfl <| .c rfl (.t rfl) rfl rfl rfl <| .c rfl (.t rfl) rfl rfl rfl <| .n) rfl) <| bs (F := cells_Place) (l := [(Place.mk field v2.at_ x3)]) 28 pf32 (.c (.t rfl) rfl <| .n) rfl (fun _ _ => rfl) rfl rfl <| apo 29 pf32 (.t rfl) rfl (.t rfl) rfl hx5 rfl <| u (nkp (.t rfl)) <| u (fa ff140_0 (.t rfl)) <| st tf32 (.t rfl) rfl (.t rfl) rfl rfl rfl <| .nil _) (by kernel_rfl) rfl ?_
      refine .rg (u (mv (.t rfl)) <| u (nkp (.t rfl)) <| u (fa ff140_1 (.t rfl)) <| u (ld tf3 (.t rfl) rfl rfl) <| u (mv (.t rfl)) <| u (bi (.t rfl) (.t rfl) rfl) <| u (nkp (.t rfl)) <| u (fa ff140_1 (.t rfl)) <| st tf3 (.t rfl) rfl (.t rfl) rfl rfl rfl <| .nil _) rfl ?_
      exact .ks (fun i => bif Nat.beq i 100100000 then 29 else i) (J2 (place_row.mk x5 (ar .add .i64 v2.at_ x3)) h) (.c rfl (.c rfl (.c rfl (.c rfl (.c rfl .n))))) (.c rfl (.c rfl .n)) rfl
    · refine .skp ?_
      exact .kq (J2 v2 h) (.c rfl (.c rfl (.c rfl (.c rfl (.c rfl .n))))) (.c rfl (.c rfl .n))
  · refine .xt rfl ?_
    replace h := mpR h hx1
    obtain rfl := Option.some.inj h
    refine .ks (l := [(0, .ptr 9000 0)]) (o := [(9000, some (.box [.own 9500, .ro (.int .i64 v2.at_)])), (9500, some (.arr 59 3 (List.map cells_Place v2.l)))]) (fun i => bif Nat.beq i 9500 then 100100000 else i) ?_ (.c rfl .n) (.c rfl (.c rfl .n)) rfl
    exact .rte (o := [(9000, some (.box [.own 9500, .ro (.int .i64 v2.at_)])), (9500, some (.arr 59 3 (List.map cells_Place v2.l)))]) Tryz.func87 (.n) (.c rfl (.c rfl .n)) rfl rfl (.c rfl .n) rfl

theorem place_Of_c {z : Option Nat} {b : List Int} {r : List Place × Int} (h : place_Of z b = some r) :
    AC Tryz.prog 49 [.ro (.list 1 (List.map e8 b))] (.tup [.own 0, .ro (.int .i64 r.2)]) [(0, .arr 59 3 (List.map cells_Place r.1))] := by
  refine AC.of Tryz.func49 rfl rfl fun w M0 hM => ?_
  unfold place_Of at h
  refine .sq ?_
  refine .rg (anm cells_Place 2 59 3 rfl rfl <| u (asg (.i rfl)) <| .nil _) rfl ?_
  refine .sq ?_
  refine be h fun x1 hx1 h => ?_
  refine .rg (u (mv (.t rfl)) <| cl [] cf15 (packet_Read_c hx1) (.c (.t rfl) <| .n) (.inl rfl) <| u (mv (.t rfl)) <| u (ex (.t rfl) rfl rfl) <| u (ex (.t rfl) rfl rfl) <| al 4 zf50 rfl <| st tf50 (.t rfl) rfl (.t rfl) rfl rfl rfl <| u (asg (.t rfl)) <| .nil _) rfl ?_
  refine .sq ?_
  refine .sq ?_
  refine .rg (u (mv (.t rfl)) <| u (bc (.t rfl) (.i rfl) rfl rfl) <| .nil _) rfl ?_
  refine .bq h (.t rfl) (fun h => ?_) (fun h => ?_)
  · refine .sq ?_
    refine .rg (u (mv (.t rfl)) <| anm cells_Place 100002 59 3 rfl rfl <| u (asg (.t rfl)) <| .nil _) rfl ?_
    obtain rfl := Option.some.inj h
    refine .ks (l := [(2, .own 0), (3, .ro (.int .i64 x1.2))]) (o := [(0, some (.arr 59 3 (List.map cells_Place [])))]) (fun i => bif Nat.beq i 0 then 100002 else i) ?_ (.c rfl (.c rfl .n)) (.c rfl .n) rfl
    exact .rt Tryz.func49 (.t rfl <| .t rfl <| .n) (.c rfl .n) rfl rfl
  · refine .skp ?_
    refine .sq ?_
    refine .rg (u (bd bf140 zf140_0 (.n) rfl) <| bx 18 (.t rfl) rfl rfl <| u (asg (.t rfl)) <| .nil _) rfl ?_
    refine .th (F := cells_Place) 18 0 701800 59 3 rfl rfl rfl ?_
    refine .sq ?_
    refine .sq ?_
    refine .rg (bs (F := (ei .i64)) (l := [1, 1, 2, 4, 4]) 19 pf26 (.c (.i rfl) rfl <| .c (.i rfl) rfl <| .c (.i rfl) rfl <| .c (.i rfl) rfl <| .c (.i rfl) rfl <| .n) rfl (fun _ _ => rfl) rfl rfl <| u (lom sf26 (.t rfl) rfl) <| u (mv (.i rfl)) <| .nil _) rfl ?_
    refine .bl ?_
    unfold place_Of_l1 at h
    refine .ks (fun i => bif Nat.beq i 10280000 then 701800 else i) (.lo (fun (s : Int × place_row) => ⟨[(4, .ptr 4 0), (6, .ptr 18 0), (19, .own 19), (20, .ro (.int .i64 ([1, 1, 2, 4, 4].length : Int))), (21, .ro (.int .i64 s.1))], [(4, some (.box [.ro (.bool x1.1.head.hasPad), .ro (.bool x1.1.head.hasExt), .ro (.bool x1.1.head.marker), .ro (.int .i64 x1.1.head.type), .ro (.int .u16 x1.1.head.seq), .ro (.int .u32 x1.1.head.time), .ro (.int .u32 x1.1.head.ssrc), .ro (.list 1 (List.map (ei .u32) x1.1.head.csrc)), .ro (.int .u16 x1.1.profile), .ro (.list 1 (List.map e8 x1.1.ext)), .ro (.list 1 (List.map e8 x1.1.payload)), .ro (.int .i64 x1.1.pad)])), (18, some (.box [.own 10280000, .ro (.int .i64 s.2.at_)])), (19, some (.arr 3 1 (List.map (ei .i64) [1, 1, 2, 4, 4]))), (10280000, some (.arr 59 3 (List.map cells_Place s.2.l)))]⟩) h ?_) (.c rfl (.c rfl (.c rfl (.c rfl (.c rfl .n))))) (.c rfl (.c rfl (.c rfl (.c rfl .n)))) rfl
    rintro ⟨v2, v3⟩ u1 h ih1 hx1
    replace h : place_Of_s1 z x1 v2 v3 = _ := h
    unfold place_Of_s1 at h
    refine .sq ?_
    refine .rg (u (bc (.t rfl) (.t rfl) rfl rfl) <| .nil _) rfl ?_
    refine .sq ?_
    refine .bq h (.t rfl) (fun h => ?_) (fun h => ?_)
    · refine .skp ?_
      refine .sq ?_
      refine .bl ?_
      refine .sq ?_
      refine be h fun x4 hx4 h => ?_
      refine .rg (u (mv (.t rfl)) <| u (io sf26 (.t rfl) rfl (.t rfl) (ix_map (ei .i64) hx4)) <| u (le tf3 (.t rfl) rfl (ix_lt (ix_map _ hx4)).2.2 rfl) <| u (asg (.t rfl)) <| u (asg (.t rfl)) <| .nil _) rfl ?_
      refine be h fun x5 hx5 h => ?_
      refine .rg (u (mv (.t rfl)) <| u (mv (.t rfl)) <| u (bi (.i rfl) (.t rfl) rfl) <| u (mv (.t rfl)) <| nu (bsn (F := (ei .i64)) (l := [x4]) pf26 (.c (.t rfl) rfl <| .n) rfl (fun _ _ => rfl) rfl) <| clo 32000000 cf87 (AW.lw (fun i => bif Nat.beq i 9100 then 10280000 else bif Nat.beq i 9000 then 18 else i) [9000] (place_row_add_y2_c hx5) rfl rfl rfl rfl rfl) (.c (.t rfl) <| .c (.t rfl) <| .c (.t rfl) <| .n) rfl (.c rfl <| .c rfl <| .n) rfl <| .nil _) rfl ?_
      refine .ib ?_
      refine .rg (u (bi (.t rfl) (.i rfl) rfl) <| u (mv (.t rfl)) <| .nil _) rfl ?_
      exact .ks (fun i => bif Nat.beq i 10280000 then 32009500 else i) (.il (ih1 ((ar .add .i64 v2 1), x5) (nxi h))) (.c rfl (.c rfl (.c rfl (.c rfl (.c rfl .n))))) (.c rfl (.c rfl (.c rfl (.c rfl .n)))) rfl
    · refine .xt rfl ?_
      replace h := mpR h hx1
      refine .sq ?_
      refine .bl ?_
      unfold place_Of_l2 at h
      refine .kq (.lo (fun (s : Packet × place_row) => ⟨[(4, .ptr 4 0), (6, .ptr 18 0)], [(4, some (.box [.ro (.bool s.1.head.hasPad), .ro (.bool s.1.head.hasExt), .ro (.bool s.1.head.marker), .ro (.int .i64 s.1.head.type), .ro (.int .u16 s.1.head.seq), .ro (.int .u32 s.1.head.time), .ro (.int .u32 s.1.head.ssrc), .ro (.list 1 (List.map (ei .u32) s.1.head.csrc)), .ro (.int .u16 s.1.profile), .ro (.list 1 (List.map e8 s.1.ext)), .ro (.list 1 (List.map e8 s.1.payload)), .ro (.int .i64 s.1.pad)])), (18, some (.box [.own 10280000, .ro (.int .i64 s.2.at_)])), (10280000, some (.arr 59 3 (List.map cells_Place s.2.l)))]⟩) h ?_) (.c rfl (.c rfl .n)) (.c rfl (.c rfl (.c rfl .n)))
      rintro ⟨v6, v7⟩ u2 h ih2 hx2
      replace h : place_Of_s2 z v6 v7 = _ := h
      unfold place_Of_s2 at h
      refine .sq ?_
      refine .sq ?_
      refine .rd mixed (u (mv (.t rfl)) <| u (nkp (.t rfl)) <| u (fa ff140_1 (.t rfl)) <| u (ld tf3 (.t rfl) rfl rfl) <| u (fa ff50_0 (.t rfl)) <| u (ld tf48 (.t rfl) rfl rfl) <| cl [] cf80 (head_Size_c v6.head) (.c (.t rfl) <| .n) (.inl rfl) <| u (bc (.t rfl) (.t rfl) rfl rfl) <| .nil _) (by kernel_rfl) rfl ?_
      refine .bq h (.t rfl) (fun h => ?_) (fun h => ?_)
      · refine .skp ?_
        refine .bl ?_
        refine be h fun x8 hx8 h => ?_
        refine .rg (u (mv (.t rfl)) <| nu (bsn (F := (ei .i64)) (l := [4]) pf26 (.c (.i rfl) rfl <| .n) rfl (fun _ _ => rfl) rfl) <| clo 44000000 cf87 (AW.lw (fun i => bif Nat.beq i 9100 then 10280000 else bif Nat.beq i 9000 then 18 else i) [9000] (place_row_add_y2_c hx8) rfl rfl rfl rfl rfl) (.c (.t rfl) <| .c (.i rfl) <| .c (.t rfl) <| .n) rfl (.c rfl <| .c rfl <| .n) rfl <| .nil _) rfl ?_
        refine .ib ?_
        exact .ks (fun i => bif Nat.beq i 10280000 then 44009500 else i) (.il (ih2 (v6, x8) (nxi h))) (.c rfl (.c rfl .n)) (.c rfl (.c rfl (.c rfl .n))) rfl
      · refine .xt rfl ?_
        replace h := mpR h hx2
        refine .sq ?_
        refine .sq ?_
        refine .rg (u (fa ff50_0 (.t rfl)) <| u (fa ff48_1 (.t rfl)) <| u (ld tf4 (.t rfl) rfl rfl) <| .nil _) rfl ?_
        refine .jq (t := some r) (fun (a : place_row) => ⟨[(4, .ptr 4 0), (6, .ptr 18 0)], [(4, some (.box [.ro (.bool v6.head.hasPad), .ro (.bool v6.head.hasExt), .ro (.bool v6.head.marker), .ro (.int .i64 v6.head.type), .ro (.int .u16 v6.head.seq), .ro (.int .u32 v6.head.time), .ro (.int .u32 v6.head.ssrc), .ro (.list 1 (List.map (ei .u32) v6.head.csrc)), .ro (.int .u16 v6.profile), .ro (.list 1 (List.map e8 v6.ext)), .ro (.list 1 (List.map e8 v6.payload)), .ro (.int .i64 v6.pad)])), (18, some (.box [.own 10280000, .ro (.int .i64 a.at_)])), (10280000, some (.arr 59 3 (List.map cells_Place a.l)))]⟩) (fun (a : place_row) => place_Of_j3 z v6 a) ?_ (fun J3 => ?_)
        · intro v9 h
          replace h : place_Of_j3 z v6 v9 = _ := h
          unfold place_Of_j3 at h
          refine .sq ?_
          refine be h fun x10 hx10 h => ?_
          refine .rg (u (mv (.t rfl)) <| u (fa ff50_3 (.t rfl)) <| u (ld tf29 (.t rfl) rfl rfl) <| u (lnm sf29 (.t rfl)) <| nu (bsn (F := (ei .i64)) (l := [(v6.payload.length : Int)]) pf26 (.c (.t rfl) rfl <| .n) rfl (fun _ _ => rfl) rfl) <| clo 65000000 cf87 (AW.lw (fun i => bif Nat.beq i 9100 then 10280000 else bif Nat.beq i 9000 then 18 else i) [9000] (place_row_add_y2_c hx10) rfl rfl rfl rfl rfl) (.c (.t rfl) <| .c (.i rfl) <| .c (.t rfl) <| .n) rfl (.c rfl <| .c rfl <| .n) rfl <| .nil _) rfl ?_
          refine .sq ?_
          refine be h fun x11 hx11 h => ?_
          refine .rg (u (mv (.t rfl)) <| u (fa ff50_4 (.t rfl)) <| u (ld tf3 (.t rfl) rfl rfl) <| u (bi (.t rfl) (.i rfl) rfl) <| nu (bsn (F := (ei .i64)) (l := [(ar .sub .i64 v6.pad 1)]) pf26 (.c (.t rfl) rfl <| .n) rfl (fun _ _ => rfl) rfl) <| clo 71000000 cf87 (AW.lw (fun i => bif Nat.beq i 9100 then 65009500 else bif Nat.beq i 9000 then 18 else i) [9000] (place_row_add_y2_c hx11) rfl rfl rfl rfl rfl) (.c (.t rfl) <| .c (.i rfl) <| .c (.t rfl) <| .n) rfl (.c rfl <| .c rfl <| .n) rfl <| .nil _) rfl ?_
          refine .sq ?_
          refine be h fun x12 hx12 h => ?_
          refine .rg (u (mv (.t rfl)) <| u (fa ff50_4 (.t rfl)) <| u (ld tf3 (.t rfl) rfl rfl) <| u (mn (.t rfl) (.i rfl)) <| nu (bsn (F := (ei .i64)) (l := [(imin v6.pad 1)]) pf26 (.c (.t rfl) rfl <| .n) rfl (fun _ _ => rfl) rfl) <| clo 77000000 cf87 (AW.lw (fun i => bif Nat.beq i 9100 then 71009500 else bif Nat.beq i 9000 then 18 else i) [9000] (place_row_add_y2_c hx12) rfl rfl rfl rfl rfl) (.c (.t rfl) <| .c (.i rfl) <| .c (.t rfl) <| .n) rfl (.c rfl <| .c rfl <| .n) rfl <| .nil _) rfl ?_
          refine .sq ?_
          refine .rg (u (mv (.t rfl)) <| u (nkp (.t rfl)) <| u (fa ff140_0 (.t rfl)) <| u (ld tf32 (.t rfl) rfl rfl) <| u (asg (.t rfl)) <| u (asg (.i rfl)) <| .nil _) rfl ?_
          obtain rfl := Option.some.inj h
          refine .ks (l := [(2, .own 0), (3, .ro (.int .i64 0))]) (o := [(0, some (.arr 59 3 (List.map cells_Place x12.l)))]) (fun i => bif Nat.beq i 0 then 77009500 else i) ?_ (.c rfl (.c rfl .n)) (.c rfl .n) rfl
          exact .rt Tryz.func49 (.t rfl <| .t rfl <| .n) (.c rfl .n) rfl rfl
        refine .bq h (.t rfl) (fun h => ?_) (fun h => ?_)
        · refine .sq ?_
          refine be h fun x13 hx13 h => ?_
          refine .rg (u (mv (.t rfl)) <| nu (bsn (F := (ei .i64)) (l := [2]) pf26 (.c (.i rfl) rfl <| .n) rfl (fun _ _ => rfl) rfl) <| clo 50000000 cf87 (AW.lw (fun i => bif Nat.beq i 9100 then 10280000 else bif Nat.beq i 9000 then 18 else i) [9000] (place_row_add_y2_c hx13) rfl rfl rfl rfl rfl) (.c (.t rfl) <| .c (.i rfl) <| .c (.t rfl) <| .n) rfl (.c rfl <| .c rfl <| .n) rfl <| .nil _) rfl ?_
          refine .sq ?_
          refine be h fun x14 hx14 h => ?_
          refine .rg (u (mv (.t rfl)) <| nu (bsn (F := (ei .i64)) (l := [2]) pf26 (.c (.i rfl) rfl <| .n) rfl (fun _ _ => rfl) rfl) <| clo 53000000 cf87 (AW.lw (fun i => bif Nat.beq i 9100 then 50009500 else bif Nat.beq i 9000 then 18 else i) [9000] (place_row_add_y2_c hx14) rfl rfl rfl rfl rfl) (.c (.t rfl) <| .c (.i rfl) <| .c (.t rfl) <| .n) rfl (.c rfl <| .c rfl <| .n) rfl <| .nil _) rfl ?_
          refine be h fun x15 hx15 h => ?_
          refine .rg (u (mv (.t rfl)) <| u (fa ff50_2 (.t rfl)) <| u (ld tf29 (.t rfl) rfl rfl) <| u (lnm sf29 (.t rfl)) <| nu (bsn (F := (ei .i64)) (l := [(v6.ext.length : Int)]) pf26 (.c (.t rfl) rfl <| .n) rfl (fun _ _ => rfl) rfl) <| clo 59000000 cf87 (AW.lw (fun i => bif Nat.beq i 9100 then 53009500 else bif Nat.beq i 9000 then 18 else i) [9000] (place_row_add_y2_c hx15) rfl rfl rfl rfl rfl) (.c (.t rfl) <| .c (.i rfl) <| .c (.t rfl) <| .n) rfl (.c rfl <| .c rfl <| .n) rfl <| .nil _) rfl ?_
          exact .ks (fun i => bif Nat.beq i 10280000 then 59009500 else i) (J3 x15 h) (.c rfl (.c rfl .n)) (.c rfl (.c rfl (.c rfl .n))) rfl
        · refine .skp ?_
          exact .kq (J3 v7 h) (.c rfl (.c rfl .n)) (.c rfl (.c rfl (.c rfl .n)))

theorem place_Of_r {z : Option Nat} {b : List Int} {r : List Place × Int} (h : place_Of z b = some r) :
    AC Tryz.prog 49 [.ro (.list 1 (List.map e8 b))] (.ro (.tup [.list 3 (List.map cells_Place r.1), .int .i64 r.2])) [] := AC.fz (place_Of_c h) rfl

theorem stay_kind_1_c {old : List Int} {cap0 : Plan} {r : List Int} (h : stay_kind_1 old cap0 = some r) :
    AC Tryz.prog 89 [.ro (.list 1 (List.map e8 old)), .rptr [.bool cap0.setMarker, .bool cap0.marker, .bool cap0.setType, .int .i64 cap0.type, .bool cap0.setSeq, .int .u16 cap0.seq, .bool cap0.setTime, .int .u32 cap0.time, .bool cap0.setSsrc, .int .u32 cap0.ssrc, .list 2 (List.map cells_GMap cap0.maps), .list 2 (List.map cells_Elem cap0.over), .list 1 (List.map (ei .i64) cap0.drops), .list 2 (List.map cells_Elem cap0.adds), .bool cap0.noPad]] (.own 0) [(0, .arr 5 1 (List.map e8 r))] := by
  refine AC.of Tryz.func89 rfl rfl fun w M0 hM => ?_
  unfold stay_kind_1 at h
  refine .sq ?_
  refine .rg (anm e8 3 5 1 rfl rfl <| .nil _) rfl ?_
  refine .sq ?_
  refine be h fun x1 hx1 h => ?_
  refine .rg (u (mv (.t rfl)) <| u (ia sf29 (.t rfl) (.i rfl) (ix_map e8 hx1)) <| u (lr tf5 (.t rfl) rfl) <| u (asg (.t rfl)) <| .nil _) rfl ?_
  refine .sq ?_
  refine .sq ?_
  refine .rg (u (fr ff28_2 (.t rfl) rfl) <| u (lr tf4 (.t rfl) rfl) <| .nil _) rfl ?_
  refine .jq (t := some r) (fun (a : Int) => ⟨[(1, .rptr [.bool cap0.setMarker, .bool cap0.marker, .bool cap0.setType, .int .i64 cap0.type, .bool cap0.setSeq, .int .u16 cap0.seq, .bool cap0.setTime, .int .u32 cap0.time, .bool cap0.setSsrc, .int .u32 cap0.ssrc, .list 2 (List.map cells_GMap cap0.maps), .list 2 (List.map cells_Elem cap0.over), .list 1 (List.map (ei .i64) cap0.drops), .list 2 (List.map cells_Elem cap0.adds), .bool cap0.noPad]), (4, .ro (.int .u8 a))], []⟩) (fun (a : Int) => stay_kind_1_j1 cap0 a) ?_ (fun J1 => ?_)
  · intro v2 h
    replace h : stay_kind_1_j1 cap0 v2 = _ := h
    unfold stay_kind_1_j1 at h
    refine .sq ?_
    refine .sq ?_
    refine .rg (u (fr ff28_0 (.t rfl) rfl) <| u (lr tf4 (.t rfl) rfl) <| .nil _) rfl ?_
    refine .jq (t := some r) (fun (a : Int) => ⟨[(1, .rptr [.bool cap0.setMarker, .bool cap0.marker, .bool cap0.setType, .int .i64 cap0.type, .bool cap0.setSeq, .int .u16 cap0.seq, .bool cap0.setTime, .int .u32 cap0.time, .bool cap0.setSsrc, .int .u32 cap0.ssrc, .list 2 (List.map cells_GMap cap0.maps), .list 2 (List.map cells_Elem cap0.over), .list 1 (List.map (ei .i64) cap0.drops), .list 2 (List.map cells_Elem cap0.adds), .bool cap0.noPad]), (4, .ro (.int .u8 a))], []⟩) (fun (a : Int) => stay_kind_1_j2 cap0 a) ?_ (fun J2 => ?_)
    · intro v3 h
      replace h : stay_kind_1_j2 cap0 v3 = _ := h
      unfold stay_kind_1_j2 at h
      refine .sq ?_
      refine .sq ?_
      refine .rg (u (fr ff28_0 (.t rfl) rfl) <| u (lr tf4 (.t rfl) rfl) <| u (mv (.t rfl)) <| gd rfl rfl (fun hB => fr ff28_1 (.t rfl) rfl) <| gd rfl rfl (fun hB => lr tf4 (.m rfl hB) rfl) <| u (pka (.t rfl) (.t rfl)) <| .nil _) rfl ?_
      refine .jq (t := some r) (fun (a : Int) => ⟨[(4, .ro (.int .u8 a))], []⟩) (fun (a : Int) => stay_kind_1_j3 a) ?_ (fun J3 => ?_)
      · intro v4 h
        replace h : stay_kind_1_j3 v4 = _ := h
        unfold stay_kind_1_j3 at h
        refine .sq ?_
        refine .rg (u (mv (.t rfl)) <| bs (F := e8) (l := [v4]) 29 pf29 (.c (.t rfl) rfl <| .n) rfl (fun _ _ => rfl) rfl rfl <| u (asg (.t rfl)) <| .nil _) rfl ?_
        obtain rfl := Option.some.inj h
        refine .ks (l := [(3, .own 0)]) (o := [(0, some (.arr 5 1 (List.map e8 [v4])))]) (fun i => bif Nat.beq i 0 then 29 else i) ?_ (.c rfl .n) (.c rfl .n) rfl
        exact .rt Tryz.func89 (.t rfl <| .n) (.c rfl .n) rfl rfl
      refine .bq h (.t rfl) (fun h => ?_) (fun h => ?_)
      · refine .rg (u (mv (.t rfl)) <| u (bi (.t rfl) (.i rfl) rfl) <| u (asg (.t rfl)) <| .nil _) rfl ?_
        exact .kq (J3 (ar .or .u8 v3 128) h) (.c rfl .n) .n
      · refine .skp ?_
        exact .kq (J3 v3 h) (.c rfl .n) .n
    refine .bq h (.t rfl) (fun h => ?_) (fun h => ?_)
    · refine .rg (u (mv (.t rfl)) <| u (bi (.t rfl) (.i rfl) rfl) <| u (asg (.t rfl)) <| .nil _) rfl ?_
      exact .kq (J2 (ar .and .u8 v2 127) h) (.c rfl (.c rfl .n)) .n
    · refine .skp ?_
      exact .kq (J2 v2 h) (.c rfl (.c rfl .n)) .n
  refine .bq h (.t rfl) (fun h => ?_) (fun h => ?_)
  · refine .rg (u (mv (.t rfl)) <| u (bi (.t rfl) (.i rfl) rfl) <| u (fr ff28_3 (.t rfl) rfl) <| u (lr tf3 (.t rfl) rfl) <| u (cv cv3_5 (.t rfl)) <| u (bi (.t rfl) (.t rfl) rfl) <| u (asg (.t rfl)) <| .nil _) rfl ?_
    exact .kq (J1 (ar .or .u8 (ar .and .u8 x1 128) (IntKind.u8.wrap cap0.type)) h) (.c rfl (.c rfl .n)) .n
  · refine .skp ?_
    exact .kq (J1 x1 h) (.c rfl (.c rfl .n)) .n

theorem stay_kind_1_r {old : List Int} {cap0 : Plan} {r : List Int} (h : stay_kind_1 old cap0 = some r) :
    AC Tryz.prog 89 [.ro (.list 1 (List.map e8 old)), .rptr [.bool cap0.setMarker, .bool cap0.marker, .bool cap0.setType, .int .i64 cap0.type, .bool cap0.setSeq, .int .u16 cap0.seq, .bool cap0.setTime, .int .u32 cap0.time, .bool cap0.setSsrc, .int .u32 cap0.ssrc, .list 2 (List.map cells_GMap cap0.maps), .list 2 (List.map cells_Elem cap0.over), .list 1 (List.map (ei .i64) cap0.drops), .list 2 (List.map cells_Elem cap0.adds), .bool cap0.noPad]] (.ro (.list 1 (List.map e8 r))) [] := AC.fz (stay_kind_1_c h) rfl

theorem stay_kind_c (p : Plan) :
    AC Tryz.prog 51 [.ro (enc_Plan p)] (.fn (.func 89) [] [.rptr [.bool ((stay_kind p).setMarker), .bool ((stay_kind p).marker), .bool ((stay_kind p).setType), .int .i64 ((stay_kind p).type), .bool ((stay_kind p).setSeq), .int .u16 ((stay_kind p).seq), .bool ((stay_kind p).setTime), .int .u32 ((stay_kind p).time), .bool ((stay_kind p).setSsrc), .int .u32 ((stay_kind p).ssrc), .list 2 (List.map cells_GMap ((stay_kind p).maps)), .list 2 (List.map cells_Elem ((stay_kind p).over)), .list 1 (List.map (ei .i64) ((stay_kind p).drops)), .list 2 (List.map cells_Elem ((stay_kind p).adds)), .bool ((stay_kind p).noPad)]]) [] := by
  obtain ⟨r, h⟩ : ∃ r, stay_kind p = r := ⟨_, rfl⟩
  rw [h]
  refine AC.of Tryz.func51 rfl rfl fun w M0 hM => ?_
  unfold stay_kind at h
  refine .sq ?_
  refine .rg (bx 1 (.t rfl) rfl rfl <| u (asg (.r rfl)) <| .nil _) rfl ?_
  refine .fb 1 rfl rfl ?_
  refine .sq ?_
  refine .rg (u (mfn (.c (.t rfl) <| .n)) <| u (asg (.t rfl)) <| .nil _) rfl ?_
  subst h
  exact .rt Tryz.func51 (.t rfl <| .n) .n rfl rfl

theorem place_Find_c {z : Option Nat} {l : List Place} {field : Int} {nth : Int} {r : Place × Int} (h : place_Find z l field nth = some r) :
    AC Tryz.prog 88 [.ro (.list 3 (List.map cells_Place l)), .ro (.int .i64 field), .ro (.int .i64 nth)] (.ro (.tup [enc_Place r.1, .int .i64 r.2])) [] := by
  refine AC.of Tryz.func88 rfl rfl fun w M0 hM => ?_
  unfold place_Find at h
  refine .sq ?_
  refine .rg (al 6 zf59 rfl <| u (asg (.i rfl)) <| .nil _) rfl ?_
  refine .sq ?_
  refine .sq ?_
  refine .rg (u (mv (.t rfl)) <| u (lnm sf32 (.t rfl)) <| u (mv (.i rfl)) <| .nil _) rfl ?_
  refine .bl ?_
  unfold place_Find_l1 at h
  refine .kq (.lo (fun (s : Int × Int × Place) => ⟨[(1, .ro (.int .i64 field)), (2, .ro (.int .i64 s.1)), (6, .ptr 6 0), (10, .ro (.list 3 (List.map cells_Place l))), (11, .ro (.int .i64 (l.length : Int))), (12, .ro (.int .i64 s.2.1))], [(6, some (.box [.ro (.int .i64 s.2.2.field), .ro (.int .i64 s.2.2.at_), .ro (.int .i64 s.2.2.size)]))]⟩) h ?_) (.c rfl (.c rfl (.c rfl (.c rfl (.c rfl (.c rfl .n)))))) (.c rfl .n)
  rintro ⟨v1, v2, v3⟩ u1 h ih1 hx1
  replace h : place_Find_s1 z l field v1 v2 v3 = _ := h
  unfold place_Find_s1 at h
  refine .sq ?_
  refine .rg (u (bc (.t rfl) (.t rfl) rfl rfl) <| .nil _) rfl ?_
  refine .sq ?_
  refine .bq h (.t rfl) (fun h => ?_) (fun h => ?_)
  · refine .skp ?_
    refine .sq ?_
    refine .jq (t := some u1) (fun (a : Int × Place) => ⟨[(1, .ro (.int .i64 field)), (2, .ro (.int .i64 a.1)), (6, .ptr 6 0), (10, .ro (.list 3 (List.map cells_Place l))), (11, .ro (.int .i64 (l.length : Int))), (12, .ro (.int .i64 v2))], [(6, some (.box [.ro (.int .i64 a.2.field), .ro (.int .i64 a.2.at_), .ro (.int .i64 a.2.size)]))]⟩) (fun (a : Int × Place) => place_Find_j2 z v2 a.1 a.2) ?_ (fun J2 => ?_)
    · rintro ⟨v4, v5⟩ h
      replace h : place_Find_j2 z v2 v4 v5 = _ := h
      unfold place_Find_j2 at h
      refine .rg (u (bi (.t rfl) (.i rfl) rfl) <| u (mv (.t rfl)) <| .nil _) rfl ?_
      exact .kq (.il (ih1 (v4, (ar .add .i64 v2 1), v5) (nxi h))) (.c rfl (.c rfl (.c rfl (.c rfl (.c rfl (.c rfl .n)))))) (.c rfl .n)
    refine .bl ?_
    refine .sq ?_
    refine be h fun x6 hx6 h => ?_
    refine .rg (u (ia sf32 (.t rfl) (.t rfl) (ix_map cells_Place hx6)) <| u (lr tf59 (.t rfl) rfl) <| al 9 zf59 rfl <| st tf59 (.t rfl) rfl (.t rfl) rfl rfl rfl <| .nil _) rfl ?_
    refine .sq ?_
    refine .sq ?_
    refine .rg (u (fa ff59_0 (.t rfl)) <| u (ld tf3 (.t rfl) rfl rfl) <| u (mv (.t rfl)) <| u (bc (.t rfl) (.t rfl) rfl rfl) <| .nil _) rfl ?_
    refine .bq h (.t rfl) (fun h => ?_) (fun h => ?_)
    · refine .xt rfl ?_
      exact .kq (J2 (v1, v3) h) (.c rfl (.c rfl (.c rfl (.c rfl (.c rfl (.c rfl .n)))))) (.c rfl .n)
    · refine .skp ?_
      refine .sq ?_
      refine .sq ?_
      refine .rg (u (mv (.t rfl)) <| u (bc (.t rfl) (.i rfl) rfl rfl) <| .nil _) rfl ?_
      refine .bq h (.t rfl) (fun h => ?_) (fun h => ?_)
      · refine .sq ?_
        refine .rg (u (ld tf59 (.t rfl) rfl rfl) <| st tf59 (.t rfl) rfl (.t rfl) rfl rfl rfl <| u (asg (.i rfl)) <| .nil _) rfl ?_
        replace h := mpR h hx1
        obtain rfl := Option.some.inj h
        exact .rt Tryz.func88 (.c tf59 rfl rfl rfl <| .t rfl <| .n) .n rfl rfl
      · refine .skp ?_
        refine .rg (u (mv (.t rfl)) <| u (bi (.t rfl) (.i rfl) rfl) <| u (asg (.t rfl)) <| .nil _) rfl ?_
        refine .ib ?_
        exact .kq (J2 ((ar .sub .i64 v1 1), v3) h) (.c rfl (.c rfl (.c rfl (.c rfl (.c rfl (.c rfl .n)))))) (.c rfl .n)
  · refine .xt rfl ?_
    replace h := mpR h hx1
    refine .sq ?_
    refine .rg (u (bd bf59 zf59 (.n) rfl) <| st tf59 (.t rfl) rfl (.t rfl) rfl rfl rfl <| u (asg (.i rfl)) <| .nil _) rfl ?_
    obtain rfl := Option.some.inj h
    exact .rt Tryz.func88 (.c tf59 rfl rfl rfl <| .t rfl <| .n) .n rfl rfl

theorem octet_Put_c {v : Int} {n : Int} {r : List Int × Int} (h : octet_Put v n = some r) :
    AC Tryz.prog 46 [.ro (.int .u64 v), .ro (.int .i64 n)] (.tup [.own 0, .ro (.int .i64 r.2)]) [(0, .arr 5 1 (List.map e8 r.1))] := by
  refine AC.of Tryz.func46 rfl rfl fun w M0 hM => ?_
  unfold octet_Put at h
  refine .sq ?_
  refine .rg (bx 2 (.t rfl) rfl rfl <| anm e8 4 5 1 rfl rfl <| u (asg (.i rfl)) <| .nil _) rfl ?_
  refine .sq ?_
  refine .bl ?_
  refine .sq ?_
  refine .rg (u (mv (.t rfl)) <| cl [] cf83 (octet_sized_c n) (.c (.t rfl) <| .n) (.inl rfl) <| u (no (.t rfl)) <| u (asg (.t rfl)) <| .nil _) rfl ?_
  refine .bq h (.t rfl) (fun h => ?_) (fun h => ?_)
  · refine .sq ?_
    refine .rg (anm e8 100004 5 1 rfl rfl <| u (asg (.i rfl)) <| .nil _) rfl ?_
    obtain rfl := Option.some.inj h
    refine .ks (l := [(4, .own 0), (5, .ro (.int .i64 1))]) (o := [(0, some (.arr 5 1 (List.map e8 [])))]) (fun i => bif Nat.beq i 0 then 100004 else i) ?_ (.c rfl (.c rfl .n)) (.c rfl .n) rfl
    exact .rt Tryz.func46 (.t rfl <| .t rfl <| .n) (.c rfl .n) rfl rfl
  · refine .sq ?_
    refine be h fun x1 hx1 h => ?_
    refine .rg (u (mv (.t rfl)) <| u (bc (.t rfl) (.i rfl) rfl rfl) <| u (mv (.t rfl)) <| gd rfl rfl (fun hB => ld tf85 (.t rfl) rfl rfl) <| gd rfl rfl (fun hB => mv (.t rfl)) <| gd rfl rfl (fun hB => bi (.i rfl) (.m rfl hB) rfl) <| gd rfl rfl (fun hB => sho (.m rfl hB) (.m rfl hB) rfl (gTt hx1 hB)) <| gd rfl rfl (fun hB => bc (.m rfl hB) (.i rfl) rfl rfl) <| u (pka (.t rfl) (.t rfl)) <| u (asg (.t rfl)) <| .nil _) rfl ?_
    refine .bq h (.t rfl) (fun h => ?_) (fun h => ?_)
    · refine .sq ?_
      refine .rg (anm e8 100004 5 1 rfl rfl <| u (asg (.i rfl)) <| .nil _) rfl ?_
      obtain rfl := Option.some.inj h
      refine .ks (l := [(4, .own 0), (5, .ro (.int .i64 6))]) (o := [(0, some (.arr 5 1 (List.map e8 [])))]) (fun i => bif Nat.beq i 0 then 100004 else i) ?_ (.c rfl (.c rfl .n)) (.c rfl .n) rfl
      exact .rt Tryz.func46 (.t rfl <| .t rfl <| .n) (.c rfl .n) rfl rfl
    · refine .skp ?_
      refine .ib ?_
      refine .sq ?_
      refine be h fun x2 hx2 h => ?_
      refine .rg (u (mv (.t rfl)) <| mks (F := e8) (z0 := 0) 23 pf29 zf5 (.t rfl) (.t rfl) hx2 rfl <| al 6 zf29_0 rfl <| st tf29 (.t rfl) rfl (.t rfl) rfl rfl rfl <| .nil _) rfl ?_
      refine .sq ?_
      refine .sq ?_
      refine .rg (u (ld tf29 (.t rfl) rfl rfl) <| bwk 25 cf84 back84_in (.t rfl) rfl rfl rfl <| .nil _) rfl ?_
      refine .bl ?_
      refine be h fun x3 hx3 h => ?_
      unfold octet_Put_l1 at h
      refine .kq (.rgb (fun (s : Int × List Int) => ⟨[(2, .ptr 2 0), (6, .ptr 6 0), (25, .fn (.func 128) [] [.ptr 25 0])], [(2, some (.box [.ro (.int .u64 s.1)])), (6, some (.box [.own 23])), (23, some (.arr 5 1 (List.map e8 s.2))), (25, some (.box [.own 23]))]⟩) (fun (s : Int × List Int) => s.2) [2, 6, 25] back128_in cf128 h rfl (Nat.le_trans (lnO_le hx3) (by decide)) (by rintro y1 ⟨v4, v5⟩ s2 h; replace h : octet_Put_s1 y1 v4 v5 = _ := h; unfold octet_Put_s1 at h; refine be h fun _ _ h => ?_; cases h; simp) (fun _ => rfl) (fun _ => rfl) (fun _ => rfl) (fun _ => rfl) rfl ⟨rfl, rfl⟩ ?_ ?_) (.c rfl (.c rfl (.c rfl .n))) (.c rfl (.c rfl (.c rfl (.c rfl .n))))
      · rintro D1 l1 r1 pv1 R1 y1 ⟨v4, v5⟩ u1 h hin ih1 hx1 jr1 jx1 bg1
        replace h : octet_Put_s1 y1 v4 v5 = _ := h
        unfold octet_Put_s1 at h
        refine .rg (u (asg (.t rfl)) <| .nil _) rfl ?_
        refine bg1 _ _ ?_
        refine .bl ?_
        refine .sq ?_
        refine be h fun x6 hx6 h => ?_
        refine .rg (u (ld tf29 (.t rfl) rfl rfl) <| u (mv (.t rfl)) <| u (ld tf85 (.t rfl) rfl rfl) <| u (cv cv85_5 (.t rfl)) <| u (io sf29 (.t rfl) rfl (.t rfl) (ix_map e8 hx6)) <| se (q := (IntKind.u8.wrap v4)) tf5 (.t rfl) rfl (.t rfl) rfl rfl rfl (ixn hx6) <| .nil _) rfl ?_
        refine .rg (u (ld tf85 (.t rfl) rfl rfl) <| u (sh (.t rfl) (.i rfl) rfl (by decide)) <| st tf85 (.t rfl) rfl (.t rfl) rfl rfl rfl <| .nil _) rfl ?_
        refine .ib ?_
        exact .kq (ih1 ((sf .shr .u64 v4 8), (List.set v5 ((y1 : Int) : Int).toNat (IntKind.u8.wrap v4))) (nxi h)) (.c rfl (.c rfl (.c rfl .n))) (.c rfl (.c rfl (.c rfl (.c rfl .n))))
      · rintro D1 ⟨v4, v5⟩ h
        replace h : octet_Put_d1 v4 v5 = _ := h
        unfold octet_Put_d1 at h
        refine .ib ?_
        refine .sq ?_
        refine .rg (u (ld tf29 (.t rfl) rfl rfl) <| u (asg (.t rfl)) <| u (asg (.i rfl)) <| .nil _) rfl ?_
        obtain rfl := Option.some.inj h
        refine .ks (l := [(4, .own 0), (5, .ro (.int .i64 0))]) (o := [(0, some (.arr 5 1 (List.map e8 v5)))]) (fun i => bif Nat.beq i 0 then 23 else i) ?_ (.c rfl (.c rfl .n)) (.c rfl .n) rfl
        exact .rt Tryz.func46 (.t rfl <| .t rfl <| .n) (.c rfl .n) rfl rfl

theorem octet_Put_r {v : Int} {n : Int} {r : List Int × Int} (h : octet_Put v n = some r) :
    AC Tryz.prog 46 [.ro (.int .u64 v), .ro (.int .i64 n)] (.ro (.tup [.list 1 (List.map e8 r.1), .int .i64 r.2])) [] := AC.fz (octet_Put_c h) rfl

theorem stay_number_1_c {old : List Int} {cap0 : Int} {r : List Int} (h : stay_number_1 old cap0 = some r) :
    AC Tryz.prog 90 [.ro (.list 1 (List.map e8 old)), .rptr [.int .u64 cap0]] (.own 0) [(0, .arr 5 1 (List.map e8 r))] := by
  refine AC.of Tryz.func90 rfl rfl fun w M0 hM => ?_
  unfold stay_number_1 at h
  refine .sq ?_
  refine .rg (anm e8 3 5 1 rfl rfl <| .nil _) rfl ?_
  refine .sq ?_
  refine be h fun x1 hx1 h => ?_
  refine .rg (u (lr tf85 (.t rfl) rfl) <| u (mv (.t rfl)) <| u (lnm sf29 (.t rfl)) <| cnf 11000 cf46 (octet_Put_c hx1) (.c (.t rfl) <| .c (.t rfl) <| .n) rfl rfl rfl <| u (mv (.t rfl)) <| u (ex (.t rfl) rfl rfl) <| u (ex (.t rfl) rfl rfl) <| u (asg (.t rfl)) <| u (asg (.t rfl)) <| .nil _) rfl ?_
  refine .sq ?_
  refine .rg (u (mv (.t rfl)) <| u (asg (.t rfl)) <| .nil _) rfl ?_
  obtain rfl := Option.some.inj h
  refine .ks (l := [(3, .own 0)]) (o := [(0, some (.arr 5 1 (List.map e8 x1.1)))]) (fun i => bif Nat.beq i 0 then 11000 else i) ?_ (.c rfl .n) (.c rfl .n) rfl
  exact .rt Tryz.func90 (.t rfl <| .n) (.c rfl .n) rfl rfl

theorem stay_number_1_r {old : List Int} {cap0 : Int} {r : List Int} (h : stay_number_1 old cap0 = some r) :
    AC Tryz.prog 90 [.ro (.list 1 (List.map e8 old)), .rptr [.int .u64 cap0]] (.ro (.list 1 (List.map e8 r))) [] := AC.fz (stay_number_1_c h) rfl

theorem stay_number_c (n : Int) :
    AC Tryz.prog 52 [.ro (.int .u64 n)] (.fn (.func 90) [] [.rptr [.int .u64 (stay_number n)]]) [] := by
  obtain ⟨r, h⟩ : ∃ r, stay_number n = r := ⟨_, rfl⟩
  rw [h]
  refine AC.of Tryz.func52 rfl rfl fun w M0 hM => ?_
  unfold stay_number at h
  refine .sq ?_
  refine .rg (bx 1 (.t rfl) rfl rfl <| u (asg (.r rfl)) <| .nil _) rfl ?_
  refine .fb 1 rfl rfl ?_
  refine .sq ?_
  refine .rg (u (mfn (.c (.t rfl) <| .n)) <| u (asg (.t rfl)) <| .nil _) rfl ?_
  subst h
  exact .rt Tryz.func52 (.t rfl <| .n) .n rfl rfl

theorem stay_sheet_elements_1_c (m : GMap) (cap0 : Spot) :
    AC Tryz.prog 93 [.ro (enc_GMap m), .rptr [.int .i64 cap0.id_, .int .i64 cap0.at_, .int .i64 cap0.size]] (.ro (.bool (stay_sheet_elements_1 m cap0))) [] := by
  obtain ⟨r, h⟩ : ∃ r, stay_sheet_elements_1 m cap0 = r := ⟨_, rfl⟩
  rw [h]
  refine AC.of Tryz.func93 rfl rfl fun w M0 hM => ?_
  unfold stay_sheet_elements_1 at h
  refine .sq ?_
  refine .rg (bx 2 (.t rfl) rfl rfl <| u (asg .b) <| .nil _) rfl ?_
  refine .sq ?_
  refine .rg (u (fa ff64_0 (.t rfl)) <| u (ld tf3 (.t rfl) rfl rfl) <| u (fr ff79_0 (.t rfl) rfl) <| u (lr tf3 (.t rfl) rfl) <| u (bc (.t rfl) (.t rfl) rfl rfl) <| u (asg (.t rfl)) <| .nil _) rfl ?_
  subst h
  exact .rt Tryz.func93 (.t rfl <| .n) .n rfl rfl

theorem slices_IndexFunc_Map_c {z : Option Nat} {p_s : List GMap} {f : (GMap → Option Bool)} {g_f : FuncId} {c_f : List V} (hF_f : CF Tryz.prog g_f) (h_f : ∀ (a0 : GMap) (q : Bool), f a0 = some q → AC Tryz.prog g_f ([.ro (enc_GMap a0)] ++ c_f) (.ro (.bool q)) []) {r : Int} (h : slices_IndexFunc_Map z p_s f = some r) :
    AC Tryz.prog 92 [.ro (.list 2 (List.map cells_GMap p_s)), .fn (.func g_f) [] c_f] (.ro (.int .i64 r)) [] := by
  refine AC.of Tryz.func92 rfl rfl fun w M0 hM => ?_
  unfold slices_IndexFunc_Map at h
  refine .sq ?_
  refine .rg (u (asg (.i rfl)) <| .nil _) rfl ?_
  refine .sq ?_
  refine .sq ?_
  refine .rg (u (mv (.t rfl)) <| u (lnm sf24 (.t rfl)) <| u (mv (.i rfl)) <| .nil _) rfl ?_
  refine .bl ?_
  unfold slices_IndexFunc_Map_l1 at h
  refine .kq (.lo (fun (s : Int) => ⟨[(0, .ro (.list 2 (List.map cells_GMap p_s))), (1, .fn (.func g_f) [] c_f), (7, .ro (.int .i64 (p_s.length : Int))), (8, .ro (.int .i64 s))], []⟩) h ?_) (.c rfl (.c rfl (.c rfl (.c rfl .n)))) .n
  intro v1 u1 h ih1 hx1
  replace h : slices_IndexFunc_Map_s1 z p_s f v1 = _ := h
  unfold slices_IndexFunc_Map_s1 at h
  refine .sq ?_
  refine .rg (u (bc (.t rfl) (.t rfl) rfl rfl) <| .nil _) rfl ?_
  refine .sq ?_
  refine .bq h (.t rfl) (fun h => ?_) (fun h => ?_)
  · refine .skp ?_
    refine .sq ?_
    refine .bl ?_
    refine .sq ?_
    refine .rg (u (mv (.t rfl)) <| u (asg (.t rfl)) <| .nil _) rfl ?_
    refine .sq ?_
    refine be h fun x2 hx2 h => ?_
    refine be h fun x3 hx3 h => ?_
    refine .rg (u (mv (.t rfl)) <| u (mv (.t rfl)) <| u (mv (.t rfl)) <| u (ia sf24 (.t rfl) (.t rfl) (ix_map cells_GMap hx2)) <| u (lr tf64 (.t rfl) rfl) <| clv [] hF_f (.t rfl) (h_f _ _ hx3) (.c (.t rfl) <| .n) (.inl rfl) <| .nil _) rfl ?_
    refine .bq h (.t rfl) (fun h => ?_) (fun h => ?_)
    · refine .sq ?_
      refine .rg (u (mv (.t rfl)) <| u (asg (.t rfl)) <| .nil _) rfl ?_
      replace h := mpR h hx1
      obtain rfl := Option.some.inj h
      exact .rt Tryz.func92 (.t rfl <| .n) .n rfl rfl
    · refine .skp ?_
      refine .ib ?_
      refine .rg (u (bi (.t rfl) (.i rfl) rfl) <| u (mv (.t rfl)) <| .nil _) rfl ?_
      exact .kq (.il (ih1 (ar .add .i64 v1 1) (nxi h))) (.c rfl (.c rfl (.c rfl (.c rfl .n)))) .n
  · refine .xt rfl ?_
    replace h := mpR h hx1
    refine .sq ?_
    refine .rg (u (asg (.i rfl)) <| .nil _) rfl ?_
    obtain rfl := Option.some.inj h
    exact .rt Tryz.func92 (.t rfl <| .n) .n rfl rfl

theorem stay_sheet_elements_2_c (x : Elem) (cap0 : Spot) :
    AC Tryz.prog 96 [.ro (enc_Elem x), .rptr [.int .i64 cap0.id_, .int .i64 cap0.at_, .int .i64 cap0.size]] (.ro (.bool (stay_sheet_elements_2 x cap0))) [] := by
  obtain ⟨r, h⟩ : ∃ r, stay_sheet_elements_2 x cap0 = r := ⟨_, rfl⟩
  rw [h]
  refine AC.of Tryz.func96 rfl rfl fun w M0 hM => ?_
  unfold stay_sheet_elements_2 at h
  refine .sq ?_
  refine .rg (bx 2 (.t rfl) rfl rfl <| u (asg .b) <| .nil _) rfl ?_
  refine .sq ?_
  refine .rg (u (fa ff66_0 (.t rfl)) <| u (ld tf3 (.t rfl) rfl rfl) <| u (fr ff79_0 (.t rfl) rfl) <| u (lr tf3 (.t rfl) rfl) <| u (bc (.t rfl) (.t rfl) rfl rfl) <| u (asg (.t rfl)) <| .nil _) rfl ?_
  subst h
  exact .rt Tryz.func96 (.t rfl <| .n) .n rfl rfl

theorem stay_sheet_draw_y2_c {z : Option Nat} {is_ : Bool} {field : Int} {bytesc0 : Plan} {box0 : stay_sheet} {r : stay_sheet} (h : stay_sheet_draw_y2 z is_ field bytesc0 box0 = some r) :
    AW Tryz.prog 50 [.ptr 9000 0, .ro (.bool is_), .ro (.int .i64 field), .fn (.func 89) [] [.rptr [.bool bytesc0.setMarker, .bool bytesc0.marker, .bool bytesc0.setType, .int .i64 bytesc0.type, .bool bytesc0.setSeq, .int .u16 bytesc0.seq, .bool bytesc0.setTime, .int .u32 bytesc0.time, .bool bytesc0.setSsrc, .int .u32 bytesc0.ssrc, .list 2 (List.map cells_GMap bytesc0.maps), .list 2 (List.map cells_Elem bytesc0.over), .list 1 (List.map (ei .i64) bytesc0.drops), .list 2 (List.map cells_Elem bytesc0.adds), .bool bytesc0.noPad]]] [(9000, .box [.ro (.list 1 (List.map e8 box0.b)), .own 9100, .own 9101]), (9100, .arr 59 3 (List.map cells_Place box0.places)), (9101, .arr 72 4 (List.map cells_stay_stroke box0.strokes))] [0] (.ro (.tup [])) [(0, .ptr 9000 0)] [(9000, .box [.ro (.list 1 (List.map e8 r.b)), .own 9500, .own 9501]), (9500, .arr 59 3 (List.map cells_Place r.places)), (9501, .arr 72 4 (List.map cells_stay_stroke r.strokes))] := by
  refine AW.of Tryz.func50 rfl rfl fun w X M0 hM pv => ?_
  refine .kq (l := [(0, .ptr 9000 0), (1, .ro (.bool is_)), (2, .ro (.int .i64 field)), (3, .fn (.func 89) [] [.rptr [.bool bytesc0.setMarker, .bool bytesc0.marker, .bool bytesc0.setType, .int .i64 bytesc0.type, .bool bytesc0.setSeq, .int .u16 bytesc0.seq, .bool bytesc0.setTime, .int .u32 bytesc0.time, .bool bytesc0.setSsrc, .int .u32 bytesc0.ssrc, .list 2 (List.map cells_GMap bytesc0.maps), .list 2 (List.map cells_Elem bytesc0.over), .list 1 (List.map (ei .i64) bytesc0.drops), .list 2 (List.map cells_Elem bytesc0.adds), .bool bytesc0.noPad]])]) (o := [(9000, some (.box [.ro (.list 1 (List.map e8 box0.b)), .own 9100, .own 9101])), (9100, some (.arr 59 3 (List.map cells_Place box0.places))), (9101, some (.arr 72 4 (List.map cells_stay_stroke box0.strokes)))]) ?_ (.c rfl (.c rfl (.c rfl (.c rfl .n)))) (.c rfl (.c rfl (.c rfl .n)))
  unfold stay_sheet_draw_y2 at h
  refine .sq ?_
  refine be h fun x1 hx1 h => ?_
  refine .rg (u (mv (.t rfl)) <| u (nkp (.t rfl)) <| u (fa ff100_1 (.t rfl)) <| u (ld tf32 (.t rfl) rfl rfl) <| u (mv (.t rfl)) <| cl [] cf88 (place_Find_c hx1) (.b (.t rfl) rfl <| .c (.t rfl) <| .c (.i rfl) <| .n) (.inr rfl) <| u (mv (.t rfl)) <| u (ex (.t rfl) rfl rfl) <| u (ex (.t rfl) rfl rfl) <| al 8 zf59 rfl <| st tf59 (.t rfl) rfl (.t rfl) rfl rfl rfl <| u (asg (.t rfl)) <| .nil _) rfl ?_
  refine .sq ?_
  refine .rg (u (mv (.t rfl)) <| u (mv (.t rfl)) <| gd rfl rfl (fun hB => mv (.t rfl)) <| gd rfl rfl (fun hB => bc (.m rfl hB) (.i rfl) rfl rfl) <| u (pka (.t rfl) (.t rfl)) <| .nil _) rfl ?_
  refine .bq h (.t rfl) (fun h => ?_) (fun h => ?_)
  · refine be h fun x2 hx2 h => ?_
    refine be h fun x3 hx3 h => ?_
    refine be h fun x4 hx4 h => ?_
    refine .rd mixed (u (mv (.t rfl)) <| u (mv (.t rfl)) <| u (nkp (.t rfl)) <| u (fa ff100_2 (.t rfl)) <| u (ld tf68 (.t rfl) rfl rfl) <| u (ld tf59 (.t rfl) rfl rfl) <| u (mv (.t rfl)) <| u (mv (.t rfl)) <| u (nkp (.t rfl)) <| u (fa ff100_0 (.t rfl)) <| u (ld tf29 (.t rfl) rfl rfl) <| u (fa ff59_1 (.t rfl)) <| u (ld tf3 (.t rfl) rfl rfl) <| u (fa ff59_1 (.t rfl)) <| u (ld tf3 (.t rfl) rfl rfl) <| u (fa ff59_2 (.t rfl)) <| u (ld tf3 (.t rfl) rfl rfl) <| u (bi (.t rfl) (.t rfl) rfl) <| u (sl sf29 (.t rfl) (.s (.t rfl)) (.s (.t rfl)) hx2) <| clv [] cf89 (.t rfl) (stay_kind_1_r hx3) (.c (.t rfl) <| .n) (.inl rfl) <| u (bd bf72 zf72 (.c rfl (.t rfl) rfl rfl rfl <| .c rfl (.t rfl) rfl rfl rfl <| .n) rfl) <| bs (F := cells_stay_stroke) (l := [(stay_stroke.mk x1.1 x3)]) 45 pf68 (.c (.t rfl) rfl <| .n) rfl (fun _ _ => rfl) rfl rfl <| apo 46 pf68 (.t rfl) rfl (.t rfl) rfl hx4 rfl <| u (nkp (.t rfl)) <| u (fa ff100_2 (.t rfl)) <| st tf68 (.t rfl) rfl (.t rfl) rfl rfl rfl <| .nil _) (by kernel_rfl) rfl ?_
    obtain rfl := Option.some.inj h
    refine .ks (l := [(0, .ptr 9000 0)]) (o := [(9000, some (.box [.ro (.list 1 (List.map e8 box0.b)), .own 9500, .own 9501])), (9500, some (.arr 59 3 (List.map cells_Place box0.places))), (9501, some (.arr 72 4 (List.map cells_stay_stroke x4)))]) (fun i => bif Nat.beq i 9501 then 46 else bif Nat.beq i 9500 then 9100 else i) ?_ (.c rfl .n) (.c rfl (.c rfl (.c rfl .n))) rfl
    exact .rte (o := [(9000, some (.box [.ro (.list 1 (List.map e8 box0.b)), .own 9500, .own 9501])), (9500, some (.arr 59 3 (List.map cells_Place box0.places))), (9501, some (.arr 72 4 (List.map cells_stay_stroke x4)))]) Tryz.func50 (.n) (.c rfl (.c rfl (.c rfl .n))) rfl rfl (.c rfl .n) rfl
  · refine .skp ?_
    obtain rfl := Option.some.inj h
    refine .ks (l := [(0, .ptr 9000 0)]) (o := [(9000, some (.box [.ro (.list 1 (List.map e8 box0.b)), .own 9500, .own 9501])), (9500, some (.arr 59 3 (List.map cells_Place box0.places))), (9501, some (.arr 72 4 (List.map cells_stay_stroke box0.strokes)))]) (fun i => bif Nat.beq i 9501 then 9101 else bif Nat.beq i 9500 then 9100 else i) ?_ (.c rfl .n) (.c rfl (.c rfl (.c rfl .n))) rfl
    exact .rte (o := [(9000, some (.box [.ro (.list 1 (List.map e8 box0.b)), .own 9500, .own 9501])), (9500, some (.arr 59 3 (List.map cells_Place box0.places))), (9501, some (.arr 72 4 (List.map cells_stay_stroke box0.strokes)))]) Tryz.func50 (.n) (.c rfl (.c rfl (.c rfl .n))) rfl rfl (.c rfl .n) rfl

theorem stay_sheet_draw_y4_c {z : Option Nat} {is_ : Bool} {field : Int} {bytesc0 : Int} {box0 : stay_sheet} {r : stay_sheet} (h : stay_sheet_draw_y4 z is_ field bytesc0 box0 = some r) :
    AW Tryz.prog 50 [.ptr 9000 0, .ro (.bool is_), .ro (.int .i64 field), .fn (.func 90) [] [.rptr [.int .u64 bytesc0]]] [(9000, .box [.ro (.list 1 (List.map e8 box0.b)), .own 9100, .own 9101]), (9100, .arr 59 3 (List.map cells_Place box0.places)), (9101, .arr 72 4 (List.map cells_stay_stroke box0.strokes))] [0] (.ro (.tup [])) [(0, .ptr 9000 0)] [(9000, .box [.ro (.list 1 (List.map e8 r.b)), .own 9500, .own 9501]), (9500, .arr 59 3 (List.map cells_Place r.places)), (9501, .arr 72 4 (List.map cells_stay_stroke r.strokes))] := by
  refine AW.of Tryz.func50 rfl rfl fun w X M0 hM pv => ?_
  refine .kq (l := [(0, .ptr 9000 0), (1, .ro (.bool is_)), (2, .ro (.int .i64 field)), (3, .fn (.func 90) [] [.rptr [.int .u64 bytesc0]])]) (o := [(9000, some (.box [.ro (.list 1 (List.map e8 box0.b)), .own 9100, .own 9101])), (9100, some (.arr 59 3 (List.map cells_Place box0.places))), (9101, some (.arr 72 4 (List.map cells_stay_stroke box0.strokes)))]) ?_ (.c rfl (.c rfl (.c rfl (.c rfl .n)))) (.c rfl (.c rfl (.c rfl .n)))
  unfold stay_sheet_draw_y4 at h
  refine .sq ?_
  refine be h fun x1 hx1 h => ?_
  refine .rg (u (mv (.t rfl)) <| u (nkp (.t rfl)) <| u (fa ff100_1 (.t rfl)) <| u (ld tf32 (.t rfl) rfl rfl) <| u (mv (.t rfl)) <| cl [] cf88 (place_Find_c hx1) (.b (.t rfl) rfl <| .c (.t rfl) <| .c (.i rfl) <| .n) (.inr rfl) <| u (mv (.t rfl)) <| u (ex (.t rfl) rfl rfl) <| u (ex (.t rfl) rfl rfl) <| al 8 zf59 rfl <| st tf59 (.t rfl) rfl (.t rfl) rfl rfl rfl <| u (asg (.t rfl)) <| .nil _) rfl ?_
  refine .sq ?_
  refine .rg (u (mv (.t rfl)) <| u (mv (.t rfl)) <| gd rfl rfl (fun hB => mv (.t rfl)) <| gd rfl rfl (fun hB => bc (.m rfl hB) (.i rfl) rfl rfl) <| u (pka (.t rfl) (.t rfl)) <| .nil _) rfl ?_
  refine .bq h (.t rfl) (fun h => ?_) (fun h => ?_)
  · refine be h fun x2 hx2 h => ?_
    refine be h fun x3 hx3 h => ?_
    refine be h fun x4 hx4 h => ?_
    refine .rd mixed (u (mv (.t rfl)) <| u (mv (.t rfl)) <| u (nkp (.t rfl)) <| u (fa ff100_2 (.t rfl)) <| u (ld tf68 (.t rfl) rfl rfl) <| u (ld tf59 (.t rfl) rfl rfl) <| u (mv (.t rfl)) <| u (mv (.t rfl)) <| u (nkp (.t rfl)) <| u (fa ff100_0 (.t rfl)) <| u (ld tf29 (.t rfl) rfl rfl) <| u (fa ff59_1 (.t rfl)) <| u (ld tf3 (.t rfl) rfl rfl) <| u (fa ff59_1 (.t rfl)) <| u (ld tf3 (.t rfl) rfl rfl) <| u (fa ff59_2 (.t rfl)) <| u (ld tf3 (.t rfl) rfl rfl) <| u (bi (.t rfl) (.t rfl) rfl) <| u (sl sf29 (.t rfl) (.s (.t rfl)) (.s (.t rfl)) hx2) <| clv [] cf90 (.t rfl) (stay_number_1_r hx3) (.c (.t rfl) <| .n) (.inl rfl) <| u (bd bf72 zf72 (.c rfl (.t rfl) rfl rfl rfl <| .c rfl (.t rfl) rfl rfl rfl <| .n) rfl) <| bs (F := cells_stay_stroke) (l := [(stay_stroke.mk x1.1 x3)]) 45 pf68 (.c (.t rfl) rfl <| .n) rfl (fun _ _ => rfl) rfl rfl <| apo 46 pf68 (.t rfl) rfl (.t rfl) rfl hx4 rfl <| u (nkp (.t rfl)) <| u (fa ff100_2 (.t rfl)) <| st tf68 (.t rfl) rfl (.t rfl) rfl rfl rfl <| .nil _) (by kernel_rfl) rfl ?_
    obtain rfl := Option.some.inj h
    refine .ks (l := [(0, .ptr 9000 0)]) (o := [(9000, some (.box [.ro (.list 1 (List.map e8 box0.b)), .own 9500, .own 9501])), (9500, some (.arr 59 3 (List.map cells_Place box0.places))), (9501, some (.arr 72 4 (List.map cells_stay_stroke x4)))]) (fun i => bif Nat.beq i 9501 then 46 else bif Nat.beq i 9500 then 9100 else i) ?_ (.c rfl .n) (.c rfl (.c rfl (.c rfl .n))) rfl
    exact .rte (o := [(9000, some (.box [.ro (.list 1 (List.map e8 box0.b)), .own 9500, .own 9501])), (9500, some (.arr 59 3 (List.map cells_Place box0.places))), (9501, some (.arr 72 4 (List.map cells_stay_stroke x4)))]) Tryz.func50 (.n) (.c rfl (.c rfl (.c rfl .n))) rfl rfl (.c rfl .n) rfl
  · refine .skp ?_
    obtain rfl := Option.some.inj h
    refine .ks (l := [(0, .ptr 9000 0)]) (o := [(9000, some (.box [.ro (.list 1 (List.map e8 box0.b)), .own 9500, .own 9501])), (9500, some (.arr 59 3 (List.map cells_Place box0.places))), (9501, some (.arr 72 4 (List.map cells_stay_stroke box0.strokes)))]) (fun i => bif Nat.beq i 9501 then 9101 else bif Nat.beq i 9500 then 9100 else i) ?_ (.c rfl .n) (.c rfl (.c rfl (.c rfl .n))) rfl
    exact .rte (o := [(9000, some (.box [.ro (.list 1 (List.map e8 box0.b)), .own 9500, .own 9501])), (9500, some (.arr 59 3 (List.map cells_Place box0.places))), (9501, some (.arr 72 4 (List.map cells_stay_stroke box0.strokes)))]) Tryz.func50 (.n) (.c rfl (.c rfl (.c rfl .n))) rfl rfl (.c rfl .n) rfl

theorem stay_sheet_rename_y2_c {z : Option Nat} {at_ : Int} {profile : Int} {id_ : Int} {box0 : stay_sheet} {r : stay_sheet} (h : stay_sheet_rename_y2 z at_ profile id_ box0 = some r) :
    AW Tryz.prog 94 [.ptr 9000 0, .ro (.int .i64 at_), .ro (.int .u16 profile), .ro (.int .i64 id_)] [(9000, .box [.ro (.list 1 (List.map e8 box0.b)), .own 9100, .own 9101]), (9100, .arr 59 3 (List.map cells_Place box0.places)), (9101, .arr 72 4 (List.map cells_stay_stroke box0.strokes))] [0] (.ro (.tup [])) [(0, .ptr 9000 0)] [(9000, .box [.ro (.list 1 (List.map e8 r.b)), .own 9500, .own 9501]), (9500, .arr 59 3 (List.map cells_Place r.places)), (9501, .arr 72 4 (List.map cells_stay_stroke r.strokes))] := by
  refine AW.of Tryz.func94 rfl rfl fun w X M0 hM pv => ?_
  refine .kq (l := [(0, .ptr 9000 0), (1, .ro (.int .i64 at_)), (2, .ro (.int .u16 profile)), (3, .ro (.int .i64 id_))]) (o := [(9000, some (.box [.ro (.list 1 (List.map e8 box0.b)), .own 9100, .own 9101])), (9100, some (.arr 59 3 (List.map cells_Place box0.places))), (9101, some (.arr 72 4 (List.map cells_stay_stroke box0.strokes)))]) ?_ (.c rfl (.c rfl (.c rfl (.c rfl .n)))) (.c rfl (.c rfl (.c rfl .n)))
  unfold stay_sheet_rename_y2 at h
  refine .sq ?_
  refine .rg (u (mv (.t rfl)) <| u (bi (.t rfl) (.i rfl) rfl) <| u (asg (.t rfl)) <| .nil _) rfl ?_
  refine .sq ?_
  refine .rg (u (mv (.t rfl)) <| u (cv cv3_5 (.t rfl)) <| u (asg (.t rfl)) <| .nil _) rfl ?_
  refine .sq ?_
  refine .sq ?_
  refine .rg (u (mv (.t rfl)) <| u (bc (.t rfl) (.i rfl) rfl rfl) <| .nil _) rfl ?_
  refine .jq (t := some r) (fun (a : Int × Int) => ⟨[(0, .ptr 9000 0), (1, .ro (.int .i64 a.1)), (8, .ro (.int .u8 a.2))], [(9000, some (.box [.ro (.list 1 (List.map e8 box0.b)), .own 9100, .own 9101])), (9100, some (.arr 59 3 (List.map cells_Place box0.places))), (9101, some (.arr 72 4 (List.map cells_stay_stroke box0.strokes)))]⟩) (fun (a : Int × Int) => stay_sheet_rename_y2_j1 z box0 a.1 a.2) ?_ (fun J1 => ?_)
  · rintro ⟨v1, v2⟩ h
    replace h : stay_sheet_rename_y2_j1 z box0 v1 v2 = _ := h
    unfold stay_sheet_rename_y2_j1 at h
    refine be h fun x3 hx3 h => ?_
    refine .rg (u (mv (.t rfl)) <| u (mv (.t rfl)) <| u (nkp (.t rfl)) <| u (fa ff100_2 (.t rfl)) <| u (ld tf68 (.t rfl) rfl rfl) <| u (mv (.t rfl)) <| u (bd bf59 zf59 (.c rfl (.i rfl) rfl rfl rfl <| .c rfl (.t rfl) rfl rfl rfl <| .c rfl (.i rfl) rfl rfl rfl <| .n) rfl) <| u (mv (.t rfl)) <| nu (bsn (F := e8) (l := [v2]) pf29 (.c (.t rfl) rfl <| .n) rfl (fun _ _ => rfl) rfl) <| u (bd bf72 zf72 (.c rfl (.t rfl) rfl rfl rfl <| .c rfl (.t rfl) rfl rfl rfl <| .n) rfl) <| bs (F := cells_stay_stroke) (l := [(stay_stroke.mk (Place.mk 9 v1 1) [v2])]) 39 pf68 (.c (.t rfl) rfl <| .n) rfl (fun _ _ => rfl) rfl rfl <| apo 40 pf68 (.t rfl) rfl (.t rfl) rfl hx3 rfl <| u (nkp (.t rfl)) <| u (fa ff100_2 (.t rfl)) <| st tf68 (.t rfl) rfl (.t rfl) rfl rfl rfl <| .nil _) rfl ?_
    obtain rfl := Option.some.inj h
    refine .ks (l := [(0, .ptr 9000 0)]) (o := [(9000, some (.box [.ro (.list 1 (List.map e8 box0.b)), .own 9500, .own 9501])), (9500, some (.arr 59 3 (List.map cells_Place box0.places))), (9501, some (.arr 72 4 (List.map cells_stay_stroke x3)))]) (fun i => bif Nat.beq i 9501 then 40 else bif Nat.beq i 9500 then 9100 else i) ?_ (.c rfl .n) (.c rfl (.c rfl (.c rfl .n))) rfl
    exact .rte (o := [(9000, some (.box [.ro (.list 1 (List.map e8 box0.b)), .own 9500, .own 9501])), (9500, some (.arr 59 3 (List.map cells_Place box0.places))), (9501, some (.arr 72 4 (List.map cells_stay_stroke x3)))]) Tryz.func94 (.n) (.c rfl (.c rfl (.c rfl .n))) rfl rfl (.c rfl .n) rfl
  refine .bq h (.t rfl) (fun h => ?_) (fun h => ?_)
  · refine .sq ?_
    refine .rg (u (mv (.t rfl)) <| u (bi (.t rfl) (.i rfl) rfl) <| u (asg (.t rfl)) <| .nil _) rfl ?_
    refine be h fun x4 hx4 h => ?_
    refine .rg (u (mv (.t rfl)) <| u (sh (.t rfl) (.i rfl) rfl (by decide)) <| u (cv cv3_5 (.t rfl)) <| u (mv (.t rfl)) <| u (nkp (.t rfl)) <| u (fa ff100_0 (.t rfl)) <| u (ld tf29 (.t rfl) rfl rfl) <| u (mv (.t rfl)) <| u (ia sf29 (.t rfl) (.t rfl) (ix_map e8 hx4)) <| u (lr tf5 (.t rfl) rfl) <| u (bi (.t rfl) (.i rfl) rfl) <| u (bi (.t rfl) (.t rfl) rfl) <| u (asg (.t rfl)) <| .nil _) rfl ?_
    exact .kq (J1 ((ar .add .i64 (ar .sub .i64 at_ 2) 1), (ar .or .u8 (IntKind.u8.wrap (sf .shl .i64 id_ 4)) (ar .and .u8 x4 15))) h) (.c rfl (.c rfl (.c rfl .n))) (.c rfl (.c rfl (.c rfl .n)))
  · refine .skp ?_
    exact .kq (J1 ((ar .sub .i64 at_ 2), (IntKind.u8.wrap id_)) h) (.c rfl (.c rfl (.c rfl .n))) (.c rfl (.c rfl (.c rfl .n)))

theorem stay_sheet_elements_y2_c {z : Option Nat} {p : Plan} {k : Packet} {box0 : stay_sheet} {r : stay_sheet} (h : stay_sheet_elements_y2 z p k box0 = some r) :
    AW Tryz.prog 53 [.ptr 9000 0, .ro (enc_Plan p), .ro (enc_Packet k)] [(9000, .box [.ro (.list 1 (List.map e8 box0.b)), .own 9100, .own 9101]), (9100, .arr 59 3 (List.map cells_Place box0.places)), (9101, .arr 72 4 (List.map cells_stay_stroke box0.strokes))] [0] (.ro (.tup [])) [(0, .ptr 9000 0)] [(9000, .box [.ro (.list 1 (List.map e8 r.b)), .own 9500, .own 9501]), (9500, .arr 59 3 (List.map cells_Place r.places)), (9501, .arr 72 4 (List.map cells_stay_stroke r.strokes))] := by
  refine AW.of Tryz.func53 rfl rfl fun w X M0 hM pv => ?_
  refine .kq (l := [(0, .ptr 9000 0), (1, .ro (enc_Plan p)), (2, .ro (enc_Packet k))]) (o := [(9000, some (.box [.ro (.list 1 (List.map e8 box0.b)), .own 9100, .own 9101])), (9100, some (.arr 59 3 (List.map cells_Place box0.places))), (9101, some (.arr 72 4 (List.map cells_stay_stroke box0.strokes)))]) ?_ (.c rfl (.c rfl (.c rfl .n))) (.c rfl (.c rfl (.c rfl .n)))
  unfold stay_sheet_elements_y2 at h
  refine .sq ?_
  refine .rg (bx 4 (.t rfl) rfl rfl <| bx 5 (.t rfl) rfl rfl <| .nil _) rfl ?_
  refine .sq ?_
  refine be h fun x1 hx1 h => ?_
  refine .rg (u (mv (.t rfl)) <| u (nkp (.t rfl)) <| u (fa ff100_1 (.t rfl)) <| u (ld tf32 (.t rfl) rfl rfl) <| cl [] cf88 (place_Find_c hx1) (.b (.t rfl) rfl <| .c (.i rfl) <| .c (.i rfl) <| .n) (.inr rfl) <| u (mv (.t rfl)) <| u (ex (.t rfl) rfl rfl) <| u (ex (.t rfl) rfl rfl) <| al 6 zf59 rfl <| st tf59 (.t rfl) rfl (.t rfl) rfl rfl rfl <| u (asg (.t rfl)) <| .nil _) rfl ?_
  refine .sq ?_
  refine .sq ?_
  refine .rg (u (mv (.t rfl)) <| u (bc (.t rfl) (.i rfl) rfl rfl) <| .nil _) rfl ?_
  refine .bq h (.t rfl) (fun h => ?_) (fun h => ?_)
  · obtain rfl := Option.some.inj h
    refine .ks (l := [(0, .ptr 9000 0)]) (o := [(9000, some (.box [.ro (.list 1 (List.map e8 box0.b)), .own 9500, .own 9501])), (9500, some (.arr 59 3 (List.map cells_Place box0.places))), (9501, some (.arr 72 4 (List.map cells_stay_stroke box0.strokes)))]) (fun i => bif Nat.beq i 9501 then 9101 else bif Nat.beq i 9500 then 9100 else i) ?_ (.c rfl .n) (.c rfl (.c rfl (.c rfl .n))) rfl
    exact .rtx (o := [(9000, some (.box [.ro (.list 1 (List.map e8 box0.b)), .own 9500, .own 9501])), (9500, some (.arr 59 3 (List.map cells_Place box0.places))), (9501, some (.arr 72 4 (List.map cells_stay_stroke box0.strokes)))]) Tryz.func53 (.n) (.c rfl (.c rfl (.c rfl .n))) rfl rfl (.c rfl .n) rfl
  · refine .skp ?_
    refine .sq ?_
    refine be h fun x2 hx2 h => ?_
    refine .rg (u (fa ff50_1 (.t rfl)) <| u (ld tf22 (.t rfl) rfl rfl) <| u (fa ff50_2 (.t rfl)) <| u (ld tf29 (.t rfl) rfl rfl) <| cnf 31000 cf91 (elem_Spots_c hx2) (.c (.t rfl) <| .c (.t rfl) <| .n) rfl rfl rfl <| u (mv (.t rfl)) <| u (ex (.t rfl) rfl rfl) <| u (ex (.t rfl) rfl rfl) <| u (asg (.t rfl)) <| u (asg (.t rfl)) <| .nil _) rfl ?_
    refine .sq ?_
    refine .rg (u (mv (.t rfl)) <| u (lom sf75 (.t rfl) rfl) <| u (mv (.i rfl)) <| .nil _) rfl ?_
    refine .bl ?_
    unfold stay_sheet_elements_y2_l1 at h
    refine .ks (fun i => bif Nat.beq i 100100002 then 9101 else bif Nat.beq i 100100001 then 9100 else i) (.lo (fun (s : Int × Plan × Packet × stay_sheet) => ⟨[(0, .ptr 9000 0), (4, .ptr 4 0), (5, .ptr 5 0), (6, .ptr 6 0), (33, .own 31000), (34, .ro (.int .i64 (x2.1.length : Int))), (35, .ro (.int .i64 s.1))], [(4, some (.box [.ro (.bool s.2.1.setMarker), .ro (.bool s.2.1.marker), .ro (.bool s.2.1.setType), .ro (.int .i64 s.2.1.type), .ro (.bool s.2.1.setSeq), .ro (.int .u16 s.2.1.seq), .ro (.bool s.2.1.setTime), .ro (.int .u32 s.2.1.time), .ro (.bool s.2.1.setSsrc), .ro (.int .u32 s.2.1.ssrc), .ro (.list 2 (List.map cells_GMap s.2.1.maps)), .ro (.list 2 (List.map cells_Elem s.2.1.over)), .ro (.list 1 (List.map (ei .i64) s.2.1.drops)), .ro (.list 2 (List.map cells_Elem s.2.1.adds)), .ro (.bool s.2.1.noPad)])), (5, some (.box [.ro (.bool s.2.2.1.head.hasPad), .ro (.bool s.2.2.1.head.hasExt), .ro (.bool s.2.2.1.head.marker), .ro (.int .i64 s.2.2.1.head.type), .ro (.int .u16 s.2.2.1.head.seq), .ro (.int .u32 s.2.2.1.head.time), .ro (.int .u32 s.2.2.1.head.ssrc), .ro (.list 1 (List.map (ei .u32) s.2.2.1.head.csrc)), .ro (.int .u16 s.2.2.1.profile), .ro (.list 1 (List.map e8 s.2.2.1.ext)), .ro (.list 1 (List.map e8 s.2.2.1.payload)), .ro (.int .i64 s.2.2.1.pad)])), (6, some (.box [.ro (.int .i64 x1.1.field), .ro (.int .i64 x1.1.at_), .ro (.int .i64 x1.1.size)])), (9000, some (.box [.ro (.list 1 (List.map e8 s.2.2.2.b)), .own 100100001, .own 100100002])), (31000, some (.arr 79 3 (List.map cells_Spot x2.1))), (100100001, some (.arr 59 3 (List.map cells_Place s.2.2.2.places))), (100100002, some (.arr 72 4 (List.map cells_stay_stroke s.2.2.2.strokes)))]⟩) h ?_) (.c rfl (.c rfl (.c rfl (.c rfl (.c rfl (.c rfl (.c rfl .n))))))) (.c rfl (.c rfl (.c rfl (.c rfl (.c rfl (.c rfl (.c rfl .n))))))) rfl
    rintro ⟨v3, v4, v5, v6⟩ u1 h ih1 hx1
    replace h : stay_sheet_elements_y2_s1 z x1 x2 v3 v4 v5 v6 = _ := h
    unfold stay_sheet_elements_y2_s1 at h
    refine .sq ?_
    refine .rg (u (bc (.t rfl) (.t rfl) rfl rfl) <| .nil _) rfl ?_
    refine .sq ?_
    refine .bq h (.t rfl) (fun h => ?_) (fun h => ?_)
    · refine .skp ?_
      refine .sq ?_
      refine .bl ?_
      refine .sq ?_
      refine be h fun x7 hx7 h => ?_
      refine .rg (u (io sf75 (.t rfl) rfl (.t rfl) (ix_map cells_Spot hx7)) <| u (le tf79 (.t rfl) rfl (ix_lt (ix_map _ hx7)).2.2 rfl) <| al 11 zf79 rfl <| st tf79 (.t rfl) rfl (.t rfl) rfl rfl rfl <| .nil _) rfl ?_
      refine .fb 11 rfl rfl ?_
      refine .sq ?_
      refine .rg (u (fa ff59_1 (.t rfl)) <| u (ld tf3 (.t rfl) rfl rfl) <| u (fr ff79_1 (.t rfl) rfl) <| u (lr tf3 (.t rfl) rfl) <| u (bi (.t rfl) (.t rfl) rfl) <| u (asg (.t rfl)) <| .nil _) rfl ?_
      refine .sq ?_
      refine .sq ?_
      refine be h fun x8 hx8 h => ?_
      refine .rg (u (fa ff28_10 (.t rfl)) <| u (ld tf24 (.t rfl) rfl rfl) <| u (mfn (.c (.t rfl) <| .n)) <| cl [] cf92 (slices_IndexFunc_Map_c cf93 (fun y0 q h => by obtain rfl := Option.some.inj h; exact stay_sheet_elements_1_c y0 x7) hx8) (.c (.t rfl) <| .c (.t rfl) <| .n) (.inl rfl) <| u (asg (.t rfl)) <| .nil _) rfl ?_
      refine .sq ?_
      refine .rg (u (mv (.t rfl)) <| u (bc (.t rfl) (.i rfl) rfl rfl) <| .nil _) rfl ?_
      refine .jq (t := some u1) (fun (a : Plan × Packet × stay_sheet) => ⟨[(0, .ptr 9000 0), (4, .ptr 4 0), (5, .ptr 5 0), (6, .ptr 6 0), (11, .rptr [.int .i64 x7.id_, .int .i64 x7.at_, .int .i64 x7.size]), (12, .ro (.int .i64 (ar .add .i64 x1.1.at_ x7.at_))), (33, .own 31000), (34, .ro (.int .i64 (x2.1.length : Int))), (35, .ro (.int .i64 v3))], [(4, some (.box [.ro (.bool a.1.setMarker), .ro (.bool a.1.marker), .ro (.bool a.1.setType), .ro (.int .i64 a.1.type), .ro (.bool a.1.setSeq), .ro (.int .u16 a.1.seq), .ro (.bool a.1.setTime), .ro (.int .u32 a.1.time), .ro (.bool a.1.setSsrc), .ro (.int .u32 a.1.ssrc), .ro (.list 2 (List.map cells_GMap a.1.maps)), .ro (.list 2 (List.map cells_Elem a.1.over)), .ro (.list 1 (List.map (ei .i64) a.1.drops)), .ro (.list 2 (List.map cells_Elem a.1.adds)), .ro (.bool a.1.noPad)])), (5, some (.box [.ro (.bool a.2.1.head.hasPad), .ro (.bool a.2.1.head.hasExt), .ro (.bool a.2.1.head.marker), .ro (.int .i64 a.2.1.head.type), .ro (.int .u16 a.2.1.head.seq), .ro (.int .u32 a.2.1.head.time), .ro (.int .u32 a.2.1.head.ssrc), .ro (.list 1 (List.map (ei .u32) a.2.1.head.csrc)), .ro (.int .u16 a.2.1.profile), .ro (.list 1 (List.map e8 a.2.1.ext)), .ro (.list 1 (List.map e8 a.2.1.payload)), .ro (.int .i64 a.2.1.pad)])), (6, some (.box [.ro (.int .i64 x1.1.field), .ro (.int .i64 x1.1.at_), .ro (.int .i64 x1.1.size)])), (9000, some (.box [.ro (.list 1 (List.map e8 a.2.2.b)), .own 100100001, .own 100100002])), (31000, some (.arr 79 3 (List.map cells_Spot x2.1))), (100100001, some (.arr 59 3 (List.map cells_Place a.2.2.places))), (100100002, some (.arr 72 4 (List.map cells_stay_stroke a.2.2.strokes)))]⟩) (fun (a : Plan × Packet × stay_sheet) => stay_sheet_elements_y2_j2 z x1 v3 x7 a.1 a.2.1 a.2.2) ?_ (fun J2 => ?_)
      · rintro ⟨v9, v10, v11⟩ h
        replace h : stay_sheet_elements_y2_j2 z x1 v3 x7 v9 v10 v11 = _ := h
        unfold stay_sheet_elements_y2_j2 at h
        refine .sq ?_
        refine be h fun x12 hx12 h => ?_
        refine .rg (u (fa ff28_11 (.t rfl)) <| u (ld tf25 (.t rfl) rfl rfl) <| u (mfn (.c (.t rfl) <| .n)) <| cl [] cf95 (slices_IndexFunc_Elem_c cf96 (fun y0 q h => by obtain rfl := Option.some.inj h; exact stay_sheet_elements_2_c y0 x7) hx12) (.c (.t rfl) <| .c (.t rfl) <| .n) (.inl rfl) <| u (asg (.t rfl)) <| .nil _) rfl ?_
        refine .sq ?_
        refine .rg (u (mv (.t rfl)) <| u (bc (.t rfl) (.i rfl) rfl rfl) <| u (mv (.t rfl)) <| gd rfl rfl (fun hB => fr ff79_2 (.t rfl) rfl) <| gd rfl rfl (fun hB => lr tf3 (.m rfl hB) rfl) <| gd rfl rfl (fun hB => bc (.m rfl hB) (.i rfl) rfl rfl) <| u (pka (.t rfl) (.t rfl)) <| .nil _) rfl ?_
        refine .jq (t := some u1) (fun (a : stay_sheet) => ⟨[(0, .ptr 9000 0), (4, .ptr 4 0), (5, .ptr 5 0), (6, .ptr 6 0), (33, .own 31000), (34, .ro (.int .i64 (x2.1.length : Int))), (35, .ro (.int .i64 v3))], [(4, some (.box [.ro (.bool v9.setMarker), .ro (.bool v9.marker), .ro (.bool v9.setType), .ro (.int .i64 v9.type), .ro (.bool v9.setSeq), .ro (.int .u16 v9.seq), .ro (.bool v9.setTime), .ro (.int .u32 v9.time), .ro (.bool v9.setSsrc), .ro (.int .u32 v9.ssrc), .ro (.list 2 (List.map cells_GMap v9.maps)), .ro (.list 2 (List.map cells_Elem v9.over)), .ro (.list 1 (List.map (ei .i64) v9.drops)), .ro (.list 2 (List.map cells_Elem v9.adds)), .ro (.bool v9.noPad)])), (5, some (.box [.ro (.bool v10.head.hasPad), .ro (.bool v10.head.hasExt), .ro (.bool v10.head.marker), .ro (.int .i64 v10.head.type), .ro (.int .u16 v10.head.seq), .ro (.int .u32 v10.head.time), .ro (.int .u32 v10.head.ssrc), .ro (.list 1 (List.map (ei .u32) v10.head.csrc)), .ro (.int .u16 v10.profile), .ro (.list 1 (List.map e8 v10.ext)), .ro (.list 1 (List.map e8 v10.payload)), .ro (.int .i64 v10.pad)])), (6, some (.box [.ro (.int .i64 x1.1.field), .ro (.int .i64 x1.1.at_), .ro (.int .i64 x1.1.size)])), (9000, some (.box [.ro (.list 1 (List.map e8 a.b)), .own 100100001, .own 100100002])), (31000, some (.arr 79 3 (List.map cells_Spot x2.1))), (100100001, some (.arr 59 3 (List.map cells_Place a.places))), (100100002, some (.arr 72 4 (List.map cells_stay_stroke a.strokes)))]⟩) (fun (a : stay_sheet) => stay_sheet_elements_y2_j3 z v3 v9 v10 a) ?_ (fun J3 => ?_)
        · intro v13 h
          replace h : stay_sheet_elements_y2_j3 z v3 v9 v10 v13 = _ := h
          unfold stay_sheet_elements_y2_j3 at h
          refine .ib ?_
          refine .rg (u (bi (.t rfl) (.i rfl) rfl) <| u (mv (.t rfl)) <| .nil _) rfl ?_
          exact .kq (.il (ih1 ((ar .add .i64 v3 1), v9, v10, v13) (nxi h))) (.c rfl (.c rfl (.c rfl (.c rfl (.c rfl (.c rfl (.c rfl .n))))))) (.c rfl (.c rfl (.c rfl (.c rfl (.c rfl (.c rfl (.c rfl .n)))))))
        refine .bq h (.t rfl) (fun h => ?_) (fun h => ?_)
        · refine be h fun x14 hx14 h => ?_
          refine be h fun x15 hx15 h => ?_
          refine .rd mixed (u (mv (.t rfl)) <| u (mv (.t rfl)) <| u (nkp (.t rfl)) <| u (fa ff100_2 (.t rfl)) <| u (ld tf68 (.t rfl) rfl rfl) <| u (mv (.t rfl)) <| u (fr ff79_2 (.t rfl) rfl) <| u (lr tf3 (.t rfl) rfl) <| u (bd bf59 zf59 (.c rfl (.i rfl) rfl rfl rfl <| .c rfl (.t rfl) rfl rfl rfl <| .c rfl (.t rfl) rfl rfl rfl <| .n) rfl) <| u (fa ff28_11 (.t rfl)) <| u (ld tf25 (.t rfl) rfl rfl) <| u (mv (.t rfl)) <| u (ia sf25 (.t rfl) (.t rfl) (ix_map cells_Elem hx14)) <| u (fr ff66_1 (.t rfl) rfl) <| u (lr tf29 (.t rfl) rfl) <| u (bd bf72 zf72 (.c rfl (.t rfl) rfl rfl rfl <| .c rfl (.t rfl) rfl rfl rfl <| .n) rfl) <| bs (F := cells_stay_stroke) (l := [(stay_stroke.mk (Place.mk 9 (ar .add .i64 x1.1.at_ x7.at_) x7.size) x14.data)]) 88 pf68 (.c (.t rfl) rfl <| .n) rfl (fun _ _ => rfl) rfl rfl <| apo 89 pf68 (.t rfl) rfl (.t rfl) rfl hx15 rfl <| u (nkp (.t rfl)) <| u (fa ff100_2 (.t rfl)) <| st tf68 (.t rfl) rfl (.t rfl) rfl rfl rfl <| .nil _) (by kernel_rfl) rfl ?_
          exact .ks (fun i => bif Nat.beq i 100100002 then 89 else i) (J3 ({ v11 with strokes := x15 }) h) (.c rfl (.c rfl (.c rfl (.c rfl (.c rfl (.c rfl (.c rfl .n))))))) (.c rfl (.c rfl (.c rfl (.c rfl (.c rfl (.c rfl (.c rfl .n))))))) rfl
        · refine .skp ?_
          exact .kq (J3 v11 h) (.c rfl (.c rfl (.c rfl (.c rfl (.c rfl (.c rfl (.c rfl .n))))))) (.c rfl (.c rfl (.c rfl (.c rfl (.c rfl (.c rfl (.c rfl .n)))))))
      refine .bq h (.t rfl) (fun h => ?_) (fun h => ?_)
      · refine be h fun x16 hx16 h => ?_
        refine be h fun x17 hx17 h => ?_
        refine .rd mixed (u (mv (.t rfl)) <| u (mv (.t rfl)) <| u (fa ff50_1 (.t rfl)) <| u (ld tf22 (.t rfl) rfl rfl) <| u (fa ff28_10 (.t rfl)) <| u (ld tf24 (.t rfl) rfl rfl) <| u (mv (.t rfl)) <| u (ia sf24 (.t rfl) (.t rfl) (ix_map cells_GMap hx16)) <| u (fr ff64_1 (.t rfl) rfl) <| u (lr tf3 (.t rfl) rfl) <| clo 61000000 cf94 (AW.lw (fun i => bif Nat.beq i 9101 then 100100002 else bif Nat.beq i 9100 then 100100001 else bif Nat.beq i 9000 then 9000 else i) [9000] (stay_sheet_rename_y2_c hx17) rfl rfl rfl rfl rfl) (.c (.t rfl) <| .c (.t rfl) <| .c (.t rfl) <| .c (.t rfl) <| .n) rfl (.c rfl <| .c rfl <| .c rfl <| .n) rfl <| .nil _) (by kernel_rfl) rfl ?_
        exact .ks (fun i => bif Nat.beq i 100100002 then 61009501 else bif Nat.beq i 100100001 then 61009500 else i) (J2 (v4, v5, x17) h) (.c rfl (.c rfl (.c rfl (.c rfl (.c rfl (.c rfl (.c rfl (.c rfl (.c rfl .n))))))))) (.c rfl (.c rfl (.c rfl (.c rfl (.c rfl (.c rfl (.c rfl .n))))))) rfl
      · refine .skp ?_
        exact .kq (J2 (v4, v5, v6) h) (.c rfl (.c rfl (.c rfl (.c rfl (.c rfl (.c rfl (.c rfl (.c rfl (.c rfl .n))))))))) (.c rfl (.c rfl (.c rfl (.c rfl (.c rfl (.c rfl (.c rfl .n)))))))
    · refine .xt rfl ?_
      replace h := mpR h hx1
      obtain rfl := Option.some.inj h
      refine .ks (l := [(0, .ptr 9000 0)]) (o := [(9000, some (.box [.ro (.list 1 (List.map e8 v6.b)), .own 9500, .own 9501])), (9500, some (.arr 59 3 (List.map cells_Place v6.places))), (9501, some (.arr 72 4 (List.map cells_stay_stroke v6.strokes)))]) (fun i => bif Nat.beq i 9501 then 100100002 else bif Nat.beq i 9500 then 100100001 else i) ?_ (.c rfl .n) (.c rfl (.c rfl (.c rfl .n))) rfl
      exact .rte (o := [(9000, some (.box [.ro (.list 1 (List.map e8 v6.b)), .own 9500, .own 9501])), (9500, some (.arr 59 3 (List.map cells_Place v6.places))), (9501, some (.arr 72 4 (List.map cells_stay_stroke v6.strokes)))]) Tryz.func53 (.n) (.c rfl (.c rfl (.c rfl .n))) rfl rfl (.c rfl .n) rfl

theorem stay_strokes_c {z : Option Nat} {p : Plan} {b : List Int} {r : List stay_stroke × Int} (h : stay_strokes z p b = some r) :
    AC Tryz.prog 25 [.ro (enc_Plan p), .ro (.list 1 (List.map e8 b))] (.tup [.own 0, .ro (.int .i64 r.2)]) [(0, .arr 72 4 (List.map cells_stay_stroke r.1))] := by
  refine AC.of Tryz.func25 rfl rfl fun w M0 hM => ?_
  unfold stay_strokes at h
  refine .sq ?_
  refine .rg (bx 2 (.t rfl) rfl rfl <| anm cells_stay_stroke 4 72 4 rfl rfl <| u (asg (.i rfl)) <| .nil _) rfl ?_
  refine .sq ?_
  refine be h fun x1 hx1 h => ?_
  refine .rg (u (mv (.t rfl)) <| cl [] cf15 (packet_Read_c hx1) (.c (.t rfl) <| .n) (.inl rfl) <| u (mv (.t rfl)) <| u (ex (.t rfl) rfl rfl) <| u (ex (.t rfl) rfl rfl) <| al 6 zf50 rfl <| st tf50 (.t rfl) rfl (.t rfl) rfl rfl rfl <| u (asg (.t rfl)) <| .nil _) rfl ?_
  refine .sq ?_
  refine .bl ?_
  refine .sq ?_
  refine .rg (u (mv (.t rfl)) <| u (bc (.t rfl) (.i rfl) rfl rfl) <| u (asg (.t rfl)) <| .nil _) rfl ?_
  refine .bq h (.t rfl) (fun h => ?_) (fun h => ?_)
  · refine .sq ?_
    refine .rg (u (mv (.t rfl)) <| anm cells_stay_stroke 100004 72 4 rfl rfl <| u (asg (.t rfl)) <| .nil _) rfl ?_
    obtain rfl := Option.some.inj h
    refine .ks (l := [(4, .own 0), (5, .ro (.int .i64 x1.2))]) (o := [(0, some (.arr 72 4 (List.map cells_stay_stroke [])))]) (fun i => bif Nat.beq i 0 then 100004 else i) ?_ (.c rfl (.c rfl .n)) (.c rfl .n) rfl
    exact .rt Tryz.func25 (.t rfl <| .t rfl <| .n) (.c rfl .n) rfl rfl
  · refine .sq ?_
    refine .sq ?_
    refine be h fun x2 hx2 h => ?_
    refine .rg (u (ld tf28 (.t rfl) rfl rfl) <| u (ld tf50 (.t rfl) rfl rfl) <| cl [] cf17 (plan_Fits_c hx2) (.c (.t rfl) <| .c (.t rfl) <| .n) (.inl rfl) <| u (no (.t rfl)) <| u (asg (.t rfl)) <| .nil _) rfl ?_
    refine .jq (t := some r) (fun (a : Bool × Plan) => ⟨[(1, .ro (.list 1 (List.map e8 b))), (2, .ptr 2 0), (6, .ptr 6 0), (18, .ro (.bool a.1))], [(2, some (.box [.ro (.bool a.2.setMarker), .ro (.bool a.2.marker), .ro (.bool a.2.setType), .ro (.int .i64 a.2.type), .ro (.bool a.2.setSeq), .ro (.int .u16 a.2.seq), .ro (.bool a.2.setTime), .ro (.int .u32 a.2.time), .ro (.bool a.2.setSsrc), .ro (.int .u32 a.2.ssrc), .ro (.list 2 (List.map cells_GMap a.2.maps)), .ro (.list 2 (List.map cells_Elem a.2.over)), .ro (.list 1 (List.map (ei .i64) a.2.drops)), .ro (.list 2 (List.map cells_Elem a.2.adds)), .ro (.bool a.2.noPad)])), (6, some (.box [.ro (.bool x1.1.head.hasPad), .ro (.bool x1.1.head.hasExt), .ro (.bool x1.1.head.marker), .ro (.int .i64 x1.1.head.type), .ro (.int .u16 x1.1.head.seq), .ro (.int .u32 x1.1.head.time), .ro (.int .u32 x1.1.head.ssrc), .ro (.list 1 (List.map (ei .u32) x1.1.head.csrc)), .ro (.int .u16 x1.1.profile), .ro (.list 1 (List.map e8 x1.1.ext)), .ro (.list 1 (List.map e8 x1.1.payload)), .ro (.int .i64 x1.1.pad)]))]⟩) (fun (a : Bool × Plan) => stay_strokes_j1 z b x1 a.1 a.2) ?_ (fun J1 => ?_)
    · rintro ⟨v3, v4⟩ h
      replace h : stay_strokes_j1 z b x1 v3 v4 = _ := h
      unfold stay_strokes_j1 at h
      refine .bq h (.t rfl) (fun h => ?_) (fun h => ?_)
      · refine .sq ?_
        refine .rg (anm cells_stay_stroke 4 72 4 rfl rfl <| u (asg (.i rfl)) <| .nil _) rfl ?_
        obtain rfl := Option.some.inj h
        refine .ks (l := [(4, .own 0), (5, .ro (.int .i64 9))]) (o := [(0, some (.arr 72 4 (List.map cells_stay_stroke [])))]) (fun i => bif Nat.beq i 0 then 4 else i) ?_ (.c rfl (.c rfl .n)) (.c rfl .n) rfl
        exact .rt Tryz.func25 (.t rfl <| .t rfl <| .n) (.c rfl .n) rfl rfl
      · refine .skp ?_
        refine .ib ?_
        refine .sq ?_
        refine .rg (u (mv (.t rfl)) <| u (bd bf100 zf100_2 (.c rfl (.t rfl) rfl rfl rfl <| .n) rfl) <| bx 28 (.t rfl) rfl rfl <| u (asg (.t rfl)) <| .nil _) rfl ?_
        refine .th (F := cells_stay_stroke) 28 2 702802 72 4 rfl rfl rfl ?_
        refine .sq ?_
        refine be h fun x5 hx5 h => ?_
        refine .rg (u (mv (.t rfl)) <| u (mv (.t rfl)) <| cnf 33000 cf49 (place_Of_c hx5) (.c (.t rfl) <| .n) rfl rfl rfl <| u (mv (.t rfl)) <| u (ex (.t rfl) rfl rfl) <| u (ex (.t rfl) rfl rfl) <| u (nkp (.t rfl)) <| u (fa ff100_1 (.t rfl)) <| st tf32 (.t rfl) rfl (.t rfl) rfl rfl rfl <| .nil _) rfl ?_
        refine .sq ?_
        refine be h fun x6 hx6 h => ?_
        refine .rd mixed (u (mv (.t rfl)) <| u (fa ff28_0 (.t rfl)) <| u (ld tf4 (.t rfl) rfl rfl) <| u (mv (.t rfl)) <| gd rfl rfl (fun hB => fa ff28_2 (.t rfl)) <| gd rfl rfl (fun hB => ld tf4 (.m rfl hB) rfl rfl) <| u (pko (.t rfl) (.t rfl)) <| u (ld tf28 (.t rfl) rfl rfl) <| cnf 0 cf51 (stay_kind_c v4) (.c (.t rfl) <| .n) rfl rfl rfl <| clo 47000000 cf50 (AW.lw (fun i => bif Nat.beq i 9101 then 702802 else bif Nat.beq i 9100 then 33000 else bif Nat.beq i 9000 then 28 else i) [9000] (stay_sheet_draw_y2_c hx6) rfl rfl rfl rfl rfl) (.c (.t rfl) <| .c (.t rfl) <| .c (.i rfl) <| .c (.t rfl) <| .n) rfl (.c rfl <| .c rfl <| .c rfl <| .n) rfl <| .nil _) (by kernel_rfl) rfl ?_
        refine .sq ?_
        refine be h fun x7 hx7 h => ?_
        refine .rd mixed (u (mv (.t rfl)) <| u (fa ff28_4 (.t rfl)) <| u (ld tf4 (.t rfl) rfl rfl) <| u (fa ff28_5 (.t rfl)) <| u (ld tf22 (.t rfl) rfl rfl) <| u (cv cv22_85 (.t rfl)) <| cnf 0 cf52 (stay_number_c (IntKind.u64.wrap v4.seq)) (.c (.t rfl) <| .n) rfl rfl rfl <| clo 55000000 cf50 (AW.lw (fun i => bif Nat.beq i 9101 then 47009501 else bif Nat.beq i 9100 then 47009500 else bif Nat.beq i 9000 then 28 else i) [9000] (stay_sheet_draw_y4_c hx7) rfl rfl rfl rfl rfl) (.c (.t rfl) <| .c (.t rfl) <| .c (.i rfl) <| .c (.t rfl) <| .n) rfl (.c rfl <| .c rfl <| .c rfl <| .n) rfl <| .nil _) (by kernel_rfl) rfl ?_
        refine .sq ?_
        refine be h fun x8 hx8 h => ?_
        refine .rd mixed (u (mv (.t rfl)) <| u (fa ff28_6 (.t rfl)) <| u (ld tf4 (.t rfl) rfl rfl) <| u (fa ff28_7 (.t rfl)) <| u (ld tf23 (.t rfl) rfl rfl) <| u (cv cv23_85 (.t rfl)) <| cnf 0 cf52 (stay_number_c (IntKind.u64.wrap v4.time)) (.c (.t rfl) <| .n) rfl rfl rfl <| clo 63000000 cf50 (AW.lw (fun i => bif Nat.beq i 9101 then 55009501 else bif Nat.beq i 9100 then 55009500 else bif Nat.beq i 9000 then 28 else i) [9000] (stay_sheet_draw_y4_c hx8) rfl rfl rfl rfl rfl) (.c (.t rfl) <| .c (.t rfl) <| .c (.i rfl) <| .c (.t rfl) <| .n) rfl (.c rfl <| .c rfl <| .c rfl <| .n) rfl <| .nil _) (by kernel_rfl) rfl ?_
        refine .sq ?_
        refine be h fun x9 hx9 h => ?_
        refine .rd mixed (u (mv (.t rfl)) <| u (fa ff28_8 (.t rfl)) <| u (ld tf4 (.t rfl) rfl rfl) <| u (fa ff28_9 (.t rfl)) <| u (ld tf23 (.t rfl) rfl rfl) <| u (cv cv23_85 (.t rfl)) <| cnf 0 cf52 (stay_number_c (IntKind.u64.wrap v4.ssrc)) (.c (.t rfl) <| .n) rfl rfl rfl <| clo 71000000 cf50 (AW.lw (fun i => bif Nat.beq i 9101 then 63009501 else bif Nat.beq i 9100 then 63009500 else bif Nat.beq i 9000 then 28 else i) [9000] (stay_sheet_draw_y4_c hx9) rfl rfl rfl rfl rfl) (.c (.t rfl) <| .c (.t rfl) <| .c (.i rfl) <| .c (.t rfl) <| .n) rfl (.c rfl <| .c rfl <| .c rfl <| .n) rfl <| .nil _) (by kernel_rfl) rfl ?_
        refine .sq ?_
        refine be h fun x10 hx10 h => ?_
        refine .rg (u (mv (.t rfl)) <| u (ld tf28 (.t rfl) rfl rfl) <| u (ld tf50 (.t rfl) rfl rfl) <| clo 75000000 cf53 (AW.lw (fun i => bif Nat.beq i 9101 then 71009501 else bif Nat.beq i 9100 then 71009500 else bif Nat.beq i 9000 then 28 else i) [9000] (stay_sheet_elements_y2_c hx10) rfl rfl rfl rfl rfl) (.c (.t rfl) <| .c (.t rfl) <| .c (.t rfl) <| .n) rfl (.c rfl <| .c rfl <| .c rfl <| .n) rfl <| .nil _) rfl ?_
        refine .sq ?_
        refine .rg (u (mv (.t rfl)) <| u (nkp (.t rfl)) <| u (fa ff100_2 (.t rfl)) <| u (ld tf68 (.t rfl) rfl rfl) <| u (asg (.t rfl)) <| u (asg (.i rfl)) <| .nil _) rfl ?_
        obtain rfl := Option.some.inj h
        refine .ks (l := [(4, .own 0), (5, .ro (.int .i64 0))]) (o := [(0, some (.arr 72 4 (List.map cells_stay_stroke x10.strokes)))]) (fun i => bif Nat.beq i 0 then 75009501 else i) ?_ (.c rfl (.c rfl .n)) (.c rfl .n) rfl
        exact .rt Tryz.func25 (.t rfl <| .t rfl <| .n) (.c rfl .n) rfl rfl
    refine .bq h (.t rfl) (fun h => ?_) (fun h => ?_)
    · refine .skp ?_
      exact .kq (J1 ((!x2), p) h) (.c rfl (.c rfl (.c rfl (.c rfl .n)))) (.c rfl (.c rfl .n))
    · refine .rg (u (ld tf28 (.t rfl) rfl rfl) <| cl [] cf16 (plan_Keeps_c p) (.c (.t rfl) <| .n) (.inl rfl) <| u (no (.t rfl)) <| u (asg (.t rfl)) <| .nil _) rfl ?_
      exact .kq (J1 ((!(plan_Keeps p)), p) h) (.c rfl (.c rfl (.c rfl (.c rfl .n)))) (.c rfl (.c rfl .n))

theorem stay_strokes_r {z : Option Nat} {p : Plan} {b : List Int} {r : List stay_stroke × Int} (h : stay_strokes z p b = some r) :
    AC Tryz.prog 25 [.ro (enc_Plan p), .ro (.list 1 (List.map e8 b))] (.ro (.tup [.list 4 (List.map cells_stay_stroke r.1), .int .i64 r.2])) [] := AC.fz (stay_strokes_c h) rfl

theorem stay_Stay_c {z : Option Nat} {p : Plan} {b : List Int} {r : List Int × Int} (h : stay_Stay z p b = some r) :
    AC Tryz.prog 11 [.ro (enc_Plan p), .ro (.list 1 (List.map e8 b))] (.tup [.own 0, .ro (.int .i64 r.2)]) [(0, .arr 5 1 (List.map e8 r.1))] := by
  refine AC.of Tryz.func11 rfl rfl fun w M0 hM => ?_
  unfold stay_Stay at h
  refine .sq ?_
  refine .rg (bx 2 (.t rfl) rfl rfl <| anm e8 4 5 1 rfl rfl <| u (asg (.i rfl)) <| .nil _) rfl ?_
  refine .sq ?_
  refine be h fun x1 hx1 h => ?_
  refine .rg (u (ld tf28 (.t rfl) rfl rfl) <| u (mv (.t rfl)) <| cnf 15000 cf25 (stay_strokes_c hx1) (.c (.t rfl) <| .c (.t rfl) <| .n) rfl rfl rfl <| u (mv (.t rfl)) <| u (ex (.t rfl) rfl rfl) <| u (ex (.t rfl) rfl rfl) <| u (asg (.t rfl)) <| u (asg (.t rfl)) <| .nil _) rfl ?_
  refine .sq ?_
  refine .sq ?_
  refine .rg (u (mv (.t rfl)) <| u (bc (.t rfl) (.i rfl) rfl rfl) <| .nil _) rfl ?_
  refine .bq h (.t rfl) (fun h => ?_) (fun h => ?_)
  · refine .sq ?_
    refine .rg (u (mv (.t rfl)) <| anm e8 100004 5 1 rfl rfl <| u (asg (.t rfl)) <| .nil _) rfl ?_
    obtain rfl := Option.some.inj h
    refine .ks (l := [(4, .own 0), (5, .ro (.int .i64 x1.2))]) (o := [(0, some (.arr 5 1 (List.map e8 [])))]) (fun i => bif Nat.beq i 0 then 100004 else i) ?_ (.c rfl (.c rfl .n)) (.c rfl .n) rfl
    exact .rt Tryz.func11 (.t rfl <| .t rfl <| .n) (.c rfl .n) rfl rfl
  · refine .skp ?_
    refine .sq ?_
    refine be h fun x2 hx2 h => ?_
    refine .rg (u (mv (.t rfl)) <| cnl 21 cf28 (slices_Clone_c hx2) (.c (.t rfl) <| .n) rfl <| u (asg (.t rfl)) <| .nil _) rfl ?_
    refine .sq ?_
    refine .sq ?_
    refine .rg (u (mv (.t rfl)) <| u (lom sf68 (.t rfl) rfl) <| u (mv (.i rfl)) <| .nil _) rfl ?_
    refine .bl ?_
    unfold stay_Stay_l1 at h
    refine .ks (fun i => bif Nat.beq i 8 then 21 else i) (.lo (fun (s : List Int × Int) => ⟨[(8, .own 8), (22, .own 15000), (23, .ro (.int .i64 (x1.1.length : Int))), (24, .ro (.int .i64 s.2))], [(8, some (.arr 5 1 (List.map e8 s.1))), (15000, some (.arr 72 4 (List.map cells_stay_stroke x1.1)))]⟩) h ?_) (.c rfl (.c rfl (.c rfl (.c rfl .n)))) (.c rfl (.c rfl .n)) rfl
    rintro ⟨v3, v4⟩ u1 h ih1 hx1
    replace h : stay_Stay_s1 z x1 v3 v4 = _ := h
    unfold stay_Stay_s1 at h
    refine .sq ?_
    refine .rg (u (bc (.t rfl) (.t rfl) rfl rfl) <| .nil _) rfl ?_
    refine .sq ?_
    refine .bq h (.t rfl) (fun h => ?_) (fun h => ?_)
    · refine .skp ?_
      refine .sq ?_
      refine .bl ?_
      refine .sq ?_
      refine be h fun x5 hx5 h => ?_
      refine .rg (u (io sf68 (.t rfl) rfl (.t rfl) (ix_map cells_stay_stroke hx5)) <| u (le tf72 (.t rfl) rfl (ix_lt (ix_map _ hx5)).2.2 rfl) <| al 10 zf72 rfl <| st tf72 (.t rfl) rfl (.t rfl) rfl rfl rfl <| .nil _) rfl ?_
      refine be h fun x6 hx6 h => ?_
      refine .rd mixed (u (mv (.t rfl)) <| u (fa ff72_0 (.t rfl)) <| u (fa ff59_1 (.t rfl)) <| u (ld tf3 (.t rfl) rfl rfl) <| u (fa ff72_0 (.t rfl)) <| u (fa ff59_1 (.t rfl)) <| u (ld tf3 (.t rfl) rfl rfl) <| u (fa ff72_0 (.t rfl)) <| u (fa ff59_2 (.t rfl)) <| u (ld tf3 (.t rfl) rfl rfl) <| u (bi (.t rfl) (.t rfl) rfl) <| u (slv (F := e8) sf29 (.t rfl) rfl (.s (.t rfl)) (.s (.t rfl)) hx6) <| u (fa ff72_1 (.t rfl)) <| u (ld tf29 (.t rfl) rfl rfl) <| cpc (F := e8) (l := v3) (m := x5.bytes) (a := x5.place.at_) (b := (ar .add .i64 x5.place.at_ x5.place.size)) sf29 (.t rfl) (.inl rfl) (sub_bd hx6) rfl (.r (.t rfl)) <| .nil _) (by kernel_rfl) rfl ?_
      refine .ib ?_
      refine .rg (u (bi (.t rfl) (.i rfl) rfl) <| u (mv (.t rfl)) <| .nil _) rfl ?_
      exact .kq (.il (ih1 ((cpy v3 x5.place.at_ (ar .add .i64 x5.place.at_ x5.place.size) x5.bytes), (ar .add .i64 v4 1)) (nxi h))) (.c rfl (.c rfl (.c rfl (.c rfl .n)))) (.c rfl (.c rfl .n))
    · refine .xt rfl ?_
      replace h := mpR h hx1
      refine .sq ?_
      refine .rg (u (mv (.t rfl)) <| u (asg (.t rfl)) <| u (asg (.i rfl)) <| .nil _) rfl ?_
      obtain rfl := Option.some.inj h
      refine .ks (l := [(4, .own 0), (5, .ro (.int .i64 0))]) (o := [(0, some (.arr 5 1 (List.map e8 v3)))]) (fun i => bif Nat.beq i 0 then 8 else i) ?_ (.c rfl (.c rfl .n)) (.c rfl .n) rfl
      exact .rt Tryz.func11 (.t rfl <| .t rfl <| .n) (.c rfl .n) rfl rfl

theorem stay_Stay_r {z : Option Nat} {p : Plan} {b : List Int} {r : List Int × Int} (h : stay_Stay z p b = some r) :
    AC Tryz.prog 11 [.ro (enc_Plan p), .ro (.list 1 (List.map e8 b))] (.ro (.tup [.list 1 (List.map e8 r.1), .int .i64 r.2])) [] := AC.fz (stay_Stay_c h) rfl

theorem stay_Places_c {z : Option Nat} {p : Plan} {b : List Int} {r : List Place × Int} (h : stay_Places z p b = some r) :
    AC Tryz.prog 8 [.ro (enc_Plan p), .ro (.list 1 (List.map e8 b))] (.tup [.own 0, .ro (.int .i64 r.2)]) [(0, .arr 59 3 (List.map cells_Place r.1))] := by
  refine AC.of Tryz.func8 rfl rfl fun w M0 hM => ?_
  unfold stay_Places at h
  refine .sq ?_
  refine .rg (bx 2 (.t rfl) rfl rfl <| anm cells_Place 4 59 3 rfl rfl <| u (asg (.i rfl)) <| .nil _) rfl ?_
  refine .sq ?_
  refine be h fun x1 hx1 h => ?_
  refine .rg (u (ld tf28 (.t rfl) rfl rfl) <| u (mv (.t rfl)) <| cnf 15000 cf25 (stay_strokes_c hx1) (.c (.t rfl) <| .c (.t rfl) <| .n) rfl rfl rfl <| u (mv (.t rfl)) <| u (ex (.t rfl) rfl rfl) <| u (ex (.t rfl) rfl rfl) <| u (asg (.t rfl)) <| u (asg (.t rfl)) <| .nil _) rfl ?_
  refine .sq ?_
  refine .sq ?_
  refine .rg (u (mv (.t rfl)) <| u (bc (.t rfl) (.i rfl) rfl rfl) <| .nil _) rfl ?_
  refine .bq h (.t rfl) (fun h => ?_) (fun h => ?_)
  · refine .sq ?_
    refine .rg (u (mv (.t rfl)) <| anm cells_Place 100004 59 3 rfl rfl <| u (asg (.t rfl)) <| .nil _) rfl ?_
    obtain rfl := Option.some.inj h
    refine .ks (l := [(4, .own 0), (5, .ro (.int .i64 x1.2))]) (o := [(0, some (.arr 59 3 (List.map cells_Place [])))]) (fun i => bif Nat.beq i 0 then 100004 else i) ?_ (.c rfl (.c rfl .n)) (.c rfl .n) rfl
    exact .rt Tryz.func8 (.t rfl <| .t rfl <| .n) (.c rfl .n) rfl rfl
  · refine .skp ?_
    refine .sq ?_
    refine .rg (anm cells_Place 8 59 3 rfl rfl <| .nil _) rfl ?_
    refine .sq ?_
    refine .sq ?_
    refine .rg (u (mv (.t rfl)) <| u (lom sf68 (.t rfl) rfl) <| u (mv (.i rfl)) <| .nil _) rfl ?_
    refine .bl ?_
    unfold stay_Places_l1 at h
    refine .kq (.lo (fun (s : List Place × Int) => ⟨[(8, .own 8), (20, .own 15000), (21, .ro (.int .i64 (x1.1.length : Int))), (22, .ro (.int .i64 s.2))], [(8, some (.arr 59 3 (List.map cells_Place s.1))), (15000, some (.arr 72 4 (List.map cells_stay_stroke x1.1)))]⟩) h ?_) (.c rfl (.c rfl (.c rfl (.c rfl .n)))) (.c rfl (.c rfl .n))
    rintro ⟨v2, v3⟩ u1 h ih1 hx1
    replace h : stay_Places_s1 z x1 v2 v3 = _ := h
    unfold stay_Places_s1 at h
    refine .sq ?_
    refine .rg (u (bc (.t rfl) (.t rfl) rfl rfl) <| .nil _) rfl ?_
    refine .sq ?_
    refine .bq h (.t rfl) (fun h => ?_) (fun h => ?_)
    · refine .skp ?_
      refine .sq ?_
      refine .bl ?_
      refine .sq ?_
      refine be h fun x4 hx4 h => ?_
      refine .rg (u (io sf68 (.t rfl) rfl (.t rfl) (ix_map cells_stay_stroke hx4)) <| u (le tf72 (.t rfl) rfl (ix_lt (ix_map _ hx4)).2.2 rfl) <| al 10 zf72 rfl <| st tf72 (.t rfl) rfl (.t rfl) rfl rfl rfl <| .nil _) rfl ?_
      refine be h fun x5 hx5 h => ?_
      refine .rg (u (mv (.t rfl)) <| u (fa ff72_0 (.t rfl)) <| u (ld tf59 (.t rfl) rfl rfl) <| bs (F := cells_Place) (l := [x4.place]) 29 pf32 (.c (.t rfl) rfl <| .n) rfl (fun _ _ => rfl) rfl rfl <| apo 30 pf32 (.t rfl) rfl (.t rfl) rfl hx5 rfl <| u (asg (.t rfl)) <| .nil _) rfl ?_
      refine .ib ?_
      refine .rg (u (bi (.t rfl) (.i rfl) rfl) <| u (mv (.t rfl)) <| .nil _) rfl ?_
      exact .ks (fun i => bif Nat.beq i 8 then 30 else i) (.il (ih1 (x5, (ar .add .i64 v3 1)) (nxi h))) (.c rfl (.c rfl (.c rfl (.c rfl .n)))) (.c rfl (.c rfl .n)) rfl
    · refine .xt rfl ?_
      replace h := mpR h hx1
      refine .sq ?_
      refine .rg (u (mv (.t rfl)) <| u (asg (.t rfl)) <| u (asg (.i rfl)) <| .nil _) rfl ?_
      obtain rfl := Option.some.inj h
      refine .ks (l := [(4, .own 0), (5, .ro (.int .i64 0))]) (o := [(0, some (.arr 59 3 (List.map cells_Place v2)))]) (fun i => bif Nat.beq i 0 then 8 else i) ?_ (.c rfl (.c rfl .n)) (.c rfl .n) rfl
      exact .rt Tryz.func8 (.t rfl <| .t rfl <| .n) (.c rfl .n) rfl rfl

theorem stay_Places_r {z : Option Nat} {p : Plan} {b : List Int} {r : List Place × Int} (h : stay_Places z p b = some r) :
    AC Tryz.prog 8 [.ro (enc_Plan p), .ro (.list 1 (List.map e8 b))] (.ro (.tup [.list 3 (List.map cells_Place r.1), .int .i64 r.2])) [] := AC.fz (stay_Places_c h) rfl

theorem slices_Clone2_c {l r : List Int} (h : slices_Clone2 l = some r) : AC Tryz.prog 77 [.ro (.list 1 (List.map (ei .u32) l))] (.own 0) [(0, .arr 23 1 (List.map (ei .u32) r))] := by
  unfold slices_Clone2 at h
  obtain rfl := app_nil h
  refine AC.of Tryz.func77 rfl rfl fun w M0 hM => ?_
  refine .sq ?_
  refine .rg (anm (ei .u32) 0 23 1 rfl rfl <| .nil _) rfl ?_
  refine .sq ?_
  refine .sq ?_
  refine .nq rfl sf46 rfl rfl fun b hb => ?_
  refine .cd (.t rfl) (fun hh => ?_) (fun _ => ?_)
  · have hl := hb hh
    obtain rfl := List.map_eq_nil_iff.1 hl
    refine .sq ?_
    refine .rg (anm (ei .u32) 10 23 1 rfl rfl <| .nil _) rfl ?_
    refine .ks (l := [(2, .own 0)]) (o := [(0, some (.arr 23 1 (List.map (ei .u32) [])))]) (fun i => bif Nat.beq i 0 then 10 else i) ?_ (.c rfl .n) (.c rfl .n) rfl
    exact .rt Tryz.func77 (.t rfl <| .n) (.c rfl .n) rfl rfl
  · refine .skp ?_
    refine .sq ?_
    refine .rg (bs (F := (ei .u32)) (l := ([] : List Int)) 5 pf46 .n rfl (fun _ _ => rfl) rfl rfl <| u (mv (.t rfl)) <| ap 7 pf46 (.t rfl) rfl (.t rfl) h rfl <| u (asg (.t rfl)) <| .nil _) rfl ?_
    refine .ks (l := [(2, .own 0)]) (o := [(0, some (.arr 23 1 (List.map (ei .u32) l)))]) (fun i => bif Nat.beq i 0 then 7 else i) ?_ (.c rfl .n) (.c rfl .n) rfl
    exact .rt Tryz.func77 (.t rfl <| .n) (.c rfl .n) rfl rfl

theorem slices_Clone2_r {l r : List Int} (h : slices_Clone2 l = some r) : AC Tryz.prog 77 [.ro (.list 1 (List.map (ei .u32) l))] (.ro (.list 1 (List.map (ei .u32) r))) [] := AC.fz (slices_Clone2_c h) rfl

theorem plan_own_c {k : Packet} {r : Packet} (h : plan_own k = some r) :
    AC Tryz.prog 40 [.ro (enc_Packet k)] (.ro (enc_Packet r)) [] := by
  refine AC.of Tryz.func40 rfl rfl fun w M0 hM => ?_
  unfold plan_own at h
  refine .sq ?_
  refine .rg (bx 1 (.t rfl) rfl rfl <| al 2 zf50 rfl <| .nil _) rfl ?_
  refine .sq ?_
  refine be h fun x1 hx1 h => ?_
  refine be h fun x2 hx2 h => ?_
  refine be h fun x3 hx3 h => ?_
  refine .rd mixed (u (fa ff50_0 (.t rfl)) <| u (fa ff48_7 (.t rfl)) <| u (ld tf46 (.t rfl) rfl rfl) <| cnl 6 cf77 (slices_Clone2_c hx1) (.c (.t rfl) <| .n) rfl <| u (fa ff50_2 (.t rfl)) <| u (ld tf29 (.t rfl) rfl rfl) <| cnl 9 cf28 (slices_Clone_c hx2) (.c (.t rfl) <| .n) rfl <| u (fa ff50_3 (.t rfl)) <| u (ld tf29 (.t rfl) rfl rfl) <| cnl 12 cf28 (slices_Clone_c hx3) (.c (.t rfl) <| .n) rfl <| u (fa ff50_0 (.t rfl)) <| u (fa ff48_7 (.t rfl)) <| st tf46 (.t rfl) rfl (.t rfl) rfl rfl rfl <| u (fa ff50_2 (.t rfl)) <| st tf29 (.t rfl) rfl (.t rfl) rfl rfl rfl <| u (fa ff50_3 (.t rfl)) <| st tf29 (.t rfl) rfl (.t rfl) rfl rfl rfl <| .nil _) (by kernel_rfl) rfl ?_
  refine .sq ?_
  refine .rg (u (ld tf50 (.t rfl) rfl rfl) <| st tf50 (.t rfl) rfl (.t rfl) rfl rfl rfl <| .nil _) rfl ?_
  refine .fz 6 rfl ?_
  refine .fz 9 rfl ?_
  refine .fz 12 rfl ?_
  obtain rfl := Option.some.inj h
  exact .rt Tryz.func40 (.c tf50 rfl rfl rfl <| .n) .n rfl rfl

theorem plan_Apply_c {z : Option Nat} {p : Plan} {k : Packet} {r : Packet × Int} (h : plan_Apply z p k = some r) :
    AC Tryz.prog 18 [.ro (enc_Plan p), .ro (enc_Packet k)] (.ro (.tup [enc_Packet r.1, .int .i64 r.2])) [] := by
  refine AC.of Tryz.func18 rfl rfl fun w M0 hM => ?_
  unfold plan_Apply at h
  refine .sq ?_
  refine .rg (bx 2 (.t rfl) rfl rfl <| bx 3 (.t rfl) rfl rfl <| al 4 zf50 rfl <| u (asg (.i rfl)) <| .nil _) rfl ?_
  refine .sq ?_
  refine be h fun x1 hx1 h => ?_
  refine .rg (u (ld tf28 (.t rfl) rfl rfl) <| u (ld tf50 (.t rfl) rfl rfl) <| cl [] cf38 (plan_behind_c hx1) (.c (.t rfl) <| .c (.t rfl) <| .n) (.inl rfl) <| u (mv (.t rfl)) <| u (ex (.t rfl) rfl rfl) <| u (ex (.t rfl) rfl rfl) <| al 6 zf50 rfl <| st tf50 (.t rfl) rfl (.t rfl) rfl rfl rfl <| u (asg (.t rfl)) <| .nil _) rfl ?_
  refine .sq ?_
  refine .bl ?_
  refine .sq ?_
  refine .rg (u (ld tf50 (.t rfl) rfl rfl) <| cl [] cf39 (packet_Right_c k) (.c (.t rfl) <| .n) (.inl rfl) <| u (no (.t rfl)) <| u (asg (.t rfl)) <| .nil _) rfl ?_
  refine .bq h (.t rfl) (fun h => ?_) (fun h => ?_)
  · refine .sq ?_
    refine .rg (u (bd bf50 zf50 (.n) rfl) <| st tf50 (.t rfl) rfl (.t rfl) rfl rfl rfl <| u (asg (.i rfl)) <| .nil _) rfl ?_
    obtain rfl := Option.some.inj h
    exact .rt Tryz.func18 (.c tf50 rfl rfl rfl <| .t rfl <| .n) .n rfl rfl
  · refine .sq ?_
    refine .rg (u (mv (.t rfl)) <| u (no (.t rfl)) <| u (asg (.t rfl)) <| .nil _) rfl ?_
    refine .bq h (.t rfl) (fun h => ?_) (fun h => ?_)
    · refine .sq ?_
      refine .rg (u (bd bf50 zf50 (.n) rfl) <| st tf50 (.t rfl) rfl (.t rfl) rfl rfl rfl <| u (asg (.i rfl)) <| .nil _) rfl ?_
      obtain rfl := Option.some.inj h
      exact .rt Tryz.func18 (.c tf50 rfl rfl rfl <| .t rfl <| .n) .n rfl rfl
    · refine .skp ?_
      refine .ib ?_
      refine .sq ?_
      refine be h fun x2 hx2 h => ?_
      refine .rg (u (ld tf50 (.t rfl) rfl rfl) <| cl [] cf40 (plan_own_c hx2) (.c (.t rfl) <| .n) (.inl rfl) <| st tf50 (.t rfl) rfl (.t rfl) rfl rfl rfl <| u (asg (.i rfl)) <| .nil _) rfl ?_
      obtain rfl := Option.some.inj h
      exact .rt Tryz.func18 (.c tf50 rfl rfl rfl <| .t rfl <| .n) .n rfl rfl

theorem head_flag_c (is_ : Bool) (bit : Int) :
    AC Tryz.prog 81 [.ro (.bool is_), .ro (.int .u8 bit)] (.ro (.int .u8 (head_flag is_ bit))) [] := by
  obtain ⟨r, h⟩ : ∃ r, head_flag is_ bit = r := ⟨_, rfl⟩
  rw [h]
  refine AC.of Tryz.func81 rfl rfl fun w M0 hM => ?_
  unfold head_flag at h
  refine .sq ?_
  refine .rg (u (asg (.i rfl)) <| .nil _) rfl ?_
  refine .sq ?_
  refine .sq ?_
  refine .rg (u (mv (.t rfl)) <| .nil _) rfl ?_
  refine .bq h (.t rfl) (fun h => ?_) (fun h => ?_)
  · refine .sq ?_
    refine .rg (u (mv (.t rfl)) <| u (asg (.t rfl)) <| .nil _) rfl ?_
    subst h
    exact .rt Tryz.func81 (.t rfl <| .n) .n rfl rfl
  · refine .skp ?_
    refine .sq ?_
    refine .rg (u (asg (.i rfl)) <| .nil _) rfl ?_
    subst h
    exact .rt Tryz.func81 (.t rfl <| .n) .n rfl rfl

theorem head_four_c {n : Int} {r : List Int} (h : head_four n = some r) :
    AC Tryz.prog 82 [.ro (.int .u32 n)] (.own 0) [(0, .arr 5 1 (List.map e8 r))] := by
  refine AC.of Tryz.func82 rfl rfl fun w M0 hM => ?_
  unfold head_four at h
  refine .sq ?_
  refine .rg (anm e8 2 5 1 rfl rfl <| .nil _) rfl ?_
  refine .sq ?_
  refine be h fun x1 hx1 h => ?_
  refine .rg (u (mv (.t rfl)) <| u (cv cv23_85 (.t rfl)) <| cnf 9000 cf46 (octet_Put_c hx1) (.c (.t rfl) <| .c (.i rfl) <| .n) rfl rfl rfl <| u (mv (.t rfl)) <| u (ex (.t rfl) rfl rfl) <| u (ex (.t rfl) rfl rfl) <| u (asg (.t rfl)) <| u (asg (.t rfl)) <| .nil _) rfl ?_
  refine .sq ?_
  refine .rg (u (mv (.t rfl)) <| u (asg (.t rfl)) <| .nil _) rfl ?_
  obtain rfl := Option.some.inj h
  refine .ks (l := [(2, .own 0)]) (o := [(0, some (.arr 5 1 (List.map e8 x1.1)))]) (fun i => bif Nat.beq i 0 then 9000 else i) ?_ (.c rfl .n) (.c rfl .n) rfl
  exact .rt Tryz.func82 (.t rfl <| .n) (.c rfl .n) rfl rfl

theorem head_four_r {n : Int} {r : List Int} (h : head_four n = some r) :
    AC Tryz.prog 82 [.ro (.int .u32 n)] (.ro (.list 1 (List.map e8 r))) [] := AC.fz (head_four_c h) rfl

theorem octet_Join_c {z : Option Nat} {l : List (List Int)} {r : List Int} (h : octet_Join z l = some r) :
    AC Tryz.prog 47 [.ro (.list 1 (List.map (el 1 e8) l))] (.own 0) [(0, .arr 5 1 (List.map e8 r))] := by
  refine AC.of Tryz.func47 rfl rfl fun w M0 hM => ?_
  unfold octet_Join at h
  refine .sq ?_
  refine .rg (anm e8 2 5 1 rfl rfl <| .nil _) rfl ?_
  refine .sq ?_
  refine be h fun x1 hx1 h => ?_
  refine .rg (u (mv (.t rfl)) <| cnf 5000 cf85 (slices_Concat_byte_c hx1) (.c (.t rfl) <| .n) rfl rfl rfl <| u (asg (.t rfl)) <| .nil _) rfl ?_
  obtain rfl := Option.some.inj h
  refine .ks (l := [(2, .own 0)]) (o := [(0, some (.arr 5 1 (List.map e8 x1)))]) (fun i => bif Nat.beq i 0 then 5000 else i) ?_ (.c rfl .n) (.c rfl .n) rfl
  exact .rt Tryz.func47 (.t rfl <| .n) (.c rfl .n) rfl rfl

theorem octet_Join_r {z : Option Nat} {l : List (List Int)} {r : List Int} (h : octet_Join z l = some r) :
    AC Tryz.prog 47 [.ro (.list 1 (List.map (el 1 e8) l))] (.ro (.list 1 (List.map e8 r))) [] := AC.fz (octet_Join_c h) rfl

theorem head_Write_c {z : Option Nat} {p_h : Head} {r : List Int × Int} (h : head_Write z p_h = some r) :
    AC Tryz.prog 45 [.ro (enc_Head p_h)] (.tup [.own 0, .ro (.int .i64 r.2)]) [(0, .arr 5 1 (List.map e8 r.1))] := by
  refine AC.of Tryz.func45 rfl rfl fun w M0 hM => ?_
  unfold head_Write at h
  refine .sq ?_
  refine .rg (bx 1 (.t rfl) rfl rfl <| anm e8 2 5 1 rfl rfl <| u (asg (.i rfl)) <| .nil _) rfl ?_
  refine .sq ?_
  refine .sq ?_
  refine .rg (u (ld tf48 (.t rfl) rfl rfl) <| cl [] cf74 (head_Right_c p_h) (.c (.t rfl) <| .n) (.inl rfl) <| u (no (.t rfl)) <| .nil _) rfl ?_
  refine .bq h (.t rfl) (fun h => ?_) (fun h => ?_)
  · refine .sq ?_
    refine .rg (anm e8 100002 5 1 rfl rfl <| u (asg (.i rfl)) <| .nil _) rfl ?_
    obtain rfl := Option.some.inj h
    refine .ks (l := [(2, .own 0), (3, .ro (.int .i64 1))]) (o := [(0, some (.arr 5 1 (List.map e8 [])))]) (fun i => bif Nat.beq i 0 then 100002 else i) ?_ (.c rfl (.c rfl .n)) (.c rfl .n) rfl
    exact .rt Tryz.func45 (.t rfl <| .t rfl <| .n) (.c rfl .n) rfl rfl
  · refine .skp ?_
    refine .sq ?_
    refine .rd mixed (u (fa ff48_0 (.t rfl)) <| u (ld tf4 (.t rfl) rfl rfl) <| cl [] cf81 (head_flag_c p_h.hasPad 32) (.c (.t rfl) <| .c (.i rfl) <| .n) (.inl rfl) <| u (bi (.i rfl) (.t rfl) rfl) <| u (fa ff48_1 (.t rfl)) <| u (ld tf4 (.t rfl) rfl rfl) <| cl [] cf81 (head_flag_c p_h.hasExt 16) (.c (.t rfl) <| .c (.i rfl) <| .n) (.inl rfl) <| u (bi (.t rfl) (.t rfl) rfl) <| u (fa ff48_7 (.t rfl)) <| u (ld tf46 (.t rfl) rfl rfl) <| u (lnm sf46 (.t rfl)) <| u (cv cv3_5 (.t rfl)) <| u (bi (.t rfl) (.t rfl) rfl) <| u (asg (.t rfl)) <| .nil _) (by kernel_rfl) rfl ?_
    refine .sq ?_
    refine be h fun x1 hx1 h => ?_
    refine .rg (u (fa ff48_4 (.t rfl)) <| u (ld tf22 (.t rfl) rfl rfl) <| u (cv cv22_85 (.t rfl)) <| cnf 31000 cf46 (octet_Put_c hx1) (.c (.t rfl) <| .c (.i rfl) <| .n) rfl rfl rfl <| u (mv (.t rfl)) <| u (ex (.t rfl) rfl rfl) <| u (ex (.t rfl) rfl rfl) <| u (asg (.t rfl)) <| u (asg (.t rfl)) <| .nil _) rfl ?_
    refine .sq ?_
    refine .fz 31000 rfl ?_
    refine be h fun x2 hx2 h => ?_
    refine be h fun x3 hx3 h => ?_
    refine be h fun x4 hx4 h => ?_
    refine .rd mixed (u (mv (.t rfl)) <| u (fa ff48_2 (.t rfl)) <| u (ld tf4 (.t rfl) rfl rfl) <| cl [] cf81 (head_flag_c p_h.marker 128) (.c (.t rfl) <| .c (.i rfl) <| .n) (.inl rfl) <| u (fa ff48_3 (.t rfl)) <| u (ld tf3 (.t rfl) rfl rfl) <| u (cv cv3_5 (.t rfl)) <| u (bi (.t rfl) (.t rfl) rfl) <| nu (bsn (F := e8) (l := [(ar .or .u8 (ar .or .u8 (ar .or .u8 128 (head_flag p_h.hasPad 32)) (head_flag p_h.hasExt 16)) (IntKind.u8.wrap (p_h.csrc.length : Int))), (ar .or .u8 (head_flag p_h.marker 128) (IntKind.u8.wrap p_h.type))]) pf29 (.c (.t rfl) rfl <| .c (.t rfl) rfl <| .n) rfl (fun _ _ => rfl) rfl) <| u (mv (.t rfl)) <| u (fa ff48_5 (.t rfl)) <| u (ld tf23 (.t rfl) rfl rfl) <| cl [] cf82 (head_four_r hx2) (.c (.t rfl) <| .n) (.inl rfl) <| u (fa ff48_6 (.t rfl)) <| u (ld tf23 (.t rfl) rfl rfl) <| cl [] cf82 (head_four_r hx3) (.c (.t rfl) <| .n) (.inl rfl) <| nu (bsn (F := (el 1 e8)) (l := [[(ar .or .u8 (ar .or .u8 (ar .or .u8 128 (head_flag p_h.hasPad 32)) (head_flag p_h.hasExt 16)) (IntKind.u8.wrap (p_h.csrc.length : Int))), (ar .or .u8 (head_flag p_h.marker 128) (IntKind.u8.wrap p_h.type))], x1.1, x2, x3]) pf136 (.c (.t rfl) rfl <| .c (.t rfl) rfl <| .c (.t rfl) rfl <| .c (.t rfl) rfl <| .n) rfl (fun _ _ => rfl) rfl) <| cnf 51000 cf47 (octet_Join_c hx4) (.c (.t rfl) <| .n) rfl rfl rfl <| u (asg (.t rfl)) <| .nil _) (by kernel_rfl) rfl ?_
    refine .sq ?_
    refine .sq ?_
    refine .rg (u (fa ff48_7 (.t rfl)) <| u (ld tf46 (.t rfl) rfl rfl) <| u (lnm sf46 (.t rfl)) <| u (mv (.i rfl)) <| .nil _) rfl ?_
    refine .bl ?_
    unfold head_Write_l1 at h
    refine .ks (fun i => bif Nat.beq i 7 then 51000 else i) (.lo (fun (s : List Int × Int) => ⟨[(7, .own 7), (52, .ro (.list 1 (List.map (ei .u32) p_h.csrc))), (53, .ro (.int .i64 (p_h.csrc.length : Int))), (54, .ro (.int .i64 s.2))], [(7, some (.arr 5 1 (List.map e8 s.1)))]⟩) h ?_) (.c rfl (.c rfl (.c rfl (.c rfl .n)))) (.c rfl .n) rfl
    rintro ⟨v5, v6⟩ u1 h ih1 hx1
    replace h : head_Write_s1 z p_h v5 v6 = _ := h
    unfold head_Write_s1 at h
    refine .sq ?_
    refine .rg (u (bc (.t rfl) (.t rfl) rfl rfl) <| .nil _) rfl ?_
    refine .sq ?_
    refine .bq h (.t rfl) (fun h => ?_) (fun h => ?_)
    · refine .skp ?_
      refine .sq ?_
      refine .bl ?_
      refine .sq ?_
      refine be h fun x7 hx7 h => ?_
      refine .rg (u (ia sf46 (.t rfl) (.t rfl) (ix_map (ei .u32) hx7)) <| u (lr tf23 (.t rfl) rfl) <| u (asg (.t rfl)) <| .nil _) rfl ?_
      refine be h fun x8 hx8 h => ?_
      refine be h fun x9 hx9 h => ?_
      refine .rg (u (mv (.t rfl)) <| u (mv (.t rfl)) <| cnf 61000 cf82 (head_four_c hx8) (.c (.t rfl) <| .n) rfl rfl rfl <| apo 61 pf29 (.t rfl) rfl (.t rfl) rfl hx9 rfl <| u (asg (.t rfl)) <| .nil _) rfl ?_
      refine .ib ?_
      refine .rg (u (bi (.t rfl) (.i rfl) rfl) <| u (mv (.t rfl)) <| .nil _) rfl ?_
      exact .ks (fun i => bif Nat.beq i 7 then 61 else i) (.il (ih1 (x9, (ar .add .i64 v6 1)) (nxi h))) (.c rfl (.c rfl (.c rfl (.c rfl .n)))) (.c rfl .n) rfl
    · refine .xt rfl ?_
      replace h := mpR h hx1
      refine .sq ?_
      refine .rg (u (mv (.t rfl)) <| u (asg (.t rfl)) <| u (asg (.i rfl)) <| .nil _) rfl ?_
      obtain rfl := Option.some.inj h
      refine .ks (l := [(2, .own 0), (3, .ro (.int .i64 0))]) (o := [(0, some (.arr 5 1 (List.map e8 v5)))]) (fun i => bif Nat.beq i 0 then 7 else i) ?_ (.c rfl (.c rfl .n)) (.c rfl .n) rfl
      exact .rt Tryz.func45 (.t rfl <| .t rfl <| .n) (.c rfl .n) rfl rfl

theorem head_Write_r {z : Option Nat} {p_h : Head} {r : List Int × Int} (h : head_Write z p_h = some r) :
    AC Tryz.prog 45 [.ro (enc_Head p_h)] (.ro (.tup [.list 1 (List.map e8 r.1), .int .i64 r.2])) [] := AC.fz (head_Write_c h) rfl

theorem pad_Add_c {z : Option Nat} {b : List Int} {n : Int} {r : List Int × Int} (h : pad_Add z b n = some r) :
    AC Tryz.prog 48 [.ro (.list 1 (List.map e8 b)), .ro (.int .i64 n)] (.tup [.own 0, .ro (.int .i64 r.2)]) [(0, .arr 5 1 (List.map e8 r.1))] := by
  refine AC.of Tryz.func48 rfl rfl fun w M0 hM => ?_
  unfold pad_Add at h
  refine .sq ?_
  refine .rg (anm e8 4 5 1 rfl rfl <| u (asg (.i rfl)) <| .nil _) rfl ?_
  refine .sq ?_
  refine .sq ?_
  refine .rg (u (mv (.t rfl)) <| u (bc (.t rfl) (.i rfl) rfl rfl) <| u (mv (.t rfl)) <| gd rfl rfl (fun hB => mv (.t rfl)) <| gd rfl rfl (fun hB => bc (.m rfl hB) (.i rfl) rfl rfl) <| u (pko (.t rfl) (.t rfl)) <| .nil _) rfl ?_
  refine .bq h (.t rfl) (fun h => ?_) (fun h => ?_)
  · refine .sq ?_
    refine .rg (anm e8 100004 5 1 rfl rfl <| u (asg (.i rfl)) <| .nil _) rfl ?_
    obtain rfl := Option.some.inj h
    refine .ks (l := [(4, .own 0), (5, .ro (.int .i64 1))]) (o := [(0, some (.arr 5 1 (List.map e8 [])))]) (fun i => bif Nat.beq i 0 then 100004 else i) ?_ (.c rfl (.c rfl .n)) (.c rfl .n) rfl
    exact .rt Tryz.func48 (.t rfl <| .t rfl <| .n) (.c rfl .n) rfl rfl
  · refine .skp ?_
    refine .sq ?_
    refine be h fun x1 hx1 h => ?_
    refine be h fun x2 hx2 h => ?_
    refine .rg (u (mv (.t rfl)) <| u (mv (.t rfl)) <| u (bi (.t rfl) (.i rfl) rfl) <| cl [] cf86 (pad_zeros_r hx1) (.c (.t rfl) <| .n) (.inl rfl) <| u (mv (.t rfl)) <| u (cv cv3_5 (.t rfl)) <| nu (bsn (F := e8) (l := [(IntKind.u8.wrap n)]) pf29 (.c (.t rfl) rfl <| .n) rfl (fun _ _ => rfl) rfl) <| nu (bsn (F := (el 1 e8)) (l := [b, x1, [(IntKind.u8.wrap n)]]) pf136 (.c (.t rfl) rfl <| .c (.t rfl) rfl <| .c (.t rfl) rfl <| .n) rfl (fun _ _ => rfl) rfl) <| cnf 21000 cf85 (slices_Concat_byte_c hx2) (.c (.t rfl) <| .n) rfl rfl rfl <| u (asg (.t rfl)) <| u (asg (.i rfl)) <| .nil _) rfl ?_
    obtain rfl := Option.some.inj h
    refine .ks (l := [(4, .own 0), (5, .ro (.int .i64 0))]) (o := [(0, some (.arr 5 1 (List.map e8 x2)))]) (fun i => bif Nat.beq i 0 then 21000 else i) ?_ (.c rfl (.c rfl .n)) (.c rfl .n) rfl
    exact .rt Tryz.func48 (.t rfl <| .t rfl <| .n) (.c rfl .n) rfl rfl

theorem pad_Add_r {z : Option Nat} {b : List Int} {n : Int} {r : List Int × Int} (h : pad_Add z b n = some r) :
    AC Tryz.prog 48 [.ro (.list 1 (List.map e8 b)), .ro (.int .i64 n)] (.ro (.tup [.list 1 (List.map e8 r.1), .int .i64 r.2])) [] := AC.fz (pad_Add_c h) rfl

theorem packet_Write_c {z : Option Nat} {p : Packet} {room : Int} {r : List Int × Int} (h : packet_Write z p room = some r) :
    AC Tryz.prog 23 [.ro (enc_Packet p), .ro (.int .i64 room)] (.tup [.own 0, .ro (.int .i64 r.2)]) [(0, .arr 5 1 (List.map e8 r.1))] := by
  refine AC.of Tryz.func23 rfl rfl fun w M0 hM => ?_
  unfold packet_Write at h
  refine .sq ?_
  refine .rg (bx 2 (.t rfl) rfl rfl <| anm e8 4 5 1 rfl rfl <| u (asg (.i rfl)) <| .nil _) rfl ?_
  refine .sq ?_
  refine .bl ?_
  refine .sq ?_
  refine .rg (u (ld tf50 (.t rfl) rfl rfl) <| cl [] cf39 (packet_Right_c p) (.c (.t rfl) <| .n) (.inl rfl) <| u (no (.t rfl)) <| u (asg (.t rfl)) <| .nil _) rfl ?_
  refine .bq h (.t rfl) (fun h => ?_) (fun h => ?_)
  · refine .sq ?_
    refine .rg (anm e8 100004 5 1 rfl rfl <| u (asg (.i rfl)) <| .nil _) rfl ?_
    obtain rfl := Option.some.inj h
    refine .ks (l := [(4, .own 0), (5, .ro (.int .i64 1))]) (o := [(0, some (.arr 5 1 (List.map e8 [])))]) (fun i => bif Nat.beq i 0 then 100004 else i) ?_ (.c rfl (.c rfl .n)) (.c rfl .n) rfl
    exact .rt Tryz.func23 (.t rfl <| .t rfl <| .n) (.c rfl .n) rfl rfl
  · refine .sq ?_
    refine .rg (u (ld tf50 (.t rfl) rfl rfl) <| cl [] cf44 (packet_total_c p) (.c (.t rfl) <| .n) (.inl rfl) <| u (mv (.t rfl)) <| u (bc (.t rfl) (.t rfl) rfl rfl) <| u (asg (.t rfl)) <| .nil _) rfl ?_
    refine .bq h (.t rfl) (fun h => ?_) (fun h => ?_)
    · refine .sq ?_
      refine .rg (anm e8 100004 5 1 rfl rfl <| u (asg (.i rfl)) <| .nil _) rfl ?_
      obtain rfl := Option.some.inj h
      refine .ks (l := [(4, .own 0), (5, .ro (.int .i64 7))]) (o := [(0, some (.arr 5 1 (List.map e8 [])))]) (fun i => bif Nat.beq i 0 then 100004 else i) ?_ (.c rfl (.c rfl .n)) (.c rfl .n) rfl
      exact .rt Tryz.func23 (.t rfl <| .t rfl <| .n) (.c rfl .n) rfl rfl
    · refine .skp ?_
      refine .ib ?_
      refine .sq ?_
      refine be h fun x1 hx1 h => ?_
      refine .rg (u (fa ff50_0 (.t rfl)) <| u (ld tf48 (.t rfl) rfl rfl) <| cnf 25000 cf45 (head_Write_c hx1) (.c (.t rfl) <| .n) rfl rfl rfl <| u (mv (.t rfl)) <| u (ex (.t rfl) rfl rfl) <| u (ex (.t rfl) rfl rfl) <| u (asg (.t rfl)) <| u (asg (.t rfl)) <| .nil _) rfl ?_
      refine .sq ?_
      refine .sq ?_
      refine .rg (u (fa ff50_0 (.t rfl)) <| u (fa ff48_1 (.t rfl)) <| u (ld tf4 (.t rfl) rfl rfl) <| .nil _) rfl ?_
      refine .jq (t := some r) (fun (a : List Int) => ⟨[(2, .ptr 2 0), (6, .own 6)], [(2, some (.box [.ro (.bool p.head.hasPad), .ro (.bool p.head.hasExt), .ro (.bool p.head.marker), .ro (.int .i64 p.head.type), .ro (.int .u16 p.head.seq), .ro (.int .u32 p.head.time), .ro (.int .u32 p.head.ssrc), .ro (.list 1 (List.map (ei .u32) p.head.csrc)), .ro (.int .u16 p.profile), .ro (.list 1 (List.map e8 p.ext)), .ro (.list 1 (List.map e8 p.payload)), .ro (.int .i64 p.pad)])), (6, some (.arr 5 1 (List.map e8 a)))]⟩) (fun (a : List Int) => packet_Write_j1 z p a) ?_ (fun J1 => ?_)
      · intro v2 h
        replace h : packet_Write_j1 z p v2 = _ := h
        unfold packet_Write_j1 at h
        refine .sq ?_
        refine be h fun x3 hx3 h => ?_
        refine .rg (u (mv (.t rfl)) <| u (fa ff50_3 (.t rfl)) <| u (ld tf29 (.t rfl) rfl rfl) <| ap 56 pf29 (.t rfl) rfl (.t rfl) hx3 rfl <| u (asg (.t rfl)) <| .nil _) rfl ?_
        refine .sq ?_
        refine .sq ?_
        refine .rg (u (fa ff50_0 (.t rfl)) <| u (fa ff48_0 (.t rfl)) <| u (ld tf4 (.t rfl) rfl rfl) <| .nil _) rfl ?_
        refine .jq (t := some r) (fun (a : List Int) => ⟨[(6, .own 6)], [(6, some (.arr 5 1 (List.map e8 a)))]⟩) (fun (a : List Int) => packet_Write_j2 z a) ?_ (fun J2 => ?_)
        · intro v4 h
          replace h : packet_Write_j2 z v4 = _ := h
          unfold packet_Write_j2 at h
          refine .sq ?_
          refine .rg (u (mv (.t rfl)) <| u (asg (.t rfl)) <| u (asg (.i rfl)) <| .nil _) rfl ?_
          obtain rfl := Option.some.inj h
          refine .ks (l := [(4, .own 0), (5, .ro (.int .i64 0))]) (o := [(0, some (.arr 5 1 (List.map e8 v4)))]) (fun i => bif Nat.beq i 0 then 6 else i) ?_ (.c rfl (.c rfl .n)) (.c rfl .n) rfl
          exact .rt Tryz.func23 (.t rfl <| .t rfl <| .n) (.c rfl .n) rfl rfl
        refine .bq h (.t rfl) (fun h => ?_) (fun h => ?_)
        · refine .fz 56 rfl ?_
          refine be h fun x5 hx5 h => ?_
          refine .rg (u (mv (.t rfl)) <| u (fa ff50_4 (.t rfl)) <| u (ld tf3 (.t rfl) rfl rfl) <| cnf 65000 cf48 (pad_Add_c hx5) (.c (.t rfl) <| .c (.t rfl) <| .n) rfl rfl rfl <| u (mv (.t rfl)) <| u (ex (.t rfl) rfl rfl) <| u (ex (.t rfl) rfl rfl) <| u (asg (.t rfl)) <| .nil _) rfl ?_
          exact .ks (fun i => bif Nat.beq i 6 then 65000 else i) (J2 x5.1 h) (.c rfl .n) (.c rfl .n) rfl
        · refine .skp ?_
          exact .ks (fun i => bif Nat.beq i 6 then 56 else i) (J2 x3 h) (.c rfl .n) (.c rfl .n) rfl
      refine .bq h (.t rfl) (fun h => ?_) (fun h => ?_)
      · refine .sq ?_
        refine be h fun x6 hx6 h => ?_
        refine .rg (u (fa ff50_1 (.t rfl)) <| u (ld tf22 (.t rfl) rfl rfl) <| u (cv cv22_85 (.t rfl)) <| cnf 35000 cf46 (octet_Put_c hx6) (.c (.t rfl) <| .c (.i rfl) <| .n) rfl rfl rfl <| u (mv (.t rfl)) <| u (ex (.t rfl) rfl rfl) <| u (ex (.t rfl) rfl rfl) <| u (asg (.t rfl)) <| u (asg (.t rfl)) <| .nil _) rfl ?_
        refine .sq ?_
        refine be h fun x7 hx7 h => ?_
        refine .rg (u (fa ff50_2 (.t rfl)) <| u (ld tf29 (.t rfl) rfl rfl) <| u (lnm sf29 (.t rfl)) <| u (di (.t rfl) (.i rfl) rfl (by decide)) <| u (cv cv3_85 (.t rfl)) <| cnf 44000 cf46 (octet_Put_c hx7) (.c (.t rfl) <| .c (.i rfl) <| .n) rfl rfl rfl <| u (mv (.t rfl)) <| u (ex (.t rfl) rfl rfl) <| u (ex (.t rfl) rfl rfl) <| u (asg (.t rfl)) <| u (asg (.t rfl)) <| .nil _) rfl ?_
        refine .fz 25000 rfl ?_
        refine .fz 35000 rfl ?_
        refine .fz 44000 rfl ?_
        refine be h fun x8 hx8 h => ?_
        refine .rg (u (mv (.t rfl)) <| u (mv (.t rfl)) <| u (mv (.t rfl)) <| u (fa ff50_2 (.t rfl)) <| u (ld tf29 (.t rfl) rfl rfl) <| nu (bsn (F := (el 1 e8)) (l := [x1.1, x6.1, x7.1, p.ext]) pf136 (.c (.t rfl) rfl <| .c (.t rfl) rfl <| .c (.t rfl) rfl <| .c (.t rfl) rfl <| .n) rfl (fun _ _ => rfl) rfl) <| cnf 53000 cf47 (octet_Join_c hx8) (.c (.t rfl) <| .n) rfl rfl rfl <| u (asg (.t rfl)) <| .nil _) rfl ?_
        exact .ks (fun i => bif Nat.beq i 6 then 53000 else i) (J1 x8 h) (.c rfl (.c rfl .n)) (.c rfl (.c rfl .n)) rfl
      · refine .skp ?_
        exact .ks (fun i => bif Nat.beq i 6 then 25000 else i) (J1 x1.1 h) (.c rfl (.c rfl .n)) (.c rfl (.c rfl .n)) rfl

theorem packet_Write_r {z : Option Nat} {p : Packet} {room : Int} {r : List Int × Int} (h : packet_Write z p room = some r) :
    AC Tryz.prog 23 [.ro (enc_Packet p), .ro (.int .i64 room)] (.ro (.tup [.list 1 (List.map e8 r.1), .int .i64 r.2])) [] := AC.fz (packet_Write_c h) rfl

theorem stay_Again_c {z : Option Nat} {p : Plan} {b : List Int} {room : Int} {r : List Int × Int} (h : stay_Again z p b room = some r) :
    AC Tryz.prog 13 [.ro (enc_Plan p), .ro (.list 1 (List.map e8 b)), .ro (.int .i64 room)] (.tup [.own 0, .ro (.int .i64 r.2)]) [(0, .arr 5 1 (List.map e8 r.1))] := by
  refine AC.of Tryz.func13 rfl rfl fun w M0 hM => ?_
  unfold stay_Again at h
  refine .sq ?_
  refine .rg (bx 3 (.t rfl) rfl rfl <| anm e8 6 5 1 rfl rfl <| u (asg (.i rfl)) <| .nil _) rfl ?_
  refine .sq ?_
  refine be h fun x1 hx1 h => ?_
  refine .rg (u (mv (.t rfl)) <| cl [] cf15 (packet_Read_c hx1) (.c (.t rfl) <| .n) (.inl rfl) <| u (mv (.t rfl)) <| u (ex (.t rfl) rfl rfl) <| u (ex (.t rfl) rfl rfl) <| al 8 zf50 rfl <| st tf50 (.t rfl) rfl (.t rfl) rfl rfl rfl <| u (asg (.t rfl)) <| .nil _) rfl ?_
  refine .sq ?_
  refine .sq ?_
  refine .rg (u (mv (.t rfl)) <| u (bc (.t rfl) (.i rfl) rfl rfl) <| .nil _) rfl ?_
  refine .bq h (.t rfl) (fun h => ?_) (fun h => ?_)
  · refine .sq ?_
    refine .rg (u (mv (.t rfl)) <| anm e8 100006 5 1 rfl rfl <| u (asg (.t rfl)) <| .nil _) rfl ?_
    obtain rfl := Option.some.inj h
    refine .ks (l := [(6, .own 0), (7, .ro (.int .i64 x1.2))]) (o := [(0, some (.arr 5 1 (List.map e8 [])))]) (fun i => bif Nat.beq i 0 then 100006 else i) ?_ (.c rfl (.c rfl .n)) (.c rfl .n) rfl
    exact .rt Tryz.func13 (.t rfl <| .t rfl <| .n) (.c rfl .n) rfl rfl
  · refine .skp ?_
    refine .sq ?_
    refine be h fun x2 hx2 h => ?_
    refine .rg (u (ld tf28 (.t rfl) rfl rfl) <| u (ld tf50 (.t rfl) rfl rfl) <| cl [] cf18 (plan_Apply_c hx2) (.c (.t rfl) <| .c (.t rfl) <| .n) (.inl rfl) <| u (mv (.t rfl)) <| u (ex (.t rfl) rfl rfl) <| u (ex (.t rfl) rfl rfl) <| al 10 zf50 rfl <| st tf50 (.t rfl) rfl (.t rfl) rfl rfl rfl <| u (asg (.t rfl)) <| .nil _) rfl ?_
    refine .sq ?_
    refine .sq ?_
    refine .rg (u (mv (.t rfl)) <| u (bc (.t rfl) (.i rfl) rfl rfl) <| .nil _) rfl ?_
    refine .bq h (.t rfl) (fun h => ?_) (fun h => ?_)
    · refine .sq ?_
      refine .rg (u (mv (.t rfl)) <| anm e8 100006 5 1 rfl rfl <| u (asg (.t rfl)) <| .nil _) rfl ?_
      obtain rfl := Option.some.inj h
      refine .ks (l := [(6, .own 0), (7, .ro (.int .i64 x2.2))]) (o := [(0, some (.arr 5 1 (List.map e8 [])))]) (fun i => bif Nat.beq i 0 then 100006 else i) ?_ (.c rfl (.c rfl .n)) (.c rfl .n) rfl
      exact .rt Tryz.func13 (.t rfl <| .t rfl <| .n) (.c rfl .n) rfl rfl
    · refine .skp ?_
      refine .sq ?_
      refine be h fun x3 hx3 h => ?_
      refine .rg (u (ld tf50 (.t rfl) rfl rfl) <| u (mv (.t rfl)) <| cnf 31000 cf23 (packet_Write_c hx3) (.c (.t rfl) <| .c (.t rfl) <| .n) rfl rfl rfl <| u (ex (.t rfl) rfl rfl) <| u (ex (.t rfl) rfl rfl) <| u (asg (.t rfl)) <| u (asg (.t rfl)) <| .nil _) rfl ?_
      obtain rfl := Option.some.inj h
      refine .ks (l := [(6, .own 0), (7, .ro (.int .i64 x3.2))]) (o := [(0, some (.arr 5 1 (List.map e8 x3.1)))]) (fun i => bif Nat.beq i 0 then 31000 else i) ?_ (.c rfl (.c rfl .n)) (.c rfl .n) rfl
      exact .rt Tryz.func13 (.t rfl <| .t rfl <| .n) (.c rfl .n) rfl rfl

theorem stay_Again_r {z : Option Nat} {p : Plan} {b : List Int} {room : Int} {r : List Int × Int} (h : stay_Again z p b room = some r) :
    AC Tryz.prog 13 [.ro (enc_Plan p), .ro (.list 1 (List.map e8 b)), .ro (.int .i64 room)] (.ro (.tup [.list 1 (List.map e8 r.1), .int .i64 r.2])) [] := AC.fz (stay_Again_c h) rfl

theorem law31_awake_c {z : Option Nat}  {r : Bool} (h : law31_awake z = some r) :
    AC Tryz.prog 6 [] (.ro (.bool r)) [] := by
  refine AC.of Tryz.func6 rfl rfl fun w M0 hM => ?_
  unfold law31_awake at h
  refine .sq ?_
  refine .rg (u (asg .b) <| .nil _) rfl ?_
  refine .sq ?_
  refine .rg (bs (F := e8) (l := [144, 224, 0, 1, 0, 0, 0, 2, 0, 0, 0, 3, 190, 222, 0, 1, 48, 7, 0, 0, 9]) 13 pf29 (.c (.i rfl) rfl <| .c (.i rfl) rfl <| .c (.i rfl) rfl <| .c (.i rfl) rfl <| .c (.i rfl) rfl <| .c (.i rfl) rfl <| .c (.i rfl) rfl <| .c (.i rfl) rfl <| .c (.i rfl) rfl <| .c (.i rfl) rfl <| .c (.i rfl) rfl <| .c (.i rfl) rfl <| .c (.i rfl) rfl <| .c (.i rfl) rfl <| .c (.i rfl) rfl <| .c (.i rfl) rfl <| .c (.i rfl) rfl <| .c (.i rfl) rfl <| .c (.i rfl) rfl <| .c (.i rfl) rfl <| .c (.i rfl) rfl <| .n) rfl (fun _ _ => rfl) rfl rfl <| u (asg (.t rfl)) <| .nil _) rfl ?_
  refine .sq ?_
  refine .rg (u (bd bf64 zf64 (.c rfl (.i rfl) rfl rfl rfl <| .c rfl (.i rfl) rfl rfl rfl <| .n) rfl) <| bs (F := cells_GMap) (l := [(GMap.mk 3 4)]) 15 pf24 (.c (.t rfl) rfl <| .n) rfl (fun _ _ => rfl) rfl rfl <| nu (bsn (F := e8) (l := [8]) pf29 (.c (.i rfl) rfl <| .n) rfl (fun _ _ => rfl) rfl) <| u (bd bf66 zf66 (.c rfl (.i rfl) rfl rfl rfl <| .c rfl (.t rfl) rfl rfl rfl <| .n) rfl) <| bs (F := cells_Elem) (l := [(Elem.mk 3 [8])]) 18 pf25 (.c (.t rfl) rfl <| .n) rfl (fun _ _ => rfl) rfl rfl <| u (bd bf28 zf28 (.c rfl .b rfl rfl rfl <| .c rfl (.i rfl) rfl rfl rfl <| .c rfl .b rfl rfl rfl <| .c rfl (.i rfl) rfl rfl rfl <| .c rfl (.t rfl) rfl rfl rfl <| .c rfl (.t rfl) rfl rfl rfl <| .n) rfl) <| al 2 zf28 rfl <| st tf28 (.t rfl) rfl (.t rfl) rfl rfl rfl <| .nil _) rfl ?_
  refine .sq ?_
  refine .fz 15 rfl ?_
  refine .fz 18 rfl ?_
  refine .fz 13 rfl ?_
  refine be h fun x1 hx1 h => ?_
  refine .rg (u (ld tf28 (.t rfl) rfl rfl) <| u (mv (.t rfl)) <| cnf 24000 cf11 (stay_Stay_c hx1) (.c (.t rfl) <| .c (.t rfl) <| .n) rfl rfl rfl <| u (mv (.t rfl)) <| u (ex (.t rfl) rfl rfl) <| u (ex (.t rfl) rfl rfl) <| u (asg (.t rfl)) <| u (asg (.t rfl)) <| .nil _) rfl ?_
  refine .sq ?_
  refine be h fun x2 hx2 h => ?_
  refine .rg (u (ld tf28 (.t rfl) rfl rfl) <| u (mv (.t rfl)) <| cnf 30000 cf8 (stay_Places_c hx2) (.c (.t rfl) <| .c (.t rfl) <| .n) rfl rfl rfl <| u (mv (.t rfl)) <| u (ex (.t rfl) rfl rfl) <| u (ex (.t rfl) rfl rfl) <| u (asg (.t rfl)) <| u (asg (.t rfl)) <| .nil _) rfl ?_
  refine .sq ?_
  refine be h fun x3 hx3 h => ?_
  refine .rg (u (bd bf28 zf28 (.c rfl .b rfl rfl rfl <| .n) rfl) <| u (mv (.t rfl)) <| cnf 36000 cf11 (stay_Stay_c hx3) (.c (.t rfl) <| .c (.t rfl) <| .n) rfl rfl rfl <| u (mv (.t rfl)) <| u (ex (.t rfl) rfl rfl) <| u (ex (.t rfl) rfl rfl) <| u (asg (.t rfl)) <| u (asg (.t rfl)) <| .nil _) rfl ?_
  refine .sq ?_
  refine be h fun x4 hx4 h => ?_
  refine .rg (u (ld tf28 (.t rfl) rfl rfl) <| u (mv (.t rfl)) <| cnf 42000 cf13 (stay_Again_c hx4) (.c (.t rfl) <| .c (.t rfl) <| .c (.i rfl) <| .n) rfl rfl rfl <| u (mv (.t rfl)) <| u (ex (.t rfl) rfl rfl) <| u (ex (.t rfl) rfl rfl) <| u (asg (.t rfl)) <| u (asg (.t rfl)) <| .nil _) rfl ?_
  refine .sq ?_
  refine be h fun x5 hx5 h => ?_
  refine .rg (u (ld tf28 (.t rfl) rfl rfl) <| u (mv (.t rfl)) <| cnf 48000 cf13 (stay_Again_c hx5) (.c (.t rfl) <| .c (.t rfl) <| .c (.i rfl) <| .n) rfl rfl rfl <| u (mv (.t rfl)) <| u (ex (.t rfl) rfl rfl) <| u (ex (.t rfl) rfl rfl) <| u (asg (.t rfl)) <| u (asg (.t rfl)) <| .nil _) rfl ?_
  refine .sq ?_
  refine be h fun x6 hx6 h => ?_
  refine .rg (u (mv (.t rfl)) <| u (bc (.t rfl) (.i rfl) rfl rfl) <| u (mv (.t rfl)) <| gd rfl rfl (fun hB => mv (.t rfl)) <| gd rfl rfl (fun hB => bc (.m rfl hB) (.i rfl) rfl rfl) <| u (pka (.t rfl) (.t rfl)) <| u (mv (.t rfl)) <| gd rfl rfl (fun hB => mv (.t rfl)) <| gd rfl rfl (fun hB => bc (.m rfl hB) (.i rfl) rfl rfl) <| u (pka (.t rfl) (.t rfl)) <| u (mv (.t rfl)) <| gd rfl rfl (fun hB => mv (.t rfl)) <| gd rfl rfl (fun hB => bc (.m rfl hB) (.i rfl) rfl rfl) <| u (pka (.t rfl) (.t rfl)) <| u (mv (.t rfl)) <| gd rfl rfl (fun hB => mv (.t rfl)) <| gd rfl rfl (fun hB => bc (.m rfl hB) (.i rfl) rfl rfl) <| u (pka (.t rfl) (.t rfl)) <| u (mv (.t rfl)) <| gd rfl rfl (fun hB => mv (.t rfl)) <| gd rfl rfl (fun hB => bto bt29_9 (.m rfl hB) rfl) <| gd rfl rfl (fun hB => sq (.m rfl hB) (.s rfl) rfl rfl) <| u (pka (.t rfl) (.t rfl)) <| u (mv (.t rfl)) <| gd rfl rfl (fun hB => mv (.t rfl)) <| gd rfl rfl (fun hB => bto bt29_9 (.m rfl hB) rfl) <| gd rfl rfl (fun hB => mv (.t rfl)) <| gd rfl rfl (fun hB => bto bt29_9 (.m rfl hB) rfl) <| gd rfl rfl (fun hB => sq (.m rfl hB) (.m rfl hB) rfl rfl) <| u (pka (.t rfl) (.t rfl)) <| u (mv (.t rfl)) <| gd rfl rfl (fun hB => mv (.t rfl)) <| gd rfl rfl (fun hB => lom sf32 (.m rfl hB) rfl) <| gd rfl rfl (fun hB => bc (.m rfl hB) (.i rfl) rfl rfl) <| u (pka (.t rfl) (.t rfl)) <| u (mv (.t rfl)) <| gd rfl rfl (fun hB => mv (.t rfl)) <| gd rfl rfl (fun hB => io sf32 (.m rfl hB) rfl (.i rfl) (ix_map cells_Place (gTt hx6 hB))) <| gd rfl rfl (fun hB => le tf59 (.m rfl hB) rfl (ix_lt (ix_map _ (gTt hx6 hB))).2.2 rfl) <| gd rfl rfl (fun hB => bd bf59 zf59 (.c rfl (.i rfl) rfl rfl rfl <| .c rfl (.i rfl) rfl rfl rfl <| .c rfl (.i rfl) rfl rfl rfl <| .n) rfl) <| gd rfl rfl (fun hB => eqs qf59 (.m rfl hB) (.m rfl hB) rfl rfl rfl rfl) <| u (pka (.t rfl) (.t rfl)) <| u (asg (.t rfl)) <| .nil _) rfl ?_
  obtain rfl := Option.some.inj h
  exact .rt Tryz.func6 (.t rfl <| .n) .n rfl rfl

theorem law31_awake_t : law31_awake (some 1000) = some true := by decide +kernel
theorem law31_awake_k : AC Tryz.prog 6 [] (.ro (.bool true)) [] := law31_awake_c law31_awake_t

theorem ref08_Short_c {z : Option Nat} {l : List Elem} {r : Bool} (h : ref08_Short z l = some r) :
    AC Tryz.prog 24 [.ro (.list 2 (List.map cells_Elem l))] (.ro (.bool r)) [] := by
  refine AC.of Tryz.func24 rfl rfl fun w M0 hM => ?_
  unfold ref08_Short at h
  refine .sq ?_
  refine .rg (u (asg .b) <| .nil _) rfl ?_
  refine .sq ?_
  refine .sq ?_
  refine .rg (u (asg (.i rfl)) <| .nil _) rfl ?_
  refine .bl ?_
  unfold ref08_Short_l1 at h
  refine .kq (.lo (fun (s : Int) => ⟨[(0, .ro (.list 2 (List.map cells_Elem l))), (3, .ro (.int .i64 s))], []⟩) h ?_) (.c rfl (.c rfl .n)) .n
  intro v1 u1 h ih1 hx1
  replace h : ref08_Short_s1 z l v1 = _ := h
  unfold ref08_Short_s1 at h
  refine .sq ?_
  refine .sq ?_
  refine .rg (u (mv (.t rfl)) <| u (mv (.t rfl)) <| u (lnm sf25 (.t rfl)) <| u (bc (.t rfl) (.t rfl) rfl rfl) <| .nil _) rfl ?_
  refine .bq h (.t rfl) (fun h => ?_) (fun h => ?_)
  · refine .skp ?_
    refine .sq ?_
    refine .bl ?_
    refine .sq ?_
    refine be h fun x2 hx2 h => ?_
    refine .rg (u (mv (.t rfl)) <| u (mv (.t rfl)) <| u (ia sf25 (.t rfl) (.t rfl) (ix_map cells_Elem hx2)) <| u (fr ff66_1 (.t rfl) rfl) <| u (lr tf29 (.t rfl) rfl) <| u (lnm sf29 (.t rfl)) <| u (bc (.t rfl) (.i rfl) rfl rfl) <| .nil _) rfl ?_
    refine .bq h (.t rfl) (fun h => ?_) (fun h => ?_)
    · refine .sq ?_
      refine .rg (u (asg .b) <| .nil _) rfl ?_
      replace h := mpR h hx1
      obtain rfl := Option.some.inj h
      exact .rt Tryz.func24 (.t rfl <| .n) .n rfl rfl
    · refine .skp ?_
      refine .ib ?_
      refine .rg (u (mv (.t rfl)) <| u (bi (.t rfl) (.i rfl) rfl) <| u (asg (.t rfl)) <| .nil _) rfl ?_
      exact .kq (.il (ih1 (ar .add .i64 v1 1) (nxi h))) (.c rfl (.c rfl .n)) .n
  · refine .xt rfl ?_
    replace h := mpR h hx1
    refine .sq ?_
    refine .rg (u (mv (.t rfl)) <| u (lnm sf25 (.t rfl)) <| u (bc (.t rfl) (.i rfl) rfl rfl) <| u (asg (.t rfl)) <| .nil _) rfl ?_
    obtain rfl := Option.some.inj h
    exact .rt Tryz.func24 (.t rfl <| .n) .n rfl rfl

theorem ref29_Short_c {z : Option Nat} {p : Plan} {r : Bool} (h : ref29_Short z p = some r) :
    AC Tryz.prog 7 [.ro (enc_Plan p)] (.ro (.bool r)) [] := by
  refine AC.of Tryz.func7 rfl rfl fun w M0 hM => ?_
  unfold ref29_Short at h
  refine .sq ?_
  refine .rg (bx 1 (.t rfl) rfl rfl <| u (asg .b) <| .nil _) rfl ?_
  refine .sq ?_
  refine be h fun x1 hx1 h => ?_
  refine be h fun x2 hx2 h => ?_
  refine .rg (u (fa ff28_10 (.t rfl)) <| u (ld tf24 (.t rfl) rfl rfl) <| u (lnm sf24 (.t rfl)) <| u (bc (.t rfl) (.i rfl) rfl rfl) <| u (mv (.t rfl)) <| gd rfl rfl (fun hB => fa ff28_12 (.t rfl)) <| gd rfl rfl (fun hB => ld tf26 (.m rfl hB) rfl rfl) <| gd rfl rfl (fun hB => lnm sf26 (.m rfl hB)) <| gd rfl rfl (fun hB => bc (.m rfl hB) (.i rfl) rfl rfl) <| u (pka (.t rfl) (.t rfl)) <| u (mv (.t rfl)) <| gd rfl rfl (fun hB => fa ff28_11 (.t rfl)) <| gd rfl rfl (fun hB => ld tf25 (.m rfl hB) rfl rfl) <| cg rfl rfl cf24 (fun hB => (ref08_Short_c (gTt hx1 hB))) (fun hB => .c (.m rfl hB) <| .n) (.inl rfl) <| u (pka (.t rfl) (.t rfl)) <| u (mv (.t rfl)) <| gd rfl rfl (fun hB => fa ff28_13 (.t rfl)) <| gd rfl rfl (fun hB => ld tf25 (.m rfl hB) rfl rfl) <| cg rfl rfl cf24 (fun hB => (ref08_Short_c (gTt hx2 hB))) (fun hB => .c (.m rfl hB) <| .n) (.inl rfl) <| u (pka (.t rfl) (.t rfl)) <| u (asg (.t rfl)) <| .nil _) rfl ?_
  obtain rfl := Option.some.inj h
  exact .rt Tryz.func7 (.t rfl <| .n) .n rfl rfl

theorem packet_Size_c (p : Packet) :
    AC Tryz.prog 22 [.ro (enc_Packet p)] (.ro (.int .i64 (packet_Size p))) [] := by
  obtain ⟨r, h⟩ : ∃ r, packet_Size p = r := ⟨_, rfl⟩
  rw [h]
  refine AC.of Tryz.func22 rfl rfl fun w M0 hM => ?_
  unfold packet_Size at h
  refine .sq ?_
  refine .rg (bx 1 (.t rfl) rfl rfl <| u (asg (.i rfl)) <| .nil _) rfl ?_
  refine .sq ?_
  refine .sq ?_
  refine .rg (u (ld tf50 (.t rfl) rfl rfl) <| cl [] cf39 (packet_Right_c p) (.c (.t rfl) <| .n) (.inl rfl) <| u (no (.t rfl)) <| .nil _) rfl ?_
  refine .bq h (.t rfl) (fun h => ?_) (fun h => ?_)
  · refine .sq ?_
    refine .rg (u (asg (.i rfl)) <| .nil _) rfl ?_
    subst h
    exact .rt Tryz.func22 (.t rfl <| .n) .n rfl rfl
  · refine .skp ?_
    refine .sq ?_
    refine .rg (u (ld tf50 (.t rfl) rfl rfl) <| cl [] cf44 (packet_total_c p) (.c (.t rfl) <| .n) (.inl rfl) <| u (asg (.t rfl)) <| .nil _) rfl ?_
    subst h
    exact .rt Tryz.func22 (.t rfl <| .n) .n rfl rfl

theorem bytes_Equal_c (p_a : List Int) (b : List Int) :
    AC Tryz.prog 151 [.ro (.list 1 (List.map e8 p_a)), .ro (.list 1 (List.map e8 b))] (.ro (.bool (bytes_Equal p_a b))) [] := by
  obtain ⟨r, h⟩ : ∃ r, bytes_Equal p_a b = r := ⟨_, rfl⟩
  rw [h]
  refine AC.of Tryz.func151 rfl rfl fun w M0 hM => ?_
  unfold bytes_Equal at h
  refine .sq ?_
  refine .rg (u (asg .b) <| .nil _) rfl ?_
  refine .sq ?_
  refine .rg (u (mv (.t rfl)) <| u (bt bt29_9 (.t rfl)) <| u (mv (.t rfl)) <| u (bt bt29_9 (.t rfl)) <| u (sq (.t rfl) (.t rfl) rfl rfl) <| u (asg (.t rfl)) <| .nil _) rfl ?_
  subst h
  exact .rt Tryz.func151 (.t rfl <| .n) .n rfl rfl

theorem internal_bytealg_Cutover_c (n : Int) :
    AC Tryz.prog 153 [.ro (.int .i64 n)] (.ro (.int .i64 (internal_bytealg_Cutover n))) [] := by
  obtain ⟨r, h⟩ : ∃ r, internal_bytealg_Cutover n = r := ⟨_, rfl⟩
  rw [h]
  refine AC.of Tryz.func153 rfl rfl fun w M0 hM => ?_
  unfold internal_bytealg_Cutover at h
  refine .sq ?_
  refine .rg (u (asg (.i rfl)) <| .nil _) rfl ?_
  refine .sq ?_
  refine .rg (u (mv (.t rfl)) <| u (bi (.t rfl) (.i rfl) rfl) <| u (di (.t rfl) (.i rfl) rfl (by decide)) <| u (asg (.t rfl)) <| .nil _) rfl ?_
  subst h
  exact .rt Tryz.func153 (.t rfl <| .n) .n rfl rfl

theorem internal_bytealg_hashStr_c {z : Option Nat} {sep : List Int} {r : Int × Int} (h : internal_bytealg_hashStr z sep = some r) :
    AC Tryz.prog 158 [.ro (.list 1 (List.map e8 sep))] (.ro (.tup [.int .u32 r.1, .int .u32 r.2])) [] := by
  refine AC.of Tryz.func158 rfl rfl fun w M0 hM => ?_
  unfold internal_bytealg_hashStr at h
  refine .sq ?_
  refine .rg (u (asg (.i rfl)) <| u (asg (.i rfl)) <| .nil _) rfl ?_
  refine .sq ?_
  refine .rg (u (asg (.i rfl)) <| .nil _) rfl ?_
  refine .sq ?_
  refine .sq ?_
  refine .rg (u (asg (.i rfl)) <| .nil _) rfl ?_
  refine .bl ?_
  unfold internal_bytealg_hashStr_l1 at h
  refine .kq (.lo (fun (s : Int × Int) => ⟨[(0, .ro (.list 1 (List.map e8 sep))), (4, .ro (.int .u32 s.1)), (5, .ro (.int .i64 s.2))], []⟩) h ?_) (.c rfl (.c rfl (.c rfl .n))) .n
  rintro ⟨v1, v2⟩ u1 h ih1 hx1
  replace h : internal_bytealg_hashStr_s1 z sep v1 v2 = _ := h
  unfold internal_bytealg_hashStr_s1 at h
  refine .sq ?_
  refine .sq ?_
  refine .rg (u (mv (.t rfl)) <| u (mv (.t rfl)) <| u (lnm sf29 (.t rfl)) <| u (bc (.t rfl) (.t rfl) rfl rfl) <| .nil _) rfl ?_
  refine .bq h (.t rfl) (fun h => ?_) (fun h => ?_)
  · refine .skp ?_
    refine .sq ?_
    refine .bl ?_
    refine be h fun x3 hx3 h => ?_
    refine .rg (u (mv (.t rfl)) <| u (bi (.t rfl) (.i rfl) rfl) <| u (mv (.t rfl)) <| u (mv (.t rfl)) <| u (ia sf29 (.t rfl) (.t rfl) (ix_map e8 hx3)) <| u (lr tf5 (.t rfl) rfl) <| u (cv cv5_23 (.t rfl)) <| u (bi (.t rfl) (.t rfl) rfl) <| u (asg (.t rfl)) <| .nil _) rfl ?_
    refine .ib ?_
    refine .rg (u (mv (.t rfl)) <| u (bi (.t rfl) (.i rfl) rfl) <| u (asg (.t rfl)) <| .nil _) rfl ?_
    exact .kq (.il (ih1 ((ar .add .u32 (ar .mul .u32 v1 16777619) (IntKind.u32.wrap x3)), (ar .add .i64 v2 1)) (nxi h))) (.c rfl (.c rfl (.c rfl .n))) .n
  · refine .xt rfl ?_
    replace h := mpR h hx1
    refine .sq ?_
    refine .rg (u (asg (.i rfl)) <| u (asg (.i rfl)) <| .nil _) rfl ?_
    refine .sq ?_
    refine .sq ?_
    refine .rg (u (mv (.t rfl)) <| u (lnm sf29 (.t rfl)) <| u (asg (.t rfl)) <| .nil _) rfl ?_
    refine .bl ?_
    unfold internal_bytealg_hashStr_l2 at h
    refine .kq (.lo (fun (s : Int × Int × Int) => ⟨[(4, .ro (.int .u32 v1)), (6, .ro (.int .u32 s.1)), (7, .ro (.int .u32 s.2.1)), (8, .ro (.int .i64 s.2.2))], []⟩) h ?_) (.c rfl (.c rfl (.c rfl (.c rfl .n)))) .n
    rintro ⟨v4, v5, v6⟩ u2 h ih2 hx2
    replace h : internal_bytealg_hashStr_s2 z v1 v4 v5 v6 = _ := h
    unfold internal_bytealg_hashStr_s2 at h
    refine .sq ?_
    refine .sq ?_
    refine .rg (u (mv (.t rfl)) <| u (bc (.t rfl) (.i rfl) rfl rfl) <| .nil _) rfl ?_
    refine .bq h (.t rfl) (fun h => ?_) (fun h => ?_)
    · refine .skp ?_
      refine .sq ?_
      refine .bl ?_
      refine .sq ?_
      refine .sq ?_
      refine .rg (u (mv (.t rfl)) <| u (bi (.t rfl) (.i rfl) rfl) <| u (bc (.t rfl) (.i rfl) rfl rfl) <| .nil _) rfl ?_
      refine .jq (t := some u2) (fun (a : Int) => ⟨[(4, .ro (.int .u32 v1)), (6, .ro (.int .u32 a)), (7, .ro (.int .u32 v5)), (8, .ro (.int .i64 v6))], []⟩) (fun (a : Int) => internal_bytealg_hashStr_j3 z v5 v6 a) ?_ (fun J3 => ?_)
      · intro v7 h
        replace h : internal_bytealg_hashStr_j3 z v5 v6 v7 = _ := h
        unfold internal_bytealg_hashStr_j3 at h
        refine .rg (u (mv (.t rfl)) <| u (mv (.t rfl)) <| u (bi (.t rfl) (.t rfl) rfl) <| u (asg (.t rfl)) <| .nil _) rfl ?_
        refine .ib ?_
        refine .rg (u (mv (.t rfl)) <| u (sh (.t rfl) (.i rfl) rfl (by decide)) <| u (asg (.t rfl)) <| .nil _) rfl ?_
        exact .kq (.il (ih2 (v7, (ar .mul .u32 v5 v5), (sf .shr .i64 v6 1)) (nxi h))) (.c rfl (.c rfl (.c rfl (.c rfl .n)))) .n
      refine .bq h (.t rfl) (fun h => ?_) (fun h => ?_)
      · refine .rg (u (mv (.t rfl)) <| u (mv (.t rfl)) <| u (bi (.t rfl) (.t rfl) rfl) <| u (asg (.t rfl)) <| .nil _) rfl ?_
        exact .kq (J3 (ar .mul .u32 v4 v5) h) (.c rfl (.c rfl (.c rfl (.c rfl .n)))) .n
      · refine .skp ?_
        exact .kq (J3 v4 h) (.c rfl (.c rfl (.c rfl (.c rfl .n)))) .n
    · refine .xt rfl ?_
      replace h := mpR h hx2
      refine .sq ?_
      refine .rg (u (mv (.t rfl)) <| u (mv (.t rfl)) <| u (asg (.t rfl)) <| u (asg (.t rfl)) <| .nil _) rfl ?_
      obtain rfl := Option.some.inj h
      exact .rt Tryz.func158 (.t rfl <| .t rfl <| .n) .n rfl rfl

theorem internal_bytealg_IndexRabinKarp_c {z : Option Nat} {p_s : List Int} {sep : List Int} {r : Int} (h : internal_bytealg_IndexRabinKarp z p_s sep = some r) :
    AC Tryz.prog 154 [.ro (.list 1 (List.map e8 p_s)), .ro (.list 1 (List.map e8 sep))] (.ro (.int .i64 r)) [] := by
  refine AC.of Tryz.func154 rfl rfl fun w M0 hM => ?_
  unfold internal_bytealg_IndexRabinKarp at h
  refine .sq ?_
  refine .rg (u (asg (.i rfl)) <| .nil _) rfl ?_
  refine .sq ?_
  refine be h fun x1 hx1 h => ?_
  refine .rg (u (mv (.t rfl)) <| cl [] cf158 (internal_bytealg_hashStr_c hx1) (.c (.t rfl) <| .n) (.inl rfl) <| u (mv (.t rfl)) <| u (ex (.t rfl) rfl rfl) <| u (ex (.t rfl) rfl rfl) <| u (asg (.t rfl)) <| u (asg (.t rfl)) <| .nil _) rfl ?_
  refine .sq ?_
  refine .rg (u (mv (.t rfl)) <| u (lnm sf29 (.t rfl)) <| u (asg (.t rfl)) <| .nil _) rfl ?_
  refine .sq ?_
  refine .rg (u (asg (.i rfl)) <| .nil _) rfl ?_
  refine .sq ?_
  refine .sq ?_
  refine .rg (u (asg (.i rfl)) <| .nil _) rfl ?_
  refine .bl ?_
  unfold internal_bytealg_IndexRabinKarp_l1 at h
  refine .kq (.lo (fun (s : Int × Int) => ⟨[(0, .ro (.list 1 (List.map e8 p_s))), (1, .ro (.list 1 (List.map e8 sep))), (5, .ro (.int .u32 x1.1)), (6, .ro (.int .u32 x1.2)), (7, .ro (.int .i64 (sep.length : Int))), (8, .ro (.int .u32 s.1)), (9, .ro (.int .i64 s.2))], []⟩) h ?_) (.c rfl (.c rfl (.c rfl (.c rfl (.c rfl (.c rfl (.c rfl .n))))))) .n
  rintro ⟨v2, v3⟩ u1 h ih1 hx1
  replace h : internal_bytealg_IndexRabinKarp_s1 z p_s sep x1 v2 v3 = _ := h
  unfold internal_bytealg_IndexRabinKarp_s1 at h
  refine .sq ?_
  refine .sq ?_
  refine .rg (u (mv (.t rfl)) <| u (mv (.t rfl)) <| u (bc (.t rfl) (.t rfl) rfl rfl) <| .nil _) rfl ?_
  refine .bq h (.t rfl) (fun h => ?_) (fun h => ?_)
  · refine .skp ?_
    refine .sq ?_
    refine .bl ?_
    refine be h fun x4 hx4 h => ?_
    refine .rg (u (mv (.t rfl)) <| u (bi (.t rfl) (.i rfl) rfl) <| u (mv (.t rfl)) <| u (mv (.t rfl)) <| u (ia sf29 (.t rfl) (.t rfl) (ix_map e8 hx4)) <| u (lr tf5 (.t rfl) rfl) <| u (cv cv5_23 (.t rfl)) <| u (bi (.t rfl) (.t rfl) rfl) <| u (asg (.t rfl)) <| .nil _) rfl ?_
    refine .ib ?_
    refine .rg (u (mv (.t rfl)) <| u (bi (.t rfl) (.i rfl) rfl) <| u (asg (.t rfl)) <| .nil _) rfl ?_
    exact .kq (.il (ih1 ((ar .add .u32 (ar .mul .u32 v2 16777619) (IntKind.u32.wrap x4)), (ar .add .i64 v3 1)) (nxi h))) (.c rfl (.c rfl (.c rfl (.c rfl (.c rfl (.c rfl (.c rfl .n))))))) .n
  · refine .xt rfl ?_
    replace h := mpR h hx1
    refine .sq ?_
    refine .sq ?_
    refine be h fun x5 hx5 h => ?_
    refine .rd mixed (u (mv (.t rfl)) <| u (mv (.t rfl)) <| u (bc (.t rfl) (.t rfl) rfl rfl) <| u (mv (.t rfl)) <| gd rfl rfl (fun hB => mv (.t rfl)) <| gd rfl rfl (fun hB => mv (.t rfl)) <| gd rfl rfl (fun hB => sl sf29 (.m rfl hB) .n (.s (.m rfl hB)) (gTt hx5 hB)) <| gd rfl rfl (fun hB => bt bt29_9 (.m rfl hB)) <| gd rfl rfl (fun hB => mv (.t rfl)) <| gd rfl rfl (fun hB => bt bt29_9 (.m rfl hB)) <| gd rfl rfl (fun hB => sq (.m rfl hB) (.m rfl hB) rfl rfl) <| u (pka (.t rfl) (.t rfl)) <| .nil _) (by kernel_rfl) rfl ?_
    refine .bq h (.t rfl) (fun h => ?_) (fun h => ?_)
    · refine .sq ?_
      refine .rg (u (asg (.i rfl)) <| .nil _) rfl ?_
      obtain rfl := Option.some.inj h
      exact .rt Tryz.func154 (.t rfl <| .n) .n rfl rfl
    · refine .skp ?_
      refine .sq ?_
      refine .sq ?_
      refine .rg (u (mv (.t rfl)) <| u (asg (.t rfl)) <| .nil _) rfl ?_
      refine .bl ?_
      unfold internal_bytealg_IndexRabinKarp_l2 at h
      refine .kq (.lo (fun (s : Int × Int) => ⟨[(0, .ro (.list 1 (List.map e8 p_s))), (1, .ro (.list 1 (List.map e8 sep))), (5, .ro (.int .u32 x1.1)), (6, .ro (.int .u32 x1.2)), (7, .ro (.int .i64 (sep.length : Int))), (8, .ro (.int .u32 s.1)), (10, .ro (.int .i64 s.2))], []⟩) h ?_) (.c rfl (.c rfl (.c rfl (.c rfl (.c rfl (.c rfl (.c rfl .n))))))) .n
      rintro ⟨v6, v7⟩ u2 h ih2 hx2
      replace h : internal_bytealg_IndexRabinKarp_s2 z p_s sep x1 v6 v7 = _ := h
      unfold internal_bytealg_IndexRabinKarp_s2 at h
      refine .sq ?_
      refine .sq ?_
      refine .rg (u (mv (.t rfl)) <| u (mv (.t rfl)) <| u (lnm sf29 (.t rfl)) <| u (bc (.t rfl) (.t rfl) rfl rfl) <| .nil _) rfl ?_
      refine .bq h (.t rfl) (fun h => ?_) (fun h => ?_)
      · refine .skp ?_
        refine .bl ?_
        refine .sq ?_
        refine .rg (u (mv (.t rfl)) <| u (bi (.t rfl) (.i rfl) rfl) <| u (asg (.t rfl)) <| .nil _) rfl ?_
        refine .sq ?_
        refine be h fun x8 hx8 h => ?_
        refine .rg (u (mv (.t rfl)) <| u (mv (.t rfl)) <| u (mv (.t rfl)) <| u (ia sf29 (.t rfl) (.t rfl) (ix_map e8 hx8)) <| u (lr tf5 (.t rfl) rfl) <| u (cv cv5_23 (.t rfl)) <| u (bi (.t rfl) (.t rfl) rfl) <| u (asg (.t rfl)) <| .nil _) rfl ?_
        refine .sq ?_
        refine be h fun x9 hx9 h => ?_
        refine .rg (u (mv (.t rfl)) <| u (mv (.t rfl)) <| u (mv (.t rfl)) <| u (mv (.t rfl)) <| u (mv (.t rfl)) <| u (bi (.t rfl) (.t rfl) rfl) <| u (ia sf29 (.t rfl) (.t rfl) (ix_map e8 hx9)) <| u (lr tf5 (.t rfl) rfl) <| u (cv cv5_23 (.t rfl)) <| u (bi (.t rfl) (.t rfl) rfl) <| u (bi (.t rfl) (.t rfl) rfl) <| u (asg (.t rfl)) <| .nil _) rfl ?_
        refine .sq ?_
        refine .rg (u (mv (.t rfl)) <| u (bi (.t rfl) (.i rfl) rfl) <| u (asg (.t rfl)) <| .nil _) rfl ?_
        refine .sq ?_
        refine be h fun x10 hx10 h => ?_
        refine .rd mixed (u (mv (.t rfl)) <| u (mv (.t rfl)) <| u (bc (.t rfl) (.t rfl) rfl rfl) <| u (mv (.t rfl)) <| gd rfl rfl (fun hB => mv (.t rfl)) <| gd rfl rfl (fun hB => mv (.t rfl)) <| gd rfl rfl (fun hB => mv (.t rfl)) <| gd rfl rfl (fun hB => bi (.m rfl hB) (.m rfl hB) rfl) <| gd rfl rfl (fun hB => mv (.t rfl)) <| gd rfl rfl (fun hB => sl sf29 (.m rfl hB) (.s (.m rfl hB)) (.s (.m rfl hB)) (gTt hx10 hB)) <| gd rfl rfl (fun hB => bt bt29_9 (.m rfl hB)) <| gd rfl rfl (fun hB => mv (.t rfl)) <| gd rfl rfl (fun hB => bt bt29_9 (.m rfl hB)) <| gd rfl rfl (fun hB => sq (.m rfl hB) (.m rfl hB) rfl rfl) <| u (pka (.t rfl) (.t rfl)) <| .nil _) (by kernel_rfl) rfl ?_
        refine .bq h (.t rfl) (fun h => ?_) (fun h => ?_)
        · refine .sq ?_
          refine .rg (u (mv (.t rfl)) <| u (mv (.t rfl)) <| u (bi (.t rfl) (.t rfl) rfl) <| u (asg (.t rfl)) <| .nil _) rfl ?_
          replace h := mpR h hx2
          obtain rfl := Option.some.inj h
          exact .rt Tryz.func154 (.t rfl <| .n) .n rfl rfl
        · refine .skp ?_
          refine .ib ?_
          exact .kq (.il (ih2 ((ar .sub .u32 (ar .add .u32 (ar .mul .u32 v6 16777619) (IntKind.u32.wrap x8)) (ar .mul .u32 x1.2 (IntKind.u32.wrap x9))), (ar .add .i64 v7 1)) (nxi h))) (.c rfl (.c rfl (.c rfl (.c rfl (.c rfl (.c rfl (.c rfl .n))))))) .n
      · refine .xt rfl ?_
        replace h := mpR h hx2
        refine .sq ?_
        refine .rg (u (asg (.i rfl)) <| .nil _) rfl ?_
        obtain rfl := Option.some.inj h
        exact .rt Tryz.func154 (.t rfl <| .n) .n rfl rfl

theorem bytes_Count_c {z : Option Nat} {p_s : List Int} {sep : List Int} {r : Int} (h : bytes_Count z p_s sep = some r) :
    AC Tryz.prog 127 [.ro (.list 1 (List.map e8 p_s)), .ro (.list 1 (List.map e8 sep))] (.ro (.int .i64 r)) [] := by
  refine AC.of Tryz.func127 rfl rfl fun w M0 hM => ?_
  unfold bytes_Count at h
  refine .sq ?_
  refine .rg (u (asg (.i rfl)) <| .nil _) rfl ?_
  refine .sq ?_
  refine .sq ?_
  refine .rg (u (mv (.t rfl)) <| u (lnm sf29 (.t rfl)) <| u (bc (.t rfl) (.i rfl) rfl rfl) <| .nil _) rfl ?_
  refine .bq h (.t rfl) (fun h => ?_) (fun h => ?_)
  · refine .sq ?_
    cases h
  · refine .skp ?_
    refine .sq ?_
    refine .sq ?_
    refine .rg (u (mv (.t rfl)) <| u (lnm sf29 (.t rfl)) <| u (bc (.t rfl) (.i rfl) rfl rfl) <| .nil _) rfl ?_
    refine .bq h (.t rfl) (fun h => ?_) (fun h => ?_)
    · refine .sq ?_
      refine be h fun x1 hx1 h => ?_
      refine .rg (u (mv (.t rfl)) <| u (mv (.t rfl)) <| u (ia sf29 (.t rfl) (.i rfl) (ix_map e8 hx1)) <| u (lr tf5 (.t rfl) rfl) <| u (ctb xf144 (.t rfl) (.t rfl)) <| u (asg (.t rfl)) <| .nil _) rfl ?_
      obtain rfl := Option.some.inj h
      exact .rt Tryz.func127 (.t rfl <| .n) .n rfl rfl
    · refine .skp ?_
      refine .sq ?_
      refine .rg (u (asg (.i rfl)) <| .nil _) rfl ?_
      refine .bl ?_
      unfold bytes_Count_l1 at h
      refine .kq (.lo (fun (s : List Int × Int) => ⟨[(0, .ro (.list 1 (List.map e8 s.1))), (1, .ro (.list 1 (List.map e8 sep))), (5, .ro (.int .i64 s.2))], []⟩) h ?_) (.c rfl (.c rfl (.c rfl .n))) .n
      rintro ⟨v2, v3⟩ u1 h ih1 hx1
      replace h : bytes_Count_s1 z v2 v3 = _ := h
      unfold bytes_Count_s1 at h
      refine .bl ?_
      refine .sq ?_
      cases h

theorem pad_Zero_c {z : Option Nat} {b : List Int} {r : Bool} (h : pad_Zero z b = some r) :
    AC Tryz.prog 79 [.ro (.list 1 (List.map e8 b))] (.ro (.bool r)) [] := by
  refine AC.of Tryz.func79 rfl rfl fun w M0 hM => ?_
  unfold pad_Zero at h
  refine .sq ?_
  refine .rg (u (asg .b) <| .nil _) rfl ?_
  refine .sq ?_
  refine be h fun x1 hx1 h => ?_
  refine .rg (u (mv (.t rfl)) <| bs (F := e8) (l := [0]) 4 pf29 (.c (.i rfl) rfl <| .n) rfl (fun _ _ => rfl) rfl rfl <| cl [] cf127 (bytes_Count_c hx1) (.c (.t rfl) <| .b (.t rfl) rfl <| .n) (.inr rfl) <| u (mv (.t rfl)) <| u (lnm sf29 (.t rfl)) <| u (bc (.t rfl) (.t rfl) rfl rfl) <| u (asg (.t rfl)) <| .nil _) rfl ?_
  obtain rfl := Option.some.inj h
  exact .rt Tryz.func79 (.t rfl <| .n) .n rfl rfl

theorem pad_Clean_c {z : Option Nat} {b : List Int} {r : Bool} (h : pad_Clean z b = some r) :
    AC Tryz.prog 43 [.ro (.list 1 (List.map e8 b))] (.ro (.bool r)) [] := by
  refine AC.of Tryz.func43 rfl rfl fun w M0 hM => ?_
  unfold pad_Clean at h
  refine .sq ?_
  refine .rg (u (asg .b) <| .nil _) rfl ?_
  refine .sq ?_
  refine be h fun x1 hx1 h => ?_
  refine .rg (u (mv (.t rfl)) <| cl [] cf70 (pad_Trail_c hx1) (.c (.t rfl) <| .n) (.inl rfl) <| u (mv (.t rfl)) <| u (ex (.t rfl) rfl rfl) <| u (ex (.t rfl) rfl rfl) <| u (asg (.t rfl)) <| u (asg (.t rfl)) <| .nil _) rfl ?_
  refine .sq ?_
  refine be h fun x2 hx2 h => ?_
  refine be h fun x3 hx3 h => ?_
  refine .rg (u (mv (.t rfl)) <| u (bc (.t rfl) (.i rfl) rfl rfl) <| u (mv (.t rfl)) <| gd rfl rfl (fun hB => mv (.t rfl)) <| gd rfl rfl (fun hB => mv (.t rfl)) <| gd rfl rfl (fun hB => lnm sf29 (.m rfl hB)) <| gd rfl rfl (fun hB => mv (.t rfl)) <| gd rfl rfl (fun hB => bi (.m rfl hB) (.m rfl hB) rfl) <| gd rfl rfl (fun hB => mv (.t rfl)) <| gd rfl rfl (fun hB => lnm sf29 (.m rfl hB)) <| gd rfl rfl (fun hB => bi (.m rfl hB) (.i rfl) rfl) <| gd rfl rfl (fun hB => sl sf29 (.m rfl hB) (.s (.m rfl hB)) (.s (.m rfl hB)) (gTt hx2 hB)) <| cg rfl rfl cf79 (fun hB => (pad_Zero_c (gTt hx3 hB))) (fun hB => .c (.m rfl hB) <| .n) (.inl rfl) <| u (pka (.t rfl) (.t rfl)) <| u (asg (.t rfl)) <| .nil _) rfl ?_
  obtain rfl := Option.some.inj h
  exact .rt Tryz.func43 (.t rfl <| .n) .n rfl rfl

theorem packet_Canon_c {z : Option Nat} {b : List Int} {r : Bool} (h : packet_Canon z b = some r) :
    AC Tryz.prog 21 [.ro (.list 1 (List.map e8 b))] (.ro (.bool r)) [] := by
  refine AC.of Tryz.func21 rfl rfl fun w M0 hM => ?_
  unfold packet_Canon at h
  refine .sq ?_
  refine .rg (u (asg .b) <| .nil _) rfl ?_
  refine .sq ?_
  refine be h fun x1 hx1 h => ?_
  refine .rg (u (mv (.t rfl)) <| cl [] cf36 (packet_read_c hx1) (.c (.t rfl) <| .n) (.inl rfl) <| u (mv (.t rfl)) <| u (ex (.t rfl) rfl rfl) <| u (ex (.t rfl) rfl rfl) <| u (ex (.t rfl) rfl rfl) <| al 3 zf50 rfl <| st tf50 (.t rfl) rfl (.t rfl) rfl rfl rfl <| u (asg (.t rfl)) <| u (asg (.t rfl)) <| .nil _) rfl ?_
  refine .sq ?_
  refine be h fun x2 hx2 h => ?_
  refine .rg (u (mv (.t rfl)) <| u (bc (.t rfl) (.i rfl) rfl rfl) <| u (mv (.t rfl)) <| gd rfl rfl (fun hB => fa ff50_4 (.t rfl)) <| gd rfl rfl (fun hB => ld tf3 (.m rfl hB) rfl rfl) <| gd rfl rfl (fun hB => bc (.m rfl hB) (.i rfl) rfl rfl) <| gd rfl rfl (fun hB => mv (.m rfl hB)) <| gm rfl rfl (fun hB => mv (.t rfl)) <| cgm rfl rfl cf43 (fun hB => (pad_Clean_c (gTt hx2 (an2 hB.1 (nt hB.2))))) (fun hB => .c (.m rfl hB) <| .n) (.inl rfl) <| gd rfl rfl (fun hB => pkom (.m rfl hB) (.t rfl) hB) <| u (pka (.t rfl) (.t rfl)) <| u (asg (.t rfl)) <| .nil _) rfl ?_
  obtain rfl := Option.some.inj h
  exact .rt Tryz.func21 (.t rfl <| .n) .n rfl rfl

theorem ref05_Numbers_c {z : Option Nat} {p_a : List Int} {b : List Int} {r : Bool} (h : ref05_Numbers z p_a b = some r) :
    AC Tryz.prog 78 [.ro (.list 1 (List.map (ei .u32) p_a)), .ro (.list 1 (List.map (ei .u32) b))] (.ro (.bool r)) [] := by
  refine AC.of Tryz.func78 rfl rfl fun w M0 hM => ?_
  unfold ref05_Numbers at h
  refine .sq ?_
  refine .rg (u (asg .b) <| .nil _) rfl ?_
  refine .sq ?_
  refine .sq ?_
  refine .rg (u (mv (.t rfl)) <| u (lnm sf46 (.t rfl)) <| u (mv (.t rfl)) <| u (lnm sf46 (.t rfl)) <| u (bc (.t rfl) (.t rfl) rfl rfl) <| .nil _) rfl ?_
  refine .bq h (.t rfl) (fun h => ?_) (fun h => ?_)
  · refine .sq ?_
    refine .rg (u (asg .b) <| .nil _) rfl ?_
    obtain rfl := Option.some.inj h
    exact .rt Tryz.func78 (.t rfl <| .n) .n rfl rfl
  · refine .skp ?_
    refine .sq ?_
    refine .sq ?_
    refine .rg (u (asg (.i rfl)) <| .nil _) rfl ?_
    refine .bl ?_
    unfold ref05_Numbers_l1 at h
    refine .kq (.lo (fun (s : Int) => ⟨[(0, .ro (.list 1 (List.map (ei .u32) p_a))), (1, .ro (.list 1 (List.map (ei .u32) b))), (5, .ro (.int .i64 s))], []⟩) h ?_) (.c rfl (.c rfl (.c rfl .n))) .n
    intro v1 u1 h ih1 hx1
    replace h : ref05_Numbers_s1 z p_a b v1 = _ := h
    unfold ref05_Numbers_s1 at h
    refine .sq ?_
    refine .sq ?_
    refine .rg (u (mv (.t rfl)) <| u (mv (.t rfl)) <| u (lnm sf46 (.t rfl)) <| u (bc (.t rfl) (.t rfl) rfl rfl) <| .nil _) rfl ?_
    refine .bq h (.t rfl) (fun h => ?_) (fun h => ?_)
    · refine .skp ?_
      refine .sq ?_
      refine .bl ?_
      refine .sq ?_
      refine be h fun x2 hx2 h => ?_
      refine be h fun x3 hx3 h => ?_
      refine .rd mixed (u (mv (.t rfl)) <| u (mv (.t rfl)) <| u (ia sf46 (.t rfl) (.t rfl) (ix_map (ei .u32) hx2)) <| u (lr tf23 (.t rfl) rfl) <| u (mv (.t rfl)) <| u (mv (.t rfl)) <| u (ia sf46 (.t rfl) (.t rfl) (ix_map (ei .u32) hx3)) <| u (lr tf23 (.t rfl) rfl) <| u (bc (.t rfl) (.t rfl) rfl rfl) <| .nil _) (by kernel_rfl) rfl ?_
      refine .bq h (.t rfl) (fun h => ?_) (fun h => ?_)
      · refine .sq ?_
        refine .rg (u (asg .b) <| .nil _) rfl ?_
        replace h := mpR h hx1
        obtain rfl := Option.some.inj h
        exact .rt Tryz.func78 (.t rfl <| .n) .n rfl rfl
      · refine .skp ?_
        refine .ib ?_
        refine .rg (u (mv (.t rfl)) <| u (bi (.t rfl) (.i rfl) rfl) <| u (asg (.t rfl)) <| .nil _) rfl ?_
        exact .kq (.il (ih1 (ar .add .i64 v1 1) (nxi h))) (.c rfl (.c rfl (.c rfl .n))) .n
    · refine .xt rfl ?_
      replace h := mpR h hx1
      refine .sq ?_
      refine .rg (u (asg .b) <| .nil _) rfl ?_
      obtain rfl := Option.some.inj h
      exact .rt Tryz.func78 (.t rfl <| .n) .n rfl rfl

theorem ref05_Same_c {z : Option Nat} {p_a : Head} {b : Head} {r : Bool} (h : ref05_Same z p_a b = some r) :
    AC Tryz.prog 41 [.ro (enc_Head p_a), .ro (enc_Head b)] (.ro (.bool r)) [] := by
  refine AC.of Tryz.func41 rfl rfl fun w M0 hM => ?_
  unfold ref05_Same at h
  refine .sq ?_
  refine .rg (bx 2 (.t rfl) rfl rfl <| bx 3 (.t rfl) rfl rfl <| u (asg .b) <| .nil _) rfl ?_
  refine .sq ?_
  refine be h fun x1 hx1 h => ?_
  refine .rg (u (fa ff48_0 (.t rfl)) <| u (ld tf4 (.t rfl) rfl rfl) <| u (fa ff48_0 (.t rfl)) <| u (ld tf4 (.t rfl) rfl rfl) <| u (be2 ub4 (.t rfl) (.t rfl) rfl) <| u (mv (.t rfl)) <| gd rfl rfl (fun hB => fa ff48_1 (.t rfl)) <| gd rfl rfl (fun hB => ld tf4 (.m rfl hB) rfl rfl) <| gd rfl rfl (fun hB => fa ff48_1 (.t rfl)) <| gd rfl rfl (fun hB => ld tf4 (.m rfl hB) rfl rfl) <| gd rfl rfl (fun hB => be2 ub4 (.m rfl hB) (.m rfl hB) rfl) <| u (pka (.t rfl) (.t rfl)) <| u (mv (.t rfl)) <| gd rfl rfl (fun hB => fa ff48_2 (.t rfl)) <| gd rfl rfl (fun hB => ld tf4 (.m rfl hB) rfl rfl) <| gd rfl rfl (fun hB => fa ff48_2 (.t rfl)) <| gd rfl rfl (fun hB => ld tf4 (.m rfl hB) rfl rfl) <| gd rfl rfl (fun hB => be2 ub4 (.m rfl hB) (.m rfl hB) rfl) <| u (pka (.t rfl) (.t rfl)) <| u (mv (.t rfl)) <| gd rfl rfl (fun hB => fa ff48_3 (.t rfl)) <| gd rfl rfl (fun hB => ld tf3 (.m rfl hB) rfl rfl) <| gd rfl rfl (fun hB => fa ff48_3 (.t rfl)) <| gd rfl rfl (fun hB => ld tf3 (.m rfl hB) rfl rfl) <| gd rfl rfl (fun hB => bc (.m rfl hB) (.m rfl hB) rfl rfl) <| u (pka (.t rfl) (.t rfl)) <| u (mv (.t rfl)) <| gd rfl rfl (fun hB => fa ff48_4 (.t rfl)) <| gd rfl rfl (fun hB => ld tf22 (.m rfl hB) rfl rfl) <| gd rfl rfl (fun hB => fa ff48_4 (.t rfl)) <| gd rfl rfl (fun hB => ld tf22 (.m rfl hB) rfl rfl) <| gd rfl rfl (fun hB => bc (.m rfl hB) (.m rfl hB) rfl rfl) <| u (pka (.t rfl) (.t rfl)) <| u (mv (.t rfl)) <| gd rfl rfl (fun hB => fa ff48_5 (.t rfl)) <| gd rfl rfl (fun hB => ld tf23 (.m rfl hB) rfl rfl) <| gd rfl rfl (fun hB => fa ff48_5 (.t rfl)) <| gd rfl rfl (fun hB => ld tf23 (.m rfl hB) rfl rfl) <| gd rfl rfl (fun hB => bc (.m rfl hB) (.m rfl hB) rfl rfl) <| u (pka (.t rfl) (.t rfl)) <| u (mv (.t rfl)) <| gd rfl rfl (fun hB => fa ff48_6 (.t rfl)) <| gd rfl rfl (fun hB => ld tf23 (.m rfl hB) rfl rfl) <| gd rfl rfl (fun hB => fa ff48_6 (.t rfl)) <| gd rfl rfl (fun hB => ld tf23 (.m rfl hB) rfl rfl) <| gd rfl rfl (fun hB => bc (.m rfl hB) (.m rfl hB) rfl rfl) <| u (pka (.t rfl) (.t rfl)) <| u (mv (.t rfl)) <| gd rfl rfl (fun hB => fa ff48_7 (.t rfl)) <| gd rfl rfl (fun hB => ld tf46 (.m rfl hB) rfl rfl) <| gd rfl rfl (fun hB => fa ff48_7 (.t rfl)) <| gd rfl rfl (fun hB => ld tf46 (.m rfl hB) rfl rfl) <| cg rfl rfl cf78 (fun hB => (ref05_Numbers_c (gTt hx1 hB))) (fun hB => .c (.m rfl hB) <| .c (.m rfl hB) <| .n) (.inl rfl) <| u (pka (.t rfl) (.t rfl)) <| u (asg (.t rfl)) <| .nil _) rfl ?_
  obtain rfl := Option.some.inj h
  exact .rt Tryz.func41 (.t rfl <| .n) .n rfl rfl

theorem ref06_Same_c {z : Option Nat} {p_a : Packet} {b : Packet} {r : Bool} (h : ref06_Same z p_a b = some r) :
    AC Tryz.prog 19 [.ro (enc_Packet p_a), .ro (enc_Packet b)] (.ro (.bool r)) [] := by
  refine AC.of Tryz.func19 rfl rfl fun w M0 hM => ?_
  unfold ref06_Same at h
  refine .sq ?_
  refine .rg (bx 2 (.t rfl) rfl rfl <| bx 3 (.t rfl) rfl rfl <| u (asg .b) <| .nil _) rfl ?_
  refine .sq ?_
  refine be h fun x1 hx1 h => ?_
  refine .rg (u (fa ff50_0 (.t rfl)) <| u (ld tf48 (.t rfl) rfl rfl) <| u (fa ff50_0 (.t rfl)) <| u (ld tf48 (.t rfl) rfl rfl) <| cl [] cf41 (ref05_Same_c hx1) (.c (.t rfl) <| .c (.t rfl) <| .n) (.inl rfl) <| u (mv (.t rfl)) <| gd rfl rfl (fun hB => fa ff50_1 (.t rfl)) <| gd rfl rfl (fun hB => ld tf22 (.m rfl hB) rfl rfl) <| gd rfl rfl (fun hB => fa ff50_1 (.t rfl)) <| gd rfl rfl (fun hB => ld tf22 (.m rfl hB) rfl rfl) <| gd rfl rfl (fun hB => bc (.m rfl hB) (.m rfl hB) rfl rfl) <| u (pka (.t rfl) (.t rfl)) <| u (mv (.t rfl)) <| gd rfl rfl (fun hB => fa ff50_2 (.t rfl)) <| gd rfl rfl (fun hB => ld tf29 (.m rfl hB) rfl rfl) <| gd rfl rfl (fun hB => bt bt29_9 (.m rfl hB)) <| gd rfl rfl (fun hB => fa ff50_2 (.t rfl)) <| gd rfl rfl (fun hB => ld tf29 (.m rfl hB) rfl rfl) <| gd rfl rfl (fun hB => bt bt29_9 (.m rfl hB)) <| gd rfl rfl (fun hB => sq (.m rfl hB) (.m rfl hB) rfl rfl) <| u (pka (.t rfl) (.t rfl)) <| u (mv (.t rfl)) <| gd rfl rfl (fun hB => fa ff50_3 (.t rfl)) <| gd rfl rfl (fun hB => ld tf29 (.m rfl hB) rfl rfl) <| gd rfl rfl (fun hB => bt bt29_9 (.m rfl hB)) <| gd rfl rfl (fun hB => fa ff50_3 (.t rfl)) <| gd rfl rfl (fun hB => ld tf29 (.m rfl hB) rfl rfl) <| gd rfl rfl (fun hB => bt bt29_9 (.m rfl hB)) <| gd rfl rfl (fun hB => sq (.m rfl hB) (.m rfl hB) rfl rfl) <| u (pka (.t rfl) (.t rfl)) <| u (mv (.t rfl)) <| gd rfl rfl (fun hB => fa ff50_4 (.t rfl)) <| gd rfl rfl (fun hB => ld tf3 (.m rfl hB) rfl rfl) <| gd rfl rfl (fun hB => fa ff50_4 (.t rfl)) <| gd rfl rfl (fun hB => ld tf3 (.m rfl hB) rfl rfl) <| gd rfl rfl (fun hB => bc (.m rfl hB) (.m rfl hB) rfl rfl) <| u (pka (.t rfl) (.t rfl)) <| u (asg (.t rfl)) <| .nil _) rfl ?_
  obtain rfl := Option.some.inj h
  exact .rt Tryz.func19 (.t rfl <| .n) .n rfl rfl

theorem law31_StayAgain_c {z : Option Nat} {p : Plan} {b : List Int} {room : Int} {r : Bool} (h : law31_StayAgain z p b room = some r) :
    AC Tryz.prog 5 [.ro (enc_Plan p), .ro (.list 1 (List.map e8 b)), .ro (.int .i64 room)] (.ro (.bool r)) [] := by
  refine AC.of Tryz.func5 rfl rfl fun w M0 hM => ?_
  unfold law31_StayAgain at h
  refine .sq ?_
  refine .rg (bx 3 (.t rfl) rfl rfl <| u (asg .b) <| .nil _) rfl ?_
  refine .sq ?_
  refine .sq ?_
  refine .rg (cl [] cf6 law31_awake_k (.n) (.inl rfl) <| u (no (.t rfl)) <| .nil _) rfl ?_
  refine .cf (.t rfl) rfl ?_
  refine .skp ?_
  refine .sq ?_
  refine .sq ?_
  refine be h fun x1 hx1 h => ?_
  refine .rg (u (ld tf28 (.t rfl) rfl rfl) <| cl [] cf7 (ref29_Short_c hx1) (.c (.t rfl) <| .n) (.inl rfl) <| u (no (.t rfl)) <| u (mv (.t rfl)) <| gd rfl rfl (fun hB => mv (.t rfl)) <| gd rfl rfl (fun hB => lnm sf29 (.m rfl hB)) <| gd rfl rfl (fun hB => bc (.m rfl hB) (.i rfl) rfl rfl) <| u (pko (.t rfl) (.t rfl)) <| .nil _) rfl ?_
  refine .bq h (.t rfl) (fun h => ?_) (fun h => ?_)
  · refine .sq ?_
    refine .rg (u (asg .b) <| .nil _) rfl ?_
    obtain rfl := Option.some.inj h
    exact .rt Tryz.func5 (.t rfl <| .n) .n rfl rfl
  · refine .skp ?_
    refine .sq ?_
    refine be h fun x2 hx2 h => ?_
    refine .rg (u (mv (.t rfl)) <| cl [] cf15 (packet_Read_c hx2) (.c (.t rfl) <| .n) (.inl rfl) <| u (mv (.t rfl)) <| u (ex (.t rfl) rfl rfl) <| u (ex (.t rfl) rfl rfl) <| al 7 zf50 rfl <| st tf50 (.t rfl) rfl (.t rfl) rfl rfl rfl <| u (asg (.t rfl)) <| .nil _) rfl ?_
    refine .sq ?_
    refine be h fun x3 hx3 h => ?_
    refine .rg (u (ld tf28 (.t rfl) rfl rfl) <| u (mv (.t rfl)) <| u (mv (.t rfl)) <| cnf 39000 cf13 (stay_Again_c hx3) (.c (.t rfl) <| .c (.t rfl) <| .c (.t rfl) <| .n) rfl rfl rfl <| u (mv (.t rfl)) <| u (ex (.t rfl) rfl rfl) <| u (ex (.t rfl) rfl rfl) <| u (asg (.t rfl)) <| u (asg (.t rfl)) <| .nil _) rfl ?_
    refine .sq ?_
    refine .sq ?_
    refine .rg (u (mv (.t rfl)) <| u (bc (.t rfl) (.i rfl) rfl rfl) <| .nil _) rfl ?_
    refine .bq h (.t rfl) (fun h => ?_) (fun h => ?_)
    · refine .sq ?_
      refine .rg (u (mv (.t rfl)) <| u (mv (.t rfl)) <| u (bc (.t rfl) (.t rfl) rfl rfl) <| u (mv (.t rfl)) <| gd rfl rfl (fun hB => mv (.t rfl)) <| gd rfl rfl (fun hB => lom sf29 (.m rfl hB) rfl) <| gd rfl rfl (fun hB => bc (.m rfl hB) (.i rfl) rfl rfl) <| u (pka (.t rfl) (.t rfl)) <| u (asg (.t rfl)) <| .nil _) rfl ?_
      obtain rfl := Option.some.inj h
      exact .rt Tryz.func5 (.t rfl <| .n) .n rfl rfl
    · refine .skp ?_
      refine .sq ?_
      refine be h fun x4 hx4 h => ?_
      refine .rg (u (ld tf28 (.t rfl) rfl rfl) <| u (ld tf50 (.t rfl) rfl rfl) <| cl [] cf18 (plan_Apply_c hx4) (.c (.t rfl) <| .c (.t rfl) <| .n) (.inl rfl) <| u (mv (.t rfl)) <| u (ex (.t rfl) rfl rfl) <| u (ex (.t rfl) rfl rfl) <| al 11 zf50 rfl <| st tf50 (.t rfl) rfl (.t rfl) rfl rfl rfl <| u (asg (.t rfl)) <| .nil _) rfl ?_
      refine .sq ?_
      refine .sq ?_
      refine .rg (u (mv (.t rfl)) <| u (bc (.t rfl) (.i rfl) rfl rfl) <| .nil _) rfl ?_
      refine .bq h (.t rfl) (fun h => ?_) (fun h => ?_)
      · refine .sq ?_
        refine .rg (u (mv (.t rfl)) <| u (mv (.t rfl)) <| u (bc (.t rfl) (.t rfl) rfl rfl) <| u (mv (.t rfl)) <| gd rfl rfl (fun hB => mv (.t rfl)) <| gd rfl rfl (fun hB => lom sf29 (.m rfl hB) rfl) <| gd rfl rfl (fun hB => bc (.m rfl hB) (.i rfl) rfl rfl) <| u (pka (.t rfl) (.t rfl)) <| u (asg (.t rfl)) <| .nil _) rfl ?_
        obtain rfl := Option.some.inj h
        exact .rt Tryz.func5 (.t rfl <| .n) .n rfl rfl
      · refine .skp ?_
        refine .sq ?_
        refine .sq ?_
        refine .rg (u (ld tf50 (.t rfl) rfl rfl) <| cl [] cf22 (packet_Size_c x4.1) (.c (.t rfl) <| .n) (.inl rfl) <| u (mv (.t rfl)) <| u (bc (.t rfl) (.t rfl) rfl rfl) <| .nil _) rfl ?_
        refine .bq h (.t rfl) (fun h => ?_) (fun h => ?_)
        · refine .sq ?_
          refine .rg (u (mv (.t rfl)) <| u (bc (.t rfl) (.i rfl) rfl rfl) <| u (mv (.t rfl)) <| gd rfl rfl (fun hB => mv (.t rfl)) <| gd rfl rfl (fun hB => lom sf29 (.m rfl hB) rfl) <| gd rfl rfl (fun hB => bc (.m rfl hB) (.i rfl) rfl rfl) <| u (pka (.t rfl) (.t rfl)) <| u (asg (.t rfl)) <| .nil _) rfl ?_
          obtain rfl := Option.some.inj h
          exact .rt Tryz.func5 (.t rfl <| .n) .n rfl rfl
        · refine .skp ?_
          refine .sq ?_
          refine .fz 39000 rfl ?_
          refine be h fun x5 hx5 h => ?_
          refine .rg (u (mv (.t rfl)) <| cl [] cf15 (packet_Read_c hx5) (.c (.t rfl) <| .n) (.inl rfl) <| u (mv (.t rfl)) <| u (ex (.t rfl) rfl rfl) <| u (ex (.t rfl) rfl rfl) <| al 13 zf50 rfl <| st tf50 (.t rfl) rfl (.t rfl) rfl rfl rfl <| u (asg (.t rfl)) <| .nil _) rfl ?_
          refine .sq ?_
          refine be h fun x6 hx6 h => ?_
          refine .rg (u (bd bf28 zf28 (.n) rfl) <| u (mv (.t rfl)) <| cnf 87000 cf13 (stay_Again_c hx6) (.c (.t rfl) <| .c (.t rfl) <| .c (.i rfl) <| .n) rfl rfl rfl <| u (mv (.t rfl)) <| u (ex (.t rfl) rfl rfl) <| u (ex (.t rfl) rfl rfl) <| u (asg (.t rfl)) <| u (asg (.t rfl)) <| .nil _) rfl ?_
          refine .sq ?_
          refine be h fun x7 hx7 h => ?_
          refine .rg (u (ld tf50 (.t rfl) rfl rfl) <| cnf 92000 cf23 (packet_Write_c hx7) (.c (.t rfl) <| .c (.i rfl) <| .n) rfl rfl rfl <| u (mv (.t rfl)) <| u (ex (.t rfl) rfl rfl) <| u (ex (.t rfl) rfl rfl) <| u (asg (.t rfl)) <| u (asg (.t rfl)) <| .nil _) rfl ?_
          refine .sq ?_
          refine be h fun x8 hx8 h => ?_
          refine be h fun x9 hx9 h => ?_
          refine .rg (u (mv (.t rfl)) <| u (bc (.t rfl) (.i rfl) rfl rfl) <| u (mv (.t rfl)) <| gd rfl rfl (fun hB => mv (.t rfl)) <| gd rfl rfl (fun hB => bc (.m rfl hB) (.i rfl) rfl rfl) <| u (pka (.t rfl) (.t rfl)) <| u (mv (.t rfl)) <| gd rfl rfl (fun hB => mv (.t rfl)) <| cg rfl rfl cf21 (fun hB => (packet_Canon_c (gTt hx8 hB))) (fun hB => .c (.m rfl hB) <| .n) (.inl rfl) <| u (pka (.t rfl) (.t rfl)) <| u (mv (.t rfl)) <| gd rfl rfl (fun hB => ld tf50 (.t rfl) rfl rfl) <| gd rfl rfl (fun hB => ld tf50 (.t rfl) rfl rfl) <| cg rfl rfl cf19 (fun hB => (ref06_Same_c (gTt hx9 hB))) (fun hB => .c (.m rfl hB) <| .c (.m rfl hB) <| .n) (.inl rfl) <| u (pka (.t rfl) (.t rfl)) <| u (mv (.t rfl)) <| gd rfl rfl (fun hB => mv (.t rfl)) <| gd rfl rfl (fun hB => bc (.m rfl hB) (.i rfl) rfl rfl) <| u (pka (.t rfl) (.t rfl)) <| u (mv (.t rfl)) <| gd rfl rfl (fun hB => mv (.t rfl)) <| gd rfl rfl (fun hB => bc (.m rfl hB) (.i rfl) rfl rfl) <| u (pka (.t rfl) (.t rfl)) <| u (mv (.t rfl)) <| gd rfl rfl (fun hB => mv (.t rfl)) <| gd rfl rfl (fun hB => bto bt29_9 (.m rfl hB) rfl) <| gd rfl rfl (fun hB => mv (.t rfl)) <| gd rfl rfl (fun hB => bto bt29_9 (.m rfl hB) rfl) <| gd rfl rfl (fun hB => sq (.m rfl hB) (.m rfl hB) rfl rfl) <| u (pka (.t rfl) (.t rfl)) <| u (asg (.t rfl)) <| .nil _) rfl ?_
          obtain rfl := Option.some.inj h
          exact .rt Tryz.func5 (.t rfl <| .n) .n rfl rfl

end Xb
