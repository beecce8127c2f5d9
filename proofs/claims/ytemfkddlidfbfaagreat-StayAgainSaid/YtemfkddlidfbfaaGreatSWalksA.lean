/- Own text: SWalksA. -/
import Derived.Test.YtemfkddlidfbfaaGreatSFacts
import Derived.Test.YtemfkddlidfbfaaGreatSRaw
import Derived.Test.YtemfkddlidfbfaaGreatSIter
set_option linter.all false
set_option linter.unusedVariables false
set_option linter.unusedSimpArgs false
set_option linter.unnecessarySimpa false
set_option linter.deprecated false
namespace Xb
open Go Go.Proofs
set_option linter.unusedVariables false
set_option maxRecDepth 20000

theorem octet_sized_c (n : Int) :
    AC Tryz.prog 83 [.ro (.int .i64 n)] (.ro (.bool (octet_sized n))) [] := by
  obtain ⟨r, h⟩ : ∃ r, octet_sized n = r := ⟨_, rfl⟩
  rw [h]
  refine AC.of Tryz.func83 rfl rfl fun w M0 hM => ?_
  unfold octet_sized at h
  refine .sq ?_
  refine .rg (u (asg .b) <| .nil _) rfl ?_
  refine .sq ?_
  refine .rg (u (mv (.t rfl)) <| u (bc (.t rfl) (.i rfl) rfl rfl) <| u (mv (.t rfl)) <| gd rfl rfl (fun hB => mv (.t rfl)) <| gd rfl rfl (fun hB => bc (.m rfl hB) (.i rfl) rfl rfl) <| u (pka (.t rfl) (.t rfl)) <| u (asg (.t rfl)) <| .nil _) rfl ?_
  subst h
  exact .rt Tryz.func83 (.t rfl <| .n) .n rfl rfl

theorem octet_there_c (b : List Int) (at_ : Int) (n : Int) :
    AC Tryz.prog 134 [.ro (.list 1 (List.map e8 b)), .ro (.int .i64 at_), .ro (.int .i64 n)] (.ro (.bool (octet_there b at_ n))) [] := by
  obtain ⟨r, h⟩ : ∃ r, octet_there b at_ n = r := ⟨_, rfl⟩
  rw [h]
  refine AC.of Tryz.func134 rfl rfl fun w M0 hM => ?_
  unfold octet_there at h
  refine .sq ?_
  refine .rg (u (asg .b) <| .nil _) rfl ?_
  refine .sq ?_
  refine .rg (u (mv (.t rfl)) <| u (mv (.t rfl)) <| u (lnm sf29 (.t rfl)) <| u (bc (.t rfl) (.t rfl) rfl rfl) <| u (mv (.t rfl)) <| gd rfl rfl (fun hB => mv (.t rfl)) <| gd rfl rfl (fun hB => mv (.t rfl)) <| gd rfl rfl (fun hB => lnm sf29 (.m rfl hB)) <| gd rfl rfl (fun hB => mv (.t rfl)) <| gd rfl rfl (fun hB => bi (.m rfl hB) (.m rfl hB) rfl) <| gd rfl rfl (fun hB => bc (.m rfl hB) (.m rfl hB) rfl rfl) <| u (pka (.t rfl) (.t rfl)) <| u (asg (.t rfl)) <| .nil _) rfl ?_
  subst h
  exact .rt Tryz.func134 (.t rfl <| .n) .n rfl rfl

theorem octet_Get_c {z : Option Nat} {b : List Int} {at_ : Int} {n : Int} {r : Int × Int} (h : octet_Get z b at_ n = some r) :
    AC Tryz.prog 109 [.ro (.list 1 (List.map e8 b)), .ro (.int .i64 at_), .ro (.int .i64 n)] (.ro (.tup [.int .u64 r.1, .int .i64 r.2])) [] := by
  refine AC.of Tryz.func109 rfl rfl fun w M0 hM => ?_
  unfold octet_Get at h
  refine .sq ?_
  refine .rg (u (asg (.i rfl)) <| u (asg (.i rfl)) <| .nil _) rfl ?_
  refine .sq ?_
  refine .bl ?_
  refine .sq ?_
  refine .sq ?_
  refine .rg (u (mv (.t rfl)) <| cl [] cf83 (octet_sized_c n) (.c (.t rfl) <| .n) (.inl rfl) <| u (no (.t rfl)) <| u (asg (.t rfl)) <| .nil _) rfl ?_
  refine .jq (t := some r) (fun (a : Bool) => ⟨[(0, .ro (.list 1 (List.map e8 b))), (1, .ro (.int .i64 at_)), (2, .ro (.int .i64 n)), (11, .ro (.bool a))], []⟩) (fun (a : Bool) => octet_Get_j1 z b at_ n a) ?_ (fun J1 => ?_)
  · intro v1 h
    replace h : octet_Get_j1 z b at_ n v1 = _ := h
    unfold octet_Get_j1 at h
    refine .bq h (.t rfl) (fun h => ?_) (fun h => ?_)
    · refine .sq ?_
      refine .rg (u (asg (.i rfl)) <| u (asg (.i rfl)) <| .nil _) rfl ?_
      obtain rfl := Option.some.inj h
      exact .rt Tryz.func109 (.t rfl <| .t rfl <| .n) .n rfl rfl
    · refine .sq ?_
      refine .rg (u (mv (.t rfl)) <| u (mv (.t rfl)) <| u (mv (.t rfl)) <| cl [] cf134 (octet_there_c b at_ n) (.c (.t rfl) <| .c (.t rfl) <| .c (.t rfl) <| .n) (.inl rfl) <| u (no (.t rfl)) <| u (asg (.t rfl)) <| .nil _) rfl ?_
      refine .bq h (.t rfl) (fun h => ?_) (fun h => ?_)
      · refine .sq ?_
        refine .rg (u (asg (.i rfl)) <| u (asg (.i rfl)) <| .nil _) rfl ?_
        obtain rfl := Option.some.inj h
        exact .rt Tryz.func109 (.t rfl <| .t rfl <| .n) .n rfl rfl
      · refine .skp ?_
        refine .ib ?_
        refine .sq ?_
        refine .rg (u (asg (.i rfl)) <| .nil _) rfl ?_
        refine .sq ?_
        refine .sq ?_
        refine be h fun x2 hx2 h => ?_
        refine .rg (u (mv (.t rfl)) <| u (mv (.t rfl)) <| u (mv (.t rfl)) <| u (mv (.t rfl)) <| u (bi (.t rfl) (.t rfl) rfl) <| u (sl sf29 (.t rfl) (.s (.t rfl)) (.s (.t rfl)) hx2) <| u (lnm sf29 (.t rfl)) <| u (mv (.i rfl)) <| .nil _) rfl ?_
        refine .bl ?_
        unfold octet_Get_l2 at h
        refine .kq (.lo (fun (s : Int × Int) => ⟨[(8, .ro (.int .u64 s.1)), (28, .ro (.list 1 (List.map e8 x2))), (29, .ro (.int .i64 (x2.length : Int))), (30, .ro (.int .i64 s.2))], []⟩) h ?_) (.c rfl (.c rfl (.c rfl (.c rfl .n)))) .n
        rintro ⟨v3, v4⟩ u2 h ih2 hx2
        replace h : octet_Get_s2 z x2 v3 v4 = _ := h
        unfold octet_Get_s2 at h
        refine .sq ?_
        refine .rg (u (bc (.t rfl) (.t rfl) rfl rfl) <| .nil _) rfl ?_
        refine .sq ?_
        refine .bq h (.t rfl) (fun h => ?_) (fun h => ?_)
        · refine .skp ?_
          refine .sq ?_
          refine .bl ?_
          refine .sq ?_
          refine be h fun x5 hx5 h => ?_
          refine .rg (u (ia sf29 (.t rfl) (.t rfl) (ix_map e8 hx5)) <| u (lr tf5 (.t rfl) rfl) <| u (asg (.t rfl)) <| .nil _) rfl ?_
          refine .rg (u (mv (.t rfl)) <| u (sh (.t rfl) (.i rfl) rfl (by decide)) <| u (mv (.t rfl)) <| u (cv cv5_85 (.t rfl)) <| u (bi (.t rfl) (.t rfl) rfl) <| u (asg (.t rfl)) <| .nil _) rfl ?_
          refine .ib ?_
          refine .rg (u (bi (.t rfl) (.i rfl) rfl) <| u (mv (.t rfl)) <| .nil _) rfl ?_
          exact .kq (.il (ih2 ((ar .or .u64 (sf .shl .u64 v3 8) (IntKind.u64.wrap x5)), (ar .add .i64 v4 1)) (nxi h))) (.c rfl (.c rfl (.c rfl (.c rfl .n)))) .n
        · refine .xt rfl ?_
          replace h := mpR h hx2
          refine .sq ?_
          refine .rg (u (mv (.t rfl)) <| u (asg (.t rfl)) <| u (asg (.i rfl)) <| .nil _) rfl ?_
          obtain rfl := Option.some.inj h
          exact .rt Tryz.func109 (.t rfl <| .t rfl <| .n) .n rfl rfl
  refine .bq h (.t rfl) (fun h => ?_) (fun h => ?_)
  · refine .skp ?_
    exact .kq (J1 (!(octet_sized n)) h) (.c rfl (.c rfl (.c rfl (.c rfl .n)))) .n
  · refine .rg (u (mv (.t rfl)) <| u (bc (.t rfl) (.i rfl) rfl rfl) <| u (asg (.t rfl)) <| .nil _) rfl ?_
    exact .kq (J1 (cm .lss at_ 0) h) (.c rfl (.c rfl (.c rfl (.c rfl .n)))) .n

theorem head_number_c {z : Option Nat} {b : List Int} {r : Int} (h : head_number z b = some r) :
    AC Tryz.prog 107 [.ro (.list 1 (List.map e8 b))] (.ro (.int .u32 r)) [] := by
  refine AC.of Tryz.func107 rfl rfl fun w M0 hM => ?_
  unfold head_number at h
  refine .sq ?_
  refine .rg (u (asg (.i rfl)) <| .nil _) rfl ?_
  refine .sq ?_
  refine be h fun x1 hx1 h => ?_
  refine .rg (u (mv (.t rfl)) <| u (mv (.t rfl)) <| u (lnm sf29 (.t rfl)) <| cl [] cf109 (octet_Get_c hx1) (.c (.t rfl) <| .c (.i rfl) <| .c (.t rfl) <| .n) (.inl rfl) <| u (mv (.t rfl)) <| u (ex (.t rfl) rfl rfl) <| u (ex (.t rfl) rfl rfl) <| u (asg (.t rfl)) <| u (asg (.t rfl)) <| .nil _) rfl ?_
  refine .sq ?_
  refine .rg (u (mv (.t rfl)) <| u (cv cv85_23 (.t rfl)) <| u (asg (.t rfl)) <| .nil _) rfl ?_
  obtain rfl := Option.some.inj h
  exact .rt Tryz.func107 (.t rfl <| .n) .n rfl rfl

theorem slices_Chunk_byte108_c {l : List Int} {n : Int} (hn : cm .lss n 1 = false) : AC Tryz.prog 108 [.ro (.list 1 (List.map e8 l)), .ro (.int .i64 n)] (.fn (.func 133) [] [.rptr [.list 1 (List.map e8 l)], .rptr [.int .i64 n]]) [] := by
  refine AC.of Tryz.func108 rfl rfl fun w M0 hM => ?_
  refine .sq ?_
  refine .rg (bx 2 (.t rfl) rfl rfl <| bx 3 (.t rfl) rfl rfl <| u (asg (.r rfl)) <| .nil _) rfl ?_
  refine .sq ?_
  refine .sq ?_
  refine .rg (u (ld tf3 (.t rfl) rfl rfl) <| u (bc (.t rfl) (.i rfl) rfl rfl) <| .nil _) rfl ?_
  refine .cf (.t rfl) hn ?_
  refine .skp ?_
  refine .sq ?_
  refine .fb 2 rfl rfl ?_
  refine .fb 3 rfl rfl ?_
  refine .rg (u (mfn (.c (.t rfl) <| .c (.t rfl) <| .n)) <| u (asg (.t rfl)) <| .nil _) rfl ?_
  exact .rt Tryz.func108 (.t rfl <| .n) .n rfl rfl

theorem head_Read_c {z : Option Nat} {b : List Int} {r : Head × Int × Int} (h : head_Read z b = some r) :
    AC Tryz.prog 68 [.ro (.list 1 (List.map e8 b))] (.ro (.tup [enc_Head r.1, .int .i64 r.2.1, .int .i64 r.2.2])) [] := by
  refine AC.of Tryz.func68 rfl rfl fun w M0 hM => ?_
  unfold head_Read at h
  refine .sq ?_
  refine .rg (al 2 zf48 rfl <| u (asg (.i rfl)) <| u (asg (.i rfl)) <| .nil _) rfl ?_
  refine .sq ?_
  refine .bl ?_
  refine .sq ?_
  refine .rg (u (mv (.t rfl)) <| u (lnm sf29 (.t rfl)) <| u (bc (.t rfl) (.i rfl) rfl rfl) <| u (asg (.t rfl)) <| .nil _) rfl ?_
  refine .bq h (.t rfl) (fun h => ?_) (fun h => ?_)
  · refine .sq ?_
    refine .rg (u (bd bf48 zf48 (.n) rfl) <| st tf48 (.t rfl) rfl (.t rfl) rfl rfl rfl <| u (asg (.i rfl)) <| u (asg (.i rfl)) <| .nil _) rfl ?_
    obtain rfl := Option.some.inj h
    exact .rt Tryz.func68 (.c tf48 rfl rfl rfl <| .t rfl <| .t rfl <| .n) .n rfl rfl
  · refine .sq ?_
    refine be h fun x1 hx1 h => ?_
    refine .rg (u (mv (.t rfl)) <| u (ia sf29 (.t rfl) (.i rfl) (ix_map e8 hx1)) <| u (lr tf5 (.t rfl) rfl) <| u (sh (.t rfl) (.i rfl) rfl (by decide)) <| u (bc (.t rfl) (.i rfl) rfl rfl) <| u (asg (.t rfl)) <| .nil _) rfl ?_
    refine .bq h (.t rfl) (fun h => ?_) (fun h => ?_)
    · refine .sq ?_
      refine .rg (u (bd bf48 zf48 (.n) rfl) <| st tf48 (.t rfl) rfl (.t rfl) rfl rfl rfl <| u (asg (.i rfl)) <| u (asg (.i rfl)) <| .nil _) rfl ?_
      obtain rfl := Option.some.inj h
      exact .rt Tryz.func68 (.c tf48 rfl rfl rfl <| .t rfl <| .t rfl <| .n) .n rfl rfl
    · refine .skp ?_
      refine .ib ?_
      refine .sq ?_
      refine be h fun x2 hx2 h => ?_
      refine .rg (u (mv (.t rfl)) <| u (ia sf29 (.t rfl) (.i rfl) (ix_map e8 hx2)) <| u (lr tf5 (.t rfl) rfl) <| u (bi (.t rfl) (.i rfl) rfl) <| u (cv cv5_3 (.t rfl)) <| u (asg (.t rfl)) <| .nil _) rfl ?_
      refine .sq ?_
      refine .rg (u (mv (.t rfl)) <| u (bi (.i rfl) (.t rfl) rfl) <| u (bi (.i rfl) (.t rfl) rfl) <| u (asg (.t rfl)) <| .nil _) rfl ?_
      refine .sq ?_
      refine .sq ?_
      refine .rg (u (mv (.t rfl)) <| u (lnm sf29 (.t rfl)) <| u (mv (.t rfl)) <| u (bc (.t rfl) (.t rfl) rfl rfl) <| .nil _) rfl ?_
      refine .bq h (.t rfl) (fun h => ?_) (fun h => ?_)
      · refine .sq ?_
        refine .rg (u (bd bf48 zf48 (.n) rfl) <| st tf48 (.t rfl) rfl (.t rfl) rfl rfl rfl <| u (asg (.i rfl)) <| u (asg (.i rfl)) <| .nil _) rfl ?_
        obtain rfl := Option.some.inj h
        exact .rt Tryz.func68 (.c tf48 rfl rfl rfl <| .t rfl <| .t rfl <| .n) .n rfl rfl
      · refine .skp ?_
        refine .sq ?_
        refine be h fun x3 hx3 h => ?_
        refine be h fun x4 hx4 h => ?_
        refine be h fun x5 hx5 h => ?_
        refine be h fun x6 hx6 h => ?_
        refine .rd mixed (u (mv (.t rfl)) <| u (ia sf29 (.t rfl) (.i rfl) (ix_map e8 hx3)) <| u (lr tf5 (.t rfl) rfl) <| u (bi (.t rfl) (.i rfl) rfl) <| u (bc (.t rfl) (.i rfl) rfl rfl) <| u (mv (.t rfl)) <| u (ia sf29 (.t rfl) (.i rfl) (ix_map e8 hx4)) <| u (lr tf5 (.t rfl) rfl) <| u (bi (.t rfl) (.i rfl) rfl) <| u (bc (.t rfl) (.i rfl) rfl rfl) <| u (mv (.t rfl)) <| u (ia sf29 (.t rfl) (.i rfl) (ix_map e8 hx5)) <| u (lr tf5 (.t rfl) rfl) <| u (bi (.t rfl) (.i rfl) rfl) <| u (bc (.t rfl) (.i rfl) rfl rfl) <| u (mv (.t rfl)) <| u (ia sf29 (.t rfl) (.i rfl) (ix_map e8 hx6)) <| u (lr tf5 (.t rfl) rfl) <| u (bi (.t rfl) (.i rfl) rfl) <| u (cv cv5_3 (.t rfl)) <| u (bd bf48 zf48_7 (.c rfl (.t rfl) rfl rfl rfl <| .c rfl (.t rfl) rfl rfl rfl <| .c rfl (.t rfl) rfl rfl rfl <| .c rfl (.t rfl) rfl rfl rfl <| .n) rfl) <| al 7 zf48_7 rfl <| st tf48 (.t rfl) rfl (.t rfl) rfl rfl rfl <| .nil _) (by kernel_rfl) rfl ?_
        refine .th (F := (ei .u32)) 7 7 700707 23 1 rfl rfl rfl ?_
        refine .sq ?_
        refine be h fun x7 hx7 h => ?_
        refine be h fun x8 hx8 h => ?_
        refine be h fun x9 hx9 h => ?_
        refine be h fun x10 hx10 h => ?_
        refine be h fun x11 hx11 h => ?_
        refine be h fun x12 hx12 h => ?_
        refine .rd mixed (u (mv (.t rfl)) <| u (sl sf29 (.t rfl) (.s (.i rfl)) (.s (.i rfl)) hx7) <| cl [] cf107 (head_number_c hx8) (.c (.t rfl) <| .n) (.inl rfl) <| u (cv cv23_22 (.t rfl)) <| u (mv (.t rfl)) <| u (sl sf29 (.t rfl) (.s (.i rfl)) (.s (.i rfl)) hx9) <| cl [] cf107 (head_number_c hx10) (.c (.t rfl) <| .n) (.inl rfl) <| u (mv (.t rfl)) <| u (sl sf29 (.t rfl) (.s (.i rfl)) (.s (.i rfl)) hx11) <| cl [] cf107 (head_number_c hx12) (.c (.t rfl) <| .n) (.inl rfl) <| u (fa ff48_4 (.t rfl)) <| st tf22 (.t rfl) rfl (.t rfl) rfl rfl rfl <| u (fa ff48_5 (.t rfl)) <| st tf23 (.t rfl) rfl (.t rfl) rfl rfl rfl <| u (fa ff48_6 (.t rfl)) <| st tf23 (.t rfl) rfl (.t rfl) rfl rfl rfl <| .nil _) (by kernel_rfl) rfl ?_
        refine .sq ?_
        refine .sq ?_
        refine be h fun x13 hx13 h => ?_
        refine .rg (u (mv (.t rfl)) <| u (mv (.t rfl)) <| u (sl sf29 (.t rfl) (.s (.i rfl)) (.s (.t rfl)) hx13) <| cnf 0 cf108 (slices_Chunk_byte108_c (l := x13) (n := 4) rfl) (.c (.t rfl) <| .c (.i rfl) <| .n) rfl rfl rfl <| .nil _) rfl ?_
        refine .bl ?_
        refine be h fun x14 hx14 h => ?_
        unfold head_Read_l1 at h
        refine .kq (.rgc (n := 4) (F := e8) (fun (s : Head) => ⟨[(2, .ptr 2 0), (6, .ro (.int .i64 (ar .add .i64 12 (ar .mul .i64 4 (IntKind.i64.wrap (ar .and .u8 x2 15)))))), (7, .ptr 7 0), (71, .fn (.func 133) [] [.rptr [.list 1 (List.map e8 x13)], .rptr [.int .i64 4]])], [(2, some (.box [.ro (.bool false), .ro (.bool false), .ro (.bool false), .ro (.int .i64 0), .ro (.int .u16 0), .ro (.int .u32 0), .ro (.int .u32 0), .ro (.list 1 (List.map (ei .u32) []))])), (7, some (.box [.ro (.bool s.hasPad), .ro (.bool s.hasExt), .ro (.bool s.marker), .ro (.int .i64 s.type), .ro (.int .u16 s.seq), .ro (.int .u32 s.time), .ro (.int .u32 s.ssrc), .own 700707])), (700707, some (.arr 23 1 (List.map (ei .u32) s.csrc)))]⟩) [2, 6, 7, 71] chunk133_in cf133 h (lnO_le hx14) rfl (fun _ => rfl) (fun _ => rfl) rfl ⟨rfl, rfl⟩ ?_ ?_) (.c rfl (.c rfl (.c rfl (.c rfl .n)))) (.c rfl (.c rfl (.c rfl .n)))
        · rintro D1 l1 r1 pv1 R1 y1 v15 u1 h ih1 hx1 jr1 jx1 bg1
          replace h : head_Read_s1 z y1 v15 = _ := h
          unfold head_Read_s1 at h
          refine .rg (u (asg (.t rfl)) <| .nil _) rfl ?_
          refine bg1 _ _ ?_
          refine .bl ?_
          refine be h fun x16 hx16 h => ?_
          refine be h fun x17 hx17 h => ?_
          refine .rd mixed (u (fa ff48_7 (.t rfl)) <| u (ld tf46 (.t rfl) rfl rfl) <| u (mv (.t rfl)) <| cl [] cf107 (head_number_c hx16) (.c (.t rfl) <| .n) (.inl rfl) <| bs (F := (ei .u32)) (l := [x16]) 77 pf46 (.c (.t rfl) rfl <| .n) rfl (fun _ _ => rfl) rfl rfl <| apo 78 pf46 (.t rfl) rfl (.t rfl) rfl hx17 rfl <| u (fa ff48_7 (.t rfl)) <| st tf46 (.t rfl) rfl (.t rfl) rfl rfl rfl <| .nil _) (by kernel_rfl) rfl ?_
          refine .ib ?_
          exact .ks (fun i => bif Nat.beq i 700707 then 78 else i) (ih1 ({ v15 with csrc := x17 }) (nxi h)) (.c rfl (.c rfl (.c rfl (.c rfl .n)))) (.c rfl (.c rfl (.c rfl .n))) rfl
        · rintro D1 v15 h
          replace h : head_Read_d1 z x2 v15 = _ := h
          unfold head_Read_d1 at h
          refine .ib ?_
          refine .sq ?_
          refine .rg (u (ld tf48 (.t rfl) rfl rfl) <| u (mv (.t rfl)) <| st tf48 (.t rfl) rfl (.t rfl) rfl rfl rfl <| u (asg (.t rfl)) <| u (asg (.i rfl)) <| .nil _) rfl ?_
          refine .fz 700707 rfl ?_
          obtain rfl := Option.some.inj h
          exact .rt Tryz.func68 (.c tf48 rfl rfl rfl <| .t rfl <| .t rfl <| .n) .n rfl rfl

theorem slices_Clone_c {l r : List Int} (h : slices_Clone l = some r) : AC Tryz.prog 28 [.ro (.list 1 (List.map e8 l))] (.own 0) [(0, .arr 5 1 (List.map e8 r))] := by
  unfold slices_Clone at h
  obtain rfl := app_nil h
  refine AC.of Tryz.func28 rfl rfl fun w M0 hM => ?_
  refine .sq ?_
  refine .rg (anm e8 0 5 1 rfl rfl <| .nil _) rfl ?_
  refine .sq ?_
  refine .sq ?_
  refine .nq rfl sf29 rfl rfl fun b hb => ?_
  refine .cd (.t rfl) (fun hh => ?_) (fun _ => ?_)
  · have hl := hb hh
    obtain rfl := List.map_eq_nil_iff.1 hl
    refine .sq ?_
    refine .rg (anm e8 10 5 1 rfl rfl <| .nil _) rfl ?_
    refine .ks (l := [(2, .own 0)]) (o := [(0, some (.arr 5 1 (List.map e8 [])))]) (fun i => bif Nat.beq i 0 then 10 else i) ?_ (.c rfl .n) (.c rfl .n) rfl
    exact .rt Tryz.func28 (.t rfl <| .n) (.c rfl .n) rfl rfl
  · refine .skp ?_
    refine .sq ?_
    refine .rg (bs (F := e8) (l := ([] : List Int)) 5 pf29 .n rfl (fun _ _ => rfl) rfl rfl <| u (mv (.t rfl)) <| ap 7 pf29 (.t rfl) rfl (.t rfl) h rfl <| u (asg (.t rfl)) <| .nil _) rfl ?_
    refine .ks (l := [(2, .own 0)]) (o := [(0, some (.arr 5 1 (List.map e8 l)))]) (fun i => bif Nat.beq i 0 then 7 else i) ?_ (.c rfl .n) (.c rfl .n) rfl
    exact .rt Tryz.func28 (.t rfl <| .n) (.c rfl .n) rfl rfl

theorem slices_Clone_r {l r : List Int} (h : slices_Clone l = some r) : AC Tryz.prog 28 [.ro (.list 1 (List.map e8 l))] (.ro (.list 1 (List.map e8 r))) [] := AC.fz (slices_Clone_c h) rfl

theorem octet_Part_c {b : List Int} {at_ : Int} {n : Int} {r : List Int × Int} (h : octet_Part b at_ n = some r) :
    AC Tryz.prog 110 [.ro (.list 1 (List.map e8 b)), .ro (.int .i64 at_), .ro (.int .i64 n)] (.tup [.own 0, .ro (.int .i64 r.2)]) [(0, .arr 5 1 (List.map e8 r.1))] := by
  refine AC.of Tryz.func110 rfl rfl fun w M0 hM => ?_
  unfold octet_Part at h
  refine .sq ?_
  refine .rg (anm e8 6 5 1 rfl rfl <| u (asg (.i rfl)) <| .nil _) rfl ?_
  refine .sq ?_
  refine .bl ?_
  refine .sq ?_
  refine .sq ?_
  refine .rg (u (mv (.t rfl)) <| u (bc (.t rfl) (.i rfl) rfl rfl) <| u (asg (.t rfl)) <| .nil _) rfl ?_
  refine .jq (t := some r) (fun (a : Bool) => ⟨[(0, .ro (.list 1 (List.map e8 b))), (1, .ro (.int .i64 at_)), (2, .ro (.int .i64 n)), (8, .ro (.bool a))], []⟩) (fun (a : Bool) => octet_Part_j1 b at_ n a) ?_ (fun J1 => ?_)
  · intro v1 h
    replace h : octet_Part_j1 b at_ n v1 = _ := h
    unfold octet_Part_j1 at h
    refine .bq h (.t rfl) (fun h => ?_) (fun h => ?_)
    · refine .sq ?_
      refine .rg (anm e8 6 5 1 rfl rfl <| u (asg (.i rfl)) <| .nil _) rfl ?_
      obtain rfl := Option.some.inj h
      refine .ks (l := [(6, .own 0), (7, .ro (.int .i64 1))]) (o := [(0, some (.arr 5 1 (List.map e8 [])))]) (fun i => bif Nat.beq i 0 then 6 else i) ?_ (.c rfl (.c rfl .n)) (.c rfl .n) rfl
      exact .rt Tryz.func110 (.t rfl <| .t rfl <| .n) (.c rfl .n) rfl rfl
    · refine .sq ?_
      refine .rg (u (mv (.t rfl)) <| u (mv (.t rfl)) <| u (mv (.t rfl)) <| cl [] cf134 (octet_there_c b at_ n) (.c (.t rfl) <| .c (.t rfl) <| .c (.t rfl) <| .n) (.inl rfl) <| u (no (.t rfl)) <| u (asg (.t rfl)) <| .nil _) rfl ?_
      refine .bq h (.t rfl) (fun h => ?_) (fun h => ?_)
      · refine .sq ?_
        refine .rg (anm e8 6 5 1 rfl rfl <| u (asg (.i rfl)) <| .nil _) rfl ?_
        obtain rfl := Option.some.inj h
        refine .ks (l := [(6, .own 0), (7, .ro (.int .i64 2))]) (o := [(0, some (.arr 5 1 (List.map e8 [])))]) (fun i => bif Nat.beq i 0 then 6 else i) ?_ (.c rfl (.c rfl .n)) (.c rfl .n) rfl
        exact .rt Tryz.func110 (.t rfl <| .t rfl <| .n) (.c rfl .n) rfl rfl
      · refine .skp ?_
        refine .ib ?_
        refine .sq ?_
        refine be h fun x2 hx2 h => ?_
        refine be h fun x3 hx3 h => ?_
        refine .rg (u (mv (.t rfl)) <| u (mv (.t rfl)) <| u (mv (.t rfl)) <| u (mv (.t rfl)) <| u (bi (.t rfl) (.t rfl) rfl) <| u (sl sf29 (.t rfl) (.s (.t rfl)) (.s (.t rfl)) hx2) <| cnl 25 cf28 (slices_Clone_c hx3) (.c (.t rfl) <| .n) rfl <| u (asg (.t rfl)) <| u (asg (.i rfl)) <| .nil _) rfl ?_
        obtain rfl := Option.some.inj h
        refine .ks (l := [(6, .own 0), (7, .ro (.int .i64 0))]) (o := [(0, some (.arr 5 1 (List.map e8 x3)))]) (fun i => bif Nat.beq i 0 then 25 else i) ?_ (.c rfl (.c rfl .n)) (.c rfl .n) rfl
        exact .rt Tryz.func110 (.t rfl <| .t rfl <| .n) (.c rfl .n) rfl rfl
  refine .bq h (.t rfl) (fun h => ?_) (fun h => ?_)
  · refine .skp ?_
    exact .kq (J1 (cm .lss n 0) h) (.c rfl (.c rfl (.c rfl (.c rfl .n)))) .n
  · refine .rg (u (mv (.t rfl)) <| u (bc (.t rfl) (.i rfl) rfl rfl) <| u (asg (.t rfl)) <| .nil _) rfl ?_
    exact .kq (J1 (cm .lss at_ 0) h) (.c rfl (.c rfl (.c rfl (.c rfl .n)))) .n

theorem octet_Part_r {b : List Int} {at_ : Int} {n : Int} {r : List Int × Int} (h : octet_Part b at_ n = some r) :
    AC Tryz.prog 110 [.ro (.list 1 (List.map e8 b)), .ro (.int .i64 at_), .ro (.int .i64 n)] (.ro (.tup [.list 1 (List.map e8 r.1), .int .i64 r.2])) [] := AC.fz (octet_Part_c h) rfl

theorem packet_extension_c {z : Option Nat} {b : List Int} {r : Int × List Int × List Int × Int} (h : packet_extension z b = some r) :
    AC Tryz.prog 69 [.ro (.list 1 (List.map e8 b))] (.ro (.tup [.int .u16 r.1, .list 1 (List.map e8 r.2.1), .list 1 (List.map e8 r.2.2.1), .int .i64 r.2.2.2])) [] := by
  refine AC.of Tryz.func69 rfl rfl fun w M0 hM => ?_
  unfold packet_extension at h
  refine .sq ?_
  refine .rg (u (asg (.i rfl)) <| u (asg (.n (sz := 1) (F := e8))) <| u (asg (.n (sz := 1) (F := e8))) <| u (asg (.i rfl)) <| .nil _) rfl ?_
  refine .sq ?_
  refine be h fun x1 hx1 h => ?_
  refine .rg (u (mv (.t rfl)) <| cl [] cf109 (octet_Get_c hx1) (.c (.t rfl) <| .c (.i rfl) <| .c (.i rfl) <| .n) (.inl rfl) <| u (mv (.t rfl)) <| u (ex (.t rfl) rfl rfl) <| u (ex (.t rfl) rfl rfl) <| u (asg (.t rfl)) <| u (asg (.t rfl)) <| .nil _) rfl ?_
  refine .sq ?_
  refine be h fun x2 hx2 h => ?_
  refine .rg (u (mv (.t rfl)) <| cl [] cf109 (octet_Get_c hx2) (.c (.t rfl) <| .c (.i rfl) <| .c (.i rfl) <| .n) (.inl rfl) <| u (mv (.t rfl)) <| u (ex (.t rfl) rfl rfl) <| u (ex (.t rfl) rfl rfl) <| u (asg (.t rfl)) <| u (asg (.t rfl)) <| .nil _) rfl ?_
  refine .sq ?_
  refine .sq ?_
  refine .rg (u (mv (.t rfl)) <| u (bc (.t rfl) (.i rfl) rfl rfl) <| .nil _) rfl ?_
  refine .bq h (.t rfl) (fun h => ?_) (fun h => ?_)
  · refine .sq ?_
    refine .rg (u (mv (.t rfl)) <| u (asg (.i rfl)) <| u (asg (.n (sz := 1) (F := e8))) <| u (asg (.n (sz := 1) (F := e8))) <| u (asg (.t rfl)) <| .nil _) rfl ?_
    obtain rfl := Option.some.inj h
    exact .rt Tryz.func69 (.t rfl <| .t rfl <| .t rfl <| .t rfl <| .n) .n rfl rfl
  · refine .skp ?_
    refine .sq ?_
    refine be h fun x3 hx3 h => ?_
    refine .rg (u (mv (.t rfl)) <| u (mv (.t rfl)) <| u (cv cv85_3 (.t rfl)) <| u (bi (.i rfl) (.t rfl) rfl) <| cnf 30000 cf110 (octet_Part_c hx3) (.c (.t rfl) <| .c (.i rfl) <| .c (.t rfl) <| .n) rfl rfl rfl <| u (mv (.t rfl)) <| u (ex (.t rfl) rfl rfl) <| u (ex (.t rfl) rfl rfl) <| u (asg (.t rfl)) <| u (asg (.t rfl)) <| .nil _) rfl ?_
    refine .sq ?_
    refine .sq ?_
    refine .rg (u (mv (.t rfl)) <| u (bc (.t rfl) (.i rfl) rfl rfl) <| .nil _) rfl ?_
    refine .bq h (.t rfl) (fun h => ?_) (fun h => ?_)
    · refine .sq ?_
      refine .rg (u (mv (.t rfl)) <| u (asg (.i rfl)) <| u (asg (.n (sz := 1) (F := e8))) <| u (asg (.n (sz := 1) (F := e8))) <| u (asg (.t rfl)) <| .nil _) rfl ?_
      obtain rfl := Option.some.inj h
      exact .rt Tryz.func69 (.t rfl <| .t rfl <| .t rfl <| .t rfl <| .n) .n rfl rfl
    · refine .skp ?_
      refine .sq ?_
      refine be h fun x4 hx4 h => ?_
      refine .rd mixed (u (mv (.t rfl)) <| u (cv cv85_22 (.t rfl)) <| u (mv (.t rfl)) <| u (mv (.t rfl)) <| u (mv (.t rfl)) <| u (lom sf29 (.t rfl) rfl) <| u (bi (.i rfl) (.t rfl) rfl) <| u (sl sf29 (.t rfl) (.s (.t rfl)) .n hx4) <| u (asg (.t rfl)) <| u (asg (.t rfl)) <| u (asg (.t rfl)) <| u (asg (.i rfl)) <| .nil _) (by kernel_rfl) rfl ?_
      refine .fz 30000 rfl ?_
      obtain rfl := Option.some.inj h
      exact .rt Tryz.func69 (.t rfl <| .t rfl <| .t rfl <| .t rfl <| .n) .n rfl rfl

theorem pad_Trail_c {b : List Int} {r : Int × Int} (h : pad_Trail b = some r) :
    AC Tryz.prog 70 [.ro (.list 1 (List.map e8 b))] (.ro (.tup [.int .i64 r.1, .int .i64 r.2])) [] := by
  refine AC.of Tryz.func70 rfl rfl fun w M0 hM => ?_
  unfold pad_Trail at h
  refine .sq ?_
  refine .rg (u (asg (.i rfl)) <| u (asg (.i rfl)) <| .nil _) rfl ?_
  refine .sq ?_
  refine .sq ?_
  refine .rg (u (mv (.t rfl)) <| u (lnm sf29 (.t rfl)) <| u (bc (.t rfl) (.i rfl) rfl rfl) <| .nil _) rfl ?_
  refine .bq h (.t rfl) (fun h => ?_) (fun h => ?_)
  · refine .sq ?_
    refine .rg (u (asg (.i rfl)) <| u (asg (.i rfl)) <| .nil _) rfl ?_
    obtain rfl := Option.some.inj h
    exact .rt Tryz.func70 (.t rfl <| .t rfl <| .n) .n rfl rfl
  · refine .skp ?_
    refine .sq ?_
    refine be h fun x1 hx1 h => ?_
    refine .rg (u (mv (.t rfl)) <| u (mv (.t rfl)) <| u (lnm sf29 (.t rfl)) <| u (bi (.t rfl) (.i rfl) rfl) <| u (ia sf29 (.t rfl) (.t rfl) (ix_map e8 hx1)) <| u (lr tf5 (.t rfl) rfl) <| u (cv cv5_3 (.t rfl)) <| u (asg (.t rfl)) <| .nil _) rfl ?_
    refine .sq ?_
    refine .sq ?_
    refine .rg (u (mv (.t rfl)) <| u (bc (.t rfl) (.i rfl) rfl rfl) <| u (mv (.t rfl)) <| gd rfl rfl (fun hB => mv (.t rfl)) <| gd rfl rfl (fun hB => mv (.t rfl)) <| gd rfl rfl (fun hB => lnm sf29 (.m rfl hB)) <| gd rfl rfl (fun hB => bc (.m rfl hB) (.m rfl hB) rfl rfl) <| u (pko (.t rfl) (.t rfl)) <| .nil _) rfl ?_
    refine .bq h (.t rfl) (fun h => ?_) (fun h => ?_)
    · refine .sq ?_
      refine .rg (u (asg (.i rfl)) <| u (asg (.i rfl)) <| .nil _) rfl ?_
      obtain rfl := Option.some.inj h
      exact .rt Tryz.func70 (.t rfl <| .t rfl <| .n) .n rfl rfl
    · refine .skp ?_
      refine .sq ?_
      refine .rg (u (mv (.t rfl)) <| u (asg (.t rfl)) <| u (asg (.i rfl)) <| .nil _) rfl ?_
      obtain rfl := Option.some.inj h
      exact .rt Tryz.func70 (.t rfl <| .t rfl <| .n) .n rfl rfl

theorem packet_read_c {z : Option Nat} {b : List Int} {r : Packet × List Int × Int} (h : packet_read z b = some r) :
    AC Tryz.prog 36 [.ro (.list 1 (List.map e8 b))] (.ro (.tup [enc_Packet r.1, .list 1 (List.map e8 r.2.1), .int .i64 r.2.2])) [] := by
  refine AC.of Tryz.func36 rfl rfl fun w M0 hM => ?_
  unfold packet_read at h
  refine .sq ?_
  refine .rg (al 2 zf50 rfl <| u (asg (.n (sz := 1) (F := e8))) <| u (asg (.i rfl)) <| .nil _) rfl ?_
  refine .sq ?_
  refine .rg (al 5 zf50 rfl <| .nil _) rfl ?_
  refine .sq ?_
  refine .sq ?_
  refine .rg (u (mv (.t rfl)) <| u (lnm sf29 (.t rfl)) <| u (bc (.t rfl) (.i rfl) rfl rfl) <| .nil _) rfl ?_
  refine .bq h (.t rfl) (fun h => ?_) (fun h => ?_)
  · refine .sq ?_
    refine .rg (u (ld tf50 (.t rfl) rfl rfl) <| st tf50 (.t rfl) rfl (.t rfl) rfl rfl rfl <| u (asg (.n (sz := 1) (F := e8))) <| u (asg (.i rfl)) <| .nil _) rfl ?_
    obtain rfl := Option.some.inj h
    exact .rt Tryz.func36 (.c tf50 rfl rfl rfl <| .t rfl <| .t rfl <| .n) .n rfl rfl
  · refine .skp ?_
    refine .sq ?_
    refine be h fun x1 hx1 h => ?_
    refine .rg (u (mv (.t rfl)) <| cl [] cf68 (head_Read_c hx1) (.c (.t rfl) <| .n) (.inl rfl) <| u (mv (.t rfl)) <| u (ex (.t rfl) rfl rfl) <| u (ex (.t rfl) rfl rfl) <| u (ex (.t rfl) rfl rfl) <| al 6 zf48 rfl <| st tf48 (.t rfl) rfl (.t rfl) rfl rfl rfl <| u (asg (.t rfl)) <| u (asg (.t rfl)) <| .nil _) rfl ?_
    refine .sq ?_
    refine .sq ?_
    refine .rg (u (mv (.t rfl)) <| u (bc (.t rfl) (.i rfl) rfl rfl) <| .nil _) rfl ?_
    refine .bq h (.t rfl) (fun h => ?_) (fun h => ?_)
    · refine .sq ?_
      refine .rg (u (ld tf50 (.t rfl) rfl rfl) <| u (mv (.t rfl)) <| st tf50 (.t rfl) rfl (.t rfl) rfl rfl rfl <| u (asg (.n (sz := 1) (F := e8))) <| u (asg (.t rfl)) <| .nil _) rfl ?_
      obtain rfl := Option.some.inj h
      exact .rt Tryz.func36 (.c tf50 rfl rfl rfl <| .t rfl <| .t rfl <| .n) .n rfl rfl
    · refine .skp ?_
      refine .sq ?_
      refine .rg (u (ld tf48 (.t rfl) rfl rfl) <| u (fa ff50_0 (.t rfl)) <| st tf48 (.t rfl) rfl (.t rfl) rfl rfl rfl <| .nil _) rfl ?_
      refine .sq ?_
      refine be h fun x2 hx2 h => ?_
      refine .rg (u (mv (.t rfl)) <| u (mv (.t rfl)) <| u (sl sf29 (.t rfl) (.s (.t rfl)) .n hx2) <| u (asg (.t rfl)) <| .nil _) rfl ?_
      refine .sq ?_
      refine .sq ?_
      refine .rg (u (fa ff48_1 (.t rfl)) <| u (ld tf4 (.t rfl) rfl rfl) <| .nil _) rfl ?_
      refine .jq (t := some r) (fun (a : List Int × Packet × Packet) => ⟨[(2, .ptr 2 0), (5, .ptr 5 0), (6, .ptr 6 0), (9, .ro (.list 1 (List.map e8 a.1)))], [(2, some (.box [.ro (.bool a.2.1.head.hasPad), .ro (.bool a.2.1.head.hasExt), .ro (.bool a.2.1.head.marker), .ro (.int .i64 a.2.1.head.type), .ro (.int .u16 a.2.1.head.seq), .ro (.int .u32 a.2.1.head.time), .ro (.int .u32 a.2.1.head.ssrc), .ro (.list 1 (List.map (ei .u32) a.2.1.head.csrc)), .ro (.int .u16 a.2.1.profile), .ro (.list 1 (List.map e8 a.2.1.ext)), .ro (.list 1 (List.map e8 a.2.1.payload)), .ro (.int .i64 a.2.1.pad)])), (5, some (.box [.ro (.bool a.2.2.head.hasPad), .ro (.bool a.2.2.head.hasExt), .ro (.bool a.2.2.head.marker), .ro (.int .i64 a.2.2.head.type), .ro (.int .u16 a.2.2.head.seq), .ro (.int .u32 a.2.2.head.time), .ro (.int .u32 a.2.2.head.ssrc), .ro (.list 1 (List.map (ei .u32) a.2.2.head.csrc)), .ro (.int .u16 a.2.2.profile), .ro (.list 1 (List.map e8 a.2.2.ext)), .ro (.list 1 (List.map e8 a.2.2.payload)), .ro (.int .i64 a.2.2.pad)])), (6, some (.box [.ro (.bool x1.1.hasPad), .ro (.bool x1.1.hasExt), .ro (.bool x1.1.marker), .ro (.int .i64 x1.1.type), .ro (.int .u16 x1.1.seq), .ro (.int .u32 x1.1.time), .ro (.int .u32 x1.1.ssrc), .ro (.list 1 (List.map (ei .u32) x1.1.csrc))]))]⟩) (fun (a : List Int × Packet × Packet) => packet_read_j1 z x1 a.1 a.2.1 a.2.2) ?_ (fun J1 => ?_)
      · rintro ⟨v3, v4, v5⟩ h
        replace h : packet_read_j1 z x1 v3 v4 v5 = _ := h
        unfold packet_read_j1 at h
        refine .sq ?_
        refine .sq ?_
        refine .rg (u (fa ff48_0 (.t rfl)) <| u (ld tf4 (.t rfl) rfl rfl) <| .nil _) rfl ?_
        refine .jq (t := some r) (fun (a : Packet × Packet) => ⟨[(2, .ptr 2 0), (5, .ptr 5 0), (9, .ro (.list 1 (List.map e8 v3)))], [(2, some (.box [.ro (.bool a.1.head.hasPad), .ro (.bool a.1.head.hasExt), .ro (.bool a.1.head.marker), .ro (.int .i64 a.1.head.type), .ro (.int .u16 a.1.head.seq), .ro (.int .u32 a.1.head.time), .ro (.int .u32 a.1.head.ssrc), .ro (.list 1 (List.map (ei .u32) a.1.head.csrc)), .ro (.int .u16 a.1.profile), .ro (.list 1 (List.map e8 a.1.ext)), .ro (.list 1 (List.map e8 a.1.payload)), .ro (.int .i64 a.1.pad)])), (5, some (.box [.ro (.bool a.2.head.hasPad), .ro (.bool a.2.head.hasExt), .ro (.bool a.2.head.marker), .ro (.int .i64 a.2.head.type), .ro (.int .u16 a.2.head.seq), .ro (.int .u32 a.2.head.time), .ro (.int .u32 a.2.head.ssrc), .ro (.list 1 (List.map (ei .u32) a.2.head.csrc)), .ro (.int .u16 a.2.profile), .ro (.list 1 (List.map e8 a.2.ext)), .ro (.list 1 (List.map e8 a.2.payload)), .ro (.int .i64 a.2.pad)]))]⟩) (fun (a : Packet × Packet) => packet_read_j2 z v3 a.1 a.2) ?_ (fun J2 => ?_)
        · rintro ⟨v6, v7⟩ h
          replace h : packet_read_j2 z v3 v6 v7 = _ := h
          unfold packet_read_j2 at h
          refine .sq ?_
          refine be h fun x8 hx8 h => ?_
          refine be h fun x9 hx9 h => ?_
          refine .rg (u (mv (.t rfl)) <| u (mv (.t rfl)) <| u (lnm sf29 (.t rfl)) <| u (fa ff50_4 (.t rfl)) <| u (ld tf3 (.t rfl) rfl rfl) <| u (bi (.t rfl) (.t rfl) rfl) <| u (sl sf29 (.t rfl) .n (.s (.t rfl)) hx8) <| apn 63 pf29 (.t rfl) hx9 rfl <| u (fa ff50_3 (.t rfl)) <| st tf29 (.t rfl) rfl (.t rfl) rfl rfl rfl <| .nil _) rfl ?_
          refine .sq ?_
          refine .rg (u (ld tf50 (.t rfl) rfl rfl) <| u (mv (.t rfl)) <| st tf50 (.t rfl) rfl (.t rfl) rfl rfl rfl <| u (asg (.t rfl)) <| u (asg (.i rfl)) <| .nil _) rfl ?_
          refine .fz 63 rfl ?_
          obtain rfl := Option.some.inj h
          exact .rt Tryz.func36 (.c tf50 rfl rfl rfl <| .t rfl <| .t rfl <| .n) .n rfl rfl
        refine .bq h (.t rfl) (fun h => ?_) (fun h => ?_)
        · refine .sq ?_
          refine be h fun x10 hx10 h => ?_
          refine .rg (u (mv (.t rfl)) <| cl [] cf70 (pad_Trail_c hx10) (.c (.t rfl) <| .n) (.inl rfl) <| u (mv (.t rfl)) <| u (ex (.t rfl) rfl rfl) <| u (ex (.t rfl) rfl rfl) <| u (fa ff50_4 (.t rfl)) <| st tf3 (.t rfl) rfl (.t rfl) rfl rfl rfl <| u (asg (.t rfl)) <| .nil _) rfl ?_
          refine .sq ?_
          refine .rg (u (mv (.t rfl)) <| u (bc (.t rfl) (.i rfl) rfl rfl) <| .nil _) rfl ?_
          refine .bq h (.t rfl) (fun h => ?_) (fun h => ?_)
          · refine .sq ?_
            refine .rg (u (ld tf50 (.t rfl) rfl rfl) <| u (mv (.t rfl)) <| st tf50 (.t rfl) rfl (.t rfl) rfl rfl rfl <| u (asg (.n (sz := 1) (F := e8))) <| u (asg (.t rfl)) <| .nil _) rfl ?_
            obtain rfl := Option.some.inj h
            exact .rt Tryz.func36 (.c tf50 rfl rfl rfl <| .t rfl <| .t rfl <| .n) .n rfl rfl
          · refine .skp ?_
            exact .kq (J2 (v4, { v5 with pad := x10.1 }) h) (.c rfl (.c rfl (.c rfl .n))) (.c rfl (.c rfl .n))
        · refine .skp ?_
          exact .kq (J2 (v4, v5) h) (.c rfl (.c rfl (.c rfl .n))) (.c rfl (.c rfl .n))
      refine .bq h (.t rfl) (fun h => ?_) (fun h => ?_)
      · refine .sq ?_
        refine be h fun x11 hx11 h => ?_
        refine .rg (u (mv (.t rfl)) <| cl [] cf69 (packet_extension_c hx11) (.c (.t rfl) <| .n) (.inl rfl) <| u (mv (.t rfl)) <| u (ex (.t rfl) rfl rfl) <| u (ex (.t rfl) rfl rfl) <| u (ex (.t rfl) rfl rfl) <| u (ex (.t rfl) rfl rfl) <| u (fa ff50_1 (.t rfl)) <| st tf22 (.t rfl) rfl (.t rfl) rfl rfl rfl <| u (fa ff50_2 (.t rfl)) <| st tf29 (.t rfl) rfl (.t rfl) rfl rfl rfl <| u (asg (.t rfl)) <| u (asg (.t rfl)) <| .nil _) rfl ?_
        refine .sq ?_
        refine .rg (u (mv (.t rfl)) <| u (bc (.t rfl) (.i rfl) rfl rfl) <| .nil _) rfl ?_
        refine .bq h (.t rfl) (fun h => ?_) (fun h => ?_)
        · refine .sq ?_
          refine .rg (u (ld tf50 (.t rfl) rfl rfl) <| u (mv (.t rfl)) <| st tf50 (.t rfl) rfl (.t rfl) rfl rfl rfl <| u (asg (.n (sz := 1) (F := e8))) <| u (asg (.t rfl)) <| .nil _) rfl ?_
          obtain rfl := Option.some.inj h
          exact .rt Tryz.func36 (.c tf50 rfl rfl rfl <| .t rfl <| .t rfl <| .n) .n rfl rfl
        · refine .skp ?_
          exact .kq (J1 (x11.2.2.1, (Packet.mk (Head.mk false false false 0 0 0 0 []) 0 [] [] 0), (Packet.mk x1.1 x11.1 x11.2.1 [] 0)) h) (.c rfl (.c rfl (.c rfl (.c rfl .n)))) (.c rfl (.c rfl (.c rfl .n)))
      · refine .skp ?_
        exact .kq (J1 (x2, (Packet.mk (Head.mk false false false 0 0 0 0 []) 0 [] [] 0), (Packet.mk x1.1 0 [] [] 0)) h) (.c rfl (.c rfl (.c rfl (.c rfl .n)))) (.c rfl (.c rfl (.c rfl .n)))

theorem packet_Read_c {z : Option Nat} {b : List Int} {r : Packet × Int} (h : packet_Read z b = some r) :
    AC Tryz.prog 15 [.ro (.list 1 (List.map e8 b))] (.ro (.tup [enc_Packet r.1, .int .i64 r.2])) [] := by
  refine AC.of Tryz.func15 rfl rfl fun w M0 hM => ?_
  unfold packet_Read at h
  refine .sq ?_
  refine .rg (al 2 zf50 rfl <| u (asg (.i rfl)) <| .nil _) rfl ?_
  refine .sq ?_
  refine be h fun x1 hx1 h => ?_
  refine .rg (u (mv (.t rfl)) <| cl [] cf36 (packet_read_c hx1) (.c (.t rfl) <| .n) (.inl rfl) <| u (mv (.t rfl)) <| u (ex (.t rfl) rfl rfl) <| u (ex (.t rfl) rfl rfl) <| u (ex (.t rfl) rfl rfl) <| al 4 zf50 rfl <| st tf50 (.t rfl) rfl (.t rfl) rfl rfl rfl <| u (asg (.t rfl)) <| u (asg (.t rfl)) <| .nil _) rfl ?_
  refine .sq ?_
  refine .sq ?_
  refine .rg (u (mv (.t rfl)) <| u (bc (.t rfl) (.i rfl) rfl rfl) <| .nil _) rfl ?_
  refine .bq h (.t rfl) (fun h => ?_) (fun h => ?_)
  · refine .sq ?_
    refine .rg (u (bd bf50 zf50 (.n) rfl) <| u (mv (.t rfl)) <| st tf50 (.t rfl) rfl (.t rfl) rfl rfl rfl <| u (asg (.t rfl)) <| .nil _) rfl ?_
    obtain rfl := Option.some.inj h
    exact .rt Tryz.func15 (.c tf50 rfl rfl rfl <| .t rfl <| .n) .n rfl rfl
  · refine .skp ?_
    refine .sq ?_
    refine .rg (u (ld tf50 (.t rfl) rfl rfl) <| st tf50 (.t rfl) rfl (.t rfl) rfl rfl rfl <| u (asg (.i rfl)) <| .nil _) rfl ?_
    obtain rfl := Option.some.inj h
    exact .rt Tryz.func15 (.c tf50 rfl rfl rfl <| .t rfl <| .n) .n rfl rfl

theorem head_Right_c (p_h : Head) :
    AC Tryz.prog 74 [.ro (enc_Head p_h)] (.ro (.bool (head_Right p_h))) [] := by
  obtain ⟨r, h⟩ : ∃ r, head_Right p_h = r := ⟨_, rfl⟩
  rw [h]
  refine AC.of Tryz.func74 rfl rfl fun w M0 hM => ?_
  unfold head_Right at h
  refine .sq ?_
  refine .rg (bx 1 (.t rfl) rfl rfl <| u (asg .b) <| .nil _) rfl ?_
  refine .sq ?_
  refine .rg (u (fa ff48_3 (.t rfl)) <| u (ld tf3 (.t rfl) rfl rfl) <| u (bc (.t rfl) (.i rfl) rfl rfl) <| u (mv (.t rfl)) <| gd rfl rfl (fun hB => fa ff48_3 (.t rfl)) <| gd rfl rfl (fun hB => ld tf3 (.m rfl hB) rfl rfl) <| gd rfl rfl (fun hB => bc (.m rfl hB) (.i rfl) rfl rfl) <| u (pka (.t rfl) (.t rfl)) <| u (mv (.t rfl)) <| gd rfl rfl (fun hB => fa ff48_7 (.t rfl)) <| gd rfl rfl (fun hB => ld tf46 (.m rfl hB) rfl rfl) <| gd rfl rfl (fun hB => lnm sf46 (.m rfl hB)) <| gd rfl rfl (fun hB => bc (.m rfl hB) (.i rfl) rfl rfl) <| u (pka (.t rfl) (.t rfl)) <| u (asg (.t rfl)) <| .nil _) rfl ?_
  subst h
  exact .rt Tryz.func74 (.t rfl <| .n) .n rfl rfl

theorem packet_extended_c (p : Packet) :
    AC Tryz.prog 75 [.ro (enc_Packet p)] (.ro (.bool (packet_extended p))) [] := by
  obtain ⟨r, h⟩ : ∃ r, packet_extended p = r := ⟨_, rfl⟩
  rw [h]
  refine AC.of Tryz.func75 rfl rfl fun w M0 hM => ?_
  unfold packet_extended at h
  refine .sq ?_
  refine .rg (bx 1 (.t rfl) rfl rfl <| u (asg .b) <| .nil _) rfl ?_
  refine .sq ?_
  refine .sq ?_
  refine .rg (u (fa ff50_0 (.t rfl)) <| u (fa ff48_1 (.t rfl)) <| u (ld tf4 (.t rfl) rfl rfl) <| u (no (.t rfl)) <| .nil _) rfl ?_
  refine .bq h (.t rfl) (fun h => ?_) (fun h => ?_)
  · refine .sq ?_
    refine .rg (u (fa ff50_1 (.t rfl)) <| u (ld tf22 (.t rfl) rfl rfl) <| u (bc (.t rfl) (.i rfl) rfl rfl) <| u (mv (.t rfl)) <| gd rfl rfl (fun hB => fa ff50_2 (.t rfl)) <| gd rfl rfl (fun hB => ld tf29 (.m rfl hB) rfl rfl) <| gd rfl rfl (fun hB => lnm sf29 (.m rfl hB)) <| gd rfl rfl (fun hB => bc (.m rfl hB) (.i rfl) rfl rfl) <| u (pka (.t rfl) (.t rfl)) <| u (asg (.t rfl)) <| .nil _) rfl ?_
    subst h
    exact .rt Tryz.func75 (.t rfl <| .n) .n rfl rfl
  · refine .skp ?_
    refine .sq ?_
    refine .rg (u (fa ff50_2 (.t rfl)) <| u (ld tf29 (.t rfl) rfl rfl) <| u (lnm sf29 (.t rfl)) <| u (di (.t rfl) (.i rfl) rfl (by decide)) <| u (bc (.t rfl) (.i rfl) rfl rfl) <| u (mv (.t rfl)) <| gd rfl rfl (fun hB => fa ff50_2 (.t rfl)) <| gd rfl rfl (fun hB => ld tf29 (.m rfl hB) rfl rfl) <| gd rfl rfl (fun hB => lnm sf29 (.m rfl hB)) <| gd rfl rfl (fun hB => di (.m rfl hB) (.i rfl) rfl (by decide)) <| gd rfl rfl (fun hB => bc (.m rfl hB) (.i rfl) rfl rfl) <| u (pka (.t rfl) (.t rfl)) <| u (asg (.t rfl)) <| .nil _) rfl ?_
    subst h
    exact .rt Tryz.func75 (.t rfl <| .n) .n rfl rfl

theorem packet_padded_c (p : Packet) :
    AC Tryz.prog 76 [.ro (enc_Packet p)] (.ro (.bool (packet_padded p))) [] := by
  obtain ⟨r, h⟩ : ∃ r, packet_padded p = r := ⟨_, rfl⟩
  rw [h]
  refine AC.of Tryz.func76 rfl rfl fun w M0 hM => ?_
  unfold packet_padded at h
  refine .sq ?_
  refine .rg (bx 1 (.t rfl) rfl rfl <| u (asg .b) <| .nil _) rfl ?_
  refine .sq ?_
  refine .sq ?_
  refine .rg (u (fa ff50_0 (.t rfl)) <| u (fa ff48_0 (.t rfl)) <| u (ld tf4 (.t rfl) rfl rfl) <| u (no (.t rfl)) <| .nil _) rfl ?_
  refine .bq h (.t rfl) (fun h => ?_) (fun h => ?_)
  · refine .sq ?_
    refine .rg (u (fa ff50_4 (.t rfl)) <| u (ld tf3 (.t rfl) rfl rfl) <| u (bc (.t rfl) (.i rfl) rfl rfl) <| u (asg (.t rfl)) <| .nil _) rfl ?_
    subst h
    exact .rt Tryz.func76 (.t rfl <| .n) .n rfl rfl
  · refine .skp ?_
    refine .sq ?_
    refine .rg (u (fa ff50_4 (.t rfl)) <| u (ld tf3 (.t rfl) rfl rfl) <| u (bc (.t rfl) (.i rfl) rfl rfl) <| u (mv (.t rfl)) <| gd rfl rfl (fun hB => fa ff50_4 (.t rfl)) <| gd rfl rfl (fun hB => ld tf3 (.m rfl hB) rfl rfl) <| gd rfl rfl (fun hB => bc (.m rfl hB) (.i rfl) rfl rfl) <| u (pka (.t rfl) (.t rfl)) <| u (asg (.t rfl)) <| .nil _) rfl ?_
    subst h
    exact .rt Tryz.func76 (.t rfl <| .n) .n rfl rfl

theorem head_Size_c (p_h : Head) :
    AC Tryz.prog 80 [.ro (enc_Head p_h)] (.ro (.int .i64 (head_Size p_h))) [] := by
  obtain ⟨r, h⟩ : ∃ r, head_Size p_h = r := ⟨_, rfl⟩
  rw [h]
  refine AC.of Tryz.func80 rfl rfl fun w M0 hM => ?_
  unfold head_Size at h
  refine .sq ?_
  refine .rg (bx 1 (.t rfl) rfl rfl <| u (asg (.i rfl)) <| .nil _) rfl ?_
  refine .sq ?_
  refine .sq ?_
  refine .rg (u (ld tf48 (.t rfl) rfl rfl) <| cl [] cf74 (head_Right_c p_h) (.c (.t rfl) <| .n) (.inl rfl) <| u (no (.t rfl)) <| .nil _) rfl ?_
  refine .bq h (.t rfl) (fun h => ?_) (fun h => ?_)
  · refine .sq ?_
    refine .rg (u (asg (.i rfl)) <| .nil _) rfl ?_
    subst h
    exact .rt Tryz.func80 (.t rfl <| .n) .n rfl rfl
  · refine .skp ?_
    refine .sq ?_
    refine .rg (u (fa ff48_7 (.t rfl)) <| u (ld tf46 (.t rfl) rfl rfl) <| u (lnm sf46 (.t rfl)) <| u (bi (.i rfl) (.t rfl) rfl) <| u (bi (.i rfl) (.t rfl) rfl) <| u (asg (.t rfl)) <| .nil _) rfl ?_
    subst h
    exact .rt Tryz.func80 (.t rfl <| .n) .n rfl rfl

theorem packet_total_c (p : Packet) :
    AC Tryz.prog 44 [.ro (enc_Packet p)] (.ro (.int .i64 (packet_total p))) [] := by
  obtain ⟨r, h⟩ : ∃ r, packet_total p = r := ⟨_, rfl⟩
  rw [h]
  refine AC.of Tryz.func44 rfl rfl fun w M0 hM => ?_
  unfold packet_total at h
  refine .sq ?_
  refine .rg (bx 1 (.t rfl) rfl rfl <| u (asg (.i rfl)) <| .nil _) rfl ?_
  refine .sq ?_
  refine .rd mixed (u (fa ff50_0 (.t rfl)) <| u (ld tf48 (.t rfl) rfl rfl) <| cl [] cf80 (head_Size_c p.head) (.c (.t rfl) <| .n) (.inl rfl) <| u (fa ff50_2 (.t rfl)) <| u (ld tf29 (.t rfl) rfl rfl) <| u (lnm sf29 (.t rfl)) <| u (bi (.t rfl) (.t rfl) rfl) <| u (fa ff50_3 (.t rfl)) <| u (ld tf29 (.t rfl) rfl rfl) <| u (lnm sf29 (.t rfl)) <| u (bi (.t rfl) (.t rfl) rfl) <| u (fa ff50_4 (.t rfl)) <| u (ld tf3 (.t rfl) rfl rfl) <| u (bi (.t rfl) (.t rfl) rfl) <| u (asg (.t rfl)) <| .nil _) (by kernel_rfl) rfl ?_
  refine .sq ?_
  refine .sq ?_
  refine .rg (u (fa ff50_0 (.t rfl)) <| u (fa ff48_1 (.t rfl)) <| u (ld tf4 (.t rfl) rfl rfl) <| .nil _) rfl ?_
  refine .jq (t := r) (fun (a : Int) => ⟨[(3, .ro (.int .i64 a))], []⟩) (fun (a : Int) => packet_total_j1 a) ?_ (fun J1 => ?_)
  · intro v1 h
    replace h : packet_total_j1 v1 = _ := h
    unfold packet_total_j1 at h
    refine .sq ?_
    refine .rg (u (mv (.t rfl)) <| u (asg (.t rfl)) <| .nil _) rfl ?_
    subst h
    exact .rt Tryz.func44 (.t rfl <| .n) .n rfl rfl
  refine .bq h (.t rfl) (fun h => ?_) (fun h => ?_)
  · refine .rg (u (mv (.t rfl)) <| u (bi (.t rfl) (.i rfl) rfl) <| u (asg (.t rfl)) <| .nil _) rfl ?_
    exact .kq (J1 (ar .add .i64 (ar .add .i64 (ar .add .i64 (ar .add .i64 (head_Size p.head) (p.ext.length : Int)) (p.payload.length : Int)) p.pad) 4) h) (.c rfl .n) .n
  · refine .skp ?_
    exact .kq (J1 (ar .add .i64 (ar .add .i64 (ar .add .i64 (head_Size p.head) (p.ext.length : Int)) (p.payload.length : Int)) p.pad) h) (.c rfl .n) .n

theorem packet_Right_c (p : Packet) :
    AC Tryz.prog 39 [.ro (enc_Packet p)] (.ro (.bool (packet_Right p))) [] := by
  obtain ⟨r, h⟩ : ∃ r, packet_Right p = r := ⟨_, rfl⟩
  rw [h]
  refine AC.of Tryz.func39 rfl rfl fun w M0 hM => ?_
  unfold packet_Right at h
  refine .sq ?_
  refine .rg (bx 1 (.t rfl) rfl rfl <| u (asg .b) <| .nil _) rfl ?_
  refine .sq ?_
  refine .rg (u (fa ff50_0 (.t rfl)) <| u (ld tf48 (.t rfl) rfl rfl) <| cl [] cf74 (head_Right_c p.head) (.c (.t rfl) <| .n) (.inl rfl) <| u (mv (.t rfl)) <| gd rfl rfl (fun hB => ld tf50 (.t rfl) rfl rfl) <| cg rfl rfl cf75 (fun hB => (packet_extended_c p)) (fun hB => .c (.m rfl hB) <| .n) (.inl rfl) <| u (pka (.t rfl) (.t rfl)) <| u (mv (.t rfl)) <| gd rfl rfl (fun hB => ld tf50 (.t rfl) rfl rfl) <| cg rfl rfl cf76 (fun hB => (packet_padded_c p)) (fun hB => .c (.m rfl hB) <| .n) (.inl rfl) <| u (pka (.t rfl) (.t rfl)) <| u (mv (.t rfl)) <| gd rfl rfl (fun hB => fa ff50_3 (.t rfl)) <| gd rfl rfl (fun hB => ld tf29 (.m rfl hB) rfl rfl) <| gd rfl rfl (fun hB => lnm sf29 (.m rfl hB)) <| gd rfl rfl (fun hB => bc (.m rfl hB) (.i rfl) rfl rfl) <| u (pka (.t rfl) (.t rfl)) <| u (mv (.t rfl)) <| gd rfl rfl (fun hB => ld tf50 (.t rfl) rfl rfl) <| cg rfl rfl cf44 (fun hB => (packet_total_c p)) (fun hB => .c (.m rfl hB) <| .n) (.inl rfl) <| gd rfl rfl (fun hB => bc (.m rfl hB) (.i rfl) rfl rfl) <| u (pka (.t rfl) (.t rfl)) <| u (asg (.t rfl)) <| .nil _) rfl ?_
  subst h
  exact .rt Tryz.func39 (.t rfl <| .n) .n rfl rfl

theorem plan_single_c (p : Plan) :
    AC Tryz.prog 111 [.ro (enc_Plan p)] (.ro (.bool (plan_single p))) [] := by
  obtain ⟨r, h⟩ : ∃ r, plan_single p = r := ⟨_, rfl⟩
  rw [h]
  refine AC.of Tryz.func111 rfl rfl fun w M0 hM => ?_
  unfold plan_single at h
  refine .sq ?_
  refine .rg (bx 1 (.t rfl) rfl rfl <| u (asg .b) <| .nil _) rfl ?_
  refine .sq ?_
  refine .bl ?_
  refine .sq ?_
  refine .sq ?_
  refine .rg (u (fa ff28_0 (.t rfl)) <| u (ld tf4 (.t rfl) rfl rfl) <| u (no (.t rfl)) <| u (mv (.t rfl)) <| gd rfl rfl (fun hB => fa ff28_1 (.t rfl)) <| gd rfl rfl (fun hB => ld tf4 (.m rfl hB) rfl rfl) <| u (pka (.t rfl) (.t rfl)) <| u (asg (.t rfl)) <| .nil _) rfl ?_
  refine .jq (t := r) (fun (a : Bool) => ⟨[(1, .ptr 1 0), (3, .ro (.bool a))], [(1, some (.box [.ro (.bool p.setMarker), .ro (.bool p.marker), .ro (.bool p.setType), .ro (.int .i64 p.type), .ro (.bool p.setSeq), .ro (.int .u16 p.seq), .ro (.bool p.setTime), .ro (.int .u32 p.time), .ro (.bool p.setSsrc), .ro (.int .u32 p.ssrc), .ro (.list 2 (List.map cells_GMap p.maps)), .ro (.list 2 (List.map cells_Elem p.over)), .ro (.list 1 (List.map (ei .i64) p.drops)), .ro (.list 2 (List.map cells_Elem p.adds)), .ro (.bool p.noPad)]))]⟩) (fun (a : Bool) => plan_single_j1 p a) ?_ (fun J1 => ?_)
  · intro v1 h
    replace h : plan_single_j1 p v1 = _ := h
    unfold plan_single_j1 at h
    refine .bq h (.t rfl) (fun h => ?_) (fun h => ?_)
    · refine .sq ?_
      refine .rg (u (asg .b) <| .nil _) rfl ?_
      subst h
      exact .rt Tryz.func111 (.t rfl <| .n) .n rfl rfl
    · refine .skp ?_
      refine .ib ?_
      refine .sq ?_
      refine .rg (u (fa ff28_3 (.t rfl)) <| u (ld tf3 (.t rfl) rfl rfl) <| u (bc (.t rfl) (.i rfl) rfl rfl) <| u (mv (.t rfl)) <| gd rfl rfl (fun hB => fa ff28_3 (.t rfl)) <| gd rfl rfl (fun hB => ld tf3 (.m rfl hB) rfl rfl) <| gd rfl rfl (fun hB => bc (.m rfl hB) (.i rfl) rfl rfl) <| u (pka (.t rfl) (.t rfl)) <| u (asg (.t rfl)) <| .nil _) rfl ?_
      subst h
      exact .rt Tryz.func111 (.t rfl <| .n) .n rfl rfl
  refine .bq h (.t rfl) (fun h => ?_) (fun h => ?_)
  · refine .skp ?_
    exact .kq (J1 ((!p.setMarker) && p.marker) h) (.c rfl (.c rfl .n)) (.c rfl .n)
  · refine .sq ?_
    refine .rg (u (fa ff28_2 (.t rfl)) <| u (ld tf4 (.t rfl) rfl rfl) <| u (no (.t rfl)) <| u (mv (.t rfl)) <| gd rfl rfl (fun hB => fa ff28_3 (.t rfl)) <| gd rfl rfl (fun hB => ld tf3 (.m rfl hB) rfl rfl) <| gd rfl rfl (fun hB => bc (.m rfl hB) (.i rfl) rfl rfl) <| u (pka (.t rfl) (.t rfl)) <| u (asg (.t rfl)) <| .nil _) rfl ?_
    refine .bq h (.t rfl) (fun h => ?_) (fun h => ?_)
    · refine .skp ?_
      exact .kq (J1 ((!p.setType) && (cm .neq p.type 0)) h) (.c rfl (.c rfl .n)) (.c rfl .n)
    · refine .sq ?_
      refine .rg (u (fa ff28_4 (.t rfl)) <| u (ld tf4 (.t rfl) rfl rfl) <| u (no (.t rfl)) <| u (mv (.t rfl)) <| gd rfl rfl (fun hB => fa ff28_5 (.t rfl)) <| gd rfl rfl (fun hB => ld tf22 (.m rfl hB) rfl rfl) <| gd rfl rfl (fun hB => bc (.m rfl hB) (.i rfl) rfl rfl) <| u (pka (.t rfl) (.t rfl)) <| u (asg (.t rfl)) <| .nil _) rfl ?_
      refine .bq h (.t rfl) (fun h => ?_) (fun h => ?_)
      · refine .skp ?_
        exact .kq (J1 ((!p.setSeq) && (cm .neq p.seq 0)) h) (.c rfl (.c rfl .n)) (.c rfl .n)
      · refine .sq ?_
        refine .rg (u (fa ff28_6 (.t rfl)) <| u (ld tf4 (.t rfl) rfl rfl) <| u (no (.t rfl)) <| u (mv (.t rfl)) <| gd rfl rfl (fun hB => fa ff28_7 (.t rfl)) <| gd rfl rfl (fun hB => ld tf23 (.m rfl hB) rfl rfl) <| gd rfl rfl (fun hB => bc (.m rfl hB) (.i rfl) rfl rfl) <| u (pka (.t rfl) (.t rfl)) <| u (asg (.t rfl)) <| .nil _) rfl ?_
        refine .bq h (.t rfl) (fun h => ?_) (fun h => ?_)
        · refine .skp ?_
          exact .kq (J1 ((!p.setTime) && (cm .neq p.time 0)) h) (.c rfl (.c rfl .n)) (.c rfl .n)
        · refine .rg (u (fa ff28_8 (.t rfl)) <| u (ld tf4 (.t rfl) rfl rfl) <| u (no (.t rfl)) <| u (mv (.t rfl)) <| gd rfl rfl (fun hB => fa ff28_9 (.t rfl)) <| gd rfl rfl (fun hB => ld tf23 (.m rfl hB) rfl rfl) <| gd rfl rfl (fun hB => bc (.m rfl hB) (.i rfl) rfl rfl) <| u (pka (.t rfl) (.t rfl)) <| u (asg (.t rfl)) <| .nil _) rfl ?_
          exact .kq (J1 ((!p.setSsrc) && (cm .neq p.ssrc 0)) h) (.c rfl (.c rfl .n)) (.c rfl .n)

theorem plan_from_c (m : GMap) :
    AC Tryz.prog 114 [.ro (enc_GMap m)] (.ro (.int .i64 (plan_from m))) [] := by
  obtain ⟨r, h⟩ : ∃ r, plan_from m = r := ⟨_, rfl⟩
  rw [h]
  refine AC.of Tryz.func114 rfl rfl fun w M0 hM => ?_
  unfold plan_from at h
  refine .sq ?_
  refine .rg (bx 1 (.t rfl) rfl rfl <| u (asg (.i rfl)) <| .nil _) rfl ?_
  refine .sq ?_
  refine .rg (u (fa ff64_0 (.t rfl)) <| u (ld tf3 (.t rfl) rfl rfl) <| u (asg (.t rfl)) <| .nil _) rfl ?_
  subst h
  exact .rt Tryz.func114 (.t rfl <| .n) .n rfl rfl

theorem plan_apart_c {z : Option Nat} {l : List Int} {r : Bool} (h : plan_apart z l = some r) :
    AC Tryz.prog 112 [.ro (.list 1 (List.map (ei .i64) l))] (.ro (.bool r)) [] := by
  refine AC.of Tryz.func112 rfl rfl fun w M0 hM => ?_
  unfold plan_apart at h
  refine .sq ?_
  refine .rg (u (asg .b) <| .nil _) rfl ?_
  refine .sq ?_
  refine .rg (mkm (A.int .i64) 6 mf187 rfl <| u (asg (.t rfl)) <| .nil _) rfl ?_
  refine .sq ?_
  refine .sq ?_
  refine .rg (u (mv (.t rfl)) <| u (lnm sf26 (.t rfl)) <| u (mv (.i rfl)) <| .nil _) rfl ?_
  refine .bl ?_
  unfold plan_apart_l1 at h
  refine .ks (fun i => bif Nat.beq i 3 then 6 else i) (.lo (fun (s : (List (Int × Int)) × Int) => ⟨[(3, .own 3), (7, .ro (.list 1 (List.map (ei .i64) l))), (8, .ro (.int .i64 (l.length : Int))), (9, .ro (.int .i64 s.2))], [(3, some (.map Tryz.prog 3 3 .i64 (mpA (A.int .i64) s.1)))]⟩) h ?_) (.c rfl (.c rfl (.c rfl (.c rfl .n)))) (.c rfl .n) rfl
  rintro ⟨v1, v2⟩ u1 h ih1 hx1
  replace h : plan_apart_s1 z l v1 v2 = _ := h
  unfold plan_apart_s1 at h
  refine .sq ?_
  refine .rg (u (bc (.t rfl) (.t rfl) rfl rfl) <| .nil _) rfl ?_
  refine .sq ?_
  refine .bq h (.t rfl) (fun h => ?_) (fun h => ?_)
  · refine .skp ?_
    refine .sq ?_
    refine .bl ?_
    refine .sq ?_
    refine be h fun x3 hx3 h => ?_
    refine .rg (u (ia sf26 (.t rfl) (.t rfl) (ix_map (ei .i64) hx3)) <| u (lr tf3 (.t rfl) rfl) <| u (asg (.t rfl)) <| .nil _) rfl ?_
    refine .sq ?_
    refine be h fun x4 hx4 h => ?_
    refine .rg (u (mv (.t rfl)) <| u (mv (.t rfl)) <| u (mlv (F := (A.int .i64)) mf187 eo187 mz187 (.t rfl) rfl (.t rfl)) <| u (bi (.t rfl) (.i rfl) rfl) <| mpu (F := (A.int .i64)) mf187 eo187 (.t rfl) rfl (.t rfl) (.t rfl) hx4 <| .nil _) rfl ?_
    refine .sq ?_
    refine .rg (u (mv (.t rfl)) <| u (bc (.t rfl) (.i rfl) rfl rfl) <| u (mv (.t rfl)) <| gd rfl rfl (fun hB => mv (.t rfl)) <| gd rfl rfl (fun hB => bc (.m rfl hB) (.i rfl) rfl rfl) <| u (pko (.t rfl) (.t rfl)) <| u (mv (.t rfl)) <| gd rfl rfl (fun hB => mv (.t rfl)) <| gd rfl rfl (fun hB => mv (.t rfl)) <| gd rfl rfl (fun hB => mlv (F := (A.int .i64)) mf187 eo187 mz187 (.m rfl hB) rfl (.m rfl hB)) <| gd rfl rfl (fun hB => bc (.m rfl hB) (.i rfl) rfl rfl) <| u (pko (.t rfl) (.t rfl)) <| .nil _) rfl ?_
    refine .bq h (.t rfl) (fun h => ?_) (fun h => ?_)
    · refine .sq ?_
      refine .rg (u (asg .b) <| .nil _) rfl ?_
      replace h := mpR h hx1
      obtain rfl := Option.some.inj h
      exact .rt Tryz.func112 (.t rfl <| .n) .n rfl rfl
    · refine .skp ?_
      refine .ib ?_
      refine .rg (u (bi (.t rfl) (.i rfl) rfl) <| u (mv (.t rfl)) <| .nil _) rfl ?_
      exact .kq (.il (ih1 (x4, (ar .add .i64 v2 1)) (nxi h))) (.c rfl (.c rfl (.c rfl (.c rfl .n)))) (.c rfl .n)
  · refine .xt rfl ?_
    replace h := mpR h hx1
    refine .sq ?_
    refine .rg (u (asg .b) <| .nil _) rfl ?_
    obtain rfl := Option.some.inj h
    exact .rt Tryz.func112 (.t rfl <| .n) .n rfl rfl

theorem plan_to_c (m : GMap) :
    AC Tryz.prog 115 [.ro (enc_GMap m)] (.ro (.int .i64 (plan_to m))) [] := by
  obtain ⟨r, h⟩ : ∃ r, plan_to m = r := ⟨_, rfl⟩
  rw [h]
  refine AC.of Tryz.func115 rfl rfl fun w M0 hM => ?_
  unfold plan_to at h
  refine .sq ?_
  refine .rg (bx 1 (.t rfl) rfl rfl <| u (asg (.i rfl)) <| .nil _) rfl ?_
  refine .sq ?_
  refine .rg (u (fa ff64_1 (.t rfl)) <| u (ld tf3 (.t rfl) rfl rfl) <| u (asg (.t rfl)) <| .nil _) rfl ?_
  subst h
  exact .rt Tryz.func115 (.t rfl <| .n) .n rfl rfl

theorem elem_Right_c {z : Option Nat} {l : List Elem} {r : Bool} (h : elem_Right z l = some r) :
    AC Tryz.prog 116 [.ro (.list 2 (List.map cells_Elem l))] (.ro (.bool r)) [] := by
  refine AC.of Tryz.func116 rfl rfl fun w M0 hM => ?_
  unfold elem_Right at h
  refine .sq ?_
  refine .rg (u (asg .b) <| .nil _) rfl ?_
  refine .sq ?_
  refine .rg (mkm A.bool 6 mf188 rfl <| u (asg (.t rfl)) <| .nil _) rfl ?_
  refine .sq ?_
  refine .sq ?_
  refine .rg (u (mv (.t rfl)) <| u (lnm sf25 (.t rfl)) <| u (mv (.i rfl)) <| .nil _) rfl ?_
  refine .bl ?_
  unfold elem_Right_l1 at h
  refine .ks (fun i => bif Nat.beq i 3 then 6 else i) (.lo (fun (s : (List (Int × Bool)) × Int) => ⟨[(3, .own 3), (7, .ro (.list 2 (List.map cells_Elem l))), (8, .ro (.int .i64 (l.length : Int))), (9, .ro (.int .i64 s.2))], [(3, some (.map Tryz.prog 3 4 .i64 (mpA A.bool s.1)))]⟩) h ?_) (.c rfl (.c rfl (.c rfl (.c rfl .n)))) (.c rfl .n) rfl
  rintro ⟨v1, v2⟩ u1 h ih1 hx1
  replace h : elem_Right_s1 z l v1 v2 = _ := h
  unfold elem_Right_s1 at h
  refine .sq ?_
  refine .rg (u (bc (.t rfl) (.t rfl) rfl rfl) <| .nil _) rfl ?_
  refine .sq ?_
  refine .bq h (.t rfl) (fun h => ?_) (fun h => ?_)
  · refine .skp ?_
    refine .sq ?_
    refine .bl ?_
    refine .sq ?_
    refine be h fun x3 hx3 h => ?_
    refine .rg (u (ia sf25 (.t rfl) (.t rfl) (ix_map cells_Elem hx3)) <| u (lr tf66 (.t rfl) rfl) <| al 5 zf66 rfl <| st tf66 (.t rfl) rfl (.t rfl) rfl rfl rfl <| .nil _) rfl ?_
    refine .sq ?_
    refine .sq ?_
    refine .rg (u (fa ff66_0 (.t rfl)) <| u (ld tf3 (.t rfl) rfl rfl) <| u (bc (.t rfl) (.i rfl) rfl rfl) <| u (mv (.t rfl)) <| gd rfl rfl (fun hB => fa ff66_0 (.t rfl)) <| gd rfl rfl (fun hB => ld tf3 (.m rfl hB) rfl rfl) <| gd rfl rfl (fun hB => bc (.m rfl hB) (.i rfl) rfl rfl) <| u (pko (.t rfl) (.t rfl)) <| u (mv (.t rfl)) <| gd rfl rfl (fun hB => fa ff66_1 (.t rfl)) <| gd rfl rfl (fun hB => ld tf29 (.m rfl hB) rfl rfl) <| gd rfl rfl (fun hB => lnm sf29 (.m rfl hB)) <| gd rfl rfl (fun hB => bc (.m rfl hB) (.i rfl) rfl rfl) <| u (pko (.t rfl) (.t rfl)) <| u (mv (.t rfl)) <| gd rfl rfl (fun hB => mv (.t rfl)) <| gd rfl rfl (fun hB => fa ff66_0 (.t rfl)) <| gd rfl rfl (fun hB => ld tf3 (.m rfl hB) rfl rfl) <| gd rfl rfl (fun hB => mlv (F := A.bool) mf188 eo188 mz188 (.m rfl hB) rfl (.m rfl hB)) <| u (pko (.t rfl) (.t rfl)) <| .nil _) rfl ?_
    refine .bq h (.t rfl) (fun h => ?_) (fun h => ?_)
    · refine .sq ?_
      refine .rg (u (asg .b) <| .nil _) rfl ?_
      replace h := mpR h hx1
      obtain rfl := Option.some.inj h
      exact .rt Tryz.func116 (.t rfl <| .n) .n rfl rfl
    · refine .skp ?_
      refine be h fun x4 hx4 h => ?_
      refine .rg (u (mv (.t rfl)) <| u (fa ff66_0 (.t rfl)) <| u (ld tf3 (.t rfl) rfl rfl) <| mpu (F := A.bool) mf188 eo188 (.t rfl) rfl (.t rfl) .b hx4 <| .nil _) rfl ?_
      refine .ib ?_
      refine .rg (u (bi (.t rfl) (.i rfl) rfl) <| u (mv (.t rfl)) <| .nil _) rfl ?_
      exact .kq (.il (ih1 (x4, (ar .add .i64 v2 1)) (nxi h))) (.c rfl (.c rfl (.c rfl (.c rfl .n)))) (.c rfl .n)
  · refine .xt rfl ?_
    replace h := mpR h hx1
    refine .sq ?_
    refine .rg (u (asg .b) <| .nil _) rfl ?_
    obtain rfl := Option.some.inj h
    exact .rt Tryz.func116 (.t rfl <| .n) .n rfl rfl

theorem plan_ident_c (x : Elem) :
    AC Tryz.prog 118 [.ro (enc_Elem x)] (.ro (.int .i64 (plan_ident x))) [] := by
  obtain ⟨r, h⟩ : ∃ r, plan_ident x = r := ⟨_, rfl⟩
  rw [h]
  refine AC.of Tryz.func118 rfl rfl fun w M0 hM => ?_
  unfold plan_ident at h
  refine .sq ?_
  refine .rg (bx 1 (.t rfl) rfl rfl <| u (asg (.i rfl)) <| .nil _) rfl ?_
  refine .sq ?_
  refine .rg (u (fa ff66_0 (.t rfl)) <| u (ld tf3 (.t rfl) rfl rfl) <| u (asg (.t rfl)) <| .nil _) rfl ?_
  subst h
  exact .rt Tryz.func118 (.t rfl <| .n) .n rfl rfl

theorem slices_Index_c {z : Option Nat} {p_s : List Int} {v : Int} {r : Int} (h : slices_Index z p_s v = some r) :
    AC Tryz.prog 136 [.ro (.list 1 (List.map (ei .i64) p_s)), .ro (.int .i64 v)] (.ro (.int .i64 r)) [] := by
  refine AC.of Tryz.func136 rfl rfl fun w M0 hM => ?_
  unfold slices_Index at h
  refine .sq ?_
  refine .rg (u (asg (.i rfl)) <| .nil _) rfl ?_
  refine .sq ?_
  refine .sq ?_
  refine .rg (u (mv (.t rfl)) <| u (lnm sf26 (.t rfl)) <| u (mv (.i rfl)) <| .nil _) rfl ?_
  refine .bl ?_
  unfold slices_Index_l1 at h
  refine .kq (.lo (fun (s : Int) => ⟨[(0, .ro (.list 1 (List.map (ei .i64) p_s))), (1, .ro (.int .i64 v)), (7, .ro (.int .i64 (p_s.length : Int))), (8, .ro (.int .i64 s))], []⟩) h ?_) (.c rfl (.c rfl (.c rfl (.c rfl .n)))) .n
  intro v1 u1 h ih1 hx1
  replace h : slices_Index_s1 z p_s v v1 = _ := h
  unfold slices_Index_s1 at h
  refine .sq ?_
  refine .rg (u (bc (.t rfl) (.t rfl) rfl rfl) <| .nil _) rfl ?_
  refine .sq ?_
  refine .bq h (.t rfl) (fun h => ?_) (fun h => ?_)
  · refine .skp ?_
    refine .sq ?_
    refine .bl ?_
    refine .sq ?_
    refine .rg (u (mv (.t rfl)) <| u (asg (.t rfl)) <| .nil _) rfl ?_
    refine .sq ?_
    refine be h fun x2 hx2 h => ?_
    refine .rg (u (mv (.t rfl)) <| u (mv (.t rfl)) <| u (mv (.t rfl)) <| u (ia sf26 (.t rfl) (.t rfl) (ix_map (ei .i64) hx2)) <| u (lr tf3 (.t rfl) rfl) <| u (bc (.t rfl) (.t rfl) rfl rfl) <| .nil _) rfl ?_
    refine .bq h (.t rfl) (fun h => ?_) (fun h => ?_)
    · refine .sq ?_
      refine .rg (u (mv (.t rfl)) <| u (asg (.t rfl)) <| .nil _) rfl ?_
      replace h := mpR h hx1
      obtain rfl := Option.some.inj h
      exact .rt Tryz.func136 (.t rfl <| .n) .n rfl rfl
    · refine .skp ?_
      refine .ib ?_
      refine .rg (u (bi (.t rfl) (.i rfl) rfl) <| u (mv (.t rfl)) <| .nil _) rfl ?_
      exact .kq (.il (ih1 (ar .add .i64 v1 1) (nxi h))) (.c rfl (.c rfl (.c rfl (.c rfl .n)))) .n
  · refine .xt rfl ?_
    replace h := mpR h hx1
    refine .sq ?_
    refine .rg (u (asg (.i rfl)) <| .nil _) rfl ?_
    obtain rfl := Option.some.inj h
    exact .rt Tryz.func136 (.t rfl <| .n) .n rfl rfl

theorem slices_Contains_c {z : Option Nat} {p_s : List Int} {v : Int} {r : Bool} (h : slices_Contains z p_s v = some r) :
    AC Tryz.prog 121 [.ro (.list 1 (List.map (ei .i64) p_s)), .ro (.int .i64 v)] (.ro (.bool r)) [] := by
  refine AC.of Tryz.func121 rfl rfl fun w M0 hM => ?_
  unfold slices_Contains at h
  refine .sq ?_
  refine .rg (u (asg .b) <| .nil _) rfl ?_
  refine .sq ?_
  refine be h fun x1 hx1 h => ?_
  refine .rg (u (mv (.t rfl)) <| u (mv (.t rfl)) <| cl [] cf136 (slices_Index_c hx1) (.c (.t rfl) <| .c (.t rfl) <| .n) (.inl rfl) <| u (bc (.t rfl) (.i rfl) rfl rfl) <| u (asg (.t rfl)) <| .nil _) rfl ?_
  obtain rfl := Option.some.inj h
  exact .rt Tryz.func121 (.t rfl <| .n) .n rfl rfl

theorem plan_Right_1_c {z : Option Nat} {id_ : Int} {cap0 : List Int} {r : Bool} (h : plan_Right_1 z id_ cap0 = some r) :
    AC Tryz.prog 120 [.ro (.int .i64 id_), .rptr [.list 1 (List.map (ei .i64) cap0)]] (.ro (.bool r)) [] := by
  refine AC.of Tryz.func120 rfl rfl fun w M0 hM => ?_
  unfold plan_Right_1 at h
  refine .sq ?_
  refine .rg (u (asg .b) <| .nil _) rfl ?_
  refine .sq ?_
  refine be h fun x1 hx1 h => ?_
  refine .rg (u (lr tf26 (.t rfl) rfl) <| u (mv (.t rfl)) <| cl [] cf121 (slices_Contains_c hx1) (.c (.t rfl) <| .c (.t rfl) <| .n) (.inl rfl) <| u (asg (.t rfl)) <| .nil _) rfl ?_
  obtain rfl := Option.some.inj h
  exact .rt Tryz.func120 (.t rfl <| .n) .n rfl rfl

theorem slices_IndexFunc_int_c {z : Option Nat} {p_s : List Int} {f : (Int → Option Bool)} {g_f : FuncId} {c_f : List V} (hF_f : CF Tryz.prog g_f) (h_f : ∀ (a0 : Int) (q : Bool), f a0 = some q → AC Tryz.prog g_f ([.ro (.int .i64 a0)] ++ c_f) (.ro (.bool q)) []) {r : Int} (h : slices_IndexFunc_int z p_s f = some r) :
    AC Tryz.prog 135 [.ro (.list 1 (List.map (ei .i64) p_s)), .fn (.func g_f) [] c_f] (.ro (.int .i64 r)) [] := by
  refine AC.of Tryz.func135 rfl rfl fun w M0 hM => ?_
  unfold slices_IndexFunc_int at h
  refine .sq ?_
  refine .rg (u (asg (.i rfl)) <| .nil _) rfl ?_
  refine .sq ?_
  refine .sq ?_
  refine .rg (u (mv (.t rfl)) <| u (lnm sf26 (.t rfl)) <| u (mv (.i rfl)) <| .nil _) rfl ?_
  refine .bl ?_
  unfold slices_IndexFunc_int_l1 at h
  refine .kq (.lo (fun (s : Int) => ⟨[(0, .ro (.list 1 (List.map (ei .i64) p_s))), (1, .fn (.func g_f) [] c_f), (7, .ro (.int .i64 (p_s.length : Int))), (8, .ro (.int .i64 s))], []⟩) h ?_) (.c rfl (.c rfl (.c rfl (.c rfl .n)))) .n
  intro v1 u1 h ih1 hx1
  replace h : slices_IndexFunc_int_s1 z p_s f v1 = _ := h
  unfold slices_IndexFunc_int_s1 at h
  refine .sq ?_
  refine .rg (u (bc (.t rfl) (.t rfl) rfl rfl) <| .nil _) rfl ?_
  refine .sq ?_
  refine .bq h (.t rfl) (fun h => ?_) (fun h => ?_)
  · refine .skp ?_
    refine .sq ?_
    refine .bl ?_
    refine .sq ?_
    refine .rg (u (mv (.t rfl)) <| u (asg (.t rfl)) <| .nil _) rfl ?_
    refine .sq ?_
    refine be h fun x2 hx2 h => ?_
    refine be h fun x3 hx3 h => ?_
    refine .rg (u (mv (.t rfl)) <| u (mv (.t rfl)) <| u (mv (.t rfl)) <| u (ia sf26 (.t rfl) (.t rfl) (ix_map (ei .i64) hx2)) <| u (lr tf3 (.t rfl) rfl) <| clv [] hF_f (.t rfl) (h_f _ _ hx3) (.c (.t rfl) <| .n) (.inl rfl) <| .nil _) rfl ?_
    refine .bq h (.t rfl) (fun h => ?_) (fun h => ?_)
    · refine .sq ?_
      refine .rg (u (mv (.t rfl)) <| u (asg (.t rfl)) <| .nil _) rfl ?_
      replace h := mpR h hx1
      obtain rfl := Option.some.inj h
      exact .rt Tryz.func135 (.t rfl <| .n) .n rfl rfl
    · refine .skp ?_
      refine .ib ?_
      refine .rg (u (bi (.t rfl) (.i rfl) rfl) <| u (mv (.t rfl)) <| .nil _) rfl ?_
      exact .kq (.il (ih1 (ar .add .i64 v1 1) (nxi h))) (.c rfl (.c rfl (.c rfl (.c rfl .n)))) .n
  · refine .xt rfl ?_
    replace h := mpR h hx1
    refine .sq ?_
    refine .rg (u (asg (.i rfl)) <| .nil _) rfl ?_
    obtain rfl := Option.some.inj h
    exact .rt Tryz.func135 (.t rfl <| .n) .n rfl rfl

theorem slices_ContainsFunc_int_c {z : Option Nat} {p_s : List Int} {f : (Int → Option Bool)} {g_f : FuncId} {c_f : List V} (hF_f : CF Tryz.prog g_f) (h_f : ∀ (a0 : Int) (q : Bool), f a0 = some q → AC Tryz.prog g_f ([.ro (.int .i64 a0)] ++ c_f) (.ro (.bool q)) []) {r : Bool} (h : slices_ContainsFunc_int z p_s f = some r) :
    AC Tryz.prog 119 [.ro (.list 1 (List.map (ei .i64) p_s)), .fn (.func g_f) [] c_f] (.ro (.bool r)) [] := by
  refine AC.of Tryz.func119 rfl rfl fun w M0 hM => ?_
  unfold slices_ContainsFunc_int at h
  refine .sq ?_
  refine .rg (u (asg .b) <| .nil _) rfl ?_
  refine .sq ?_
  refine be h fun x1 hx1 h => ?_
  refine .rg (u (mv (.t rfl)) <| u (mv (.t rfl)) <| cl [] cf135 (slices_IndexFunc_int_c hF_f h_f hx1) (.c (.t rfl) <| .c (.t rfl) <| .n) (.inl rfl) <| u (bc (.t rfl) (.i rfl) rfl rfl) <| u (asg (.t rfl)) <| .nil _) rfl ?_
  obtain rfl := Option.some.inj h
  exact .rt Tryz.func119 (.t rfl <| .n) .n rfl rfl

theorem plan_ids_Map_f0_c {z : Option Nat} {l : List GMap} {r : List Int} (h : plan_ids_Map_f0 z l = some r) :
    AC Tryz.prog 113 [.ro (.list 2 (List.map cells_GMap l)), .fn (.func 114) [] []] (.own 0) [(0, .arr 3 1 (List.map (ei .i64) r))] := by
  refine AC.of Tryz.func113 rfl rfl fun w M0 hM => ?_
  unfold plan_ids_Map_f0 at h
  refine .sq ?_
  refine .rg (anm (ei .i64) 4 3 1 rfl rfl <| .nil _) rfl ?_
  refine .sq ?_
  refine .rg (anm (ei .i64) 5 3 1 rfl rfl <| .nil _) rfl ?_
  refine .sq ?_
  refine .sq ?_
  refine .rg (u (mv (.t rfl)) <| u (lnm sf24 (.t rfl)) <| u (mv (.i rfl)) <| .nil _) rfl ?_
  refine .bl ?_
  unfold plan_ids_Map_f0_l1 at h
  refine .kq (.lo (fun (s : List Int × Int) => ⟨[(1, .fn (.func 114) [] []), (5, .own 5), (8, .ro (.list 2 (List.map cells_GMap l))), (9, .ro (.int .i64 (l.length : Int))), (10, .ro (.int .i64 s.2))], [(5, some (.arr 3 1 (List.map (ei .i64) s.1)))]⟩) h ?_) (.c rfl (.c rfl (.c rfl (.c rfl (.c rfl .n))))) (.c rfl .n)
  rintro ⟨v1, v2⟩ u1 h ih1 hx1
  replace h : plan_ids_Map_f0_s1 z l v1 v2 = _ := h
  unfold plan_ids_Map_f0_s1 at h
  refine .sq ?_
  refine .rg (u (bc (.t rfl) (.t rfl) rfl rfl) <| .nil _) rfl ?_
  refine .sq ?_
  refine .bq h (.t rfl) (fun h => ?_) (fun h => ?_)
  · refine .skp ?_
    refine .sq ?_
    refine .bl ?_
    refine .sq ?_
    refine be h fun x3 hx3 h => ?_
    refine .rg (u (ia sf24 (.t rfl) (.t rfl) (ix_map cells_GMap hx3)) <| u (lr tf64 (.t rfl) rfl) <| al 7 zf64 rfl <| st tf64 (.t rfl) rfl (.t rfl) rfl rfl rfl <| .nil _) rfl ?_
    refine be h fun x4 hx4 h => ?_
    refine .rg (u (mv (.t rfl)) <| u (mv (.t rfl)) <| u (ld tf64 (.t rfl) rfl rfl) <| clv [] cf114 (.t rfl) (plan_from_c x3 ) (.c (.t rfl) <| .n) (.inl rfl) <| bs (F := (ei .i64)) (l := [(plan_from x3 )]) 18 pf26 (.c (.t rfl) rfl <| .n) rfl (fun _ _ => rfl) rfl rfl <| apo 19 pf26 (.t rfl) rfl (.t rfl) rfl hx4 rfl <| u (asg (.t rfl)) <| .nil _) rfl ?_
    refine .ib ?_
    refine .rg (u (bi (.t rfl) (.i rfl) rfl) <| u (mv (.t rfl)) <| .nil _) rfl ?_
    exact .ks (fun i => bif Nat.beq i 5 then 19 else i) (.il (ih1 (x4, (ar .add .i64 v2 1)) (nxi h))) (.c rfl (.c rfl (.c rfl (.c rfl (.c rfl .n))))) (.c rfl .n) rfl
  · refine .xt rfl ?_
    replace h := mpR h hx1
    refine .sq ?_
    refine .rg (u (mv (.t rfl)) <| u (asg (.t rfl)) <| .nil _) rfl ?_
    obtain rfl := Option.some.inj h
    refine .ks (l := [(4, .own 0)]) (o := [(0, some (.arr 3 1 (List.map (ei .i64) v1)))]) (fun i => bif Nat.beq i 0 then 5 else i) ?_ (.c rfl .n) (.c rfl .n) rfl
    exact .rt Tryz.func113 (.t rfl <| .n) (.c rfl .n) rfl rfl

theorem plan_ids_Map_f0_r {z : Option Nat} {l : List GMap} {r : List Int} (h : plan_ids_Map_f0 z l = some r) :
    AC Tryz.prog 113 [.ro (.list 2 (List.map cells_GMap l)), .fn (.func 114) [] []] (.ro (.list 1 (List.map (ei .i64) r))) [] := AC.fz (plan_ids_Map_f0_c h) rfl

theorem plan_ids_Map_f1_c {z : Option Nat} {l : List GMap} {r : List Int} (h : plan_ids_Map_f1 z l = some r) :
    AC Tryz.prog 113 [.ro (.list 2 (List.map cells_GMap l)), .fn (.func 115) [] []] (.own 0) [(0, .arr 3 1 (List.map (ei .i64) r))] := by
  refine AC.of Tryz.func113 rfl rfl fun w M0 hM => ?_
  unfold plan_ids_Map_f1 at h
  refine .sq ?_
  refine .rg (anm (ei .i64) 4 3 1 rfl rfl <| .nil _) rfl ?_
  refine .sq ?_
  refine .rg (anm (ei .i64) 5 3 1 rfl rfl <| .nil _) rfl ?_
  refine .sq ?_
  refine .sq ?_
  refine .rg (u (mv (.t rfl)) <| u (lnm sf24 (.t rfl)) <| u (mv (.i rfl)) <| .nil _) rfl ?_
  refine .bl ?_
  unfold plan_ids_Map_f1_l1 at h
  refine .kq (.lo (fun (s : List Int × Int) => ⟨[(1, .fn (.func 115) [] []), (5, .own 5), (8, .ro (.list 2 (List.map cells_GMap l))), (9, .ro (.int .i64 (l.length : Int))), (10, .ro (.int .i64 s.2))], [(5, some (.arr 3 1 (List.map (ei .i64) s.1)))]⟩) h ?_) (.c rfl (.c rfl (.c rfl (.c rfl (.c rfl .n))))) (.c rfl .n)
  rintro ⟨v1, v2⟩ u1 h ih1 hx1
  replace h : plan_ids_Map_f1_s1 z l v1 v2 = _ := h
  unfold plan_ids_Map_f1_s1 at h
  refine .sq ?_
  refine .rg (u (bc (.t rfl) (.t rfl) rfl rfl) <| .nil _) rfl ?_
  refine .sq ?_
  refine .bq h (.t rfl) (fun h => ?_) (fun h => ?_)
  · refine .skp ?_
    refine .sq ?_
    refine .bl ?_
    refine .sq ?_
    refine be h fun x3 hx3 h => ?_
    refine .rg (u (ia sf24 (.t rfl) (.t rfl) (ix_map cells_GMap hx3)) <| u (lr tf64 (.t rfl) rfl) <| al 7 zf64 rfl <| st tf64 (.t rfl) rfl (.t rfl) rfl rfl rfl <| .nil _) rfl ?_
    refine be h fun x4 hx4 h => ?_
    refine .rg (u (mv (.t rfl)) <| u (mv (.t rfl)) <| u (ld tf64 (.t rfl) rfl rfl) <| clv [] cf115 (.t rfl) (plan_to_c x3 ) (.c (.t rfl) <| .n) (.inl rfl) <| bs (F := (ei .i64)) (l := [(plan_to x3 )]) 18 pf26 (.c (.t rfl) rfl <| .n) rfl (fun _ _ => rfl) rfl rfl <| apo 19 pf26 (.t rfl) rfl (.t rfl) rfl hx4 rfl <| u (asg (.t rfl)) <| .nil _) rfl ?_
    refine .ib ?_
    refine .rg (u (bi (.t rfl) (.i rfl) rfl) <| u (mv (.t rfl)) <| .nil _) rfl ?_
    exact .ks (fun i => bif Nat.beq i 5 then 19 else i) (.il (ih1 (x4, (ar .add .i64 v2 1)) (nxi h))) (.c rfl (.c rfl (.c rfl (.c rfl (.c rfl .n))))) (.c rfl .n) rfl
  · refine .xt rfl ?_
    replace h := mpR h hx1
    refine .sq ?_
    refine .rg (u (mv (.t rfl)) <| u (asg (.t rfl)) <| .nil _) rfl ?_
    obtain rfl := Option.some.inj h
    refine .ks (l := [(4, .own 0)]) (o := [(0, some (.arr 3 1 (List.map (ei .i64) v1)))]) (fun i => bif Nat.beq i 0 then 5 else i) ?_ (.c rfl .n) (.c rfl .n) rfl
    exact .rt Tryz.func113 (.t rfl <| .n) (.c rfl .n) rfl rfl

theorem plan_ids_Map_f1_r {z : Option Nat} {l : List GMap} {r : List Int} (h : plan_ids_Map_f1 z l = some r) :
    AC Tryz.prog 113 [.ro (.list 2 (List.map cells_GMap l)), .fn (.func 115) [] []] (.ro (.list 1 (List.map (ei .i64) r))) [] := AC.fz (plan_ids_Map_f1_c h) rfl

theorem plan_ids_Elem_f0_c {z : Option Nat} {l : List Elem} {r : List Int} (h : plan_ids_Elem_f0 z l = some r) :
    AC Tryz.prog 117 [.ro (.list 2 (List.map cells_Elem l)), .fn (.func 118) [] []] (.own 0) [(0, .arr 3 1 (List.map (ei .i64) r))] := by
  refine AC.of Tryz.func117 rfl rfl fun w M0 hM => ?_
  unfold plan_ids_Elem_f0 at h
  refine .sq ?_
  refine .rg (anm (ei .i64) 4 3 1 rfl rfl <| .nil _) rfl ?_
  refine .sq ?_
  refine .rg (anm (ei .i64) 5 3 1 rfl rfl <| .nil _) rfl ?_
  refine .sq ?_
  refine .sq ?_
  refine .rg (u (mv (.t rfl)) <| u (lnm sf25 (.t rfl)) <| u (mv (.i rfl)) <| .nil _) rfl ?_
  refine .bl ?_
  unfold plan_ids_Elem_f0_l1 at h
  refine .kq (.lo (fun (s : List Int × Int) => ⟨[(1, .fn (.func 118) [] []), (5, .own 5), (8, .ro (.list 2 (List.map cells_Elem l))), (9, .ro (.int .i64 (l.length : Int))), (10, .ro (.int .i64 s.2))], [(5, some (.arr 3 1 (List.map (ei .i64) s.1)))]⟩) h ?_) (.c rfl (.c rfl (.c rfl (.c rfl (.c rfl .n))))) (.c rfl .n)
  rintro ⟨v1, v2⟩ u1 h ih1 hx1
  replace h : plan_ids_Elem_f0_s1 z l v1 v2 = _ := h
  unfold plan_ids_Elem_f0_s1 at h
  refine .sq ?_
  refine .rg (u (bc (.t rfl) (.t rfl) rfl rfl) <| .nil _) rfl ?_
  refine .sq ?_
  refine .bq h (.t rfl) (fun h => ?_) (fun h => ?_)
  · refine .skp ?_
    refine .sq ?_
    refine .bl ?_
    refine .sq ?_
    refine be h fun x3 hx3 h => ?_
    refine .rg (u (ia sf25 (.t rfl) (.t rfl) (ix_map cells_Elem hx3)) <| u (lr tf66 (.t rfl) rfl) <| al 7 zf66 rfl <| st tf66 (.t rfl) rfl (.t rfl) rfl rfl rfl <| .nil _) rfl ?_
    refine be h fun x4 hx4 h => ?_
    refine .rg (u (mv (.t rfl)) <| u (mv (.t rfl)) <| u (ld tf66 (.t rfl) rfl rfl) <| clv [] cf118 (.t rfl) (plan_ident_c x3 ) (.c (.t rfl) <| .n) (.inl rfl) <| bs (F := (ei .i64)) (l := [(plan_ident x3 )]) 18 pf26 (.c (.t rfl) rfl <| .n) rfl (fun _ _ => rfl) rfl rfl <| apo 19 pf26 (.t rfl) rfl (.t rfl) rfl hx4 rfl <| u (asg (.t rfl)) <| .nil _) rfl ?_
    refine .ib ?_
    refine .rg (u (bi (.t rfl) (.i rfl) rfl) <| u (mv (.t rfl)) <| .nil _) rfl ?_
    exact .ks (fun i => bif Nat.beq i 5 then 19 else i) (.il (ih1 (x4, (ar .add .i64 v2 1)) (nxi h))) (.c rfl (.c rfl (.c rfl (.c rfl (.c rfl .n))))) (.c rfl .n) rfl
  · refine .xt rfl ?_
    replace h := mpR h hx1
    refine .sq ?_
    refine .rg (u (mv (.t rfl)) <| u (asg (.t rfl)) <| .nil _) rfl ?_
    obtain rfl := Option.some.inj h
    refine .ks (l := [(4, .own 0)]) (o := [(0, some (.arr 3 1 (List.map (ei .i64) v1)))]) (fun i => bif Nat.beq i 0 then 5 else i) ?_ (.c rfl .n) (.c rfl .n) rfl
    exact .rt Tryz.func117 (.t rfl <| .n) (.c rfl .n) rfl rfl

theorem plan_ids_Elem_f0_r {z : Option Nat} {l : List Elem} {r : List Int} (h : plan_ids_Elem_f0 z l = some r) :
    AC Tryz.prog 117 [.ro (.list 2 (List.map cells_Elem l)), .fn (.func 118) [] []] (.ro (.list 1 (List.map (ei .i64) r))) [] := AC.fz (plan_ids_Elem_f0_c h) rfl

theorem plan_Right_c {z : Option Nat} {p : Plan} {r : Bool} (h : plan_Right z p = some r) :
    AC Tryz.prog 71 [.ro (enc_Plan p)] (.ro (.bool r)) [] := by
  refine AC.of Tryz.func71 rfl rfl fun w M0 hM => ?_
  unfold plan_Right at h
  refine .sq ?_
  refine .rg (bx 1 (.t rfl) rfl rfl <| u (asg .b) <| .nil _) rfl ?_
  refine .sq ?_
  refine .sq ?_
  refine be h fun x1 hx1 h => ?_
  refine be h fun x2 hx2 h => ?_
  refine be h fun x3 hx3 h => ?_
  refine be h fun x4 hx4 h => ?_
  refine be h fun x5 hx5 h => ?_
  refine be h fun x6 hx6 h => ?_
  refine be h fun x7 hx7 h => ?_
  refine .rg (u (ld tf28 (.t rfl) rfl rfl) <| cl [] cf111 (plan_single_c p) (.c (.t rfl) <| .n) (.inl rfl) <| u (no (.t rfl)) <| u (mv (.t rfl)) <| gd rfl rfl (fun hB => fa ff28_10 (.t rfl)) <| gd rfl rfl (fun hB => ld tf24 (.m rfl hB) rfl rfl) <| cg rfl rfl cf113 (fun hB => (plan_ids_Map_f0_r (gTt hx1 (nt hB)))) (fun hB => .c (.m rfl hB) <| .c .f <| .n) (.inl rfl) <| cg rfl rfl cf112 (fun hB => (plan_apart_c (gTt hx2 (nt hB)))) (fun hB => .c (.m rfl hB) <| .n) (.inl rfl) <| gd rfl rfl (fun hB => no (.m rfl hB)) <| u (pko (.t rfl) (.t rfl)) <| u (mv (.t rfl)) <| gd rfl rfl (fun hB => fa ff28_10 (.t rfl)) <| gd rfl rfl (fun hB => ld tf24 (.m rfl hB) rfl rfl) <| cg rfl rfl cf113 (fun hB => (plan_ids_Map_f1_r (gTt hx3 (nt hB)))) (fun hB => .c (.m rfl hB) <| .c .f <| .n) (.inl rfl) <| cg rfl rfl cf112 (fun hB => (plan_apart_c (gTt hx4 (nt hB)))) (fun hB => .c (.m rfl hB) <| .n) (.inl rfl) <| gd rfl rfl (fun hB => no (.m rfl hB)) <| u (pko (.t rfl) (.t rfl)) <| u (mv (.t rfl)) <| gd rfl rfl (fun hB => fa ff28_11 (.t rfl)) <| gd rfl rfl (fun hB => ld tf25 (.m rfl hB) rfl rfl) <| cg rfl rfl cf116 (fun hB => (elem_Right_c (gTt hx5 (nt hB)))) (fun hB => .c (.m rfl hB) <| .n) (.inl rfl) <| gd rfl rfl (fun hB => no (.m rfl hB)) <| u (pko (.t rfl) (.t rfl)) <| u (mv (.t rfl)) <| gd rfl rfl (fun hB => fa ff28_13 (.t rfl)) <| gd rfl rfl (fun hB => ld tf25 (.m rfl hB) rfl rfl) <| cg rfl rfl cf116 (fun hB => (elem_Right_c (gTt hx6 (nt hB)))) (fun hB => .c (.m rfl hB) <| .n) (.inl rfl) <| gd rfl rfl (fun hB => no (.m rfl hB)) <| u (pko (.t rfl) (.t rfl)) <| u (mv (.t rfl)) <| gd rfl rfl (fun hB => fa ff28_12 (.t rfl)) <| gd rfl rfl (fun hB => ld tf26 (.m rfl hB) rfl rfl) <| cg rfl rfl cf112 (fun hB => (plan_apart_c (gTt hx7 (nt hB)))) (fun hB => .c (.m rfl hB) <| .n) (.inl rfl) <| gd rfl rfl (fun hB => no (.m rfl hB)) <| u (pko (.t rfl) (.t rfl)) <| .nil _) rfl ?_
  refine .bq h (.t rfl) (fun h => ?_) (fun h => ?_)
  · refine .sq ?_
    refine .rg (u (asg .b) <| .nil _) rfl ?_
    obtain rfl := Option.some.inj h
    exact .rt Tryz.func71 (.t rfl <| .n) .n rfl rfl
  · refine .skp ?_
    refine .sq ?_
    refine be h fun x8 hx8 h => ?_
    refine be h fun x9 hx9 h => ?_
    refine be h fun x10 hx10 h => ?_
    refine .rd mixed (u (fa ff28_10 (.t rfl)) <| u (ld tf24 (.t rfl) rfl rfl) <| cnf 42000 cf113 (plan_ids_Map_f0_c hx8) (.c (.t rfl) <| .c .f <| .n) rfl rfl rfl <| u (fa ff28_11 (.t rfl)) <| u (ld tf25 (.t rfl) rfl rfl) <| cnf 45000 cf117 (plan_ids_Elem_f0_c hx9) (.c (.t rfl) <| .c .f <| .n) rfl rfl rfl <| apo 45 pf26 (.t rfl) rfl (.t rfl) rfl hx10 rfl <| al 3 zf26 rfl <| st tf26 (.t rfl) rfl (.t rfl) rfl rfl rfl <| .nil _) (by kernel_rfl) rfl ?_
    refine .sq ?_
    refine .fz 45 rfl ?_
    refine .fb 3 rfl rfl ?_
    refine be h fun x11 hx11 h => ?_
    refine .rg (u (fa ff28_12 (.t rfl)) <| u (ld tf26 (.t rfl) rfl rfl) <| u (mfn (.c (.t rfl) <| .n)) <| cl [] cf119 (slices_ContainsFunc_int_c cf120 (fun y0 q h => plan_Right_1_c h) hx11) (.c (.t rfl) <| .c (.t rfl) <| .n) (.inl rfl) <| u (no (.t rfl)) <| u (asg (.t rfl)) <| .nil _) rfl ?_
    obtain rfl := Option.some.inj h
    exact .rt Tryz.func71 (.t rfl <| .n) .n rfl rfl

theorem plan_turns_c (p : Plan) :
    AC Tryz.prog 37 [.ro (enc_Plan p)] (.ro (.bool (plan_turns p))) [] := by
  obtain ⟨r, h⟩ : ∃ r, plan_turns p = r := ⟨_, rfl⟩
  rw [h]
  refine AC.of Tryz.func37 rfl rfl fun w M0 hM => ?_
  unfold plan_turns at h
  refine .sq ?_
  refine .rg (bx 1 (.t rfl) rfl rfl <| u (asg .b) <| .nil _) rfl ?_
  refine .sq ?_
  refine .rg (u (fa ff28_12 (.t rfl)) <| u (ld tf26 (.t rfl) rfl rfl) <| u (lnm sf26 (.t rfl)) <| u (fa ff28_13 (.t rfl)) <| u (ld tf25 (.t rfl) rfl rfl) <| u (lnm sf25 (.t rfl)) <| u (bi (.t rfl) (.t rfl) rfl) <| u (bc (.t rfl) (.i rfl) rfl rfl) <| u (asg (.t rfl)) <| .nil _) rfl ?_
  subst h
  exact .rt Tryz.func37 (.t rfl <| .n) .n rfl rfl

theorem plan_Elements_c (p : Plan) :
    AC Tryz.prog 42 [.ro (enc_Plan p)] (.ro (.bool (plan_Elements p))) [] := by
  obtain ⟨r, h⟩ : ∃ r, plan_Elements p = r := ⟨_, rfl⟩
  rw [h]
  refine AC.of Tryz.func42 rfl rfl fun w M0 hM => ?_
  unfold plan_Elements at h
  refine .sq ?_
  refine .rg (bx 1 (.t rfl) rfl rfl <| u (asg .b) <| .nil _) rfl ?_
  refine .sq ?_
  refine .rg (u (fa ff28_10 (.t rfl)) <| u (ld tf24 (.t rfl) rfl rfl) <| u (lnm sf24 (.t rfl)) <| u (fa ff28_11 (.t rfl)) <| u (ld tf25 (.t rfl) rfl rfl) <| u (lnm sf25 (.t rfl)) <| u (bi (.t rfl) (.t rfl) rfl) <| u (bc (.t rfl) (.i rfl) rfl rfl) <| u (mv (.t rfl)) <| gd rfl rfl (fun hB => ld tf28 (.t rfl) rfl rfl) <| cg rfl rfl cf37 (fun hB => (plan_turns_c p)) (fun hB => .c (.m rfl hB) <| .n) (.inl rfl) <| u (pko (.t rfl) (.t rfl)) <| u (asg (.t rfl)) <| .nil _) rfl ?_
  subst h
  exact .rt Tryz.func42 (.t rfl <| .n) .n rfl rfl

theorem elem_walk_c (profile : Int) :
    AC Tryz.prog 130 [.ro (.int .u16 profile)] (.ro (enc_I_elem_walker (elem_walk profile))) [] := by
  obtain ⟨r, h⟩ : ∃ r, elem_walk profile = r := ⟨_, rfl⟩
  rw [h]
  refine AC.of Tryz.func130 rfl rfl fun w M0 hM => ?_
  unfold elem_walk at h
  refine .sq ?_
  refine .rg (u (asg (.r rfl)) <| .nil _) rfl ?_
  refine .sq ?_
  refine .bl ?_
  refine .sq ?_
  refine .rg (u (mv (.t rfl)) <| u (bc (.t rfl) (.i rfl) rfl rfl) <| u (asg (.t rfl)) <| .nil _) rfl ?_
  refine .bq h (.t rfl) (fun h => ?_) (fun h => ?_)
  · refine .sq ?_
    refine .rg (u (bd bf197 zf197 (.n) rfl) <| u (mki pc197 (.t rfl)) <| u (asg (.t rfl)) <| .nil _) rfl ?_
    subst h
    exact .rt Tryz.func130 (.t rfl <| .n) .n rfl rfl
  · refine .sq ?_
    refine .rg (u (mv (.t rfl)) <| u (bi (.t rfl) (.i rfl) rfl) <| u (bc (.t rfl) (.i rfl) rfl rfl) <| u (asg (.t rfl)) <| .nil _) rfl ?_
    refine .bq h (.t rfl) (fun h => ?_) (fun h => ?_)
    · refine .sq ?_
      refine .rg (u (bd bf198 zf198 (.n) rfl) <| u (mki pc198 (.t rfl)) <| u (asg (.t rfl)) <| .nil _) rfl ?_
      subst h
      exact .rt Tryz.func130 (.t rfl <| .n) .n rfl rfl
    · refine .skp ?_
      refine .ib ?_
      refine .sq ?_
      refine .rg (u (asg (.r rfl)) <| .nil _) rfl ?_
      subst h
      exact .rt Tryz.func130 (.t rfl <| .n) .n rfl rfl

theorem elem_low_next_c {p0 : elem_low} {b : List Int} {at_ : Int} {r : Spot × Bool} (h : elem_low_next p0 b at_ = some r) :
    AC Tryz.prog 174 [.ro (enc_elem_low p0), .ro (.list 1 (List.map e8 b)), .ro (.int .i64 at_)] (.ro (.tup [enc_Spot r.1, .bool r.2])) [] := by
  refine AC.of Tryz.func174 rfl rfl fun w M0 hM => ?_
  unfold elem_low_next at h
  refine .sq ?_
  refine .rg (bx 3 (.t rfl) rfl rfl <| al 6 zf79 rfl <| u (asg .b) <| .nil _) rfl ?_
  refine .sq ?_
  refine be h fun x1 hx1 h => ?_
  refine be h fun x2 hx2 h => ?_
  refine .rd mixed (u (mv (.t rfl)) <| u (mv (.t rfl)) <| u (ia sf29 (.t rfl) (.t rfl) (ix_map e8 hx1)) <| u (lr tf5 (.t rfl) rfl) <| u (sh (.t rfl) (.i rfl) rfl (by decide)) <| u (cv cv5_3 (.t rfl)) <| u (mv (.t rfl)) <| u (bi (.t rfl) (.i rfl) rfl) <| u (mv (.t rfl)) <| u (mv (.t rfl)) <| u (ia sf29 (.t rfl) (.t rfl) (ix_map e8 hx2)) <| u (lr tf5 (.t rfl) rfl) <| u (bi (.t rfl) (.i rfl) rfl) <| u (cv cv5_3 (.t rfl)) <| u (bi (.t rfl) (.i rfl) rfl) <| u (bd bf79 zf79 (.c rfl (.t rfl) rfl rfl rfl <| .c rfl (.t rfl) rfl rfl rfl <| .c rfl (.t rfl) rfl rfl rfl <| .n) rfl) <| al 8 zf79 rfl <| st tf79 (.t rfl) rfl (.t rfl) rfl rfl rfl <| .nil _) (by kernel_rfl) rfl ?_
  refine .sq ?_
  refine .rd mixed (u (ld tf79 (.t rfl) rfl rfl) <| u (fa ff79_0 (.t rfl)) <| u (ld tf3 (.t rfl) rfl rfl) <| u (bc (.t rfl) (.i rfl) rfl rfl) <| u (mv (.t rfl)) <| gd rfl rfl (fun hB => fa ff79_0 (.t rfl)) <| gd rfl rfl (fun hB => ld tf3 (.m rfl hB) rfl rfl) <| gd rfl rfl (fun hB => bc (.m rfl hB) (.i rfl) rfl rfl) <| u (pka (.t rfl) (.t rfl)) <| st tf79 (.t rfl) rfl (.t rfl) rfl rfl rfl <| u (asg (.t rfl)) <| .nil _) (by kernel_rfl) rfl ?_
  obtain rfl := Option.some.inj h
  exact .rt Tryz.func174 (.c tf79 rfl rfl rfl <| .t rfl <| .n) .n rfl rfl

theorem elem_high_next_c {p0 : elem_high} {b : List Int} {at_ : Int} {r : Spot × Bool} (h : elem_high_next p0 b at_ = some r) :
    AC Tryz.prog 175 [.ro (enc_elem_high p0), .ro (.list 1 (List.map e8 b)), .ro (.int .i64 at_)] (.ro (.tup [enc_Spot r.1, .bool r.2])) [] := by
  refine AC.of Tryz.func175 rfl rfl fun w M0 hM => ?_
  unfold elem_high_next at h
  refine .sq ?_
  refine .rg (bx 3 (.t rfl) rfl rfl <| al 6 zf79 rfl <| u (asg .b) <| .nil _) rfl ?_
  refine .sq ?_
  refine be h fun x1 hx1 h => ?_
  refine .rg (u (mv (.t rfl)) <| u (mv (.t rfl)) <| u (ia sf29 (.t rfl) (.t rfl) (ix_map e8 hx1)) <| u (lr tf5 (.t rfl) rfl) <| u (cv cv5_3 (.t rfl)) <| u (mv (.t rfl)) <| u (bi (.t rfl) (.i rfl) rfl) <| u (bd bf79 zf79 (.c rfl (.t rfl) rfl rfl rfl <| .c rfl (.t rfl) rfl rfl rfl <| .c rfl (.i rfl) rfl rfl rfl <| .n) rfl) <| al 8 zf79 rfl <| st tf79 (.t rfl) rfl (.t rfl) rfl rfl rfl <| .nil _) rfl ?_
  refine .sq ?_
  refine .sq ?_
  refine .rg (u (mv (.t rfl)) <| u (bi (.t rfl) (.i rfl) rfl) <| u (mv (.t rfl)) <| u (lnm sf29 (.t rfl)) <| u (bc (.t rfl) (.t rfl) rfl rfl) <| .nil _) rfl ?_
  refine .jq (t := some r) (fun (a : Spot) => ⟨[(6, .ptr 6 0), (8, .ptr 8 0)], [(6, some (.box [.ro (.int .i64 0), .ro (.int .i64 0), .ro (.int .i64 0)])), (8, some (.box [.ro (.int .i64 a.id_), .ro (.int .i64 a.at_), .ro (.int .i64 a.size)]))]⟩) (fun (a : Spot) => elem_high_next_j1 a) ?_ (fun J1 => ?_)
  · intro v2 h
    replace h : elem_high_next_j1 v2 = _ := h
    unfold elem_high_next_j1 at h
    refine .sq ?_
    refine .rg (u (ld tf79 (.t rfl) rfl rfl) <| st tf79 (.t rfl) rfl (.t rfl) rfl rfl rfl <| u (asg .b) <| .nil _) rfl ?_
    obtain rfl := Option.some.inj h
    exact .rt Tryz.func175 (.c tf79 rfl rfl rfl <| .t rfl <| .n) .n rfl rfl
  refine .bq h (.t rfl) (fun h => ?_) (fun h => ?_)
  · refine be h fun x3 hx3 h => ?_
    refine .rg (u (mv (.t rfl)) <| u (mv (.t rfl)) <| u (bi (.t rfl) (.i rfl) rfl) <| u (ia sf29 (.t rfl) (.t rfl) (ix_map e8 hx3)) <| u (lr tf5 (.t rfl) rfl) <| u (cv cv5_3 (.t rfl)) <| u (fa ff79_2 (.t rfl)) <| st tf3 (.t rfl) rfl (.t rfl) rfl rfl rfl <| .nil _) rfl ?_
    exact .kq (J1 (Spot.mk (IntKind.i64.wrap x1) (ar .add .i64 at_ 2) (IntKind.i64.wrap x3)) h) (.c rfl (.c rfl .n)) (.c rfl (.c rfl .n))
  · refine .skp ?_
    exact .kq (J1 (Spot.mk (IntKind.i64.wrap x1) (ar .add .i64 at_ 2) 256) h) (.c rfl (.c rfl .n)) (.c rfl (.c rfl .n))

theorem elem_Spots_1_c (x : Spot) (cap0 : Spot) :
    AC Tryz.prog 132 [.ro (enc_Spot x), .rptr [.int .i64 cap0.id_, .int .i64 cap0.at_, .int .i64 cap0.size]] (.ro (.bool (elem_Spots_1 x cap0))) [] := by
  obtain ⟨r, h⟩ : ∃ r, elem_Spots_1 x cap0 = r := ⟨_, rfl⟩
  rw [h]
  refine AC.of Tryz.func132 rfl rfl fun w M0 hM => ?_
  unfold elem_Spots_1 at h
  refine .sq ?_
  refine .rg (bx 2 (.t rfl) rfl rfl <| u (asg .b) <| .nil _) rfl ?_
  refine .sq ?_
  refine .rg (u (fa ff79_0 (.t rfl)) <| u (ld tf3 (.t rfl) rfl rfl) <| u (fr ff79_0 (.t rfl) rfl) <| u (lr tf3 (.t rfl) rfl) <| u (bc (.t rfl) (.t rfl) rfl rfl) <| u (asg (.t rfl)) <| .nil _) rfl ?_
  subst h
  exact .rt Tryz.func132 (.t rfl <| .n) .n rfl rfl

theorem slices_IndexFunc_Spot_c {z : Option Nat} {p_s : List Spot} {f : (Spot → Option Bool)} {g_f : FuncId} {c_f : List V} (hF_f : CF Tryz.prog g_f) (h_f : ∀ (a0 : Spot) (q : Bool), f a0 = some q → AC Tryz.prog g_f ([.ro (enc_Spot a0)] ++ c_f) (.ro (.bool q)) []) {r : Int} (h : slices_IndexFunc_Spot z p_s f = some r) :
    AC Tryz.prog 146 [.ro (.list 3 (List.map cells_Spot p_s)), .fn (.func g_f) [] c_f] (.ro (.int .i64 r)) [] := by
  refine AC.of Tryz.func146 rfl rfl fun w M0 hM => ?_
  unfold slices_IndexFunc_Spot at h
  refine .sq ?_
  refine .rg (u (asg (.i rfl)) <| .nil _) rfl ?_
  refine .sq ?_
  refine .sq ?_
  refine .rg (u (mv (.t rfl)) <| u (lnm sf75 (.t rfl)) <| u (mv (.i rfl)) <| .nil _) rfl ?_
  refine .bl ?_
  unfold slices_IndexFunc_Spot_l1 at h
  refine .kq (.lo (fun (s : Int) => ⟨[(0, .ro (.list 3 (List.map cells_Spot p_s))), (1, .fn (.func g_f) [] c_f), (7, .ro (.int .i64 (p_s.length : Int))), (8, .ro (.int .i64 s))], []⟩) h ?_) (.c rfl (.c rfl (.c rfl (.c rfl .n)))) .n
  intro v1 u1 h ih1 hx1
  replace h : slices_IndexFunc_Spot_s1 z p_s f v1 = _ := h
  unfold slices_IndexFunc_Spot_s1 at h
  refine .sq ?_
  refine .rg (u (bc (.t rfl) (.t rfl) rfl rfl) <| .nil _) rfl ?_
  refine .sq ?_
  refine .bq h (.t rfl) (fun h => ?_) (fun h => ?_)
  · refine .skp ?_
    refine .sq ?_
    refine .bl ?_
    refine .sq ?_
    refine .rg (u (mv (.t rfl)) <| u (asg (.t rfl)) <| .nil _) rfl ?_
    refine .sq ?_
    refine be h fun x2 hx2 h => ?_
    refine be h fun x3 hx3 h => ?_
    refine .rg (u (mv (.t rfl)) <| u (mv (.t rfl)) <| u (mv (.t rfl)) <| u (ia sf75 (.t rfl) (.t rfl) (ix_map cells_Spot hx2)) <| u (lr tf79 (.t rfl) rfl) <| clv [] hF_f (.t rfl) (h_f _ _ hx3) (.c (.t rfl) <| .n) (.inl rfl) <| .nil _) rfl ?_
    refine .bq h (.t rfl) (fun h => ?_) (fun h => ?_)
    · refine .sq ?_
      refine .rg (u (mv (.t rfl)) <| u (asg (.t rfl)) <| .nil _) rfl ?_
      replace h := mpR h hx1
      obtain rfl := Option.some.inj h
      exact .rt Tryz.func146 (.t rfl <| .n) .n rfl rfl
    · refine .skp ?_
      refine .ib ?_
      refine .rg (u (bi (.t rfl) (.i rfl) rfl) <| u (mv (.t rfl)) <| .nil _) rfl ?_
      exact .kq (.il (ih1 (ar .add .i64 v1 1) (nxi h))) (.c rfl (.c rfl (.c rfl (.c rfl .n)))) .n
  · refine .xt rfl ?_
    replace h := mpR h hx1
    refine .sq ?_
    refine .rg (u (asg (.i rfl)) <| .nil _) rfl ?_
    obtain rfl := Option.some.inj h
    exact .rt Tryz.func146 (.t rfl <| .n) .n rfl rfl

theorem slices_ContainsFunc_Spot_c {z : Option Nat} {p_s : List Spot} {f : (Spot → Option Bool)} {g_f : FuncId} {c_f : List V} (hF_f : CF Tryz.prog g_f) (h_f : ∀ (a0 : Spot) (q : Bool), f a0 = some q → AC Tryz.prog g_f ([.ro (enc_Spot a0)] ++ c_f) (.ro (.bool q)) []) {r : Bool} (h : slices_ContainsFunc_Spot z p_s f = some r) :
    AC Tryz.prog 131 [.ro (.list 3 (List.map cells_Spot p_s)), .fn (.func g_f) [] c_f] (.ro (.bool r)) [] := by
  refine AC.of Tryz.func131 rfl rfl fun w M0 hM => ?_
  unfold slices_ContainsFunc_Spot at h
  refine .sq ?_
  refine .rg (u (asg .b) <| .nil _) rfl ?_
  refine .sq ?_
  refine be h fun x1 hx1 h => ?_
  refine .rg (u (mv (.t rfl)) <| u (mv (.t rfl)) <| cl [] cf146 (slices_IndexFunc_Spot_c hF_f h_f hx1) (.c (.t rfl) <| .c (.t rfl) <| .n) (.inl rfl) <| u (bc (.t rfl) (.i rfl) rfl rfl) <| u (asg (.t rfl)) <| .nil _) rfl ?_
  obtain rfl := Option.some.inj h
  exact .rt Tryz.func131 (.t rfl <| .n) .n rfl rfl

theorem I_elem_walker_next_c {w : I_elem_walker} {a0 : List Int} {a1 : Int} {r : Spot × Bool} (h : I_elem_walker_next w a0 a1 = some r) : MC Tryz.prog "crossbar/elem.next" (enc_I_elem_walker w) [.ro (.list 1 (List.map e8 a0)), .ro (.int .i64 a1)] (.tup [enc_Spot r.1, .bool r.2]) := by
  cases w
  · cases h
  · exact ⟨_, _, _, rfl, cm197_174, elem_low_next_c h⟩
  · exact ⟨_, _, _, rfl, cm198_175, elem_high_next_c h⟩

theorem elem_Spots_c {z : Option Nat} {profile : Int} {data : List Int} {r : List Spot × Int} (h : elem_Spots z profile data = some r) :
    AC Tryz.prog 91 [.ro (.int .u16 profile), .ro (.list 1 (List.map e8 data))] (.tup [.own 0, .ro (.int .i64 r.2)]) [(0, .arr 79 3 (List.map cells_Spot r.1))] := by
  refine AC.of Tryz.func91 rfl rfl fun w M0 hM => ?_
  unfold elem_Spots at h
  refine .sq ?_
  refine .rg (anm cells_Spot 4 79 3 rfl rfl <| u (asg (.i rfl)) <| .nil _) rfl ?_
  refine .sq ?_
  refine .rg (u (mv (.t rfl)) <| cl [] cf130 (elem_walk_c profile) (.c (.t rfl) <| .n) (.inl rfl) <| u (asg (.t rfl)) <| .nil _) rfl ?_
  refine .sq ?_
  refine .sq ?_
  refine .rg (u (mv (.t rfl)) <| u (ifn if180 (.t rfl) (nil_I_elem_walker _) rfl rfl) <| .nil _) rfl ?_
  refine .bq h (.t rfl) (fun h => ?_) (fun h => ?_)
  · refine .sq ?_
    refine .rg (anm cells_Spot 100004 79 3 rfl rfl <| u (asg (.i rfl)) <| .nil _) rfl ?_
    obtain rfl := Option.some.inj h
    refine .ks (l := [(4, .own 0), (5, .ro (.int .i64 6))]) (o := [(0, some (.arr 79 3 (List.map cells_Spot [])))]) (fun i => bif Nat.beq i 0 then 100004 else i) ?_ (.c rfl (.c rfl .n)) (.c rfl .n) rfl
    exact .rt Tryz.func91 (.t rfl <| .t rfl <| .n) (.c rfl .n) rfl rfl
  · refine .skp ?_
    refine .sq ?_
    refine .rg (anm cells_Spot 7 79 3 rfl rfl <| .nil _) rfl ?_
    refine .sq ?_
    refine .sq ?_
    refine .rg (u (asg (.i rfl)) <| .nil _) rfl ?_
    refine .jq (t := some r) (fun (a : List Spot) => ⟨[(7, .own 7)], [(7, some (.arr 79 3 (List.map cells_Spot a)))]⟩) (fun (a : List Spot) => elem_Spots_j1 z a) ?_ (fun J1 => ?_)
    · intro v1 h
      replace h : elem_Spots_j1 z v1 = _ := h
      unfold elem_Spots_j1 at h
      refine .sq ?_
      refine .rg (u (mv (.t rfl)) <| u (asg (.t rfl)) <| u (asg (.i rfl)) <| .nil _) rfl ?_
      obtain rfl := Option.some.inj h
      refine .ks (l := [(4, .own 0), (5, .ro (.int .i64 0))]) (o := [(0, some (.arr 79 3 (List.map cells_Spot v1)))]) (fun i => bif Nat.beq i 0 then 7 else i) ?_ (.c rfl (.c rfl .n)) (.c rfl .n) rfl
      exact .rt Tryz.func91 (.t rfl <| .t rfl <| .n) (.c rfl .n) rfl rfl
    refine .bl ?_
    unfold elem_Spots_l2 at h
    refine .kq (.lo (fun (s : List Spot × Int) => ⟨[(1, .ro (.list 1 (List.map e8 data))), (6, .ro (enc_I_elem_walker (elem_walk profile))), (7, .own 7), (8, .ro (.int .i64 s.2))], [(7, some (.arr 79 3 (List.map cells_Spot s.1)))]⟩) h ?_) (.c rfl (.c rfl (.c rfl (.c rfl .n)))) (.c rfl .n)
    rintro ⟨v2, v3⟩ u2 h ih2 hx2
    replace h : elem_Spots_s2 z profile data v2 v3 = _ := h
    unfold elem_Spots_s2 at h
    refine .sq ?_
    refine .sq ?_
    refine .rg (u (mv (.t rfl)) <| u (mv (.t rfl)) <| u (lnm sf29 (.t rfl)) <| u (bc (.t rfl) (.t rfl) rfl rfl) <| .nil _) rfl ?_
    refine .bq h (.t rfl) (fun h => ?_) (fun h => ?_)
    · refine .skp ?_
      refine .bl ?_
      refine .sq ?_
      refine .sq ?_
      refine be h fun x4 hx4 h => ?_
      refine .rg (u (mv (.t rfl)) <| u (mv (.t rfl)) <| u (ia sf29 (.t rfl) (.t rfl) (ix_map e8 hx4)) <| u (lr tf5 (.t rfl) rfl) <| u (bc (.t rfl) (.i rfl) rfl rfl) <| .nil _) rfl ?_
      refine .bq h (.t rfl) (fun h => ?_) (fun h => ?_)
      · refine .sq ?_
        refine .rg (u (mv (.t rfl)) <| u (bi (.t rfl) (.i rfl) rfl) <| u (asg (.t rfl)) <| .nil _) rfl ?_
        refine .xt rfl ?_
        exact .kq (.il (ih2 (v2, (ar .add .i64 v3 1)) (nxi h))) (.c rfl (.c rfl (.c rfl (.c rfl .n)))) (.c rfl .n)
      · refine .skp ?_
        refine .sq ?_
        refine be h fun x5 hx5 h => ?_
        refine .rg (u (mv (.t rfl)) <| u (mv (.t rfl)) <| u (mv (.t rfl)) <| cms [] (.t rfl) (I_elem_walker_next_c hx5) (.c (.t rfl) <| .c (.t rfl) <| .n) (.inl rfl) <| u (mv (.t rfl)) <| u (ex (.t rfl) rfl rfl) <| u (ex (.t rfl) rfl rfl) <| al 9 zf79 rfl <| st tf79 (.t rfl) rfl (.t rfl) rfl rfl rfl <| u (asg (.t rfl)) <| .nil _) rfl ?_
        refine .fb 9 rfl rfl ?_
        refine .sq ?_
        refine .sq ?_
        refine .rg (u (mv (.t rfl)) <| u (no (.t rfl)) <| .nil _) rfl ?_
        refine .bq h (.t rfl) (fun h => ?_) (fun h => ?_)
        · refine .xt rfl ?_
          replace h := mpR h hx2
          exact .kq (J1 v2 h) (.c rfl .n) (.c rfl .n)
        · refine .skp ?_
          refine .sq ?_
          refine .sq ?_
          refine .rg (u (fr ff79_1 (.t rfl) rfl) <| u (lr tf3 (.t rfl) rfl) <| u (mv (.t rfl)) <| u (lnm sf29 (.t rfl)) <| u (bc (.t rfl) (.t rfl) rfl rfl) <| u (mv (.t rfl)) <| gd rfl rfl (fun hB => fr ff79_2 (.t rfl) rfl) <| gd rfl rfl (fun hB => lr tf3 (.m rfl hB) rfl) <| gd rfl rfl (fun hB => mv (.t rfl)) <| gd rfl rfl (fun hB => lnm sf29 (.m rfl hB)) <| gd rfl rfl (fun hB => fr ff79_1 (.t rfl) rfl) <| gd rfl rfl (fun hB => lr tf3 (.m rfl hB) rfl) <| gd rfl rfl (fun hB => bi (.m rfl hB) (.m rfl hB) rfl) <| gd rfl rfl (fun hB => bc (.m rfl hB) (.m rfl hB) rfl rfl) <| u (pko (.t rfl) (.t rfl)) <| .nil _) rfl ?_
          refine .bq h (.t rfl) (fun h => ?_) (fun h => ?_)
          · refine .sq ?_
            refine .rg (anm cells_Spot 4 79 3 rfl rfl <| u (asg (.i rfl)) <| .nil _) rfl ?_
            replace h := mpR h hx2
            obtain rfl := Option.some.inj h
            refine .ks (l := [(4, .own 0), (5, .ro (.int .i64 4))]) (o := [(0, some (.arr 79 3 (List.map cells_Spot [])))]) (fun i => bif Nat.beq i 0 then 4 else i) ?_ (.c rfl (.c rfl .n)) (.c rfl .n) rfl
            exact .rt Tryz.func91 (.t rfl <| .t rfl <| .n) (.c rfl .n) rfl rfl
          · refine .skp ?_
            refine .sq ?_
            refine .sq ?_
            refine be h fun x6 hx6 h => ?_
            refine .rg (u (mv (.t rfl)) <| u (mfn (.c (.t rfl) <| .n)) <| cl [] cf131 (slices_ContainsFunc_Spot_c cf132 (fun y0 q h => by obtain rfl := Option.some.inj h; exact elem_Spots_1_c y0 x5.1) hx6) (.b (.t rfl) rfl <| .c (.t rfl) <| .n) (.inr rfl) <| .nil _) rfl ?_
            refine .bq h (.t rfl) (fun h => ?_) (fun h => ?_)
            · refine .sq ?_
              refine .rg (anm cells_Spot 4 79 3 rfl rfl <| u (asg (.i rfl)) <| .nil _) rfl ?_
              replace h := mpR h hx2
              obtain rfl := Option.some.inj h
              refine .ks (l := [(4, .own 0), (5, .ro (.int .i64 6))]) (o := [(0, some (.arr 79 3 (List.map cells_Spot [])))]) (fun i => bif Nat.beq i 0 then 4 else i) ?_ (.c rfl (.c rfl .n)) (.c rfl .n) rfl
              exact .rt Tryz.func91 (.t rfl <| .t rfl <| .n) (.c rfl .n) rfl rfl
            · refine .skp ?_
              refine be h fun x7 hx7 h => ?_
              refine .rd mixed (u (mv (.t rfl)) <| u (lr tf79 (.t rfl) rfl) <| bs (F := cells_Spot) (l := [x5.1]) 55 pf75 (.c (.t rfl) rfl <| .n) rfl (fun _ _ => rfl) rfl rfl <| apo 56 pf75 (.t rfl) rfl (.t rfl) rfl hx7 rfl <| u (fr ff79_1 (.t rfl) rfl) <| u (lr tf3 (.t rfl) rfl) <| u (fr ff79_2 (.t rfl) rfl) <| u (lr tf3 (.t rfl) rfl) <| u (bi (.t rfl) (.t rfl) rfl) <| u (asg (.t rfl)) <| u (asg (.t rfl)) <| .nil _) (by kernel_rfl) rfl ?_
              refine .ib ?_
              exact .ks (fun i => bif Nat.beq i 7 then 56 else i) (.il (ih2 (x7, (ar .add .i64 x5.1.at_ x5.1.size)) (nxi h))) (.c rfl (.c rfl (.c rfl (.c rfl .n)))) (.c rfl .n) rfl
    · refine .xt rfl ?_
      replace h := mpR h hx2
      exact .kq (J1 v2 h) (.c rfl .n) (.c rfl .n)

theorem elem_Spots_r {z : Option Nat} {profile : Int} {data : List Int} {r : List Spot × Int} (h : elem_Spots z profile data = some r) :
    AC Tryz.prog 91 [.ro (.int .u16 profile), .ro (.list 1 (List.map e8 data))] (.ro (.tup [.list 3 (List.map cells_Spot r.1), .int .i64 r.2])) [] := AC.fz (elem_Spots_c h) rfl

theorem elem_Read_c {z : Option Nat} {profile : Int} {data : List Int} {r : List Elem × Int} (h : elem_Read z profile data = some r) :
    AC Tryz.prog 137 [.ro (.int .u16 profile), .ro (.list 1 (List.map e8 data))] (.tup [.own 0, .ro (.int .i64 r.2)]) [(0, .arr 66 2 (List.map cells_Elem r.1))] := by
  refine AC.of Tryz.func137 rfl rfl fun w M0 hM => ?_
  unfold elem_Read at h
  refine .sq ?_
  refine .rg (anm cells_Elem 4 66 2 rfl rfl <| u (asg (.i rfl)) <| .nil _) rfl ?_
  refine .sq ?_
  refine be h fun x1 hx1 h => ?_
  refine .rg (u (mv (.t rfl)) <| u (mv (.t rfl)) <| cnf 15000 cf91 (elem_Spots_c hx1) (.c (.t rfl) <| .c (.t rfl) <| .n) rfl rfl rfl <| u (mv (.t rfl)) <| u (ex (.t rfl) rfl rfl) <| u (ex (.t rfl) rfl rfl) <| u (asg (.t rfl)) <| u (asg (.t rfl)) <| .nil _) rfl ?_
  refine .sq ?_
  refine .sq ?_
  refine .rg (u (mv (.t rfl)) <| u (bc (.t rfl) (.i rfl) rfl rfl) <| .nil _) rfl ?_
  refine .bq h (.t rfl) (fun h => ?_) (fun h => ?_)
  · refine .sq ?_
    refine .rg (u (mv (.t rfl)) <| anm cells_Elem 100004 66 2 rfl rfl <| u (asg (.t rfl)) <| .nil _) rfl ?_
    obtain rfl := Option.some.inj h
    refine .ks (l := [(4, .own 0), (5, .ro (.int .i64 x1.2))]) (o := [(0, some (.arr 66 2 (List.map cells_Elem [])))]) (fun i => bif Nat.beq i 0 then 100004 else i) ?_ (.c rfl (.c rfl .n)) (.c rfl .n) rfl
    exact .rt Tryz.func137 (.t rfl <| .t rfl <| .n) (.c rfl .n) rfl rfl
  · refine .skp ?_
    refine .sq ?_
    refine .rg (anm cells_Elem 8 66 2 rfl rfl <| .nil _) rfl ?_
    refine .sq ?_
    refine .sq ?_
    refine .rg (u (mv (.t rfl)) <| u (lom sf75 (.t rfl) rfl) <| u (mv (.i rfl)) <| .nil _) rfl ?_
    refine .bl ?_
    unfold elem_Read_l1 at h
    refine .kq (.lo (fun (s : List Elem × Int) => ⟨[(1, .ro (.list 1 (List.map e8 data))), (8, .own 8), (20, .own 15000), (21, .ro (.int .i64 (x1.1.length : Int))), (22, .ro (.int .i64 s.2))], [(8, some (.arr 66 2 (List.map cells_Elem s.1))), (15000, some (.arr 79 3 (List.map cells_Spot x1.1)))]⟩) h ?_) (.c rfl (.c rfl (.c rfl (.c rfl (.c rfl .n))))) (.c rfl (.c rfl .n))
    rintro ⟨v2, v3⟩ u1 h ih1 hx1
    replace h : elem_Read_s1 z data x1 v2 v3 = _ := h
    unfold elem_Read_s1 at h
    refine .sq ?_
    refine .rg (u (bc (.t rfl) (.t rfl) rfl rfl) <| .nil _) rfl ?_
    refine .sq ?_
    refine .bq h (.t rfl) (fun h => ?_) (fun h => ?_)
    · refine .skp ?_
      refine .sq ?_
      refine .bl ?_
      refine .sq ?_
      refine be h fun x4 hx4 h => ?_
      refine .rg (u (io sf75 (.t rfl) rfl (.t rfl) (ix_map cells_Spot hx4)) <| u (le tf79 (.t rfl) rfl (ix_lt (ix_map _ hx4)).2.2 rfl) <| al 10 zf79 rfl <| st tf79 (.t rfl) rfl (.t rfl) rfl rfl rfl <| .nil _) rfl ?_
      refine be h fun x5 hx5 h => ?_
      refine be h fun x6 hx6 h => ?_
      refine be h fun x7 hx7 h => ?_
      refine .rd mixed (u (mv (.t rfl)) <| u (fa ff79_0 (.t rfl)) <| u (ld tf3 (.t rfl) rfl rfl) <| u (mv (.t rfl)) <| u (fa ff79_1 (.t rfl)) <| u (ld tf3 (.t rfl) rfl rfl) <| u (fa ff79_1 (.t rfl)) <| u (ld tf3 (.t rfl) rfl rfl) <| u (fa ff79_2 (.t rfl)) <| u (ld tf3 (.t rfl) rfl rfl) <| u (bi (.t rfl) (.t rfl) rfl) <| u (sl sf29 (.t rfl) (.s (.t rfl)) (.s (.t rfl)) hx5) <| cl [] cf28 (slices_Clone_r hx6) (.c (.t rfl) <| .n) (.inl rfl) <| u (bd bf66 zf66 (.c rfl (.t rfl) rfl rfl rfl <| .c rfl (.t rfl) rfl rfl rfl <| .n) rfl) <| bs (F := cells_Elem) (l := [(Elem.mk x4.id_ x6)]) 40 pf25 (.c (.t rfl) rfl <| .n) rfl (fun _ _ => rfl) rfl rfl <| apo 41 pf25 (.t rfl) rfl (.t rfl) rfl hx7 rfl <| u (asg (.t rfl)) <| .nil _) (by kernel_rfl) rfl ?_
      refine .ib ?_
      refine .rg (u (bi (.t rfl) (.i rfl) rfl) <| u (mv (.t rfl)) <| .nil _) rfl ?_
      exact .ks (fun i => bif Nat.beq i 8 then 41 else i) (.il (ih1 (x7, (ar .add .i64 v3 1)) (nxi h))) (.c rfl (.c rfl (.c rfl (.c rfl (.c rfl .n))))) (.c rfl (.c rfl .n)) rfl
    · refine .xt rfl ?_
      replace h := mpR h hx1
      refine .sq ?_
      refine .rg (u (mv (.t rfl)) <| u (asg (.t rfl)) <| u (asg (.i rfl)) <| .nil _) rfl ?_
      obtain rfl := Option.some.inj h
      refine .ks (l := [(4, .own 0), (5, .ro (.int .i64 0))]) (o := [(0, some (.arr 66 2 (List.map cells_Elem v2)))]) (fun i => bif Nat.beq i 0 then 8 else i) ?_ (.c rfl (.c rfl .n)) (.c rfl .n) rfl
      exact .rt Tryz.func137 (.t rfl <| .t rfl <| .n) (.c rfl .n) rfl rfl

theorem elem_Read_r {z : Option Nat} {profile : Int} {data : List Int} {r : List Elem × Int} (h : elem_Read z profile data = some r) :
    AC Tryz.prog 137 [.ro (.int .u16 profile), .ro (.list 1 (List.map e8 data))] (.ro (.tup [.list 2 (List.map cells_Elem r.1), .int .i64 r.2])) [] := AC.fz (elem_Read_c h) rfl

theorem plan_elements_c {z : Option Nat} {k : Packet} {r : List Elem × Bool} (h : plan_elements z k = some r) :
    AC Tryz.prog 122 [.ro (enc_Packet k)] (.tup [.own 0, .ro (.bool r.2)]) [(0, .arr 66 2 (List.map cells_Elem r.1))] := by
  refine AC.of Tryz.func122 rfl rfl fun w M0 hM => ?_
  unfold plan_elements at h
  refine .sq ?_
  refine .rg (bx 1 (.t rfl) rfl rfl <| anm cells_Elem 2 66 2 rfl rfl <| u (asg .b) <| .nil _) rfl ?_
  refine .sq ?_
  refine .sq ?_
  refine .rg (u (fa ff50_0 (.t rfl)) <| u (fa ff48_1 (.t rfl)) <| u (ld tf4 (.t rfl) rfl rfl) <| u (no (.t rfl)) <| .nil _) rfl ?_
  refine .bq h (.t rfl) (fun h => ?_) (fun h => ?_)
  · refine .sq ?_
    refine .rg (anm cells_Elem 100002 66 2 rfl rfl <| u (asg .b) <| .nil _) rfl ?_
    obtain rfl := Option.some.inj h
    refine .ks (l := [(2, .own 0), (3, .ro (.bool true))]) (o := [(0, some (.arr 66 2 (List.map cells_Elem [])))]) (fun i => bif Nat.beq i 0 then 100002 else i) ?_ (.c rfl (.c rfl .n)) (.c rfl .n) rfl
    exact .rt Tryz.func122 (.t rfl <| .t rfl <| .n) (.c rfl .n) rfl rfl
  · refine .skp ?_
    refine .sq ?_
    refine be h fun x1 hx1 h => ?_
    refine .rg (u (fa ff50_1 (.t rfl)) <| u (ld tf22 (.t rfl) rfl rfl) <| u (fa ff50_2 (.t rfl)) <| u (ld tf29 (.t rfl) rfl rfl) <| cnf 16000 cf137 (elem_Read_c hx1) (.c (.t rfl) <| .c (.t rfl) <| .n) rfl rfl rfl <| u (mv (.t rfl)) <| u (ex (.t rfl) rfl rfl) <| u (ex (.t rfl) rfl rfl) <| u (asg (.t rfl)) <| u (asg (.t rfl)) <| .nil _) rfl ?_
    refine .sq ?_
    refine .rg (u (mv (.t rfl)) <| u (mv (.t rfl)) <| u (bc (.t rfl) (.i rfl) rfl rfl) <| u (asg (.t rfl)) <| u (asg (.t rfl)) <| .nil _) rfl ?_
    obtain rfl := Option.some.inj h
    refine .ks (l := [(2, .own 0), (3, .ro (.bool (cm .eql x1.2 0)))]) (o := [(0, some (.arr 66 2 (List.map cells_Elem x1.1)))]) (fun i => bif Nat.beq i 0 then 16000 else i) ?_ (.c rfl (.c rfl .n)) (.c rfl .n) rfl
    exact .rt Tryz.func122 (.t rfl <| .t rfl <| .n) (.c rfl .n) rfl rfl

theorem plan_elements_r {z : Option Nat} {k : Packet} {r : List Elem × Bool} (h : plan_elements z k = some r) :
    AC Tryz.prog 122 [.ro (enc_Packet k)] (.ro (.tup [.list 2 (List.map cells_Elem r.1), .bool r.2])) [] := AC.fz (plan_elements_c h) rfl

theorem slices_Grow_c {n : Int} (hn : growL n = some ()) : AC Tryz.prog 147 [.ro (.raw (.slice none 0 0)), .ro (.int .i64 n)] (.own 0) [(0, .arr 3 1 (([] : List Int).map (ei .i64)))] := by
  obtain ⟨i, z, hi, hz, hsz, hzs, hpos, hby⟩ := pf26.i
  refine AC.grow (fun n w h1 h2 => ?_) (fun w => slices_Grow_nil w) hn
  refine (slices_Grow_new n w h1 h2 i z hi hz (by omega) hby).mono fun e w' hp => ?_
  obtain ⟨rfl, rfl⟩ := hp
  have hG : n ≤ grownCap w n 0 3 := grownCap_ge w _ _ _
  refine ⟨_, _, rfl, ?_, grownCap_le_maxLen w n 0 3 (by unfold maxLen; omega), rfl⟩
  simp only [Array.size_append, size_zeroCells, hzs]
  have h0 : (#[] : Array Value).size = 0 := rfl
  omega

theorem slices_Concat_int_c {z : Option Nat} {slices : List (List Int)} {r : List Int} (h : slices_Concat_int z slices = some r) :
    AC Tryz.prog 138 [.ro (.list 1 (List.map (el 1 (ei .i64)) slices))] (.own 0) [(0, .arr 3 1 (List.map (ei .i64) r))] := by
  refine AC.of Tryz.func138 rfl rfl fun w M0 hM => ?_
  unfold slices_Concat_int at h
  refine .sq ?_
  refine .rg (anm (ei .i64) 2 3 1 rfl rfl <| .nil _) rfl ?_
  refine .sq ?_
  refine .rg (u (asg (.i rfl)) <| .nil _) rfl ?_
  refine .sq ?_
  refine .sq ?_
  refine .rg (u (mv (.t rfl)) <| u (lnm sf200 (.t rfl)) <| u (mv (.i rfl)) <| .nil _) rfl ?_
  refine .bl ?_
  unfold slices_Concat_int_l1 at h
  refine .kq (.lo (fun (s : Int × Int) => ⟨[(0, .ro (.list 1 (List.map (el 1 (ei .i64)) slices))), (3, .ro (.int .i64 s.1)), (9, .ro (.list 1 (List.map (el 1 (ei .i64)) slices))), (10, .ro (.int .i64 (slices.length : Int))), (11, .ro (.int .i64 s.2))], []⟩) h ?_) (.c rfl (.c rfl (.c rfl (.c rfl (.c rfl .n))))) .n
  rintro ⟨v1, v2⟩ u1 h ih1 hx1
  replace h : slices_Concat_int_s1 z slices v1 v2 = _ := h
  unfold slices_Concat_int_s1 at h
  refine .sq ?_
  refine .rg (u (bc (.t rfl) (.t rfl) rfl rfl) <| .nil _) rfl ?_
  refine .sq ?_
  refine .bq h (.t rfl) (fun h => ?_) (fun h => ?_)
  · refine .skp ?_
    refine .sq ?_
    refine .bl ?_
    refine .sq ?_
    refine be h fun x3 hx3 h => ?_
    refine .rg (u (ia sf200 (.t rfl) (.t rfl) (ix_map (el 1 (ei .i64)) hx3)) <| u (lr tf26 (.t rfl) rfl) <| u (asg (.t rfl)) <| .nil _) rfl ?_
    refine .sq ?_
    refine .rg (u (mv (.t rfl)) <| u (mv (.t rfl)) <| u (lnm sf26 (.t rfl)) <| u (bi (.t rfl) (.t rfl) rfl) <| u (asg (.t rfl)) <| .nil _) rfl ?_
    refine .sq ?_
    refine .rg (u (mv (.t rfl)) <| u (bc (.t rfl) (.i rfl) rfl rfl) <| .nil _) rfl ?_
    refine .jq (t := some u1) (fun (a : Unit) => ⟨[(0, .ro (.list 1 (List.map (el 1 (ei .i64)) slices))), (3, .ro (.int .i64 (ar .add .i64 v1 (x3.length : Int)))), (9, .ro (.list 1 (List.map (el 1 (ei .i64)) slices))), (10, .ro (.int .i64 (slices.length : Int))), (11, .ro (.int .i64 v2))], []⟩) (fun (a : Unit) => slices_Concat_int_j2 z v1 v2 x3) ?_ (fun J2 => ?_)
    · intro _ h
      replace h : slices_Concat_int_j2 z v1 v2 x3 = _ := h
      unfold slices_Concat_int_j2 at h
      refine .ib ?_
      refine .rg (u (bi (.t rfl) (.i rfl) rfl) <| u (mv (.t rfl)) <| .nil _) rfl ?_
      exact .kq (.il (ih1 ((ar .add .i64 v1 (x3.length : Int)), (ar .add .i64 v2 1)) (nxi h))) (.c rfl (.c rfl (.c rfl (.c rfl (.c rfl .n))))) .n
    refine .bq h (.t rfl) (fun h => ?_) (fun h => ?_)
    · cases h
    · refine .skp ?_
      exact .kq (J2 () h) (.c rfl (.c rfl (.c rfl (.c rfl (.c rfl .n))))) .n
  · refine .xt rfl ?_
    replace h := mpR h hx1
    refine .sq ?_
    refine be h fun x4 hx4 h => ?_
    refine .rg (u (mv (.t rfl)) <| cnl 24 cf147 (slices_Grow_c hx4) (.c (.r rfl) <| .c (.t rfl) <| .n) rfl <| u (asg (.t rfl)) <| .nil _) rfl ?_
    refine .sq ?_
    refine .sq ?_
    refine .rg (u (mv (.t rfl)) <| u (lnm sf200 (.t rfl)) <| u (mv (.i rfl)) <| .nil _) rfl ?_
    refine .bl ?_
    unfold slices_Concat_int_l3 at h
    refine .ks (fun i => bif Nat.beq i 6 then 24 else i) (.lo (fun (s : List Int × Int) => ⟨[(6, .own 6), (25, .ro (.list 1 (List.map (el 1 (ei .i64)) slices))), (26, .ro (.int .i64 (slices.length : Int))), (27, .ro (.int .i64 s.2))], [(6, some (.arr 3 1 (List.map (ei .i64) s.1)))]⟩) h ?_) (.c rfl (.c rfl (.c rfl (.c rfl .n)))) (.c rfl .n) rfl
    rintro ⟨v5, v6⟩ u3 h ih3 hx3
    replace h : slices_Concat_int_s3 z slices v5 v6 = _ := h
    unfold slices_Concat_int_s3 at h
    refine .sq ?_
    refine .rg (u (bc (.t rfl) (.t rfl) rfl rfl) <| .nil _) rfl ?_
    refine .sq ?_
    refine .bq h (.t rfl) (fun h => ?_) (fun h => ?_)
    · refine .skp ?_
      refine .sq ?_
      refine .bl ?_
      refine .sq ?_
      refine be h fun x7 hx7 h => ?_
      refine .rg (u (ia sf200 (.t rfl) (.t rfl) (ix_map (el 1 (ei .i64)) hx7)) <| u (lr tf26 (.t rfl) rfl) <| u (asg (.t rfl)) <| .nil _) rfl ?_
      refine be h fun x8 hx8 h => ?_
      refine .rg (u (mv (.t rfl)) <| u (mv (.t rfl)) <| ap 33 pf26 (.t rfl) rfl (.t rfl) hx8 rfl <| u (asg (.t rfl)) <| .nil _) rfl ?_
      refine .ib ?_
      refine .rg (u (bi (.t rfl) (.i rfl) rfl) <| u (mv (.t rfl)) <| .nil _) rfl ?_
      exact .ks (fun i => bif Nat.beq i 6 then 33 else i) (.il (ih3 (x8, (ar .add .i64 v6 1)) (nxi h))) (.c rfl (.c rfl (.c rfl (.c rfl .n)))) (.c rfl .n) rfl
    · refine .xt rfl ?_
      replace h := mpR h hx3
      refine .sq ?_
      refine .rg (u (mv (.t rfl)) <| u (asg (.t rfl)) <| .nil _) rfl ?_
      obtain rfl := Option.some.inj h
      refine .ks (l := [(2, .own 0)]) (o := [(0, some (.arr 3 1 (List.map (ei .i64) v5)))]) (fun i => bif Nat.beq i 0 then 6 else i) ?_ (.c rfl .n) (.c rfl .n) rfl
      exact .rt Tryz.func138 (.t rfl <| .n) (.c rfl .n) rfl rfl

theorem slices_Concat_int_r {z : Option Nat} {slices : List (List Int)} {r : List Int} (h : slices_Concat_int z slices = some r) :
    AC Tryz.prog 138 [.ro (.list 1 (List.map (el 1 (ei .i64)) slices))] (.ro (.list 1 (List.map (ei .i64) r))) [] := AC.fz (slices_Concat_int_c h) rfl

theorem plan_known_c {z : Option Nat} {p : Plan} {l : List Elem} {r : Bool} (h : plan_known z p l = some r) :
    AC Tryz.prog 123 [.ro (enc_Plan p), .ro (.list 2 (List.map cells_Elem l))] (.ro (.bool r)) [] := by
  refine AC.of Tryz.func123 rfl rfl fun w M0 hM => ?_
  unfold plan_known at h
  refine .sq ?_
  refine .rg (bx 2 (.t rfl) rfl rfl <| u (asg .b) <| .nil _) rfl ?_
  refine .sq ?_
  refine be h fun x1 hx1 h => ?_
  refine .rg (u (mv (.t rfl)) <| cnf 10000 cf117 (plan_ids_Elem_f0_c hx1) (.c (.t rfl) <| .c .f <| .n) rfl rfl rfl <| u (asg (.t rfl)) <| .nil _) rfl ?_
  refine .sq ?_
  refine .sq ?_
  refine be h fun x2 hx2 h => ?_
  refine be h fun x3 hx3 h => ?_
  refine be h fun x4 hx4 h => ?_
  refine .rd mixed (u (fa ff28_10 (.t rfl)) <| u (ld tf24 (.t rfl) rfl rfl) <| cl [] cf113 (plan_ids_Map_f0_r hx2) (.c (.t rfl) <| .c .f <| .n) (.inl rfl) <| u (fa ff28_11 (.t rfl)) <| u (ld tf25 (.t rfl) rfl rfl) <| cl [] cf117 (plan_ids_Elem_f0_r hx3) (.c (.t rfl) <| .c .f <| .n) (.inl rfl) <| u (fa ff28_12 (.t rfl)) <| u (ld tf26 (.t rfl) rfl rfl) <| nu (bsn (F := (el 1 (ei .i64))) (l := [x2, x3, p.drops]) pf200 (.c (.t rfl) rfl <| .c (.t rfl) rfl <| .c (.t rfl) rfl <| .n) rfl (fun _ _ => rfl) rfl) <| cnf 20000 cf138 (slices_Concat_int_c hx4) (.c (.t rfl) <| .n) rfl rfl rfl <| u (lom sf26 (.t rfl) rfl) <| u (mv (.i rfl)) <| .nil _) (by kernel_rfl) rfl ?_
  refine .bl ?_
  unfold plan_known_l1 at h
  refine .kq (.lo (fun (s : Int) => ⟨[(5, .own 10000), (19, .own 20000), (20, .ro (.int .i64 (x4.length : Int))), (21, .ro (.int .i64 s))], [(10000, some (.arr 3 1 (List.map (ei .i64) x1))), (20000, some (.arr 3 1 (List.map (ei .i64) x4)))]⟩) h ?_) (.c rfl (.c rfl (.c rfl (.c rfl .n)))) (.c rfl (.c rfl .n))
  intro v5 u1 h ih1 hx1
  replace h : plan_known_s1 z x1 x4 v5 = _ := h
  unfold plan_known_s1 at h
  refine .sq ?_
  refine .rg (u (bc (.t rfl) (.t rfl) rfl rfl) <| .nil _) rfl ?_
  refine .sq ?_
  refine .bq h (.t rfl) (fun h => ?_) (fun h => ?_)
  · refine .skp ?_
    refine .sq ?_
    refine .bl ?_
    refine .sq ?_
    refine be h fun x6 hx6 h => ?_
    refine .rg (u (io sf26 (.t rfl) rfl (.t rfl) (ix_map (ei .i64) hx6)) <| u (le tf3 (.t rfl) rfl (ix_lt (ix_map _ hx6)).2.2 rfl) <| u (asg (.t rfl)) <| .nil _) rfl ?_
    refine .sq ?_
    refine be h fun x7 hx7 h => ?_
    refine .rg (u (mv (.t rfl)) <| u (mv (.t rfl)) <| cl [] cf121 (slices_Contains_c hx7) (.b (.t rfl) rfl <| .c (.t rfl) <| .n) (.inr rfl) <| u (no (.t rfl)) <| .nil _) rfl ?_
    refine .bq h (.t rfl) (fun h => ?_) (fun h => ?_)
    · refine .sq ?_
      refine .rg (u (asg .b) <| .nil _) rfl ?_
      replace h := mpR h hx1
      obtain rfl := Option.some.inj h
      exact .rt Tryz.func123 (.t rfl <| .n) .n rfl rfl
    · refine .skp ?_
      refine .ib ?_
      refine .rg (u (bi (.t rfl) (.i rfl) rfl) <| u (mv (.t rfl)) <| .nil _) rfl ?_
      exact .kq (.il (ih1 (ar .add .i64 v5 1) (nxi h))) (.c rfl (.c rfl (.c rfl (.c rfl .n)))) (.c rfl (.c rfl .n))
  · refine .xt rfl ?_
    replace h := mpR h hx1
    refine .sq ?_
    refine .rg (u (asg .b) <| .nil _) rfl ?_
    obtain rfl := Option.some.inj h
    exact .rt Tryz.func123 (.t rfl <| .n) .n rfl rfl

theorem plan_data_c {z : Option Nat} {p : Plan} {x : Elem} {r : List Int × Bool} (h : plan_data z p x = some r) :
    AC Tryz.prog 139 [.ro (enc_Plan p), .ro (enc_Elem x)] (.ro (.tup [.list 1 (List.map e8 r.1), .bool r.2])) [] := by
  refine AC.of Tryz.func139 rfl rfl fun w M0 hM => ?_
  unfold plan_data at h
  refine .sq ?_
  refine .rg (bx 2 (.t rfl) rfl rfl <| bx 3 (.t rfl) rfl rfl <| u (asg (.n (sz := 1) (F := e8))) <| u (asg .b) <| .nil _) rfl ?_
  refine .sq ?_
  refine .sq ?_
  refine .rg (u (fa ff28_11 (.t rfl)) <| u (ld tf25 (.t rfl) rfl rfl) <| u (lnm sf25 (.t rfl)) <| u (mv (.i rfl)) <| .nil _) rfl ?_
  refine .bl ?_
  unfold plan_data_l1 at h
  refine .kq (.lo (fun (s : Int) => ⟨[(3, .ptr 3 0), (9, .ro (.list 2 (List.map cells_Elem p.over))), (10, .ro (.int .i64 (p.over.length : Int))), (11, .ro (.int .i64 s))], [(3, some (.box [.ro (.int .i64 x.id_), .ro (.list 1 (List.map e8 x.data))]))]⟩) h ?_) (.c rfl (.c rfl (.c rfl (.c rfl .n)))) (.c rfl .n)
  intro v1 u1 h ih1 hx1
  replace h : plan_data_s1 z p x v1 = _ := h
  unfold plan_data_s1 at h
  refine .sq ?_
  refine .rg (u (bc (.t rfl) (.t rfl) rfl rfl) <| .nil _) rfl ?_
  refine .sq ?_
  refine .bq h (.t rfl) (fun h => ?_) (fun h => ?_)
  · refine .skp ?_
    refine .sq ?_
    refine .bl ?_
    refine .sq ?_
    refine be h fun x2 hx2 h => ?_
    refine .rg (u (ia sf25 (.t rfl) (.t rfl) (ix_map cells_Elem hx2)) <| u (lr tf66 (.t rfl) rfl) <| al 7 zf66 rfl <| st tf66 (.t rfl) rfl (.t rfl) rfl rfl rfl <| .nil _) rfl ?_
    refine .sq ?_
    refine .rg (u (fa ff66_0 (.t rfl)) <| u (ld tf3 (.t rfl) rfl rfl) <| u (fa ff66_0 (.t rfl)) <| u (ld tf3 (.t rfl) rfl rfl) <| u (bc (.t rfl) (.t rfl) rfl rfl) <| .nil _) rfl ?_
    refine .bq h (.t rfl) (fun h => ?_) (fun h => ?_)
    · refine .sq ?_
      refine .rd mixed (u (fa ff66_1 (.t rfl)) <| u (ld tf29 (.t rfl) rfl rfl) <| u (fa ff66_1 (.t rfl)) <| u (ld tf29 (.t rfl) rfl rfl) <| u (lnm sf29 (.t rfl)) <| u (fa ff66_1 (.t rfl)) <| u (ld tf29 (.t rfl) rfl rfl) <| u (lnm sf29 (.t rfl)) <| u (bc (.t rfl) (.t rfl) rfl rfl) <| u (asg (.t rfl)) <| u (asg (.t rfl)) <| .nil _) (by kernel_rfl) rfl ?_
      replace h := mpR h hx1
      obtain rfl := Option.some.inj h
      exact .rt Tryz.func139 (.t rfl <| .t rfl <| .n) .n rfl rfl
    · refine .skp ?_
      refine .ib ?_
      refine .rg (u (bi (.t rfl) (.i rfl) rfl) <| u (mv (.t rfl)) <| .nil _) rfl ?_
      exact .kq (.il (ih1 (ar .add .i64 v1 1) (nxi h))) (.c rfl (.c rfl (.c rfl (.c rfl .n)))) (.c rfl .n)
  · refine .xt rfl ?_
    replace h := mpR h hx1
    refine .sq ?_
    refine .rg (u (fa ff66_1 (.t rfl)) <| u (ld tf29 (.t rfl) rfl rfl) <| u (asg (.t rfl)) <| u (asg .b) <| .nil _) rfl ?_
    obtain rfl := Option.some.inj h
    exact .rt Tryz.func139 (.t rfl <| .t rfl <| .n) .n rfl rfl

theorem plan_renamed_c {z : Option Nat} {p : Plan} {id_ : Int} {r : Int} (h : plan_renamed z p id_ = some r) :
    AC Tryz.prog 140 [.ro (enc_Plan p), .ro (.int .i64 id_)] (.ro (.int .i64 r)) [] := by
  refine AC.of Tryz.func140 rfl rfl fun w M0 hM => ?_
  unfold plan_renamed at h
  refine .sq ?_
  refine .rg (bx 2 (.t rfl) rfl rfl <| u (asg (.i rfl)) <| .nil _) rfl ?_
  refine .sq ?_
  refine .sq ?_
  refine .rg (u (fa ff28_10 (.t rfl)) <| u (ld tf24 (.t rfl) rfl rfl) <| u (lnm sf24 (.t rfl)) <| u (mv (.i rfl)) <| .nil _) rfl ?_
  refine .bl ?_
  unfold plan_renamed_l1 at h
  refine .kq (.lo (fun (s : Int) => ⟨[(1, .ro (.int .i64 id_)), (8, .ro (.list 2 (List.map cells_GMap p.maps))), (9, .ro (.int .i64 (p.maps.length : Int))), (10, .ro (.int .i64 s))], []⟩) h ?_) (.c rfl (.c rfl (.c rfl (.c rfl .n)))) .n
  intro v1 u1 h ih1 hx1
  replace h : plan_renamed_s1 z p id_ v1 = _ := h
  unfold plan_renamed_s1 at h
  refine .sq ?_
  refine .rg (u (bc (.t rfl) (.t rfl) rfl rfl) <| .nil _) rfl ?_
  refine .sq ?_
  refine .bq h (.t rfl) (fun h => ?_) (fun h => ?_)
  · refine .skp ?_
    refine .sq ?_
    refine .bl ?_
    refine .sq ?_
    refine be h fun x2 hx2 h => ?_
    refine .rg (u (ia sf24 (.t rfl) (.t rfl) (ix_map cells_GMap hx2)) <| u (lr tf64 (.t rfl) rfl) <| al 6 zf64 rfl <| st tf64 (.t rfl) rfl (.t rfl) rfl rfl rfl <| .nil _) rfl ?_
    refine .sq ?_
    refine .rg (u (fa ff64_0 (.t rfl)) <| u (ld tf3 (.t rfl) rfl rfl) <| u (mv (.t rfl)) <| u (bc (.t rfl) (.t rfl) rfl rfl) <| .nil _) rfl ?_
    refine .bq h (.t rfl) (fun h => ?_) (fun h => ?_)
    · refine .sq ?_
      refine .rg (u (fa ff64_1 (.t rfl)) <| u (ld tf3 (.t rfl) rfl rfl) <| u (asg (.t rfl)) <| .nil _) rfl ?_
      replace h := mpR h hx1
      obtain rfl := Option.some.inj h
      exact .rt Tryz.func140 (.t rfl <| .n) .n rfl rfl
    · refine .skp ?_
      refine .ib ?_
      refine .rg (u (bi (.t rfl) (.i rfl) rfl) <| u (mv (.t rfl)) <| .nil _) rfl ?_
      exact .kq (.il (ih1 (ar .add .i64 v1 1) (nxi h))) (.c rfl (.c rfl (.c rfl (.c rfl .n)))) .n
  · refine .xt rfl ?_
    replace h := mpR h hx1
    refine .sq ?_
    refine .rg (u (mv (.t rfl)) <| u (asg (.t rfl)) <| .nil _) rfl ?_
    obtain rfl := Option.some.inj h
    exact .rt Tryz.func140 (.t rfl <| .n) .n rfl rfl

theorem plan_left_c {z : Option Nat} {p : Plan} {l : List Elem} {r : List Elem × Bool} (h : plan_left z p l = some r) :
    AC Tryz.prog 124 [.ro (enc_Plan p), .ro (.list 2 (List.map cells_Elem l))] (.ro (.tup [.list 2 (List.map cells_Elem r.1), .bool r.2])) [] := by
  refine AC.of Tryz.func124 rfl rfl fun w M0 hM => ?_
  unfold plan_left at h
  refine .sq ?_
  refine .rg (bx 2 (.t rfl) rfl rfl <| u (asg (.n (sz := 2) (F := cells_Elem))) <| u (asg .b) <| .nil _) rfl ?_
  refine .sq ?_
  refine .rg (anm cells_Elem 6 66 2 rfl rfl <| .nil _) rfl ?_
  refine .sq ?_
  refine .sq ?_
  refine .rg (u (mv (.t rfl)) <| u (lnm sf25 (.t rfl)) <| u (mv (.i rfl)) <| .nil _) rfl ?_
  refine .bl ?_
  unfold plan_left_l1 at h
  refine .kq (.lo (fun (s : List Elem × Int × Plan) => ⟨[(2, .ptr 2 0), (6, .own 6), (11, .ro (.list 2 (List.map cells_Elem l))), (12, .ro (.int .i64 (l.length : Int))), (13, .ro (.int .i64 s.2.1))], [(2, some (.box [.ro (.bool s.2.2.setMarker), .ro (.bool s.2.2.marker), .ro (.bool s.2.2.setType), .ro (.int .i64 s.2.2.type), .ro (.bool s.2.2.setSeq), .ro (.int .u16 s.2.2.seq), .ro (.bool s.2.2.setTime), .ro (.int .u32 s.2.2.time), .ro (.bool s.2.2.setSsrc), .ro (.int .u32 s.2.2.ssrc), .ro (.list 2 (List.map cells_GMap s.2.2.maps)), .ro (.list 2 (List.map cells_Elem s.2.2.over)), .ro (.list 1 (List.map (ei .i64) s.2.2.drops)), .ro (.list 2 (List.map cells_Elem s.2.2.adds)), .ro (.bool s.2.2.noPad)])), (6, some (.arr 66 2 (List.map cells_Elem s.1)))]⟩) h ?_) (.c rfl (.c rfl (.c rfl (.c rfl (.c rfl .n))))) (.c rfl (.c rfl .n))
  rintro ⟨v1, v2, v3⟩ u1 h ih1 hx1
  replace h : plan_left_s1 z l v1 v2 v3 = _ := h
  unfold plan_left_s1 at h
  refine .sq ?_
  refine .rg (u (bc (.t rfl) (.t rfl) rfl rfl) <| .nil _) rfl ?_
  refine .sq ?_
  refine .bq h (.t rfl) (fun h => ?_) (fun h => ?_)
  · refine .skp ?_
    refine .sq ?_
    refine .jq (t := some u1) (fun (a : List Elem × Plan) => ⟨[(2, .ptr 2 0), (6, .own 6), (11, .ro (.list 2 (List.map cells_Elem l))), (12, .ro (.int .i64 (l.length : Int))), (13, .ro (.int .i64 v2))], [(2, some (.box [.ro (.bool a.2.setMarker), .ro (.bool a.2.marker), .ro (.bool a.2.setType), .ro (.int .i64 a.2.type), .ro (.bool a.2.setSeq), .ro (.int .u16 a.2.seq), .ro (.bool a.2.setTime), .ro (.int .u32 a.2.time), .ro (.bool a.2.setSsrc), .ro (.int .u32 a.2.ssrc), .ro (.list 2 (List.map cells_GMap a.2.maps)), .ro (.list 2 (List.map cells_Elem a.2.over)), .ro (.list 1 (List.map (ei .i64) a.2.drops)), .ro (.list 2 (List.map cells_Elem a.2.adds)), .ro (.bool a.2.noPad)])), (6, some (.arr 66 2 (List.map cells_Elem a.1)))]⟩) (fun (a : List Elem × Plan) => plan_left_j2 z v2 a.1 a.2) ?_ (fun J2 => ?_)
    · rintro ⟨v4, v5⟩ h
      replace h : plan_left_j2 z v2 v4 v5 = _ := h
      unfold plan_left_j2 at h
      refine .rg (u (bi (.t rfl) (.i rfl) rfl) <| u (mv (.t rfl)) <| .nil _) rfl ?_
      exact .kq (.il (ih1 (v4, (ar .add .i64 v2 1), v5) (nxi h))) (.c rfl (.c rfl (.c rfl (.c rfl (.c rfl .n))))) (.c rfl (.c rfl .n))
    refine .bl ?_
    refine .sq ?_
    refine be h fun x6 hx6 h => ?_
    refine .rg (u (ia sf25 (.t rfl) (.t rfl) (ix_map cells_Elem hx6)) <| u (lr tf66 (.t rfl) rfl) <| al 8 zf66 rfl <| st tf66 (.t rfl) rfl (.t rfl) rfl rfl rfl <| .nil _) rfl ?_
    refine .sq ?_
    refine .sq ?_
    refine be h fun x7 hx7 h => ?_
    refine .rg (u (fa ff28_12 (.t rfl)) <| u (ld tf26 (.t rfl) rfl rfl) <| u (fa ff66_0 (.t rfl)) <| u (ld tf3 (.t rfl) rfl rfl) <| cl [] cf121 (slices_Contains_c hx7) (.c (.t rfl) <| .c (.t rfl) <| .n) (.inl rfl) <| .nil _) rfl ?_
    refine .bq h (.t rfl) (fun h => ?_) (fun h => ?_)
    · refine .xt rfl ?_
      exact .kq (J2 (v1, v3) h) (.c rfl (.c rfl (.c rfl (.c rfl (.c rfl .n))))) (.c rfl (.c rfl .n))
    · refine .skp ?_
      refine .sq ?_
      refine be h fun x8 hx8 h => ?_
      refine .rg (u (ld tf28 (.t rfl) rfl rfl) <| u (ld tf66 (.t rfl) rfl rfl) <| cl [] cf139 (plan_data_c hx8) (.c (.t rfl) <| .c (.t rfl) <| .n) (.inl rfl) <| u (mv (.t rfl)) <| u (ex (.t rfl) rfl rfl) <| u (ex (.t rfl) rfl rfl) <| u (asg (.t rfl)) <| u (asg (.t rfl)) <| .nil _) rfl ?_
      refine .sq ?_
      refine .sq ?_
      refine .rg (u (mv (.t rfl)) <| u (no (.t rfl)) <| .nil _) rfl ?_
      refine .bq h (.t rfl) (fun h => ?_) (fun h => ?_)
      · refine .sq ?_
        refine .rg (u (asg (.n (sz := 2) (F := cells_Elem))) <| u (asg .b) <| .nil _) rfl ?_
        replace h := mpR h hx1
        obtain rfl := Option.some.inj h
        exact .rt Tryz.func124 (.t rfl <| .t rfl <| .n) .n rfl rfl
      · refine .skp ?_
        refine be h fun x9 hx9 h => ?_
        refine be h fun x10 hx10 h => ?_
        refine .rg (u (mv (.t rfl)) <| u (ld tf28 (.t rfl) rfl rfl) <| u (fa ff66_0 (.t rfl)) <| u (ld tf3 (.t rfl) rfl rfl) <| cl [] cf140 (plan_renamed_c hx9) (.c (.t rfl) <| .c (.t rfl) <| .n) (.inl rfl) <| u (mv (.t rfl)) <| u (bd bf66 zf66 (.c rfl (.t rfl) rfl rfl rfl <| .c rfl (.t rfl) rfl rfl rfl <| .n) rfl) <| bs (F := cells_Elem) (l := [(Elem.mk x9 x8.1)]) 37 pf25 (.c (.t rfl) rfl <| .n) rfl (fun _ _ => rfl) rfl rfl <| apo 38 pf25 (.t rfl) rfl (.t rfl) rfl hx10 rfl <| u (asg (.t rfl)) <| .nil _) rfl ?_
        refine .ib ?_
        exact .ks (fun i => bif Nat.beq i 6 then 38 else i) (J2 (x10, v3) h) (.c rfl (.c rfl (.c rfl (.c rfl (.c rfl .n))))) (.c rfl (.c rfl .n)) rfl
  · refine .xt rfl ?_
    replace h := mpR h hx1
    refine .sq ?_
    refine be h fun x11 hx11 h => ?_
    refine .rg (u (mv (.t rfl)) <| u (fa ff28_13 (.t rfl)) <| u (ld tf25 (.t rfl) rfl rfl) <| ap 43 pf25 (.t rfl) rfl (.t rfl) hx11 rfl <| u (asg (.t rfl)) <| .nil _) rfl ?_
    refine .sq ?_
    refine .fz 43 rfl ?_
    refine be h fun x12 hx12 h => ?_
    refine be h fun x13 hx13 h => ?_
    refine .rg (u (mv (.t rfl)) <| u (mv (.t rfl)) <| cnf 47000 cf117 (plan_ids_Elem_f0_c hx12) (.c (.t rfl) <| .c .f <| .n) rfl rfl rfl <| cl [] cf112 (plan_apart_c hx13) (.b (.t rfl) rfl <| .n) (.inr rfl) <| u (asg (.t rfl)) <| u (asg (.t rfl)) <| .nil _) rfl ?_
    obtain rfl := Option.some.inj h
    exact .rt Tryz.func124 (.t rfl <| .t rfl <| .n) .n rfl rfl

theorem plan_data_y1_c {z : Option Nat} {p : Plan} {p_x0 : Int} {x1a : Int} {x1b : Int} {r : Option (List Int) × Bool} (h : plan_data_y1 z p p_x0 x1a x1b = some r) :
    AY Tryz.prog 139 [.ro (enc_Plan p), .agg [.ro (.int .i64 p_x0), .view 7000 1 (x1a : Int).toNat ((x1b : Int).toNat - (x1a : Int).toNat)]] [] [1] (match r.1 with | some l => .ro (.tup [.list 1 (List.map e8 l), .bool r.2]) | none => .tup [.view 7000 1 (x1a : Int).toNat ((x1b : Int).toNat - (x1a : Int).toNat), .ro (.bool r.2)]) [] [(1, .agg [.ro (.int .i64 p_x0), .view 7000 1 (x1a : Int).toNat ((x1b : Int).toNat - (x1a : Int).toNat)])] [] := by
  refine AY.of Tryz.func139 rfl rfl fun w X M0 hM pv => ?_
  refine .kq (l := [(0, .ro (enc_Plan p)), (1, .agg [.ro (.int .i64 p_x0), .view 7000 1 (x1a : Int).toNat ((x1b : Int).toNat - (x1a : Int).toNat)])]) (o := []) ?_ (.c rfl (.c rfl .n)) .n
  unfold plan_data_y1 at h
  refine .sq ?_
  refine .rg (bx 2 (.t rfl) rfl rfl <| bx 3 (.t rfl) rfl rfl <| u (asg (.n (sz := 1) (F := e8))) <| u (asg .b) <| .nil _) rfl ?_
  refine .sq ?_
  refine .sq ?_
  refine .rg (u (fa ff28_11 (.t rfl)) <| u (ld tf25 (.t rfl) rfl rfl) <| u (lnm sf25 (.t rfl)) <| u (mv (.i rfl)) <| .nil _) rfl ?_
  refine .bl ?_
  unfold plan_data_y1_l1 at h
  refine .kq (.lo (fun (s : Int) => ⟨[(1, .agg [.ro (.int .i64 p_x0), .view 7000 1 (x1a : Int).toNat ((x1b : Int).toNat - (x1a : Int).toNat)]), (3, .ptr 3 0), (9, .ro (.list 2 (List.map cells_Elem p.over))), (10, .ro (.int .i64 (p.over.length : Int))), (11, .ro (.int .i64 s))], [(3, some (.box [.ro (.int .i64 p_x0), .view 7000 1 (x1a : Int).toNat ((x1b : Int).toNat - (x1a : Int).toNat)]))]⟩) h ?_) (.c rfl (.c rfl (.c rfl (.c rfl (.c rfl .n))))) (.c rfl .n)
  intro v1 u1 h ih1 hx1
  replace h : plan_data_y1_s1 z p p_x0 x1a x1b v1 = _ := h
  unfold plan_data_y1_s1 at h
  refine .sq ?_
  refine .rg (u (bc (.t rfl) (.t rfl) rfl rfl) <| .nil _) rfl ?_
  refine .sq ?_
  refine .bq h (.t rfl) (fun h => ?_) (fun h => ?_)
  · refine .skp ?_
    refine .sq ?_
    refine .bl ?_
    refine .sq ?_
    refine be h fun x2 hx2 h => ?_
    refine .rg (u (ia sf25 (.t rfl) (.t rfl) (ix_map cells_Elem hx2)) <| u (lr tf66 (.t rfl) rfl) <| al 7 zf66 rfl <| st tf66 (.t rfl) rfl (.t rfl) rfl rfl rfl <| .nil _) rfl ?_
    refine .sq ?_
    refine .rg (u (fa ff66_0 (.t rfl)) <| u (ld tf3 (.t rfl) rfl rfl) <| u (fa ff66_0 (.t rfl)) <| u (ld tf3 (.t rfl) rfl rfl) <| u (bc (.t rfl) (.t rfl) rfl rfl) <| .nil _) rfl ?_
    refine .bq h (.t rfl) (fun h => ?_) (fun h => ?_)
    · refine .sq ?_
      refine .rd mixed (u (fa ff66_1 (.t rfl)) <| u (ld tf29 (.t rfl) rfl rfl) <| u (fa ff66_1 (.t rfl)) <| u (ld tf29 (.t rfl) rfl rfl) <| u (lnm sf29 (.t rfl)) <| u (fa ff66_1 (.t rfl)) <| u (ld tf29 (.t rfl) rfl rfl) <| u (lnv sf29 (.t rfl)) <| u (bc (.t rfl) (.t rfl) rfl rfl) <| u (asg (.t rfl)) <| u (asg (.t rfl)) <| .nil _) (by kernel_rfl) rfl ?_
      replace h := mpR h hx1
      obtain rfl := Option.some.inj h
      exact .rtx (o := []) Tryz.func139 (.t rfl <| .t rfl <| .n) .n rfl rfl (.c rfl .n) rfl
    · refine .skp ?_
      refine .ib ?_
      refine .rg (u (bi (.t rfl) (.i rfl) rfl) <| u (mv (.t rfl)) <| .nil _) rfl ?_
      exact .kq (.il (ih1 (ar .add .i64 v1 1) (nxi h))) (.c rfl (.c rfl (.c rfl (.c rfl (.c rfl .n))))) (.c rfl .n)
  · refine .xt rfl ?_
    replace h := mpR h hx1
    refine .sq ?_
    refine .rg (u (fa ff66_1 (.t rfl)) <| u (ld tf29 (.t rfl) rfl rfl) <| u (asg (.t rfl)) <| u (asg .b) <| .nil _) rfl ?_
    obtain rfl := Option.some.inj h
    exact .rtx (o := []) Tryz.func139 (.t rfl <| .t rfl <| .n) .n rfl rfl (.c rfl .n) rfl

theorem plan_inside_c {z : Option Nat} {p : Plan} {k : Packet} {r : List Int × Bool} (h : plan_inside z p k = some r) :
    AC Tryz.prog 125 [.ro (enc_Plan p), .ro (enc_Packet k)] (.tup [.own 0, .ro (.bool r.2)]) [(0, .arr 5 1 (List.map e8 r.1))] := by
  refine AC.of Tryz.func125 rfl rfl fun w M0 hM => ?_
  unfold plan_inside at h
  refine .sq ?_
  refine .rg (bx 2 (.t rfl) rfl rfl <| bx 3 (.t rfl) rfl rfl <| anm e8 4 5 1 rfl rfl <| u (asg .b) <| .nil _) rfl ?_
  refine .sq ?_
  refine be h fun x1 hx1 h => ?_
  refine .rg (u (fa ff50_1 (.t rfl)) <| u (ld tf22 (.t rfl) rfl rfl) <| u (fa ff50_2 (.t rfl)) <| u (ld tf29 (.t rfl) rfl rfl) <| cnf 20000 cf91 (elem_Spots_c hx1) (.c (.t rfl) <| .c (.t rfl) <| .n) rfl rfl rfl <| u (mv (.t rfl)) <| u (ex (.t rfl) rfl rfl) <| u (ex (.t rfl) rfl rfl) <| u (asg (.t rfl)) <| u (asg (.t rfl)) <| .nil _) rfl ?_
  refine .sq ?_
  refine be h fun x2 hx2 h => ?_
  refine .rg (u (fa ff50_2 (.t rfl)) <| u (ld tf29 (.t rfl) rfl rfl) <| cnl 24 cf28 (slices_Clone_c hx2) (.c (.t rfl) <| .n) rfl <| u (asg (.t rfl)) <| .nil _) rfl ?_
  refine .sq ?_
  refine .sq ?_
  refine .rg (u (mv (.t rfl)) <| u (lom sf75 (.t rfl) rfl) <| u (mv (.i rfl)) <| .nil _) rfl ?_
  refine .bl ?_
  unfold plan_inside_l1 at h
  refine .ks (fun i => bif Nat.beq i 8 then 24 else i) (.lo (fun (s : List Int × Int × Plan) => ⟨[(2, .ptr 2 0), (3, .ptr 3 0), (8, .own 8), (25, .own 20000), (26, .ro (.int .i64 (x1.1.length : Int))), (27, .ro (.int .i64 s.2.1))], [(2, some (.box [.ro (.bool s.2.2.setMarker), .ro (.bool s.2.2.marker), .ro (.bool s.2.2.setType), .ro (.int .i64 s.2.2.type), .ro (.bool s.2.2.setSeq), .ro (.int .u16 s.2.2.seq), .ro (.bool s.2.2.setTime), .ro (.int .u32 s.2.2.time), .ro (.bool s.2.2.setSsrc), .ro (.int .u32 s.2.2.ssrc), .ro (.list 2 (List.map cells_GMap s.2.2.maps)), .ro (.list 2 (List.map cells_Elem s.2.2.over)), .ro (.list 1 (List.map (ei .i64) s.2.2.drops)), .ro (.list 2 (List.map cells_Elem s.2.2.adds)), .ro (.bool s.2.2.noPad)])), (3, some (.box [.ro (.bool k.head.hasPad), .ro (.bool k.head.hasExt), .ro (.bool k.head.marker), .ro (.int .i64 k.head.type), .ro (.int .u16 k.head.seq), .ro (.int .u32 k.head.time), .ro (.int .u32 k.head.ssrc), .ro (.list 1 (List.map (ei .u32) k.head.csrc)), .ro (.int .u16 k.profile), .ro (.list 1 (List.map e8 k.ext)), .ro (.list 1 (List.map e8 k.payload)), .ro (.int .i64 k.pad)])), (8, some (.arr 5 1 (List.map e8 s.1))), (20000, some (.arr 79 3 (List.map cells_Spot x1.1)))]⟩) h ?_) (.c rfl (.c rfl (.c rfl (.c rfl (.c rfl (.c rfl .n)))))) (.c rfl (.c rfl (.c rfl (.c rfl .n)))) rfl
  rintro ⟨v3, v4, v5⟩ u1 h ih1 hx1
  replace h : plan_inside_s1 z k x1 v3 v4 v5 = _ := h
  unfold plan_inside_s1 at h
  refine .sq ?_
  refine .rg (u (bc (.t rfl) (.t rfl) rfl rfl) <| .nil _) rfl ?_
  refine .sq ?_
  refine .bq h (.t rfl) (fun h => ?_) (fun h => ?_)
  · refine .skp ?_
    refine .sq ?_
    refine .bl ?_
    refine .sq ?_
    refine be h fun x6 hx6 h => ?_
    refine .rg (u (io sf75 (.t rfl) rfl (.t rfl) (ix_map cells_Spot hx6)) <| u (le tf79 (.t rfl) rfl (ix_lt (ix_map _ hx6)).2.2 rfl) <| al 10 zf79 rfl <| st tf79 (.t rfl) rfl (.t rfl) rfl rfl rfl <| .nil _) rfl ?_
    refine .sq ?_
    refine be h fun x7 hx7 h => ?_
    refine .rg (u (ld tf28 (.t rfl) rfl rfl) <| u (fa ff79_0 (.t rfl)) <| u (ld tf3 (.t rfl) rfl rfl) <| cl [] cf140 (plan_renamed_c hx7) (.c (.t rfl) <| .c (.t rfl) <| .n) (.inl rfl) <| u (asg (.t rfl)) <| .nil _) rfl ?_
    refine .sq ?_
    refine .sq ?_
    refine .rg (u (fa ff50_1 (.t rfl)) <| u (ld tf22 (.t rfl) rfl rfl) <| u (bc (.t rfl) (.i rfl) rfl rfl) <| .nil _) rfl ?_
    refine .jq (t := some u1) (fun (a : List Int) => ⟨[(2, .ptr 2 0), (3, .ptr 3 0), (8, .own 8), (10, .ptr 10 0), (25, .own 20000), (26, .ro (.int .i64 (x1.1.length : Int))), (27, .ro (.int .i64 v4))], [(2, some (.box [.ro (.bool v5.setMarker), .ro (.bool v5.marker), .ro (.bool v5.setType), .ro (.int .i64 v5.type), .ro (.bool v5.setSeq), .ro (.int .u16 v5.seq), .ro (.bool v5.setTime), .ro (.int .u32 v5.time), .ro (.bool v5.setSsrc), .ro (.int .u32 v5.ssrc), .ro (.list 2 (List.map cells_GMap v5.maps)), .ro (.list 2 (List.map cells_Elem v5.over)), .ro (.list 1 (List.map (ei .i64) v5.drops)), .ro (.list 2 (List.map cells_Elem v5.adds)), .ro (.bool v5.noPad)])), (3, some (.box [.ro (.bool k.head.hasPad), .ro (.bool k.head.hasExt), .ro (.bool k.head.marker), .ro (.int .i64 k.head.type), .ro (.int .u16 k.head.seq), .ro (.int .u32 k.head.time), .ro (.int .u32 k.head.ssrc), .ro (.list 1 (List.map (ei .u32) k.head.csrc)), .ro (.int .u16 k.profile), .ro (.list 1 (List.map e8 k.ext)), .ro (.list 1 (List.map e8 k.payload)), .ro (.int .i64 k.pad)])), (8, some (.arr 5 1 (List.map e8 a))), (10, some (.box [.ro (.int .i64 x6.id_), .ro (.int .i64 x6.at_), .ro (.int .i64 x6.size)])), (20000, some (.arr 79 3 (List.map cells_Spot x1.1)))]⟩) (fun (a : List Int) => plan_inside_j2 z v4 v5 x6 a) ?_ (fun J2 => ?_)
    · intro v8 h
      replace h : plan_inside_j2 z v4 v5 x6 v8 = _ := h
      unfold plan_inside_j2 at h
      refine .sq ?_
      refine be h fun x9 hx9 h => ?_
      refine be h fun x10 hx10 h => ?_
      rcases x10 with ⟨_ | x10q, x10b⟩
      · dsimp only at h
        refine .rd mixed (u (ld tf28 (.t rfl) rfl rfl) <| u (fa ff79_0 (.t rfl)) <| u (ld tf3 (.t rfl) rfl rfl) <| u (mv (.t rfl)) <| u (fa ff79_1 (.t rfl)) <| u (ld tf3 (.t rfl) rfl rfl) <| u (fa ff79_1 (.t rfl)) <| u (ld tf3 (.t rfl) rfl rfl) <| u (fa ff79_2 (.t rfl)) <| u (ld tf3 (.t rfl) rfl rfl) <| u (bi (.t rfl) (.t rfl) rfl) <| u (slv (F := e8) sf29 (.t rfl) rfl (.s (.t rfl)) (.s (.t rfl)) hx9) <| u (bd bf66 zf66 (.c rfl (.t rfl) rfl rfl rfl <| .c rfl (.t rfl) rfl rfl rfl <| .n) rfl) <| clw (fun i => bif Nat.beq i 7000 then 8 else i) 1 1 cf139 (plan_data_y1_c hx10) (.c (.t rfl) <| .c (.t rfl) <| .n) rfl rfl rfl (.tup (.c .vw <| .c .ro <| .n)) <| u (mv (.t rfl)) <| u (ex (.t rfl) rfl rfl) <| u (ex (.t rfl) rfl rfl) <| u (asg (.t rfl)) <| u (asg (.t rfl)) <| .nil _) (by kernel_rfl) rfl ?_
        refine be h fun x11 hx11 h => ?_
        refine .rg (u (mv (.t rfl)) <| u (fa ff79_1 (.t rfl)) <| u (ld tf3 (.t rfl) rfl rfl) <| u (fa ff79_1 (.t rfl)) <| u (ld tf3 (.t rfl) rfl rfl) <| u (fa ff79_2 (.t rfl)) <| u (ld tf3 (.t rfl) rfl rfl) <| u (bi (.t rfl) (.t rfl) rfl) <| u (slv (F := e8) sf29 (.t rfl) rfl (.s (.t rfl)) (.s (.t rfl)) hx11) <| u (mv (.t rfl)) <| cpc (F := e8) (l := v8) (m := x9) (a := x6.at_) (b := (ar .add .i64 x6.at_ x6.size)) sf29 (.t rfl) (.inl rfl) (sub_bd hx11) rfl (.v (F := e8) (.t rfl) rfl hx9) <| .nil _) rfl ?_
        refine .ib ?_
        refine .rg (u (bi (.t rfl) (.i rfl) rfl) <| u (mv (.t rfl)) <| .nil _) rfl ?_
        exact .kq (.il (ih1 ((cpy v8 x6.at_ (ar .add .i64 x6.at_ x6.size) x9), (ar .add .i64 v4 1), v5) (nxi h))) (.c rfl (.c rfl (.c rfl (.c rfl (.c rfl (.c rfl .n)))))) (.c rfl (.c rfl (.c rfl (.c rfl .n))))
      · dsimp only at h
        refine .rd mixed (u (ld tf28 (.t rfl) rfl rfl) <| u (fa ff79_0 (.t rfl)) <| u (ld tf3 (.t rfl) rfl rfl) <| u (mv (.t rfl)) <| u (fa ff79_1 (.t rfl)) <| u (ld tf3 (.t rfl) rfl rfl) <| u (fa ff79_1 (.t rfl)) <| u (ld tf3 (.t rfl) rfl rfl) <| u (fa ff79_2 (.t rfl)) <| u (ld tf3 (.t rfl) rfl rfl) <| u (bi (.t rfl) (.t rfl) rfl) <| u (slv (F := e8) sf29 (.t rfl) rfl (.s (.t rfl)) (.s (.t rfl)) hx9) <| u (bd bf66 zf66 (.c rfl (.t rfl) rfl rfl rfl <| .c rfl (.t rfl) rfl rfl rfl <| .n) rfl) <| clw (fun i => bif Nat.beq i 7000 then 8 else i) 1 1 cf139 (plan_data_y1_c hx10) (.c (.t rfl) <| .c (.t rfl) <| .n) rfl rfl rfl .ro <| u (mv (.t rfl)) <| u (ex (.t rfl) rfl rfl) <| u (ex (.t rfl) rfl rfl) <| u (asg (.t rfl)) <| u (asg (.t rfl)) <| .nil _) (by kernel_rfl) rfl ?_
        refine be h fun x12 hx12 h => ?_
        refine .rg (u (mv (.t rfl)) <| u (fa ff79_1 (.t rfl)) <| u (ld tf3 (.t rfl) rfl rfl) <| u (fa ff79_1 (.t rfl)) <| u (ld tf3 (.t rfl) rfl rfl) <| u (fa ff79_2 (.t rfl)) <| u (ld tf3 (.t rfl) rfl rfl) <| u (bi (.t rfl) (.t rfl) rfl) <| u (slv (F := e8) sf29 (.t rfl) rfl (.s (.t rfl)) (.s (.t rfl)) hx12) <| u (mv (.t rfl)) <| cpc (F := e8) (l := v8) (m := x10q) (a := x6.at_) (b := (ar .add .i64 x6.at_ x6.size)) sf29 (.t rfl) (.inl rfl) (sub_bd hx12) rfl (.r (.t rfl)) <| .nil _) rfl ?_
        refine .ib ?_
        refine .rg (u (bi (.t rfl) (.i rfl) rfl) <| u (mv (.t rfl)) <| .nil _) rfl ?_
        exact .kq (.il (ih1 ((cpy v8 x6.at_ (ar .add .i64 x6.at_ x6.size) x10q), (ar .add .i64 v4 1), v5) (nxi h))) (.c rfl (.c rfl (.c rfl (.c rfl (.c rfl (.c rfl .n)))))) (.c rfl (.c rfl (.c rfl (.c rfl .n))))
    refine .bq h (.t rfl) (fun h => ?_) (fun h => ?_)
    · refine be h fun x13 hx13 h => ?_
      refine .rg (u (mv (.t rfl)) <| u (fa ff79_1 (.t rfl)) <| u (ld tf3 (.t rfl) rfl rfl) <| u (bi (.t rfl) (.i rfl) rfl) <| u (mv (.t rfl)) <| u (cv cv3_5 (.t rfl)) <| u (io sf29 (.t rfl) rfl (.t rfl) (ix_map e8 hx13)) <| se (q := (IntKind.u8.wrap x7)) tf5 (.t rfl) rfl (.t rfl) rfl rfl rfl (ixn hx13) <| .nil _) rfl ?_
      exact .kq (J2 (List.set v3 ((ar .sub .i64 x6.at_ 2) : Int).toNat (IntKind.u8.wrap x7)) h) (.c rfl (.c rfl (.c rfl (.c rfl (.c rfl (.c rfl (.c rfl .n))))))) (.c rfl (.c rfl (.c rfl (.c rfl (.c rfl .n)))))
    · refine .sq ?_
      refine .sq ?_
      refine .rg (u (mv (.t rfl)) <| u (bc (.t rfl) (.i rfl) rfl rfl) <| .nil _) rfl ?_
      refine .bq h (.t rfl) (fun h => ?_) (fun h => ?_)
      · refine .sq ?_
        refine .rg (anm e8 4 5 1 rfl rfl <| u (asg .b) <| .nil _) rfl ?_
        replace h := mpR h hx1
        obtain rfl := Option.some.inj h
        refine .ks (l := [(4, .own 0), (5, .ro (.bool false))]) (o := [(0, some (.arr 5 1 (List.map e8 [])))]) (fun i => bif Nat.beq i 0 then 4 else i) ?_ (.c rfl (.c rfl .n)) (.c rfl .n) rfl
        exact .rt Tryz.func125 (.t rfl <| .t rfl <| .n) (.c rfl .n) rfl rfl
      · refine .skp ?_
        refine be h fun x14 hx14 h => ?_
        refine be h fun x15 hx15 h => ?_
        refine .rd mixed (u (mv (.t rfl)) <| u (fa ff79_1 (.t rfl)) <| u (ld tf3 (.t rfl) rfl rfl) <| u (bi (.t rfl) (.i rfl) rfl) <| u (mv (.t rfl)) <| u (sh (.t rfl) (.i rfl) rfl (by decide)) <| u (cv cv3_5 (.t rfl)) <| u (mv (.t rfl)) <| u (fa ff79_1 (.t rfl)) <| u (ld tf3 (.t rfl) rfl rfl) <| u (bi (.t rfl) (.i rfl) rfl) <| u (io sf29 (.t rfl) rfl (.t rfl) (ix_map e8 hx14)) <| u (le tf5 (.t rfl) rfl (ix_lt (ix_map _ hx14)).2.2 rfl) <| u (bi (.t rfl) (.i rfl) rfl) <| u (bi (.t rfl) (.t rfl) rfl) <| u (io sf29 (.t rfl) rfl (.t rfl) (ix_map e8 hx15)) <| se (q := (ar .or .u8 (IntKind.u8.wrap (sf .shl .i64 x7 4)) (ar .and .u8 x14 15))) tf5 (.t rfl) rfl (.t rfl) rfl rfl rfl (ixn hx15) <| .nil _) (by kernel_rfl) rfl ?_
        exact .kq (J2 (List.set v3 ((ar .sub .i64 x6.at_ 1) : Int).toNat (ar .or .u8 (IntKind.u8.wrap (sf .shl .i64 x7 4)) (ar .and .u8 x14 15))) h) (.c rfl (.c rfl (.c rfl (.c rfl (.c rfl (.c rfl (.c rfl .n))))))) (.c rfl (.c rfl (.c rfl (.c rfl (.c rfl .n)))))
  · refine .xt rfl ?_
    replace h := mpR h hx1
    refine .sq ?_
    refine .rg (u (mv (.t rfl)) <| u (asg (.t rfl)) <| u (asg .b) <| .nil _) rfl ?_
    obtain rfl := Option.some.inj h
    refine .ks (l := [(4, .own 0), (5, .ro (.bool true))]) (o := [(0, some (.arr 5 1 (List.map e8 v3)))]) (fun i => bif Nat.beq i 0 then 8 else i) ?_ (.c rfl (.c rfl .n)) (.c rfl .n) rfl
    exact .rt Tryz.func125 (.t rfl <| .t rfl <| .n) (.c rfl .n) rfl rfl

theorem plan_inside_r {z : Option Nat} {p : Plan} {k : Packet} {r : List Int × Bool} (h : plan_inside z p k = some r) :
    AC Tryz.prog 125 [.ro (enc_Plan p), .ro (enc_Packet k)] (.ro (.tup [.list 1 (List.map e8 r.1), .bool r.2])) [] := AC.fz (plan_inside_c h) rfl

theorem elem_narrow_1_c (x : Elem) :
    AC Tryz.prog 155 [.ro (enc_Elem x)] (.ro (.bool (elem_narrow_1 x))) [] := by
  obtain ⟨r, h⟩ : ∃ r, elem_narrow_1 x = r := ⟨_, rfl⟩
  rw [h]
  refine AC.of Tryz.func155 rfl rfl fun w M0 hM => ?_
  unfold elem_narrow_1 at h
  refine .sq ?_
  refine .rg (bx 1 (.t rfl) rfl rfl <| u (asg .b) <| .nil _) rfl ?_
  refine .sq ?_
  refine .rg (u (fa ff66_0 (.t rfl)) <| u (ld tf3 (.t rfl) rfl rfl) <| u (bc (.t rfl) (.i rfl) rfl rfl) <| u (mv (.t rfl)) <| gd rfl rfl (fun hB => fa ff66_1 (.t rfl)) <| gd rfl rfl (fun hB => ld tf29 (.m rfl hB) rfl rfl) <| gd rfl rfl (fun hB => lnm sf29 (.m rfl hB)) <| gd rfl rfl (fun hB => bc (.m rfl hB) (.i rfl) rfl rfl) <| u (pko (.t rfl) (.t rfl)) <| u (mv (.t rfl)) <| gd rfl rfl (fun hB => fa ff66_1 (.t rfl)) <| gd rfl rfl (fun hB => ld tf29 (.m rfl hB) rfl rfl) <| gd rfl rfl (fun hB => lnm sf29 (.m rfl hB)) <| gd rfl rfl (fun hB => bc (.m rfl hB) (.i rfl) rfl rfl) <| u (pko (.t rfl) (.t rfl)) <| u (asg (.t rfl)) <| .nil _) rfl ?_
  subst h
  exact .rt Tryz.func155 (.t rfl <| .n) .n rfl rfl

theorem slices_IndexFunc_Elem_c {z : Option Nat} {p_s : List Elem} {f : (Elem → Option Bool)} {g_f : FuncId} {c_f : List V} (hF_f : CF Tryz.prog g_f) (h_f : ∀ (a0 : Elem) (q : Bool), f a0 = some q → AC Tryz.prog g_f ([.ro (enc_Elem a0)] ++ c_f) (.ro (.bool q)) []) {r : Int} (h : slices_IndexFunc_Elem z p_s f = some r) :
    AC Tryz.prog 95 [.ro (.list 2 (List.map cells_Elem p_s)), .fn (.func g_f) [] c_f] (.ro (.int .i64 r)) [] := by
  refine AC.of Tryz.func95 rfl rfl fun w M0 hM => ?_
  unfold slices_IndexFunc_Elem at h
  refine .sq ?_
  refine .rg (u (asg (.i rfl)) <| .nil _) rfl ?_
  refine .sq ?_
  refine .sq ?_
  refine .rg (u (mv (.t rfl)) <| u (lnm sf25 (.t rfl)) <| u (mv (.i rfl)) <| .nil _) rfl ?_
  refine .bl ?_
  unfold slices_IndexFunc_Elem_l1 at h
  refine .kq (.lo (fun (s : Int) => ⟨[(0, .ro (.list 2 (List.map cells_Elem p_s))), (1, .fn (.func g_f) [] c_f), (7, .ro (.int .i64 (p_s.length : Int))), (8, .ro (.int .i64 s))], []⟩) h ?_) (.c rfl (.c rfl (.c rfl (.c rfl .n)))) .n
  intro v1 u1 h ih1 hx1
  replace h : slices_IndexFunc_Elem_s1 z p_s f v1 = _ := h
  unfold slices_IndexFunc_Elem_s1 at h
  refine .sq ?_
  refine .rg (u (bc (.t rfl) (.t rfl) rfl rfl) <| .nil _) rfl ?_
  refine .sq ?_
  refine .bq h (.t rfl) (fun h => ?_) (fun h => ?_)
  · refine .skp ?_
    refine .sq ?_
    refine .bl ?_
    refine .sq ?_
    refine .rg (u (mv (.t rfl)) <| u (asg (.t rfl)) <| .nil _) rfl ?_
    refine .sq ?_
    refine be h fun x2 hx2 h => ?_
    refine be h fun x3 hx3 h => ?_
    refine .rg (u (mv (.t rfl)) <| u (mv (.t rfl)) <| u (mv (.t rfl)) <| u (ia sf25 (.t rfl) (.t rfl) (ix_map cells_Elem hx2)) <| u (lr tf66 (.t rfl) rfl) <| clv [] hF_f (.t rfl) (h_f _ _ hx3) (.c (.t rfl) <| .n) (.inl rfl) <| .nil _) rfl ?_
    refine .bq h (.t rfl) (fun h => ?_) (fun h => ?_)
    · refine .sq ?_
      refine .rg (u (mv (.t rfl)) <| u (asg (.t rfl)) <| .nil _) rfl ?_
      replace h := mpR h hx1
      obtain rfl := Option.some.inj h
      exact .rt Tryz.func95 (.t rfl <| .n) .n rfl rfl
    · refine .skp ?_
      refine .ib ?_
      refine .rg (u (bi (.t rfl) (.i rfl) rfl) <| u (mv (.t rfl)) <| .nil _) rfl ?_
      exact .kq (.il (ih1 (ar .add .i64 v1 1) (nxi h))) (.c rfl (.c rfl (.c rfl (.c rfl .n)))) .n
  · refine .xt rfl ?_
    replace h := mpR h hx1
    refine .sq ?_
    refine .rg (u (asg (.i rfl)) <| .nil _) rfl ?_
    obtain rfl := Option.some.inj h
    exact .rt Tryz.func95 (.t rfl <| .n) .n rfl rfl

theorem slices_ContainsFunc_Elem_c {z : Option Nat} {p_s : List Elem} {f : (Elem → Option Bool)} {g_f : FuncId} {c_f : List V} (hF_f : CF Tryz.prog g_f) (h_f : ∀ (a0 : Elem) (q : Bool), f a0 = some q → AC Tryz.prog g_f ([.ro (enc_Elem a0)] ++ c_f) (.ro (.bool q)) []) {r : Bool} (h : slices_ContainsFunc_Elem z p_s f = some r) :
    AC Tryz.prog 156 [.ro (.list 2 (List.map cells_Elem p_s)), .fn (.func g_f) [] c_f] (.ro (.bool r)) [] := by
  refine AC.of Tryz.func156 rfl rfl fun w M0 hM => ?_
  unfold slices_ContainsFunc_Elem at h
  refine .sq ?_
  refine .rg (u (asg .b) <| .nil _) rfl ?_
  refine .sq ?_
  refine be h fun x1 hx1 h => ?_
  refine .rg (u (mv (.t rfl)) <| u (mv (.t rfl)) <| cl [] cf95 (slices_IndexFunc_Elem_c hF_f h_f hx1) (.c (.t rfl) <| .c (.t rfl) <| .n) (.inl rfl) <| u (bc (.t rfl) (.i rfl) rfl rfl) <| u (asg (.t rfl)) <| .nil _) rfl ?_
  obtain rfl := Option.some.inj h
  exact .rt Tryz.func156 (.t rfl <| .n) .n rfl rfl

theorem elem_narrow_c {z : Option Nat} {l : List Elem} {r : Bool} (h : elem_narrow z l = some r) :
    AC Tryz.prog 148 [.ro (.list 2 (List.map cells_Elem l))] (.ro (.bool r)) [] := by
  refine AC.of Tryz.func148 rfl rfl fun w M0 hM => ?_
  unfold elem_narrow at h
  refine .sq ?_
  refine .rg (u (asg .b) <| .nil _) rfl ?_
  refine .sq ?_
  refine .rg (u (asg .f) <| .nil _) rfl ?_
  refine .sq ?_
  refine be h fun x1 hx1 h => ?_
  refine .rg (u (mv (.t rfl)) <| u (mv (.t rfl)) <| cl [] cf156 (slices_ContainsFunc_Elem_c cf155 (fun y0 q h => by obtain rfl := Option.some.inj h; exact elem_narrow_1_c y0) hx1) (.c (.t rfl) <| .c (.t rfl) <| .n) (.inl rfl) <| u (no (.t rfl)) <| u (asg (.t rfl)) <| .nil _) rfl ?_
  obtain rfl := Option.some.inj h
  exact .rt Tryz.func148 (.t rfl <| .n) .n rfl rfl

theorem elem_Profile_c {z : Option Nat} {l : List Elem} {r : Int} (h : elem_Profile z l = some r) :
    AC Tryz.prog 141 [.ro (.list 2 (List.map cells_Elem l))] (.ro (.int .u16 r)) [] := by
  refine AC.of Tryz.func141 rfl rfl fun w M0 hM => ?_
  unfold elem_Profile at h
  refine .sq ?_
  refine .rg (u (asg (.i rfl)) <| .nil _) rfl ?_
  refine .sq ?_
  refine .bl ?_
  refine .sq ?_
  refine be h fun x1 hx1 h => ?_
  refine .rg (u (mv (.t rfl)) <| cl [] cf116 (elem_Right_c hx1) (.c (.t rfl) <| .n) (.inl rfl) <| u (no (.t rfl)) <| u (asg (.t rfl)) <| .nil _) rfl ?_
  refine .bq h (.t rfl) (fun h => ?_) (fun h => ?_)
  · refine .sq ?_
    refine .rg (u (asg (.i rfl)) <| .nil _) rfl ?_
    obtain rfl := Option.some.inj h
    exact .rt Tryz.func141 (.t rfl <| .n) .n rfl rfl
  · refine .sq ?_
    refine be h fun x2 hx2 h => ?_
    refine .rg (u (mv (.t rfl)) <| cl [] cf148 (elem_narrow_c hx2) (.c (.t rfl) <| .n) (.inl rfl) <| u (asg (.t rfl)) <| .nil _) rfl ?_
    refine .bq h (.t rfl) (fun h => ?_) (fun h => ?_)
    · refine .sq ?_
      refine .rg (u (asg (.i rfl)) <| .nil _) rfl ?_
      obtain rfl := Option.some.inj h
      exact .rt Tryz.func141 (.t rfl <| .n) .n rfl rfl
    · refine .skp ?_
      refine .ib ?_
      refine .sq ?_
      refine .rg (u (asg (.i rfl)) <| .nil _) rfl ?_
      obtain rfl := Option.some.inj h
      exact .rt Tryz.func141 (.t rfl <| .n) .n rfl rfl

theorem pad_zeros_c {n : Int} {r : List Int} (h : pad_zeros n = some r) :
    AC Tryz.prog 86 [.ro (.int .i64 n)] (.own 0) [(0, .arr 5 1 (List.map e8 r))] := by
  refine AC.of Tryz.func86 rfl rfl fun w M0 hM => ?_
  unfold pad_zeros at h
  refine .sq ?_
  refine .rg (anm e8 2 5 1 rfl rfl <| .nil _) rfl ?_
  refine .sq ?_
  refine be h fun x1 hx1 h => ?_
  refine .rg (u (mv (.t rfl)) <| mks (F := e8) (z0 := 0) 4 pf29 zf5 (.t rfl) (.t rfl) hx1 rfl <| u (asg (.t rfl)) <| .nil _) rfl ?_
  obtain rfl := Option.some.inj h
  refine .ks (l := [(2, .own 0)]) (o := [(0, some (.arr 5 1 (List.map e8 x1)))]) (fun i => bif Nat.beq i 0 then 4 else i) ?_ (.c rfl .n) (.c rfl .n) rfl
  exact .rt Tryz.func86 (.t rfl <| .n) (.c rfl .n) rfl rfl

theorem pad_zeros_r {n : Int} {r : List Int} (h : pad_zeros n = some r) :
    AC Tryz.prog 86 [.ro (.int .i64 n)] (.ro (.list 1 (List.map e8 r))) [] := AC.fz (pad_zeros_c h) rfl

theorem slices_Grow2_c {n : Int} (hn : growL n = some ()) : AC Tryz.prog 129 [.ro (.raw (.slice none 0 0)), .ro (.int .i64 n)] (.own 0) [(0, .arr 5 1 (([] : List Int).map e8))] := by
  obtain ⟨i, z, hi, hz, hsz, hzs, hpos, hby⟩ := pf29.i
  refine AC.grow (fun n w h1 h2 => ?_) (fun w => slices_Grow2_nil w) hn
  refine (slices_Grow2_new n w h1 h2 i z hi hz (by omega) hby).mono fun e w' hp => ?_
  obtain ⟨rfl, rfl⟩ := hp
  have hG : n ≤ grownCap w n 0 5 := grownCap_ge w _ _ _
  refine ⟨_, _, rfl, ?_, grownCap_le_maxLen w n 0 5 (by unfold maxLen; omega), rfl⟩
  simp only [Array.size_append, size_zeroCells, hzs]
  have h0 : (#[] : Array Value).size = 0 := rfl
  omega

theorem slices_Concat_byte_c {z : Option Nat} {slices : List (List Int)} {r : List Int} (h : slices_Concat_byte z slices = some r) :
    AC Tryz.prog 85 [.ro (.list 1 (List.map (el 1 e8) slices))] (.own 0) [(0, .arr 5 1 (List.map e8 r))] := by
  refine AC.of Tryz.func85 rfl rfl fun w M0 hM => ?_
  unfold slices_Concat_byte at h
  refine .sq ?_
  refine .rg (anm e8 2 5 1 rfl rfl <| .nil _) rfl ?_
  refine .sq ?_
  refine .rg (u (asg (.i rfl)) <| .nil _) rfl ?_
  refine .sq ?_
  refine .sq ?_
  refine .rg (u (mv (.t rfl)) <| u (lnm sf136 (.t rfl)) <| u (mv (.i rfl)) <| .nil _) rfl ?_
  refine .bl ?_
  unfold slices_Concat_byte_l1 at h
  refine .kq (.lo (fun (s : Int × Int) => ⟨[(0, .ro (.list 1 (List.map (el 1 e8) slices))), (3, .ro (.int .i64 s.1)), (9, .ro (.list 1 (List.map (el 1 e8) slices))), (10, .ro (.int .i64 (slices.length : Int))), (11, .ro (.int .i64 s.2))], []⟩) h ?_) (.c rfl (.c rfl (.c rfl (.c rfl (.c rfl .n))))) .n
  rintro ⟨v1, v2⟩ u1 h ih1 hx1
  replace h : slices_Concat_byte_s1 z slices v1 v2 = _ := h
  unfold slices_Concat_byte_s1 at h
  refine .sq ?_
  refine .rg (u (bc (.t rfl) (.t rfl) rfl rfl) <| .nil _) rfl ?_
  refine .sq ?_
  refine .bq h (.t rfl) (fun h => ?_) (fun h => ?_)
  · refine .skp ?_
    refine .sq ?_
    refine .bl ?_
    refine .sq ?_
    refine be h fun x3 hx3 h => ?_
    refine .rg (u (ia sf136 (.t rfl) (.t rfl) (ix_map (el 1 e8) hx3)) <| u (lr tf29 (.t rfl) rfl) <| u (asg (.t rfl)) <| .nil _) rfl ?_
    refine .sq ?_
    refine .rg (u (mv (.t rfl)) <| u (mv (.t rfl)) <| u (lnm sf29 (.t rfl)) <| u (bi (.t rfl) (.t rfl) rfl) <| u (asg (.t rfl)) <| .nil _) rfl ?_
    refine .sq ?_
    refine .rg (u (mv (.t rfl)) <| u (bc (.t rfl) (.i rfl) rfl rfl) <| .nil _) rfl ?_
    refine .jq (t := some u1) (fun (a : Unit) => ⟨[(0, .ro (.list 1 (List.map (el 1 e8) slices))), (3, .ro (.int .i64 (ar .add .i64 v1 (x3.length : Int)))), (9, .ro (.list 1 (List.map (el 1 e8) slices))), (10, .ro (.int .i64 (slices.length : Int))), (11, .ro (.int .i64 v2))], []⟩) (fun (a : Unit) => slices_Concat_byte_j2 z v1 v2 x3) ?_ (fun J2 => ?_)
    · intro _ h
      replace h : slices_Concat_byte_j2 z v1 v2 x3 = _ := h
      unfold slices_Concat_byte_j2 at h
      refine .ib ?_
      refine .rg (u (bi (.t rfl) (.i rfl) rfl) <| u (mv (.t rfl)) <| .nil _) rfl ?_
      exact .kq (.il (ih1 ((ar .add .i64 v1 (x3.length : Int)), (ar .add .i64 v2 1)) (nxi h))) (.c rfl (.c rfl (.c rfl (.c rfl (.c rfl .n))))) .n
    refine .bq h (.t rfl) (fun h => ?_) (fun h => ?_)
    · cases h
    · refine .skp ?_
      exact .kq (J2 () h) (.c rfl (.c rfl (.c rfl (.c rfl (.c rfl .n))))) .n
  · refine .xt rfl ?_
    replace h := mpR h hx1
    refine .sq ?_
    refine be h fun x4 hx4 h => ?_
    refine .rg (u (mv (.t rfl)) <| cnl 24 cf129 (slices_Grow2_c hx4) (.c (.r rfl) <| .c (.t rfl) <| .n) rfl <| u (asg (.t rfl)) <| .nil _) rfl ?_
    refine .sq ?_
    refine .sq ?_
    refine .rg (u (mv (.t rfl)) <| u (lnm sf136 (.t rfl)) <| u (mv (.i rfl)) <| .nil _) rfl ?_
    refine .bl ?_
    unfold slices_Concat_byte_l3 at h
    refine .ks (fun i => bif Nat.beq i 6 then 24 else i) (.lo (fun (s : List Int × Int) => ⟨[(6, .own 6), (25, .ro (.list 1 (List.map (el 1 e8) slices))), (26, .ro (.int .i64 (slices.length : Int))), (27, .ro (.int .i64 s.2))], [(6, some (.arr 5 1 (List.map e8 s.1)))]⟩) h ?_) (.c rfl (.c rfl (.c rfl (.c rfl .n)))) (.c rfl .n) rfl
    rintro ⟨v5, v6⟩ u3 h ih3 hx3
    replace h : slices_Concat_byte_s3 z slices v5 v6 = _ := h
    unfold slices_Concat_byte_s3 at h
    refine .sq ?_
    refine .rg (u (bc (.t rfl) (.t rfl) rfl rfl) <| .nil _) rfl ?_
    refine .sq ?_
    refine .bq h (.t rfl) (fun h => ?_) (fun h => ?_)
    · refine .skp ?_
      refine .sq ?_
      refine .bl ?_
      refine .sq ?_
      refine be h fun x7 hx7 h => ?_
      refine .rg (u (ia sf136 (.t rfl) (.t rfl) (ix_map (el 1 e8) hx7)) <| u (lr tf29 (.t rfl) rfl) <| u (asg (.t rfl)) <| .nil _) rfl ?_
      refine be h fun x8 hx8 h => ?_
      refine .rg (u (mv (.t rfl)) <| u (mv (.t rfl)) <| ap 33 pf29 (.t rfl) rfl (.t rfl) hx8 rfl <| u (asg (.t rfl)) <| .nil _) rfl ?_
      refine .ib ?_
      refine .rg (u (bi (.t rfl) (.i rfl) rfl) <| u (mv (.t rfl)) <| .nil _) rfl ?_
      exact .ks (fun i => bif Nat.beq i 6 then 33 else i) (.il (ih3 (x8, (ar .add .i64 v6 1)) (nxi h))) (.c rfl (.c rfl (.c rfl (.c rfl .n)))) (.c rfl .n) rfl
    · refine .xt rfl ?_
      replace h := mpR h hx3
      refine .sq ?_
      refine .rg (u (mv (.t rfl)) <| u (asg (.t rfl)) <| .nil _) rfl ?_
      obtain rfl := Option.some.inj h
      refine .ks (l := [(2, .own 0)]) (o := [(0, some (.arr 5 1 (List.map e8 v5)))]) (fun i => bif Nat.beq i 0 then 6 else i) ?_ (.c rfl .n) (.c rfl .n) rfl
      exact .rt Tryz.func85 (.t rfl <| .n) (.c rfl .n) rfl rfl

theorem slices_Concat_byte_r {z : Option Nat} {slices : List (List Int)} {r : List Int} (h : slices_Concat_byte z slices = some r) :
    AC Tryz.prog 85 [.ro (.list 1 (List.map (el 1 e8) slices))] (.ro (.list 1 (List.map e8 r))) [] := AC.fz (slices_Concat_byte_c h) rfl

theorem pad_Fill_c {z : Option Nat} {b : List Int} {r : List Int} (h : pad_Fill z b = some r) :
    AC Tryz.prog 142 [.ro (.list 1 (List.map e8 b))] (.own 0) [(0, .arr 5 1 (List.map e8 r))] := by
  refine AC.of Tryz.func142 rfl rfl fun w M0 hM => ?_
  unfold pad_Fill at h
  refine .sq ?_
  refine .rg (anm e8 2 5 1 rfl rfl <| .nil _) rfl ?_
  refine .sq ?_
  refine be h fun x1 hx1 h => ?_
  refine be h fun x2 hx2 h => ?_
  refine .rg (u (mv (.t rfl)) <| u (mv (.t rfl)) <| u (lnm sf29 (.t rfl)) <| u (di (.t rfl) (.i rfl) rfl (by decide)) <| u (bi (.i rfl) (.t rfl) rfl) <| u (di (.t rfl) (.i rfl) rfl (by decide)) <| cl [] cf86 (pad_zeros_r hx1) (.c (.t rfl) <| .n) (.inl rfl) <| nu (bsn (F := (el 1 e8)) (l := [b, x1]) pf136 (.c (.t rfl) rfl <| .c (.t rfl) rfl <| .n) rfl (fun _ _ => rfl) rfl) <| cnf 12000 cf85 (slices_Concat_byte_c hx2) (.c (.t rfl) <| .n) rfl rfl rfl <| u (asg (.t rfl)) <| .nil _) rfl ?_
  obtain rfl := Option.some.inj h
  refine .ks (l := [(2, .own 0)]) (o := [(0, some (.arr 5 1 (List.map e8 x2)))]) (fun i => bif Nat.beq i 0 then 12000 else i) ?_ (.c rfl .n) (.c rfl .n) rfl
  exact .rt Tryz.func142 (.t rfl <| .n) (.c rfl .n) rfl rfl

theorem pad_Fill_r {z : Option Nat} {b : List Int} {r : List Int} (h : pad_Fill z b = some r) :
    AC Tryz.prog 142 [.ro (.list 1 (List.map e8 b))] (.ro (.list 1 (List.map e8 r))) [] := AC.fz (pad_Fill_c h) rfl

theorem elem_Write_c {z : Option Nat} {l : List Elem} {r : Int × List Int × Int} (h : elem_Write z l = some r) :
    AC Tryz.prog 126 [.ro (.list 2 (List.map cells_Elem l))] (.tup [.ro (.int .u16 r.1), .own 0, .ro (.int .i64 r.2.2)]) [(0, .arr 5 1 (List.map e8 r.2.1))] := by
  refine AC.of Tryz.func126 rfl rfl fun w M0 hM => ?_
  unfold elem_Write at h
  refine .sq ?_
  refine .rg (u (asg (.i rfl)) <| anm e8 3 5 1 rfl rfl <| u (asg (.i rfl)) <| .nil _) rfl ?_
  refine .sq ?_
  refine be h fun x1 hx1 h => ?_
  refine .rg (u (mv (.t rfl)) <| cl [] cf141 (elem_Profile_c hx1) (.c (.t rfl) <| .n) (.inl rfl) <| u (asg (.t rfl)) <| .nil _) rfl ?_
  refine .sq ?_
  refine .sq ?_
  refine .rg (u (mv (.t rfl)) <| u (bc (.t rfl) (.i rfl) rfl rfl) <| .nil _) rfl ?_
  refine .bq h (.t rfl) (fun h => ?_) (fun h => ?_)
  · refine .sq ?_
    refine .rg (u (asg (.i rfl)) <| anm e8 100003 5 1 rfl rfl <| u (asg (.i rfl)) <| .nil _) rfl ?_
    obtain rfl := Option.some.inj h
    refine .ks (l := [(2, .ro (.int .u16 0)), (3, .own 0), (4, .ro (.int .i64 1))]) (o := [(0, some (.arr 5 1 (List.map e8 [])))]) (fun i => bif Nat.beq i 0 then 100003 else i) ?_ (.c rfl (.c rfl (.c rfl .n))) (.c rfl .n) rfl
    exact .rt Tryz.func126 (.t rfl <| .t rfl <| .t rfl <| .n) (.c rfl .n) rfl rfl
  · refine .skp ?_
    refine .sq ?_
    refine .rg (anm e8 6 5 1 rfl rfl <| .nil _) rfl ?_
    refine .sq ?_
    refine .sq ?_
    refine .rg (u (mv (.t rfl)) <| u (lnm sf25 (.t rfl)) <| u (mv (.i rfl)) <| .nil _) rfl ?_
    refine .bl ?_
    unfold elem_Write_l1 at h
    refine .kq (.lo (fun (s : List Int × Int) => ⟨[(5, .ro (.int .u16 x1)), (6, .own 6), (13, .ro (.list 2 (List.map cells_Elem l))), (14, .ro (.int .i64 (l.length : Int))), (15, .ro (.int .i64 s.2))], [(6, some (.arr 5 1 (List.map e8 s.1)))]⟩) h ?_) (.c rfl (.c rfl (.c rfl (.c rfl (.c rfl .n))))) (.c rfl .n)
    rintro ⟨v2, v3⟩ u1 h ih1 hx1
    replace h : elem_Write_s1 z l x1 v2 v3 = _ := h
    unfold elem_Write_s1 at h
    refine .sq ?_
    refine .rg (u (bc (.t rfl) (.t rfl) rfl rfl) <| .nil _) rfl ?_
    refine .sq ?_
    refine .bq h (.t rfl) (fun h => ?_) (fun h => ?_)
    · refine .skp ?_
      refine .sq ?_
      refine .bl ?_
      refine .sq ?_
      refine be h fun x4 hx4 h => ?_
      refine .rg (u (ia sf25 (.t rfl) (.t rfl) (ix_map cells_Elem hx4)) <| u (lr tf66 (.t rfl) rfl) <| al 8 zf66 rfl <| st tf66 (.t rfl) rfl (.t rfl) rfl rfl rfl <| .nil _) rfl ?_
      refine .sq ?_
      refine .sq ?_
      refine .rg (u (mv (.t rfl)) <| u (bc (.t rfl) (.i rfl) rfl rfl) <| .nil _) rfl ?_
      refine .jq (t := some u1) (fun (a : List Int) => ⟨[(5, .ro (.int .u16 x1)), (6, .own 6), (8, .ptr 8 0), (13, .ro (.list 2 (List.map cells_Elem l))), (14, .ro (.int .i64 (l.length : Int))), (15, .ro (.int .i64 v3))], [(6, some (.arr 5 1 (List.map e8 a))), (8, some (.box [.ro (.int .i64 x4.id_), .ro (.list 1 (List.map e8 x4.data))]))]⟩) (fun (a : List Int) => elem_Write_j2 z v3 x4 a) ?_ (fun J2 => ?_)
      · intro v5 h
        replace h : elem_Write_j2 z v3 x4 v5 = _ := h
        unfold elem_Write_j2 at h
        refine be h fun x6 hx6 h => ?_
        refine .rg (u (mv (.t rfl)) <| u (fa ff66_1 (.t rfl)) <| u (ld tf29 (.t rfl) rfl rfl) <| ap 46 pf29 (.t rfl) rfl (.t rfl) hx6 rfl <| u (asg (.t rfl)) <| .nil _) rfl ?_
        refine .ib ?_
        refine .rg (u (bi (.t rfl) (.i rfl) rfl) <| u (mv (.t rfl)) <| .nil _) rfl ?_
        exact .ks (fun i => bif Nat.beq i 6 then 46 else i) (.il (ih1 (x6, (ar .add .i64 v3 1)) (nxi h))) (.c rfl (.c rfl (.c rfl (.c rfl (.c rfl .n))))) (.c rfl .n) rfl
      refine .bq h (.t rfl) (fun h => ?_) (fun h => ?_)
      · refine be h fun x7 hx7 h => ?_
        refine .rg (u (mv (.t rfl)) <| u (fa ff66_0 (.t rfl)) <| u (ld tf3 (.t rfl) rfl rfl) <| u (sh (.t rfl) (.i rfl) rfl (by decide)) <| u (fa ff66_1 (.t rfl)) <| u (ld tf29 (.t rfl) rfl rfl) <| u (lnm sf29 (.t rfl)) <| u (bi (.t rfl) (.i rfl) rfl) <| u (bi (.t rfl) (.t rfl) rfl) <| u (cv cv3_5 (.t rfl)) <| bs (F := e8) (l := [(IntKind.u8.wrap (ar .or .i64 (sf .shl .i64 x4.id_ 4) (ar .sub .i64 (x4.data.length : Int) 1)))]) 31 pf29 (.c (.t rfl) rfl <| .n) rfl (fun _ _ => rfl) rfl rfl <| apo 32 pf29 (.t rfl) rfl (.t rfl) rfl hx7 rfl <| u (asg (.t rfl)) <| .nil _) rfl ?_
        exact .ks (fun i => bif Nat.beq i 6 then 32 else i) (J2 x7 h) (.c rfl (.c rfl (.c rfl (.c rfl (.c rfl (.c rfl .n)))))) (.c rfl (.c rfl .n)) rfl
      · refine be h fun x8 hx8 h => ?_
        refine .rg (u (mv (.t rfl)) <| u (fa ff66_0 (.t rfl)) <| u (ld tf3 (.t rfl) rfl rfl) <| u (cv cv3_5 (.t rfl)) <| u (fa ff66_1 (.t rfl)) <| u (ld tf29 (.t rfl) rfl rfl) <| u (lnm sf29 (.t rfl)) <| u (cv cv3_5 (.t rfl)) <| bs (F := e8) (l := [(IntKind.u8.wrap x4.id_), (IntKind.u8.wrap (x4.data.length : Int))]) 41 pf29 (.c (.t rfl) rfl <| .c (.t rfl) rfl <| .n) rfl (fun _ _ => rfl) rfl rfl <| apo 42 pf29 (.t rfl) rfl (.t rfl) rfl hx8 rfl <| u (asg (.t rfl)) <| .nil _) rfl ?_
        exact .ks (fun i => bif Nat.beq i 6 then 42 else i) (J2 x8 h) (.c rfl (.c rfl (.c rfl (.c rfl (.c rfl (.c rfl .n)))))) (.c rfl (.c rfl .n)) rfl
    · refine .xt rfl ?_
      replace h := mpR h hx1
      refine .sq ?_
      refine .fz 6 rfl ?_
      refine be h fun x9 hx9 h => ?_
      refine .rg (u (mv (.t rfl)) <| u (mv (.t rfl)) <| cnf 51000 cf142 (pad_Fill_c hx9) (.c (.t rfl) <| .n) rfl rfl rfl <| u (asg (.t rfl)) <| u (asg (.t rfl)) <| u (asg (.i rfl)) <| .nil _) rfl ?_
      obtain rfl := Option.some.inj h
      refine .ks (l := [(2, .ro (.int .u16 x1)), (3, .own 0), (4, .ro (.int .i64 0))]) (o := [(0, some (.arr 5 1 (List.map e8 x9)))]) (fun i => bif Nat.beq i 0 then 51000 else i) ?_ (.c rfl (.c rfl (.c rfl .n))) (.c rfl .n) rfl
      exact .rt Tryz.func126 (.t rfl <| .t rfl <| .t rfl <| .n) (.c rfl .n) rfl rfl

theorem elem_Write_r {z : Option Nat} {l : List Elem} {r : Int × List Int × Int} (h : elem_Write z l = some r) :
    AC Tryz.prog 126 [.ro (.list 2 (List.map cells_Elem l))] (.ro (.tup [.int .u16 r.1, .list 1 (List.map e8 r.2.1), .int .i64 r.2.2])) [] := AC.fz (elem_Write_c h) rfl

theorem plan_extend_c {z : Option Nat} {p : Plan} {k : Packet} {r : Packet × Bool} (h : plan_extend z p k = some r) :
    AC Tryz.prog 72 [.ro (enc_Plan p), .ro (enc_Packet k)] (.ro (.tup [enc_Packet r.1, .bool r.2])) [] := by
  refine AC.of Tryz.func72 rfl rfl fun w M0 hM => ?_
  unfold plan_extend at h
  refine .sq ?_
  refine .rg (bx 2 (.t rfl) rfl rfl <| bx 3 (.t rfl) rfl rfl <| al 4 zf50 rfl <| u (asg .b) <| .nil _) rfl ?_
  refine .sq ?_
  refine be h fun x1 hx1 h => ?_
  refine .rg (u (ld tf50 (.t rfl) rfl rfl) <| cnf 11000 cf122 (plan_elements_c hx1) (.c (.t rfl) <| .n) rfl rfl rfl <| u (mv (.t rfl)) <| u (ex (.t rfl) rfl rfl) <| u (ex (.t rfl) rfl rfl) <| u (asg (.t rfl)) <| u (asg (.t rfl)) <| .nil _) rfl ?_
  refine .sq ?_
  refine .sq ?_
  refine be h fun x2 hx2 h => ?_
  refine .rg (u (mv (.t rfl)) <| u (no (.t rfl)) <| u (mv (.t rfl)) <| gd rfl rfl (fun hB => ld tf28 (.t rfl) rfl rfl) <| gd rfl rfl (fun hB => mv (.t rfl)) <| cg rfl rfl cf123 (fun hB => (plan_known_c (gTt hx2 (nt hB)))) (fun hB => .c (.m rfl hB) <| .b (.m rfl hB) rfl <| .n) (.inr rfl) <| gd rfl rfl (fun hB => no (.m rfl hB)) <| u (pko (.t rfl) (.t rfl)) <| .nil _) rfl ?_
  refine .bq h (.t rfl) (fun h => ?_) (fun h => ?_)
  · refine .sq ?_
    refine .rg (u (ld tf50 (.t rfl) rfl rfl) <| st tf50 (.t rfl) rfl (.t rfl) rfl rfl rfl <| u (asg .b) <| .nil _) rfl ?_
    obtain rfl := Option.some.inj h
    exact .rt Tryz.func72 (.c tf50 rfl rfl rfl <| .t rfl <| .n) .n rfl rfl
  · refine .skp ?_
    refine .sq ?_
    refine .fz 11000 rfl ?_
    refine be h fun x3 hx3 h => ?_
    refine .rg (u (ld tf28 (.t rfl) rfl rfl) <| u (mv (.t rfl)) <| cl [] cf124 (plan_left_c hx3) (.c (.t rfl) <| .c (.t rfl) <| .n) (.inl rfl) <| u (mv (.t rfl)) <| u (ex (.t rfl) rfl rfl) <| u (ex (.t rfl) rfl rfl) <| u (asg (.t rfl)) <| u (asg (.t rfl)) <| .nil _) rfl ?_
    refine .sq ?_
    refine .sq ?_
    refine .rg (u (mv (.t rfl)) <| u (no (.t rfl)) <| .nil _) rfl ?_
    refine .bq h (.t rfl) (fun h => ?_) (fun h => ?_)
    · refine .sq ?_
      refine .rg (u (ld tf50 (.t rfl) rfl rfl) <| st tf50 (.t rfl) rfl (.t rfl) rfl rfl rfl <| u (asg .b) <| .nil _) rfl ?_
      obtain rfl := Option.some.inj h
      exact .rt Tryz.func72 (.c tf50 rfl rfl rfl <| .t rfl <| .n) .n rfl rfl
    · refine .skp ?_
      refine .sq ?_
      refine .sq ?_
      refine .rg (u (ld tf28 (.t rfl) rfl rfl) <| cl [] cf37 (plan_turns_c p) (.c (.t rfl) <| .n) (.inl rfl) <| u (no (.t rfl)) <| .nil _) rfl ?_
      refine .bq h (.t rfl) (fun h => ?_) (fun h => ?_)
      · refine .sq ?_
        refine be h fun x4 hx4 h => ?_
        refine .rg (u (ld tf28 (.t rfl) rfl rfl) <| u (ld tf50 (.t rfl) rfl rfl) <| cnf 38000 cf125 (plan_inside_c hx4) (.c (.t rfl) <| .c (.t rfl) <| .n) rfl rfl rfl <| u (mv (.t rfl)) <| u (ex (.t rfl) rfl rfl) <| u (ex (.t rfl) rfl rfl) <| u (fa ff50_2 (.t rfl)) <| st tf29 (.t rfl) rfl (.t rfl) rfl rfl rfl <| u (asg (.t rfl)) <| .nil _) rfl ?_
        refine .sq ?_
        refine .rg (u (ld tf50 (.t rfl) rfl rfl) <| u (mv (.t rfl)) <| st tf50 (.t rfl) rfl (.t rfl) rfl rfl rfl <| u (asg (.t rfl)) <| .nil _) rfl ?_
        refine .fz 38000 rfl ?_
        obtain rfl := Option.some.inj h
        exact .rt Tryz.func72 (.c tf50 rfl rfl rfl <| .t rfl <| .n) .n rfl rfl
      · refine .skp ?_
        refine .sq ?_
        refine .rg (u (mv (.t rfl)) <| u (lnm sf25 (.t rfl)) <| u (bc (.t rfl) (.i rfl) rfl rfl) <| u (fa ff50_0 (.t rfl)) <| u (fa ff48_1 (.t rfl)) <| st tf4 (.t rfl) rfl (.t rfl) rfl rfl rfl <| u (fa ff50_1 (.t rfl)) <| st tf22 (.t rfl) rfl (.i rfl) rfl rfl rfl <| u (fa ff50_2 (.t rfl)) <| st tf29 (.t rfl) rfl (.n (sz := 1)) rfl rfl rfl <| .nil _) rfl ?_
        refine .sq ?_
        refine .sq ?_
        refine .rg (u (mv (.t rfl)) <| u (lnm sf25 (.t rfl)) <| u (bc (.t rfl) (.i rfl) rfl rfl) <| .nil _) rfl ?_
        refine .jq (t := some r) (fun (a : Packet) => ⟨[(3, .ptr 3 0), (4, .ptr 4 0)], [(3, some (.box [.ro (.bool a.head.hasPad), .ro (.bool a.head.hasExt), .ro (.bool a.head.marker), .ro (.int .i64 a.head.type), .ro (.int .u16 a.head.seq), .ro (.int .u32 a.head.time), .ro (.int .u32 a.head.ssrc), .ro (.list 1 (List.map (ei .u32) a.head.csrc)), .ro (.int .u16 a.profile), .ro (.list 1 (List.map e8 a.ext)), .ro (.list 1 (List.map e8 a.payload)), .ro (.int .i64 a.pad)])), (4, some (.box [.ro (.bool false), .ro (.bool false), .ro (.bool false), .ro (.int .i64 0), .ro (.int .u16 0), .ro (.int .u32 0), .ro (.int .u32 0), .ro (.list 1 (List.map (ei .u32) [])), .ro (.int .u16 0), .ro (.list 1 (List.map e8 [])), .ro (.list 1 (List.map e8 [])), .ro (.int .i64 0)]))]⟩) (fun (a : Packet) => plan_extend_j1 z a) ?_ (fun J1 => ?_)
        · intro v5 h
          replace h : plan_extend_j1 z v5 = _ := h
          unfold plan_extend_j1 at h
          refine .sq ?_
          refine .rg (u (ld tf50 (.t rfl) rfl rfl) <| st tf50 (.t rfl) rfl (.t rfl) rfl rfl rfl <| u (asg .b) <| .nil _) rfl ?_
          obtain rfl := Option.some.inj h
          exact .rt Tryz.func72 (.c tf50 rfl rfl rfl <| .t rfl <| .n) .n rfl rfl
        refine .bq h (.t rfl) (fun h => ?_) (fun h => ?_)
        · refine be h fun x6 hx6 h => ?_
          refine .rg (u (mv (.t rfl)) <| cnf 56000 cf126 (elem_Write_c hx6) (.c (.t rfl) <| .n) rfl rfl rfl <| u (mv (.t rfl)) <| u (ex (.t rfl) rfl rfl) <| u (ex (.t rfl) rfl rfl) <| u (ex (.t rfl) rfl rfl) <| u (fa ff50_1 (.t rfl)) <| st tf22 (.t rfl) rfl (.t rfl) rfl rfl rfl <| u (fa ff50_2 (.t rfl)) <| st tf29 (.t rfl) rfl (.t rfl) rfl rfl rfl <| .nil _) rfl ?_
          refine .fz 56000 rfl ?_
          exact .kq (J1 (Packet.mk ({ k.head with hasExt := (cm .gtr (x3.1.length : Int) 0) }) x6.1 x6.2.1 k.payload k.pad) h) (.c rfl (.c rfl .n)) (.c rfl (.c rfl .n))
        · refine .skp ?_
          exact .kq (J1 (Packet.mk ({ k.head with hasExt := (cm .gtr (x3.1.length : Int) 0) }) 0 ([] : List Int) k.payload k.pad) h) (.c rfl (.c rfl .n)) (.c rfl (.c rfl .n))

theorem plan_set_c (p : Plan) (p_h : Head) :
    AC Tryz.prog 73 [.ro (enc_Plan p), .ro (enc_Head p_h)] (.ro (enc_Head (plan_set p p_h))) [] := by
  obtain ⟨r, h⟩ : ∃ r, plan_set p p_h = r := ⟨_, rfl⟩
  rw [h]
  refine AC.of Tryz.func73 rfl rfl fun w M0 hM => ?_
  unfold plan_set at h
  refine .sq ?_
  refine .rg (bx 2 (.t rfl) rfl rfl <| bx 3 (.t rfl) rfl rfl <| al 4 zf48 rfl <| .nil _) rfl ?_
  refine .sq ?_
  refine .sq ?_
  refine .rg (u (fa ff28_0 (.t rfl)) <| u (ld tf4 (.t rfl) rfl rfl) <| .nil _) rfl ?_
  refine .jq (t := r) (fun (a : Head) => ⟨[(2, .ptr 2 0), (3, .ptr 3 0), (4, .ptr 4 0)], [(2, some (.box [.ro (.bool p.setMarker), .ro (.bool p.marker), .ro (.bool p.setType), .ro (.int .i64 p.type), .ro (.bool p.setSeq), .ro (.int .u16 p.seq), .ro (.bool p.setTime), .ro (.int .u32 p.time), .ro (.bool p.setSsrc), .ro (.int .u32 p.ssrc), .ro (.list 2 (List.map cells_GMap p.maps)), .ro (.list 2 (List.map cells_Elem p.over)), .ro (.list 1 (List.map (ei .i64) p.drops)), .ro (.list 2 (List.map cells_Elem p.adds)), .ro (.bool p.noPad)])), (3, some (.box [.ro (.bool a.hasPad), .ro (.bool a.hasExt), .ro (.bool a.marker), .ro (.int .i64 a.type), .ro (.int .u16 a.seq), .ro (.int .u32 a.time), .ro (.int .u32 a.ssrc), .ro (.list 1 (List.map (ei .u32) a.csrc))])), (4, some (.box [.ro (.bool false), .ro (.bool false), .ro (.bool false), .ro (.int .i64 0), .ro (.int .u16 0), .ro (.int .u32 0), .ro (.int .u32 0), .ro (.list 1 (List.map (ei .u32) []))]))]⟩) (fun (a : Head) => plan_set_j1 p a) ?_ (fun J1 => ?_)
  · intro v1 h
    replace h : plan_set_j1 p v1 = _ := h
    unfold plan_set_j1 at h
    refine .sq ?_
    refine .sq ?_
    refine .rg (u (fa ff28_2 (.t rfl)) <| u (ld tf4 (.t rfl) rfl rfl) <| .nil _) rfl ?_
    refine .jq (t := r) (fun (a : Head) => ⟨[(2, .ptr 2 0), (3, .ptr 3 0), (4, .ptr 4 0)], [(2, some (.box [.ro (.bool p.setMarker), .ro (.bool p.marker), .ro (.bool p.setType), .ro (.int .i64 p.type), .ro (.bool p.setSeq), .ro (.int .u16 p.seq), .ro (.bool p.setTime), .ro (.int .u32 p.time), .ro (.bool p.setSsrc), .ro (.int .u32 p.ssrc), .ro (.list 2 (List.map cells_GMap p.maps)), .ro (.list 2 (List.map cells_Elem p.over)), .ro (.list 1 (List.map (ei .i64) p.drops)), .ro (.list 2 (List.map cells_Elem p.adds)), .ro (.bool p.noPad)])), (3, some (.box [.ro (.bool a.hasPad), .ro (.bool a.hasExt), .ro (.bool a.marker), .ro (.int .i64 a.type), .ro (.int .u16 a.seq), .ro (.int .u32 a.time), .ro (.int .u32 a.ssrc), .ro (.list 1 (List.map (ei .u32) a.csrc))])), (4, some (.box [.ro (.bool false), .ro (.bool false), .ro (.bool false), .ro (.int .i64 0), .ro (.int .u16 0), .ro (.int .u32 0), .ro (.int .u32 0), .ro (.list 1 (List.map (ei .u32) []))]))]⟩) (fun (a : Head) => plan_set_j2 p a) ?_ (fun J2 => ?_)
    · intro v2 h
      replace h : plan_set_j2 p v2 = _ := h
      unfold plan_set_j2 at h
      refine .sq ?_
      refine .sq ?_
      refine .rg (u (fa ff28_4 (.t rfl)) <| u (ld tf4 (.t rfl) rfl rfl) <| .nil _) rfl ?_
      refine .jq (t := r) (fun (a : Head) => ⟨[(2, .ptr 2 0), (3, .ptr 3 0), (4, .ptr 4 0)], [(2, some (.box [.ro (.bool p.setMarker), .ro (.bool p.marker), .ro (.bool p.setType), .ro (.int .i64 p.type), .ro (.bool p.setSeq), .ro (.int .u16 p.seq), .ro (.bool p.setTime), .ro (.int .u32 p.time), .ro (.bool p.setSsrc), .ro (.int .u32 p.ssrc), .ro (.list 2 (List.map cells_GMap p.maps)), .ro (.list 2 (List.map cells_Elem p.over)), .ro (.list 1 (List.map (ei .i64) p.drops)), .ro (.list 2 (List.map cells_Elem p.adds)), .ro (.bool p.noPad)])), (3, some (.box [.ro (.bool a.hasPad), .ro (.bool a.hasExt), .ro (.bool a.marker), .ro (.int .i64 a.type), .ro (.int .u16 a.seq), .ro (.int .u32 a.time), .ro (.int .u32 a.ssrc), .ro (.list 1 (List.map (ei .u32) a.csrc))])), (4, some (.box [.ro (.bool false), .ro (.bool false), .ro (.bool false), .ro (.int .i64 0), .ro (.int .u16 0), .ro (.int .u32 0), .ro (.int .u32 0), .ro (.list 1 (List.map (ei .u32) []))]))]⟩) (fun (a : Head) => plan_set_j3 p a) ?_ (fun J3 => ?_)
      · intro v3 h
        replace h : plan_set_j3 p v3 = _ := h
        unfold plan_set_j3 at h
        refine .sq ?_
        refine .sq ?_
        refine .rg (u (fa ff28_6 (.t rfl)) <| u (ld tf4 (.t rfl) rfl rfl) <| .nil _) rfl ?_
        refine .jq (t := r) (fun (a : Head) => ⟨[(2, .ptr 2 0), (3, .ptr 3 0), (4, .ptr 4 0)], [(2, some (.box [.ro (.bool p.setMarker), .ro (.bool p.marker), .ro (.bool p.setType), .ro (.int .i64 p.type), .ro (.bool p.setSeq), .ro (.int .u16 p.seq), .ro (.bool p.setTime), .ro (.int .u32 p.time), .ro (.bool p.setSsrc), .ro (.int .u32 p.ssrc), .ro (.list 2 (List.map cells_GMap p.maps)), .ro (.list 2 (List.map cells_Elem p.over)), .ro (.list 1 (List.map (ei .i64) p.drops)), .ro (.list 2 (List.map cells_Elem p.adds)), .ro (.bool p.noPad)])), (3, some (.box [.ro (.bool a.hasPad), .ro (.bool a.hasExt), .ro (.bool a.marker), .ro (.int .i64 a.type), .ro (.int .u16 a.seq), .ro (.int .u32 a.time), .ro (.int .u32 a.ssrc), .ro (.list 1 (List.map (ei .u32) a.csrc))])), (4, some (.box [.ro (.bool false), .ro (.bool false), .ro (.bool false), .ro (.int .i64 0), .ro (.int .u16 0), .ro (.int .u32 0), .ro (.int .u32 0), .ro (.list 1 (List.map (ei .u32) []))]))]⟩) (fun (a : Head) => plan_set_j4 p a) ?_ (fun J4 => ?_)
        · intro v4 h
          replace h : plan_set_j4 p v4 = _ := h
          unfold plan_set_j4 at h
          refine .sq ?_
          refine .sq ?_
          refine .rg (u (fa ff28_8 (.t rfl)) <| u (ld tf4 (.t rfl) rfl rfl) <| .nil _) rfl ?_
          refine .jq (t := r) (fun (a : Head) => ⟨[(3, .ptr 3 0), (4, .ptr 4 0)], [(3, some (.box [.ro (.bool a.hasPad), .ro (.bool a.hasExt), .ro (.bool a.marker), .ro (.int .i64 a.type), .ro (.int .u16 a.seq), .ro (.int .u32 a.time), .ro (.int .u32 a.ssrc), .ro (.list 1 (List.map (ei .u32) a.csrc))])), (4, some (.box [.ro (.bool false), .ro (.bool false), .ro (.bool false), .ro (.int .i64 0), .ro (.int .u16 0), .ro (.int .u32 0), .ro (.int .u32 0), .ro (.list 1 (List.map (ei .u32) []))]))]⟩) (fun (a : Head) => plan_set_j5 a) ?_ (fun J5 => ?_)
          · intro v5 h
            replace h : plan_set_j5 v5 = _ := h
            unfold plan_set_j5 at h
            refine .sq ?_
            refine .rg (u (ld tf48 (.t rfl) rfl rfl) <| st tf48 (.t rfl) rfl (.t rfl) rfl rfl rfl <| .nil _) rfl ?_
            subst h
            exact .rt Tryz.func73 (.c tf48 rfl rfl rfl <| .n) .n rfl rfl
          refine .bq h (.t rfl) (fun h => ?_) (fun h => ?_)
          · refine .rg (u (fa ff28_9 (.t rfl)) <| u (ld tf23 (.t rfl) rfl rfl) <| u (fa ff48_6 (.t rfl)) <| st tf23 (.t rfl) rfl (.t rfl) rfl rfl rfl <| .nil _) rfl ?_
            exact .kq (J5 ({ v4 with ssrc := p.ssrc }) h) (.c rfl (.c rfl .n)) (.c rfl (.c rfl .n))
          · refine .skp ?_
            exact .kq (J5 v4 h) (.c rfl (.c rfl .n)) (.c rfl (.c rfl .n))
        refine .bq h (.t rfl) (fun h => ?_) (fun h => ?_)
        · refine .rg (u (fa ff28_7 (.t rfl)) <| u (ld tf23 (.t rfl) rfl rfl) <| u (fa ff48_5 (.t rfl)) <| st tf23 (.t rfl) rfl (.t rfl) rfl rfl rfl <| .nil _) rfl ?_
          exact .kq (J4 ({ v3 with time := p.time }) h) (.c rfl (.c rfl (.c rfl .n))) (.c rfl (.c rfl (.c rfl .n)))
        · refine .skp ?_
          exact .kq (J4 v3 h) (.c rfl (.c rfl (.c rfl .n))) (.c rfl (.c rfl (.c rfl .n)))
      refine .bq h (.t rfl) (fun h => ?_) (fun h => ?_)
      · refine .rg (u (fa ff28_5 (.t rfl)) <| u (ld tf22 (.t rfl) rfl rfl) <| u (fa ff48_4 (.t rfl)) <| st tf22 (.t rfl) rfl (.t rfl) rfl rfl rfl <| .nil _) rfl ?_
        exact .kq (J3 ({ v2 with seq := p.seq }) h) (.c rfl (.c rfl (.c rfl .n))) (.c rfl (.c rfl (.c rfl .n)))
      · refine .skp ?_
        exact .kq (J3 v2 h) (.c rfl (.c rfl (.c rfl .n))) (.c rfl (.c rfl (.c rfl .n)))
    refine .bq h (.t rfl) (fun h => ?_) (fun h => ?_)
    · refine .rg (u (fa ff28_3 (.t rfl)) <| u (ld tf3 (.t rfl) rfl rfl) <| u (fa ff48_3 (.t rfl)) <| st tf3 (.t rfl) rfl (.t rfl) rfl rfl rfl <| .nil _) rfl ?_
      exact .kq (J2 ({ v1 with type := p.type }) h) (.c rfl (.c rfl (.c rfl .n))) (.c rfl (.c rfl (.c rfl .n)))
    · refine .skp ?_
      exact .kq (J2 v1 h) (.c rfl (.c rfl (.c rfl .n))) (.c rfl (.c rfl (.c rfl .n)))
  refine .bq h (.t rfl) (fun h => ?_) (fun h => ?_)
  · refine .rg (u (fa ff28_1 (.t rfl)) <| u (ld tf4 (.t rfl) rfl rfl) <| u (fa ff48_2 (.t rfl)) <| st tf4 (.t rfl) rfl (.t rfl) rfl rfl rfl <| .nil _) rfl ?_
    exact .kq (J1 ({ p_h with marker := p.marker }) h) (.c rfl (.c rfl (.c rfl .n))) (.c rfl (.c rfl (.c rfl .n)))
  · refine .skp ?_
    exact .kq (J1 p_h h) (.c rfl (.c rfl (.c rfl .n))) (.c rfl (.c rfl (.c rfl .n)))

end Xb
