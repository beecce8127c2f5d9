/- Own text: BWalks. -/
import Derived.Test.YtffmagkhoepfnaaBFacts
set_option linter.all false
set_option linter.unusedVariables false
set_option linter.unusedSimpArgs false
set_option linter.unnecessarySimpa false
set_option linter.deprecated false
namespace Xb
open Go Go.Proofs
set_option linter.unusedVariables false
set_option maxRecDepth 20000

theorem bits_Right_c {k : Ink} {r : Bool} (h : bits_Right k = some r) :
    AC Try.prog 17 [.ro (enc_Ink k)] (.ro (.bool r)) [] := by
  refine AC.of Try.func17 rfl rfl fun w M0 hM => ?_
  unfold bits_Right at h
  refine .sq ?_
  refine .rg (bx 1 (.t rfl) rfl rfl <| u (asg .b) <| .nil _) rfl ?_
  refine .sq ?_
  refine .sq ?_
  refine .rg (u (fa ff27_1 (.t rfl)) <| u (ld tf3 (.t rfl) rfl rfl) <| u (bc (.t rfl) (.i rfl) rfl rfl) <| u (mv (.t rfl)) <| gd rfl rfl (fun hB => fa ff27_0 (.t rfl)) <| gd rfl rfl (fun hB => ld tf22 (.m rfl hB) rfl rfl) <| gd rfl rfl (fun hB => lnm sf22 (.m rfl hB)) <| gd rfl rfl (fun hB => fa ff27_1 (.t rfl)) <| gd rfl rfl (fun hB => ld tf3 (.m rfl hB) rfl rfl) <| gd rfl rfl (fun hB => di (.m rfl hB) (.i rfl) rfl (by decide)) <| gd rfl rfl (fun hB => fa ff27_1 (.t rfl)) <| gd rfl rfl (fun hB => ld tf3 (.m rfl hB) rfl rfl) <| gd rfl rfl (fun hB => di (.m rfl hB) (.i rfl) rfl (by decide)) <| gd rfl rfl (fun hB => mn (.m rfl hB) (.i rfl)) <| gd rfl rfl (fun hB => bi (.m rfl hB) (.m rfl hB) rfl) <| gd rfl rfl (fun hB => bc (.m rfl hB) (.m rfl hB) rfl rfl) <| u (pko (.t rfl) (.t rfl)) <| .nil _) rfl ?_
  refine .bq h (.t rfl) (fun h => ?_) (fun h => ?_)
  · refine .sq ?_
    refine .rg (u (asg .b) <| .nil _) rfl ?_
    obtain rfl := Option.some.inj h
    exact .rt Try.func17 (.t rfl <| .n) .n rfl rfl
  · refine .skp ?_
    refine .sq ?_
    refine .rg (u (fa ff27_0 (.t rfl)) <| u (ld tf22 (.t rfl) rfl rfl) <| u (lnm sf22 (.t rfl)) <| u (bi (.i rfl) (.t rfl) rfl) <| u (fa ff27_1 (.t rfl)) <| u (ld tf3 (.t rfl) rfl rfl) <| u (bi (.t rfl) (.t rfl) rfl) <| u (asg (.t rfl)) <| .nil _) rfl ?_
    refine .sq ?_
    refine be h fun x1 hx1 h => ?_
    refine be h fun x2 hx2 h => ?_
    refine .rd mixed (u (mv (.t rfl)) <| u (bc (.t rfl) (.i rfl) rfl rfl) <| u (mv (.t rfl)) <| gd rfl rfl (fun hB => fa ff27_0 (.t rfl)) <| gd rfl rfl (fun hB => ld tf22 (.m rfl hB) rfl rfl) <| gd rfl rfl (fun hB => fa ff27_0 (.t rfl)) <| gd rfl rfl (fun hB => ld tf22 (.m rfl hB) rfl rfl) <| gd rfl rfl (fun hB => lnm sf22 (.m rfl hB)) <| gd rfl rfl (fun hB => bi (.m rfl hB) (.i rfl) rfl) <| gd rfl rfl (fun hB => ia sf22 (.m rfl hB) (.m rfl hB) (ix_map e8 (gTt hx1 (nt hB)))) <| gd rfl rfl (fun hB => lr tf5 (.m rfl hB) rfl) <| gd rfl rfl (fun hB => mv (.t rfl)) <| gd rfl rfl (fun hB => sho (.i rfl) (.m rfl hB) rfl (gTt hx2 (nt hB))) <| gd rfl rfl (fun hB => bi (.m rfl hB) (.i rfl) rfl) <| gd rfl rfl (fun hB => bi (.m rfl hB) (.m rfl hB) rfl) <| gd rfl rfl (fun hB => bc (.m rfl hB) (.i rfl) rfl rfl) <| u (pko (.t rfl) (.t rfl)) <| u (asg (.t rfl)) <| .nil _) (by kernel_rfl) rfl ?_
    obtain rfl := Option.some.inj h
    exact .rt Try.func17 (.t rfl <| .n) .n rfl rfl

theorem math_bits_Len64_c {x : Int} {r : Int} (h : math_bits_Len64 x = some r) :
    AC Try.prog 30 [.ro (.int .u64 x)] (.ro (.int .i64 r)) [] := by
  refine AC.of Try.func30 rfl rfl fun w M0 hM => ?_
  unfold math_bits_Len64 at h
  refine .sq ?_
  refine .rg (u (asg (.i rfl)) <| .nil _) rfl ?_
  refine .sq ?_
  refine .sq ?_
  refine .rg (u (mv (.t rfl)) <| u (bc (.t rfl) (.i rfl) rfl rfl) <| .nil _) rfl ?_
  refine .jq (t := some r) (fun (a : Int × Int) => ⟨[(0, .ro (.int .u64 a.1)), (2, .ro (.int .i64 a.2))], []⟩) (fun (a : Int × Int) => math_bits_Len64_j1 a.1 a.2) ?_ (fun J1 => ?_)
  · rintro ⟨v1, v2⟩ h
    replace h : math_bits_Len64_j1 v1 v2 = _ := h
    unfold math_bits_Len64_j1 at h
    refine .sq ?_
    refine .sq ?_
    refine .rg (u (mv (.t rfl)) <| u (bc (.t rfl) (.i rfl) rfl rfl) <| .nil _) rfl ?_
    refine .jq (t := some r) (fun (a : Int × Int) => ⟨[(0, .ro (.int .u64 a.1)), (2, .ro (.int .i64 a.2))], []⟩) (fun (a : Int × Int) => math_bits_Len64_j2 a.1 a.2) ?_ (fun J2 => ?_)
    · rintro ⟨v3, v4⟩ h
      replace h : math_bits_Len64_j2 v3 v4 = _ := h
      unfold math_bits_Len64_j2 at h
      refine .sq ?_
      refine .sq ?_
      refine .rg (u (mv (.t rfl)) <| u (bc (.t rfl) (.i rfl) rfl rfl) <| .nil _) rfl ?_
      refine .jq (t := some r) (fun (a : Int × Int) => ⟨[(0, .ro (.int .u64 a.1)), (2, .ro (.int .i64 a.2))], []⟩) (fun (a : Int × Int) => math_bits_Len64_j3 a.1 a.2) ?_ (fun J3 => ?_)
      · rintro ⟨v5, v6⟩ h
        replace h : math_bits_Len64_j3 v5 v6 = _ := h
        unfold math_bits_Len64_j3 at h
        refine .sq ?_
        refine be h fun x7 hx7 h => ?_
        refine .rg (u (mv (.t rfl)) <| u (mv (.t rfl)) <| u (cv cv28_5 (.t rfl)) <| u (is us9 (.s rfl) (.t rfl) hx7) <| u (cv cv5_3 (.t rfl)) <| u (bi (.t rfl) (.t rfl) rfl) <| u (asg (.t rfl)) <| .nil _) rfl ?_
        obtain rfl := Option.some.inj h
        exact .rt Try.func30 (.t rfl <| .n) .n rfl rfl
      refine .bq h (.t rfl) (fun h => ?_) (fun h => ?_)
      · refine .sq ?_
        refine .rg (u (mv (.t rfl)) <| u (sh (.t rfl) (.i rfl) rfl (by decide)) <| u (asg (.t rfl)) <| .nil _) rfl ?_
        refine .rg (u (mv (.t rfl)) <| u (bi (.t rfl) (.i rfl) rfl) <| u (asg (.t rfl)) <| .nil _) rfl ?_
        exact .kq (J3 ((sf .shr .u64 v3 8), (ar .add .i64 v4 8)) h) (.c rfl (.c rfl .n)) .n
      · refine .skp ?_
        exact .kq (J3 (v3, v4) h) (.c rfl (.c rfl .n)) .n
    refine .bq h (.t rfl) (fun h => ?_) (fun h => ?_)
    · refine .sq ?_
      refine .rg (u (mv (.t rfl)) <| u (sh (.t rfl) (.i rfl) rfl (by decide)) <| u (asg (.t rfl)) <| .nil _) rfl ?_
      refine .rg (u (mv (.t rfl)) <| u (bi (.t rfl) (.i rfl) rfl) <| u (asg (.t rfl)) <| .nil _) rfl ?_
      exact .kq (J2 ((sf .shr .u64 v1 16), (ar .add .i64 v2 16)) h) (.c rfl (.c rfl .n)) .n
    · refine .skp ?_
      exact .kq (J2 (v1, v2) h) (.c rfl (.c rfl .n)) .n
  refine .bq h (.t rfl) (fun h => ?_) (fun h => ?_)
  · refine .sq ?_
    refine .rg (u (mv (.t rfl)) <| u (sh (.t rfl) (.i rfl) rfl (by decide)) <| u (asg (.t rfl)) <| .nil _) rfl ?_
    refine .rg (u (asg (.i rfl)) <| .nil _) rfl ?_
    exact .kq (J1 ((sf .shr .u64 x 32), 32) h) (.c rfl (.c rfl .n)) .n
  · refine .skp ?_
    exact .kq (J1 (x, 0) h) (.c rfl (.c rfl .n)) .n

theorem slices_Clone_c {l r : List Int} (h : slices_Clone l = some r) : AC Try.prog 31 [.ro (.list 1 (List.map e8 l))] (.own 0) [(0, .arr 5 1 (List.map e8 r))] := by
  unfold slices_Clone at h
  obtain rfl := app_nil h
  refine AC.of Try.func31 rfl rfl fun w M0 hM => ?_
  refine .sq ?_
  refine .rg (anm e8 0 5 1 rfl rfl <| .nil _) rfl ?_
  refine .sq ?_
  refine .sq ?_
  refine .nq rfl sf22 rfl ⟨rfl, rfl⟩ fun b hb => ?_
  refine .cd (.t rfl) (fun hh => ?_) (fun _ => ?_)
  · have hl := hb hh
    obtain rfl := List.map_eq_nil_iff.1 hl
    refine .sq ?_
    refine .rg (anm e8 10 5 1 rfl rfl <| .nil _) rfl ?_
    refine .ks (l := [(2, .own 0)]) (o := [(0, some (.arr 5 1 (List.map e8 [])))]) (fun i => bif Nat.beq i 0 then 10 else i) ?_ (.c rfl .n) (.c rfl .n) rfl
    exact .rt Try.func31 (.t rfl <| .n) (.c rfl .n) rfl rfl
  · refine .skp ?_
    refine .sq ?_
    refine .rg (bs (F := e8) (l := ([] : List Int)) 5 pf22 .n rfl (fun _ _ => rfl) rfl rfl <| u (mv (.t rfl)) <| ap 7 pf22 (.t rfl) rfl (.t rfl) h rfl <| u (asg (.t rfl)) <| .nil _) rfl ?_
    refine .ks (l := [(2, .own 0)]) (o := [(0, some (.arr 5 1 (List.map e8 l)))]) (fun i => bif Nat.beq i 0 then 7 else i) ?_ (.c rfl .n) (.c rfl .n) rfl
    exact .rt Try.func31 (.t rfl <| .n) (.c rfl .n) rfl rfl

theorem bits_Add_c {z : Option Nat} {k : Ink} {v : Int} {n : Int} {r : Ink × Int} (h : bits_Add z k v n = some r) :
    AC Try.prog 15 [.ro (enc_Ink k), .ro (.int .u64 v), .ro (.int .i64 n)] (.ro (.tup [enc_Ink r.1, .int .i64 r.2])) [] := by
  refine AC.of Try.func15 rfl rfl fun w M0 hM => ?_
  unfold bits_Add at h
  refine .sq ?_
  refine .rg (bx 3 (.t rfl) rfl rfl <| al 6 zf27 rfl <| u (asg (.i rfl)) <| .nil _) rfl ?_
  refine .sq ?_
  refine .bl ?_
  refine .sq ?_
  refine .sq ?_
  refine be h fun x1 hx1 h => ?_
  refine .rg (u (ld tf27 (.t rfl) rfl rfl) <| cl [] cf17 (bits_Right_c hx1) (.c (.t rfl) <| .n) (.inl rfl) <| u (no (.t rfl)) <| u (asg (.t rfl)) <| .nil _) rfl ?_
  refine .jq (t := some r) (fun (a : Bool) => ⟨[(1, .ro (.int .u64 v)), (2, .ro (.int .i64 n)), (3, .ptr 3 0), (6, .ptr 6 0), (11, .ro (.bool a))], [(3, some (.box [.ro (.list 1 (List.map e8 k.bytes)), .ro (.int .i64 k.many)])), (6, some (.box [.ro (.list 1 (List.map e8 [])), .ro (.int .i64 0)]))]⟩) (fun (a : Bool) => bits_Add_j1 z k v n a) ?_ (fun J1 => ?_)
  · intro v2 h
    replace h : bits_Add_j1 z k v n v2 = _ := h
    unfold bits_Add_j1 at h
    refine .bq h (.t rfl) (fun h => ?_) (fun h => ?_)
    · refine .sq ?_
      refine .rg (u (ld tf27 (.t rfl) rfl rfl) <| st tf27 (.t rfl) rfl (.t rfl) rfl rfl rfl <| u (asg (.i rfl)) <| .nil _) rfl ?_
      obtain rfl := Option.some.inj h
      exact .rt Try.func15 (.c tf27 rfl rfl rfl <| .t rfl <| .n) .n rfl rfl
    · refine .sq ?_
      refine be h fun x3 hx3 h => ?_
      refine .rg (u (mv (.t rfl)) <| cl [] cf30 (math_bits_Len64_c hx3) (.c (.t rfl) <| .n) (.inl rfl) <| u (mv (.t rfl)) <| u (bc (.t rfl) (.t rfl) rfl rfl) <| u (asg (.t rfl)) <| .nil _) rfl ?_
      refine .bq h (.t rfl) (fun h => ?_) (fun h => ?_)
      · refine .sq ?_
        refine .rg (u (ld tf27 (.t rfl) rfl rfl) <| st tf27 (.t rfl) rfl (.t rfl) rfl rfl rfl <| u (asg (.i rfl)) <| .nil _) rfl ?_
        obtain rfl := Option.some.inj h
        exact .rt Try.func15 (.c tf27 rfl rfl rfl <| .t rfl <| .n) .n rfl rfl
      · refine .skp ?_
        refine .ib ?_
        refine .sq ?_
        refine be h fun x4 hx4 h => ?_
        refine .rg (u (fa ff27_0 (.t rfl)) <| u (ld tf22 (.t rfl) rfl rfl) <| cnl 28 cf31 (slices_Clone_c hx4) (.c (.t rfl) <| .n) rfl <| u (asg (.t rfl)) <| .nil _) rfl ?_
        refine .sq ?_
        refine .bl ?_
        unfold bits_Add_l2 at h
        refine .ks (fun i => bif Nat.beq i 8 then 28 else i) (.lo (fun (s : Int × List Int × Ink) => ⟨[(1, .ro (.int .u64 v)), (2, .ro (.int .i64 s.1)), (3, .ptr 3 0), (6, .ptr 6 0), (8, .own 8)], [(3, some (.box [.ro (.list 1 (List.map e8 s.2.2.bytes)), .ro (.int .i64 s.2.2.many)])), (6, some (.box [.ro (.list 1 (List.map e8 [])), .ro (.int .i64 0)])), (8, some (.arr 5 1 (List.map e8 s.2.1)))]⟩) h ?_) (.c rfl (.c rfl (.c rfl (.c rfl (.c rfl .n))))) (.c rfl (.c rfl (.c rfl .n))) rfl
        rintro ⟨v5, v6, v7⟩ u2 h ih2 hx2
        replace h : bits_Add_s2 z v v5 v6 v7 = _ := h
        unfold bits_Add_s2 at h
        refine .sq ?_
        refine .sq ?_
        refine .rg (u (mv (.t rfl)) <| u (bc (.t rfl) (.i rfl) rfl rfl) <| .nil _) rfl ?_
        refine .bq h (.t rfl) (fun h => ?_) (fun h => ?_)
        · refine .skp ?_
          refine .bl ?_
          refine .sq ?_
          refine .rg (u (mv (.t rfl)) <| u (lom sf22 (.t rfl) rfl) <| u (bi (.i rfl) (.t rfl) rfl) <| u (fa ff27_1 (.t rfl)) <| u (ld tf3 (.t rfl) rfl rfl) <| u (bi (.t rfl) (.t rfl) rfl) <| u (asg (.t rfl)) <| .nil _) rfl ?_
          refine .sq ?_
          refine .sq ?_
          refine .rg (u (mv (.t rfl)) <| u (bc (.t rfl) (.i rfl) rfl rfl) <| .nil _) rfl ?_
          refine .jq (t := some u2) (fun (a : List Int × Int) => ⟨[(1, .ro (.int .u64 v)), (2, .ro (.int .i64 v5)), (3, .ptr 3 0), (6, .ptr 6 0), (8, .own 8), (9, .ro (.int .i64 a.2))], [(3, some (.box [.ro (.list 1 (List.map e8 v7.bytes)), .ro (.int .i64 v7.many)])), (6, some (.box [.ro (.list 1 (List.map e8 [])), .ro (.int .i64 0)])), (8, some (.arr 5 1 (List.map e8 a.1)))]⟩) (fun (a : List Int × Int) => bits_Add_j3 z v v5 v7 a.1 a.2) ?_ (fun J3 => ?_)
          · rintro ⟨v8, v9⟩ h
            replace h : bits_Add_j3 z v v5 v7 v8 v9 = _ := h
            unfold bits_Add_j3 at h
            refine .sq ?_
            refine .rg (u (mv (.t rfl)) <| u (mv (.t rfl)) <| u (mn (.t rfl) (.t rfl)) <| u (asg (.t rfl)) <| .nil _) rfl ?_
            refine .sq ?_
            refine .rg (u (mv (.t rfl)) <| u (mv (.t rfl)) <| u (bi (.t rfl) (.t rfl) rfl) <| u (asg (.t rfl)) <| .nil _) rfl ?_
            refine .sq ?_
            refine be h fun x10 hx10 h => ?_
            refine be h fun x11 hx11 h => ?_
            refine be h fun x12 hx12 h => ?_
            refine be h fun x13 hx13 h => ?_
            refine be h fun x14 hx14 h => ?_
            refine .rd mixed (u (mv (.t rfl)) <| u (mv (.t rfl)) <| u (lom sf22 (.t rfl) rfl) <| u (bi (.t rfl) (.i rfl) rfl) <| u (io sf22 (.t rfl) rfl (.t rfl) (ix_map e8 hx10)) <| u (le tf5 (.t rfl) rfl (ix_lt (ix_map _ hx10)).2.2 rfl) <| u (mv (.t rfl)) <| u (mv (.t rfl)) <| u (sho (.t rfl) (.t rfl) rfl hx11) <| u (mv (.t rfl)) <| u (sho (.i rfl) (.t rfl) rfl hx12) <| u (bi (.t rfl) (.i rfl) rfl) <| u (bi (.t rfl) (.t rfl) rfl) <| u (cv cv28_5 (.t rfl)) <| u (mv (.t rfl)) <| u (mv (.t rfl)) <| u (bi (.t rfl) (.t rfl) rfl) <| u (sho (.t rfl) (.t rfl) rfl hx13) <| u (bi (.t rfl) (.t rfl) rfl) <| u (io sf22 (.t rfl) rfl (.t rfl) (ix_map e8 hx14)) <| se (q := (ar .or .u8 x10 x13)) tf5 (.t rfl) rfl (.t rfl) rfl rfl rfl (ixn hx14) <| .nil _) (by kernel_rfl) rfl ?_
            refine .rg (u (fa ff27_1 (.t rfl)) <| u (ld tf3 (.t rfl) rfl rfl) <| u (mv (.t rfl)) <| u (bi (.t rfl) (.t rfl) rfl) <| u (fa ff27_1 (.t rfl)) <| st tf3 (.t rfl) rfl (.t rfl) rfl rfl rfl <| .nil _) rfl ?_
            refine .ib ?_
            exact .kq (.il (ih2 ((ar .sub .i64 v5 (imin v9 v5)), (List.set v8 ((ar .sub .i64 (v8.length : Int) 1)).toNat (ar .or .u8 x10 x13)), { v7 with many := (ar .add .i64 v7.many (imin v9 v5)) }) (nxi h))) (.c rfl (.c rfl (.c rfl (.c rfl (.c rfl .n))))) (.c rfl (.c rfl (.c rfl .n)))
          refine .bq h (.t rfl) (fun h => ?_) (fun h => ?_)
          · refine be h fun x15 hx15 h => ?_
            refine .rg (u (mv (.t rfl)) <| bs (F := e8) (l := [0]) 40 pf22 (.c (.i rfl) rfl <| .n) rfl (fun _ _ => rfl) rfl rfl <| apo 41 pf22 (.t rfl) rfl (.t rfl) rfl hx15 rfl <| u (asg (.t rfl)) <| u (asg (.i rfl)) <| .nil _) rfl ?_
            exact .ks (fun i => bif Nat.beq i 8 then 41 else i) (J3 (x15, 8) h) (.c rfl (.c rfl (.c rfl (.c rfl (.c rfl (.c rfl .n)))))) (.c rfl (.c rfl (.c rfl .n))) rfl
          · refine .skp ?_
            exact .kq (J3 (v6, (ar .sub .i64 (ar .mul .i64 8 (v6.length : Int)) v7.many)) h) (.c rfl (.c rfl (.c rfl (.c rfl (.c rfl (.c rfl .n)))))) (.c rfl (.c rfl (.c rfl .n)))
        · refine .xt rfl ?_
          replace h := mpR h hx2
          refine .sq ?_
          refine .rg (u (mv (.t rfl)) <| u (fa ff27_0 (.t rfl)) <| st tf22 (.t rfl) rfl (.t rfl) rfl rfl rfl <| .nil _) rfl ?_
          refine .sq ?_
          refine .rg (u (ld tf27 (.t rfl) rfl rfl) <| st tf27 (.t rfl) rfl (.t rfl) rfl rfl rfl <| u (asg (.i rfl)) <| .nil _) rfl ?_
          refine .fz 8 rfl ?_
          obtain rfl := Option.some.inj h
          exact .rt Try.func15 (.c tf27 rfl rfl rfl <| .t rfl <| .n) .n rfl rfl
  refine .bq h (.t rfl) (fun h => ?_) (fun h => ?_)
  · refine .skp ?_
    exact .kq (J1 (!x1) h) (.c rfl (.c rfl (.c rfl (.c rfl (.c rfl .n))))) (.c rfl (.c rfl .n))
  · refine .sq ?_
    refine .rg (u (mv (.t rfl)) <| u (bc (.t rfl) (.i rfl) rfl rfl) <| u (asg (.t rfl)) <| .nil _) rfl ?_
    refine .bq h (.t rfl) (fun h => ?_) (fun h => ?_)
    · refine .skp ?_
      exact .kq (J1 (cm .lss n 0) h) (.c rfl (.c rfl (.c rfl (.c rfl (.c rfl .n))))) (.c rfl (.c rfl .n))
    · refine .rg (u (mv (.t rfl)) <| u (bc (.t rfl) (.i rfl) rfl rfl) <| u (asg (.t rfl)) <| .nil _) rfl ?_
      exact .kq (J1 (cm .gtr n 64) h) (.c rfl (.c rfl (.c rfl (.c rfl (.c rfl .n))))) (.c rfl (.c rfl .n))

theorem bits_spread_c {n : Int} {r : Int × Int} (h : bits_spread n = some r) :
    AC Try.prog 28 [.ro (.int .u64 n)] (.ro (.tup [.int .i64 r.1, .int .u64 r.2])) [] := by
  refine AC.of Try.func28 rfl rfl fun w M0 hM => ?_
  unfold bits_spread at h
  refine .sq ?_
  refine .rg (u (asg (.i rfl)) <| u (asg (.i rfl)) <| .nil _) rfl ?_
  refine .sq ?_
  refine be h fun x1 hx1 h => ?_
  refine .rg (u (mv (.t rfl)) <| cl [] cf30 (math_bits_Len64_c hx1) (.c (.t rfl) <| .n) (.inl rfl) <| u (asg (.t rfl)) <| .nil _) rfl ?_
  refine .sq ?_
  refine be h fun x2 hx2 h => ?_
  refine .rd mixed (u (mv (.t rfl)) <| u (mv (.t rfl)) <| u (sho (.i rfl) (.t rfl) rfl hx2) <| u (mv (.t rfl)) <| u (bi (.t rfl) (.t rfl) rfl) <| u (asg (.t rfl)) <| u (asg (.t rfl)) <| .nil _) (by kernel_rfl) rfl ?_
  obtain rfl := Option.some.inj h
  exact .rt Try.func28 (.t rfl <| .t rfl <| .n) .n rfl rfl

theorem bits_AddRange_c {z : Option Nat} {k : Ink} {v : Int} {n : Int} {r : Ink × Int} (h : bits_AddRange z k v n = some r) :
    AC Try.prog 20 [.ro (enc_Ink k), .ro (.int .u64 v), .ro (.int .u64 n)] (.ro (.tup [enc_Ink r.1, .int .i64 r.2])) [] := by
  refine AC.of Try.func20 rfl rfl fun w M0 hM => ?_
  unfold bits_AddRange at h
  refine .sq ?_
  refine .rg (bx 3 (.t rfl) rfl rfl <| al 6 zf27 rfl <| u (asg (.i rfl)) <| .nil _) rfl ?_
  refine .sq ?_
  refine .bl ?_
  refine .sq ?_
  refine .sq ?_
  refine be h fun x1 hx1 h => ?_
  refine .rg (u (ld tf27 (.t rfl) rfl rfl) <| cl [] cf17 (bits_Right_c hx1) (.c (.t rfl) <| .n) (.inl rfl) <| u (no (.t rfl)) <| u (asg (.t rfl)) <| .nil _) rfl ?_
  refine .jq (t := some r) (fun (a : Bool) => ⟨[(1, .ro (.int .u64 v)), (2, .ro (.int .u64 n)), (3, .ptr 3 0), (6, .ptr 6 0), (10, .ro (.bool a))], [(3, some (.box [.ro (.list 1 (List.map e8 k.bytes)), .ro (.int .i64 k.many)])), (6, some (.box [.ro (.list 1 (List.map e8 [])), .ro (.int .i64 0)]))]⟩) (fun (a : Bool) => bits_AddRange_j1 z k v n a) ?_ (fun J1 => ?_)
  · intro v2 h
    replace h : bits_AddRange_j1 z k v n v2 = _ := h
    unfold bits_AddRange_j1 at h
    refine .bq h (.t rfl) (fun h => ?_) (fun h => ?_)
    · refine .sq ?_
      refine .rg (u (ld tf27 (.t rfl) rfl rfl) <| st tf27 (.t rfl) rfl (.t rfl) rfl rfl rfl <| u (asg (.i rfl)) <| .nil _) rfl ?_
      obtain rfl := Option.some.inj h
      exact .rt Try.func20 (.c tf27 rfl rfl rfl <| .t rfl <| .n) .n rfl rfl
    · refine .sq ?_
      refine .rg (u (mv (.t rfl)) <| u (mv (.t rfl)) <| u (bc (.t rfl) (.t rfl) rfl rfl) <| u (asg (.t rfl)) <| .nil _) rfl ?_
      refine .bq h (.t rfl) (fun h => ?_) (fun h => ?_)
      · refine .sq ?_
        refine .rg (u (ld tf27 (.t rfl) rfl rfl) <| st tf27 (.t rfl) rfl (.t rfl) rfl rfl rfl <| u (asg (.i rfl)) <| .nil _) rfl ?_
        obtain rfl := Option.some.inj h
        exact .rt Try.func20 (.c tf27 rfl rfl rfl <| .t rfl <| .n) .n rfl rfl
      · refine .skp ?_
        refine .ib ?_
        refine .sq ?_
        refine be h fun x3 hx3 h => ?_
        refine .rg (u (mv (.t rfl)) <| cl [] cf28 (bits_spread_c hx3) (.c (.t rfl) <| .n) (.inl rfl) <| u (mv (.t rfl)) <| u (ex (.t rfl) rfl rfl) <| u (ex (.t rfl) rfl rfl) <| u (asg (.t rfl)) <| u (asg (.t rfl)) <| .nil _) rfl ?_
        refine .sq ?_
        refine .sq ?_
        refine .rg (u (mv (.t rfl)) <| u (mv (.t rfl)) <| u (bc (.t rfl) (.t rfl) rfl rfl) <| .nil _) rfl ?_
        refine .bq h (.t rfl) (fun h => ?_) (fun h => ?_)
        · refine .sq ?_
          refine be h fun x4 hx4 h => ?_
          refine .rg (u (ld tf27 (.t rfl) rfl rfl) <| u (mv (.t rfl)) <| u (mv (.t rfl)) <| u (bi (.t rfl) (.i rfl) rfl) <| cl [] cf15 (bits_Add_c hx4) (.c (.t rfl) <| .c (.t rfl) <| .c (.t rfl) <| .n) (.inl rfl) <| u (ex (.t rfl) rfl rfl) <| u (ex (.t rfl) rfl rfl) <| st tf27 (.t rfl) rfl (.t rfl) rfl rfl rfl <| u (asg (.t rfl)) <| .nil _) rfl ?_
          obtain rfl := Option.some.inj h
          exact .rt Try.func20 (.c tf27 rfl rfl rfl <| .t rfl <| .n) .n rfl rfl
        · refine .skp ?_
          refine .sq ?_
          refine be h fun x5 hx5 h => ?_
          refine .rg (u (ld tf27 (.t rfl) rfl rfl) <| u (mv (.t rfl)) <| u (mv (.t rfl)) <| u (bi (.t rfl) (.t rfl) rfl) <| u (mv (.t rfl)) <| cl [] cf15 (bits_Add_c hx5) (.c (.t rfl) <| .c (.t rfl) <| .c (.t rfl) <| .n) (.inl rfl) <| u (ex (.t rfl) rfl rfl) <| u (ex (.t rfl) rfl rfl) <| st tf27 (.t rfl) rfl (.t rfl) rfl rfl rfl <| u (asg (.t rfl)) <| .nil _) rfl ?_
          obtain rfl := Option.some.inj h
          exact .rt Try.func20 (.c tf27 rfl rfl rfl <| .t rfl <| .n) .n rfl rfl
  refine .bq h (.t rfl) (fun h => ?_) (fun h => ?_)
  · refine .skp ?_
    exact .kq (J1 (!x1) h) (.c rfl (.c rfl (.c rfl (.c rfl (.c rfl .n))))) (.c rfl (.c rfl .n))
  · refine .sq ?_
    refine .rg (u (mv (.t rfl)) <| u (bc (.t rfl) (.i rfl) rfl rfl) <| u (asg (.t rfl)) <| .nil _) rfl ?_
    refine .bq h (.t rfl) (fun h => ?_) (fun h => ?_)
    · refine .skp ?_
      exact .kq (J1 (cm .lss n 1) h) (.c rfl (.c rfl (.c rfl (.c rfl (.c rfl .n))))) (.c rfl (.c rfl .n))
    · refine .rg (u (mv (.t rfl)) <| u (bc (.t rfl) (.i rfl) rfl rfl) <| u (asg (.t rfl)) <| .nil _) rfl ?_
      exact .kq (J1 (cm .gtr n 4294967296) h) (.c rfl (.c rfl (.c rfl (.c rfl (.c rfl .n))))) (.c rfl (.c rfl .n))

theorem bits_Start_c (b : List Int) :
    AC Try.prog 23 [.ro (.list 1 (List.map e8 b))] (.ro (enc_GBits (bits_Start b))) [] := by
  obtain ⟨r, h⟩ : ∃ r, bits_Start b = r := ⟨_, rfl⟩
  rw [h]
  refine AC.of Try.func23 rfl rfl fun w M0 hM => ?_
  unfold bits_Start at h
  refine .sq ?_
  refine .rg (al 2 zf25 rfl <| .nil _) rfl ?_
  refine .sq ?_
  refine .rg (u (mv (.t rfl)) <| u (bd bf25 zf25 (.c rfl (.t rfl) rfl rfl rfl <| .n) rfl) <| st tf25 (.t rfl) rfl (.t rfl) rfl rfl rfl <| .nil _) rfl ?_
  subst h
  exact .rt Try.func23 (.c tf25 rfl rfl rfl <| .n) .n rfl rfl

theorem bits_right_c (c : GBits) :
    AC Try.prog 24 [.ro (enc_GBits c)] (.ro (.bool (bits_right c))) [] := by
  obtain ⟨r, h⟩ : ∃ r, bits_right c = r := ⟨_, rfl⟩
  rw [h]
  refine AC.of Try.func24 rfl rfl fun w M0 hM => ?_
  unfold bits_right at h
  refine .sq ?_
  refine .rg (bx 1 (.t rfl) rfl rfl <| u (asg .b) <| .nil _) rfl ?_
  refine .sq ?_
  refine .rg (u (fa ff25_2 (.t rfl)) <| u (ld tf23 (.t rfl) rfl rfl) <| u (bc (.t rfl) (.i rfl) rfl rfl) <| u (mv (.t rfl)) <| gd rfl rfl (fun hB => fa ff25_1 (.t rfl)) <| gd rfl rfl (fun hB => ld tf3 (.m rfl hB) rfl rfl) <| gd rfl rfl (fun hB => bc (.m rfl hB) (.i rfl) rfl rfl) <| u (pka (.t rfl) (.t rfl)) <| u (mv (.t rfl)) <| gd rfl rfl (fun hB => fa ff25_1 (.t rfl)) <| gd rfl rfl (fun hB => ld tf3 (.m rfl hB) rfl rfl) <| gd rfl rfl (fun hB => fa ff25_0 (.t rfl)) <| gd rfl rfl (fun hB => ld tf22 (.m rfl hB) rfl rfl) <| gd rfl rfl (fun hB => lnm sf22 (.m rfl hB)) <| gd rfl rfl (fun hB => bi (.i rfl) (.m rfl hB) rfl) <| gd rfl rfl (fun hB => bc (.m rfl hB) (.m rfl hB) rfl rfl) <| u (pka (.t rfl) (.t rfl)) <| u (asg (.t rfl)) <| .nil _) rfl ?_
  subst h
  exact .rt Try.func24 (.t rfl <| .n) .n rfl rfl

theorem bits_fail_c (c : GBits) (e : Int) :
    AC Try.prog 25 [.ro (enc_GBits c), .ro (.int .i64 e)] (.ro (.tup [enc_GBits ((bits_fail c e).1), .int .u64 ((bits_fail c e).2)])) [] := by
  obtain ⟨r, h⟩ : ∃ r, bits_fail c e = r := ⟨_, rfl⟩
  rw [h]
  refine AC.of Try.func25 rfl rfl fun w M0 hM => ?_
  unfold bits_fail at h
  refine .sq ?_
  refine .rg (bx 2 (.t rfl) rfl rfl <| al 4 zf25 rfl <| u (asg (.i rfl)) <| .nil _) rfl ?_
  refine .sq ?_
  refine .sq ?_
  refine .rg (u (fa ff25_2 (.t rfl)) <| u (ld tf23 (.t rfl) rfl rfl) <| u (bc (.t rfl) (.i rfl) rfl rfl) <| .nil _) rfl ?_
  refine .jq (t := r) (fun (a : GBits) => ⟨[(2, .ptr 2 0), (4, .ptr 4 0)], [(2, some (.box [.ro (.list 1 (List.map e8 a.bytes)), .ro (.int .i64 a.at_), .ro (.int .i64 a.err)])), (4, some (.box [.ro (.list 1 (List.map e8 [])), .ro (.int .i64 0), .ro (.int .i64 0)]))]⟩) (fun (a : GBits) => bits_fail_j1 a) ?_ (fun J1 => ?_)
  · intro v1 h
    replace h : bits_fail_j1 v1 = _ := h
    unfold bits_fail_j1 at h
    refine .sq ?_
    refine .rg (u (ld tf25 (.t rfl) rfl rfl) <| st tf25 (.t rfl) rfl (.t rfl) rfl rfl rfl <| u (asg (.i rfl)) <| .nil _) rfl ?_
    subst h
    exact .rt Try.func25 (.c tf25 rfl rfl rfl <| .t rfl <| .n) .n rfl rfl
  refine .bq h (.t rfl) (fun h => ?_) (fun h => ?_)
  · refine .rg (u (mv (.t rfl)) <| u (fa ff25_2 (.t rfl)) <| st tf23 (.t rfl) rfl (.t rfl) rfl rfl rfl <| .nil _) rfl ?_
    exact .kq (J1 ({ c with err := e }) h) (.c rfl (.c rfl .n)) (.c rfl (.c rfl .n))
  · refine .skp ?_
    exact .kq (J1 c h) (.c rfl (.c rfl .n)) (.c rfl (.c rfl .n))

theorem bits_Left_c (c : GBits) :
    AC Try.prog 11 [.ro (enc_GBits c)] (.ro (.int .i64 (bits_Left c))) [] := by
  obtain ⟨r, h⟩ : ∃ r, bits_Left c = r := ⟨_, rfl⟩
  rw [h]
  refine AC.of Try.func11 rfl rfl fun w M0 hM => ?_
  unfold bits_Left at h
  refine .sq ?_
  refine .rg (bx 1 (.t rfl) rfl rfl <| u (asg (.i rfl)) <| .nil _) rfl ?_
  refine .sq ?_
  refine .sq ?_
  refine .rg (u (ld tf25 (.t rfl) rfl rfl) <| cl [] cf24 (bits_right_c c) (.c (.t rfl) <| .n) (.inl rfl) <| u (no (.t rfl)) <| .nil _) rfl ?_
  refine .bq h (.t rfl) (fun h => ?_) (fun h => ?_)
  · refine .sq ?_
    refine .rg (u (asg (.i rfl)) <| .nil _) rfl ?_
    subst h
    exact .rt Try.func11 (.t rfl <| .n) .n rfl rfl
  · refine .skp ?_
    refine .sq ?_
    refine .rg (u (fa ff25_0 (.t rfl)) <| u (ld tf22 (.t rfl) rfl rfl) <| u (lnm sf22 (.t rfl)) <| u (bi (.i rfl) (.t rfl) rfl) <| u (fa ff25_1 (.t rfl)) <| u (ld tf3 (.t rfl) rfl rfl) <| u (bi (.t rfl) (.t rfl) rfl) <| u (asg (.t rfl)) <| .nil _) rfl ?_
    subst h
    exact .rt Try.func11 (.t rfl <| .n) .n rfl rfl

theorem bits_Get_c {z : Option Nat} {c : GBits} {n : Int} {r : GBits × Int} (h : bits_Get z c n = some r) :
    AC Try.prog 9 [.ro (enc_GBits c), .ro (.int .i64 n)] (.ro (.tup [enc_GBits r.1, .int .u64 r.2])) [] := by
  refine AC.of Try.func9 rfl rfl fun w M0 hM => ?_
  unfold bits_Get at h
  refine .sq ?_
  refine .rg (bx 2 (.t rfl) rfl rfl <| al 4 zf25 rfl <| u (asg (.i rfl)) <| .nil _) rfl ?_
  refine .sq ?_
  refine .bl ?_
  refine .sq ?_
  refine .sq ?_
  refine .rg (u (ld tf25 (.t rfl) rfl rfl) <| cl [] cf24 (bits_right_c c) (.c (.t rfl) <| .n) (.inl rfl) <| u (no (.t rfl)) <| u (asg (.t rfl)) <| .nil _) rfl ?_
  refine .jq (t := some r) (fun (a : Bool) => ⟨[(1, .ro (.int .i64 n)), (2, .ptr 2 0), (4, .ptr 4 0), (10, .ro (.bool a))], [(2, some (.box [.ro (.list 1 (List.map e8 c.bytes)), .ro (.int .i64 c.at_), .ro (.int .i64 c.err)])), (4, some (.box [.ro (.list 1 (List.map e8 [])), .ro (.int .i64 0), .ro (.int .i64 0)]))]⟩) (fun (a : Bool) => bits_Get_j1 z c n a) ?_ (fun J1 => ?_)
  · intro v1 h
    replace h : bits_Get_j1 z c n v1 = _ := h
    unfold bits_Get_j1 at h
    refine .bq h (.t rfl) (fun h => ?_) (fun h => ?_)
    · refine .sq ?_
      refine .rg (u (ld tf25 (.t rfl) rfl rfl) <| cl [] cf25 (bits_fail_c c 1) (.c (.t rfl) <| .c (.i rfl) <| .n) (.inl rfl) <| u (ex (.t rfl) rfl rfl) <| u (ex (.t rfl) rfl rfl) <| st tf25 (.t rfl) rfl (.t rfl) rfl rfl rfl <| u (asg (.t rfl)) <| .nil _) rfl ?_
      obtain rfl := Option.some.inj h
      exact .rt Try.func9 (.c tf25 rfl rfl rfl <| .t rfl <| .n) .n rfl rfl
    · refine .sq ?_
      refine .rg (u (mv (.t rfl)) <| u (ld tf25 (.t rfl) rfl rfl) <| cl [] cf11 (bits_Left_c c) (.c (.t rfl) <| .n) (.inl rfl) <| u (bc (.t rfl) (.t rfl) rfl rfl) <| u (asg (.t rfl)) <| .nil _) rfl ?_
      refine .bq h (.t rfl) (fun h => ?_) (fun h => ?_)
      · refine .sq ?_
        refine .rg (u (ld tf25 (.t rfl) rfl rfl) <| cl [] cf25 (bits_fail_c c 2) (.c (.t rfl) <| .c (.i rfl) <| .n) (.inl rfl) <| u (ex (.t rfl) rfl rfl) <| u (ex (.t rfl) rfl rfl) <| st tf25 (.t rfl) rfl (.t rfl) rfl rfl rfl <| u (asg (.t rfl)) <| .nil _) rfl ?_
        obtain rfl := Option.some.inj h
        exact .rt Try.func9 (.c tf25 rfl rfl rfl <| .t rfl <| .n) .n rfl rfl
      · refine .skp ?_
        refine .ib ?_
        refine .sq ?_
        refine .rg (u (asg (.i rfl)) <| .nil _) rfl ?_
        refine .sq ?_
        refine .bl ?_
        unfold bits_Get_l2 at h
        refine .kq (.lo (fun (s : Int × Int × GBits) => ⟨[(1, .ro (.int .i64 s.1)), (2, .ptr 2 0), (4, .ptr 4 0), (6, .ro (.int .u64 s.2.1))], [(2, some (.box [.ro (.list 1 (List.map e8 s.2.2.bytes)), .ro (.int .i64 s.2.2.at_), .ro (.int .i64 s.2.2.err)])), (4, some (.box [.ro (.list 1 (List.map e8 [])), .ro (.int .i64 0), .ro (.int .i64 0)]))]⟩) h ?_) (.c rfl (.c rfl (.c rfl (.c rfl .n)))) (.c rfl (.c rfl .n))
        rintro ⟨v2, v3, v4⟩ u2 h ih2 hx2
        replace h : bits_Get_s2 z v2 v3 v4 = _ := h
        unfold bits_Get_s2 at h
        refine .sq ?_
        refine .sq ?_
        refine .rg (u (mv (.t rfl)) <| u (bc (.t rfl) (.i rfl) rfl rfl) <| .nil _) rfl ?_
        refine .bq h (.t rfl) (fun h => ?_) (fun h => ?_)
        · refine .skp ?_
          refine .bl ?_
          refine .sq ?_
          refine .rg (u (fa ff25_1 (.t rfl)) <| u (ld tf3 (.t rfl) rfl rfl) <| u (di (.t rfl) (.i rfl) rfl (by decide)) <| u (bi (.i rfl) (.t rfl) rfl) <| u (asg (.t rfl)) <| .nil _) rfl ?_
          refine .sq ?_
          refine .rg (u (mv (.t rfl)) <| u (mv (.t rfl)) <| u (mn (.t rfl) (.t rfl)) <| u (asg (.t rfl)) <| .nil _) rfl ?_
          refine .sq ?_
          refine be h fun x5 hx5 h => ?_
          refine be h fun x6 hx6 h => ?_
          refine be h fun x7 hx7 h => ?_
          refine .rd mixed (u (fa ff25_0 (.t rfl)) <| u (ld tf22 (.t rfl) rfl rfl) <| u (fa ff25_1 (.t rfl)) <| u (ld tf3 (.t rfl) rfl rfl) <| u (di (.t rfl) (.i rfl) rfl (by decide)) <| u (ia sf22 (.t rfl) (.t rfl) (ix_map e8 hx5)) <| u (lr tf5 (.t rfl) rfl) <| u (mv (.t rfl)) <| u (mv (.t rfl)) <| u (bi (.t rfl) (.t rfl) rfl) <| u (sho (.t rfl) (.t rfl) rfl hx6) <| u (mv (.t rfl)) <| u (sho (.i rfl) (.t rfl) rfl hx7) <| u (bi (.t rfl) (.i rfl) rfl) <| u (bi (.t rfl) (.t rfl) rfl) <| u (asg (.t rfl)) <| .nil _) (by kernel_rfl) rfl ?_
          refine .sq ?_
          refine be h fun x8 hx8 h => ?_
          refine .rg (u (mv (.t rfl)) <| u (mv (.t rfl)) <| u (sho (.t rfl) (.t rfl) rfl hx8) <| u (mv (.t rfl)) <| u (cv cv5_28 (.t rfl)) <| u (bi (.t rfl) (.t rfl) rfl) <| u (asg (.t rfl)) <| .nil _) rfl ?_
          refine .sq ?_
          refine .rg (u (fa ff25_1 (.t rfl)) <| u (ld tf3 (.t rfl) rfl rfl) <| u (mv (.t rfl)) <| u (bi (.t rfl) (.t rfl) rfl) <| u (fa ff25_1 (.t rfl)) <| st tf3 (.t rfl) rfl (.t rfl) rfl rfl rfl <| .nil _) rfl ?_
          refine .rg (u (mv (.t rfl)) <| u (mv (.t rfl)) <| u (bi (.t rfl) (.t rfl) rfl) <| u (asg (.t rfl)) <| .nil _) rfl ?_
          refine .ib ?_
          exact .kq (.il (ih2 ((ar .sub .i64 v2 (imin (ar .sub .i64 8 (dv .rem .i64 v4.at_ 8)) v2)), (ar .or .u64 x8 (IntKind.u64.wrap (ar .and .u8 x6 (ar .sub .u8 x7 1)))), { v4 with at_ := (ar .add .i64 v4.at_ (imin (ar .sub .i64 8 (dv .rem .i64 v4.at_ 8)) v2)) }) (nxi h))) (.c rfl (.c rfl (.c rfl (.c rfl .n)))) (.c rfl (.c rfl .n))
        · refine .xt rfl ?_
          replace h := mpR h hx2
          refine .sq ?_
          refine .rg (u (ld tf25 (.t rfl) rfl rfl) <| u (mv (.t rfl)) <| st tf25 (.t rfl) rfl (.t rfl) rfl rfl rfl <| u (asg (.t rfl)) <| .nil _) rfl ?_
          obtain rfl := Option.some.inj h
          exact .rt Try.func9 (.c tf25 rfl rfl rfl <| .t rfl <| .n) .n rfl rfl
  refine .bq h (.t rfl) (fun h => ?_) (fun h => ?_)
  · refine .skp ?_
    exact .kq (J1 (!(bits_right c)) h) (.c rfl (.c rfl (.c rfl (.c rfl .n)))) (.c rfl (.c rfl .n))
  · refine .sq ?_
    refine .rg (u (mv (.t rfl)) <| u (bc (.t rfl) (.i rfl) rfl rfl) <| u (asg (.t rfl)) <| .nil _) rfl ?_
    refine .bq h (.t rfl) (fun h => ?_) (fun h => ?_)
    · refine .skp ?_
      exact .kq (J1 (cm .lss n 0) h) (.c rfl (.c rfl (.c rfl (.c rfl .n)))) (.c rfl (.c rfl .n))
    · refine .rg (u (mv (.t rfl)) <| u (bc (.t rfl) (.i rfl) rfl rfl) <| u (asg (.t rfl)) <| .nil _) rfl ?_
      exact .kq (J1 (cm .gtr n 64) h) (.c rfl (.c rfl (.c rfl (.c rfl .n)))) (.c rfl (.c rfl .n))

theorem bits_Range_c {z : Option Nat} {c : GBits} {n : Int} {r : GBits × Int} (h : bits_Range z c n = some r) :
    AC Try.prog 13 [.ro (enc_GBits c), .ro (.int .u64 n)] (.ro (.tup [enc_GBits r.1, .int .u64 r.2])) [] := by
  refine AC.of Try.func13 rfl rfl fun w M0 hM => ?_
  unfold bits_Range at h
  refine .sq ?_
  refine .rg (bx 2 (.t rfl) rfl rfl <| al 4 zf25 rfl <| u (asg (.i rfl)) <| .nil _) rfl ?_
  refine .sq ?_
  refine .sq ?_
  refine .rg (u (ld tf25 (.t rfl) rfl rfl) <| cl [] cf24 (bits_right_c c) (.c (.t rfl) <| .n) (.inl rfl) <| u (no (.t rfl)) <| u (mv (.t rfl)) <| gd rfl rfl (fun hB => mv (.t rfl)) <| gd rfl rfl (fun hB => bc (.m rfl hB) (.i rfl) rfl rfl) <| u (pko (.t rfl) (.t rfl)) <| u (mv (.t rfl)) <| gd rfl rfl (fun hB => mv (.t rfl)) <| gd rfl rfl (fun hB => bc (.m rfl hB) (.i rfl) rfl rfl) <| u (pko (.t rfl) (.t rfl)) <| .nil _) rfl ?_
  refine .bq h (.t rfl) (fun h => ?_) (fun h => ?_)
  · refine .sq ?_
    refine .rg (u (ld tf25 (.t rfl) rfl rfl) <| cl [] cf25 (bits_fail_c c 1) (.c (.t rfl) <| .c (.i rfl) <| .n) (.inl rfl) <| u (ex (.t rfl) rfl rfl) <| u (ex (.t rfl) rfl rfl) <| st tf25 (.t rfl) rfl (.t rfl) rfl rfl rfl <| u (asg (.t rfl)) <| .nil _) rfl ?_
    obtain rfl := Option.some.inj h
    exact .rt Try.func13 (.c tf25 rfl rfl rfl <| .t rfl <| .n) .n rfl rfl
  · refine .skp ?_
    refine .sq ?_
    refine be h fun x1 hx1 h => ?_
    refine .rg (u (mv (.t rfl)) <| cl [] cf28 (bits_spread_c hx1) (.c (.t rfl) <| .n) (.inl rfl) <| u (mv (.t rfl)) <| u (ex (.t rfl) rfl rfl) <| u (ex (.t rfl) rfl rfl) <| u (asg (.t rfl)) <| u (asg (.t rfl)) <| .nil _) rfl ?_
    refine .sq ?_
    refine be h fun x2 hx2 h => ?_
    refine .rg (u (ld tf25 (.t rfl) rfl rfl) <| u (mv (.t rfl)) <| u (bi (.t rfl) (.i rfl) rfl) <| cl [] cf9 (bits_Get_c hx2) (.c (.t rfl) <| .c (.t rfl) <| .n) (.inl rfl) <| u (mv (.t rfl)) <| u (ex (.t rfl) rfl rfl) <| u (ex (.t rfl) rfl rfl) <| al 8 zf25 rfl <| st tf25 (.t rfl) rfl (.t rfl) rfl rfl rfl <| u (asg (.t rfl)) <| .nil _) rfl ?_
    refine .sq ?_
    refine .sq ?_
    refine .rg (u (fa ff25_2 (.t rfl)) <| u (ld tf23 (.t rfl) rfl rfl) <| u (bc (.t rfl) (.i rfl) rfl rfl) <| u (mv (.t rfl)) <| gd rfl rfl (fun hB => mv (.t rfl)) <| gd rfl rfl (fun hB => mv (.t rfl)) <| gd rfl rfl (fun hB => bc (.m rfl hB) (.m rfl hB) rfl rfl) <| u (pka (.t rfl) (.t rfl)) <| .nil _) rfl ?_
    refine .jq (t := some r) (fun (a : Int × GBits) => ⟨[(2, .ptr 2 0), (4, .ptr 4 0), (8, .ptr 8 0), (9, .ro (.int .u64 a.1))], [(2, some (.box [.ro (.list 1 (List.map e8 c.bytes)), .ro (.int .i64 c.at_), .ro (.int .i64 c.err)])), (4, some (.box [.ro (.list 1 (List.map e8 [])), .ro (.int .i64 0), .ro (.int .i64 0)])), (8, some (.box [.ro (.list 1 (List.map e8 a.2.bytes)), .ro (.int .i64 a.2.at_), .ro (.int .i64 a.2.err)]))]⟩) (fun (a : Int × GBits) => bits_Range_j1 z c a.1 a.2) ?_ (fun J1 => ?_)
    · rintro ⟨v3, v4⟩ h
      replace h : bits_Range_j1 z c v3 v4 = _ := h
      unfold bits_Range_j1 at h
      refine .sq ?_
      refine .sq ?_
      refine .rg (u (fa ff25_2 (.t rfl)) <| u (ld tf23 (.t rfl) rfl rfl) <| u (bc (.t rfl) (.i rfl) rfl rfl) <| .nil _) rfl ?_
      refine .bq h (.t rfl) (fun h => ?_) (fun h => ?_)
      · refine .sq ?_
        refine .rg (u (ld tf25 (.t rfl) rfl rfl) <| u (fa ff25_2 (.t rfl)) <| u (ld tf23 (.t rfl) rfl rfl) <| cl [] cf25 (bits_fail_c c v4.err) (.c (.t rfl) <| .c (.t rfl) <| .n) (.inl rfl) <| u (ex (.t rfl) rfl rfl) <| u (ex (.t rfl) rfl rfl) <| st tf25 (.t rfl) rfl (.t rfl) rfl rfl rfl <| u (asg (.t rfl)) <| .nil _) rfl ?_
        obtain rfl := Option.some.inj h
        exact .rt Try.func13 (.c tf25 rfl rfl rfl <| .t rfl <| .n) .n rfl rfl
      · refine .skp ?_
        refine .sq ?_
        refine .rg (u (ld tf25 (.t rfl) rfl rfl) <| u (mv (.t rfl)) <| st tf25 (.t rfl) rfl (.t rfl) rfl rfl rfl <| u (asg (.t rfl)) <| .nil _) rfl ?_
        obtain rfl := Option.some.inj h
        exact .rt Try.func13 (.c tf25 rfl rfl rfl <| .t rfl <| .n) .n rfl rfl
    refine .bq h (.t rfl) (fun h => ?_) (fun h => ?_)
    · refine .sq ?_
      refine .rg (u (asg (.i rfl)) <| .nil _) rfl ?_
      refine .sq ?_
      refine be h fun x5 hx5 h => ?_
      refine .rg (u (ld tf25 (.t rfl) rfl rfl) <| cl [] cf9 (bits_Get_c hx5) (.c (.t rfl) <| .c (.i rfl) <| .n) (.inl rfl) <| u (mv (.t rfl)) <| u (ex (.t rfl) rfl rfl) <| u (ex (.t rfl) rfl rfl) <| st tf25 (.t rfl) rfl (.t rfl) rfl rfl rfl <| u (asg (.t rfl)) <| .nil _) rfl ?_
      refine .rg (u (mv (.t rfl)) <| u (sh (.t rfl) (.i rfl) rfl (by decide)) <| u (mv (.t rfl)) <| u (bi (.t rfl) (.t rfl) rfl) <| u (mv (.t rfl)) <| u (bi (.t rfl) (.t rfl) rfl) <| u (asg (.t rfl)) <| .nil _) rfl ?_
      exact .kq (J1 ((ar .sub .u64 (ar .add .u64 (sf .shl .u64 x2.2 1) x5.2) x1.2), x5.1) h) (.c rfl (.c rfl (.c rfl (.c rfl .n)))) (.c rfl (.c rfl (.c rfl .n)))
    · refine .skp ?_
      exact .kq (J1 (x2.2, x2.1) h) (.c rfl (.c rfl (.c rfl (.c rfl .n)))) (.c rfl (.c rfl (.c rfl .n)))

theorem law02_awake_c {z : Option Nat}  {r : Bool} (h : law02_awake z = some r) :
    AC Try.prog 7 [] (.ro (.bool r)) [] := by
  refine AC.of Try.func7 rfl rfl fun w M0 hM => ?_
  unfold law02_awake at h
  refine .sq ?_
  refine .rg (u (asg .b) <| .nil _) rfl ?_
  refine .sq ?_
  refine be h fun x1 hx1 h => ?_
  refine .rg (u (bd bf27 zf27 (.n) rfl) <| cl [] cf15 (bits_Add_c hx1) (.c (.t rfl) <| .c (.i rfl) <| .c (.i rfl) <| .n) (.inl rfl) <| u (mv (.t rfl)) <| u (ex (.t rfl) rfl rfl) <| u (ex (.t rfl) rfl rfl) <| al 1 zf27 rfl <| st tf27 (.t rfl) rfl (.t rfl) rfl rfl rfl <| u (asg (.t rfl)) <| .nil _) rfl ?_
  refine .sq ?_
  refine be h fun x2 hx2 h => ?_
  refine .rg (u (ld tf27 (.t rfl) rfl rfl) <| cl [] cf20 (bits_AddRange_c hx2) (.c (.t rfl) <| .c (.i rfl) <| .c (.i rfl) <| .n) (.inl rfl) <| u (mv (.t rfl)) <| u (ex (.t rfl) rfl rfl) <| u (ex (.t rfl) rfl rfl) <| st tf27 (.t rfl) rfl (.t rfl) rfl rfl rfl <| u (asg (.t rfl)) <| .nil _) rfl ?_
  refine .sq ?_
  refine be h fun x3 hx3 h => ?_
  refine .rg (u (ld tf27 (.t rfl) rfl rfl) <| cl [] cf15 (bits_Add_c hx3) (.c (.t rfl) <| .c (.i rfl) <| .c (.i rfl) <| .n) (.inl rfl) <| u (mv (.t rfl)) <| u (ex (.t rfl) rfl rfl) <| u (ex (.t rfl) rfl rfl) <| st tf27 (.t rfl) rfl (.t rfl) rfl rfl rfl <| u (asg (.t rfl)) <| .nil _) rfl ?_
  refine .sq ?_
  refine be h fun x4 hx4 h => ?_
  refine .rg (u (fa ff27_0 (.t rfl)) <| u (ld tf22 (.t rfl) rfl rfl) <| cl [] cf23 (bits_Start_c x3.1.bytes) (.c (.t rfl) <| .n) (.inl rfl) <| cl [] cf9 (bits_Get_c hx4) (.c (.t rfl) <| .c (.i rfl) <| .n) (.inl rfl) <| u (mv (.t rfl)) <| u (ex (.t rfl) rfl rfl) <| u (ex (.t rfl) rfl rfl) <| al 5 zf25 rfl <| st tf25 (.t rfl) rfl (.t rfl) rfl rfl rfl <| u (asg (.t rfl)) <| .nil _) rfl ?_
  refine .sq ?_
  refine be h fun x5 hx5 h => ?_
  refine .rg (u (ld tf25 (.t rfl) rfl rfl) <| cl [] cf13 (bits_Range_c hx5) (.c (.t rfl) <| .c (.i rfl) <| .n) (.inl rfl) <| u (mv (.t rfl)) <| u (ex (.t rfl) rfl rfl) <| u (ex (.t rfl) rfl rfl) <| st tf25 (.t rfl) rfl (.t rfl) rfl rfl rfl <| u (asg (.t rfl)) <| .nil _) rfl ?_
  refine .sq ?_
  refine be h fun x6 hx6 h => ?_
  refine .rg (u (ld tf25 (.t rfl) rfl rfl) <| cl [] cf9 (bits_Get_c hx6) (.c (.t rfl) <| .c (.i rfl) <| .n) (.inl rfl) <| u (mv (.t rfl)) <| u (ex (.t rfl) rfl rfl) <| u (ex (.t rfl) rfl rfl) <| st tf25 (.t rfl) rfl (.t rfl) rfl rfl rfl <| u (asg (.t rfl)) <| .nil _) rfl ?_
  refine .sq ?_
  refine be h fun x7 hx7 h => ?_
  refine .rg (u (ld tf25 (.t rfl) rfl rfl) <| cl [] cf9 (bits_Get_c hx7) (.c (.t rfl) <| .c (.i rfl) <| .n) (.inl rfl) <| u (mv (.t rfl)) <| u (ex (.t rfl) rfl rfl) <| u (ex (.t rfl) rfl rfl) <| al 9 zf25 rfl <| st tf25 (.t rfl) rfl (.t rfl) rfl rfl rfl <| u (asg (.t rfl)) <| .nil _) rfl ?_
  refine .sq ?_
  refine be h fun x8 hx8 h => ?_
  refine .rg (u (mv (.t rfl)) <| u (bc (.t rfl) (.i rfl) rfl rfl) <| u (mv (.t rfl)) <| gd rfl rfl (fun hB => mv (.t rfl)) <| gd rfl rfl (fun hB => bc (.m rfl hB) (.i rfl) rfl rfl) <| u (pka (.t rfl) (.t rfl)) <| u (mv (.t rfl)) <| gd rfl rfl (fun hB => mv (.t rfl)) <| gd rfl rfl (fun hB => bc (.m rfl hB) (.i rfl) rfl rfl) <| u (pka (.t rfl) (.t rfl)) <| u (mv (.t rfl)) <| gd rfl rfl (fun hB => mv (.t rfl)) <| gd rfl rfl (fun hB => bc (.m rfl hB) (.i rfl) rfl rfl) <| u (pka (.t rfl) (.t rfl)) <| u (mv (.t rfl)) <| gd rfl rfl (fun hB => mv (.t rfl)) <| gd rfl rfl (fun hB => bc (.m rfl hB) (.i rfl) rfl rfl) <| u (pka (.t rfl) (.t rfl)) <| u (mv (.t rfl)) <| gd rfl rfl (fun hB => mv (.t rfl)) <| gd rfl rfl (fun hB => bc (.m rfl hB) (.i rfl) rfl rfl) <| u (pka (.t rfl) (.t rfl)) <| u (mv (.t rfl)) <| gd rfl rfl (fun hB => fa ff25_1 (.t rfl)) <| gd rfl rfl (fun hB => ld tf3 (.m rfl hB) rfl rfl) <| gd rfl rfl (fun hB => bc (.m rfl hB) (.i rfl) rfl rfl) <| u (pka (.t rfl) (.t rfl)) <| u (mv (.t rfl)) <| gd rfl rfl (fun hB => fa ff27_1 (.t rfl)) <| gd rfl rfl (fun hB => ld tf3 (.m rfl hB) rfl rfl) <| gd rfl rfl (fun hB => bc (.m rfl hB) (.i rfl) rfl rfl) <| u (pka (.t rfl) (.t rfl)) <| u (mv (.t rfl)) <| gd rfl rfl (fun hB => ld tf27 (.t rfl) rfl rfl) <| cg rfl rfl cf17 (fun hB => (bits_Right_c (gTt hx8 hB))) (fun hB => .c (.m rfl hB) <| .n) (.inl rfl) <| u (pka (.t rfl) (.t rfl)) <| u (mv (.t rfl)) <| gd rfl rfl (fun hB => ld tf25 (.t rfl) rfl rfl) <| cg rfl rfl cf11 (fun hB => (bits_Left_c x6.1)) (fun hB => .c (.m rfl hB) <| .n) (.inl rfl) <| gd rfl rfl (fun hB => bc (.m rfl hB) (.i rfl) rfl rfl) <| u (pka (.t rfl) (.t rfl)) <| u (mv (.t rfl)) <| gd rfl rfl (fun hB => fa ff25_2 (.t rfl)) <| gd rfl rfl (fun hB => ld tf23 (.m rfl hB) rfl rfl) <| gd rfl rfl (fun hB => bc (.m rfl hB) (.i rfl) rfl rfl) <| u (pka (.t rfl) (.t rfl)) <| u (mv (.t rfl)) <| gd rfl rfl (fun hB => fa ff27_0 (.t rfl)) <| gd rfl rfl (fun hB => ld tf22 (.m rfl hB) rfl rfl) <| gd rfl rfl (fun hB => bt bt22_9 (.m rfl hB)) <| gd rfl rfl (fun hB => sq (.m rfl hB) (.s rfl) rfl rfl) <| u (pka (.t rfl) (.t rfl)) <| u (asg (.t rfl)) <| .nil _) rfl ?_
  obtain rfl := Option.some.inj h
  exact .rt Try.func7 (.t rfl <| .n) .n rfl rfl

theorem law02_awake_t : law02_awake (some 1000) = some true := by decide +kernel
theorem law02_awake_k : AC Try.prog 7 [] (.ro (.bool true)) [] := law02_awake_c law02_awake_t

theorem ref02_Right_c (c : GBits) :
    AC Try.prog 8 [.ro (enc_GBits c)] (.ro (.bool (ref02_Right c))) [] := by
  obtain ⟨r, h⟩ : ∃ r, ref02_Right c = r := ⟨_, rfl⟩
  rw [h]
  refine AC.of Try.func8 rfl rfl fun w M0 hM => ?_
  unfold ref02_Right at h
  refine .sq ?_
  refine .rg (bx 1 (.t rfl) rfl rfl <| u (asg .b) <| .nil _) rfl ?_
  refine .sq ?_
  refine .rg (u (fa ff25_2 (.t rfl)) <| u (ld tf23 (.t rfl) rfl rfl) <| u (bc (.t rfl) (.i rfl) rfl rfl) <| u (mv (.t rfl)) <| gd rfl rfl (fun hB => fa ff25_1 (.t rfl)) <| gd rfl rfl (fun hB => ld tf3 (.m rfl hB) rfl rfl) <| gd rfl rfl (fun hB => bc (.m rfl hB) (.i rfl) rfl rfl) <| u (pka (.t rfl) (.t rfl)) <| u (mv (.t rfl)) <| gd rfl rfl (fun hB => fa ff25_1 (.t rfl)) <| gd rfl rfl (fun hB => ld tf3 (.m rfl hB) rfl rfl) <| gd rfl rfl (fun hB => di (.m rfl hB) (.i rfl) rfl (by decide)) <| gd rfl rfl (fun hB => fa ff25_0 (.t rfl)) <| gd rfl rfl (fun hB => ld tf22 (.m rfl hB) rfl rfl) <| gd rfl rfl (fun hB => lnm sf22 (.m rfl hB)) <| gd rfl rfl (fun hB => bc (.m rfl hB) (.m rfl hB) rfl rfl) <| u (pka (.t rfl) (.t rfl)) <| u (mv (.t rfl)) <| gd rfl rfl (fun hB => fa ff25_1 (.t rfl)) <| gd rfl rfl (fun hB => ld tf3 (.m rfl hB) rfl rfl) <| gd rfl rfl (fun hB => fa ff25_0 (.t rfl)) <| gd rfl rfl (fun hB => ld tf22 (.m rfl hB) rfl rfl) <| gd rfl rfl (fun hB => lnm sf22 (.m rfl hB)) <| gd rfl rfl (fun hB => bi (.i rfl) (.m rfl hB) rfl) <| gd rfl rfl (fun hB => bc (.m rfl hB) (.m rfl hB) rfl rfl) <| u (pka (.t rfl) (.t rfl)) <| u (asg (.t rfl)) <| .nil _) rfl ?_
  subst h
  exact .rt Try.func8 (.t rfl <| .n) .n rfl rfl

theorem ref02_stays_c (c : GBits) (e : Int) :
    AC Try.prog 26 [.ro (enc_GBits c), .ro (.int .i64 e)] (.ro (.tup [enc_GBits ((ref02_stays c e).1), .int .u64 ((ref02_stays c e).2)])) [] := by
  obtain ⟨r, h⟩ : ∃ r, ref02_stays c e = r := ⟨_, rfl⟩
  rw [h]
  refine AC.of Try.func26 rfl rfl fun w M0 hM => ?_
  unfold ref02_stays at h
  refine .sq ?_
  refine .rg (bx 2 (.t rfl) rfl rfl <| al 4 zf25 rfl <| u (asg (.i rfl)) <| .nil _) rfl ?_
  refine .sq ?_
  refine .sq ?_
  refine .rg (u (fa ff25_2 (.t rfl)) <| u (ld tf23 (.t rfl) rfl rfl) <| u (bc (.t rfl) (.i rfl) rfl rfl) <| .nil _) rfl ?_
  refine .jq (t := r) (fun (a : GBits) => ⟨[(2, .ptr 2 0), (4, .ptr 4 0)], [(2, some (.box [.ro (.list 1 (List.map e8 a.bytes)), .ro (.int .i64 a.at_), .ro (.int .i64 a.err)])), (4, some (.box [.ro (.list 1 (List.map e8 [])), .ro (.int .i64 0), .ro (.int .i64 0)]))]⟩) (fun (a : GBits) => ref02_stays_j1 a) ?_ (fun J1 => ?_)
  · intro v1 h
    replace h : ref02_stays_j1 v1 = _ := h
    unfold ref02_stays_j1 at h
    refine .sq ?_
    refine .rg (u (ld tf25 (.t rfl) rfl rfl) <| st tf25 (.t rfl) rfl (.t rfl) rfl rfl rfl <| u (asg (.i rfl)) <| .nil _) rfl ?_
    subst h
    exact .rt Try.func26 (.c tf25 rfl rfl rfl <| .t rfl <| .n) .n rfl rfl
  refine .bq h (.t rfl) (fun h => ?_) (fun h => ?_)
  · refine .rg (u (mv (.t rfl)) <| u (fa ff25_2 (.t rfl)) <| st tf23 (.t rfl) rfl (.t rfl) rfl rfl rfl <| .nil _) rfl ?_
    exact .kq (J1 ({ c with err := e }) h) (.c rfl (.c rfl .n)) (.c rfl (.c rfl .n))
  · refine .skp ?_
    exact .kq (J1 c h) (.c rfl (.c rfl .n)) (.c rfl (.c rfl .n))

theorem ref02_bit_c {z : Option Nat} {b : List Int} {at_ : Int} {r : Int} (h : ref02_bit z b at_ = some r) :
    AC Try.prog 27 [.ro (.list 1 (List.map e8 b)), .ro (.int .i64 at_)] (.ro (.int .u64 r)) [] := by
  refine AC.of Try.func27 rfl rfl fun w M0 hM => ?_
  unfold ref02_bit at h
  refine .sq ?_
  refine .rg (u (asg (.i rfl)) <| .nil _) rfl ?_
  refine .sq ?_
  refine be h fun x1 hx1 h => ?_
  refine .rg (u (mv (.t rfl)) <| u (mv (.t rfl)) <| u (di (.t rfl) (.i rfl) rfl (by decide)) <| u (ia sf22 (.t rfl) (.t rfl) (ix_map e8 hx1)) <| u (lr tf5 (.t rfl) rfl) <| u (asg (.t rfl)) <| .nil _) rfl ?_
  refine .sq ?_
  refine .sq ?_
  refine .rg (u (asg (.i rfl)) <| .nil _) rfl ?_
  refine .bl ?_
  unfold ref02_bit_l1 at h
  refine .kq (.lo (fun (s : Int × Int) => ⟨[(1, .ro (.int .i64 at_)), (5, .ro (.int .u8 s.1)), (6, .ro (.int .i64 s.2))], []⟩) h ?_) (.c rfl (.c rfl (.c rfl .n))) .n
  rintro ⟨v2, v3⟩ u1 h ih1 hx1
  replace h : ref02_bit_s1 z at_ v2 v3 = _ := h
  unfold ref02_bit_s1 at h
  refine .sq ?_
  refine .sq ?_
  refine .rg (u (mv (.t rfl)) <| u (mv (.t rfl)) <| u (di (.t rfl) (.i rfl) rfl (by decide)) <| u (bi (.i rfl) (.t rfl) rfl) <| u (bc (.t rfl) (.t rfl) rfl rfl) <| .nil _) rfl ?_
  refine .bq h (.t rfl) (fun h => ?_) (fun h => ?_)
  · refine .skp ?_
    refine .sq ?_
    refine .bl ?_
    refine .rg (u (mv (.t rfl)) <| u (di (.t rfl) (.i rfl) rfl (by decide)) <| u (asg (.t rfl)) <| .nil _) rfl ?_
    refine .ib ?_
    refine .rg (u (mv (.t rfl)) <| u (bi (.t rfl) (.i rfl) rfl) <| u (asg (.t rfl)) <| .nil _) rfl ?_
    exact .kq (.il (ih1 ((dv .quo .u8 v2 2), (ar .add .i64 v3 1)) (nxi h))) (.c rfl (.c rfl (.c rfl .n))) .n
  · refine .xt rfl ?_
    replace h := mpR h hx1
    refine .sq ?_
    refine .rg (u (mv (.t rfl)) <| u (di (.t rfl) (.i rfl) rfl (by decide)) <| u (cv cv5_28 (.t rfl)) <| u (asg (.t rfl)) <| .nil _) rfl ?_
    obtain rfl := Option.some.inj h
    exact .rt Try.func27 (.t rfl <| .n) .n rfl rfl

theorem ref02_Get_c {z : Option Nat} {c : GBits} {n : Int} {r : GBits × Int} (h : ref02_Get z c n = some r) :
    AC Try.prog 10 [.ro (enc_GBits c), .ro (.int .i64 n)] (.ro (.tup [enc_GBits r.1, .int .u64 r.2])) [] := by
  refine AC.of Try.func10 rfl rfl fun w M0 hM => ?_
  unfold ref02_Get at h
  refine .sq ?_
  refine .rg (bx 2 (.t rfl) rfl rfl <| al 4 zf25 rfl <| u (asg (.i rfl)) <| .nil _) rfl ?_
  refine .sq ?_
  refine .sq ?_
  refine .rg (u (ld tf25 (.t rfl) rfl rfl) <| cl [] cf8 (ref02_Right_c c) (.c (.t rfl) <| .n) (.inl rfl) <| u (no (.t rfl)) <| u (mv (.t rfl)) <| gd rfl rfl (fun hB => mv (.t rfl)) <| gd rfl rfl (fun hB => bc (.m rfl hB) (.i rfl) rfl rfl) <| u (pko (.t rfl) (.t rfl)) <| u (mv (.t rfl)) <| gd rfl rfl (fun hB => mv (.t rfl)) <| gd rfl rfl (fun hB => bc (.m rfl hB) (.i rfl) rfl rfl) <| u (pko (.t rfl) (.t rfl)) <| .nil _) rfl ?_
  refine .bq h (.t rfl) (fun h => ?_) (fun h => ?_)
  · refine .sq ?_
    refine .rg (u (ld tf25 (.t rfl) rfl rfl) <| cl [] cf26 (ref02_stays_c c 1) (.c (.t rfl) <| .c (.i rfl) <| .n) (.inl rfl) <| u (ex (.t rfl) rfl rfl) <| u (ex (.t rfl) rfl rfl) <| st tf25 (.t rfl) rfl (.t rfl) rfl rfl rfl <| u (asg (.t rfl)) <| .nil _) rfl ?_
    obtain rfl := Option.some.inj h
    exact .rt Try.func10 (.c tf25 rfl rfl rfl <| .t rfl <| .n) .n rfl rfl
  · refine .skp ?_
    refine .sq ?_
    refine .sq ?_
    refine .rg (u (mv (.t rfl)) <| u (fa ff25_0 (.t rfl)) <| u (ld tf22 (.t rfl) rfl rfl) <| u (lnm sf22 (.t rfl)) <| u (bi (.i rfl) (.t rfl) rfl) <| u (fa ff25_1 (.t rfl)) <| u (ld tf3 (.t rfl) rfl rfl) <| u (bi (.t rfl) (.t rfl) rfl) <| u (bc (.t rfl) (.t rfl) rfl rfl) <| .nil _) rfl ?_
    refine .bq h (.t rfl) (fun h => ?_) (fun h => ?_)
    · refine .sq ?_
      refine .rg (u (ld tf25 (.t rfl) rfl rfl) <| cl [] cf26 (ref02_stays_c c 2) (.c (.t rfl) <| .c (.i rfl) <| .n) (.inl rfl) <| u (ex (.t rfl) rfl rfl) <| u (ex (.t rfl) rfl rfl) <| st tf25 (.t rfl) rfl (.t rfl) rfl rfl rfl <| u (asg (.t rfl)) <| .nil _) rfl ?_
      obtain rfl := Option.some.inj h
      exact .rt Try.func10 (.c tf25 rfl rfl rfl <| .t rfl <| .n) .n rfl rfl
    · refine .skp ?_
      refine .sq ?_
      refine .rg (u (asg (.i rfl)) <| .nil _) rfl ?_
      refine .sq ?_
      refine .sq ?_
      refine .rg (u (asg (.i rfl)) <| .nil _) rfl ?_
      refine .bl ?_
      unfold ref02_Get_l1 at h
      refine .kq (.lo (fun (s : Int × Int) => ⟨[(1, .ro (.int .i64 n)), (2, .ptr 2 0), (4, .ptr 4 0), (6, .ro (.int .u64 s.1)), (7, .ro (.int .i64 s.2))], [(2, some (.box [.ro (.list 1 (List.map e8 c.bytes)), .ro (.int .i64 c.at_), .ro (.int .i64 c.err)])), (4, some (.box [.ro (.list 1 (List.map e8 [])), .ro (.int .i64 0), .ro (.int .i64 0)]))]⟩) h ?_) (.c rfl (.c rfl (.c rfl (.c rfl (.c rfl .n))))) (.c rfl (.c rfl .n))
      rintro ⟨v1, v2⟩ u1 h ih1 hx1
      replace h : ref02_Get_s1 z c n v1 v2 = _ := h
      unfold ref02_Get_s1 at h
      refine .sq ?_
      refine .sq ?_
      refine .rg (u (mv (.t rfl)) <| u (mv (.t rfl)) <| u (bc (.t rfl) (.t rfl) rfl rfl) <| .nil _) rfl ?_
      refine .bq h (.t rfl) (fun h => ?_) (fun h => ?_)
      · refine .skp ?_
        refine .sq ?_
        refine .bl ?_
        refine be h fun x3 hx3 h => ?_
        refine .rg (u (mv (.t rfl)) <| u (bi (.i rfl) (.t rfl) rfl) <| u (fa ff25_0 (.t rfl)) <| u (ld tf22 (.t rfl) rfl rfl) <| u (fa ff25_1 (.t rfl)) <| u (ld tf3 (.t rfl) rfl rfl) <| u (mv (.t rfl)) <| u (bi (.t rfl) (.t rfl) rfl) <| cl [] cf27 (ref02_bit_c hx3) (.c (.t rfl) <| .c (.t rfl) <| .n) (.inl rfl) <| u (bi (.t rfl) (.t rfl) rfl) <| u (asg (.t rfl)) <| .nil _) rfl ?_
        refine .ib ?_
        refine .rg (u (mv (.t rfl)) <| u (bi (.t rfl) (.i rfl) rfl) <| u (asg (.t rfl)) <| .nil _) rfl ?_
        exact .kq (.il (ih1 ((ar .add .u64 (ar .mul .u64 2 v1) x3), (ar .add .i64 v2 1)) (nxi h))) (.c rfl (.c rfl (.c rfl (.c rfl (.c rfl .n))))) (.c rfl (.c rfl .n))
      · refine .xt rfl ?_
        replace h := mpR h hx1
        refine .sq ?_
        refine .rg (u (fa ff25_1 (.t rfl)) <| u (ld tf3 (.t rfl) rfl rfl) <| u (mv (.t rfl)) <| u (bi (.t rfl) (.t rfl) rfl) <| u (fa ff25_1 (.t rfl)) <| st tf3 (.t rfl) rfl (.t rfl) rfl rfl rfl <| .nil _) rfl ?_
        refine .sq ?_
        refine .rg (u (ld tf25 (.t rfl) rfl rfl) <| u (mv (.t rfl)) <| st tf25 (.t rfl) rfl (.t rfl) rfl rfl rfl <| u (asg (.t rfl)) <| .nil _) rfl ?_
        obtain rfl := Option.some.inj h
        exact .rt Try.func10 (.c tf25 rfl rfl rfl <| .t rfl <| .n) .n rfl rfl

theorem ref02_Same_c (a : GBits) (b : GBits) :
    AC Try.prog 12 [.ro (enc_GBits a), .ro (enc_GBits b)] (.ro (.bool (ref02_Same a b))) [] := by
  obtain ⟨r, h⟩ : ∃ r, ref02_Same a b = r := ⟨_, rfl⟩
  rw [h]
  refine AC.of Try.func12 rfl rfl fun w M0 hM => ?_
  unfold ref02_Same at h
  refine .sq ?_
  refine .rg (bx 2 (.t rfl) rfl rfl <| bx 3 (.t rfl) rfl rfl <| u (asg .b) <| .nil _) rfl ?_
  refine .sq ?_
  refine .rg (u (fa ff25_1 (.t rfl)) <| u (ld tf3 (.t rfl) rfl rfl) <| u (fa ff25_1 (.t rfl)) <| u (ld tf3 (.t rfl) rfl rfl) <| u (bc (.t rfl) (.t rfl) rfl rfl) <| u (mv (.t rfl)) <| gd rfl rfl (fun hB => fa ff25_2 (.t rfl)) <| gd rfl rfl (fun hB => ld tf23 (.m rfl hB) rfl rfl) <| gd rfl rfl (fun hB => fa ff25_2 (.t rfl)) <| gd rfl rfl (fun hB => ld tf23 (.m rfl hB) rfl rfl) <| gd rfl rfl (fun hB => bc (.m rfl hB) (.m rfl hB) rfl rfl) <| u (pka (.t rfl) (.t rfl)) <| u (mv (.t rfl)) <| gd rfl rfl (fun hB => fa ff25_0 (.t rfl)) <| gd rfl rfl (fun hB => ld tf22 (.m rfl hB) rfl rfl) <| gd rfl rfl (fun hB => bt bt22_9 (.m rfl hB)) <| gd rfl rfl (fun hB => fa ff25_0 (.t rfl)) <| gd rfl rfl (fun hB => ld tf22 (.m rfl hB) rfl rfl) <| gd rfl rfl (fun hB => bt bt22_9 (.m rfl hB)) <| gd rfl rfl (fun hB => sq (.m rfl hB) (.m rfl hB) rfl rfl) <| u (pka (.t rfl) (.t rfl)) <| u (asg (.t rfl)) <| .nil _) rfl ?_
  subst h
  exact .rt Try.func12 (.t rfl <| .n) .n rfl rfl

theorem ref02_Spread_c {z : Option Nat} {n : Int} {r : Int × Int} (h : ref02_Spread z n = some r) :
    AC Try.prog 29 [.ro (.int .u64 n)] (.ro (.tup [.int .i64 r.1, .int .u64 r.2])) [] := by
  refine AC.of Try.func29 rfl rfl fun w M0 hM => ?_
  unfold ref02_Spread at h
  refine .sq ?_
  refine .rg (u (asg (.i rfl)) <| u (asg (.i rfl)) <| .nil _) rfl ?_
  refine .sq ?_
  refine .rg (u (asg (.i rfl)) <| .nil _) rfl ?_
  refine .sq ?_
  refine .rg (u (asg (.i rfl)) <| .nil _) rfl ?_
  refine .sq ?_
  refine .bl ?_
  unfold ref02_Spread_l1 at h
  refine .kq (.lo (fun (s : Int × Int) => ⟨[(0, .ro (.int .u64 n)), (4, .ro (.int .i64 s.1)), (5, .ro (.int .u64 s.2))], []⟩) h ?_) (.c rfl (.c rfl (.c rfl .n))) .n
  rintro ⟨v1, v2⟩ u1 h ih1 hx1
  replace h : ref02_Spread_s1 z n v1 v2 = _ := h
  unfold ref02_Spread_s1 at h
  refine .sq ?_
  refine .sq ?_
  refine .rg (u (mv (.t rfl)) <| u (mv (.t rfl)) <| u (bc (.t rfl) (.t rfl) rfl rfl) <| .nil _) rfl ?_
  refine .bq h (.t rfl) (fun h => ?_) (fun h => ?_)
  · refine .skp ?_
    refine .bl ?_
    refine .sq ?_
    refine .rg (u (mv (.t rfl)) <| u (bi (.i rfl) (.t rfl) rfl) <| u (asg (.t rfl)) <| .nil _) rfl ?_
    refine .rg (u (mv (.t rfl)) <| u (bi (.t rfl) (.i rfl) rfl) <| u (asg (.t rfl)) <| .nil _) rfl ?_
    refine .ib ?_
    exact .kq (.il (ih1 ((ar .add .i64 v1 1), (ar .mul .u64 2 v2)) (nxi h))) (.c rfl (.c rfl (.c rfl .n))) .n
  · refine .xt rfl ?_
    replace h := mpR h hx1
    refine .sq ?_
    refine .rg (u (mv (.t rfl)) <| u (mv (.t rfl)) <| u (mv (.t rfl)) <| u (bi (.t rfl) (.t rfl) rfl) <| u (asg (.t rfl)) <| u (asg (.t rfl)) <| .nil _) rfl ?_
    obtain rfl := Option.some.inj h
    exact .rt Try.func29 (.t rfl <| .t rfl <| .n) .n rfl rfl

theorem ref02_Range_c {z : Option Nat} {c : GBits} {n : Int} {r : GBits × Int} (h : ref02_Range z c n = some r) :
    AC Try.prog 14 [.ro (enc_GBits c), .ro (.int .u64 n)] (.ro (.tup [enc_GBits r.1, .int .u64 r.2])) [] := by
  refine AC.of Try.func14 rfl rfl fun w M0 hM => ?_
  unfold ref02_Range at h
  refine .sq ?_
  refine .rg (bx 2 (.t rfl) rfl rfl <| al 4 zf25 rfl <| u (asg (.i rfl)) <| .nil _) rfl ?_
  refine .sq ?_
  refine .sq ?_
  refine .rg (u (ld tf25 (.t rfl) rfl rfl) <| cl [] cf8 (ref02_Right_c c) (.c (.t rfl) <| .n) (.inl rfl) <| u (no (.t rfl)) <| u (mv (.t rfl)) <| gd rfl rfl (fun hB => mv (.t rfl)) <| gd rfl rfl (fun hB => bc (.m rfl hB) (.i rfl) rfl rfl) <| u (pko (.t rfl) (.t rfl)) <| u (mv (.t rfl)) <| gd rfl rfl (fun hB => mv (.t rfl)) <| gd rfl rfl (fun hB => bc (.m rfl hB) (.i rfl) rfl rfl) <| u (pko (.t rfl) (.t rfl)) <| .nil _) rfl ?_
  refine .bq h (.t rfl) (fun h => ?_) (fun h => ?_)
  · refine .sq ?_
    refine .rg (u (ld tf25 (.t rfl) rfl rfl) <| cl [] cf26 (ref02_stays_c c 1) (.c (.t rfl) <| .c (.i rfl) <| .n) (.inl rfl) <| u (ex (.t rfl) rfl rfl) <| u (ex (.t rfl) rfl rfl) <| st tf25 (.t rfl) rfl (.t rfl) rfl rfl rfl <| u (asg (.t rfl)) <| .nil _) rfl ?_
    obtain rfl := Option.some.inj h
    exact .rt Try.func14 (.c tf25 rfl rfl rfl <| .t rfl <| .n) .n rfl rfl
  · refine .skp ?_
    refine .sq ?_
    refine be h fun x1 hx1 h => ?_
    refine .rg (u (mv (.t rfl)) <| cl [] cf29 (ref02_Spread_c hx1) (.c (.t rfl) <| .n) (.inl rfl) <| u (mv (.t rfl)) <| u (ex (.t rfl) rfl rfl) <| u (ex (.t rfl) rfl rfl) <| u (asg (.t rfl)) <| u (asg (.t rfl)) <| .nil _) rfl ?_
    refine .sq ?_
    refine be h fun x2 hx2 h => ?_
    refine .rg (u (ld tf25 (.t rfl) rfl rfl) <| u (mv (.t rfl)) <| u (bi (.t rfl) (.i rfl) rfl) <| cl [] cf10 (ref02_Get_c hx2) (.c (.t rfl) <| .c (.t rfl) <| .n) (.inl rfl) <| u (mv (.t rfl)) <| u (ex (.t rfl) rfl rfl) <| u (ex (.t rfl) rfl rfl) <| al 8 zf25 rfl <| st tf25 (.t rfl) rfl (.t rfl) rfl rfl rfl <| u (asg (.t rfl)) <| .nil _) rfl ?_
    refine .sq ?_
    refine .sq ?_
    refine .rg (u (fa ff25_2 (.t rfl)) <| u (ld tf23 (.t rfl) rfl rfl) <| u (bc (.t rfl) (.i rfl) rfl rfl) <| .nil _) rfl ?_
    refine .bq h (.t rfl) (fun h => ?_) (fun h => ?_)
    · refine .sq ?_
      refine .rg (u (ld tf25 (.t rfl) rfl rfl) <| u (fa ff25_2 (.t rfl)) <| u (ld tf23 (.t rfl) rfl rfl) <| cl [] cf26 (ref02_stays_c c x2.1.err) (.c (.t rfl) <| .c (.t rfl) <| .n) (.inl rfl) <| u (ex (.t rfl) rfl rfl) <| u (ex (.t rfl) rfl rfl) <| st tf25 (.t rfl) rfl (.t rfl) rfl rfl rfl <| u (asg (.t rfl)) <| .nil _) rfl ?_
      obtain rfl := Option.some.inj h
      exact .rt Try.func14 (.c tf25 rfl rfl rfl <| .t rfl <| .n) .n rfl rfl
    · refine .skp ?_
      refine .sq ?_
      refine .sq ?_
      refine .rg (u (mv (.t rfl)) <| u (mv (.t rfl)) <| u (bc (.t rfl) (.t rfl) rfl rfl) <| .nil _) rfl ?_
      refine .bq h (.t rfl) (fun h => ?_) (fun h => ?_)
      · refine .sq ?_
        refine .rg (u (ld tf25 (.t rfl) rfl rfl) <| u (mv (.t rfl)) <| st tf25 (.t rfl) rfl (.t rfl) rfl rfl rfl <| u (asg (.t rfl)) <| .nil _) rfl ?_
        obtain rfl := Option.some.inj h
        exact .rt Try.func14 (.c tf25 rfl rfl rfl <| .t rfl <| .n) .n rfl rfl
      · refine .skp ?_
        refine .sq ?_
        refine be h fun x3 hx3 h => ?_
        refine .rg (u (ld tf25 (.t rfl) rfl rfl) <| u (mv (.t rfl)) <| cl [] cf10 (ref02_Get_c hx3) (.c (.t rfl) <| .c (.t rfl) <| .n) (.inl rfl) <| u (mv (.t rfl)) <| u (ex (.t rfl) rfl rfl) <| u (ex (.t rfl) rfl rfl) <| st tf25 (.t rfl) rfl (.t rfl) rfl rfl rfl <| u (asg (.t rfl)) <| .nil _) rfl ?_
        refine .sq ?_
        refine .sq ?_
        refine .rg (u (fa ff25_2 (.t rfl)) <| u (ld tf23 (.t rfl) rfl rfl) <| u (bc (.t rfl) (.i rfl) rfl rfl) <| .nil _) rfl ?_
        refine .bq h (.t rfl) (fun h => ?_) (fun h => ?_)
        · refine .sq ?_
          refine .rg (u (ld tf25 (.t rfl) rfl rfl) <| u (fa ff25_2 (.t rfl)) <| u (ld tf23 (.t rfl) rfl rfl) <| cl [] cf26 (ref02_stays_c c x3.1.err) (.c (.t rfl) <| .c (.t rfl) <| .n) (.inl rfl) <| u (ex (.t rfl) rfl rfl) <| u (ex (.t rfl) rfl rfl) <| st tf25 (.t rfl) rfl (.t rfl) rfl rfl rfl <| u (asg (.t rfl)) <| .nil _) rfl ?_
          obtain rfl := Option.some.inj h
          exact .rt Try.func14 (.c tf25 rfl rfl rfl <| .t rfl <| .n) .n rfl rfl
        · refine .skp ?_
          refine .sq ?_
          refine .rg (u (ld tf25 (.t rfl) rfl rfl) <| u (mv (.t rfl)) <| u (mv (.t rfl)) <| u (bi (.t rfl) (.t rfl) rfl) <| st tf25 (.t rfl) rfl (.t rfl) rfl rfl rfl <| u (asg (.t rfl)) <| .nil _) rfl ?_
          obtain rfl := Option.some.inj h
          exact .rt Try.func14 (.c tf25 rfl rfl rfl <| .t rfl <| .n) .n rfl rfl

theorem ref02_Ink_c {z : Option Nat} {k : Ink} {r : Bool} (h : ref02_Ink z k = some r) :
    AC Try.prog 18 [.ro (enc_Ink k)] (.ro (.bool r)) [] := by
  refine AC.of Try.func18 rfl rfl fun w M0 hM => ?_
  unfold ref02_Ink at h
  refine .sq ?_
  refine .rg (bx 1 (.t rfl) rfl rfl <| u (asg .b) <| .nil _) rfl ?_
  refine .sq ?_
  refine .sq ?_
  refine .rg (u (fa ff27_1 (.t rfl)) <| u (ld tf3 (.t rfl) rfl rfl) <| u (bc (.t rfl) (.i rfl) rfl rfl) <| u (mv (.t rfl)) <| gd rfl rfl (fun hB => fa ff27_1 (.t rfl)) <| gd rfl rfl (fun hB => ld tf3 (.m rfl hB) rfl rfl) <| gd rfl rfl (fun hB => fa ff27_0 (.t rfl)) <| gd rfl rfl (fun hB => ld tf22 (.m rfl hB) rfl rfl) <| gd rfl rfl (fun hB => lnm sf22 (.m rfl hB)) <| gd rfl rfl (fun hB => bi (.i rfl) (.m rfl hB) rfl) <| gd rfl rfl (fun hB => bc (.m rfl hB) (.m rfl hB) rfl rfl) <| u (pko (.t rfl) (.t rfl)) <| u (mv (.t rfl)) <| gd rfl rfl (fun hB => fa ff27_0 (.t rfl)) <| gd rfl rfl (fun hB => ld tf22 (.m rfl hB) rfl rfl) <| gd rfl rfl (fun hB => lnm sf22 (.m rfl hB)) <| gd rfl rfl (fun hB => bi (.i rfl) (.m rfl hB) rfl) <| gd rfl rfl (fun hB => fa ff27_1 (.t rfl)) <| gd rfl rfl (fun hB => ld tf3 (.m rfl hB) rfl rfl) <| gd rfl rfl (fun hB => bi (.m rfl hB) (.m rfl hB) rfl) <| gd rfl rfl (fun hB => bc (.m rfl hB) (.i rfl) rfl rfl) <| u (pko (.t rfl) (.t rfl)) <| .nil _) rfl ?_
  refine .bq h (.t rfl) (fun h => ?_) (fun h => ?_)
  · refine .sq ?_
    refine .rg (u (asg .b) <| .nil _) rfl ?_
    obtain rfl := Option.some.inj h
    exact .rt Try.func18 (.t rfl <| .n) .n rfl rfl
  · refine .skp ?_
    refine .sq ?_
    refine .sq ?_
    refine .rg (u (fa ff27_1 (.t rfl)) <| u (ld tf3 (.t rfl) rfl rfl) <| u (asg (.t rfl)) <| .nil _) rfl ?_
    refine .bl ?_
    unfold ref02_Ink_l1 at h
    refine .kq (.lo (fun (s : Int) => ⟨[(1, .ptr 1 0), (3, .ro (.int .i64 s))], [(1, some (.box [.ro (.list 1 (List.map e8 k.bytes)), .ro (.int .i64 k.many)]))]⟩) h ?_) (.c rfl (.c rfl .n)) (.c rfl .n)
    intro v1 u1 h ih1 hx1
    replace h : ref02_Ink_s1 z k v1 = _ := h
    unfold ref02_Ink_s1 at h
    refine .sq ?_
    refine .sq ?_
    refine .rg (u (mv (.t rfl)) <| u (fa ff27_0 (.t rfl)) <| u (ld tf22 (.t rfl) rfl rfl) <| u (lnm sf22 (.t rfl)) <| u (bi (.i rfl) (.t rfl) rfl) <| u (bc (.t rfl) (.t rfl) rfl rfl) <| .nil _) rfl ?_
    refine .bq h (.t rfl) (fun h => ?_) (fun h => ?_)
    · refine .skp ?_
      refine .sq ?_
      refine .bl ?_
      refine .sq ?_
      refine be h fun x2 hx2 h => ?_
      refine .rg (u (fa ff27_0 (.t rfl)) <| u (ld tf22 (.t rfl) rfl rfl) <| u (mv (.t rfl)) <| cl [] cf27 (ref02_bit_c hx2) (.c (.t rfl) <| .c (.t rfl) <| .n) (.inl rfl) <| u (bc (.t rfl) (.i rfl) rfl rfl) <| .nil _) rfl ?_
      refine .bq h (.t rfl) (fun h => ?_) (fun h => ?_)
      · refine .sq ?_
        refine .rg (u (asg .b) <| .nil _) rfl ?_
        replace h := mpR h hx1
        obtain rfl := Option.some.inj h
        exact .rt Try.func18 (.t rfl <| .n) .n rfl rfl
      · refine .skp ?_
        refine .ib ?_
        refine .rg (u (mv (.t rfl)) <| u (bi (.t rfl) (.i rfl) rfl) <| u (asg (.t rfl)) <| .nil _) rfl ?_
        exact .kq (.il (ih1 (ar .add .i64 v1 1) (nxi h))) (.c rfl (.c rfl .n)) (.c rfl .n)
    · refine .xt rfl ?_
      replace h := mpR h hx1
      refine .sq ?_
      refine .rg (u (asg .b) <| .nil _) rfl ?_
      obtain rfl := Option.some.inj h
      exact .rt Try.func18 (.t rfl <| .n) .n rfl rfl

theorem ref02_Add_c {z : Option Nat} {k : Ink} {v : Int} {n : Int} {r : Ink × Int} (h : ref02_Add z k v n = some r) :
    AC Try.prog 16 [.ro (enc_Ink k), .ro (.int .u64 v), .ro (.int .i64 n)] (.ro (.tup [enc_Ink r.1, .int .i64 r.2])) [] := by
  refine AC.of Try.func16 rfl rfl fun w M0 hM => ?_
  unfold ref02_Add at h
  refine .sq ?_
  refine .rg (bx 3 (.t rfl) rfl rfl <| al 6 zf27 rfl <| u (asg (.i rfl)) <| .nil _) rfl ?_
  refine .sq ?_
  refine .sq ?_
  refine be h fun x1 hx1 h => ?_
  refine .rg (u (ld tf27 (.t rfl) rfl rfl) <| cl [] cf18 (ref02_Ink_c hx1) (.c (.t rfl) <| .n) (.inl rfl) <| u (no (.t rfl)) <| u (mv (.t rfl)) <| gd rfl rfl (fun hB => mv (.t rfl)) <| gd rfl rfl (fun hB => bc (.m rfl hB) (.i rfl) rfl rfl) <| u (pko (.t rfl) (.t rfl)) <| u (mv (.t rfl)) <| gd rfl rfl (fun hB => mv (.t rfl)) <| gd rfl rfl (fun hB => bc (.m rfl hB) (.i rfl) rfl rfl) <| u (pko (.t rfl) (.t rfl)) <| .nil _) rfl ?_
  refine .bq h (.t rfl) (fun h => ?_) (fun h => ?_)
  · refine .sq ?_
    refine .rg (u (ld tf27 (.t rfl) rfl rfl) <| st tf27 (.t rfl) rfl (.t rfl) rfl rfl rfl <| u (asg (.i rfl)) <| .nil _) rfl ?_
    obtain rfl := Option.some.inj h
    exact .rt Try.func16 (.c tf27 rfl rfl rfl <| .t rfl <| .n) .n rfl rfl
  · refine .skp ?_
    refine .sq ?_
    refine .rg (anm e8 8 5 1 rfl rfl <| .nil _) rfl ?_
    refine .sq ?_
    refine .sq ?_
    refine .rg (u (asg (.i rfl)) <| .nil _) rfl ?_
    refine .bl ?_
    unfold ref02_Add_l1 at h
    refine .kq (.lo (fun (s : Int × List Int × Int) => ⟨[(1, .ro (.int .u64 s.1)), (2, .ro (.int .i64 n)), (3, .ptr 3 0), (6, .ptr 6 0), (8, .own 8), (9, .ro (.int .i64 s.2.2))], [(3, some (.box [.ro (.list 1 (List.map e8 k.bytes)), .ro (.int .i64 k.many)])), (6, some (.box [.ro (.list 1 (List.map e8 [])), .ro (.int .i64 0)])), (8, some (.arr 5 1 (List.map e8 s.2.1)))]⟩) h ?_) (.c rfl (.c rfl (.c rfl (.c rfl (.c rfl (.c rfl .n)))))) (.c rfl (.c rfl (.c rfl .n)))
    rintro ⟨v2, v3, v4⟩ u1 h ih1 hx1
    replace h : ref02_Add_s1 z k n v2 v3 v4 = _ := h
    unfold ref02_Add_s1 at h
    refine .sq ?_
    refine .sq ?_
    refine .rg (u (mv (.t rfl)) <| u (mv (.t rfl)) <| u (bc (.t rfl) (.t rfl) rfl rfl) <| .nil _) rfl ?_
    refine .bq h (.t rfl) (fun h => ?_) (fun h => ?_)
    · refine .skp ?_
      refine .sq ?_
      refine .bl ?_
      refine .sq ?_
      refine be h fun x5 hx5 h => ?_
      refine .rg (u (mv (.t rfl)) <| u (mv (.t rfl)) <| u (di (.t rfl) (.i rfl) rfl (by decide)) <| u (cv cv28_5 (.t rfl)) <| bs (F := e8) (l := [(IntKind.u8.wrap (dv .rem .u64 v2 2))]) 35 pf22 (.c (.t rfl) rfl <| .n) rfl (fun _ _ => rfl) rfl rfl <| apo 36 pf22 (.t rfl) rfl (.t rfl) rfl hx5 rfl <| u (asg (.t rfl)) <| .nil _) rfl ?_
      refine .rg (u (mv (.t rfl)) <| u (di (.t rfl) (.i rfl) rfl (by decide)) <| u (asg (.t rfl)) <| .nil _) rfl ?_
      refine .ib ?_
      refine .rg (u (mv (.t rfl)) <| u (bi (.t rfl) (.i rfl) rfl) <| u (asg (.t rfl)) <| .nil _) rfl ?_
      exact .ks (fun i => bif Nat.beq i 8 then 36 else i) (.il (ih1 ((dv .quo .u64 v2 2), x5, (ar .add .i64 v4 1)) (nxi h))) (.c rfl (.c rfl (.c rfl (.c rfl (.c rfl (.c rfl .n)))))) (.c rfl (.c rfl (.c rfl .n))) rfl
    · refine .xt rfl ?_
      replace h := mpR h hx1
      refine .sq ?_
      refine .sq ?_
      refine .rg (u (mv (.t rfl)) <| u (bc (.t rfl) (.i rfl) rfl rfl) <| .nil _) rfl ?_
      refine .bq h (.t rfl) (fun h => ?_) (fun h => ?_)
      · refine .sq ?_
        refine .rg (u (ld tf27 (.t rfl) rfl rfl) <| st tf27 (.t rfl) rfl (.t rfl) rfl rfl rfl <| u (asg (.i rfl)) <| .nil _) rfl ?_
        obtain rfl := Option.some.inj h
        exact .rt Try.func16 (.c tf27 rfl rfl rfl <| .t rfl <| .n) .n rfl rfl
      · refine .skp ?_
        refine .sq ?_
        refine be h fun x6 hx6 h => ?_
        refine .rd mixed (bs (F := e8) (l := ([] : List Int)) 42 pf22 (.n) rfl (fun _ _ => rfl) rfl rfl <| u (fa ff27_0 (.t rfl)) <| u (ld tf22 (.t rfl) rfl rfl) <| ap 45 pf22 (.t rfl) rfl (.t rfl) hx6 rfl <| u (fa ff27_1 (.t rfl)) <| u (ld tf3 (.t rfl) rfl rfl) <| u (bd bf27 zf27 (.c rfl (.t rfl) rfl rfl rfl <| .c rfl (.t rfl) rfl rfl rfl <| .n) rfl) <| al 10 zf27 rfl <| st tf27 (.t rfl) rfl (.t rfl) rfl rfl rfl <| .nil _) (by kernel_rfl) rfl ?_
        refine .sq ?_
        refine .sq ?_
        refine .rg (u (mv (.t rfl)) <| u (bi (.t rfl) (.i rfl) rfl) <| u (asg (.t rfl)) <| .nil _) rfl ?_
        refine .bl ?_
        unfold ref02_Add_l2 at h
        refine .ks (fun i => bif Nat.beq i 10200000 then 45 else i) (.lo (fun (s : Int × Ink) => ⟨[(6, .ptr 6 0), (8, .own 8), (10, .ptr 10 0), (11, .ro (.int .i64 s.1))], [(6, some (.box [.ro (.list 1 (List.map e8 [])), .ro (.int .i64 0)])), (8, some (.arr 5 1 (List.map e8 v3))), (10, some (.box [.own 10200000, .ro (.int .i64 s.2.many)])), (10200000, some (.arr 5 1 (List.map e8 s.2.bytes)))]⟩) h ?_) (.c rfl (.c rfl (.c rfl (.c rfl .n)))) (.c rfl (.c rfl (.c rfl (.c rfl .n)))) rfl
        rintro ⟨v7, v8⟩ u2 h ih2 hx2
        replace h : ref02_Add_s2 z v3 v7 v8 = _ := h
        unfold ref02_Add_s2 at h
        refine .sq ?_
        refine .sq ?_
        refine .rg (u (mv (.t rfl)) <| u (bc (.t rfl) (.i rfl) rfl rfl) <| .nil _) rfl ?_
        refine .bq h (.t rfl) (fun h => ?_) (fun h => ?_)
        · refine .skp ?_
          refine .sq ?_
          refine .bl ?_
          refine .sq ?_
          refine .sq ?_
          refine .rg (u (fa ff27_1 (.t rfl)) <| u (ld tf3 (.t rfl) rfl rfl) <| u (di (.t rfl) (.i rfl) rfl (by decide)) <| u (bc (.t rfl) (.i rfl) rfl rfl) <| .nil _) rfl ?_
          refine .jq (t := some u2) (fun (a : Ink) => ⟨[(6, .ptr 6 0), (8, .own 8), (10, .ptr 10 0), (11, .ro (.int .i64 v7))], [(6, some (.box [.ro (.list 1 (List.map e8 [])), .ro (.int .i64 0)])), (8, some (.arr 5 1 (List.map e8 v3))), (10, some (.box [.own 10200000, .ro (.int .i64 a.many)])), (10200000, some (.arr 5 1 (List.map e8 a.bytes)))]⟩) (fun (a : Ink) => ref02_Add_j3 z v3 v7 a) ?_ (fun J3 => ?_)
          · intro v9 h
            replace h : ref02_Add_j3 z v3 v7 v9 = _ := h
            unfold ref02_Add_j3 at h
            refine .sq ?_
            refine be h fun x10 hx10 h => ?_
            refine .rg (u (mv (.t rfl)) <| u (mv (.t rfl)) <| u (io sf22 (.t rfl) rfl (.t rfl) (ix_map e8 hx10)) <| u (le tf5 (.t rfl) rfl (ix_lt (ix_map _ hx10)).2.2 rfl) <| u (asg (.t rfl)) <| .nil _) rfl ?_
            refine .sq ?_
            refine .sq ?_
            refine .rg (u (asg (.i rfl)) <| .nil _) rfl ?_
            refine .bl ?_
            unfold ref02_Add_l4 at h
            refine .kq (.lo (fun (s : Int × Int) => ⟨[(6, .ptr 6 0), (8, .own 8), (10, .ptr 10 0), (11, .ro (.int .i64 v7)), (12, .ro (.int .u8 s.1)), (13, .ro (.int .i64 s.2))], [(6, some (.box [.ro (.list 1 (List.map e8 [])), .ro (.int .i64 0)])), (8, some (.arr 5 1 (List.map e8 v3))), (10, some (.box [.own 10200000, .ro (.int .i64 v9.many)])), (10200000, some (.arr 5 1 (List.map e8 v9.bytes)))]⟩) h ?_) (.c rfl (.c rfl (.c rfl (.c rfl (.c rfl (.c rfl .n)))))) (.c rfl (.c rfl (.c rfl (.c rfl .n))))
            rintro ⟨v11, v12⟩ u4 h ih4 hx4
            replace h : ref02_Add_s4 z v7 v9 v11 v12 = _ := h
            unfold ref02_Add_s4 at h
            refine .sq ?_
            refine .sq ?_
            refine .rg (u (mv (.t rfl)) <| u (fa ff27_1 (.t rfl)) <| u (ld tf3 (.t rfl) rfl rfl) <| u (di (.t rfl) (.i rfl) rfl (by decide)) <| u (bi (.i rfl) (.t rfl) rfl) <| u (bc (.t rfl) (.t rfl) rfl rfl) <| .nil _) rfl ?_
            refine .bq h (.t rfl) (fun h => ?_) (fun h => ?_)
            · refine .skp ?_
              refine .sq ?_
              refine .bl ?_
              refine .rg (u (mv (.t rfl)) <| u (bi (.i rfl) (.t rfl) rfl) <| u (asg (.t rfl)) <| .nil _) rfl ?_
              refine .ib ?_
              refine .rg (u (mv (.t rfl)) <| u (bi (.t rfl) (.i rfl) rfl) <| u (asg (.t rfl)) <| .nil _) rfl ?_
              exact .kq (.il (ih4 ((ar .mul .u8 2 v11), (ar .add .i64 v12 1)) (nxi h))) (.c rfl (.c rfl (.c rfl (.c rfl (.c rfl (.c rfl .n)))))) (.c rfl (.c rfl (.c rfl (.c rfl .n))))
            · refine .xt rfl ?_
              replace h := mpR h hx4
              refine .sq ?_
              refine be h fun x13 hx13 h => ?_
              refine be h fun x14 hx14 h => ?_
              refine .rd mixed (u (fa ff27_0 (.t rfl)) <| u (ld tf22 (.t rfl) rfl rfl) <| u (fa ff27_0 (.t rfl)) <| u (ld tf22 (.t rfl) rfl rfl) <| u (lom sf22 (.t rfl) rfl) <| u (bi (.t rfl) (.i rfl) rfl) <| u (fa ff27_0 (.t rfl)) <| u (ld tf22 (.t rfl) rfl rfl) <| u (fa ff27_0 (.t rfl)) <| u (ld tf22 (.t rfl) rfl rfl) <| u (lom sf22 (.t rfl) rfl) <| u (bi (.t rfl) (.i rfl) rfl) <| u (io sf22 (.t rfl) rfl (.t rfl) (ix_map e8 hx13)) <| u (le tf5 (.t rfl) rfl (ix_lt (ix_map _ hx13)).2.2 rfl) <| u (mv (.t rfl)) <| u (bi (.t rfl) (.t rfl) rfl) <| u (io sf22 (.t rfl) rfl (.t rfl) (ix_map e8 hx14)) <| se (q := (ar .add .u8 x13 v11)) tf5 (.t rfl) rfl (.t rfl) rfl rfl rfl (ixn hx14) <| .nil _) (by kernel_rfl) rfl ?_
              refine .rg (u (fa ff27_1 (.t rfl)) <| u (ld tf3 (.t rfl) rfl rfl) <| u (bi (.t rfl) (.i rfl) rfl) <| u (fa ff27_1 (.t rfl)) <| st tf3 (.t rfl) rfl (.t rfl) rfl rfl rfl <| .nil _) rfl ?_
              refine .ib ?_
              refine .rg (u (mv (.t rfl)) <| u (bi (.t rfl) (.i rfl) rfl) <| u (asg (.t rfl)) <| .nil _) rfl ?_
              exact .kq (.il (ih2 ((ar .sub .i64 v7 1), (Ink.mk (List.set v9.bytes ((ar .sub .i64 (v9.bytes.length : Int) 1)).toNat (ar .add .u8 x13 v11)) (ar .add .i64 v9.many 1))) (nxi h))) (.c rfl (.c rfl (.c rfl (.c rfl .n)))) (.c rfl (.c rfl (.c rfl (.c rfl .n))))
          refine .bq h (.t rfl) (fun h => ?_) (fun h => ?_)
          · refine be h fun x15 hx15 h => ?_
            refine .rg (u (fa ff27_0 (.t rfl)) <| u (ld tf22 (.t rfl) rfl rfl) <| bs (F := e8) (l := [0]) 61 pf22 (.c (.i rfl) rfl <| .n) rfl (fun _ _ => rfl) rfl rfl <| apo 62 pf22 (.t rfl) rfl (.t rfl) rfl hx15 rfl <| u (fa ff27_0 (.t rfl)) <| st tf22 (.t rfl) rfl (.t rfl) rfl rfl rfl <| .nil _) rfl ?_
            exact .ks (fun i => bif Nat.beq i 10200000 then 62 else i) (J3 ({ v8 with bytes := x15 }) h) (.c rfl (.c rfl (.c rfl (.c rfl .n)))) (.c rfl (.c rfl (.c rfl (.c rfl .n)))) rfl
          · refine .skp ?_
            exact .kq (J3 v8 h) (.c rfl (.c rfl (.c rfl (.c rfl .n)))) (.c rfl (.c rfl (.c rfl (.c rfl .n))))
        · refine .xt rfl ?_
          replace h := mpR h hx2
          refine .sq ?_
          refine .rg (u (ld tf27 (.t rfl) rfl rfl) <| st tf27 (.t rfl) rfl (.t rfl) rfl rfl rfl <| u (asg (.i rfl)) <| .nil _) rfl ?_
          refine .fz 10200000 rfl ?_
          obtain rfl := Option.some.inj h
          exact .rt Try.func16 (.c tf27 rfl rfl rfl <| .t rfl <| .n) .n rfl rfl

theorem ref02_SameInk_c (a : Ink) (b : Ink) :
    AC Try.prog 19 [.ro (enc_Ink a), .ro (enc_Ink b)] (.ro (.bool (ref02_SameInk a b))) [] := by
  obtain ⟨r, h⟩ : ∃ r, ref02_SameInk a b = r := ⟨_, rfl⟩
  rw [h]
  refine AC.of Try.func19 rfl rfl fun w M0 hM => ?_
  unfold ref02_SameInk at h
  refine .sq ?_
  refine .rg (bx 2 (.t rfl) rfl rfl <| bx 3 (.t rfl) rfl rfl <| u (asg .b) <| .nil _) rfl ?_
  refine .sq ?_
  refine .rg (u (fa ff27_1 (.t rfl)) <| u (ld tf3 (.t rfl) rfl rfl) <| u (fa ff27_1 (.t rfl)) <| u (ld tf3 (.t rfl) rfl rfl) <| u (bc (.t rfl) (.t rfl) rfl rfl) <| u (mv (.t rfl)) <| gd rfl rfl (fun hB => fa ff27_0 (.t rfl)) <| gd rfl rfl (fun hB => ld tf22 (.m rfl hB) rfl rfl) <| gd rfl rfl (fun hB => bt bt22_9 (.m rfl hB)) <| gd rfl rfl (fun hB => fa ff27_0 (.t rfl)) <| gd rfl rfl (fun hB => ld tf22 (.m rfl hB) rfl rfl) <| gd rfl rfl (fun hB => bt bt22_9 (.m rfl hB)) <| gd rfl rfl (fun hB => sq (.m rfl hB) (.m rfl hB) rfl rfl) <| u (pka (.t rfl) (.t rfl)) <| u (asg (.t rfl)) <| .nil _) rfl ?_
  subst h
  exact .rt Try.func19 (.t rfl <| .n) .n rfl rfl

theorem ref02_AddRange_c {z : Option Nat} {k : Ink} {v : Int} {n : Int} {r : Ink × Int} (h : ref02_AddRange z k v n = some r) :
    AC Try.prog 21 [.ro (enc_Ink k), .ro (.int .u64 v), .ro (.int .u64 n)] (.ro (.tup [enc_Ink r.1, .int .i64 r.2])) [] := by
  refine AC.of Try.func21 rfl rfl fun w M0 hM => ?_
  unfold ref02_AddRange at h
  refine .sq ?_
  refine .rg (bx 3 (.t rfl) rfl rfl <| al 6 zf27 rfl <| u (asg (.i rfl)) <| .nil _) rfl ?_
  refine .sq ?_
  refine .sq ?_
  refine be h fun x1 hx1 h => ?_
  refine .rg (u (ld tf27 (.t rfl) rfl rfl) <| cl [] cf18 (ref02_Ink_c hx1) (.c (.t rfl) <| .n) (.inl rfl) <| u (no (.t rfl)) <| u (mv (.t rfl)) <| gd rfl rfl (fun hB => mv (.t rfl)) <| gd rfl rfl (fun hB => bc (.m rfl hB) (.i rfl) rfl rfl) <| u (pko (.t rfl) (.t rfl)) <| u (mv (.t rfl)) <| gd rfl rfl (fun hB => mv (.t rfl)) <| gd rfl rfl (fun hB => bc (.m rfl hB) (.i rfl) rfl rfl) <| u (pko (.t rfl) (.t rfl)) <| .nil _) rfl ?_
  refine .bq h (.t rfl) (fun h => ?_) (fun h => ?_)
  · refine .sq ?_
    refine .rg (u (ld tf27 (.t rfl) rfl rfl) <| st tf27 (.t rfl) rfl (.t rfl) rfl rfl rfl <| u (asg (.i rfl)) <| .nil _) rfl ?_
    obtain rfl := Option.some.inj h
    exact .rt Try.func21 (.c tf27 rfl rfl rfl <| .t rfl <| .n) .n rfl rfl
  · refine .skp ?_
    refine .sq ?_
    refine .sq ?_
    refine .rg (u (mv (.t rfl)) <| u (mv (.t rfl)) <| u (bc (.t rfl) (.t rfl) rfl rfl) <| .nil _) rfl ?_
    refine .bq h (.t rfl) (fun h => ?_) (fun h => ?_)
    · refine .sq ?_
      refine .rg (u (ld tf27 (.t rfl) rfl rfl) <| st tf27 (.t rfl) rfl (.t rfl) rfl rfl rfl <| u (asg (.i rfl)) <| .nil _) rfl ?_
      obtain rfl := Option.some.inj h
      exact .rt Try.func21 (.c tf27 rfl rfl rfl <| .t rfl <| .n) .n rfl rfl
    · refine .skp ?_
      refine .sq ?_
      refine be h fun x2 hx2 h => ?_
      refine .rg (u (mv (.t rfl)) <| cl [] cf29 (ref02_Spread_c hx2) (.c (.t rfl) <| .n) (.inl rfl) <| u (mv (.t rfl)) <| u (ex (.t rfl) rfl rfl) <| u (ex (.t rfl) rfl rfl) <| u (asg (.t rfl)) <| u (asg (.t rfl)) <| .nil _) rfl ?_
      refine .sq ?_
      refine .sq ?_
      refine .rg (u (mv (.t rfl)) <| u (mv (.t rfl)) <| u (bc (.t rfl) (.t rfl) rfl rfl) <| .nil _) rfl ?_
      refine .bq h (.t rfl) (fun h => ?_) (fun h => ?_)
      · refine .sq ?_
        refine be h fun x3 hx3 h => ?_
        refine .rg (u (ld tf27 (.t rfl) rfl rfl) <| u (mv (.t rfl)) <| u (mv (.t rfl)) <| u (bi (.t rfl) (.i rfl) rfl) <| cl [] cf16 (ref02_Add_c hx3) (.c (.t rfl) <| .c (.t rfl) <| .c (.t rfl) <| .n) (.inl rfl) <| u (ex (.t rfl) rfl rfl) <| u (ex (.t rfl) rfl rfl) <| st tf27 (.t rfl) rfl (.t rfl) rfl rfl rfl <| u (asg (.t rfl)) <| .nil _) rfl ?_
        obtain rfl := Option.some.inj h
        exact .rt Try.func21 (.c tf27 rfl rfl rfl <| .t rfl <| .n) .n rfl rfl
      · refine .skp ?_
        refine .sq ?_
        refine be h fun x4 hx4 h => ?_
        refine .rg (u (ld tf27 (.t rfl) rfl rfl) <| u (mv (.t rfl)) <| u (mv (.t rfl)) <| u (bi (.t rfl) (.t rfl) rfl) <| u (mv (.t rfl)) <| cl [] cf16 (ref02_Add_c hx4) (.c (.t rfl) <| .c (.t rfl) <| .c (.t rfl) <| .n) (.inl rfl) <| u (ex (.t rfl) rfl rfl) <| u (ex (.t rfl) rfl rfl) <| st tf27 (.t rfl) rfl (.t rfl) rfl rfl rfl <| u (asg (.t rfl)) <| .nil _) rfl ?_
        obtain rfl := Option.some.inj h
        exact .rt Try.func21 (.c tf27 rfl rfl rfl <| .t rfl <| .n) .n rfl rfl

theorem law02_BitsRight_c {z : Option Nat} {c : GBits} {k : Ink} {n : Int} {v : Int} {of : Int} {r : Bool} (h : law02_BitsRight z c k n v of = some r) :
    AC Try.prog 3 [.ro (enc_GBits c), .ro (enc_Ink k), .ro (.int .i64 n), .ro (.int .u64 v), .ro (.int .u64 of)] (.ro (.bool r)) [] := by
  refine AC.of Try.func3 rfl rfl fun w M0 hM => ?_
  unfold law02_BitsRight at h
  refine .sq ?_
  refine .rg (bx 5 (.t rfl) rfl rfl <| bx 6 (.t rfl) rfl rfl <| u (asg .b) <| .nil _) rfl ?_
  refine .sq ?_
  refine .sq ?_
  refine .rg (cl [] cf7 law02_awake_k (.n) (.inl rfl) <| u (no (.t rfl)) <| .nil _) rfl ?_
  refine .cf (.t rfl) rfl ?_
  refine .skp ?_
  refine .sq ?_
  refine .sq ?_
  refine .rg (u (fa ff25_0 (.t rfl)) <| u (ld tf22 (.t rfl) rfl rfl) <| u (lnm sf22 (.t rfl)) <| u (bc (.t rfl) (.i rfl) rfl rfl) <| u (mv (.t rfl)) <| gd rfl rfl (fun hB => fa ff27_0 (.t rfl)) <| gd rfl rfl (fun hB => ld tf22 (.m rfl hB) rfl rfl) <| gd rfl rfl (fun hB => lnm sf22 (.m rfl hB)) <| gd rfl rfl (fun hB => bc (.m rfl hB) (.i rfl) rfl rfl) <| u (pko (.t rfl) (.t rfl)) <| .nil _) rfl ?_
  refine .bq h (.t rfl) (fun h => ?_) (fun h => ?_)
  · refine .sq ?_
    refine .rg (u (asg .b) <| .nil _) rfl ?_
    obtain rfl := Option.some.inj h
    exact .rt Try.func3 (.t rfl <| .n) .n rfl rfl
  · refine .skp ?_
    refine .sq ?_
    refine .rg (u (asg (.i rfl)) <| .nil _) rfl ?_
    refine .sq ?_
    refine .sq ?_
    refine .rg (u (ld tf25 (.t rfl) rfl rfl) <| cl [] cf8 (ref02_Right_c c) (.c (.t rfl) <| .n) (.inl rfl) <| .nil _) rfl ?_
    refine .jq (t := some r) (fun (a : Int) => ⟨[(2, .ro (.int .i64 n)), (3, .ro (.int .u64 v)), (4, .ro (.int .u64 of)), (5, .ptr 5 0), (6, .ptr 6 0), (11, .ro (.int .i64 a))], [(5, some (.box [.ro (.list 1 (List.map e8 c.bytes)), .ro (.int .i64 c.at_), .ro (.int .i64 c.err)])), (6, some (.box [.ro (.list 1 (List.map e8 k.bytes)), .ro (.int .i64 k.many)]))]⟩) (fun (a : Int) => law02_BitsRight_j1 z c k n v of a) ?_ (fun J1 => ?_)
    · intro v1 h
      replace h : law02_BitsRight_j1 z c k n v of v1 = _ := h
      unfold law02_BitsRight_j1 at h
      refine .sq ?_
      refine be h fun x2 hx2 h => ?_
      refine .rg (u (ld tf25 (.t rfl) rfl rfl) <| u (mv (.t rfl)) <| cl [] cf9 (bits_Get_c hx2) (.c (.t rfl) <| .c (.t rfl) <| .n) (.inl rfl) <| u (mv (.t rfl)) <| u (ex (.t rfl) rfl rfl) <| u (ex (.t rfl) rfl rfl) <| al 12 zf25 rfl <| st tf25 (.t rfl) rfl (.t rfl) rfl rfl rfl <| u (asg (.t rfl)) <| .nil _) rfl ?_
      refine .sq ?_
      refine be h fun x3 hx3 h => ?_
      refine .rg (u (ld tf25 (.t rfl) rfl rfl) <| u (mv (.t rfl)) <| cl [] cf10 (ref02_Get_c hx3) (.c (.t rfl) <| .c (.t rfl) <| .n) (.inl rfl) <| u (mv (.t rfl)) <| u (ex (.t rfl) rfl rfl) <| u (ex (.t rfl) rfl rfl) <| al 14 zf25 rfl <| st tf25 (.t rfl) rfl (.t rfl) rfl rfl rfl <| u (asg (.t rfl)) <| .nil _) rfl ?_
      refine .sq ?_
      refine .sq ?_
      refine .rg (u (ld tf25 (.t rfl) rfl rfl) <| cl [] cf11 (bits_Left_c c) (.c (.t rfl) <| .n) (.inl rfl) <| u (mv (.t rfl)) <| u (bc (.t rfl) (.t rfl) rfl rfl) <| u (mv (.t rfl)) <| gd rfl rfl (fun hB => mv (.t rfl)) <| gd rfl rfl (fun hB => mv (.t rfl)) <| gd rfl rfl (fun hB => bc (.m rfl hB) (.m rfl hB) rfl rfl) <| u (pko (.t rfl) (.t rfl)) <| u (mv (.t rfl)) <| gd rfl rfl (fun hB => ld tf25 (.t rfl) rfl rfl) <| gd rfl rfl (fun hB => ld tf25 (.t rfl) rfl rfl) <| cg rfl rfl cf12 (fun hB => (ref02_Same_c x2.1 x3.1)) (fun hB => .c (.m rfl hB) <| .c (.m rfl hB) <| .n) (.inl rfl) <| gd rfl rfl (fun hB => no (.m rfl hB)) <| u (pko (.t rfl) (.t rfl)) <| .nil _) rfl ?_
      refine .bq h (.t rfl) (fun h => ?_) (fun h => ?_)
      · refine .sq ?_
        refine .rg (u (asg .b) <| .nil _) rfl ?_
        obtain rfl := Option.some.inj h
        exact .rt Try.func3 (.t rfl <| .n) .n rfl rfl
      · refine .skp ?_
        refine .sq ?_
        refine be h fun x4 hx4 h => ?_
        refine .rg (u (ld tf25 (.t rfl) rfl rfl) <| u (mv (.t rfl)) <| cl [] cf13 (bits_Range_c hx4) (.c (.t rfl) <| .c (.t rfl) <| .n) (.inl rfl) <| u (mv (.t rfl)) <| u (ex (.t rfl) rfl rfl) <| u (ex (.t rfl) rfl rfl) <| st tf25 (.t rfl) rfl (.t rfl) rfl rfl rfl <| u (asg (.t rfl)) <| .nil _) rfl ?_
        refine .sq ?_
        refine be h fun x5 hx5 h => ?_
        refine .rg (u (ld tf25 (.t rfl) rfl rfl) <| u (mv (.t rfl)) <| cl [] cf14 (ref02_Range_c hx5) (.c (.t rfl) <| .c (.t rfl) <| .n) (.inl rfl) <| u (mv (.t rfl)) <| u (ex (.t rfl) rfl rfl) <| u (ex (.t rfl) rfl rfl) <| st tf25 (.t rfl) rfl (.t rfl) rfl rfl rfl <| u (asg (.t rfl)) <| .nil _) rfl ?_
        refine .sq ?_
        refine .sq ?_
        refine .rg (u (mv (.t rfl)) <| u (mv (.t rfl)) <| u (bc (.t rfl) (.t rfl) rfl rfl) <| u (mv (.t rfl)) <| gd rfl rfl (fun hB => ld tf25 (.t rfl) rfl rfl) <| gd rfl rfl (fun hB => ld tf25 (.t rfl) rfl rfl) <| cg rfl rfl cf12 (fun hB => (ref02_Same_c x4.1 x5.1)) (fun hB => .c (.m rfl hB) <| .c (.m rfl hB) <| .n) (.inl rfl) <| gd rfl rfl (fun hB => no (.m rfl hB)) <| u (pko (.t rfl) (.t rfl)) <| .nil _) rfl ?_
        refine .bq h (.t rfl) (fun h => ?_) (fun h => ?_)
        · refine .sq ?_
          refine .rg (u (asg .b) <| .nil _) rfl ?_
          obtain rfl := Option.some.inj h
          exact .rt Try.func3 (.t rfl <| .n) .n rfl rfl
        · refine .skp ?_
          refine .sq ?_
          refine be h fun x6 hx6 h => ?_
          refine .rg (u (ld tf27 (.t rfl) rfl rfl) <| u (mv (.t rfl)) <| u (mv (.t rfl)) <| cl [] cf15 (bits_Add_c hx6) (.c (.t rfl) <| .c (.t rfl) <| .c (.t rfl) <| .n) (.inl rfl) <| u (mv (.t rfl)) <| u (ex (.t rfl) rfl rfl) <| u (ex (.t rfl) rfl rfl) <| al 16 zf27 rfl <| st tf27 (.t rfl) rfl (.t rfl) rfl rfl rfl <| u (asg (.t rfl)) <| .nil _) rfl ?_
          refine .sq ?_
          refine be h fun x7 hx7 h => ?_
          refine .rg (u (ld tf27 (.t rfl) rfl rfl) <| u (mv (.t rfl)) <| u (mv (.t rfl)) <| cl [] cf16 (ref02_Add_c hx7) (.c (.t rfl) <| .c (.t rfl) <| .c (.t rfl) <| .n) (.inl rfl) <| u (mv (.t rfl)) <| u (ex (.t rfl) rfl rfl) <| u (ex (.t rfl) rfl rfl) <| al 18 zf27 rfl <| st tf27 (.t rfl) rfl (.t rfl) rfl rfl rfl <| u (asg (.t rfl)) <| .nil _) rfl ?_
          refine .sq ?_
          refine .sq ?_
          refine be h fun x8 hx8 h => ?_
          refine be h fun x9 hx9 h => ?_
          refine .rd mixed (u (ld tf27 (.t rfl) rfl rfl) <| cl [] cf17 (bits_Right_c hx8) (.c (.t rfl) <| .n) (.inl rfl) <| u (ld tf27 (.t rfl) rfl rfl) <| cl [] cf18 (ref02_Ink_c hx9) (.c (.t rfl) <| .n) (.inl rfl) <| u (be2 ub4 (.t rfl) (.t rfl) rfl) <| u (mv (.t rfl)) <| gd rfl rfl (fun hB => mv (.t rfl)) <| gd rfl rfl (fun hB => mv (.t rfl)) <| gd rfl rfl (fun hB => bc (.m rfl hB) (.m rfl hB) rfl rfl) <| u (pko (.t rfl) (.t rfl)) <| u (mv (.t rfl)) <| gd rfl rfl (fun hB => ld tf27 (.t rfl) rfl rfl) <| gd rfl rfl (fun hB => ld tf27 (.t rfl) rfl rfl) <| cg rfl rfl cf19 (fun hB => (ref02_SameInk_c x6.1 x7.1)) (fun hB => .c (.m rfl hB) <| .c (.m rfl hB) <| .n) (.inl rfl) <| gd rfl rfl (fun hB => no (.m rfl hB)) <| u (pko (.t rfl) (.t rfl)) <| .nil _) (by kernel_rfl) rfl ?_
          refine .bq h (.t rfl) (fun h => ?_) (fun h => ?_)
          · refine .sq ?_
            refine .rg (u (asg .b) <| .nil _) rfl ?_
            obtain rfl := Option.some.inj h
            exact .rt Try.func3 (.t rfl <| .n) .n rfl rfl
          · refine .skp ?_
            refine .sq ?_
            refine be h fun x10 hx10 h => ?_
            refine .rg (u (ld tf27 (.t rfl) rfl rfl) <| u (mv (.t rfl)) <| u (mv (.t rfl)) <| cl [] cf20 (bits_AddRange_c hx10) (.c (.t rfl) <| .c (.t rfl) <| .c (.t rfl) <| .n) (.inl rfl) <| u (mv (.t rfl)) <| u (ex (.t rfl) rfl rfl) <| u (ex (.t rfl) rfl rfl) <| st tf27 (.t rfl) rfl (.t rfl) rfl rfl rfl <| u (asg (.t rfl)) <| .nil _) rfl ?_
            refine .sq ?_
            refine be h fun x11 hx11 h => ?_
            refine .rg (u (ld tf27 (.t rfl) rfl rfl) <| u (mv (.t rfl)) <| u (mv (.t rfl)) <| cl [] cf21 (ref02_AddRange_c hx11) (.c (.t rfl) <| .c (.t rfl) <| .c (.t rfl) <| .n) (.inl rfl) <| u (mv (.t rfl)) <| u (ex (.t rfl) rfl rfl) <| u (ex (.t rfl) rfl rfl) <| st tf27 (.t rfl) rfl (.t rfl) rfl rfl rfl <| u (asg (.t rfl)) <| .nil _) rfl ?_
            refine .sq ?_
            refine .rg (u (mv (.t rfl)) <| u (mv (.t rfl)) <| u (bc (.t rfl) (.t rfl) rfl rfl) <| u (mv (.t rfl)) <| gd rfl rfl (fun hB => ld tf27 (.t rfl) rfl rfl) <| gd rfl rfl (fun hB => ld tf27 (.t rfl) rfl rfl) <| cg rfl rfl cf19 (fun hB => (ref02_SameInk_c x10.1 x11.1)) (fun hB => .c (.m rfl hB) <| .c (.m rfl hB) <| .n) (.inl rfl) <| u (pka (.t rfl) (.t rfl)) <| u (asg (.t rfl)) <| .nil _) rfl ?_
            obtain rfl := Option.some.inj h
            exact .rt Try.func3 (.t rfl <| .n) .n rfl rfl
    refine .bq h (.t rfl) (fun h => ?_) (fun h => ?_)
    · refine .rg (u (fa ff25_0 (.t rfl)) <| u (ld tf22 (.t rfl) rfl rfl) <| u (lnm sf22 (.t rfl)) <| u (bi (.i rfl) (.t rfl) rfl) <| u (fa ff25_1 (.t rfl)) <| u (ld tf3 (.t rfl) rfl rfl) <| u (bi (.t rfl) (.t rfl) rfl) <| u (asg (.t rfl)) <| .nil _) rfl ?_
      exact .kq (J1 (ar .sub .i64 (ar .mul .i64 8 (c.bytes.length : Int)) c.at_) h) (.c rfl (.c rfl (.c rfl (.c rfl (.c rfl (.c rfl .n)))))) (.c rfl (.c rfl .n))
    · refine .skp ?_
      exact .kq (J1 0 h) (.c rfl (.c rfl (.c rfl (.c rfl (.c rfl (.c rfl .n)))))) (.c rfl (.c rfl .n))

theorem law02_read_c {z : Option Nat} {c : GBits} {put : List Int} {widths : List Int} {ranges : List Bool} {r : GBits} (h : law02_read z c put widths ranges = some r) :
    AC Try.prog 22 [.ro (enc_GBits c), .ro (.list 1 (List.map (ei .u64) put)), .ro (.list 1 (List.map e8 widths)), .ro (.list 1 (List.map eb ranges))] (.ro (enc_GBits r)) [] := by
  refine AC.of Try.func22 rfl rfl fun w M0 hM => ?_
  unfold law02_read at h
  refine .sq ?_
  refine .rg (bx 4 (.t rfl) rfl rfl <| al 8 zf25 rfl <| .nil _) rfl ?_
  refine .sq ?_
  refine .sq ?_
  refine .rg (u (asg (.i rfl)) <| .nil _) rfl ?_
  refine .bl ?_
  unfold law02_read_l1 at h
  refine .kq (.lo (fun (s : Int × GBits) => ⟨[(1, .ro (.list 1 (List.map (ei .u64) put))), (2, .ro (.list 1 (List.map e8 widths))), (3, .ro (.list 1 (List.map eb ranges))), (4, .ptr 4 0), (8, .ptr 8 0), (9, .ro (.int .i64 s.1))], [(4, some (.box [.ro (.list 1 (List.map e8 s.2.bytes)), .ro (.int .i64 s.2.at_), .ro (.int .i64 s.2.err)])), (8, some (.box [.ro (.list 1 (List.map e8 [])), .ro (.int .i64 0), .ro (.int .i64 0)]))]⟩) h ?_) (.c rfl (.c rfl (.c rfl (.c rfl (.c rfl (.c rfl .n)))))) (.c rfl (.c rfl .n))
  rintro ⟨v1, v2⟩ u1 h ih1 hx1
  replace h : law02_read_s1 z put widths ranges v1 v2 = _ := h
  unfold law02_read_s1 at h
  refine .sq ?_
  refine .sq ?_
  refine .rg (u (mv (.t rfl)) <| u (mv (.t rfl)) <| u (lnm sf45 (.t rfl)) <| u (bc (.t rfl) (.t rfl) rfl rfl) <| u (mv (.t rfl)) <| gd rfl rfl (fun hB => fa ff25_2 (.t rfl)) <| gd rfl rfl (fun hB => ld tf23 (.m rfl hB) rfl rfl) <| gd rfl rfl (fun hB => bc (.m rfl hB) (.i rfl) rfl rfl) <| u (pka (.t rfl) (.t rfl)) <| .nil _) rfl ?_
  refine .bq h (.t rfl) (fun h => ?_) (fun h => ?_)
  · refine .skp ?_
    refine .sq ?_
    refine .bl ?_
    refine .sq ?_
    refine .rg (u (asg (.i rfl)) <| .nil _) rfl ?_
    refine .sq ?_
    refine .sq ?_
    refine be h fun x3 hx3 h => ?_
    refine .rg (u (mv (.t rfl)) <| u (mv (.t rfl)) <| u (ia sf46 (.t rfl) (.t rfl) (ix_map eb hx3)) <| u (lr tf4 (.t rfl) rfl) <| .nil _) rfl ?_
    refine .jq (t := some u1) (fun (a : Int × GBits) => ⟨[(1, .ro (.list 1 (List.map (ei .u64) put))), (2, .ro (.list 1 (List.map e8 widths))), (3, .ro (.list 1 (List.map eb ranges))), (4, .ptr 4 0), (8, .ptr 8 0), (9, .ro (.int .i64 v1)), (10, .ro (.int .u64 a.1))], [(4, some (.box [.ro (.list 1 (List.map e8 a.2.bytes)), .ro (.int .i64 a.2.at_), .ro (.int .i64 a.2.err)])), (8, some (.box [.ro (.list 1 (List.map e8 [])), .ro (.int .i64 0), .ro (.int .i64 0)]))]⟩) (fun (a : Int × GBits) => law02_read_j2 z put v1 a.1 a.2) ?_ (fun J2 => ?_)
    · rintro ⟨v4, v5⟩ h
      replace h : law02_read_j2 z put v1 v4 v5 = _ := h
      unfold law02_read_j2 at h
      refine .sq ?_
      refine be h fun x6 hx6 h => ?_
      refine .rg (u (fa ff25_2 (.t rfl)) <| u (ld tf23 (.t rfl) rfl rfl) <| u (bc (.t rfl) (.i rfl) rfl rfl) <| u (mv (.t rfl)) <| gd rfl rfl (fun hB => mv (.t rfl)) <| gd rfl rfl (fun hB => mv (.t rfl)) <| gd rfl rfl (fun hB => mv (.t rfl)) <| gd rfl rfl (fun hB => ia sf45 (.m rfl hB) (.m rfl hB) (ix_map (ei .u64) (gTt hx6 hB))) <| gd rfl rfl (fun hB => lr tf28 (.m rfl hB) rfl) <| gd rfl rfl (fun hB => bc (.m rfl hB) (.m rfl hB) rfl rfl) <| u (pka (.t rfl) (.t rfl)) <| .nil _) rfl ?_
      refine .jq (t := some u1) (fun (a : GBits) => ⟨[(1, .ro (.list 1 (List.map (ei .u64) put))), (2, .ro (.list 1 (List.map e8 widths))), (3, .ro (.list 1 (List.map eb ranges))), (4, .ptr 4 0), (8, .ptr 8 0), (9, .ro (.int .i64 v1))], [(4, some (.box [.ro (.list 1 (List.map e8 a.bytes)), .ro (.int .i64 a.at_), .ro (.int .i64 a.err)])), (8, some (.box [.ro (.list 1 (List.map e8 [])), .ro (.int .i64 0), .ro (.int .i64 0)]))]⟩) (fun (a : GBits) => law02_read_j3 z v1 a) ?_ (fun J3 => ?_)
      · intro v7 h
        replace h : law02_read_j3 z v1 v7 = _ := h
        unfold law02_read_j3 at h
        refine .ib ?_
        refine .rg (u (mv (.t rfl)) <| u (bi (.t rfl) (.i rfl) rfl) <| u (asg (.t rfl)) <| .nil _) rfl ?_
        exact .kq (.il (ih1 ((ar .add .i64 v1 1), v7) (nxi h))) (.c rfl (.c rfl (.c rfl (.c rfl (.c rfl (.c rfl .n)))))) (.c rfl (.c rfl .n))
      refine .bq h (.t rfl) (fun h => ?_) (fun h => ?_)
      · refine .rg (u (fa ff25_2 (.t rfl)) <| st tf23 (.t rfl) rfl (.i rfl) rfl rfl rfl <| .nil _) rfl ?_
        exact .kq (J3 ({ v5 with err := 6 }) h) (.c rfl (.c rfl (.c rfl (.c rfl (.c rfl (.c rfl .n)))))) (.c rfl (.c rfl .n))
      · refine .skp ?_
        exact .kq (J3 v5 h) (.c rfl (.c rfl (.c rfl (.c rfl (.c rfl (.c rfl .n)))))) (.c rfl (.c rfl .n))
    refine .bq h (.t rfl) (fun h => ?_) (fun h => ?_)
    · refine be h fun x8 hx8 h => ?_
      refine be h fun x9 hx9 h => ?_
      refine .rd mixed (u (ld tf25 (.t rfl) rfl rfl) <| u (mv (.t rfl)) <| u (mv (.t rfl)) <| u (ia sf22 (.t rfl) (.t rfl) (ix_map e8 hx8)) <| u (lr tf5 (.t rfl) rfl) <| u (cv cv5_28 (.t rfl)) <| u (bi (.t rfl) (.i rfl) rfl) <| cl [] cf13 (bits_Range_c hx9) (.c (.t rfl) <| .c (.t rfl) <| .n) (.inl rfl) <| u (mv (.t rfl)) <| u (ex (.t rfl) rfl rfl) <| u (ex (.t rfl) rfl rfl) <| st tf25 (.t rfl) rfl (.t rfl) rfl rfl rfl <| u (asg (.t rfl)) <| .nil _) (by kernel_rfl) rfl ?_
      exact .kq (J2 (x9.2, x9.1) h) (.c rfl (.c rfl (.c rfl (.c rfl (.c rfl (.c rfl (.c rfl .n))))))) (.c rfl (.c rfl .n))
    · refine be h fun x10 hx10 h => ?_
      refine be h fun x11 hx11 h => ?_
      refine .rd mixed (u (ld tf25 (.t rfl) rfl rfl) <| u (mv (.t rfl)) <| u (mv (.t rfl)) <| u (ia sf22 (.t rfl) (.t rfl) (ix_map e8 hx10)) <| u (lr tf5 (.t rfl) rfl) <| u (cv cv5_3 (.t rfl)) <| u (di (.t rfl) (.i rfl) rfl (by decide)) <| cl [] cf9 (bits_Get_c hx11) (.c (.t rfl) <| .c (.t rfl) <| .n) (.inl rfl) <| u (mv (.t rfl)) <| u (ex (.t rfl) rfl rfl) <| u (ex (.t rfl) rfl rfl) <| st tf25 (.t rfl) rfl (.t rfl) rfl rfl rfl <| u (asg (.t rfl)) <| .nil _) (by kernel_rfl) rfl ?_
      exact .kq (J2 (x11.2, x11.1) h) (.c rfl (.c rfl (.c rfl (.c rfl (.c rfl (.c rfl (.c rfl .n))))))) (.c rfl (.c rfl .n))
  · refine .xt rfl ?_
    replace h := mpR h hx1
    refine .sq ?_
    refine .rg (u (ld tf25 (.t rfl) rfl rfl) <| st tf25 (.t rfl) rfl (.t rfl) rfl rfl rfl <| .nil _) rfl ?_
    obtain rfl := Option.some.inj h
    exact .rt Try.func22 (.c tf25 rfl rfl rfl <| .n) .n rfl rfl

theorem law02_BitsBack_c {z : Option Nat} {l : List Int} {widths : List Int} {ranges : List Bool} {r : Bool} (h : law02_BitsBack z l widths ranges = some r) :
    AC Try.prog 4 [.ro (.list 1 (List.map (ei .u64) l)), .ro (.list 1 (List.map e8 widths)), .ro (.list 1 (List.map eb ranges))] (.ro (.bool r)) [] := by
  refine AC.of Try.func4 rfl rfl fun w M0 hM => ?_
  unfold law02_BitsBack at h
  refine .sq ?_
  refine .rg (u (asg .b) <| .nil _) rfl ?_
  refine .sq ?_
  refine .sq ?_
  refine .rg (cl [] cf7 law02_awake_k (.n) (.inl rfl) <| u (no (.t rfl)) <| .nil _) rfl ?_
  refine .cf (.t rfl) rfl ?_
  refine .skp ?_
  refine .sq ?_
  refine .sq ?_
  refine .rg (u (mv (.t rfl)) <| u (lnm sf45 (.t rfl)) <| u (bc (.t rfl) (.i rfl) rfl rfl) <| u (mv (.t rfl)) <| gd rfl rfl (fun hB => mv (.t rfl)) <| gd rfl rfl (fun hB => lnm sf22 (.m rfl hB)) <| gd rfl rfl (fun hB => mv (.t rfl)) <| gd rfl rfl (fun hB => lnm sf45 (.m rfl hB)) <| gd rfl rfl (fun hB => bc (.m rfl hB) (.m rfl hB) rfl rfl) <| u (pko (.t rfl) (.t rfl)) <| u (mv (.t rfl)) <| gd rfl rfl (fun hB => mv (.t rfl)) <| gd rfl rfl (fun hB => lnm sf46 (.m rfl hB)) <| gd rfl rfl (fun hB => mv (.t rfl)) <| gd rfl rfl (fun hB => lnm sf45 (.m rfl hB)) <| gd rfl rfl (fun hB => bc (.m rfl hB) (.m rfl hB) rfl rfl) <| u (pko (.t rfl) (.t rfl)) <| .nil _) rfl ?_
  refine .bq h (.t rfl) (fun h => ?_) (fun h => ?_)
  · refine .sq ?_
    refine .rg (u (asg .b) <| .nil _) rfl ?_
    obtain rfl := Option.some.inj h
    exact .rt Try.func4 (.t rfl <| .n) .n rfl rfl
  · refine .skp ?_
    refine .sq ?_
    refine .rg (u (bd bf27 zf27 (.n) rfl) <| al 7 zf27 rfl <| st tf27 (.t rfl) rfl (.t rfl) rfl rfl rfl <| .nil _) rfl ?_
    refine .sq ?_
    refine .rg (anm (ei .u64) 8 28 1 rfl rfl <| .nil _) rfl ?_
    refine .sq ?_
    refine .sq ?_
    refine .rg (u (asg (.i rfl)) <| .nil _) rfl ?_
    refine .bl ?_
    unfold law02_BitsBack_l1 at h
    refine .kq (.lo (fun (s : List Int × Int × Ink) => ⟨[(0, .ro (.list 1 (List.map (ei .u64) l))), (1, .ro (.list 1 (List.map e8 widths))), (2, .ro (.list 1 (List.map eb ranges))), (7, .ptr 7 0), (8, .own 8), (9, .ro (.int .i64 s.2.1))], [(7, some (.box [.ro (.list 1 (List.map e8 s.2.2.bytes)), .ro (.int .i64 s.2.2.many)])), (8, some (.arr 28 1 (List.map (ei .u64) s.1)))]⟩) h ?_) (.c rfl (.c rfl (.c rfl (.c rfl (.c rfl (.c rfl .n)))))) (.c rfl (.c rfl .n))
    rintro ⟨v1, v2, v3⟩ u1 h ih1 hx1
    replace h : law02_BitsBack_s1 z l widths ranges v1 v2 v3 = _ := h
    unfold law02_BitsBack_s1 at h
    refine .sq ?_
    refine .sq ?_
    refine .rg (u (mv (.t rfl)) <| u (mv (.t rfl)) <| u (lnm sf45 (.t rfl)) <| u (bc (.t rfl) (.t rfl) rfl rfl) <| .nil _) rfl ?_
    refine .bq h (.t rfl) (fun h => ?_) (fun h => ?_)
    · refine .skp ?_
      refine .sq ?_
      refine .bl ?_
      refine .sq ?_
      refine be h fun x4 hx4 h => ?_
      refine .rg (u (mv (.t rfl)) <| u (mv (.t rfl)) <| u (ia sf22 (.t rfl) (.t rfl) (ix_map e8 hx4)) <| u (lr tf5 (.t rfl) rfl) <| u (cv cv5_3 (.t rfl)) <| u (di (.t rfl) (.i rfl) rfl (by decide)) <| u (asg (.t rfl)) <| .nil _) rfl ?_
      refine .sq ?_
      refine be h fun x5 hx5 h => ?_
      refine .rg (u (mv (.t rfl)) <| u (mv (.t rfl)) <| u (ia sf45 (.t rfl) (.t rfl) (ix_map (ei .u64) hx5)) <| u (lr tf28 (.t rfl) rfl) <| u (asg (.t rfl)) <| .nil _) rfl ?_
      refine .sq ?_
      refine .sq ?_
      refine .rg (u (mv (.t rfl)) <| u (bc (.t rfl) (.i rfl) rfl rfl) <| .nil _) rfl ?_
      refine .jq (t := some u1) (fun (a : Int) => ⟨[(0, .ro (.list 1 (List.map (ei .u64) l))), (1, .ro (.list 1 (List.map e8 widths))), (2, .ro (.list 1 (List.map eb ranges))), (7, .ptr 7 0), (8, .own 8), (9, .ro (.int .i64 v2)), (10, .ro (.int .i64 (dv .rem .i64 (IntKind.i64.wrap x4) 65))), (11, .ro (.int .u64 a))], [(7, some (.box [.ro (.list 1 (List.map e8 v3.bytes)), .ro (.int .i64 v3.many)])), (8, some (.arr 28 1 (List.map (ei .u64) v1)))]⟩) (fun (a : Int) => law02_BitsBack_j2 z l widths ranges v1 v2 v3 x4 a) ?_ (fun J2 => ?_)
      · intro v6 h
        replace h : law02_BitsBack_j2 z l widths ranges v1 v2 v3 x4 v6 = _ := h
        unfold law02_BitsBack_j2 at h
        refine .sq ?_
        refine .rg (u (asg (.i rfl)) <| .nil _) rfl ?_
        refine .sq ?_
        refine .sq ?_
        refine be h fun x7 hx7 h => ?_
        refine .rg (u (mv (.t rfl)) <| u (mv (.t rfl)) <| u (ia sf46 (.t rfl) (.t rfl) (ix_map eb hx7)) <| u (lr tf4 (.t rfl) rfl) <| .nil _) rfl ?_
        refine .jq (t := some u1) (fun (a : Int × Int × Ink) => ⟨[(0, .ro (.list 1 (List.map (ei .u64) l))), (1, .ro (.list 1 (List.map e8 widths))), (2, .ro (.list 1 (List.map eb ranges))), (7, .ptr 7 0), (8, .own 8), (9, .ro (.int .i64 v2)), (11, .ro (.int .u64 a.1)), (12, .ro (.int .i64 a.2.1))], [(7, some (.box [.ro (.list 1 (List.map e8 a.2.2.bytes)), .ro (.int .i64 a.2.2.many)])), (8, some (.arr 28 1 (List.map (ei .u64) v1)))]⟩) (fun (a : Int × Int × Ink) => law02_BitsBack_j3 z v1 v2 a.1 a.2.1 a.2.2) ?_ (fun J3 => ?_)
        · rintro ⟨v8, v9, v10⟩ h
          replace h : law02_BitsBack_j3 z v1 v2 v8 v9 v10 = _ := h
          unfold law02_BitsBack_j3 at h
          refine .sq ?_
          refine .sq ?_
          refine be h fun x11 hx11 h => ?_
          refine .rg (u (mv (.t rfl)) <| u (bc (.t rfl) (.i rfl) rfl rfl) <| u (mv (.t rfl)) <| gd rfl rfl (fun hB => ld tf27 (.t rfl) rfl rfl) <| cg rfl rfl cf17 (fun hB => (bits_Right_c (gTt hx11 (nt hB)))) (fun hB => .c (.m rfl hB) <| .n) (.inl rfl) <| gd rfl rfl (fun hB => no (.m rfl hB)) <| u (pko (.t rfl) (.t rfl)) <| .nil _) rfl ?_
          refine .bq h (.t rfl) (fun h => ?_) (fun h => ?_)
          · refine .sq ?_
            refine .rg (u (asg .b) <| .nil _) rfl ?_
            replace h := mpR h hx1
            obtain rfl := Option.some.inj h
            exact .rt Try.func4 (.t rfl <| .n) .n rfl rfl
          · refine .skp ?_
            refine be h fun x12 hx12 h => ?_
            refine .rg (u (mv (.t rfl)) <| u (mv (.t rfl)) <| bs (F := (ei .u64)) (l := [v8]) 100 pf45 (.c (.t rfl) rfl <| .n) rfl (fun _ _ => rfl) rfl rfl <| apo 101 pf45 (.t rfl) rfl (.t rfl) rfl hx12 rfl <| u (asg (.t rfl)) <| .nil _) rfl ?_
            refine .ib ?_
            refine .rg (u (mv (.t rfl)) <| u (bi (.t rfl) (.i rfl) rfl) <| u (asg (.t rfl)) <| .nil _) rfl ?_
            exact .ks (fun i => bif Nat.beq i 8 then 101 else i) (.il (ih1 (x12, (ar .add .i64 v2 1), v10) (nxi h))) (.c rfl (.c rfl (.c rfl (.c rfl (.c rfl (.c rfl .n)))))) (.c rfl (.c rfl .n)) rfl
        refine .bq h (.t rfl) (fun h => ?_) (fun h => ?_)
        · refine .sq ?_
          refine be h fun x13 hx13 h => ?_
          refine be h fun x14 hx14 h => ?_
          refine be h fun x15 hx15 h => ?_
          refine .rd mixed (u (mv (.t rfl)) <| u (mv (.t rfl)) <| u (ia sf45 (.t rfl) (.t rfl) (ix_map (ei .u64) hx13)) <| u (lr tf28 (.t rfl) rfl) <| u (mv (.t rfl)) <| u (mv (.t rfl)) <| u (ia sf22 (.t rfl) (.t rfl) (ix_map e8 hx14)) <| u (lr tf5 (.t rfl) rfl) <| u (cv cv5_28 (.t rfl)) <| u (bi (.t rfl) (.i rfl) rfl) <| u (dio (.t rfl) (.t rfl) rfl hx15) <| u (asg (.t rfl)) <| .nil _) (by kernel_rfl) rfl ?_
          refine be h fun x16 hx16 h => ?_
          refine be h fun x17 hx17 h => ?_
          refine .rd mixed (u (ld tf27 (.t rfl) rfl rfl) <| u (mv (.t rfl)) <| u (mv (.t rfl)) <| u (mv (.t rfl)) <| u (ia sf22 (.t rfl) (.t rfl) (ix_map e8 hx16)) <| u (lr tf5 (.t rfl) rfl) <| u (cv cv5_28 (.t rfl)) <| u (bi (.t rfl) (.i rfl) rfl) <| cl [] cf20 (bits_AddRange_c hx17) (.c (.t rfl) <| .c (.t rfl) <| .c (.t rfl) <| .n) (.inl rfl) <| u (mv (.t rfl)) <| u (ex (.t rfl) rfl rfl) <| u (ex (.t rfl) rfl rfl) <| st tf27 (.t rfl) rfl (.t rfl) rfl rfl rfl <| u (asg (.t rfl)) <| .nil _) (by kernel_rfl) rfl ?_
          exact .kq (J3 (x15, x17.2, x17.1) h) (.c rfl (.c rfl (.c rfl (.c rfl (.c rfl (.c rfl (.c rfl (.c rfl .n)))))))) (.c rfl (.c rfl .n))
        · refine be h fun x18 hx18 h => ?_
          refine .rg (u (ld tf27 (.t rfl) rfl rfl) <| u (mv (.t rfl)) <| u (mv (.t rfl)) <| cl [] cf15 (bits_Add_c hx18) (.c (.t rfl) <| .c (.t rfl) <| .c (.t rfl) <| .n) (.inl rfl) <| u (mv (.t rfl)) <| u (ex (.t rfl) rfl rfl) <| u (ex (.t rfl) rfl rfl) <| st tf27 (.t rfl) rfl (.t rfl) rfl rfl rfl <| u (asg (.t rfl)) <| .nil _) rfl ?_
          exact .kq (J3 (v6, x18.2, x18.1) h) (.c rfl (.c rfl (.c rfl (.c rfl (.c rfl (.c rfl (.c rfl (.c rfl .n)))))))) (.c rfl (.c rfl .n))
      refine .bq h (.t rfl) (fun h => ?_) (fun h => ?_)
      · refine be h fun x19 hx19 h => ?_
        refine .rg (u (mv (.t rfl)) <| u (mv (.t rfl)) <| u (sho (.i rfl) (.t rfl) rfl hx19) <| u (bi (.t rfl) (.i rfl) rfl) <| u (bi (.t rfl) (.t rfl) rfl) <| u (asg (.t rfl)) <| .nil _) rfl ?_
        exact .kq (J2 (ar .and .u64 x5 (ar .sub .u64 x19 1)) h) (.c rfl (.c rfl (.c rfl (.c rfl (.c rfl (.c rfl (.c rfl (.c rfl .n)))))))) (.c rfl (.c rfl .n))
      · refine .skp ?_
        exact .kq (J2 x5 h) (.c rfl (.c rfl (.c rfl (.c rfl (.c rfl (.c rfl (.c rfl (.c rfl .n)))))))) (.c rfl (.c rfl .n))
    · refine .xt rfl ?_
      replace h := mpR h hx1
      refine .sq ?_
      refine .fz 8 rfl ?_
      refine be h fun x20 hx20 h => ?_
      refine .rg (u (fa ff27_0 (.t rfl)) <| u (ld tf22 (.t rfl) rfl rfl) <| cl [] cf23 (bits_Start_c v3.bytes) (.c (.t rfl) <| .n) (.inl rfl) <| u (mv (.t rfl)) <| u (mv (.t rfl)) <| u (mv (.t rfl)) <| cl [] cf22 (law02_read_c hx20) (.c (.t rfl) <| .c (.t rfl) <| .c (.t rfl) <| .c (.t rfl) <| .n) (.inl rfl) <| al 13 zf25 rfl <| st tf25 (.t rfl) rfl (.t rfl) rfl rfl rfl <| .nil _) rfl ?_
      refine .sq ?_
      refine .sq ?_
      refine .rg (u (fa ff25_2 (.t rfl)) <| u (ld tf23 (.t rfl) rfl rfl) <| u (bc (.t rfl) (.i rfl) rfl rfl) <| u (mv (.t rfl)) <| gd rfl rfl (fun hB => fa ff25_1 (.t rfl)) <| gd rfl rfl (fun hB => ld tf3 (.m rfl hB) rfl rfl) <| gd rfl rfl (fun hB => fa ff27_1 (.t rfl)) <| gd rfl rfl (fun hB => ld tf3 (.m rfl hB) rfl rfl) <| gd rfl rfl (fun hB => bc (.m rfl hB) (.m rfl hB) rfl rfl) <| u (pko (.t rfl) (.t rfl)) <| u (mv (.t rfl)) <| gd rfl rfl (fun hB => ld tf25 (.t rfl) rfl rfl) <| cg rfl rfl cf11 (fun hB => (bits_Left_c x20)) (fun hB => .c (.m rfl hB) <| .n) (.inl rfl) <| gd rfl rfl (fun hB => bc (.m rfl hB) (.i rfl) rfl rfl) <| u (pko (.t rfl) (.t rfl)) <| .nil _) rfl ?_
      refine .bq h (.t rfl) (fun h => ?_) (fun h => ?_)
      · refine .sq ?_
        refine .rg (u (asg .b) <| .nil _) rfl ?_
        obtain rfl := Option.some.inj h
        exact .rt Try.func4 (.t rfl <| .n) .n rfl rfl
      · refine .skp ?_
        refine .sq ?_
        refine .sq ?_
        refine .rg (u (fa ff27_0 (.t rfl)) <| u (ld tf22 (.t rfl) rfl rfl) <| u (lnm sf22 (.t rfl)) <| u (bc (.t rfl) (.i rfl) rfl rfl) <| .nil _) rfl ?_
        refine .bq h (.t rfl) (fun h => ?_) (fun h => ?_)
        · refine .sq ?_
          refine .rg (u (asg .b) <| .nil _) rfl ?_
          obtain rfl := Option.some.inj h
          exact .rt Try.func4 (.t rfl <| .n) .n rfl rfl
        · refine .skp ?_
          refine .sq ?_
          refine be h fun x21 hx21 h => ?_
          refine be h fun x22 hx22 h => ?_
          refine .rg (u (fa ff27_0 (.t rfl)) <| u (ld tf22 (.t rfl) rfl rfl) <| u (fa ff27_0 (.t rfl)) <| u (ld tf22 (.t rfl) rfl rfl) <| u (lnm sf22 (.t rfl)) <| u (bi (.t rfl) (.i rfl) rfl) <| u (sl sf22 (.t rfl) .n (.s (.t rfl)) hx21) <| cl [] cf23 (bits_Start_c x21) (.c (.t rfl) <| .n) (.inl rfl) <| u (mv (.t rfl)) <| u (mv (.t rfl)) <| u (mv (.t rfl)) <| cl [] cf22 (law02_read_c hx22) (.c (.t rfl) <| .c (.t rfl) <| .c (.t rfl) <| .c (.t rfl) <| .n) (.inl rfl) <| st tf25 (.t rfl) rfl (.t rfl) rfl rfl rfl <| .nil _) rfl ?_
          refine .sq ?_
          refine .rg (u (fa ff25_2 (.t rfl)) <| u (ld tf23 (.t rfl) rfl rfl) <| u (bc (.t rfl) (.i rfl) rfl rfl) <| u (asg (.t rfl)) <| .nil _) rfl ?_
          obtain rfl := Option.some.inj h
          exact .rt Try.func4 (.t rfl <| .n) .n rfl rfl

theorem law02_BitsParts_c {z : Option Nat} {c : GBits} {k : Ink} {m : Int} {n : Int} {v : Int} {r : Bool} (h : law02_BitsParts z c k m n v = some r) :
    AC Try.prog 5 [.ro (enc_GBits c), .ro (enc_Ink k), .ro (.int .u8 m), .ro (.int .u8 n), .ro (.int .u64 v)] (.ro (.bool r)) [] := by
  refine AC.of Try.func5 rfl rfl fun w M0 hM => ?_
  unfold law02_BitsParts at h
  refine .sq ?_
  refine .rg (bx 5 (.t rfl) rfl rfl <| bx 6 (.t rfl) rfl rfl <| u (asg .b) <| .nil _) rfl ?_
  refine .sq ?_
  refine .sq ?_
  refine .rg (cl [] cf7 law02_awake_k (.n) (.inl rfl) <| u (no (.t rfl)) <| .nil _) rfl ?_
  refine .cf (.t rfl) rfl ?_
  refine .skp ?_
  refine .sq ?_
  refine .sq ?_
  refine .rg (u (fa ff25_0 (.t rfl)) <| u (ld tf22 (.t rfl) rfl rfl) <| u (lnm sf22 (.t rfl)) <| u (bc (.t rfl) (.i rfl) rfl rfl) <| u (mv (.t rfl)) <| gd rfl rfl (fun hB => fa ff27_0 (.t rfl)) <| gd rfl rfl (fun hB => ld tf22 (.m rfl hB) rfl rfl) <| gd rfl rfl (fun hB => lnm sf22 (.m rfl hB)) <| gd rfl rfl (fun hB => bc (.m rfl hB) (.i rfl) rfl rfl) <| u (pko (.t rfl) (.t rfl)) <| .nil _) rfl ?_
  refine .bq h (.t rfl) (fun h => ?_) (fun h => ?_)
  · refine .sq ?_
    refine .rg (u (asg .b) <| .nil _) rfl ?_
    obtain rfl := Option.some.inj h
    exact .rt Try.func5 (.t rfl <| .n) .n rfl rfl
  · refine .skp ?_
    refine .sq ?_
    refine .rg (u (mv (.t rfl)) <| u (cv cv5_3 (.t rfl)) <| u (di (.t rfl) (.i rfl) rfl (by decide)) <| u (mv (.t rfl)) <| u (cv cv5_3 (.t rfl)) <| u (di (.t rfl) (.i rfl) rfl (by decide)) <| u (asg (.t rfl)) <| u (asg (.t rfl)) <| .nil _) rfl ?_
    refine .sq ?_
    refine be h fun x1 hx1 h => ?_
    refine .rg (u (ld tf25 (.t rfl) rfl rfl) <| u (mv (.t rfl)) <| cl [] cf9 (bits_Get_c hx1) (.c (.t rfl) <| .c (.t rfl) <| .n) (.inl rfl) <| u (mv (.t rfl)) <| u (ex (.t rfl) rfl rfl) <| u (ex (.t rfl) rfl rfl) <| al 13 zf25 rfl <| st tf25 (.t rfl) rfl (.t rfl) rfl rfl rfl <| u (asg (.t rfl)) <| .nil _) rfl ?_
    refine .sq ?_
    refine be h fun x2 hx2 h => ?_
    refine .rg (u (ld tf25 (.t rfl) rfl rfl) <| u (mv (.t rfl)) <| cl [] cf9 (bits_Get_c hx2) (.c (.t rfl) <| .c (.t rfl) <| .n) (.inl rfl) <| u (mv (.t rfl)) <| u (ex (.t rfl) rfl rfl) <| u (ex (.t rfl) rfl rfl) <| al 15 zf25 rfl <| st tf25 (.t rfl) rfl (.t rfl) rfl rfl rfl <| u (asg (.t rfl)) <| .nil _) rfl ?_
    refine .sq ?_
    refine be h fun x3 hx3 h => ?_
    refine .rg (u (ld tf25 (.t rfl) rfl rfl) <| u (mv (.t rfl)) <| u (mv (.t rfl)) <| u (bi (.t rfl) (.t rfl) rfl) <| cl [] cf9 (bits_Get_c hx3) (.c (.t rfl) <| .c (.t rfl) <| .n) (.inl rfl) <| u (mv (.t rfl)) <| u (ex (.t rfl) rfl rfl) <| u (ex (.t rfl) rfl rfl) <| al 17 zf25 rfl <| st tf25 (.t rfl) rfl (.t rfl) rfl rfl rfl <| u (asg (.t rfl)) <| .nil _) rfl ?_
    refine .sq ?_
    refine .sq ?_
    refine .rg (u (fa ff25_2 (.t rfl)) <| u (ld tf23 (.t rfl) rfl rfl) <| u (bc (.t rfl) (.i rfl) rfl rfl) <| .nil _) rfl ?_
    refine .jq (t := some r) (fun (a : Unit) => ⟨[(4, .ro (.int .u64 v)), (6, .ptr 6 0), (11, .ro (.int .i64 (dv .rem .i64 (IntKind.i64.wrap m) 33))), (12, .ro (.int .i64 (dv .rem .i64 (IntKind.i64.wrap n) 32)))], [(6, some (.box [.ro (.list 1 (List.map e8 k.bytes)), .ro (.int .i64 k.many)]))]⟩) (fun (a : Unit) => law02_BitsParts_j1 z k m n v) ?_ (fun J1 => ?_)
    · intro _ h
      replace h : law02_BitsParts_j1 z k m n v = _ := h
      unfold law02_BitsParts_j1 at h
      refine .sq ?_
      refine be h fun x4 hx4 h => ?_
      refine .rg (u (mv (.t rfl)) <| u (mv (.t rfl)) <| u (mv (.t rfl)) <| u (bi (.t rfl) (.t rfl) rfl) <| u (sho (.i rfl) (.t rfl) rfl hx4) <| u (bi (.t rfl) (.i rfl) rfl) <| u (bi (.t rfl) (.t rfl) rfl) <| u (asg (.t rfl)) <| .nil _) rfl ?_
      refine .sq ?_
      refine be h fun x5 hx5 h => ?_
      refine be h fun x6 hx6 h => ?_
      refine .rd mixed (u (ld tf27 (.t rfl) rfl rfl) <| u (mv (.t rfl)) <| u (mv (.t rfl)) <| u (sho (.t rfl) (.t rfl) rfl hx5) <| u (mv (.t rfl)) <| cl [] cf15 (bits_Add_c hx6) (.c (.t rfl) <| .c (.t rfl) <| .c (.t rfl) <| .n) (.inl rfl) <| u (mv (.t rfl)) <| u (ex (.t rfl) rfl rfl) <| u (ex (.t rfl) rfl rfl) <| al 19 zf27 rfl <| st tf27 (.t rfl) rfl (.t rfl) rfl rfl rfl <| u (asg (.t rfl)) <| .nil _) (by kernel_rfl) rfl ?_
      refine .sq ?_
      refine be h fun x7 hx7 h => ?_
      refine be h fun x8 hx8 h => ?_
      refine .rd mixed (u (ld tf27 (.t rfl) rfl rfl) <| u (mv (.t rfl)) <| u (mv (.t rfl)) <| u (sho (.i rfl) (.t rfl) rfl hx7) <| u (bi (.t rfl) (.i rfl) rfl) <| u (bi (.t rfl) (.t rfl) rfl) <| u (mv (.t rfl)) <| cl [] cf15 (bits_Add_c hx8) (.c (.t rfl) <| .c (.t rfl) <| .c (.t rfl) <| .n) (.inl rfl) <| u (mv (.t rfl)) <| u (ex (.t rfl) rfl rfl) <| u (ex (.t rfl) rfl rfl) <| st tf27 (.t rfl) rfl (.t rfl) rfl rfl rfl <| u (asg (.t rfl)) <| .nil _) (by kernel_rfl) rfl ?_
      refine .sq ?_
      refine be h fun x9 hx9 h => ?_
      refine .rg (u (ld tf27 (.t rfl) rfl rfl) <| u (mv (.t rfl)) <| u (mv (.t rfl)) <| u (mv (.t rfl)) <| u (bi (.t rfl) (.t rfl) rfl) <| cl [] cf15 (bits_Add_c hx9) (.c (.t rfl) <| .c (.t rfl) <| .c (.t rfl) <| .n) (.inl rfl) <| u (mv (.t rfl)) <| u (ex (.t rfl) rfl rfl) <| u (ex (.t rfl) rfl rfl) <| al 22 zf27 rfl <| st tf27 (.t rfl) rfl (.t rfl) rfl rfl rfl <| u (asg (.t rfl)) <| .nil _) rfl ?_
      refine .sq ?_
      refine .rg (u (mv (.t rfl)) <| u (mv (.t rfl)) <| u (bc (.t rfl) (.t rfl) rfl rfl) <| u (mv (.t rfl)) <| gd rfl rfl (fun hB => mv (.t rfl)) <| gd rfl rfl (fun hB => mv (.t rfl)) <| gd rfl rfl (fun hB => bc (.m rfl hB) (.m rfl hB) rfl rfl) <| u (pka (.t rfl) (.t rfl)) <| u (mv (.t rfl)) <| gd rfl rfl (fun hB => ld tf27 (.t rfl) rfl rfl) <| gd rfl rfl (fun hB => ld tf27 (.t rfl) rfl rfl) <| cg rfl rfl cf19 (fun hB => (ref02_SameInk_c x8.1 x9.1)) (fun hB => .c (.m rfl hB) <| .c (.m rfl hB) <| .n) (.inl rfl) <| u (pka (.t rfl) (.t rfl)) <| u (asg (.t rfl)) <| .nil _) rfl ?_
      obtain rfl := Option.some.inj h
      exact .rt Try.func5 (.t rfl <| .n) .n rfl rfl
    refine .bq h (.t rfl) (fun h => ?_) (fun h => ?_)
    · refine .sq ?_
      refine be h fun x10 hx10 h => ?_
      refine .rg (u (fa ff25_2 (.t rfl)) <| u (ld tf23 (.t rfl) rfl rfl) <| u (bc (.t rfl) (.i rfl) rfl rfl) <| u (mv (.t rfl)) <| gd rfl rfl (fun hB => fa ff25_1 (.t rfl)) <| gd rfl rfl (fun hB => ld tf3 (.m rfl hB) rfl rfl) <| gd rfl rfl (fun hB => fa ff25_1 (.t rfl)) <| gd rfl rfl (fun hB => ld tf3 (.m rfl hB) rfl rfl) <| gd rfl rfl (fun hB => bc (.m rfl hB) (.m rfl hB) rfl rfl) <| u (pko (.t rfl) (.t rfl)) <| u (mv (.t rfl)) <| gd rfl rfl (fun hB => mv (.t rfl)) <| gd rfl rfl (fun hB => mv (.t rfl)) <| gd rfl rfl (fun hB => mv (.t rfl)) <| gd rfl rfl (fun hB => sho (.m rfl hB) (.m rfl hB) rfl (gTt hx10 (nt hB))) <| gd rfl rfl (fun hB => mv (.t rfl)) <| gd rfl rfl (fun hB => bi (.m rfl hB) (.m rfl hB) rfl) <| gd rfl rfl (fun hB => bc (.m rfl hB) (.m rfl hB) rfl rfl) <| u (pko (.t rfl) (.t rfl)) <| .nil _) rfl ?_
      refine .bq h (.t rfl) (fun h => ?_) (fun h => ?_)
      · refine .sq ?_
        refine .rg (u (asg .b) <| .nil _) rfl ?_
        obtain rfl := Option.some.inj h
        exact .rt Try.func5 (.t rfl <| .n) .n rfl rfl
      · refine .skp ?_
        exact .kq (J1 () h) (.c rfl (.c rfl (.c rfl (.c rfl .n)))) (.c rfl .n)
    · refine .sq ?_
      refine .rg (u (fa ff25_2 (.t rfl)) <| u (ld tf23 (.t rfl) rfl rfl) <| u (bc (.t rfl) (.i rfl) rfl rfl) <| .nil _) rfl ?_
      refine .bq h (.t rfl) (fun h => ?_) (fun h => ?_)
      · refine .sq ?_
        refine .rg (u (asg .b) <| .nil _) rfl ?_
        obtain rfl := Option.some.inj h
        exact .rt Try.func5 (.t rfl <| .n) .n rfl rfl
      · refine .skp ?_
        exact .kq (J1 () h) (.c rfl (.c rfl (.c rfl (.c rfl .n)))) (.c rfl .n)

theorem law02_BitsRange_c {z : Option Nat} {n : Int} {r : Bool} (h : law02_BitsRange z n = some r) :
    AC Try.prog 6 [.ro (.int .u8 n)] (.ro (.bool r)) [] := by
  refine AC.of Try.func6 rfl rfl fun w M0 hM => ?_
  unfold law02_BitsRange at h
  refine .sq ?_
  refine .rg (u (asg .b) <| .nil _) rfl ?_
  refine .sq ?_
  refine .sq ?_
  refine .rg (cl [] cf7 law02_awake_k (.n) (.inl rfl) <| u (no (.t rfl)) <| .nil _) rfl ?_
  refine .cf (.t rfl) rfl ?_
  refine .skp ?_
  refine .sq ?_
  refine .rg (u (mv (.t rfl)) <| u (cv cv5_28 (.t rfl)) <| u (di (.t rfl) (.i rfl) rfl (by decide)) <| u (bi (.t rfl) (.i rfl) rfl) <| u (asg (.t rfl)) <| .nil _) rfl ?_
  refine .sq ?_
  refine .rg (u (asg (.i rfl)) <| .nil _) rfl ?_
  refine .sq ?_
  refine .bl ?_
  unfold law02_BitsRange_l1 at h
  refine .kq (.lo (fun (s : Int) => ⟨[(3, .ro (.int .u64 (ar .add .u64 (dv .rem .u64 (IntKind.u64.wrap n) 64) 1))), (4, .ro (.int .i64 s))], []⟩) h ?_) (.c rfl (.c rfl .n)) .n
  intro v1 u1 h ih1 hx1
  replace h : law02_BitsRange_s1 z n v1 = _ := h
  unfold law02_BitsRange_s1 at h
  refine .sq ?_
  refine .sq ?_
  refine be h fun x2 hx2 h => ?_
  refine .rg (u (mv (.t rfl)) <| u (mv (.t rfl)) <| u (sho (.t rfl) (.t rfl) rfl hx2) <| u (bc (.t rfl) (.i rfl) rfl rfl) <| .nil _) rfl ?_
  refine .bq h (.t rfl) (fun h => ?_) (fun h => ?_)
  · refine .skp ?_
    refine .bl ?_
    refine .rg (u (mv (.t rfl)) <| u (bi (.t rfl) (.i rfl) rfl) <| u (asg (.t rfl)) <| .nil _) rfl ?_
    refine .ib ?_
    exact .kq (.il (ih1 (ar .add .i64 v1 1) (nxi h))) (.c rfl (.c rfl .n)) .n
  · refine .xt rfl ?_
    replace h := mpR h hx1
    refine .sq ?_
    refine .rg (anm es 5 9 1 rfl rfl <| .nil _) rfl ?_
    refine .sq ?_
    refine .sq ?_
    refine .rg (u (asg (.i rfl)) <| .nil _) rfl ?_
    refine .bl ?_
    unfold law02_BitsRange_l2 at h
    refine .kq (.lo (fun (s : List (List UInt8) × Int) => ⟨[(3, .ro (.int .u64 (ar .add .u64 (dv .rem .u64 (IntKind.u64.wrap n) 64) 1))), (4, .ro (.int .i64 v1)), (5, .own 5), (6, .ro (.int .u64 s.2))], [(5, some (.arr 9 1 (List.map es s.1)))]⟩) h ?_) (.c rfl (.c rfl (.c rfl (.c rfl .n)))) (.c rfl .n)
    rintro ⟨v3, v4⟩ u2 h ih2 hx2
    replace h : law02_BitsRange_s2 z n v1 v3 v4 = _ := h
    unfold law02_BitsRange_s2 at h
    refine .sq ?_
    refine .sq ?_
    refine .rg (u (mv (.t rfl)) <| u (mv (.t rfl)) <| u (bc (.t rfl) (.t rfl) rfl rfl) <| .nil _) rfl ?_
    refine .bq h (.t rfl) (fun h => ?_) (fun h => ?_)
    · refine .skp ?_
      refine .sq ?_
      refine .bl ?_
      refine .sq ?_
      refine be h fun x5 hx5 h => ?_
      refine .rg (u (bd bf27 zf27 (.n) rfl) <| u (mv (.t rfl)) <| u (mv (.t rfl)) <| cl [] cf20 (bits_AddRange_c hx5) (.c (.t rfl) <| .c (.t rfl) <| .c (.t rfl) <| .n) (.inl rfl) <| u (mv (.t rfl)) <| u (ex (.t rfl) rfl rfl) <| u (ex (.t rfl) rfl rfl) <| al 7 zf27 rfl <| st tf27 (.t rfl) rfl (.t rfl) rfl rfl rfl <| u (asg (.t rfl)) <| .nil _) rfl ?_
      refine .sq ?_
      refine be h fun x6 hx6 h => ?_
      refine be h fun x7 hx7 h => ?_
      refine be h fun x8 hx8 h => ?_
      refine .rg (bs (F := e8) (l := ([] : List Int)) 42 pf22 (.n) rfl (fun _ _ => rfl) rfl rfl <| u (fa ff27_0 (.t rfl)) <| u (ld tf22 (.t rfl) rfl rfl) <| ap 45 pf22 (.t rfl) rfl (.t rfl) hx6 rfl <| bs (F := e8) (l := [255]) 46 pf22 (.c (.i rfl) rfl <| .n) rfl (fun _ _ => rfl) rfl rfl <| apo 47 pf22 (.t rfl) rfl (.t rfl) rfl hx7 rfl <| cl [47] cf23 (bits_Start_c x7) (.b (.t rfl) rfl <| .n) (.inl rfl) <| u (mv (.t rfl)) <| cl [] cf13 (bits_Range_c hx8) (.c (.t rfl) <| .c (.t rfl) <| .n) (.inl rfl) <| u (mv (.t rfl)) <| u (ex (.t rfl) rfl rfl) <| u (ex (.t rfl) rfl rfl) <| al 9 zf25 rfl <| st tf25 (.t rfl) rfl (.t rfl) rfl rfl rfl <| u (asg (.t rfl)) <| .nil _) rfl ?_
      refine .sq ?_
      refine .sq ?_
      refine .rg (u (mv (.t rfl)) <| u (bc (.t rfl) (.i rfl) rfl rfl) <| u (mv (.t rfl)) <| gd rfl rfl (fun hB => fa ff25_2 (.t rfl)) <| gd rfl rfl (fun hB => ld tf23 (.m rfl hB) rfl rfl) <| gd rfl rfl (fun hB => bc (.m rfl hB) (.i rfl) rfl rfl) <| u (pko (.t rfl) (.t rfl)) <| u (mv (.t rfl)) <| gd rfl rfl (fun hB => mv (.t rfl)) <| gd rfl rfl (fun hB => mv (.t rfl)) <| gd rfl rfl (fun hB => bc (.m rfl hB) (.m rfl hB) rfl rfl) <| u (pko (.t rfl) (.t rfl)) <| u (mv (.t rfl)) <| gd rfl rfl (fun hB => fa ff25_1 (.t rfl)) <| gd rfl rfl (fun hB => ld tf3 (.m rfl hB) rfl rfl) <| gd rfl rfl (fun hB => fa ff27_1 (.t rfl)) <| gd rfl rfl (fun hB => ld tf3 (.m rfl hB) rfl rfl) <| gd rfl rfl (fun hB => bc (.m rfl hB) (.m rfl hB) rfl rfl) <| u (pko (.t rfl) (.t rfl)) <| u (mv (.t rfl)) <| gd rfl rfl (fun hB => fa ff27_1 (.t rfl)) <| gd rfl rfl (fun hB => ld tf3 (.m rfl hB) rfl rfl) <| gd rfl rfl (fun hB => mv (.t rfl)) <| gd rfl rfl (fun hB => bc (.m rfl hB) (.m rfl hB) rfl rfl) <| gd rfl rfl (fun hB => mv (.m rfl hB)) <| gm rfl rfl (fun hB => fa ff27_1 (.t rfl)) <| gm rfl rfl (fun hB => ld tf3 (.m rfl hB) rfl rfl) <| gm rfl rfl (fun hB => mv (.t rfl)) <| gm rfl rfl (fun hB => bi (.m rfl hB) (.i rfl) rfl) <| gm rfl rfl (fun hB => bc (.m rfl hB) (.m rfl hB) rfl rfl) <| gd rfl rfl (fun hB => pkam (.m rfl hB) (.t rfl) hB) <| u (pko (.t rfl) (.t rfl)) <| .nil _) rfl ?_
      refine .bq h (.t rfl) (fun h => ?_) (fun h => ?_)
      · refine .sq ?_
        refine .rg (u (asg .b) <| .nil _) rfl ?_
        replace h := mpR h hx2
        obtain rfl := Option.some.inj h
        exact .rt Try.func6 (.t rfl <| .n) .n rfl rfl
      · refine .skp ?_
        refine .sq ?_
        refine .rg (u (asg (.s rfl)) <| .nil _) rfl ?_
        refine .sq ?_
        refine .rg (u (fa ff27_0 (.t rfl)) <| u (ld tf22 (.t rfl) rfl rfl) <| cl [] cf23 (bits_Start_c x5.1.bytes) (.c (.t rfl) <| .n) (.inl rfl) <| al 12 zf25 rfl <| st tf25 (.t rfl) rfl (.t rfl) rfl rfl rfl <| .nil _) rfl ?_
        refine .sq ?_
        refine .sq ?_
        refine .rg (u (asg (.i rfl)) <| .nil _) rfl ?_
        refine .bl ?_
        unfold law02_BitsRange_l3 at h
        refine .kq (.lo (fun (s : List UInt8 × Int × GBits) => ⟨[(3, .ro (.int .u64 (ar .add .u64 (dv .rem .u64 (IntKind.u64.wrap n) 64) 1))), (4, .ro (.int .i64 v1)), (5, .own 5), (6, .ro (.int .u64 v4)), (7, .ptr 7 0), (11, .ro (.str s.1)), (12, .ptr 12 0), (13, .ro (.int .i64 s.2.1))], [(5, some (.arr 9 1 (List.map es v3))), (7, some (.box [.ro (.list 1 (List.map e8 x5.1.bytes)), .ro (.int .i64 x5.1.many)])), (12, some (.box [.ro (.list 1 (List.map e8 s.2.2.bytes)), .ro (.int .i64 s.2.2.at_), .ro (.int .i64 s.2.2.err)]))]⟩) h ?_) (.c rfl (.c rfl (.c rfl (.c rfl (.c rfl (.c rfl (.c rfl (.c rfl .n)))))))) (.c rfl (.c rfl (.c rfl .n)))
        rintro ⟨v9, v10, v11⟩ u3 h ih3 hx3
        replace h : law02_BitsRange_s3 z n v3 v4 x5 v9 v10 v11 = _ := h
        unfold law02_BitsRange_s3 at h
        refine .sq ?_
        refine .sq ?_
        refine .rg (u (mv (.t rfl)) <| u (fa ff27_1 (.t rfl)) <| u (ld tf3 (.t rfl) rfl rfl) <| u (bc (.t rfl) (.t rfl) rfl rfl) <| .nil _) rfl ?_
        refine .bq h (.t rfl) (fun h => ?_) (fun h => ?_)
        · refine .skp ?_
          refine .sq ?_
          refine .bl ?_
          refine .sq ?_
          refine be h fun x12 hx12 h => ?_
          refine .rg (u (ld tf25 (.t rfl) rfl rfl) <| cl [] cf9 (bits_Get_c hx12) (.c (.t rfl) <| .c (.i rfl) <| .n) (.inl rfl) <| u (mv (.t rfl)) <| u (ex (.t rfl) rfl rfl) <| u (ex (.t rfl) rfl rfl) <| al 14 zf25 rfl <| st tf25 (.t rfl) rfl (.t rfl) rfl rfl rfl <| u (asg (.t rfl)) <| .nil _) rfl ?_
          refine .sq ?_
          refine .rg (u (ld tf25 (.t rfl) rfl rfl) <| st tf25 (.t rfl) rfl (.t rfl) rfl rfl rfl <| .nil _) rfl ?_
          refine be h fun x13 hx13 h => ?_
          refine .rg (u (mv (.t rfl)) <| u (mv (.t rfl)) <| u (cv cv28_5 (.t rfl)) <| u (bi (.i rfl) (.t rfl) rfl) <| bs (F := e8) (l := [(ar .add .u8 48 (IntKind.u8.wrap x12.2))]) 104 pf22 (.c (.t rfl) rfl <| .n) rfl (fun _ _ => rfl) rfl rfl <| u (bto bt22_9 (.t rfl) rfl) <| u (sa (.t rfl) (.t rfl) hx13) <| u (asg (.t rfl)) <| .nil _) rfl ?_
          refine .ib ?_
          refine .rg (u (mv (.t rfl)) <| u (bi (.t rfl) (.i rfl) rfl) <| u (asg (.t rfl)) <| .nil _) rfl ?_
          exact .kq (.il (ih3 (x13, (ar .add .i64 v10 1), x12.1) (nxi h))) (.c rfl (.c rfl (.c rfl (.c rfl (.c rfl (.c rfl (.c rfl (.c rfl .n)))))))) (.c rfl (.c rfl (.c rfl .n)))
        · refine .xt rfl ?_
          replace h := mpR h hx3
          refine .sq ?_
          refine .sq ?_
          refine .rg (u (asg (.i rfl)) <| .nil _) rfl ?_
          refine .bl ?_
          unfold law02_BitsRange_l4 at h
          refine .kq (.lo (fun (s : Int) => ⟨[(3, .ro (.int .u64 (ar .add .u64 (dv .rem .u64 (IntKind.u64.wrap n) 64) 1))), (4, .ro (.int .i64 v1)), (5, .own 5), (6, .ro (.int .u64 v4)), (11, .ro (.str v9)), (16, .ro (.int .i64 s))], [(5, some (.arr 9 1 (List.map es v3)))]⟩) h ?_) (.c rfl (.c rfl (.c rfl (.c rfl (.c rfl (.c rfl .n)))))) (.c rfl .n)
          intro v14 u4 h ih4 hx4
          replace h : law02_BitsRange_s4 z n v3 v4 v9 v14 = _ := h
          unfold law02_BitsRange_s4 at h
          refine .sq ?_
          refine .sq ?_
          refine .rg (u (mv (.t rfl)) <| u (mv (.t rfl)) <| u (lom sf51 (.t rfl) rfl) <| u (bc (.t rfl) (.t rfl) rfl rfl) <| .nil _) rfl ?_
          refine .bq h (.t rfl) (fun h => ?_) (fun h => ?_)
          · refine .skp ?_
            refine .sq ?_
            refine .bl ?_
            refine .sq ?_
            refine be h fun x15 hx15 h => ?_
            refine be h fun x16 hx16 h => ?_
            refine be h fun x17 hx17 h => ?_
            refine be h fun x18 hx18 h => ?_
            refine be h fun x19 hx19 h => ?_
            refine be h fun x20 hx20 h => ?_
            refine be h fun x21 hx21 h => ?_
            refine .rd mixed (u (mv (.t rfl)) <| u (mv (.t rfl)) <| u (io sf51 (.t rfl) rfl (.t rfl) (ix_map es hx15)) <| u (le tf9 (.t rfl) rfl (ix_lt (ix_map _ hx15)).2.2 rfl) <| u (lns us9 (.t rfl)) <| u (mv (.t rfl)) <| u (lns us9 (.t rfl)) <| u (bc (.t rfl) (.t rfl) rfl rfl) <| u (mv (.t rfl)) <| gd rfl rfl (fun hB => mv (.t rfl)) <| gd rfl rfl (fun hB => mv (.t rfl)) <| gd rfl rfl (fun hB => io sf51 (.m rfl hB) rfl (.m rfl hB) (ix_map es (gTt hx16 hB))) <| gd rfl rfl (fun hB => le tf9 (.m rfl hB) rfl (ix_lt (ix_map _ (gTt hx16 hB))).2.2 rfl) <| gd rfl rfl (fun hB => mv (.t rfl)) <| gd rfl rfl (fun hB => mv (.t rfl)) <| gd rfl rfl (fun hB => mv (.t rfl)) <| gd rfl rfl (fun hB => io sf51 (.m rfl hB) rfl (.m rfl hB) (ix_map es (gTt hx17 hB))) <| gd rfl rfl (fun hB => le tf9 (.m rfl hB) rfl (ix_lt (ix_map _ (gTt hx17 hB))).2.2 rfl) <| gd rfl rfl (fun hB => lns us9 (.m rfl hB)) <| gd rfl rfl (fun hB => slt us9 (.m rfl hB) .n (.s (.m rfl hB)) (gTt hx18 hB)) <| gd rfl rfl (fun hB => sq (.m rfl hB) (.m rfl hB) rfl rfl) <| u (pka (.t rfl) (.t rfl)) <| u (mv (.t rfl)) <| gd rfl rfl (fun hB => mv (.t rfl)) <| gd rfl rfl (fun hB => lns us9 (.m rfl hB)) <| gd rfl rfl (fun hB => mv (.t rfl)) <| gd rfl rfl (fun hB => mv (.t rfl)) <| gd rfl rfl (fun hB => io sf51 (.m rfl hB) rfl (.m rfl hB) (ix_map es (gTt hx19 (nt hB)))) <| gd rfl rfl (fun hB => le tf9 (.m rfl hB) rfl (ix_lt (ix_map _ (gTt hx19 (nt hB)))).2.2 rfl) <| gd rfl rfl (fun hB => lns us9 (.m rfl hB)) <| gd rfl rfl (fun hB => bc (.m rfl hB) (.m rfl hB) rfl rfl) <| gd rfl rfl (fun hB => mv (.m rfl hB)) <| gm rfl rfl (fun hB => mv (.t rfl)) <| gm rfl rfl (fun hB => mv (.t rfl)) <| gm rfl rfl (fun hB => mv (.t rfl)) <| gm rfl rfl (fun hB => io sf51 (.m rfl hB) rfl (.m rfl hB) (ix_map es (gTt hx20 (an2 (nt hB.1) hB.2)))) <| gm rfl rfl (fun hB => le tf9 (.m rfl hB) rfl (ix_lt (ix_map _ (gTt hx20 (an2 (nt hB.1) hB.2)))).2.2 rfl) <| gm rfl rfl (fun hB => mv (.t rfl)) <| gm rfl rfl (fun hB => lns us9 (.m rfl hB)) <| gm rfl rfl (fun hB => slt us9 (.m rfl hB) .n (.s (.m rfl hB)) (gTt hx21 (an2 (nt hB.1) hB.2))) <| gm rfl rfl (fun hB => sq (.m rfl hB) (.m rfl hB) rfl rfl) <| gd rfl rfl (fun hB => pkam (.m rfl hB) (.t rfl) hB) <| u (pko (.t rfl) (.t rfl)) <| .nil _) (by kernel_rfl) rfl ?_
            refine .bq h (.t rfl) (fun h => ?_) (fun h => ?_)
            · refine .sq ?_
              refine .rg (u (mv (.t rfl)) <| u (bc (.t rfl) (.i rfl) rfl rfl) <| u (asg (.t rfl)) <| .nil _) rfl ?_
              replace h := mpR h hx4
              replace h := mpR h hx2
              obtain rfl := Option.some.inj h
              exact .rt Try.func6 (.t rfl <| .n) .n rfl rfl
            · refine .skp ?_
              refine .ib ?_
              refine .rg (u (mv (.t rfl)) <| u (bi (.t rfl) (.i rfl) rfl) <| u (asg (.t rfl)) <| .nil _) rfl ?_
              exact .kq (.il (ih4 (ar .add .i64 v14 1) (nxi h))) (.c rfl (.c rfl (.c rfl (.c rfl (.c rfl (.c rfl .n)))))) (.c rfl .n)
          · refine .xt rfl ?_
            replace h := mpR h hx4
            refine be h fun x22 hx22 h => ?_
            refine .rg (u (mv (.t rfl)) <| u (mv (.t rfl)) <| bs (F := es) (l := [v9]) 160 pf51 (.c (.t rfl) rfl <| .n) rfl (fun _ _ => rfl) rfl rfl <| apo 161 pf51 (.t rfl) rfl (.t rfl) rfl hx22 rfl <| u (asg (.t rfl)) <| .nil _) rfl ?_
            refine .ib ?_
            refine .rg (u (mv (.t rfl)) <| u (bi (.t rfl) (.i rfl) rfl) <| u (asg (.t rfl)) <| .nil _) rfl ?_
            exact .ks (fun i => bif Nat.beq i 5 then 161 else i) (.il (ih2 (x22, (ar .add .u64 v4 1)) (nxi h))) (.c rfl (.c rfl (.c rfl (.c rfl .n)))) (.c rfl .n) rfl
    · refine .xt rfl ?_
      replace h := mpR h hx2
      refine .sq ?_
      refine .rg (u (asg .b) <| .nil _) rfl ?_
      obtain rfl := Option.some.inj h
      exact .rt Try.func6 (.t rfl <| .n) .n rfl rfl

end Xb
