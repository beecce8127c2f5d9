/- Own text: DWalks. -/
import Derived.Test.YthdbckjpoffnpaaDFacts
import Derived.Test.YthdbckjpoffnpaaDRaw
set_option linter.all false
set_option linter.unusedVariables false
set_option linter.unusedSimpArgs false
set_option linter.unnecessarySimpa false
set_option linter.deprecated false
namespace Xb
open Go Go.Proofs
set_option linter.unusedVariables false
set_option maxRecDepth 20000

theorem pad_zeros_c {n : Int} {r : List Int} (h : pad_zeros n = some r) :
    AC Try.prog 40 [.ro (.int .i64 n)] (.ro (.list 1 (List.map e8 r))) [] := by
  refine AC.of Try.func40 rfl rfl fun w M0 hM => ?_
  unfold pad_zeros at h
  refine .sq ?_
  refine .rg (u (asg (.n (sz := 1) (F := e8))) <| .nil _) rfl ?_
  refine .sq ?_
  refine be h fun x1 hx1 h => ?_
  refine .rg (u (mv (.t rfl)) <| mks (F := e8) (z0 := 0) 4 pf37 zf5 (.t rfl) (.t rfl) hx1 rfl <| u (asg (.t rfl)) <| .nil _) rfl ?_
  refine .fz 4 rfl ?_
  obtain rfl := Option.some.inj h
  exact .rt Try.func40 (.t rfl <| .n) .n rfl rfl

theorem slices_Grow_c {n : Int} (hn : growL n = some ()) : AC Try.prog 51 [.ro (.raw (.slice none 0 0)), .ro (.int .i64 n)] (.own 0) [(0, .arr 5 1 (([] : List Int).map e8))] := by
  obtain ⟨i, z, hi, hz, hsz, hzs, hpos, hby⟩ := pf37.i
  refine AC.grow (fun n w h1 h2 => ?_) (fun w => slices_Grow_nil w) hn
  refine (slices_Grow_new n w h1 h2 i z hi hz (by omega) hby).mono fun e w' hp => ?_
  obtain ⟨rfl, rfl⟩ := hp
  have hG : n ≤ grownCap w n 0 5 := grownCap_ge w _ _ _
  refine ⟨_, _, rfl, ?_, grownCap_le_maxLen w n 0 5 (by unfold maxLen; omega), rfl⟩
  simp only [Array.size_append, size_zeroCells, hzs]
  have h0 : (#[] : Array Value).size = 0 := rfl
  omega

theorem slices_Concat_c {z : Option Nat} {slices : List (List Int)} {r : List Int} (h : slices_Concat z slices = some r) :
    AC Try.prog 39 [.ro (.list 1 (List.map (el 1 e8) slices))] (.own 0) [(0, .arr 5 1 (List.map e8 r))] := by
  refine AC.of Try.func39 rfl rfl fun w M0 hM => ?_
  unfold slices_Concat at h
  refine .sq ?_
  refine .rg (anm e8 2 5 1 rfl rfl <| .nil _) rfl ?_
  refine .sq ?_
  refine .rg (u (asg (.i rfl)) <| .nil _) rfl ?_
  refine .sq ?_
  refine .sq ?_
  refine .rg (u (mv (.t rfl)) <| u (lnm sf81 (.t rfl)) <| u (mv (.i rfl)) <| .nil _) rfl ?_
  refine .bl ?_
  unfold slices_Concat_l1 at h
  refine .kq (.lo (fun (s : Int × Int) => ⟨[(0, .ro (.list 1 (List.map (el 1 e8) slices))), (3, .ro (.int .i64 s.1)), (9, .ro (.list 1 (List.map (el 1 e8) slices))), (10, .ro (.int .i64 (slices.length : Int))), (11, .ro (.int .i64 s.2))], []⟩) h ?_) (.c rfl (.c rfl (.c rfl (.c rfl (.c rfl .n))))) .n
  rintro ⟨v1, v2⟩ u1 h ih1 hx1
  replace h : slices_Concat_s1 z slices v1 v2 = _ := h
  unfold slices_Concat_s1 at h
  refine .sq ?_
  refine .rg (u (bc (.t rfl) (.t rfl) rfl rfl) <| .nil _) rfl ?_
  refine .sq ?_
  refine .bq h (.t rfl) (fun h => ?_) (fun h => ?_)
  · refine .skp ?_
    refine .sq ?_
    refine .bl ?_
    refine .sq ?_
    refine be h fun x3 hx3 h => ?_
    refine .rg (u (ia sf81 (.t rfl) (.t rfl) (ix_map (el 1 e8) hx3)) <| u (lr tf37 (.t rfl) rfl) <| u (asg (.t rfl)) <| .nil _) rfl ?_
    refine .sq ?_
    refine .rg (u (mv (.t rfl)) <| u (mv (.t rfl)) <| u (lnm sf37 (.t rfl)) <| u (bi (.t rfl) (.t rfl) rfl) <| u (asg (.t rfl)) <| .nil _) rfl ?_
    refine .sq ?_
    refine .rg (u (mv (.t rfl)) <| u (bc (.t rfl) (.i rfl) rfl rfl) <| .nil _) rfl ?_
    refine .jq (t := some u1) (fun (a : Unit) => ⟨[(0, .ro (.list 1 (List.map (el 1 e8) slices))), (3, .ro (.int .i64 (ar .add .i64 v1 (x3.length : Int)))), (9, .ro (.list 1 (List.map (el 1 e8) slices))), (10, .ro (.int .i64 (slices.length : Int))), (11, .ro (.int .i64 v2))], []⟩) (fun (a : Unit) => slices_Concat_j2 z v1 v2 x3) ?_ (fun J2 => ?_)
    · intro _ h
      replace h : slices_Concat_j2 z v1 v2 x3 = _ := h
      unfold slices_Concat_j2 at h
      refine .ib ?_
      refine .rg (u (bi (.t rfl) (.i rfl) rfl) <| u (mv (.t rfl)) <| .nil _) rfl ?_
      exact .kq (.il (ih1 ((ar .add .i64 v1 (x3.length : Int)), (ar .add .i64 v2 1)) (nxi h))) (.c rfl (.c rfl (.c rfl (.c rfl (.c rfl .n))))) .n
    refine .bq h (.t rfl) (fun h => ?_) (fun h => ?_)
    · cases h
    · refine .skp ?_
      exact .kq (J2 () h) (.c rfl (.c rfl (.c rfl (.c rfl (.c rfl .n))))) .n
  · refine .xt rfl ?_
    replace h := mpR h hx1
    refine .sq ?_
    refine be h fun x4 hx4 h => ?_
    refine .rg (u (mv (.t rfl)) <| cnl 24 cf51 (slices_Grow_c hx4) (.c (.r rfl) <| .c (.t rfl) <| .n) rfl <| u (asg (.t rfl)) <| .nil _) rfl ?_
    refine .sq ?_
    refine .sq ?_
    refine .rg (u (mv (.t rfl)) <| u (lnm sf81 (.t rfl)) <| u (mv (.i rfl)) <| .nil _) rfl ?_
    refine .bl ?_
    unfold slices_Concat_l3 at h
    refine .ks (fun i => bif Nat.beq i 6 then 24 else i) (.lo (fun (s : List Int × Int) => ⟨[(6, .own 6), (25, .ro (.list 1 (List.map (el 1 e8) slices))), (26, .ro (.int .i64 (slices.length : Int))), (27, .ro (.int .i64 s.2))], [(6, some (.arr 5 1 (List.map e8 s.1)))]⟩) h ?_) (.c rfl (.c rfl (.c rfl (.c rfl .n)))) (.c rfl .n) rfl
    rintro ⟨v5, v6⟩ u3 h ih3 hx3
    replace h : slices_Concat_s3 z slices v5 v6 = _ := h
    unfold slices_Concat_s3 at h
    refine .sq ?_
    refine .rg (u (bc (.t rfl) (.t rfl) rfl rfl) <| .nil _) rfl ?_
    refine .sq ?_
    refine .bq h (.t rfl) (fun h => ?_) (fun h => ?_)
    · refine .skp ?_
      refine .sq ?_
      refine .bl ?_
      refine .sq ?_
      refine be h fun x7 hx7 h => ?_
      refine .rg (u (ia sf81 (.t rfl) (.t rfl) (ix_map (el 1 e8) hx7)) <| u (lr tf37 (.t rfl) rfl) <| u (asg (.t rfl)) <| .nil _) rfl ?_
      refine be h fun x8 hx8 h => ?_
      refine .rg (u (mv (.t rfl)) <| u (mv (.t rfl)) <| ap 33 pf37 (.t rfl) rfl (.t rfl) hx8 rfl <| u (asg (.t rfl)) <| .nil _) rfl ?_
      refine .ib ?_
      refine .rg (u (bi (.t rfl) (.i rfl) rfl) <| u (mv (.t rfl)) <| .nil _) rfl ?_
      exact .ks (fun i => bif Nat.beq i 6 then 33 else i) (.il (ih3 (x8, (ar .add .i64 v6 1)) (nxi h))) (.c rfl (.c rfl (.c rfl (.c rfl .n)))) (.c rfl .n) rfl
    · refine .xt rfl ?_
      replace h := mpR h hx3
      refine .sq ?_
      refine .rg (u (mv (.t rfl)) <| u (asg (.t rfl)) <| .nil _) rfl ?_
      obtain rfl := Option.some.inj h
      refine .ks (l := [(2, .own 0)]) (o := [(0, some (.arr 5 1 (List.map e8 v5)))]) (fun i => bif Nat.beq i 0 then 6 else i) ?_ (.c rfl .n) (.c rfl .n) rfl
      exact .rt Try.func39 (.t rfl <| .n) (.c rfl .n) rfl rfl

theorem pad_Add_c {z : Option Nat} {b : List Int} {n : Int} {r : List Int × Int} (h : pad_Add z b n = some r) :
    AC Try.prog 27 [.ro (.list 1 (List.map e8 b)), .ro (.int .i64 n)] (.tup [.own 0, .ro (.int .i64 r.2)]) [(0, .arr 5 1 (List.map e8 r.1))] := by
  refine AC.of Try.func27 rfl rfl fun w M0 hM => ?_
  unfold pad_Add at h
  refine .sq ?_
  refine .rg (anm e8 4 5 1 rfl rfl <| u (asg (.i rfl)) <| .nil _) rfl ?_
  refine .sq ?_
  refine .sq ?_
  refine .rg (u (mv (.t rfl)) <| u (bc (.t rfl) (.i rfl) rfl rfl) <| u (mv (.t rfl)) <| gd rfl rfl (fun hB => mv (.t rfl)) <| gd rfl rfl (fun hB => bc (.m rfl hB) (.i rfl) rfl rfl) <| u (pko (.t rfl) (.t rfl)) <| .nil _) rfl ?_
  refine .bq h (.t rfl) (fun h => ?_) (fun h => ?_)
  · refine .sq ?_
    refine .rg (anm e8 100004 5 1 rfl rfl <| u (asg (.i rfl)) <| .nil _) rfl ?_
    obtain rfl := Option.some.inj h
    refine .ks (l := [(4, .own 0), (5, .ro (.int .i64 1))]) (o := [(0, some (.arr 5 1 (List.map e8 [])))]) (fun i => bif Nat.beq i 0 then 100004 else i) ?_ (.c rfl (.c rfl .n)) (.c rfl .n) rfl
    exact .rt Try.func27 (.t rfl <| .t rfl <| .n) (.c rfl .n) rfl rfl
  · refine .skp ?_
    refine .sq ?_
    refine be h fun x1 hx1 h => ?_
    refine be h fun x2 hx2 h => ?_
    refine .rg (u (mv (.t rfl)) <| u (mv (.t rfl)) <| u (bi (.t rfl) (.i rfl) rfl) <| cl [] cf40 (pad_zeros_c hx1) (.c (.t rfl) <| .n) (.inl rfl) <| u (mv (.t rfl)) <| u (cv cv3_5 (.t rfl)) <| bsr (F := e8) (l := [(IntKind.u8.wrap n)]) pf37 (.c (.t rfl) rfl <| .n) rfl (fun _ _ => rfl) rfl <| bsr (F := (el 1 e8)) (l := [b, x1, [(IntKind.u8.wrap n)]]) pf81 (.c (.t rfl) rfl <| .c (.t rfl) rfl <| .c (.t rfl) rfl <| .n) rfl (fun _ _ => rfl) rfl <| cnf 21000 cf39 (slices_Concat_c hx2) (.c (.t rfl) <| .n) rfl rfl rfl <| u (asg (.t rfl)) <| u (asg (.i rfl)) <| .nil _) rfl ?_
    obtain rfl := Option.some.inj h
    refine .ks (l := [(4, .own 0), (5, .ro (.int .i64 0))]) (o := [(0, some (.arr 5 1 (List.map e8 x2)))]) (fun i => bif Nat.beq i 0 then 21000 else i) ?_ (.c rfl (.c rfl .n)) (.c rfl .n) rfl
    exact .rt Try.func27 (.t rfl <| .t rfl <| .n) (.c rfl .n) rfl rfl

theorem pad_Trail_c {b : List Int} {r : Int × Int} (h : pad_Trail b = some r) :
    AC Try.prog 25 [.ro (.list 1 (List.map e8 b))] (.ro (.tup [.int .i64 r.1, .int .i64 r.2])) [] := by
  refine AC.of Try.func25 rfl rfl fun w M0 hM => ?_
  unfold pad_Trail at h
  refine .sq ?_
  refine .rg (u (asg (.i rfl)) <| u (asg (.i rfl)) <| .nil _) rfl ?_
  refine .sq ?_
  refine .sq ?_
  refine .rg (u (mv (.t rfl)) <| u (lnm sf37 (.t rfl)) <| u (bc (.t rfl) (.i rfl) rfl rfl) <| .nil _) rfl ?_
  refine .bq h (.t rfl) (fun h => ?_) (fun h => ?_)
  · refine .sq ?_
    refine .rg (u (asg (.i rfl)) <| u (asg (.i rfl)) <| .nil _) rfl ?_
    obtain rfl := Option.some.inj h
    exact .rt Try.func25 (.t rfl <| .t rfl <| .n) .n rfl rfl
  · refine .skp ?_
    refine .sq ?_
    refine be h fun x1 hx1 h => ?_
    refine .rg (u (mv (.t rfl)) <| u (mv (.t rfl)) <| u (lnm sf37 (.t rfl)) <| u (bi (.t rfl) (.i rfl) rfl) <| u (ia sf37 (.t rfl) (.t rfl) (ix_map e8 hx1)) <| u (lr tf5 (.t rfl) rfl) <| u (cv cv5_3 (.t rfl)) <| u (asg (.t rfl)) <| .nil _) rfl ?_
    refine .sq ?_
    refine .sq ?_
    refine .rg (u (mv (.t rfl)) <| u (bc (.t rfl) (.i rfl) rfl rfl) <| u (mv (.t rfl)) <| gd rfl rfl (fun hB => mv (.t rfl)) <| gd rfl rfl (fun hB => mv (.t rfl)) <| gd rfl rfl (fun hB => lnm sf37 (.m rfl hB)) <| gd rfl rfl (fun hB => bc (.m rfl hB) (.m rfl hB) rfl rfl) <| u (pko (.t rfl) (.t rfl)) <| .nil _) rfl ?_
    refine .bq h (.t rfl) (fun h => ?_) (fun h => ?_)
    · refine .sq ?_
      refine .rg (u (asg (.i rfl)) <| u (asg (.i rfl)) <| .nil _) rfl ?_
      obtain rfl := Option.some.inj h
      exact .rt Try.func25 (.t rfl <| .t rfl <| .n) .n rfl rfl
    · refine .skp ?_
      refine .sq ?_
      refine .rg (u (mv (.t rfl)) <| u (asg (.t rfl)) <| u (asg (.i rfl)) <| .nil _) rfl ?_
      obtain rfl := Option.some.inj h
      exact .rt Try.func25 (.t rfl <| .t rfl <| .n) .n rfl rfl

theorem bytes_Equal_c (p_a : List Int) (b : List Int) :
    AC Try.prog 63 [.ro (.list 1 (List.map e8 p_a)), .ro (.list 1 (List.map e8 b))] (.ro (.bool (bytes_Equal p_a b))) [] := by
  obtain ⟨r, h⟩ : ∃ r, bytes_Equal p_a b = r := ⟨_, rfl⟩
  rw [h]
  refine AC.of Try.func63 rfl rfl fun w M0 hM => ?_
  unfold bytes_Equal at h
  refine .sq ?_
  refine .rg (u (asg .b) <| .nil _) rfl ?_
  refine .sq ?_
  refine .rg (u (mv (.t rfl)) <| u (bt bt37_9 (.t rfl)) <| u (mv (.t rfl)) <| u (bt bt37_9 (.t rfl)) <| u (sq (.t rfl) (.t rfl) rfl rfl) <| u (asg (.t rfl)) <| .nil _) rfl ?_
  subst h
  exact .rt Try.func63 (.t rfl <| .n) .n rfl rfl

theorem internal_bytealg_Cutover_c (n : Int) :
    AC Try.prog 65 [.ro (.int .i64 n)] (.ro (.int .i64 (internal_bytealg_Cutover n))) [] := by
  obtain ⟨r, h⟩ : ∃ r, internal_bytealg_Cutover n = r := ⟨_, rfl⟩
  rw [h]
  refine AC.of Try.func65 rfl rfl fun w M0 hM => ?_
  unfold internal_bytealg_Cutover at h
  refine .sq ?_
  refine .rg (u (asg (.i rfl)) <| .nil _) rfl ?_
  refine .sq ?_
  refine .rg (u (mv (.t rfl)) <| u (bi (.t rfl) (.i rfl) rfl) <| u (di (.t rfl) (.i rfl) rfl (by decide)) <| u (asg (.t rfl)) <| .nil _) rfl ?_
  subst h
  exact .rt Try.func65 (.t rfl <| .n) .n rfl rfl

theorem internal_bytealg_hashStr_c {z : Option Nat} {sep : List Int} {r : Int × Int} (h : internal_bytealg_hashStr z sep = some r) :
    AC Try.prog 71 [.ro (.list 1 (List.map e8 sep))] (.ro (.tup [.int .u32 r.1, .int .u32 r.2])) [] := by
  refine AC.of Try.func71 rfl rfl fun w M0 hM => ?_
  unfold internal_bytealg_hashStr at h
  refine .sq ?_
  refine .rg (u (asg (.i rfl)) <| u (asg (.i rfl)) <| .nil _) rfl ?_
  refine .sq ?_
  refine .rg (u (asg (.i rfl)) <| .nil _) rfl ?_
  refine .sq ?_
  refine .sq ?_
  refine .rg (u (asg (.i rfl)) <| .nil _) rfl ?_
  refine .bl ?_
  unfold internal_bytealg_hashStr_l1 at h
  refine .kq (.lo (fun (s : Int × Int) => ⟨[(0, .ro (.list 1 (List.map e8 sep))), (4, .ro (.int .u32 s.1)), (5, .ro (.int .i64 s.2))], []⟩) h ?_) (.c rfl (.c rfl (.c rfl .n))) .n
  rintro ⟨v1, v2⟩ u1 h ih1 hx1
  replace h : internal_bytealg_hashStr_s1 z sep v1 v2 = _ := h
  unfold internal_bytealg_hashStr_s1 at h
  refine .sq ?_
  refine .sq ?_
  refine .rg (u (mv (.t rfl)) <| u (mv (.t rfl)) <| u (lnm sf37 (.t rfl)) <| u (bc (.t rfl) (.t rfl) rfl rfl) <| .nil _) rfl ?_
  refine .bq h (.t rfl) (fun h => ?_) (fun h => ?_)
  · refine .skp ?_
    refine .sq ?_
    refine .bl ?_
    refine be h fun x3 hx3 h => ?_
    refine .rg (u (mv (.t rfl)) <| u (bi (.t rfl) (.i rfl) rfl) <| u (mv (.t rfl)) <| u (mv (.t rfl)) <| u (ia sf37 (.t rfl) (.t rfl) (ix_map e8 hx3)) <| u (lr tf5 (.t rfl) rfl) <| u (cv cv5_64 (.t rfl)) <| u (bi (.t rfl) (.t rfl) rfl) <| u (asg (.t rfl)) <| .nil _) rfl ?_
    refine .ib ?_
    refine .rg (u (mv (.t rfl)) <| u (bi (.t rfl) (.i rfl) rfl) <| u (asg (.t rfl)) <| .nil _) rfl ?_
    exact .kq (.il (ih1 ((ar .add .u32 (ar .mul .u32 v1 16777619) (IntKind.u32.wrap x3)), (ar .add .i64 v2 1)) (nxi h))) (.c rfl (.c rfl (.c rfl .n))) .n
  · refine .xt rfl ?_
    replace h := mpR h hx1
    refine .sq ?_
    refine .rg (u (asg (.i rfl)) <| u (asg (.i rfl)) <| .nil _) rfl ?_
    refine .sq ?_
    refine .sq ?_
    refine .rg (u (mv (.t rfl)) <| u (lnm sf37 (.t rfl)) <| u (asg (.t rfl)) <| .nil _) rfl ?_
    refine .bl ?_
    unfold internal_bytealg_hashStr_l2 at h
    refine .kq (.lo (fun (s : Int × Int × Int) => ⟨[(4, .ro (.int .u32 v1)), (6, .ro (.int .u32 s.1)), (7, .ro (.int .u32 s.2.1)), (8, .ro (.int .i64 s.2.2))], []⟩) h ?_) (.c rfl (.c rfl (.c rfl (.c rfl .n)))) .n
    rintro ⟨v4, v5, v6⟩ u2 h ih2 hx2
    replace h : internal_bytealg_hashStr_s2 z v1 v4 v5 v6 = _ := h
    unfold internal_bytealg_hashStr_s2 at h
    refine .sq ?_
    refine .sq ?_
    refine .rg (u (mv (.t rfl)) <| u (bc (.t rfl) (.i rfl) rfl rfl) <| .nil _) rfl ?_
    refine .bq h (.t rfl) (fun h => ?_) (fun h => ?_)
    · refine .skp ?_
      refine .sq ?_
      refine .bl ?_
      refine .sq ?_
      refine .sq ?_
      refine .rg (u (mv (.t rfl)) <| u (bi (.t rfl) (.i rfl) rfl) <| u (bc (.t rfl) (.i rfl) rfl rfl) <| .nil _) rfl ?_
      refine .jq (t := some u2) (fun (a : Int) => ⟨[(4, .ro (.int .u32 v1)), (6, .ro (.int .u32 a)), (7, .ro (.int .u32 v5)), (8, .ro (.int .i64 v6))], []⟩) (fun (a : Int) => internal_bytealg_hashStr_j3 z v5 v6 a) ?_ (fun J3 => ?_)
      · intro v7 h
        replace h : internal_bytealg_hashStr_j3 z v5 v6 v7 = _ := h
        unfold internal_bytealg_hashStr_j3 at h
        refine .rg (u (mv (.t rfl)) <| u (mv (.t rfl)) <| u (bi (.t rfl) (.t rfl) rfl) <| u (asg (.t rfl)) <| .nil _) rfl ?_
        refine .ib ?_
        refine .rg (u (mv (.t rfl)) <| u (sh (.t rfl) (.i rfl) rfl (by decide)) <| u (asg (.t rfl)) <| .nil _) rfl ?_
        exact .kq (.il (ih2 (v7, (ar .mul .u32 v5 v5), (sf .shr .i64 v6 1)) (nxi h))) (.c rfl (.c rfl (.c rfl (.c rfl .n)))) .n
      refine .bq h (.t rfl) (fun h => ?_) (fun h => ?_)
      · refine .rg (u (mv (.t rfl)) <| u (mv (.t rfl)) <| u (bi (.t rfl) (.t rfl) rfl) <| u (asg (.t rfl)) <| .nil _) rfl ?_
        exact .kq (J3 (ar .mul .u32 v4 v5) h) (.c rfl (.c rfl (.c rfl (.c rfl .n)))) .n
      · refine .skp ?_
        exact .kq (J3 v4 h) (.c rfl (.c rfl (.c rfl (.c rfl .n)))) .n
    · refine .xt rfl ?_
      replace h := mpR h hx2
      refine .sq ?_
      refine .rg (u (mv (.t rfl)) <| u (mv (.t rfl)) <| u (asg (.t rfl)) <| u (asg (.t rfl)) <| .nil _) rfl ?_
      obtain rfl := Option.some.inj h
      exact .rt Try.func71 (.t rfl <| .t rfl <| .n) .n rfl rfl

theorem internal_bytealg_IndexRabinKarp_c {z : Option Nat} {p_s : List Int} {sep : List Int} {r : Int} (h : internal_bytealg_IndexRabinKarp z p_s sep = some r) :
    AC Try.prog 66 [.ro (.list 1 (List.map e8 p_s)), .ro (.list 1 (List.map e8 sep))] (.ro (.int .i64 r)) [] := by
  refine AC.of Try.func66 rfl rfl fun w M0 hM => ?_
  unfold internal_bytealg_IndexRabinKarp at h
  refine .sq ?_
  refine .rg (u (asg (.i rfl)) <| .nil _) rfl ?_
  refine .sq ?_
  refine be h fun x1 hx1 h => ?_
  refine .rg (u (mv (.t rfl)) <| cl [] cf71 (internal_bytealg_hashStr_c hx1) (.c (.t rfl) <| .n) (.inl rfl) <| u (mv (.t rfl)) <| u (ex (.t rfl) rfl rfl) <| u (ex (.t rfl) rfl rfl) <| u (asg (.t rfl)) <| u (asg (.t rfl)) <| .nil _) rfl ?_
  refine .sq ?_
  refine .rg (u (mv (.t rfl)) <| u (lnm sf37 (.t rfl)) <| u (asg (.t rfl)) <| .nil _) rfl ?_
  refine .sq ?_
  refine .rg (u (asg (.i rfl)) <| .nil _) rfl ?_
  refine .sq ?_
  refine .sq ?_
  refine .rg (u (asg (.i rfl)) <| .nil _) rfl ?_
  refine .bl ?_
  unfold internal_bytealg_IndexRabinKarp_l1 at h
  refine .kq (.lo (fun (s : Int × Int) => ⟨[(0, .ro (.list 1 (List.map e8 p_s))), (1, .ro (.list 1 (List.map e8 sep))), (5, .ro (.int .u32 x1.1)), (6, .ro (.int .u32 x1.2)), (7, .ro (.int .i64 (sep.length : Int))), (8, .ro (.int .u32 s.1)), (9, .ro (.int .i64 s.2))], []⟩) h ?_) (.c rfl (.c rfl (.c rfl (.c rfl (.c rfl (.c rfl (.c rfl .n))))))) .n
  rintro ⟨v2, v3⟩ u1 h ih1 hx1
  replace h : internal_bytealg_IndexRabinKarp_s1 z p_s sep x1 v2 v3 = _ := h
  unfold internal_bytealg_IndexRabinKarp_s1 at h
  refine .sq ?_
  refine .sq ?_
  refine .rg (u (mv (.t rfl)) <| u (mv (.t rfl)) <| u (bc (.t rfl) (.t rfl) rfl rfl) <| .nil _) rfl ?_
  refine .bq h (.t rfl) (fun h => ?_) (fun h => ?_)
  · refine .skp ?_
    refine .sq ?_
    refine .bl ?_
    refine be h fun x4 hx4 h => ?_
    refine .rg (u (mv (.t rfl)) <| u (bi (.t rfl) (.i rfl) rfl) <| u (mv (.t rfl)) <| u (mv (.t rfl)) <| u (ia sf37 (.t rfl) (.t rfl) (ix_map e8 hx4)) <| u (lr tf5 (.t rfl) rfl) <| u (cv cv5_64 (.t rfl)) <| u (bi (.t rfl) (.t rfl) rfl) <| u (asg (.t rfl)) <| .nil _) rfl ?_
    refine .ib ?_
    refine .rg (u (mv (.t rfl)) <| u (bi (.t rfl) (.i rfl) rfl) <| u (asg (.t rfl)) <| .nil _) rfl ?_
    exact .kq (.il (ih1 ((ar .add .u32 (ar .mul .u32 v2 16777619) (IntKind.u32.wrap x4)), (ar .add .i64 v3 1)) (nxi h))) (.c rfl (.c rfl (.c rfl (.c rfl (.c rfl (.c rfl (.c rfl .n))))))) .n
  · refine .xt rfl ?_
    replace h := mpR h hx1
    refine .sq ?_
    refine .sq ?_
    refine be h fun x5 hx5 h => ?_
    refine .rd mixed (u (mv (.t rfl)) <| u (mv (.t rfl)) <| u (bc (.t rfl) (.t rfl) rfl rfl) <| u (mv (.t rfl)) <| gd rfl rfl (fun hB => mv (.t rfl)) <| gd rfl rfl (fun hB => mv (.t rfl)) <| gd rfl rfl (fun hB => sl sf37 (.m rfl hB) .n (.s (.m rfl hB)) (gTt hx5 hB)) <| gd rfl rfl (fun hB => bt bt37_9 (.m rfl hB)) <| gd rfl rfl (fun hB => mv (.t rfl)) <| gd rfl rfl (fun hB => bt bt37_9 (.m rfl hB)) <| gd rfl rfl (fun hB => sq (.m rfl hB) (.m rfl hB) rfl rfl) <| u (pka (.t rfl) (.t rfl)) <| .nil _) (by kernel_rfl) rfl ?_
    refine .bq h (.t rfl) (fun h => ?_) (fun h => ?_)
    · refine .sq ?_
      refine .rg (u (asg (.i rfl)) <| .nil _) rfl ?_
      obtain rfl := Option.some.inj h
      exact .rt Try.func66 (.t rfl <| .n) .n rfl rfl
    · refine .skp ?_
      refine .sq ?_
      refine .sq ?_
      refine .rg (u (mv (.t rfl)) <| u (asg (.t rfl)) <| .nil _) rfl ?_
      refine .bl ?_
      unfold internal_bytealg_IndexRabinKarp_l2 at h
      refine .kq (.lo (fun (s : Int × Int) => ⟨[(0, .ro (.list 1 (List.map e8 p_s))), (1, .ro (.list 1 (List.map e8 sep))), (5, .ro (.int .u32 x1.1)), (6, .ro (.int .u32 x1.2)), (7, .ro (.int .i64 (sep.length : Int))), (8, .ro (.int .u32 s.1)), (10, .ro (.int .i64 s.2))], []⟩) h ?_) (.c rfl (.c rfl (.c rfl (.c rfl (.c rfl (.c rfl (.c rfl .n))))))) .n
      rintro ⟨v6, v7⟩ u2 h ih2 hx2
      replace h : internal_bytealg_IndexRabinKarp_s2 z p_s sep x1 v6 v7 = _ := h
      unfold internal_bytealg_IndexRabinKarp_s2 at h
      refine .sq ?_
      refine .sq ?_
      refine .rg (u (mv (.t rfl)) <| u (mv (.t rfl)) <| u (lnm sf37 (.t rfl)) <| u (bc (.t rfl) (.t rfl) rfl rfl) <| .nil _) rfl ?_
      refine .bq h (.t rfl) (fun h => ?_) (fun h => ?_)
      · refine .skp ?_
        refine .bl ?_
        refine .sq ?_
        refine .rg (u (mv (.t rfl)) <| u (bi (.t rfl) (.i rfl) rfl) <| u (asg (.t rfl)) <| .nil _) rfl ?_
        refine .sq ?_
        refine be h fun x8 hx8 h => ?_
        refine .rg (u (mv (.t rfl)) <| u (mv (.t rfl)) <| u (mv (.t rfl)) <| u (ia sf37 (.t rfl) (.t rfl) (ix_map e8 hx8)) <| u (lr tf5 (.t rfl) rfl) <| u (cv cv5_64 (.t rfl)) <| u (bi (.t rfl) (.t rfl) rfl) <| u (asg (.t rfl)) <| .nil _) rfl ?_
        refine .sq ?_
        refine be h fun x9 hx9 h => ?_
        refine .rg (u (mv (.t rfl)) <| u (mv (.t rfl)) <| u (mv (.t rfl)) <| u (mv (.t rfl)) <| u (mv (.t rfl)) <| u (bi (.t rfl) (.t rfl) rfl) <| u (ia sf37 (.t rfl) (.t rfl) (ix_map e8 hx9)) <| u (lr tf5 (.t rfl) rfl) <| u (cv cv5_64 (.t rfl)) <| u (bi (.t rfl) (.t rfl) rfl) <| u (bi (.t rfl) (.t rfl) rfl) <| u (asg (.t rfl)) <| .nil _) rfl ?_
        refine .sq ?_
        refine .rg (u (mv (.t rfl)) <| u (bi (.t rfl) (.i rfl) rfl) <| u (asg (.t rfl)) <| .nil _) rfl ?_
        refine .sq ?_
        refine be h fun x10 hx10 h => ?_
        refine .rd mixed (u (mv (.t rfl)) <| u (mv (.t rfl)) <| u (bc (.t rfl) (.t rfl) rfl rfl) <| u (mv (.t rfl)) <| gd rfl rfl (fun hB => mv (.t rfl)) <| gd rfl rfl (fun hB => mv (.t rfl)) <| gd rfl rfl (fun hB => mv (.t rfl)) <| gd rfl rfl (fun hB => bi (.m rfl hB) (.m rfl hB) rfl) <| gd rfl rfl (fun hB => mv (.t rfl)) <| gd rfl rfl (fun hB => sl sf37 (.m rfl hB) (.s (.m rfl hB)) (.s (.m rfl hB)) (gTt hx10 hB)) <| gd rfl rfl (fun hB => bt bt37_9 (.m rfl hB)) <| gd rfl rfl (fun hB => mv (.t rfl)) <| gd rfl rfl (fun hB => bt bt37_9 (.m rfl hB)) <| gd rfl rfl (fun hB => sq (.m rfl hB) (.m rfl hB) rfl rfl) <| u (pka (.t rfl) (.t rfl)) <| .nil _) (by kernel_rfl) rfl ?_
        refine .bq h (.t rfl) (fun h => ?_) (fun h => ?_)
        · refine .sq ?_
          refine .rg (u (mv (.t rfl)) <| u (mv (.t rfl)) <| u (bi (.t rfl) (.t rfl) rfl) <| u (asg (.t rfl)) <| .nil _) rfl ?_
          replace h := mpR h hx2
          obtain rfl := Option.some.inj h
          exact .rt Try.func66 (.t rfl <| .n) .n rfl rfl
        · refine .skp ?_
          refine .ib ?_
          exact .kq (.il (ih2 ((ar .sub .u32 (ar .add .u32 (ar .mul .u32 v6 16777619) (IntKind.u32.wrap x8)) (ar .mul .u32 x1.2 (IntKind.u32.wrap x9))), (ar .add .i64 v7 1)) (nxi h))) (.c rfl (.c rfl (.c rfl (.c rfl (.c rfl (.c rfl (.c rfl .n))))))) .n
      · refine .xt rfl ?_
        replace h := mpR h hx2
        refine .sq ?_
        refine .rg (u (asg (.i rfl)) <| .nil _) rfl ?_
        obtain rfl := Option.some.inj h
        exact .rt Try.func66 (.t rfl <| .n) .n rfl rfl

theorem bytes_Count_c {z : Option Nat} {p_s : List Int} {sep : List Int} {r : Int} (h : bytes_Count z p_s sep = some r) :
    AC Try.prog 41 [.ro (.list 1 (List.map e8 p_s)), .ro (.list 1 (List.map e8 sep))] (.ro (.int .i64 r)) [] := by
  refine AC.of Try.func41 rfl rfl fun w M0 hM => ?_
  unfold bytes_Count at h
  refine .sq ?_
  refine .rg (u (asg (.i rfl)) <| .nil _) rfl ?_
  refine .sq ?_
  refine .sq ?_
  refine .rg (u (mv (.t rfl)) <| u (lnm sf37 (.t rfl)) <| u (bc (.t rfl) (.i rfl) rfl rfl) <| .nil _) rfl ?_
  refine .bq h (.t rfl) (fun h => ?_) (fun h => ?_)
  · refine .sq ?_
    cases h
  · refine .skp ?_
    refine .sq ?_
    refine .sq ?_
    refine .rg (u (mv (.t rfl)) <| u (lnm sf37 (.t rfl)) <| u (bc (.t rfl) (.i rfl) rfl rfl) <| .nil _) rfl ?_
    refine .bq h (.t rfl) (fun h => ?_) (fun h => ?_)
    · refine .sq ?_
      refine be h fun x1 hx1 h => ?_
      refine .rg (u (mv (.t rfl)) <| u (mv (.t rfl)) <| u (ia sf37 (.t rfl) (.i rfl) (ix_map e8 hx1)) <| u (lr tf5 (.t rfl) rfl) <| u (ctb xf53 (.t rfl) (.t rfl)) <| u (asg (.t rfl)) <| .nil _) rfl ?_
      obtain rfl := Option.some.inj h
      exact .rt Try.func41 (.t rfl <| .n) .n rfl rfl
    · refine .skp ?_
      refine .sq ?_
      refine .rg (u (asg (.i rfl)) <| .nil _) rfl ?_
      refine .bl ?_
      unfold bytes_Count_l1 at h
      refine .kq (.lo (fun (s : List Int × Int) => ⟨[(0, .ro (.list 1 (List.map e8 s.1))), (1, .ro (.list 1 (List.map e8 sep))), (5, .ro (.int .i64 s.2))], []⟩) h ?_) (.c rfl (.c rfl (.c rfl .n))) .n
      rintro ⟨v2, v3⟩ u1 h ih1 hx1
      replace h : bytes_Count_s1 z v2 v3 = _ := h
      unfold bytes_Count_s1 at h
      refine .bl ?_
      refine .sq ?_
      cases h

theorem pad_Zero_c {z : Option Nat} {b : List Int} {r : Bool} (h : pad_Zero z b = some r) :
    AC Try.prog 21 [.ro (.list 1 (List.map e8 b))] (.ro (.bool r)) [] := by
  refine AC.of Try.func21 rfl rfl fun w M0 hM => ?_
  unfold pad_Zero at h
  refine .sq ?_
  refine .rg (u (asg .b) <| .nil _) rfl ?_
  refine .sq ?_
  refine be h fun x1 hx1 h => ?_
  refine .rg (u (mv (.t rfl)) <| bs (F := e8) (l := [0]) 4 pf37 (.c (.i rfl) rfl <| .n) rfl (fun _ _ => rfl) rfl rfl <| cl [] cf41 (bytes_Count_c hx1) (.c (.t rfl) <| .b (.t rfl) rfl <| .n) (.inr rfl) <| u (mv (.t rfl)) <| u (lnm sf37 (.t rfl)) <| u (bc (.t rfl) (.t rfl) rfl rfl) <| u (asg (.t rfl)) <| .nil _) rfl ?_
  obtain rfl := Option.some.inj h
  exact .rt Try.func21 (.t rfl <| .n) .n rfl rfl

theorem pad_Clean_c {z : Option Nat} {b : List Int} {r : Bool} (h : pad_Clean z b = some r) :
    AC Try.prog 23 [.ro (.list 1 (List.map e8 b))] (.ro (.bool r)) [] := by
  refine AC.of Try.func23 rfl rfl fun w M0 hM => ?_
  unfold pad_Clean at h
  refine .sq ?_
  refine .rg (u (asg .b) <| .nil _) rfl ?_
  refine .sq ?_
  refine be h fun x1 hx1 h => ?_
  refine .rg (u (mv (.t rfl)) <| cl [] cf25 (pad_Trail_c hx1) (.c (.t rfl) <| .n) (.inl rfl) <| u (mv (.t rfl)) <| u (ex (.t rfl) rfl rfl) <| u (ex (.t rfl) rfl rfl) <| u (asg (.t rfl)) <| u (asg (.t rfl)) <| .nil _) rfl ?_
  refine .sq ?_
  refine be h fun x2 hx2 h => ?_
  refine be h fun x3 hx3 h => ?_
  refine .rg (u (mv (.t rfl)) <| u (bc (.t rfl) (.i rfl) rfl rfl) <| u (mv (.t rfl)) <| gd rfl rfl (fun hB => mv (.t rfl)) <| gd rfl rfl (fun hB => mv (.t rfl)) <| gd rfl rfl (fun hB => lnm sf37 (.m rfl hB)) <| gd rfl rfl (fun hB => mv (.t rfl)) <| gd rfl rfl (fun hB => bi (.m rfl hB) (.m rfl hB) rfl) <| gd rfl rfl (fun hB => mv (.t rfl)) <| gd rfl rfl (fun hB => lnm sf37 (.m rfl hB)) <| gd rfl rfl (fun hB => bi (.m rfl hB) (.i rfl) rfl) <| gd rfl rfl (fun hB => sl sf37 (.m rfl hB) (.s (.m rfl hB)) (.s (.m rfl hB)) (gTt hx2 hB)) <| cg rfl rfl cf21 (fun hB => (pad_Zero_c (gTt hx3 hB))) (fun hB => .c (.m rfl hB) <| .n) (.inl rfl) <| u (pka (.t rfl) (.t rfl)) <| u (asg (.t rfl)) <| .nil _) rfl ?_
  obtain rfl := Option.some.inj h
  exact .rt Try.func23 (.t rfl <| .n) .n rfl rfl

theorem pad_Round_c (n : Int) :
    AC Try.prog 17 [.ro (.int .i64 n)] (.ro (.int .i64 (pad_Round n))) [] := by
  obtain ⟨r, h⟩ : ∃ r, pad_Round n = r := ⟨_, rfl⟩
  rw [h]
  refine AC.of Try.func17 rfl rfl fun w M0 hM => ?_
  unfold pad_Round at h
  refine .sq ?_
  refine .rg (u (asg (.i rfl)) <| .nil _) rfl ?_
  refine .sq ?_
  refine .sq ?_
  refine .rg (u (mv (.t rfl)) <| u (bc (.t rfl) (.i rfl) rfl rfl) <| u (mv (.t rfl)) <| gd rfl rfl (fun hB => mv (.t rfl)) <| gd rfl rfl (fun hB => bc (.m rfl hB) (.i rfl) rfl rfl) <| u (pko (.t rfl) (.t rfl)) <| .nil _) rfl ?_
  refine .bq h (.t rfl) (fun h => ?_) (fun h => ?_)
  · refine .sq ?_
    refine .rg (u (asg (.i rfl)) <| .nil _) rfl ?_
    subst h
    exact .rt Try.func17 (.t rfl <| .n) .n rfl rfl
  · refine .skp ?_
    refine .sq ?_
    refine .rg (u (mv (.t rfl)) <| u (bi (.t rfl) (.i rfl) rfl) <| u (bi (.t rfl) (.i rfl) rfl) <| u (di (.t rfl) (.i rfl) rfl (by decide)) <| u (bi (.t rfl) (.i rfl) rfl) <| u (asg (.t rfl)) <| .nil _) rfl ?_
    subst h
    exact .rt Try.func17 (.t rfl <| .n) .n rfl rfl

theorem pad_Fill_c {z : Option Nat} {b : List Int} {r : List Int} (h : pad_Fill z b = some r) :
    AC Try.prog 19 [.ro (.list 1 (List.map e8 b))] (.ro (.list 1 (List.map e8 r))) [] := by
  refine AC.of Try.func19 rfl rfl fun w M0 hM => ?_
  unfold pad_Fill at h
  refine .sq ?_
  refine .rg (u (asg (.n (sz := 1) (F := e8))) <| .nil _) rfl ?_
  refine .sq ?_
  refine be h fun x1 hx1 h => ?_
  refine be h fun x2 hx2 h => ?_
  refine .rg (u (mv (.t rfl)) <| u (mv (.t rfl)) <| u (lnm sf37 (.t rfl)) <| u (di (.t rfl) (.i rfl) rfl (by decide)) <| u (bi (.i rfl) (.t rfl) rfl) <| u (di (.t rfl) (.i rfl) rfl (by decide)) <| cl [] cf40 (pad_zeros_c hx1) (.c (.t rfl) <| .n) (.inl rfl) <| bsr (F := (el 1 e8)) (l := [b, x1]) pf81 (.c (.t rfl) rfl <| .c (.t rfl) rfl <| .n) rfl (fun _ _ => rfl) rfl <| cnf 12000 cf39 (slices_Concat_c hx2) (.c (.t rfl) <| .n) rfl rfl rfl <| u (asg (.t rfl)) <| .nil _) rfl ?_
  refine .fz 12000 rfl ?_
  obtain rfl := Option.some.inj h
  exact .rt Try.func19 (.t rfl <| .n) .n rfl rfl

theorem law03_awake_c {z : Option Nat}  {r : Bool} (h : law03_awake z = some r) :
    AC Try.prog 16 [] (.ro (.bool r)) [] := by
  refine AC.of Try.func16 rfl rfl fun w M0 hM => ?_
  unfold law03_awake at h
  refine .sq ?_
  refine .rg (u (asg .b) <| .nil _) rfl ?_
  refine .sq ?_
  refine be h fun x1 hx1 h => ?_
  refine .rg (bsr (F := e8) (l := [7, 8]) pf37 (.c (.i rfl) rfl <| .c (.i rfl) rfl <| .n) rfl (fun _ _ => rfl) rfl <| cnf 8000 cf27 (pad_Add_c hx1) (.c (.t rfl) <| .c (.i rfl) <| .n) rfl rfl rfl <| u (mv (.t rfl)) <| u (ex (.t rfl) rfl rfl) <| u (ex (.t rfl) rfl rfl) <| u (asg (.t rfl)) <| u (asg (.t rfl)) <| .nil _) rfl ?_
  refine .sq ?_
  refine be h fun x2 hx2 h => ?_
  refine .rg (u (mv (.t rfl)) <| cl [] cf25 (pad_Trail_c hx2) (.b (.t rfl) rfl <| .n) (.inr rfl) <| u (mv (.t rfl)) <| u (ex (.t rfl) rfl rfl) <| u (ex (.t rfl) rfl rfl) <| u (asg (.t rfl)) <| u (asg (.t rfl)) <| .nil _) rfl ?_
  refine .sq ?_
  refine .fz 8000 rfl ?_
  refine be h fun x3 hx3 h => ?_
  refine be h fun x4 hx4 h => ?_
  refine be h fun x5 hx5 h => ?_
  refine be h fun x6 hx6 h => ?_
  refine be h fun x7 hx7 h => ?_
  refine .rg (u (mv (.t rfl)) <| u (bc (.t rfl) (.i rfl) rfl rfl) <| u (mv (.t rfl)) <| gd rfl rfl (fun hB => mv (.t rfl)) <| gd rfl rfl (fun hB => bc (.m rfl hB) (.i rfl) rfl rfl) <| u (pka (.t rfl) (.t rfl)) <| u (mv (.t rfl)) <| gd rfl rfl (fun hB => mv (.t rfl)) <| gd rfl rfl (fun hB => bc (.m rfl hB) (.i rfl) rfl rfl) <| u (pka (.t rfl) (.t rfl)) <| u (mv (.t rfl)) <| gd rfl rfl (fun hB => mv (.t rfl)) <| gd rfl rfl (fun hB => bt bt37_9 (.m rfl hB)) <| gd rfl rfl (fun hB => sq (.m rfl hB) (.s rfl) rfl rfl) <| u (pka (.t rfl) (.t rfl)) <| u (mv (.t rfl)) <| gd rfl rfl (fun hB => mv (.t rfl)) <| cg rfl rfl cf23 (fun hB => (pad_Clean_c (gTt hx3 hB))) (fun hB => .c (.m rfl hB) <| .n) (.inl rfl) <| u (pka (.t rfl) (.t rfl)) <| u (mv (.t rfl)) <| cg rfl rfl cf17 (fun hB => (pad_Round_c 5)) (fun hB => .c (.i rfl) <| .n) (.inl rfl) <| gd rfl rfl (fun hB => bc (.m rfl hB) (.i rfl) rfl rfl) <| u (pka (.t rfl) (.t rfl)) <| u (mv (.t rfl)) <| gd rfl rfl (fun hB => mv (.t rfl)) <| gd rfl rfl (fun hB => sl sf37 (.m rfl hB) .n (.s (.i rfl)) (gTt hx4 hB)) <| cg rfl rfl cf19 (fun hB => (pad_Fill_c (gTt hx5 hB))) (fun hB => .c (.m rfl hB) <| .n) (.inl rfl) <| gd rfl rfl (fun hB => bt bt37_9 (.m rfl hB)) <| gd rfl rfl (fun hB => sq (.m rfl hB) (.s rfl) rfl rfl) <| u (pka (.t rfl) (.t rfl)) <| u (mv (.t rfl)) <| gd rfl rfl (fun hB => mv (.t rfl)) <| gd rfl rfl (fun hB => sl sf37 (.m rfl hB) (.s (.i rfl)) (.s (.i rfl)) (gTt hx6 hB)) <| cg rfl rfl cf21 (fun hB => (pad_Zero_c (gTt hx7 hB))) (fun hB => .c (.m rfl hB) <| .n) (.inl rfl) <| u (pka (.t rfl) (.t rfl)) <| u (asg (.t rfl)) <| .nil _) rfl ?_
  obtain rfl := Option.some.inj h
  exact .rt Try.func16 (.t rfl <| .n) .n rfl rfl

theorem law03_awake_t : law03_awake (some 1000) = some true := by decide +kernel
theorem law03_awake_k : AC Try.prog 16 [] (.ro (.bool true)) [] := law03_awake_c law03_awake_t

theorem ref03_Round_c {z : Option Nat} {n : Int} {r : Int} (h : ref03_Round z n = some r) :
    AC Try.prog 18 [.ro (.int .i64 n)] (.ro (.int .i64 r)) [] := by
  refine AC.of Try.func18 rfl rfl fun w M0 hM => ?_
  unfold ref03_Round at h
  refine .sq ?_
  refine .rg (u (asg (.i rfl)) <| .nil _) rfl ?_
  refine .sq ?_
  refine .sq ?_
  refine .rg (u (mv (.t rfl)) <| u (bc (.t rfl) (.i rfl) rfl rfl) <| u (mv (.t rfl)) <| gd rfl rfl (fun hB => mv (.t rfl)) <| gd rfl rfl (fun hB => bc (.m rfl hB) (.i rfl) rfl rfl) <| u (pko (.t rfl) (.t rfl)) <| .nil _) rfl ?_
  refine .bq h (.t rfl) (fun h => ?_) (fun h => ?_)
  · refine .sq ?_
    refine .rg (u (asg (.i rfl)) <| .nil _) rfl ?_
    obtain rfl := Option.some.inj h
    exact .rt Try.func18 (.t rfl <| .n) .n rfl rfl
  · refine .skp ?_
    refine .sq ?_
    refine .bl ?_
    unfold ref03_Round_l1 at h
    refine .kq (.lo (fun (s : Int) => ⟨[(0, .ro (.int .i64 s))], []⟩) h ?_) (.c rfl .n) .n
    intro v1 u1 h ih1 hx1
    replace h : ref03_Round_s1 z v1 = _ := h
    unfold ref03_Round_s1 at h
    refine .sq ?_
    refine .sq ?_
    refine .rg (u (mv (.t rfl)) <| u (di (.t rfl) (.i rfl) rfl (by decide)) <| u (bc (.t rfl) (.i rfl) rfl rfl) <| .nil _) rfl ?_
    refine .bq h (.t rfl) (fun h => ?_) (fun h => ?_)
    · refine .skp ?_
      refine .bl ?_
      refine .rg (u (mv (.t rfl)) <| u (bi (.t rfl) (.i rfl) rfl) <| u (asg (.t rfl)) <| .nil _) rfl ?_
      refine .ib ?_
      exact .kq (.il (ih1 (ar .add .i64 v1 1) (nxi h))) (.c rfl .n) .n
    · refine .xt rfl ?_
      replace h := mpR h hx1
      refine .sq ?_
      refine .rg (u (mv (.t rfl)) <| u (asg (.t rfl)) <| .nil _) rfl ?_
      obtain rfl := Option.some.inj h
      exact .rt Try.func18 (.t rfl <| .n) .n rfl rfl

theorem ref03_Fill_c {z : Option Nat} {b : List Int} {r : List Int} (h : ref03_Fill z b = some r) :
    AC Try.prog 20 [.ro (.list 1 (List.map e8 b))] (.ro (.list 1 (List.map e8 r))) [] := by
  refine AC.of Try.func20 rfl rfl fun w M0 hM => ?_
  unfold ref03_Fill at h
  refine .sq ?_
  refine .rg (u (asg (.n (sz := 1) (F := e8))) <| .nil _) rfl ?_
  refine .sq ?_
  refine be h fun x1 hx1 h => ?_
  refine .rg (bs (F := e8) (l := ([] : List Int)) 4 pf37 (.n) rfl (fun _ _ => rfl) rfl rfl <| u (mv (.t rfl)) <| ap 6 pf37 (.t rfl) rfl (.t rfl) hx1 rfl <| u (asg (.t rfl)) <| .nil _) rfl ?_
  refine .sq ?_
  refine .bl ?_
  unfold ref03_Fill_l1 at h
  refine .ks (fun i => bif Nat.beq i 3 then 6 else i) (.lo (fun (s : List Int) => ⟨[(3, .own 3)], [(3, some (.arr 5 1 (List.map e8 s)))]⟩) h ?_) (.c rfl .n) (.c rfl .n) rfl
  intro v2 u1 h ih1 hx1
  replace h : ref03_Fill_s1 z v2 = _ := h
  unfold ref03_Fill_s1 at h
  refine .sq ?_
  refine .sq ?_
  refine .rg (u (mv (.t rfl)) <| u (lom sf37 (.t rfl) rfl) <| u (di (.t rfl) (.i rfl) rfl (by decide)) <| u (bc (.t rfl) (.i rfl) rfl rfl) <| .nil _) rfl ?_
  refine .bq h (.t rfl) (fun h => ?_) (fun h => ?_)
  · refine .skp ?_
    refine .bl ?_
    refine be h fun x3 hx3 h => ?_
    refine .rg (u (mv (.t rfl)) <| bs (F := e8) (l := [0]) 12 pf37 (.c (.i rfl) rfl <| .n) rfl (fun _ _ => rfl) rfl rfl <| apo 13 pf37 (.t rfl) rfl (.t rfl) rfl hx3 rfl <| u (asg (.t rfl)) <| .nil _) rfl ?_
    refine .ib ?_
    exact .ks (fun i => bif Nat.beq i 3 then 13 else i) (.il (ih1 x3 (nxi h))) (.c rfl .n) (.c rfl .n) rfl
  · refine .xt rfl ?_
    replace h := mpR h hx1
    refine .sq ?_
    refine .rg (u (mv (.t rfl)) <| u (asg (.t rfl)) <| .nil _) rfl ?_
    refine .fz 3 rfl ?_
    obtain rfl := Option.some.inj h
    exact .rt Try.func20 (.t rfl <| .n) .n rfl rfl

theorem ref03_Zero_c {z : Option Nat} {b : List Int} {r : Bool} (h : ref03_Zero z b = some r) :
    AC Try.prog 22 [.ro (.list 1 (List.map e8 b))] (.ro (.bool r)) [] := by
  refine AC.of Try.func22 rfl rfl fun w M0 hM => ?_
  unfold ref03_Zero at h
  refine .sq ?_
  refine .rg (u (asg .b) <| .nil _) rfl ?_
  refine .sq ?_
  refine .sq ?_
  refine .rg (u (asg (.i rfl)) <| .nil _) rfl ?_
  refine .bl ?_
  unfold ref03_Zero_l1 at h
  refine .kq (.lo (fun (s : Int) => ⟨[(0, .ro (.list 1 (List.map e8 b))), (3, .ro (.int .i64 s))], []⟩) h ?_) (.c rfl (.c rfl .n)) .n
  intro v1 u1 h ih1 hx1
  replace h : ref03_Zero_s1 z b v1 = _ := h
  unfold ref03_Zero_s1 at h
  refine .sq ?_
  refine .sq ?_
  refine .rg (u (mv (.t rfl)) <| u (mv (.t rfl)) <| u (lnm sf37 (.t rfl)) <| u (bc (.t rfl) (.t rfl) rfl rfl) <| .nil _) rfl ?_
  refine .bq h (.t rfl) (fun h => ?_) (fun h => ?_)
  · refine .skp ?_
    refine .sq ?_
    refine .bl ?_
    refine .sq ?_
    refine be h fun x2 hx2 h => ?_
    refine .rg (u (mv (.t rfl)) <| u (mv (.t rfl)) <| u (ia sf37 (.t rfl) (.t rfl) (ix_map e8 hx2)) <| u (lr tf5 (.t rfl) rfl) <| u (bc (.t rfl) (.i rfl) rfl rfl) <| .nil _) rfl ?_
    refine .bq h (.t rfl) (fun h => ?_) (fun h => ?_)
    · refine .sq ?_
      refine .rg (u (asg .b) <| .nil _) rfl ?_
      replace h := mpR h hx1
      obtain rfl := Option.some.inj h
      exact .rt Try.func22 (.t rfl <| .n) .n rfl rfl
    · refine .skp ?_
      refine .ib ?_
      refine .rg (u (mv (.t rfl)) <| u (bi (.t rfl) (.i rfl) rfl) <| u (asg (.t rfl)) <| .nil _) rfl ?_
      exact .kq (.il (ih1 (ar .add .i64 v1 1) (nxi h))) (.c rfl (.c rfl .n)) .n
  · refine .xt rfl ?_
    replace h := mpR h hx1
    refine .sq ?_
    refine .rg (u (asg .b) <| .nil _) rfl ?_
    obtain rfl := Option.some.inj h
    exact .rt Try.func22 (.t rfl <| .n) .n rfl rfl

theorem ref03_Trail_c {b : List Int} {r : Int} (h : ref03_Trail b = some r) :
    AC Try.prog 26 [.ro (.list 1 (List.map e8 b))] (.ro (.int .i64 r)) [] := by
  refine AC.of Try.func26 rfl rfl fun w M0 hM => ?_
  unfold ref03_Trail at h
  refine .sq ?_
  refine .rg (u (asg (.i rfl)) <| .nil _) rfl ?_
  refine .sq ?_
  refine .sq ?_
  refine .rg (u (mv (.t rfl)) <| u (lnm sf37 (.t rfl)) <| u (bc (.t rfl) (.i rfl) rfl rfl) <| .nil _) rfl ?_
  refine .bq h (.t rfl) (fun h => ?_) (fun h => ?_)
  · refine .sq ?_
    refine .rg (u (asg (.i rfl)) <| .nil _) rfl ?_
    obtain rfl := Option.some.inj h
    exact .rt Try.func26 (.t rfl <| .n) .n rfl rfl
  · refine .skp ?_
    refine .sq ?_
    refine be h fun x1 hx1 h => ?_
    refine .rg (u (mv (.t rfl)) <| u (mv (.t rfl)) <| u (lnm sf37 (.t rfl)) <| u (bi (.t rfl) (.i rfl) rfl) <| u (ia sf37 (.t rfl) (.t rfl) (ix_map e8 hx1)) <| u (lr tf5 (.t rfl) rfl) <| u (cv cv5_3 (.t rfl)) <| u (asg (.t rfl)) <| .nil _) rfl ?_
    refine .sq ?_
    refine .sq ?_
    refine .rg (u (mv (.t rfl)) <| u (mv (.t rfl)) <| u (lnm sf37 (.t rfl)) <| u (bc (.t rfl) (.t rfl) rfl rfl) <| .nil _) rfl ?_
    refine .bq h (.t rfl) (fun h => ?_) (fun h => ?_)
    · refine .sq ?_
      refine .rg (u (asg (.i rfl)) <| .nil _) rfl ?_
      obtain rfl := Option.some.inj h
      exact .rt Try.func26 (.t rfl <| .n) .n rfl rfl
    · refine .skp ?_
      refine .sq ?_
      refine .rg (u (mv (.t rfl)) <| u (asg (.t rfl)) <| .nil _) rfl ?_
      obtain rfl := Option.some.inj h
      exact .rt Try.func26 (.t rfl <| .n) .n rfl rfl

theorem ref03_Clean_c {z : Option Nat} {b : List Int} {r : Bool} (h : ref03_Clean z b = some r) :
    AC Try.prog 24 [.ro (.list 1 (List.map e8 b))] (.ro (.bool r)) [] := by
  refine AC.of Try.func24 rfl rfl fun w M0 hM => ?_
  unfold ref03_Clean at h
  refine .sq ?_
  refine .rg (u (asg .b) <| .nil _) rfl ?_
  refine .sq ?_
  refine be h fun x1 hx1 h => ?_
  refine .rg (u (mv (.t rfl)) <| cl [] cf26 (ref03_Trail_c hx1) (.c (.t rfl) <| .n) (.inl rfl) <| u (asg (.t rfl)) <| .nil _) rfl ?_
  refine .sq ?_
  refine be h fun x2 hx2 h => ?_
  refine be h fun x3 hx3 h => ?_
  refine .rg (u (mv (.t rfl)) <| u (bc (.t rfl) (.i rfl) rfl rfl) <| u (mv (.t rfl)) <| gd rfl rfl (fun hB => mv (.t rfl)) <| gd rfl rfl (fun hB => mv (.t rfl)) <| gd rfl rfl (fun hB => lnm sf37 (.m rfl hB)) <| gd rfl rfl (fun hB => mv (.t rfl)) <| gd rfl rfl (fun hB => bi (.m rfl hB) (.m rfl hB) rfl) <| gd rfl rfl (fun hB => mv (.t rfl)) <| gd rfl rfl (fun hB => lnm sf37 (.m rfl hB)) <| gd rfl rfl (fun hB => bi (.m rfl hB) (.i rfl) rfl) <| gd rfl rfl (fun hB => sl sf37 (.m rfl hB) (.s (.m rfl hB)) (.s (.m rfl hB)) (gTt hx2 hB)) <| cg rfl rfl cf22 (fun hB => (ref03_Zero_c (gTt hx3 hB))) (fun hB => .c (.m rfl hB) <| .n) (.inl rfl) <| u (pka (.t rfl) (.t rfl)) <| u (asg (.t rfl)) <| .nil _) rfl ?_
  obtain rfl := Option.some.inj h
  exact .rt Try.func24 (.t rfl <| .n) .n rfl rfl

theorem ref03_Add_c {z : Option Nat} {b : List Int} {n : Int} {r : List Int} (h : ref03_Add z b n = some r) :
    AC Try.prog 28 [.ro (.list 1 (List.map e8 b)), .ro (.int .i64 n)] (.ro (.list 1 (List.map e8 r))) [] := by
  refine AC.of Try.func28 rfl rfl fun w M0 hM => ?_
  unfold ref03_Add at h
  refine .sq ?_
  refine .rg (u (asg (.n (sz := 1) (F := e8))) <| .nil _) rfl ?_
  refine .sq ?_
  refine be h fun x1 hx1 h => ?_
  refine .rg (bs (F := e8) (l := ([] : List Int)) 7 pf37 (.n) rfl (fun _ _ => rfl) rfl rfl <| u (mv (.t rfl)) <| ap 9 pf37 (.t rfl) rfl (.t rfl) hx1 rfl <| u (asg (.t rfl)) <| .nil _) rfl ?_
  refine .sq ?_
  refine .sq ?_
  refine .rg (u (asg (.i rfl)) <| .nil _) rfl ?_
  refine .bl ?_
  unfold ref03_Add_l1 at h
  refine .ks (fun i => bif Nat.beq i 5 then 9 else i) (.lo (fun (s : List Int × Int) => ⟨[(1, .ro (.int .i64 n)), (5, .own 5), (6, .ro (.int .i64 s.2))], [(5, some (.arr 5 1 (List.map e8 s.1)))]⟩) h ?_) (.c rfl (.c rfl (.c rfl .n))) (.c rfl .n) rfl
  rintro ⟨v2, v3⟩ u1 h ih1 hx1
  replace h : ref03_Add_s1 z n v2 v3 = _ := h
  unfold ref03_Add_s1 at h
  refine .sq ?_
  refine .sq ?_
  refine .rg (u (mv (.t rfl)) <| u (mv (.t rfl)) <| u (bc (.t rfl) (.t rfl) rfl rfl) <| .nil _) rfl ?_
  refine .bq h (.t rfl) (fun h => ?_) (fun h => ?_)
  · refine .skp ?_
    refine .sq ?_
    refine .bl ?_
    refine be h fun x4 hx4 h => ?_
    refine .rg (u (mv (.t rfl)) <| bs (F := e8) (l := [0]) 16 pf37 (.c (.i rfl) rfl <| .n) rfl (fun _ _ => rfl) rfl rfl <| apo 17 pf37 (.t rfl) rfl (.t rfl) rfl hx4 rfl <| u (asg (.t rfl)) <| .nil _) rfl ?_
    refine .ib ?_
    refine .rg (u (mv (.t rfl)) <| u (bi (.t rfl) (.i rfl) rfl) <| u (asg (.t rfl)) <| .nil _) rfl ?_
    exact .ks (fun i => bif Nat.beq i 5 then 17 else i) (.il (ih1 (x4, (ar .add .i64 v3 1)) (nxi h))) (.c rfl (.c rfl (.c rfl .n))) (.c rfl .n) rfl
  · refine .xt rfl ?_
    replace h := mpR h hx1
    refine .sq ?_
    refine be h fun x5 hx5 h => ?_
    refine .rg (u (mv (.t rfl)) <| u (mv (.t rfl)) <| u (cv cv3_5 (.t rfl)) <| bs (F := e8) (l := [(IntKind.u8.wrap n)]) 21 pf37 (.c (.t rfl) rfl <| .n) rfl (fun _ _ => rfl) rfl rfl <| apo 22 pf37 (.t rfl) rfl (.t rfl) rfl hx5 rfl <| u (asg (.t rfl)) <| .nil _) rfl ?_
    refine .fz 22 rfl ?_
    obtain rfl := Option.some.inj h
    exact .rt Try.func28 (.t rfl <| .n) .n rfl rfl

theorem law03_PadRight_c {z : Option Nat} {b : List Int} {n : Int} {r : Bool} (h : law03_PadRight z b n = some r) :
    AC Try.prog 5 [.ro (.list 1 (List.map e8 b)), .ro (.int .i64 n)] (.ro (.bool r)) [] := by
  refine AC.of Try.func5 rfl rfl fun w M0 hM => ?_
  unfold law03_PadRight at h
  refine .sq ?_
  refine .rg (u (asg .b) <| .nil _) rfl ?_
  refine .sq ?_
  refine .sq ?_
  refine .rg (cl [] cf16 law03_awake_k (.n) (.inl rfl) <| u (no (.t rfl)) <| .nil _) rfl ?_
  refine .cf (.t rfl) rfl ?_
  refine .skp ?_
  refine .sq ?_
  refine .sq ?_
  refine .rg (u (mv (.t rfl)) <| u (lnm sf37 (.t rfl)) <| u (bc (.t rfl) (.i rfl) rfl rfl) <| .nil _) rfl ?_
  refine .bq h (.t rfl) (fun h => ?_) (fun h => ?_)
  · refine .sq ?_
    refine .rg (u (asg .b) <| .nil _) rfl ?_
    obtain rfl := Option.some.inj h
    exact .rt Try.func5 (.t rfl <| .n) .n rfl rfl
  · refine .skp ?_
    refine .sq ?_
    refine .sq ?_
    refine be h fun x1 hx1 h => ?_
    refine be h fun x2 hx2 h => ?_
    refine be h fun x3 hx3 h => ?_
    refine be h fun x4 hx4 h => ?_
    refine be h fun x5 hx5 h => ?_
    refine be h fun x6 hx6 h => ?_
    refine be h fun x7 hx7 h => ?_
    refine .rd mixed (u (mv (.t rfl)) <| cl [] cf17 (pad_Round_c n) (.c (.t rfl) <| .n) (.inl rfl) <| u (mv (.t rfl)) <| cl [] cf18 (ref03_Round_c hx1) (.c (.t rfl) <| .n) (.inl rfl) <| u (bc (.t rfl) (.t rfl) rfl rfl) <| u (mv (.t rfl)) <| gd rfl rfl (fun hB => mv (.t rfl)) <| cg rfl rfl cf19 (fun hB => (pad_Fill_c (gTt hx2 (nt hB)))) (fun hB => .c (.m rfl hB) <| .n) (.inl rfl) <| gd rfl rfl (fun hB => bt bt37_9 (.m rfl hB)) <| gd rfl rfl (fun hB => mv (.t rfl)) <| cg rfl rfl cf20 (fun hB => (ref03_Fill_c (gTt hx3 (nt hB)))) (fun hB => .c (.m rfl hB) <| .n) (.inl rfl) <| gd rfl rfl (fun hB => bt bt37_9 (.m rfl hB)) <| gd rfl rfl (fun hB => sq (.m rfl hB) (.m rfl hB) rfl rfl) <| u (pko (.t rfl) (.t rfl)) <| u (mv (.t rfl)) <| gd rfl rfl (fun hB => mv (.t rfl)) <| cg rfl rfl cf21 (fun hB => (pad_Zero_c (gTt hx4 (nt hB)))) (fun hB => .c (.m rfl hB) <| .n) (.inl rfl) <| gd rfl rfl (fun hB => mv (.t rfl)) <| cg rfl rfl cf22 (fun hB => (ref03_Zero_c (gTt hx5 (nt hB)))) (fun hB => .c (.m rfl hB) <| .n) (.inl rfl) <| gd rfl rfl (fun hB => be2 ub4 (.m rfl hB) (.m rfl hB) rfl) <| u (pko (.t rfl) (.t rfl)) <| u (mv (.t rfl)) <| gd rfl rfl (fun hB => mv (.t rfl)) <| cg rfl rfl cf23 (fun hB => (pad_Clean_c (gTt hx6 (nt hB)))) (fun hB => .c (.m rfl hB) <| .n) (.inl rfl) <| gd rfl rfl (fun hB => mv (.t rfl)) <| cg rfl rfl cf24 (fun hB => (ref03_Clean_c (gTt hx7 (nt hB)))) (fun hB => .c (.m rfl hB) <| .n) (.inl rfl) <| gd rfl rfl (fun hB => be2 ub4 (.m rfl hB) (.m rfl hB) rfl) <| u (pko (.t rfl) (.t rfl)) <| .nil _) (by kernel_rfl) rfl ?_
    refine .bq h (.t rfl) (fun h => ?_) (fun h => ?_)
    · refine .sq ?_
      refine .rg (u (asg .b) <| .nil _) rfl ?_
      obtain rfl := Option.some.inj h
      exact .rt Try.func5 (.t rfl <| .n) .n rfl rfl
    · refine .skp ?_
      refine .sq ?_
      refine be h fun x8 hx8 h => ?_
      refine .rg (u (mv (.t rfl)) <| cl [] cf25 (pad_Trail_c hx8) (.c (.t rfl) <| .n) (.inl rfl) <| u (mv (.t rfl)) <| u (ex (.t rfl) rfl rfl) <| u (ex (.t rfl) rfl rfl) <| u (asg (.t rfl)) <| u (asg (.t rfl)) <| .nil _) rfl ?_
      refine .sq ?_
      refine .sq ?_
      refine be h fun x9 hx9 h => ?_
      refine .rg (u (mv (.t rfl)) <| cl [] cf26 (ref03_Trail_c hx9) (.c (.t rfl) <| .n) (.inl rfl) <| u (asg (.t rfl)) <| .nil _) rfl ?_
      refine .sq ?_
      refine .rg (u (mv (.t rfl)) <| u (mv (.t rfl)) <| u (bc (.t rfl) (.t rfl) rfl rfl) <| u (mv (.t rfl)) <| gd rfl rfl (fun hB => mv (.t rfl)) <| gd rfl rfl (fun hB => bc (.m rfl hB) (.i rfl) rfl rfl) <| gd rfl rfl (fun hB => mv (.t rfl)) <| gd rfl rfl (fun hB => bc (.m rfl hB) (.i rfl) rfl rfl) <| gd rfl rfl (fun hB => be2 ub4 (.m rfl hB) (.m rfl hB) rfl) <| u (pko (.t rfl) (.t rfl)) <| u (mv (.t rfl)) <| gd rfl rfl (fun hB => mv (.t rfl)) <| gd rfl rfl (fun hB => bc (.m rfl hB) (.i rfl) rfl rfl) <| gd rfl rfl (fun hB => mv (.m rfl hB)) <| gm rfl rfl (fun hB => mv (.t rfl)) <| gm rfl rfl (fun hB => bc (.m rfl hB) (.i rfl) rfl rfl) <| gd rfl rfl (fun hB => pkam (.m rfl hB) (.t rfl) hB) <| u (pko (.t rfl) (.t rfl)) <| .nil _) rfl ?_
      refine .bq h (.t rfl) (fun h => ?_) (fun h => ?_)
      · refine .sq ?_
        refine .rg (u (asg .b) <| .nil _) rfl ?_
        obtain rfl := Option.some.inj h
        exact .rt Try.func5 (.t rfl <| .n) .n rfl rfl
      · refine .skp ?_
        refine .sq ?_
        refine be h fun x10 hx10 h => ?_
        refine .rg (u (mv (.t rfl)) <| u (mv (.t rfl)) <| cnf 72000 cf27 (pad_Add_c hx10) (.c (.t rfl) <| .c (.t rfl) <| .n) rfl rfl rfl <| u (mv (.t rfl)) <| u (ex (.t rfl) rfl rfl) <| u (ex (.t rfl) rfl rfl) <| u (asg (.t rfl)) <| u (asg (.t rfl)) <| .nil _) rfl ?_
        refine .sq ?_
        refine .sq ?_
        refine .rg (u (mv (.t rfl)) <| u (bc (.t rfl) (.i rfl) rfl rfl) <| u (mv (.t rfl)) <| gd rfl rfl (fun hB => mv (.t rfl)) <| gd rfl rfl (fun hB => bc (.m rfl hB) (.i rfl) rfl rfl) <| u (pko (.t rfl) (.t rfl)) <| .nil _) rfl ?_
        refine .bq h (.t rfl) (fun h => ?_) (fun h => ?_)
        · refine .sq ?_
          refine .rg (u (mv (.t rfl)) <| u (bc (.t rfl) (.i rfl) rfl rfl) <| u (mv (.t rfl)) <| gd rfl rfl (fun hB => mv (.t rfl)) <| gd rfl rfl (fun hB => lom sf37 (.m rfl hB) rfl) <| gd rfl rfl (fun hB => bc (.m rfl hB) (.i rfl) rfl rfl) <| u (pka (.t rfl) (.t rfl)) <| u (asg (.t rfl)) <| .nil _) rfl ?_
          obtain rfl := Option.some.inj h
          exact .rt Try.func5 (.t rfl <| .n) .n rfl rfl
        · refine .skp ?_
          refine .sq ?_
          refine be h fun x11 hx11 h => ?_
          refine .rd mixed (u (mv (.t rfl)) <| u (bc (.t rfl) (.i rfl) rfl rfl) <| u (mv (.t rfl)) <| gd rfl rfl (fun hB => mv (.t rfl)) <| gd rfl rfl (fun hB => bto bt37_9 (.m rfl hB) rfl) <| gd rfl rfl (fun hB => mv (.t rfl)) <| gd rfl rfl (fun hB => mv (.t rfl)) <| cg rfl rfl cf28 (fun hB => (ref03_Add_c (gTt hx11 hB))) (fun hB => .c (.m rfl hB) <| .c (.m rfl hB) <| .n) (.inl rfl) <| gd rfl rfl (fun hB => bt bt37_9 (.m rfl hB)) <| gd rfl rfl (fun hB => sq (.m rfl hB) (.m rfl hB) rfl rfl) <| u (pka (.t rfl) (.t rfl)) <| u (asg (.t rfl)) <| .nil _) (by kernel_rfl) rfl ?_
          obtain rfl := Option.some.inj h
          exact .rt Try.func5 (.t rfl <| .n) .n rfl rfl

theorem law03_PadFill_c {z : Option Nat} {b : List Int} {r : Bool} (h : law03_PadFill z b = some r) :
    AC Try.prog 7 [.ro (.list 1 (List.map e8 b))] (.ro (.bool r)) [] := by
  refine AC.of Try.func7 rfl rfl fun w M0 hM => ?_
  unfold law03_PadFill at h
  refine .sq ?_
  refine .rg (u (asg .b) <| .nil _) rfl ?_
  refine .sq ?_
  refine .sq ?_
  refine .rg (cl [] cf16 law03_awake_k (.n) (.inl rfl) <| u (no (.t rfl)) <| .nil _) rfl ?_
  refine .cf (.t rfl) rfl ?_
  refine .skp ?_
  refine .sq ?_
  refine .sq ?_
  refine .rg (u (mv (.t rfl)) <| u (lnm sf37 (.t rfl)) <| u (bc (.t rfl) (.i rfl) rfl rfl) <| .nil _) rfl ?_
  refine .bq h (.t rfl) (fun h => ?_) (fun h => ?_)
  · refine .sq ?_
    refine .rg (u (asg .b) <| .nil _) rfl ?_
    obtain rfl := Option.some.inj h
    exact .rt Try.func7 (.t rfl <| .n) .n rfl rfl
  · refine .skp ?_
    refine .sq ?_
    refine be h fun x1 hx1 h => ?_
    refine .rg (u (mv (.t rfl)) <| cl [] cf19 (pad_Fill_c hx1) (.c (.t rfl) <| .n) (.inl rfl) <| u (asg (.t rfl)) <| .nil _) rfl ?_
    refine .sq ?_
    refine be h fun x2 hx2 h => ?_
    refine be h fun x3 hx3 h => ?_
    refine be h fun x4 hx4 h => ?_
    refine be h fun x5 hx5 h => ?_
    refine .rd mixed (u (mv (.t rfl)) <| u (lnm sf37 (.t rfl)) <| u (di (.t rfl) (.i rfl) rfl (by decide)) <| u (bc (.t rfl) (.i rfl) rfl rfl) <| u (mv (.t rfl)) <| gd rfl rfl (fun hB => mv (.t rfl)) <| gd rfl rfl (fun hB => lnm sf37 (.m rfl hB)) <| gd rfl rfl (fun hB => mv (.t rfl)) <| gd rfl rfl (fun hB => lnm sf37 (.m rfl hB)) <| gd rfl rfl (fun hB => bc (.m rfl hB) (.m rfl hB) rfl rfl) <| u (pka (.t rfl) (.t rfl)) <| u (mv (.t rfl)) <| gd rfl rfl (fun hB => mv (.t rfl)) <| gd rfl rfl (fun hB => lnm sf37 (.m rfl hB)) <| gd rfl rfl (fun hB => mv (.t rfl)) <| gd rfl rfl (fun hB => lnm sf37 (.m rfl hB)) <| gd rfl rfl (fun hB => bi (.m rfl hB) (.m rfl hB) rfl) <| gd rfl rfl (fun hB => bc (.m rfl hB) (.i rfl) rfl rfl) <| u (pka (.t rfl) (.t rfl)) <| u (mv (.t rfl)) <| gd rfl rfl (fun hB => mv (.t rfl)) <| gd rfl rfl (fun hB => lnm sf37 (.m rfl hB)) <| gd rfl rfl (fun hB => mv (.t rfl)) <| gd rfl rfl (fun hB => lnm sf37 (.m rfl hB)) <| cg rfl rfl cf17 (fun hB => (pad_Round_c (b.length : Int))) (fun hB => .c (.m rfl hB) <| .n) (.inl rfl) <| gd rfl rfl (fun hB => bc (.m rfl hB) (.m rfl hB) rfl rfl) <| u (pka (.t rfl) (.t rfl)) <| u (mv (.t rfl)) <| gd rfl rfl (fun hB => mv (.t rfl)) <| gd rfl rfl (fun hB => mv (.t rfl)) <| gd rfl rfl (fun hB => lnm sf37 (.m rfl hB)) <| gd rfl rfl (fun hB => sl sf37 (.m rfl hB) .n (.s (.m rfl hB)) (gTt hx2 hB)) <| gd rfl rfl (fun hB => bt bt37_9 (.m rfl hB)) <| gd rfl rfl (fun hB => mv (.t rfl)) <| gd rfl rfl (fun hB => bt bt37_9 (.m rfl hB)) <| gd rfl rfl (fun hB => sq (.m rfl hB) (.m rfl hB) rfl rfl) <| u (pka (.t rfl) (.t rfl)) <| u (mv (.t rfl)) <| gd rfl rfl (fun hB => mv (.t rfl)) <| gd rfl rfl (fun hB => mv (.t rfl)) <| gd rfl rfl (fun hB => lnm sf37 (.m rfl hB)) <| gd rfl rfl (fun hB => sl sf37 (.m rfl hB) (.s (.m rfl hB)) .n (gTt hx3 hB)) <| cg rfl rfl cf21 (fun hB => (pad_Zero_c (gTt hx4 hB))) (fun hB => .c (.m rfl hB) <| .n) (.inl rfl) <| u (pka (.t rfl) (.t rfl)) <| u (mv (.t rfl)) <| gd rfl rfl (fun hB => mv (.t rfl)) <| cg rfl rfl cf19 (fun hB => (pad_Fill_c (gTt hx5 hB))) (fun hB => .c (.m rfl hB) <| .n) (.inl rfl) <| gd rfl rfl (fun hB => bt bt37_9 (.m rfl hB)) <| gd rfl rfl (fun hB => mv (.t rfl)) <| gd rfl rfl (fun hB => bt bt37_9 (.m rfl hB)) <| gd rfl rfl (fun hB => sq (.m rfl hB) (.m rfl hB) rfl rfl) <| u (pka (.t rfl) (.t rfl)) <| u (asg (.t rfl)) <| .nil _) (by kernel_rfl) rfl ?_
    obtain rfl := Option.some.inj h
    exact .rt Try.func7 (.t rfl <| .n) .n rfl rfl

theorem law03_PadTrail_c {z : Option Nat} {b : List Int} {n : Int} {at_ : Int} {by_ : Int} {r : Bool} (h : law03_PadTrail z b n at_ by_ = some r) :
    AC Try.prog 6 [.ro (.list 1 (List.map e8 b)), .ro (.int .u8 n), .ro (.int .u16 at_), .ro (.int .u8 by_)] (.ro (.bool r)) [] := by
  refine AC.of Try.func6 rfl rfl fun w M0 hM => ?_
  unfold law03_PadTrail at h
  refine .sq ?_
  refine .rg (u (asg .b) <| .nil _) rfl ?_
  refine .sq ?_
  refine .sq ?_
  refine .rg (cl [] cf16 law03_awake_k (.n) (.inl rfl) <| u (no (.t rfl)) <| .nil _) rfl ?_
  refine .cf (.t rfl) rfl ?_
  refine .skp ?_
  refine .sq ?_
  refine .sq ?_
  refine .rg (u (mv (.t rfl)) <| u (lnm sf37 (.t rfl)) <| u (bc (.t rfl) (.i rfl) rfl rfl) <| .nil _) rfl ?_
  refine .bq h (.t rfl) (fun h => ?_) (fun h => ?_)
  · refine .sq ?_
    refine .rg (u (asg .b) <| .nil _) rfl ?_
    obtain rfl := Option.some.inj h
    exact .rt Try.func6 (.t rfl <| .n) .n rfl rfl
  · refine .skp ?_
    refine .sq ?_
    refine be h fun x1 hx1 h => ?_
    refine .rg (u (mv (.t rfl)) <| u (mv (.t rfl)) <| u (cv cv5_3 (.t rfl)) <| cnf 24000 cf27 (pad_Add_c hx1) (.c (.t rfl) <| .c (.t rfl) <| .n) rfl rfl rfl <| u (mv (.t rfl)) <| u (ex (.t rfl) rfl rfl) <| u (ex (.t rfl) rfl rfl) <| u (asg (.t rfl)) <| u (asg (.t rfl)) <| .nil _) rfl ?_
    refine .sq ?_
    refine .sq ?_
    refine .rg (u (mv (.t rfl)) <| u (bc (.t rfl) (.i rfl) rfl rfl) <| .nil _) rfl ?_
    refine .bq h (.t rfl) (fun h => ?_) (fun h => ?_)
    · refine .sq ?_
      refine .rg (u (mv (.t rfl)) <| u (bc (.t rfl) (.i rfl) rfl rfl) <| u (asg (.t rfl)) <| .nil _) rfl ?_
      obtain rfl := Option.some.inj h
      exact .rt Try.func6 (.t rfl <| .n) .n rfl rfl
    · refine .skp ?_
      refine .sq ?_
      refine be h fun x2 hx2 h => ?_
      refine .rg (u (mv (.t rfl)) <| cl [] cf25 (pad_Trail_c hx2) (.b (.t rfl) rfl <| .n) (.inr rfl) <| u (mv (.t rfl)) <| u (ex (.t rfl) rfl rfl) <| u (ex (.t rfl) rfl rfl) <| u (asg (.t rfl)) <| u (asg (.t rfl)) <| .nil _) rfl ?_
      refine .sq ?_
      refine .sq ?_
      refine be h fun x3 hx3 h => ?_
      refine be h fun x4 hx4 h => ?_
      refine .rd mixed (u (mv (.t rfl)) <| u (bc (.t rfl) (.i rfl) rfl rfl) <| u (mv (.t rfl)) <| gd rfl rfl (fun hB => mv (.t rfl)) <| gd rfl rfl (fun hB => bc (.m rfl hB) (.i rfl) rfl rfl) <| u (pko (.t rfl) (.t rfl)) <| u (mv (.t rfl)) <| gd rfl rfl (fun hB => mv (.t rfl)) <| gd rfl rfl (fun hB => mv (.t rfl)) <| gd rfl rfl (fun hB => cv cv5_3 (.m rfl hB)) <| gd rfl rfl (fun hB => bc (.m rfl hB) (.m rfl hB) rfl rfl) <| u (pko (.t rfl) (.t rfl)) <| u (mv (.t rfl)) <| gd rfl rfl (fun hB => mv (.t rfl)) <| gd rfl rfl (fun hB => lom sf37 (.m rfl hB) rfl) <| gd rfl rfl (fun hB => mv (.t rfl)) <| gd rfl rfl (fun hB => lnm sf37 (.m rfl hB)) <| gd rfl rfl (fun hB => mv (.t rfl)) <| gd rfl rfl (fun hB => bi (.m rfl hB) (.m rfl hB) rfl) <| gd rfl rfl (fun hB => bc (.m rfl hB) (.m rfl hB) rfl rfl) <| u (pko (.t rfl) (.t rfl)) <| u (mv (.t rfl)) <| gd rfl rfl (fun hB => mv (.t rfl)) <| gd rfl rfl (fun hB => mv (.t rfl)) <| gd rfl rfl (fun hB => lnm sf37 (.m rfl hB)) <| gd rfl rfl (fun hB => slv (F := e8) sf37 (.m rfl hB) rfl .n (.s (.m rfl hB)) (gTt hx3 (nt hB))) <| gd rfl rfl (fun hB => btv bt37_9 (.m rfl hB) rfl (gTt hx3 (nt hB))) <| gd rfl rfl (fun hB => mv (.t rfl)) <| gd rfl rfl (fun hB => bt bt37_9 (.m rfl hB)) <| gd rfl rfl (fun hB => sq (.m rfl hB) (.m rfl hB) rfl rfl) <| u (pko (.t rfl) (.t rfl)) <| u (mv (.t rfl)) <| gd rfl rfl (fun hB => mv (.t rfl)) <| cg rfl rfl cf23 (fun hB => (pad_Clean_c (gTt hx4 (nt hB)))) (fun hB => .b (.m rfl hB) rfl <| .n) (.inr rfl) <| gd rfl rfl (fun hB => no (.m rfl hB)) <| u (pko (.t rfl) (.t rfl)) <| .nil _) (by kernel_rfl) rfl ?_
      refine .bq h (.t rfl) (fun h => ?_) (fun h => ?_)
      · refine .sq ?_
        refine .rg (u (asg .b) <| .nil _) rfl ?_
        obtain rfl := Option.some.inj h
        exact .rt Try.func6 (.t rfl <| .n) .n rfl rfl
      · refine .skp ?_
        refine .sq ?_
        refine .sq ?_
        refine .rg (u (mv (.t rfl)) <| u (bc (.t rfl) (.i rfl) rfl rfl) <| u (mv (.t rfl)) <| gd rfl rfl (fun hB => mv (.t rfl)) <| gd rfl rfl (fun hB => bc (.m rfl hB) (.i rfl) rfl rfl) <| u (pko (.t rfl) (.t rfl)) <| .nil _) rfl ?_
        refine .bq h (.t rfl) (fun h => ?_) (fun h => ?_)
        · refine .sq ?_
          refine .rg (u (asg .b) <| .nil _) rfl ?_
          obtain rfl := Option.some.inj h
          exact .rt Try.func6 (.t rfl <| .n) .n rfl rfl
        · refine .skp ?_
          refine .sq ?_
          refine be h fun x5 hx5 h => ?_
          refine .rg (u (mv (.t rfl)) <| u (lnm sf37 (.t rfl)) <| u (mv (.t rfl)) <| u (cv cv35_3 (.t rfl)) <| u (mv (.t rfl)) <| u (bi (.t rfl) (.i rfl) rfl) <| u (dio (.t rfl) (.t rfl) rfl hx5) <| u (bi (.t rfl) (.t rfl) rfl) <| u (asg (.t rfl)) <| .nil _) rfl ?_
          refine .sq ?_
          refine be h fun x6 hx6 h => ?_
          refine .rg (u (mv (.t rfl)) <| u (mv (.t rfl)) <| u (mv (.t rfl)) <| u (io sf37 (.t rfl) rfl (.t rfl) (ix_map e8 hx6)) <| se (q := by_) tf5 (.t rfl) rfl (.t rfl) rfl rfl rfl (ixn hx6) <| .nil _) rfl ?_
          refine .sq ?_
          refine be h fun x7 hx7 h => ?_
          refine .rg (u (mv (.t rfl)) <| cl [] cf25 (pad_Trail_c hx7) (.b (.t rfl) rfl <| .n) (.inr rfl) <| u (mv (.t rfl)) <| u (ex (.t rfl) rfl rfl) <| u (ex (.t rfl) rfl rfl) <| u (asg (.t rfl)) <| u (asg (.t rfl)) <| .nil _) rfl ?_
          refine .sq ?_
          refine be h fun x8 hx8 h => ?_
          refine .rg (u (mv (.t rfl)) <| u (bc (.t rfl) (.i rfl) rfl rfl) <| u (mv (.t rfl)) <| gd rfl rfl (fun hB => mv (.t rfl)) <| gd rfl rfl (fun hB => mv (.t rfl)) <| gd rfl rfl (fun hB => cv cv5_3 (.m rfl hB)) <| gd rfl rfl (fun hB => bc (.m rfl hB) (.m rfl hB) rfl rfl) <| u (pka (.t rfl) (.t rfl)) <| u (mv (.t rfl)) <| gd rfl rfl (fun hB => mv (.t rfl)) <| cg rfl rfl cf23 (fun hB => (pad_Clean_c (gTt hx8 hB))) (fun hB => .b (.m rfl hB) rfl <| .n) (.inr rfl) <| gd rfl rfl (fun hB => no (.m rfl hB)) <| u (pka (.t rfl) (.t rfl)) <| u (asg (.t rfl)) <| .nil _) rfl ?_
          obtain rfl := Option.some.inj h
          exact .rt Try.func6 (.t rfl <| .n) .n rfl rfl

end Xb
