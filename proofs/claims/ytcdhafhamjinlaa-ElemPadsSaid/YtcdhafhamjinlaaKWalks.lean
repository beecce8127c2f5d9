/- Own text: KWalks. -/
import Derived.Test.YtcdhafhamjinlaaKFacts
import Derived.Test.YtcdhafhamjinlaaKRaw
import Derived.Test.YtcdhafhamjinlaaKIter
set_option linter.all false
set_option linter.unusedVariables false
set_option linter.unusedSimpArgs false
set_option linter.unnecessarySimpa false
set_option linter.deprecated false
namespace Xb
open Go Go.Proofs
set_option linter.unusedVariables false
set_option maxRecDepth 20000

theorem elem_Right_c {z : Option Nat} {l : List Elem} {r : Bool} (h : elem_Right z l = some r) :
    AC Try.prog 17 [.ro (.list 2 (List.map cells_Elem l))] (.ro (.bool r)) [] := by
  refine AC.of Try.func17 rfl rfl fun w M0 hM => ?_
  unfold elem_Right at h
  refine .sq ?_
  refine .rg (u (asg .b) <| .nil _) rfl ?_
  refine .sq ?_
  refine .rg (mkm A.bool 6 mf59 rfl <| u (asg (.t rfl)) <| .nil _) rfl ?_
  refine .sq ?_
  refine .sq ?_
  refine .rg (u (mv (.t rfl)) <| u (lnm sf22 (.t rfl)) <| u (mv (.i rfl)) <| .nil _) rfl ?_
  refine .bl ?_
  unfold elem_Right_l1 at h
  refine .ks (fun i => bif Nat.beq i 3 then 6 else i) (.lo (fun (s : (List (Int × Bool)) × Int) => ⟨[(3, .own 3), (7, .ro (.list 2 (List.map cells_Elem l))), (8, .ro (.int .i64 (l.length : Int))), (9, .ro (.int .i64 s.2))], [(3, some (.map Try.prog 3 4 .i64 (mpA A.bool s.1)))]⟩) h ?_) (.c rfl (.c rfl (.c rfl (.c rfl .n)))) (.c rfl .n) rfl
  rintro ⟨v1, v2⟩ u1 h ih1 hx1
  replace h : elem_Right_s1 z l v1 v2 = _ := h
  unfold elem_Right_s1 at h
  refine .sq ?_
  refine .rg (u (bc (.t rfl) (.t rfl) rfl rfl) <| .nil _) rfl ?_
  refine .sq ?_
  refine .bq h (.t rfl) (fun h => ?_) (fun h => ?_)
  · refine .skp ?_
    refine .sq ?_
    refine .bl ?_
    refine .sq ?_
    refine be h fun x3 hx3 h => ?_
    refine .rg (u (ia sf22 (.t rfl) (.t rfl) (ix_map cells_Elem hx3)) <| u (lr tf49 (.t rfl) rfl) <| al 5 zf49 rfl <| st tf49 (.t rfl) rfl (.t rfl) rfl rfl rfl <| .nil _) rfl ?_
    refine .sq ?_
    refine .sq ?_
    refine .rg (u (fa ff49_0 (.t rfl)) <| u (ld tf3 (.t rfl) rfl rfl) <| u (bc (.t rfl) (.i rfl) rfl rfl) <| u (mv (.t rfl)) <| gd rfl rfl (fun hB => fa ff49_0 (.t rfl)) <| gd rfl rfl (fun hB => ld tf3 (.m rfl hB) rfl rfl) <| gd rfl rfl (fun hB => bc (.m rfl hB) (.i rfl) rfl rfl) <| u (pko (.t rfl) (.t rfl)) <| u (mv (.t rfl)) <| gd rfl rfl (fun hB => fa ff49_1 (.t rfl)) <| gd rfl rfl (fun hB => ld tf24 (.m rfl hB) rfl rfl) <| gd rfl rfl (fun hB => lnm sf24 (.m rfl hB)) <| gd rfl rfl (fun hB => bc (.m rfl hB) (.i rfl) rfl rfl) <| u (pko (.t rfl) (.t rfl)) <| u (mv (.t rfl)) <| gd rfl rfl (fun hB => mv (.t rfl)) <| gd rfl rfl (fun hB => fa ff49_0 (.t rfl)) <| gd rfl rfl (fun hB => ld tf3 (.m rfl hB) rfl rfl) <| gd rfl rfl (fun hB => mlv (F := A.bool) mf59 eo59 mz59 (.m rfl hB) rfl (.m rfl hB)) <| u (pko (.t rfl) (.t rfl)) <| .nil _) rfl ?_
    refine .bq h (.t rfl) (fun h => ?_) (fun h => ?_)
    · refine .sq ?_
      refine .rg (u (asg .b) <| .nil _) rfl ?_
      replace h := mpR h hx1
      obtain rfl := Option.some.inj h
      exact .rt Try.func17 (.t rfl <| .n) .n rfl rfl
    · refine .skp ?_
      refine be h fun x4 hx4 h => ?_
      refine .rg (u (mv (.t rfl)) <| u (fa ff49_0 (.t rfl)) <| u (ld tf3 (.t rfl) rfl rfl) <| mpu (F := A.bool) mf59 eo59 (.t rfl) rfl (.t rfl) .b hx4 <| .nil _) rfl ?_
      refine .ib ?_
      refine .rg (u (bi (.t rfl) (.i rfl) rfl) <| u (mv (.t rfl)) <| .nil _) rfl ?_
      exact .kq (.il (ih1 (x4, (ar .add .i64 v2 1)) (nxi h))) (.c rfl (.c rfl (.c rfl (.c rfl .n)))) (.c rfl .n)
  · refine .xt rfl ?_
    replace h := mpR h hx1
    refine .sq ?_
    refine .rg (u (asg .b) <| .nil _) rfl ?_
    obtain rfl := Option.some.inj h
    exact .rt Try.func17 (.t rfl <| .n) .n rfl rfl

theorem elem_narrow_1_c (x : Elem) :
    AC Try.prog 32 [.ro (enc_Elem x)] (.ro (.bool (elem_narrow_1 x))) [] := by
  obtain ⟨r, h⟩ : ∃ r, elem_narrow_1 x = r := ⟨_, rfl⟩
  rw [h]
  refine AC.of Try.func32 rfl rfl fun w M0 hM => ?_
  unfold elem_narrow_1 at h
  refine .sq ?_
  refine .rg (bx 1 (.t rfl) rfl rfl <| u (asg .b) <| .nil _) rfl ?_
  refine .sq ?_
  refine .rg (u (fa ff49_0 (.t rfl)) <| u (ld tf3 (.t rfl) rfl rfl) <| u (bc (.t rfl) (.i rfl) rfl rfl) <| u (mv (.t rfl)) <| gd rfl rfl (fun hB => fa ff49_1 (.t rfl)) <| gd rfl rfl (fun hB => ld tf24 (.m rfl hB) rfl rfl) <| gd rfl rfl (fun hB => lnm sf24 (.m rfl hB)) <| gd rfl rfl (fun hB => bc (.m rfl hB) (.i rfl) rfl rfl) <| u (pko (.t rfl) (.t rfl)) <| u (mv (.t rfl)) <| gd rfl rfl (fun hB => fa ff49_1 (.t rfl)) <| gd rfl rfl (fun hB => ld tf24 (.m rfl hB) rfl rfl) <| gd rfl rfl (fun hB => lnm sf24 (.m rfl hB)) <| gd rfl rfl (fun hB => bc (.m rfl hB) (.i rfl) rfl rfl) <| u (pko (.t rfl) (.t rfl)) <| u (asg (.t rfl)) <| .nil _) rfl ?_
  subst h
  exact .rt Try.func32 (.t rfl <| .n) .n rfl rfl

theorem slices_IndexFunc_Elem_c {z : Option Nat} {p_s : List Elem} {f : (Elem → Option Bool)} {g_f : FuncId} {c_f : List V} (hF_f : CF Try.prog g_f) (h_f : ∀ (a0 : Elem) (q : Bool), f a0 = some q → AC Try.prog g_f ([.ro (enc_Elem a0)] ++ c_f) (.ro (.bool q)) []) {r : Int} (h : slices_IndexFunc_Elem z p_s f = some r) :
    AC Try.prog 36 [.ro (.list 2 (List.map cells_Elem p_s)), .fn (.func g_f) [] c_f] (.ro (.int .i64 r)) [] := by
  refine AC.of Try.func36 rfl rfl fun w M0 hM => ?_
  unfold slices_IndexFunc_Elem at h
  refine .sq ?_
  refine .rg (u (asg (.i rfl)) <| .nil _) rfl ?_
  refine .sq ?_
  refine .sq ?_
  refine .rg (u (mv (.t rfl)) <| u (lnm sf22 (.t rfl)) <| u (mv (.i rfl)) <| .nil _) rfl ?_
  refine .bl ?_
  unfold slices_IndexFunc_Elem_l1 at h
  refine .kq (.lo (fun (s : Int) => ⟨[(0, .ro (.list 2 (List.map cells_Elem p_s))), (1, .fn (.func g_f) [] c_f), (7, .ro (.int .i64 (p_s.length : Int))), (8, .ro (.int .i64 s))], []⟩) h ?_) (.c rfl (.c rfl (.c rfl (.c rfl .n)))) .n
  intro v1 u1 h ih1 hx1
  replace h : slices_IndexFunc_Elem_s1 z p_s f v1 = _ := h
  unfold slices_IndexFunc_Elem_s1 at h
  refine .sq ?_
  refine .rg (u (bc (.t rfl) (.t rfl) rfl rfl) <| .nil _) rfl ?_
  refine .sq ?_
  refine .bq h (.t rfl) (fun h => ?_) (fun h => ?_)
  · refine .skp ?_
    refine .sq ?_
    refine .bl ?_
    refine .sq ?_
    refine .rg (u (mv (.t rfl)) <| u (asg (.t rfl)) <| .nil _) rfl ?_
    refine .sq ?_
    refine be h fun x2 hx2 h => ?_
    refine be h fun x3 hx3 h => ?_
    refine .rg (u (mv (.t rfl)) <| u (mv (.t rfl)) <| u (mv (.t rfl)) <| u (ia sf22 (.t rfl) (.t rfl) (ix_map cells_Elem hx2)) <| u (lr tf49 (.t rfl) rfl) <| clv [] hF_f (.t rfl) (h_f _ _ hx3) (.c (.t rfl) <| .n) (.inl rfl) <| .nil _) rfl ?_
    refine .bq h (.t rfl) (fun h => ?_) (fun h => ?_)
    · refine .sq ?_
      refine .rg (u (mv (.t rfl)) <| u (asg (.t rfl)) <| .nil _) rfl ?_
      replace h := mpR h hx1
      obtain rfl := Option.some.inj h
      exact .rt Try.func36 (.t rfl <| .n) .n rfl rfl
    · refine .skp ?_
      refine .ib ?_
      refine .rg (u (bi (.t rfl) (.i rfl) rfl) <| u (mv (.t rfl)) <| .nil _) rfl ?_
      exact .kq (.il (ih1 (ar .add .i64 v1 1) (nxi h))) (.c rfl (.c rfl (.c rfl (.c rfl .n)))) .n
  · refine .xt rfl ?_
    replace h := mpR h hx1
    refine .sq ?_
    refine .rg (u (asg (.i rfl)) <| .nil _) rfl ?_
    obtain rfl := Option.some.inj h
    exact .rt Try.func36 (.t rfl <| .n) .n rfl rfl

theorem slices_ContainsFunc_Elem_c {z : Option Nat} {p_s : List Elem} {f : (Elem → Option Bool)} {g_f : FuncId} {c_f : List V} (hF_f : CF Try.prog g_f) (h_f : ∀ (a0 : Elem) (q : Bool), f a0 = some q → AC Try.prog g_f ([.ro (enc_Elem a0)] ++ c_f) (.ro (.bool q)) []) {r : Bool} (h : slices_ContainsFunc_Elem z p_s f = some r) :
    AC Try.prog 33 [.ro (.list 2 (List.map cells_Elem p_s)), .fn (.func g_f) [] c_f] (.ro (.bool r)) [] := by
  refine AC.of Try.func33 rfl rfl fun w M0 hM => ?_
  unfold slices_ContainsFunc_Elem at h
  refine .sq ?_
  refine .rg (u (asg .b) <| .nil _) rfl ?_
  refine .sq ?_
  refine be h fun x1 hx1 h => ?_
  refine .rg (u (mv (.t rfl)) <| u (mv (.t rfl)) <| cl [] cf36 (slices_IndexFunc_Elem_c hF_f h_f hx1) (.c (.t rfl) <| .c (.t rfl) <| .n) (.inl rfl) <| u (bc (.t rfl) (.i rfl) rfl rfl) <| u (asg (.t rfl)) <| .nil _) rfl ?_
  obtain rfl := Option.some.inj h
  exact .rt Try.func33 (.t rfl <| .n) .n rfl rfl

theorem elem_narrow_c {z : Option Nat} {l : List Elem} {r : Bool} (h : elem_narrow z l = some r) :
    AC Try.prog 27 [.ro (.list 2 (List.map cells_Elem l))] (.ro (.bool r)) [] := by
  refine AC.of Try.func27 rfl rfl fun w M0 hM => ?_
  unfold elem_narrow at h
  refine .sq ?_
  refine .rg (u (asg .b) <| .nil _) rfl ?_
  refine .sq ?_
  refine .rg (u (asg .f) <| .nil _) rfl ?_
  refine .sq ?_
  refine be h fun x1 hx1 h => ?_
  refine .rg (u (mv (.t rfl)) <| u (mv (.t rfl)) <| cl [] cf33 (slices_ContainsFunc_Elem_c cf32 (fun y0 q h => by obtain rfl := Option.some.inj h; exact elem_narrow_1_c y0) hx1) (.c (.t rfl) <| .c (.t rfl) <| .n) (.inl rfl) <| u (no (.t rfl)) <| u (asg (.t rfl)) <| .nil _) rfl ?_
  obtain rfl := Option.some.inj h
  exact .rt Try.func27 (.t rfl <| .n) .n rfl rfl

theorem elem_Profile_c {z : Option Nat} {l : List Elem} {r : Int} (h : elem_Profile z l = some r) :
    AC Try.prog 18 [.ro (.list 2 (List.map cells_Elem l))] (.ro (.int .u16 r)) [] := by
  refine AC.of Try.func18 rfl rfl fun w M0 hM => ?_
  unfold elem_Profile at h
  refine .sq ?_
  refine .rg (u (asg (.i rfl)) <| .nil _) rfl ?_
  refine .sq ?_
  refine .bl ?_
  refine .sq ?_
  refine be h fun x1 hx1 h => ?_
  refine .rg (u (mv (.t rfl)) <| cl [] cf17 (elem_Right_c hx1) (.c (.t rfl) <| .n) (.inl rfl) <| u (no (.t rfl)) <| u (asg (.t rfl)) <| .nil _) rfl ?_
  refine .bq h (.t rfl) (fun h => ?_) (fun h => ?_)
  · refine .sq ?_
    refine .rg (u (asg (.i rfl)) <| .nil _) rfl ?_
    obtain rfl := Option.some.inj h
    exact .rt Try.func18 (.t rfl <| .n) .n rfl rfl
  · refine .sq ?_
    refine be h fun x2 hx2 h => ?_
    refine .rg (u (mv (.t rfl)) <| cl [] cf27 (elem_narrow_c hx2) (.c (.t rfl) <| .n) (.inl rfl) <| u (asg (.t rfl)) <| .nil _) rfl ?_
    refine .bq h (.t rfl) (fun h => ?_) (fun h => ?_)
    · refine .sq ?_
      refine .rg (u (asg (.i rfl)) <| .nil _) rfl ?_
      obtain rfl := Option.some.inj h
      exact .rt Try.func18 (.t rfl <| .n) .n rfl rfl
    · refine .skp ?_
      refine .ib ?_
      refine .sq ?_
      refine .rg (u (asg (.i rfl)) <| .nil _) rfl ?_
      obtain rfl := Option.some.inj h
      exact .rt Try.func18 (.t rfl <| .n) .n rfl rfl

theorem pad_zeros_c {n : Int} {r : List Int} (h : pad_zeros n = some r) :
    AC Try.prog 30 [.ro (.int .i64 n)] (.own 0) [(0, .arr 5 1 (List.map e8 r))] := by
  refine AC.of Try.func30 rfl rfl fun w M0 hM => ?_
  unfold pad_zeros at h
  refine .sq ?_
  refine .rg (anm e8 2 5 1 rfl rfl <| .nil _) rfl ?_
  refine .sq ?_
  refine be h fun x1 hx1 h => ?_
  refine .rg (u (mv (.t rfl)) <| mks (F := e8) (z0 := 0) 4 pf24 zf5 (.t rfl) (.t rfl) hx1 rfl <| u (asg (.t rfl)) <| .nil _) rfl ?_
  obtain rfl := Option.some.inj h
  refine .ks (l := [(2, .own 0)]) (o := [(0, some (.arr 5 1 (List.map e8 x1)))]) (fun i => bif Nat.beq i 0 then 4 else i) ?_ (.c rfl .n) (.c rfl .n) rfl
  exact .rt Try.func30 (.t rfl <| .n) (.c rfl .n) rfl rfl

theorem pad_zeros_r {n : Int} {r : List Int} (h : pad_zeros n = some r) :
    AC Try.prog 30 [.ro (.int .i64 n)] (.ro (.list 1 (List.map e8 r))) [] := AC.fz (pad_zeros_c h) rfl

theorem slices_Grow_c {n : Int} (hn : growL n = some ()) : AC Try.prog 35 [.ro (.raw (.slice none 0 0)), .ro (.int .i64 n)] (.own 0) [(0, .arr 5 1 (([] : List Int).map e8))] := by
  obtain ⟨i, z, hi, hz, hsz, hzs, hpos, hby⟩ := pf24.i
  refine AC.grow (fun n w h1 h2 => ?_) (fun w => slices_Grow_nil w) hn
  refine (slices_Grow_new n w h1 h2 i z hi hz (by omega) hby).mono fun e w' hp => ?_
  obtain ⟨rfl, rfl⟩ := hp
  have hG : n ≤ grownCap w n 0 5 := grownCap_ge w _ _ _
  refine ⟨_, _, rfl, ?_, grownCap_le_maxLen w n 0 5 (by unfold maxLen; omega), rfl⟩
  simp only [Array.size_append, size_zeroCells, hzs]
  have h0 : (#[] : Array Value).size = 0 := rfl
  omega

theorem slices_Concat_c {z : Option Nat} {slices : List (List Int)} {r : List Int} (h : slices_Concat z slices = some r) :
    AC Try.prog 29 [.ro (.list 1 (List.map (el 1 e8) slices))] (.own 0) [(0, .arr 5 1 (List.map e8 r))] := by
  refine AC.of Try.func29 rfl rfl fun w M0 hM => ?_
  unfold slices_Concat at h
  refine .sq ?_
  refine .rg (anm e8 2 5 1 rfl rfl <| .nil _) rfl ?_
  refine .sq ?_
  refine .rg (u (asg (.i rfl)) <| .nil _) rfl ?_
  refine .sq ?_
  refine .sq ?_
  refine .rg (u (mv (.t rfl)) <| u (lnm sf71 (.t rfl)) <| u (mv (.i rfl)) <| .nil _) rfl ?_
  refine .bl ?_
  unfold slices_Concat_l1 at h
  refine .kq (.lo (fun (s : Int × Int) => ⟨[(0, .ro (.list 1 (List.map (el 1 e8) slices))), (3, .ro (.int .i64 s.1)), (9, .ro (.list 1 (List.map (el 1 e8) slices))), (10, .ro (.int .i64 (slices.length : Int))), (11, .ro (.int .i64 s.2))], []⟩) h ?_) (.c rfl (.c rfl (.c rfl (.c rfl (.c rfl .n))))) .n
  rintro ⟨v1, v2⟩ u1 h ih1 hx1
  replace h : slices_Concat_s1 z slices v1 v2 = _ := h
  unfold slices_Concat_s1 at h
  refine .sq ?_
  refine .rg (u (bc (.t rfl) (.t rfl) rfl rfl) <| .nil _) rfl ?_
  refine .sq ?_
  refine .bq h (.t rfl) (fun h => ?_) (fun h => ?_)
  · refine .skp ?_
    refine .sq ?_
    refine .bl ?_
    refine .sq ?_
    refine be h fun x3 hx3 h => ?_
    refine .rg (u (ia sf71 (.t rfl) (.t rfl) (ix_map (el 1 e8) hx3)) <| u (lr tf24 (.t rfl) rfl) <| u (asg (.t rfl)) <| .nil _) rfl ?_
    refine .sq ?_
    refine .rg (u (mv (.t rfl)) <| u (mv (.t rfl)) <| u (lnm sf24 (.t rfl)) <| u (bi (.t rfl) (.t rfl) rfl) <| u (asg (.t rfl)) <| .nil _) rfl ?_
    refine .sq ?_
    refine .rg (u (mv (.t rfl)) <| u (bc (.t rfl) (.i rfl) rfl rfl) <| .nil _) rfl ?_
    refine .jq (t := some u1) (fun (a : Unit) => ⟨[(0, .ro (.list 1 (List.map (el 1 e8) slices))), (3, .ro (.int .i64 (ar .add .i64 v1 (x3.length : Int)))), (9, .ro (.list 1 (List.map (el 1 e8) slices))), (10, .ro (.int .i64 (slices.length : Int))), (11, .ro (.int .i64 v2))], []⟩) (fun (a : Unit) => slices_Concat_j2 z v1 v2 x3) ?_ (fun J2 => ?_)
    · intro _ h
      replace h : slices_Concat_j2 z v1 v2 x3 = _ := h
      unfold slices_Concat_j2 at h
      refine .ib ?_
      refine .rg (u (bi (.t rfl) (.i rfl) rfl) <| u (mv (.t rfl)) <| .nil _) rfl ?_
      exact .kq (.il (ih1 ((ar .add .i64 v1 (x3.length : Int)), (ar .add .i64 v2 1)) (nxi h))) (.c rfl (.c rfl (.c rfl (.c rfl (.c rfl .n))))) .n
    refine .bq h (.t rfl) (fun h => ?_) (fun h => ?_)
    · cases h
    · refine .skp ?_
      exact .kq (J2 () h) (.c rfl (.c rfl (.c rfl (.c rfl (.c rfl .n))))) .n
  · refine .xt rfl ?_
    replace h := mpR h hx1
    refine .sq ?_
    refine be h fun x4 hx4 h => ?_
    refine .rg (u (mv (.t rfl)) <| cnl 24 cf35 (slices_Grow_c hx4) (.c (.r rfl) <| .c (.t rfl) <| .n) rfl <| u (asg (.t rfl)) <| .nil _) rfl ?_
    refine .sq ?_
    refine .sq ?_
    refine .rg (u (mv (.t rfl)) <| u (lnm sf71 (.t rfl)) <| u (mv (.i rfl)) <| .nil _) rfl ?_
    refine .bl ?_
    unfold slices_Concat_l3 at h
    refine .ks (fun i => bif Nat.beq i 6 then 24 else i) (.lo (fun (s : List Int × Int) => ⟨[(6, .own 6), (25, .ro (.list 1 (List.map (el 1 e8) slices))), (26, .ro (.int .i64 (slices.length : Int))), (27, .ro (.int .i64 s.2))], [(6, some (.arr 5 1 (List.map e8 s.1)))]⟩) h ?_) (.c rfl (.c rfl (.c rfl (.c rfl .n)))) (.c rfl .n) rfl
    rintro ⟨v5, v6⟩ u3 h ih3 hx3
    replace h : slices_Concat_s3 z slices v5 v6 = _ := h
    unfold slices_Concat_s3 at h
    refine .sq ?_
    refine .rg (u (bc (.t rfl) (.t rfl) rfl rfl) <| .nil _) rfl ?_
    refine .sq ?_
    refine .bq h (.t rfl) (fun h => ?_) (fun h => ?_)
    · refine .skp ?_
      refine .sq ?_
      refine .bl ?_
      refine .sq ?_
      refine be h fun x7 hx7 h => ?_
      refine .rg (u (ia sf71 (.t rfl) (.t rfl) (ix_map (el 1 e8) hx7)) <| u (lr tf24 (.t rfl) rfl) <| u (asg (.t rfl)) <| .nil _) rfl ?_
      refine be h fun x8 hx8 h => ?_
      refine .rg (u (mv (.t rfl)) <| u (mv (.t rfl)) <| ap 33 pf24 (.t rfl) rfl (.t rfl) hx8 rfl <| u (asg (.t rfl)) <| .nil _) rfl ?_
      refine .ib ?_
      refine .rg (u (bi (.t rfl) (.i rfl) rfl) <| u (mv (.t rfl)) <| .nil _) rfl ?_
      exact .ks (fun i => bif Nat.beq i 6 then 33 else i) (.il (ih3 (x8, (ar .add .i64 v6 1)) (nxi h))) (.c rfl (.c rfl (.c rfl (.c rfl .n)))) (.c rfl .n) rfl
    · refine .xt rfl ?_
      replace h := mpR h hx3
      refine .sq ?_
      refine .rg (u (mv (.t rfl)) <| u (asg (.t rfl)) <| .nil _) rfl ?_
      obtain rfl := Option.some.inj h
      refine .ks (l := [(2, .own 0)]) (o := [(0, some (.arr 5 1 (List.map e8 v5)))]) (fun i => bif Nat.beq i 0 then 6 else i) ?_ (.c rfl .n) (.c rfl .n) rfl
      exact .rt Try.func29 (.t rfl <| .n) (.c rfl .n) rfl rfl

theorem slices_Concat_r {z : Option Nat} {slices : List (List Int)} {r : List Int} (h : slices_Concat z slices = some r) :
    AC Try.prog 29 [.ro (.list 1 (List.map (el 1 e8) slices))] (.ro (.list 1 (List.map e8 r))) [] := AC.fz (slices_Concat_c h) rfl

theorem pad_Fill_c {z : Option Nat} {b : List Int} {r : List Int} (h : pad_Fill z b = some r) :
    AC Try.prog 21 [.ro (.list 1 (List.map e8 b))] (.own 0) [(0, .arr 5 1 (List.map e8 r))] := by
  refine AC.of Try.func21 rfl rfl fun w M0 hM => ?_
  unfold pad_Fill at h
  refine .sq ?_
  refine .rg (anm e8 2 5 1 rfl rfl <| .nil _) rfl ?_
  refine .sq ?_
  refine be h fun x1 hx1 h => ?_
  refine be h fun x2 hx2 h => ?_
  refine .rg (u (mv (.t rfl)) <| u (mv (.t rfl)) <| u (lnm sf24 (.t rfl)) <| u (di (.t rfl) (.i rfl) rfl (by decide)) <| u (bi (.i rfl) (.t rfl) rfl) <| u (di (.t rfl) (.i rfl) rfl (by decide)) <| cl [] cf30 (pad_zeros_r hx1) (.c (.t rfl) <| .n) (.inl rfl) <| nu (bsn (F := (el 1 e8)) (l := [b, x1]) pf71 (.c (.t rfl) rfl <| .c (.t rfl) rfl <| .n) rfl (fun _ _ => rfl) rfl) <| cnf 12000 cf29 (slices_Concat_c hx2) (.c (.t rfl) <| .n) rfl rfl rfl <| u (asg (.t rfl)) <| .nil _) rfl ?_
  obtain rfl := Option.some.inj h
  refine .ks (l := [(2, .own 0)]) (o := [(0, some (.arr 5 1 (List.map e8 x2)))]) (fun i => bif Nat.beq i 0 then 12000 else i) ?_ (.c rfl .n) (.c rfl .n) rfl
  exact .rt Try.func21 (.t rfl <| .n) (.c rfl .n) rfl rfl

theorem pad_Fill_r {z : Option Nat} {b : List Int} {r : List Int} (h : pad_Fill z b = some r) :
    AC Try.prog 21 [.ro (.list 1 (List.map e8 b))] (.ro (.list 1 (List.map e8 r))) [] := AC.fz (pad_Fill_c h) rfl

theorem elem_Write_c {z : Option Nat} {l : List Elem} {r : Int × List Int × Int} (h : elem_Write z l = some r) :
    AC Try.prog 8 [.ro (.list 2 (List.map cells_Elem l))] (.tup [.ro (.int .u16 r.1), .own 0, .ro (.int .i64 r.2.2)]) [(0, .arr 5 1 (List.map e8 r.2.1))] := by
  refine AC.of Try.func8 rfl rfl fun w M0 hM => ?_
  unfold elem_Write at h
  refine .sq ?_
  refine .rg (u (asg (.i rfl)) <| anm e8 3 5 1 rfl rfl <| u (asg (.i rfl)) <| .nil _) rfl ?_
  refine .sq ?_
  refine be h fun x1 hx1 h => ?_
  refine .rg (u (mv (.t rfl)) <| cl [] cf18 (elem_Profile_c hx1) (.c (.t rfl) <| .n) (.inl rfl) <| u (asg (.t rfl)) <| .nil _) rfl ?_
  refine .sq ?_
  refine .sq ?_
  refine .rg (u (mv (.t rfl)) <| u (bc (.t rfl) (.i rfl) rfl rfl) <| .nil _) rfl ?_
  refine .bq h (.t rfl) (fun h => ?_) (fun h => ?_)
  · refine .sq ?_
    refine .rg (u (asg (.i rfl)) <| anm e8 100003 5 1 rfl rfl <| u (asg (.i rfl)) <| .nil _) rfl ?_
    obtain rfl := Option.some.inj h
    refine .ks (l := [(2, .ro (.int .u16 0)), (3, .own 0), (4, .ro (.int .i64 1))]) (o := [(0, some (.arr 5 1 (List.map e8 [])))]) (fun i => bif Nat.beq i 0 then 100003 else i) ?_ (.c rfl (.c rfl (.c rfl .n))) (.c rfl .n) rfl
    exact .rt Try.func8 (.t rfl <| .t rfl <| .t rfl <| .n) (.c rfl .n) rfl rfl
  · refine .skp ?_
    refine .sq ?_
    refine .rg (anm e8 6 5 1 rfl rfl <| .nil _) rfl ?_
    refine .sq ?_
    refine .sq ?_
    refine .rg (u (mv (.t rfl)) <| u (lnm sf22 (.t rfl)) <| u (mv (.i rfl)) <| .nil _) rfl ?_
    refine .bl ?_
    unfold elem_Write_l1 at h
    refine .kq (.lo (fun (s : List Int × Int) => ⟨[(5, .ro (.int .u16 x1)), (6, .own 6), (13, .ro (.list 2 (List.map cells_Elem l))), (14, .ro (.int .i64 (l.length : Int))), (15, .ro (.int .i64 s.2))], [(6, some (.arr 5 1 (List.map e8 s.1)))]⟩) h ?_) (.c rfl (.c rfl (.c rfl (.c rfl (.c rfl .n))))) (.c rfl .n)
    rintro ⟨v2, v3⟩ u1 h ih1 hx1
    replace h : elem_Write_s1 z l x1 v2 v3 = _ := h
    unfold elem_Write_s1 at h
    refine .sq ?_
    refine .rg (u (bc (.t rfl) (.t rfl) rfl rfl) <| .nil _) rfl ?_
    refine .sq ?_
    refine .bq h (.t rfl) (fun h => ?_) (fun h => ?_)
    · refine .skp ?_
      refine .sq ?_
      refine .bl ?_
      refine .sq ?_
      refine be h fun x4 hx4 h => ?_
      refine .rg (u (ia sf22 (.t rfl) (.t rfl) (ix_map cells_Elem hx4)) <| u (lr tf49 (.t rfl) rfl) <| al 8 zf49 rfl <| st tf49 (.t rfl) rfl (.t rfl) rfl rfl rfl <| .nil _) rfl ?_
      refine .sq ?_
      refine .sq ?_
      refine .rg (u (mv (.t rfl)) <| u (bc (.t rfl) (.i rfl) rfl rfl) <| .nil _) rfl ?_
      refine .jq (t := some u1) (fun (a : List Int) => ⟨[(5, .ro (.int .u16 x1)), (6, .own 6), (8, .ptr 8 0), (13, .ro (.list 2 (List.map cells_Elem l))), (14, .ro (.int .i64 (l.length : Int))), (15, .ro (.int .i64 v3))], [(6, some (.arr 5 1 (List.map e8 a))), (8, some (.box [.ro (.int .i64 x4.id_), .ro (.list 1 (List.map e8 x4.data))]))]⟩) (fun (a : List Int) => elem_Write_j2 z v3 x4 a) ?_ (fun J2 => ?_)
      · intro v5 h
        replace h : elem_Write_j2 z v3 x4 v5 = _ := h
        unfold elem_Write_j2 at h
        refine be h fun x6 hx6 h => ?_
        refine .rg (u (mv (.t rfl)) <| u (fa ff49_1 (.t rfl)) <| u (ld tf24 (.t rfl) rfl rfl) <| ap 46 pf24 (.t rfl) rfl (.t rfl) hx6 rfl <| u (asg (.t rfl)) <| .nil _) rfl ?_
        refine .ib ?_
        refine .rg (u (bi (.t rfl) (.i rfl) rfl) <| u (mv (.t rfl)) <| .nil _) rfl ?_
        exact .ks (fun i => bif Nat.beq i 6 then 46 else i) (.il (ih1 (x6, (ar .add .i64 v3 1)) (nxi h))) (.c rfl (.c rfl (.c rfl (.c rfl (.c rfl .n))))) (.c rfl .n) rfl
      refine .bq h (.t rfl) (fun h => ?_) (fun h => ?_)
      · refine be h fun x7 hx7 h => ?_
        refine .rg (u (mv (.t rfl)) <| u (fa ff49_0 (.t rfl)) <| u (ld tf3 (.t rfl) rfl rfl) <| u (sh (.t rfl) (.i rfl) rfl (by decide)) <| u (fa ff49_1 (.t rfl)) <| u (ld tf24 (.t rfl) rfl rfl) <| u (lnm sf24 (.t rfl)) <| u (bi (.t rfl) (.i rfl) rfl) <| u (bi (.t rfl) (.t rfl) rfl) <| u (cv cv3_5 (.t rfl)) <| bs (F := e8) (l := [(IntKind.u8.wrap (ar .or .i64 (sf .shl .i64 x4.id_ 4) (ar .sub .i64 (x4.data.length : Int) 1)))]) 31 pf24 (.c (.t rfl) rfl <| .n) rfl (fun _ _ => rfl) rfl rfl <| apo 32 pf24 (.t rfl) rfl (.t rfl) rfl hx7 rfl <| u (asg (.t rfl)) <| .nil _) rfl ?_
        exact .ks (fun i => bif Nat.beq i 6 then 32 else i) (J2 x7 h) (.c rfl (.c rfl (.c rfl (.c rfl (.c rfl (.c rfl .n)))))) (.c rfl (.c rfl .n)) rfl
      · refine be h fun x8 hx8 h => ?_
        refine .rg (u (mv (.t rfl)) <| u (fa ff49_0 (.t rfl)) <| u (ld tf3 (.t rfl) rfl rfl) <| u (cv cv3_5 (.t rfl)) <| u (fa ff49_1 (.t rfl)) <| u (ld tf24 (.t rfl) rfl rfl) <| u (lnm sf24 (.t rfl)) <| u (cv cv3_5 (.t rfl)) <| bs (F := e8) (l := [(IntKind.u8.wrap x4.id_), (IntKind.u8.wrap (x4.data.length : Int))]) 41 pf24 (.c (.t rfl) rfl <| .c (.t rfl) rfl <| .n) rfl (fun _ _ => rfl) rfl rfl <| apo 42 pf24 (.t rfl) rfl (.t rfl) rfl hx8 rfl <| u (asg (.t rfl)) <| .nil _) rfl ?_
        exact .ks (fun i => bif Nat.beq i 6 then 42 else i) (J2 x8 h) (.c rfl (.c rfl (.c rfl (.c rfl (.c rfl (.c rfl .n)))))) (.c rfl (.c rfl .n)) rfl
    · refine .xt rfl ?_
      replace h := mpR h hx1
      refine .sq ?_
      refine .fz 6 rfl ?_
      refine be h fun x9 hx9 h => ?_
      refine .rg (u (mv (.t rfl)) <| u (mv (.t rfl)) <| cnf 51000 cf21 (pad_Fill_c hx9) (.c (.t rfl) <| .n) rfl rfl rfl <| u (asg (.t rfl)) <| u (asg (.t rfl)) <| u (asg (.i rfl)) <| .nil _) rfl ?_
      obtain rfl := Option.some.inj h
      refine .ks (l := [(2, .ro (.int .u16 x1)), (3, .own 0), (4, .ro (.int .i64 0))]) (o := [(0, some (.arr 5 1 (List.map e8 x9)))]) (fun i => bif Nat.beq i 0 then 51000 else i) ?_ (.c rfl (.c rfl (.c rfl .n))) (.c rfl .n) rfl
      exact .rt Try.func8 (.t rfl <| .t rfl <| .t rfl <| .n) (.c rfl .n) rfl rfl

theorem elem_Write_r {z : Option Nat} {l : List Elem} {r : Int × List Int × Int} (h : elem_Write z l = some r) :
    AC Try.prog 8 [.ro (.list 2 (List.map cells_Elem l))] (.ro (.tup [.int .u16 r.1, .list 1 (List.map e8 r.2.1), .int .i64 r.2.2])) [] := AC.fz (elem_Write_c h) rfl

theorem elem_walk_c (profile : Int) :
    AC Try.prog 24 [.ro (.int .u16 profile)] (.ro (enc_I_elem_walker (elem_walk profile))) [] := by
  obtain ⟨r, h⟩ : ∃ r, elem_walk profile = r := ⟨_, rfl⟩
  rw [h]
  refine AC.of Try.func24 rfl rfl fun w M0 hM => ?_
  unfold elem_walk at h
  refine .sq ?_
  refine .rg (u (asg (.r rfl)) <| .nil _) rfl ?_
  refine .sq ?_
  refine .bl ?_
  refine .sq ?_
  refine .rg (u (mv (.t rfl)) <| u (bc (.t rfl) (.i rfl) rfl rfl) <| u (asg (.t rfl)) <| .nil _) rfl ?_
  refine .bq h (.t rfl) (fun h => ?_) (fun h => ?_)
  · refine .sq ?_
    refine .rg (u (bd bf61 zf61 (.n) rfl) <| u (mki pc61 (.t rfl)) <| u (asg (.t rfl)) <| .nil _) rfl ?_
    subst h
    exact .rt Try.func24 (.t rfl <| .n) .n rfl rfl
  · refine .sq ?_
    refine .rg (u (mv (.t rfl)) <| u (bi (.t rfl) (.i rfl) rfl) <| u (bc (.t rfl) (.i rfl) rfl rfl) <| u (asg (.t rfl)) <| .nil _) rfl ?_
    refine .bq h (.t rfl) (fun h => ?_) (fun h => ?_)
    · refine .sq ?_
      refine .rg (u (bd bf66 zf66 (.n) rfl) <| u (mki pc66 (.t rfl)) <| u (asg (.t rfl)) <| .nil _) rfl ?_
      subst h
      exact .rt Try.func24 (.t rfl <| .n) .n rfl rfl
    · refine .skp ?_
      refine .ib ?_
      refine .sq ?_
      refine .rg (u (asg (.r rfl)) <| .nil _) rfl ?_
      subst h
      exact .rt Try.func24 (.t rfl <| .n) .n rfl rfl

theorem elem_low_next_c {p0 : elem_low} {b : List Int} {at_ : Int} {r : Spot × Bool} (h : elem_low_next p0 b at_ = some r) :
    AC Try.prog 63 [.ro (enc_elem_low p0), .ro (.list 1 (List.map e8 b)), .ro (.int .i64 at_)] (.ro (.tup [enc_Spot r.1, .bool r.2])) [] := by
  refine AC.of Try.func63 rfl rfl fun w M0 hM => ?_
  unfold elem_low_next at h
  refine .sq ?_
  refine .rg (bx 3 (.t rfl) rfl rfl <| al 6 zf43 rfl <| u (asg .b) <| .nil _) rfl ?_
  refine .sq ?_
  refine be h fun x1 hx1 h => ?_
  refine be h fun x2 hx2 h => ?_
  refine .rd mixed (u (mv (.t rfl)) <| u (mv (.t rfl)) <| u (ia sf24 (.t rfl) (.t rfl) (ix_map e8 hx1)) <| u (lr tf5 (.t rfl) rfl) <| u (sh (.t rfl) (.i rfl) rfl (by decide)) <| u (cv cv5_3 (.t rfl)) <| u (mv (.t rfl)) <| u (bi (.t rfl) (.i rfl) rfl) <| u (mv (.t rfl)) <| u (mv (.t rfl)) <| u (ia sf24 (.t rfl) (.t rfl) (ix_map e8 hx2)) <| u (lr tf5 (.t rfl) rfl) <| u (bi (.t rfl) (.i rfl) rfl) <| u (cv cv5_3 (.t rfl)) <| u (bi (.t rfl) (.i rfl) rfl) <| u (bd bf43 zf43 (.c rfl (.t rfl) rfl rfl rfl <| .c rfl (.t rfl) rfl rfl rfl <| .c rfl (.t rfl) rfl rfl rfl <| .n) rfl) <| al 8 zf43 rfl <| st tf43 (.t rfl) rfl (.t rfl) rfl rfl rfl <| .nil _) (by kernel_rfl) rfl ?_
  refine .sq ?_
  refine .rd mixed (u (ld tf43 (.t rfl) rfl rfl) <| u (fa ff43_0 (.t rfl)) <| u (ld tf3 (.t rfl) rfl rfl) <| u (bc (.t rfl) (.i rfl) rfl rfl) <| u (mv (.t rfl)) <| gd rfl rfl (fun hB => fa ff43_0 (.t rfl)) <| gd rfl rfl (fun hB => ld tf3 (.m rfl hB) rfl rfl) <| gd rfl rfl (fun hB => bc (.m rfl hB) (.i rfl) rfl rfl) <| u (pka (.t rfl) (.t rfl)) <| st tf43 (.t rfl) rfl (.t rfl) rfl rfl rfl <| u (asg (.t rfl)) <| .nil _) (by kernel_rfl) rfl ?_
  obtain rfl := Option.some.inj h
  exact .rt Try.func63 (.c tf43 rfl rfl rfl <| .t rfl <| .n) .n rfl rfl

theorem elem_high_next_c {p0 : elem_high} {b : List Int} {at_ : Int} {r : Spot × Bool} (h : elem_high_next p0 b at_ = some r) :
    AC Try.prog 64 [.ro (enc_elem_high p0), .ro (.list 1 (List.map e8 b)), .ro (.int .i64 at_)] (.ro (.tup [enc_Spot r.1, .bool r.2])) [] := by
  refine AC.of Try.func64 rfl rfl fun w M0 hM => ?_
  unfold elem_high_next at h
  refine .sq ?_
  refine .rg (bx 3 (.t rfl) rfl rfl <| al 6 zf43 rfl <| u (asg .b) <| .nil _) rfl ?_
  refine .sq ?_
  refine be h fun x1 hx1 h => ?_
  refine .rg (u (mv (.t rfl)) <| u (mv (.t rfl)) <| u (ia sf24 (.t rfl) (.t rfl) (ix_map e8 hx1)) <| u (lr tf5 (.t rfl) rfl) <| u (cv cv5_3 (.t rfl)) <| u (mv (.t rfl)) <| u (bi (.t rfl) (.i rfl) rfl) <| u (bd bf43 zf43 (.c rfl (.t rfl) rfl rfl rfl <| .c rfl (.t rfl) rfl rfl rfl <| .c rfl (.i rfl) rfl rfl rfl <| .n) rfl) <| al 8 zf43 rfl <| st tf43 (.t rfl) rfl (.t rfl) rfl rfl rfl <| .nil _) rfl ?_
  refine .sq ?_
  refine .sq ?_
  refine .rg (u (mv (.t rfl)) <| u (bi (.t rfl) (.i rfl) rfl) <| u (mv (.t rfl)) <| u (lnm sf24 (.t rfl)) <| u (bc (.t rfl) (.t rfl) rfl rfl) <| .nil _) rfl ?_
  refine .jq (t := some r) (fun (a : Spot) => ⟨[(6, .ptr 6 0), (8, .ptr 8 0)], [(6, some (.box [.ro (.int .i64 0), .ro (.int .i64 0), .ro (.int .i64 0)])), (8, some (.box [.ro (.int .i64 a.id_), .ro (.int .i64 a.at_), .ro (.int .i64 a.size)]))]⟩) (fun (a : Spot) => elem_high_next_j1 a) ?_ (fun J1 => ?_)
  · intro v2 h
    replace h : elem_high_next_j1 v2 = _ := h
    unfold elem_high_next_j1 at h
    refine .sq ?_
    refine .rg (u (ld tf43 (.t rfl) rfl rfl) <| st tf43 (.t rfl) rfl (.t rfl) rfl rfl rfl <| u (asg .b) <| .nil _) rfl ?_
    obtain rfl := Option.some.inj h
    exact .rt Try.func64 (.c tf43 rfl rfl rfl <| .t rfl <| .n) .n rfl rfl
  refine .bq h (.t rfl) (fun h => ?_) (fun h => ?_)
  · refine be h fun x3 hx3 h => ?_
    refine .rg (u (mv (.t rfl)) <| u (mv (.t rfl)) <| u (bi (.t rfl) (.i rfl) rfl) <| u (ia sf24 (.t rfl) (.t rfl) (ix_map e8 hx3)) <| u (lr tf5 (.t rfl) rfl) <| u (cv cv5_3 (.t rfl)) <| u (fa ff43_2 (.t rfl)) <| st tf3 (.t rfl) rfl (.t rfl) rfl rfl rfl <| .nil _) rfl ?_
    exact .kq (J1 (Spot.mk (IntKind.i64.wrap x1) (ar .add .i64 at_ 2) (IntKind.i64.wrap x3)) h) (.c rfl (.c rfl .n)) (.c rfl (.c rfl .n))
  · refine .skp ?_
    exact .kq (J1 (Spot.mk (IntKind.i64.wrap x1) (ar .add .i64 at_ 2) 256) h) (.c rfl (.c rfl .n)) (.c rfl (.c rfl .n))

theorem elem_Spots_1_c (x : Spot) (cap0 : Spot) :
    AC Try.prog 26 [.ro (enc_Spot x), .rptr [.int .i64 cap0.id_, .int .i64 cap0.at_, .int .i64 cap0.size]] (.ro (.bool (elem_Spots_1 x cap0))) [] := by
  obtain ⟨r, h⟩ : ∃ r, elem_Spots_1 x cap0 = r := ⟨_, rfl⟩
  rw [h]
  refine AC.of Try.func26 rfl rfl fun w M0 hM => ?_
  unfold elem_Spots_1 at h
  refine .sq ?_
  refine .rg (bx 2 (.t rfl) rfl rfl <| u (asg .b) <| .nil _) rfl ?_
  refine .sq ?_
  refine .rg (u (fa ff43_0 (.t rfl)) <| u (ld tf3 (.t rfl) rfl rfl) <| u (fr ff43_0 (.t rfl) rfl) <| u (lr tf3 (.t rfl) rfl) <| u (bc (.t rfl) (.t rfl) rfl rfl) <| u (asg (.t rfl)) <| .nil _) rfl ?_
  subst h
  exact .rt Try.func26 (.t rfl <| .n) .n rfl rfl

theorem slices_IndexFunc_Spot_c {z : Option Nat} {p_s : List Spot} {f : (Spot → Option Bool)} {g_f : FuncId} {c_f : List V} (hF_f : CF Try.prog g_f) (h_f : ∀ (a0 : Spot) (q : Bool), f a0 = some q → AC Try.prog g_f ([.ro (enc_Spot a0)] ++ c_f) (.ro (.bool q)) []) {r : Int} (h : slices_IndexFunc_Spot z p_s f = some r) :
    AC Try.prog 31 [.ro (.list 3 (List.map cells_Spot p_s)), .fn (.func g_f) [] c_f] (.ro (.int .i64 r)) [] := by
  refine AC.of Try.func31 rfl rfl fun w M0 hM => ?_
  unfold slices_IndexFunc_Spot at h
  refine .sq ?_
  refine .rg (u (asg (.i rfl)) <| .nil _) rfl ?_
  refine .sq ?_
  refine .sq ?_
  refine .rg (u (mv (.t rfl)) <| u (lnm sf36 (.t rfl)) <| u (mv (.i rfl)) <| .nil _) rfl ?_
  refine .bl ?_
  unfold slices_IndexFunc_Spot_l1 at h
  refine .kq (.lo (fun (s : Int) => ⟨[(0, .ro (.list 3 (List.map cells_Spot p_s))), (1, .fn (.func g_f) [] c_f), (7, .ro (.int .i64 (p_s.length : Int))), (8, .ro (.int .i64 s))], []⟩) h ?_) (.c rfl (.c rfl (.c rfl (.c rfl .n)))) .n
  intro v1 u1 h ih1 hx1
  replace h : slices_IndexFunc_Spot_s1 z p_s f v1 = _ := h
  unfold slices_IndexFunc_Spot_s1 at h
  refine .sq ?_
  refine .rg (u (bc (.t rfl) (.t rfl) rfl rfl) <| .nil _) rfl ?_
  refine .sq ?_
  refine .bq h (.t rfl) (fun h => ?_) (fun h => ?_)
  · refine .skp ?_
    refine .sq ?_
    refine .bl ?_
    refine .sq ?_
    refine .rg (u (mv (.t rfl)) <| u (asg (.t rfl)) <| .nil _) rfl ?_
    refine .sq ?_
    refine be h fun x2 hx2 h => ?_
    refine be h fun x3 hx3 h => ?_
    refine .rg (u (mv (.t rfl)) <| u (mv (.t rfl)) <| u (mv (.t rfl)) <| u (ia sf36 (.t rfl) (.t rfl) (ix_map cells_Spot hx2)) <| u (lr tf43 (.t rfl) rfl) <| clv [] hF_f (.t rfl) (h_f _ _ hx3) (.c (.t rfl) <| .n) (.inl rfl) <| .nil _) rfl ?_
    refine .bq h (.t rfl) (fun h => ?_) (fun h => ?_)
    · refine .sq ?_
      refine .rg (u (mv (.t rfl)) <| u (asg (.t rfl)) <| .nil _) rfl ?_
      replace h := mpR h hx1
      obtain rfl := Option.some.inj h
      exact .rt Try.func31 (.t rfl <| .n) .n rfl rfl
    · refine .skp ?_
      refine .ib ?_
      refine .rg (u (bi (.t rfl) (.i rfl) rfl) <| u (mv (.t rfl)) <| .nil _) rfl ?_
      exact .kq (.il (ih1 (ar .add .i64 v1 1) (nxi h))) (.c rfl (.c rfl (.c rfl (.c rfl .n)))) .n
  · refine .xt rfl ?_
    replace h := mpR h hx1
    refine .sq ?_
    refine .rg (u (asg (.i rfl)) <| .nil _) rfl ?_
    obtain rfl := Option.some.inj h
    exact .rt Try.func31 (.t rfl <| .n) .n rfl rfl

theorem slices_ContainsFunc_Spot_c {z : Option Nat} {p_s : List Spot} {f : (Spot → Option Bool)} {g_f : FuncId} {c_f : List V} (hF_f : CF Try.prog g_f) (h_f : ∀ (a0 : Spot) (q : Bool), f a0 = some q → AC Try.prog g_f ([.ro (enc_Spot a0)] ++ c_f) (.ro (.bool q)) []) {r : Bool} (h : slices_ContainsFunc_Spot z p_s f = some r) :
    AC Try.prog 25 [.ro (.list 3 (List.map cells_Spot p_s)), .fn (.func g_f) [] c_f] (.ro (.bool r)) [] := by
  refine AC.of Try.func25 rfl rfl fun w M0 hM => ?_
  unfold slices_ContainsFunc_Spot at h
  refine .sq ?_
  refine .rg (u (asg .b) <| .nil _) rfl ?_
  refine .sq ?_
  refine be h fun x1 hx1 h => ?_
  refine .rg (u (mv (.t rfl)) <| u (mv (.t rfl)) <| cl [] cf31 (slices_IndexFunc_Spot_c hF_f h_f hx1) (.c (.t rfl) <| .c (.t rfl) <| .n) (.inl rfl) <| u (bc (.t rfl) (.i rfl) rfl rfl) <| u (asg (.t rfl)) <| .nil _) rfl ?_
  obtain rfl := Option.some.inj h
  exact .rt Try.func25 (.t rfl <| .n) .n rfl rfl

theorem I_elem_walker_next_c {w : I_elem_walker} {a0 : List Int} {a1 : Int} {r : Spot × Bool} (h : I_elem_walker_next w a0 a1 = some r) : MC Try.prog "crossbar/elem.next" (enc_I_elem_walker w) [.ro (.list 1 (List.map e8 a0)), .ro (.int .i64 a1)] (.tup [enc_Spot r.1, .bool r.2]) := by
  cases w
  · cases h
  · exact ⟨_, _, _, rfl, cm61_63, elem_low_next_c h⟩
  · exact ⟨_, _, _, rfl, cm66_64, elem_high_next_c h⟩

theorem elem_Spots_c {z : Option Nat} {profile : Int} {data : List Int} {r : List Spot × Int} (h : elem_Spots z profile data = some r) :
    AC Try.prog 14 [.ro (.int .u16 profile), .ro (.list 1 (List.map e8 data))] (.tup [.own 0, .ro (.int .i64 r.2)]) [(0, .arr 43 3 (List.map cells_Spot r.1))] := by
  refine AC.of Try.func14 rfl rfl fun w M0 hM => ?_
  unfold elem_Spots at h
  refine .sq ?_
  refine .rg (anm cells_Spot 4 43 3 rfl rfl <| u (asg (.i rfl)) <| .nil _) rfl ?_
  refine .sq ?_
  refine .rg (u (mv (.t rfl)) <| cl [] cf24 (elem_walk_c profile) (.c (.t rfl) <| .n) (.inl rfl) <| u (asg (.t rfl)) <| .nil _) rfl ?_
  refine .sq ?_
  refine .sq ?_
  refine .rg (u (mv (.t rfl)) <| u (ifn if53 (.t rfl) (nil_I_elem_walker _) rfl rfl) <| .nil _) rfl ?_
  refine .bq h (.t rfl) (fun h => ?_) (fun h => ?_)
  · refine .sq ?_
    refine .rg (anm cells_Spot 100004 43 3 rfl rfl <| u (asg (.i rfl)) <| .nil _) rfl ?_
    obtain rfl := Option.some.inj h
    refine .ks (l := [(4, .own 0), (5, .ro (.int .i64 6))]) (o := [(0, some (.arr 43 3 (List.map cells_Spot [])))]) (fun i => bif Nat.beq i 0 then 100004 else i) ?_ (.c rfl (.c rfl .n)) (.c rfl .n) rfl
    exact .rt Try.func14 (.t rfl <| .t rfl <| .n) (.c rfl .n) rfl rfl
  · refine .skp ?_
    refine .sq ?_
    refine .rg (anm cells_Spot 7 43 3 rfl rfl <| .nil _) rfl ?_
    refine .sq ?_
    refine .sq ?_
    refine .rg (u (asg (.i rfl)) <| .nil _) rfl ?_
    refine .jq (t := some r) (fun (a : List Spot) => ⟨[(7, .own 7)], [(7, some (.arr 43 3 (List.map cells_Spot a)))]⟩) (fun (a : List Spot) => elem_Spots_j1 z a) ?_ (fun J1 => ?_)
    · intro v1 h
      replace h : elem_Spots_j1 z v1 = _ := h
      unfold elem_Spots_j1 at h
      refine .sq ?_
      refine .rg (u (mv (.t rfl)) <| u (asg (.t rfl)) <| u (asg (.i rfl)) <| .nil _) rfl ?_
      obtain rfl := Option.some.inj h
      refine .ks (l := [(4, .own 0), (5, .ro (.int .i64 0))]) (o := [(0, some (.arr 43 3 (List.map cells_Spot v1)))]) (fun i => bif Nat.beq i 0 then 7 else i) ?_ (.c rfl (.c rfl .n)) (.c rfl .n) rfl
      exact .rt Try.func14 (.t rfl <| .t rfl <| .n) (.c rfl .n) rfl rfl
    refine .bl ?_
    unfold elem_Spots_l2 at h
    refine .kq (.lo (fun (s : List Spot × Int) => ⟨[(1, .ro (.list 1 (List.map e8 data))), (6, .ro (enc_I_elem_walker (elem_walk profile))), (7, .own 7), (8, .ro (.int .i64 s.2))], [(7, some (.arr 43 3 (List.map cells_Spot s.1)))]⟩) h ?_) (.c rfl (.c rfl (.c rfl (.c rfl .n)))) (.c rfl .n)
    rintro ⟨v2, v3⟩ u2 h ih2 hx2
    replace h : elem_Spots_s2 z profile data v2 v3 = _ := h
    unfold elem_Spots_s2 at h
    refine .sq ?_
    refine .sq ?_
    refine .rg (u (mv (.t rfl)) <| u (mv (.t rfl)) <| u (lnm sf24 (.t rfl)) <| u (bc (.t rfl) (.t rfl) rfl rfl) <| .nil _) rfl ?_
    refine .bq h (.t rfl) (fun h => ?_) (fun h => ?_)
    · refine .skp ?_
      refine .bl ?_
      refine .sq ?_
      refine .sq ?_
      refine be h fun x4 hx4 h => ?_
      refine .rg (u (mv (.t rfl)) <| u (mv (.t rfl)) <| u (ia sf24 (.t rfl) (.t rfl) (ix_map e8 hx4)) <| u (lr tf5 (.t rfl) rfl) <| u (bc (.t rfl) (.i rfl) rfl rfl) <| .nil _) rfl ?_
      refine .bq h (.t rfl) (fun h => ?_) (fun h => ?_)
      · refine .sq ?_
        refine .rg (u (mv (.t rfl)) <| u (bi (.t rfl) (.i rfl) rfl) <| u (asg (.t rfl)) <| .nil _) rfl ?_
        refine .xt rfl ?_
        exact .kq (.il (ih2 (v2, (ar .add .i64 v3 1)) (nxi h))) (.c rfl (.c rfl (.c rfl (.c rfl .n)))) (.c rfl .n)
      · refine .skp ?_
        refine .sq ?_
        refine be h fun x5 hx5 h => ?_
        refine .rg (u (mv (.t rfl)) <| u (mv (.t rfl)) <| u (mv (.t rfl)) <| cms [] (.t rfl) (I_elem_walker_next_c hx5) (.c (.t rfl) <| .c (.t rfl) <| .n) (.inl rfl) <| u (mv (.t rfl)) <| u (ex (.t rfl) rfl rfl) <| u (ex (.t rfl) rfl rfl) <| al 9 zf43 rfl <| st tf43 (.t rfl) rfl (.t rfl) rfl rfl rfl <| u (asg (.t rfl)) <| .nil _) rfl ?_
        refine .sq ?_
        refine .sq ?_
        refine .rg (u (mv (.t rfl)) <| u (no (.t rfl)) <| .nil _) rfl ?_
        refine .bq h (.t rfl) (fun h => ?_) (fun h => ?_)
        · refine .xt rfl ?_
          replace h := mpR h hx2
          exact .kq (J1 v2 h) (.c rfl .n) (.c rfl .n)
        · refine .skp ?_
          refine .sq ?_
          refine .sq ?_
          refine .rg (u (fa ff43_1 (.t rfl)) <| u (ld tf3 (.t rfl) rfl rfl) <| u (mv (.t rfl)) <| u (lnm sf24 (.t rfl)) <| u (bc (.t rfl) (.t rfl) rfl rfl) <| u (mv (.t rfl)) <| gd rfl rfl (fun hB => fa ff43_2 (.t rfl)) <| gd rfl rfl (fun hB => ld tf3 (.m rfl hB) rfl rfl) <| gd rfl rfl (fun hB => mv (.t rfl)) <| gd rfl rfl (fun hB => lnm sf24 (.m rfl hB)) <| gd rfl rfl (fun hB => fa ff43_1 (.t rfl)) <| gd rfl rfl (fun hB => ld tf3 (.m rfl hB) rfl rfl) <| gd rfl rfl (fun hB => bi (.m rfl hB) (.m rfl hB) rfl) <| gd rfl rfl (fun hB => bc (.m rfl hB) (.m rfl hB) rfl rfl) <| u (pko (.t rfl) (.t rfl)) <| .nil _) rfl ?_
          refine .bq h (.t rfl) (fun h => ?_) (fun h => ?_)
          · refine .sq ?_
            refine .rg (anm cells_Spot 4 43 3 rfl rfl <| u (asg (.i rfl)) <| .nil _) rfl ?_
            replace h := mpR h hx2
            obtain rfl := Option.some.inj h
            refine .ks (l := [(4, .own 0), (5, .ro (.int .i64 4))]) (o := [(0, some (.arr 43 3 (List.map cells_Spot [])))]) (fun i => bif Nat.beq i 0 then 4 else i) ?_ (.c rfl (.c rfl .n)) (.c rfl .n) rfl
            exact .rt Try.func14 (.t rfl <| .t rfl <| .n) (.c rfl .n) rfl rfl
          · refine .skp ?_
            refine .sq ?_
            refine .sq ?_
            refine .fb 9 rfl rfl ?_
            refine be h fun x6 hx6 h => ?_
            refine .rg (u (mv (.t rfl)) <| u (mfn (.c (.t rfl) <| .n)) <| cl [] cf25 (slices_ContainsFunc_Spot_c cf26 (fun y0 q h => by obtain rfl := Option.some.inj h; exact elem_Spots_1_c y0 x5.1) hx6) (.b (.t rfl) rfl <| .c (.t rfl) <| .n) (.inr rfl) <| .nil _) rfl ?_
            refine .bq h (.t rfl) (fun h => ?_) (fun h => ?_)
            · refine .sq ?_
              refine .rg (anm cells_Spot 4 43 3 rfl rfl <| u (asg (.i rfl)) <| .nil _) rfl ?_
              replace h := mpR h hx2
              obtain rfl := Option.some.inj h
              refine .ks (l := [(4, .own 0), (5, .ro (.int .i64 6))]) (o := [(0, some (.arr 43 3 (List.map cells_Spot [])))]) (fun i => bif Nat.beq i 0 then 4 else i) ?_ (.c rfl (.c rfl .n)) (.c rfl .n) rfl
              exact .rt Try.func14 (.t rfl <| .t rfl <| .n) (.c rfl .n) rfl rfl
            · refine .skp ?_
              refine be h fun x7 hx7 h => ?_
              refine .rd mixed (u (mv (.t rfl)) <| u (lr tf43 (.t rfl) rfl) <| bs (F := cells_Spot) (l := [x5.1]) 55 pf36 (.c (.t rfl) rfl <| .n) rfl (fun _ _ => rfl) rfl rfl <| apo 56 pf36 (.t rfl) rfl (.t rfl) rfl hx7 rfl <| u (fr ff43_1 (.t rfl) rfl) <| u (lr tf3 (.t rfl) rfl) <| u (fr ff43_2 (.t rfl) rfl) <| u (lr tf3 (.t rfl) rfl) <| u (bi (.t rfl) (.t rfl) rfl) <| u (asg (.t rfl)) <| u (asg (.t rfl)) <| .nil _) (by kernel_rfl) rfl ?_
              refine .ib ?_
              exact .ks (fun i => bif Nat.beq i 7 then 56 else i) (.il (ih2 (x7, (ar .add .i64 x5.1.at_ x5.1.size)) (nxi h))) (.c rfl (.c rfl (.c rfl (.c rfl .n)))) (.c rfl .n) rfl
    · refine .xt rfl ?_
      replace h := mpR h hx2
      exact .kq (J1 v2 h) (.c rfl .n) (.c rfl .n)

theorem elem_Spots_r {z : Option Nat} {profile : Int} {data : List Int} {r : List Spot × Int} (h : elem_Spots z profile data = some r) :
    AC Try.prog 14 [.ro (.int .u16 profile), .ro (.list 1 (List.map e8 data))] (.ro (.tup [.list 3 (List.map cells_Spot r.1), .int .i64 r.2])) [] := AC.fz (elem_Spots_c h) rfl

theorem slices_Clone_c {l r : List Int} (h : slices_Clone l = some r) : AC Try.prog 23 [.ro (.list 1 (List.map e8 l))] (.own 0) [(0, .arr 5 1 (List.map e8 r))] := by
  unfold slices_Clone at h
  obtain rfl := app_nil h
  refine AC.of Try.func23 rfl rfl fun w M0 hM => ?_
  refine .sq ?_
  refine .rg (anm e8 0 5 1 rfl rfl <| .nil _) rfl ?_
  refine .sq ?_
  refine .sq ?_
  refine .nq rfl sf24 rfl rfl fun b hb => ?_
  refine .cd (.t rfl) (fun hh => ?_) (fun _ => ?_)
  · have hl := hb hh
    obtain rfl := List.map_eq_nil_iff.1 hl
    refine .sq ?_
    refine .rg (anm e8 10 5 1 rfl rfl <| .nil _) rfl ?_
    refine .ks (l := [(2, .own 0)]) (o := [(0, some (.arr 5 1 (List.map e8 [])))]) (fun i => bif Nat.beq i 0 then 10 else i) ?_ (.c rfl .n) (.c rfl .n) rfl
    exact .rt Try.func23 (.t rfl <| .n) (.c rfl .n) rfl rfl
  · refine .skp ?_
    refine .sq ?_
    refine .rg (bs (F := e8) (l := ([] : List Int)) 5 pf24 .n rfl (fun _ _ => rfl) rfl rfl <| u (mv (.t rfl)) <| ap 7 pf24 (.t rfl) rfl (.t rfl) h rfl <| u (asg (.t rfl)) <| .nil _) rfl ?_
    refine .ks (l := [(2, .own 0)]) (o := [(0, some (.arr 5 1 (List.map e8 l)))]) (fun i => bif Nat.beq i 0 then 7 else i) ?_ (.c rfl .n) (.c rfl .n) rfl
    exact .rt Try.func23 (.t rfl <| .n) (.c rfl .n) rfl rfl

theorem slices_Clone_r {l r : List Int} (h : slices_Clone l = some r) : AC Try.prog 23 [.ro (.list 1 (List.map e8 l))] (.ro (.list 1 (List.map e8 r))) [] := AC.fz (slices_Clone_c h) rfl

theorem elem_Read_c {z : Option Nat} {profile : Int} {data : List Int} {r : List Elem × Int} (h : elem_Read z profile data = some r) :
    AC Try.prog 12 [.ro (.int .u16 profile), .ro (.list 1 (List.map e8 data))] (.tup [.own 0, .ro (.int .i64 r.2)]) [(0, .arr 49 2 (List.map cells_Elem r.1))] := by
  refine AC.of Try.func12 rfl rfl fun w M0 hM => ?_
  unfold elem_Read at h
  refine .sq ?_
  refine .rg (anm cells_Elem 4 49 2 rfl rfl <| u (asg (.i rfl)) <| .nil _) rfl ?_
  refine .sq ?_
  refine be h fun x1 hx1 h => ?_
  refine .rg (u (mv (.t rfl)) <| u (mv (.t rfl)) <| cnf 15000 cf14 (elem_Spots_c hx1) (.c (.t rfl) <| .c (.t rfl) <| .n) rfl rfl rfl <| u (mv (.t rfl)) <| u (ex (.t rfl) rfl rfl) <| u (ex (.t rfl) rfl rfl) <| u (asg (.t rfl)) <| u (asg (.t rfl)) <| .nil _) rfl ?_
  refine .sq ?_
  refine .sq ?_
  refine .rg (u (mv (.t rfl)) <| u (bc (.t rfl) (.i rfl) rfl rfl) <| .nil _) rfl ?_
  refine .bq h (.t rfl) (fun h => ?_) (fun h => ?_)
  · refine .sq ?_
    refine .rg (u (mv (.t rfl)) <| anm cells_Elem 100004 49 2 rfl rfl <| u (asg (.t rfl)) <| .nil _) rfl ?_
    obtain rfl := Option.some.inj h
    refine .ks (l := [(4, .own 0), (5, .ro (.int .i64 x1.2))]) (o := [(0, some (.arr 49 2 (List.map cells_Elem [])))]) (fun i => bif Nat.beq i 0 then 100004 else i) ?_ (.c rfl (.c rfl .n)) (.c rfl .n) rfl
    exact .rt Try.func12 (.t rfl <| .t rfl <| .n) (.c rfl .n) rfl rfl
  · refine .skp ?_
    refine .sq ?_
    refine .rg (anm cells_Elem 8 49 2 rfl rfl <| .nil _) rfl ?_
    refine .sq ?_
    refine .sq ?_
    refine .rg (u (mv (.t rfl)) <| u (lom sf36 (.t rfl) rfl) <| u (mv (.i rfl)) <| .nil _) rfl ?_
    refine .bl ?_
    unfold elem_Read_l1 at h
    refine .kq (.lo (fun (s : List Elem × Int) => ⟨[(1, .ro (.list 1 (List.map e8 data))), (8, .own 8), (20, .own 15000), (21, .ro (.int .i64 (x1.1.length : Int))), (22, .ro (.int .i64 s.2))], [(8, some (.arr 49 2 (List.map cells_Elem s.1))), (15000, some (.arr 43 3 (List.map cells_Spot x1.1)))]⟩) h ?_) (.c rfl (.c rfl (.c rfl (.c rfl (.c rfl .n))))) (.c rfl (.c rfl .n))
    rintro ⟨v2, v3⟩ u1 h ih1 hx1
    replace h : elem_Read_s1 z data x1 v2 v3 = _ := h
    unfold elem_Read_s1 at h
    refine .sq ?_
    refine .rg (u (bc (.t rfl) (.t rfl) rfl rfl) <| .nil _) rfl ?_
    refine .sq ?_
    refine .bq h (.t rfl) (fun h => ?_) (fun h => ?_)
    · refine .skp ?_
      refine .sq ?_
      refine .bl ?_
      refine .sq ?_
      refine be h fun x4 hx4 h => ?_
      refine .rg (u (io sf36 (.t rfl) rfl (.t rfl) (ix_map cells_Spot hx4)) <| u (le tf43 (.t rfl) rfl (ix_lt (ix_map _ hx4)).2.2 rfl) <| al 10 zf43 rfl <| st tf43 (.t rfl) rfl (.t rfl) rfl rfl rfl <| .nil _) rfl ?_
      refine be h fun x5 hx5 h => ?_
      refine be h fun x6 hx6 h => ?_
      refine be h fun x7 hx7 h => ?_
      refine .rd mixed (u (mv (.t rfl)) <| u (fa ff43_0 (.t rfl)) <| u (ld tf3 (.t rfl) rfl rfl) <| u (mv (.t rfl)) <| u (fa ff43_1 (.t rfl)) <| u (ld tf3 (.t rfl) rfl rfl) <| u (fa ff43_1 (.t rfl)) <| u (ld tf3 (.t rfl) rfl rfl) <| u (fa ff43_2 (.t rfl)) <| u (ld tf3 (.t rfl) rfl rfl) <| u (bi (.t rfl) (.t rfl) rfl) <| u (sl sf24 (.t rfl) (.s (.t rfl)) (.s (.t rfl)) hx5) <| cl [] cf23 (slices_Clone_r hx6) (.c (.t rfl) <| .n) (.inl rfl) <| u (bd bf49 zf49 (.c rfl (.t rfl) rfl rfl rfl <| .c rfl (.t rfl) rfl rfl rfl <| .n) rfl) <| bs (F := cells_Elem) (l := [{ x4 with data := x6 }]) 40 pf22 (.c (.t rfl) rfl <| .n) rfl (fun _ _ => rfl) rfl rfl <| apo 41 pf22 (.t rfl) rfl (.t rfl) rfl hx7 rfl <| u (asg (.t rfl)) <| .nil _) (by kernel_rfl) rfl ?_
      refine .ib ?_
      refine .rg (u (bi (.t rfl) (.i rfl) rfl) <| u (mv (.t rfl)) <| .nil _) rfl ?_
      exact .ks (fun i => bif Nat.beq i 8 then 41 else i) (.il (ih1 (x7, (ar .add .i64 v3 1)) (nxi h))) (.c rfl (.c rfl (.c rfl (.c rfl (.c rfl .n))))) (.c rfl (.c rfl .n)) rfl
    · refine .xt rfl ?_
      replace h := mpR h hx1
      refine .sq ?_
      refine .rg (u (mv (.t rfl)) <| u (asg (.t rfl)) <| u (asg (.i rfl)) <| .nil _) rfl ?_
      obtain rfl := Option.some.inj h
      refine .ks (l := [(4, .own 0), (5, .ro (.int .i64 0))]) (o := [(0, some (.arr 49 2 (List.map cells_Elem v2)))]) (fun i => bif Nat.beq i 0 then 8 else i) ?_ (.c rfl (.c rfl .n)) (.c rfl .n) rfl
      exact .rt Try.func12 (.t rfl <| .t rfl <| .n) (.c rfl .n) rfl rfl

theorem elem_Read_r {z : Option Nat} {profile : Int} {data : List Int} {r : List Elem × Int} (h : elem_Read z profile data = some r) :
    AC Try.prog 12 [.ro (.int .u16 profile), .ro (.list 1 (List.map e8 data))] (.ro (.tup [.list 2 (List.map cells_Elem r.1), .int .i64 r.2])) [] := AC.fz (elem_Read_c h) rfl

theorem bytes_Equal_c (p_a : List Int) (b : List Int) :
    AC Try.prog 42 [.ro (.list 1 (List.map e8 p_a)), .ro (.list 1 (List.map e8 b))] (.ro (.bool (bytes_Equal p_a b))) [] := by
  obtain ⟨r, h⟩ : ∃ r, bytes_Equal p_a b = r := ⟨_, rfl⟩
  rw [h]
  refine AC.of Try.func42 rfl rfl fun w M0 hM => ?_
  unfold bytes_Equal at h
  refine .sq ?_
  refine .rg (u (asg .b) <| .nil _) rfl ?_
  refine .sq ?_
  refine .rg (u (mv (.t rfl)) <| u (bt bt24_9 (.t rfl)) <| u (mv (.t rfl)) <| u (bt bt24_9 (.t rfl)) <| u (sq (.t rfl) (.t rfl) rfl rfl) <| u (asg (.t rfl)) <| .nil _) rfl ?_
  subst h
  exact .rt Try.func42 (.t rfl <| .n) .n rfl rfl

theorem internal_bytealg_Cutover_c (n : Int) :
    AC Try.prog 44 [.ro (.int .i64 n)] (.ro (.int .i64 (internal_bytealg_Cutover n))) [] := by
  obtain ⟨r, h⟩ : ∃ r, internal_bytealg_Cutover n = r := ⟨_, rfl⟩
  rw [h]
  refine AC.of Try.func44 rfl rfl fun w M0 hM => ?_
  unfold internal_bytealg_Cutover at h
  refine .sq ?_
  refine .rg (u (asg (.i rfl)) <| .nil _) rfl ?_
  refine .sq ?_
  refine .rg (u (mv (.t rfl)) <| u (bi (.t rfl) (.i rfl) rfl) <| u (di (.t rfl) (.i rfl) rfl (by decide)) <| u (asg (.t rfl)) <| .nil _) rfl ?_
  subst h
  exact .rt Try.func44 (.t rfl <| .n) .n rfl rfl

theorem internal_bytealg_hashStr_c {z : Option Nat} {sep : List Int} {r : Int × Int} (h : internal_bytealg_hashStr z sep = some r) :
    AC Try.prog 47 [.ro (.list 1 (List.map e8 sep))] (.ro (.tup [.int .u32 r.1, .int .u32 r.2])) [] := by
  refine AC.of Try.func47 rfl rfl fun w M0 hM => ?_
  unfold internal_bytealg_hashStr at h
  refine .sq ?_
  refine .rg (u (asg (.i rfl)) <| u (asg (.i rfl)) <| .nil _) rfl ?_
  refine .sq ?_
  refine .rg (u (asg (.i rfl)) <| .nil _) rfl ?_
  refine .sq ?_
  refine .sq ?_
  refine .rg (u (asg (.i rfl)) <| .nil _) rfl ?_
  refine .bl ?_
  unfold internal_bytealg_hashStr_l1 at h
  refine .kq (.lo (fun (s : Int × Int) => ⟨[(0, .ro (.list 1 (List.map e8 sep))), (4, .ro (.int .u32 s.1)), (5, .ro (.int .i64 s.2))], []⟩) h ?_) (.c rfl (.c rfl (.c rfl .n))) .n
  rintro ⟨v1, v2⟩ u1 h ih1 hx1
  replace h : internal_bytealg_hashStr_s1 z sep v1 v2 = _ := h
  unfold internal_bytealg_hashStr_s1 at h
  refine .sq ?_
  refine .sq ?_
  refine .rg (u (mv (.t rfl)) <| u (mv (.t rfl)) <| u (lnm sf24 (.t rfl)) <| u (bc (.t rfl) (.t rfl) rfl rfl) <| .nil _) rfl ?_
  refine .bq h (.t rfl) (fun h => ?_) (fun h => ?_)
  · refine .skp ?_
    refine .sq ?_
    refine .bl ?_
    refine be h fun x3 hx3 h => ?_
    refine .rg (u (mv (.t rfl)) <| u (bi (.t rfl) (.i rfl) rfl) <| u (mv (.t rfl)) <| u (mv (.t rfl)) <| u (ia sf24 (.t rfl) (.t rfl) (ix_map e8 hx3)) <| u (lr tf5 (.t rfl) rfl) <| u (cv cv5_79 (.t rfl)) <| u (bi (.t rfl) (.t rfl) rfl) <| u (asg (.t rfl)) <| .nil _) rfl ?_
    refine .ib ?_
    refine .rg (u (mv (.t rfl)) <| u (bi (.t rfl) (.i rfl) rfl) <| u (asg (.t rfl)) <| .nil _) rfl ?_
    exact .kq (.il (ih1 ((ar .add .u32 (ar .mul .u32 v1 16777619) (IntKind.u32.wrap x3)), (ar .add .i64 v2 1)) (nxi h))) (.c rfl (.c rfl (.c rfl .n))) .n
  · refine .xt rfl ?_
    replace h := mpR h hx1
    refine .sq ?_
    refine .rg (u (asg (.i rfl)) <| u (asg (.i rfl)) <| .nil _) rfl ?_
    refine .sq ?_
    refine .sq ?_
    refine .rg (u (mv (.t rfl)) <| u (lnm sf24 (.t rfl)) <| u (asg (.t rfl)) <| .nil _) rfl ?_
    refine .bl ?_
    unfold internal_bytealg_hashStr_l2 at h
    refine .kq (.lo (fun (s : Int × Int × Int) => ⟨[(4, .ro (.int .u32 v1)), (6, .ro (.int .u32 s.1)), (7, .ro (.int .u32 s.2.1)), (8, .ro (.int .i64 s.2.2))], []⟩) h ?_) (.c rfl (.c rfl (.c rfl (.c rfl .n)))) .n
    rintro ⟨v4, v5, v6⟩ u2 h ih2 hx2
    replace h : internal_bytealg_hashStr_s2 z v1 v4 v5 v6 = _ := h
    unfold internal_bytealg_hashStr_s2 at h
    refine .sq ?_
    refine .sq ?_
    refine .rg (u (mv (.t rfl)) <| u (bc (.t rfl) (.i rfl) rfl rfl) <| .nil _) rfl ?_
    refine .bq h (.t rfl) (fun h => ?_) (fun h => ?_)
    · refine .skp ?_
      refine .sq ?_
      refine .bl ?_
      refine .sq ?_
      refine .sq ?_
      refine .rg (u (mv (.t rfl)) <| u (bi (.t rfl) (.i rfl) rfl) <| u (bc (.t rfl) (.i rfl) rfl rfl) <| .nil _) rfl ?_
      refine .jq (t := some u2) (fun (a : Int) => ⟨[(4, .ro (.int .u32 v1)), (6, .ro (.int .u32 a)), (7, .ro (.int .u32 v5)), (8, .ro (.int .i64 v6))], []⟩) (fun (a : Int) => internal_bytealg_hashStr_j3 z v5 v6 a) ?_ (fun J3 => ?_)
      · intro v7 h
        replace h : internal_bytealg_hashStr_j3 z v5 v6 v7 = _ := h
        unfold internal_bytealg_hashStr_j3 at h
        refine .rg (u (mv (.t rfl)) <| u (mv (.t rfl)) <| u (bi (.t rfl) (.t rfl) rfl) <| u (asg (.t rfl)) <| .nil _) rfl ?_
        refine .ib ?_
        refine .rg (u (mv (.t rfl)) <| u (sh (.t rfl) (.i rfl) rfl (by decide)) <| u (asg (.t rfl)) <| .nil _) rfl ?_
        exact .kq (.il (ih2 (v7, (ar .mul .u32 v5 v5), (sf .shr .i64 v6 1)) (nxi h))) (.c rfl (.c rfl (.c rfl (.c rfl .n)))) .n
      refine .bq h (.t rfl) (fun h => ?_) (fun h => ?_)
      · refine .rg (u (mv (.t rfl)) <| u (mv (.t rfl)) <| u (bi (.t rfl) (.t rfl) rfl) <| u (asg (.t rfl)) <| .nil _) rfl ?_
        exact .kq (J3 (ar .mul .u32 v4 v5) h) (.c rfl (.c rfl (.c rfl (.c rfl .n)))) .n
      · refine .skp ?_
        exact .kq (J3 v4 h) (.c rfl (.c rfl (.c rfl (.c rfl .n)))) .n
    · refine .xt rfl ?_
      replace h := mpR h hx2
      refine .sq ?_
      refine .rg (u (mv (.t rfl)) <| u (mv (.t rfl)) <| u (asg (.t rfl)) <| u (asg (.t rfl)) <| .nil _) rfl ?_
      obtain rfl := Option.some.inj h
      exact .rt Try.func47 (.t rfl <| .t rfl <| .n) .n rfl rfl

theorem internal_bytealg_IndexRabinKarp_c {z : Option Nat} {p_s : List Int} {sep : List Int} {r : Int} (h : internal_bytealg_IndexRabinKarp z p_s sep = some r) :
    AC Try.prog 45 [.ro (.list 1 (List.map e8 p_s)), .ro (.list 1 (List.map e8 sep))] (.ro (.int .i64 r)) [] := by
  refine AC.of Try.func45 rfl rfl fun w M0 hM => ?_
  unfold internal_bytealg_IndexRabinKarp at h
  refine .sq ?_
  refine .rg (u (asg (.i rfl)) <| .nil _) rfl ?_
  refine .sq ?_
  refine be h fun x1 hx1 h => ?_
  refine .rg (u (mv (.t rfl)) <| cl [] cf47 (internal_bytealg_hashStr_c hx1) (.c (.t rfl) <| .n) (.inl rfl) <| u (mv (.t rfl)) <| u (ex (.t rfl) rfl rfl) <| u (ex (.t rfl) rfl rfl) <| u (asg (.t rfl)) <| u (asg (.t rfl)) <| .nil _) rfl ?_
  refine .sq ?_
  refine .rg (u (mv (.t rfl)) <| u (lnm sf24 (.t rfl)) <| u (asg (.t rfl)) <| .nil _) rfl ?_
  refine .sq ?_
  refine .rg (u (asg (.i rfl)) <| .nil _) rfl ?_
  refine .sq ?_
  refine .sq ?_
  refine .rg (u (asg (.i rfl)) <| .nil _) rfl ?_
  refine .bl ?_
  unfold internal_bytealg_IndexRabinKarp_l1 at h
  refine .kq (.lo (fun (s : Int × Int) => ⟨[(0, .ro (.list 1 (List.map e8 p_s))), (1, .ro (.list 1 (List.map e8 sep))), (5, .ro (.int .u32 x1.1)), (6, .ro (.int .u32 x1.2)), (7, .ro (.int .i64 (sep.length : Int))), (8, .ro (.int .u32 s.1)), (9, .ro (.int .i64 s.2))], []⟩) h ?_) (.c rfl (.c rfl (.c rfl (.c rfl (.c rfl (.c rfl (.c rfl .n))))))) .n
  rintro ⟨v2, v3⟩ u1 h ih1 hx1
  replace h : internal_bytealg_IndexRabinKarp_s1 z p_s sep x1 v2 v3 = _ := h
  unfold internal_bytealg_IndexRabinKarp_s1 at h
  refine .sq ?_
  refine .sq ?_
  refine .rg (u (mv (.t rfl)) <| u (mv (.t rfl)) <| u (bc (.t rfl) (.t rfl) rfl rfl) <| .nil _) rfl ?_
  refine .bq h (.t rfl) (fun h => ?_) (fun h => ?_)
  · refine .skp ?_
    refine .sq ?_
    refine .bl ?_
    refine be h fun x4 hx4 h => ?_
    refine .rg (u (mv (.t rfl)) <| u (bi (.t rfl) (.i rfl) rfl) <| u (mv (.t rfl)) <| u (mv (.t rfl)) <| u (ia sf24 (.t rfl) (.t rfl) (ix_map e8 hx4)) <| u (lr tf5 (.t rfl) rfl) <| u (cv cv5_79 (.t rfl)) <| u (bi (.t rfl) (.t rfl) rfl) <| u (asg (.t rfl)) <| .nil _) rfl ?_
    refine .ib ?_
    refine .rg (u (mv (.t rfl)) <| u (bi (.t rfl) (.i rfl) rfl) <| u (asg (.t rfl)) <| .nil _) rfl ?_
    exact .kq (.il (ih1 ((ar .add .u32 (ar .mul .u32 v2 16777619) (IntKind.u32.wrap x4)), (ar .add .i64 v3 1)) (nxi h))) (.c rfl (.c rfl (.c rfl (.c rfl (.c rfl (.c rfl (.c rfl .n))))))) .n
  · refine .xt rfl ?_
    replace h := mpR h hx1
    refine .sq ?_
    refine .sq ?_
    refine be h fun x5 hx5 h => ?_
    refine .rd mixed (u (mv (.t rfl)) <| u (mv (.t rfl)) <| u (bc (.t rfl) (.t rfl) rfl rfl) <| u (mv (.t rfl)) <| gd rfl rfl (fun hB => mv (.t rfl)) <| gd rfl rfl (fun hB => mv (.t rfl)) <| gd rfl rfl (fun hB => sl sf24 (.m rfl hB) .n (.s (.m rfl hB)) (gTt hx5 hB)) <| gd rfl rfl (fun hB => bt bt24_9 (.m rfl hB)) <| gd rfl rfl (fun hB => mv (.t rfl)) <| gd rfl rfl (fun hB => bt bt24_9 (.m rfl hB)) <| gd rfl rfl (fun hB => sq (.m rfl hB) (.m rfl hB) rfl rfl) <| u (pka (.t rfl) (.t rfl)) <| .nil _) (by kernel_rfl) rfl ?_
    refine .bq h (.t rfl) (fun h => ?_) (fun h => ?_)
    · refine .sq ?_
      refine .rg (u (asg (.i rfl)) <| .nil _) rfl ?_
      obtain rfl := Option.some.inj h
      exact .rt Try.func45 (.t rfl <| .n) .n rfl rfl
    · refine .skp ?_
      refine .sq ?_
      refine .sq ?_
      refine .rg (u (mv (.t rfl)) <| u (asg (.t rfl)) <| .nil _) rfl ?_
      refine .bl ?_
      unfold internal_bytealg_IndexRabinKarp_l2 at h
      refine .kq (.lo (fun (s : Int × Int) => ⟨[(0, .ro (.list 1 (List.map e8 p_s))), (1, .ro (.list 1 (List.map e8 sep))), (5, .ro (.int .u32 x1.1)), (6, .ro (.int .u32 x1.2)), (7, .ro (.int .i64 (sep.length : Int))), (8, .ro (.int .u32 s.1)), (10, .ro (.int .i64 s.2))], []⟩) h ?_) (.c rfl (.c rfl (.c rfl (.c rfl (.c rfl (.c rfl (.c rfl .n))))))) .n
      rintro ⟨v6, v7⟩ u2 h ih2 hx2
      replace h : internal_bytealg_IndexRabinKarp_s2 z p_s sep x1 v6 v7 = _ := h
      unfold internal_bytealg_IndexRabinKarp_s2 at h
      refine .sq ?_
      refine .sq ?_
      refine .rg (u (mv (.t rfl)) <| u (mv (.t rfl)) <| u (lnm sf24 (.t rfl)) <| u (bc (.t rfl) (.t rfl) rfl rfl) <| .nil _) rfl ?_
      refine .bq h (.t rfl) (fun h => ?_) (fun h => ?_)
      · refine .skp ?_
        refine .bl ?_
        refine .sq ?_
        refine .rg (u (mv (.t rfl)) <| u (bi (.t rfl) (.i rfl) rfl) <| u (asg (.t rfl)) <| .nil _) rfl ?_
        refine .sq ?_
        refine be h fun x8 hx8 h => ?_
        refine .rg (u (mv (.t rfl)) <| u (mv (.t rfl)) <| u (mv (.t rfl)) <| u (ia sf24 (.t rfl) (.t rfl) (ix_map e8 hx8)) <| u (lr tf5 (.t rfl) rfl) <| u (cv cv5_79 (.t rfl)) <| u (bi (.t rfl) (.t rfl) rfl) <| u (asg (.t rfl)) <| .nil _) rfl ?_
        refine .sq ?_
        refine be h fun x9 hx9 h => ?_
        refine .rg (u (mv (.t rfl)) <| u (mv (.t rfl)) <| u (mv (.t rfl)) <| u (mv (.t rfl)) <| u (mv (.t rfl)) <| u (bi (.t rfl) (.t rfl) rfl) <| u (ia sf24 (.t rfl) (.t rfl) (ix_map e8 hx9)) <| u (lr tf5 (.t rfl) rfl) <| u (cv cv5_79 (.t rfl)) <| u (bi (.t rfl) (.t rfl) rfl) <| u (bi (.t rfl) (.t rfl) rfl) <| u (asg (.t rfl)) <| .nil _) rfl ?_
        refine .sq ?_
        refine .rg (u (mv (.t rfl)) <| u (bi (.t rfl) (.i rfl) rfl) <| u (asg (.t rfl)) <| .nil _) rfl ?_
        refine .sq ?_
        refine be h fun x10 hx10 h => ?_
        refine .rd mixed (u (mv (.t rfl)) <| u (mv (.t rfl)) <| u (bc (.t rfl) (.t rfl) rfl rfl) <| u (mv (.t rfl)) <| gd rfl rfl (fun hB => mv (.t rfl)) <| gd rfl rfl (fun hB => mv (.t rfl)) <| gd rfl rfl (fun hB => mv (.t rfl)) <| gd rfl rfl (fun hB => bi (.m rfl hB) (.m rfl hB) rfl) <| gd rfl rfl (fun hB => mv (.t rfl)) <| gd rfl rfl (fun hB => sl sf24 (.m rfl hB) (.s (.m rfl hB)) (.s (.m rfl hB)) (gTt hx10 hB)) <| gd rfl rfl (fun hB => bt bt24_9 (.m rfl hB)) <| gd rfl rfl (fun hB => mv (.t rfl)) <| gd rfl rfl (fun hB => bt bt24_9 (.m rfl hB)) <| gd rfl rfl (fun hB => sq (.m rfl hB) (.m rfl hB) rfl rfl) <| u (pka (.t rfl) (.t rfl)) <| .nil _) (by kernel_rfl) rfl ?_
        refine .bq h (.t rfl) (fun h => ?_) (fun h => ?_)
        · refine .sq ?_
          refine .rg (u (mv (.t rfl)) <| u (mv (.t rfl)) <| u (bi (.t rfl) (.t rfl) rfl) <| u (asg (.t rfl)) <| .nil _) rfl ?_
          replace h := mpR h hx2
          obtain rfl := Option.some.inj h
          exact .rt Try.func45 (.t rfl <| .n) .n rfl rfl
        · refine .skp ?_
          refine .ib ?_
          exact .kq (.il (ih2 ((ar .sub .u32 (ar .add .u32 (ar .mul .u32 v6 16777619) (IntKind.u32.wrap x8)) (ar .mul .u32 x1.2 (IntKind.u32.wrap x9))), (ar .add .i64 v7 1)) (nxi h))) (.c rfl (.c rfl (.c rfl (.c rfl (.c rfl (.c rfl (.c rfl .n))))))) .n
      · refine .xt rfl ?_
        replace h := mpR h hx2
        refine .sq ?_
        refine .rg (u (asg (.i rfl)) <| .nil _) rfl ?_
        obtain rfl := Option.some.inj h
        exact .rt Try.func45 (.t rfl <| .n) .n rfl rfl

theorem bytes_Count_c {z : Option Nat} {p_s : List Int} {sep : List Int} {r : Int} (h : bytes_Count z p_s sep = some r) :
    AC Try.prog 34 [.ro (.list 1 (List.map e8 p_s)), .ro (.list 1 (List.map e8 sep))] (.ro (.int .i64 r)) [] := by
  refine AC.of Try.func34 rfl rfl fun w M0 hM => ?_
  unfold bytes_Count at h
  refine .sq ?_
  refine .rg (u (asg (.i rfl)) <| .nil _) rfl ?_
  refine .sq ?_
  refine .sq ?_
  refine .rg (u (mv (.t rfl)) <| u (lnm sf24 (.t rfl)) <| u (bc (.t rfl) (.i rfl) rfl rfl) <| .nil _) rfl ?_
  refine .bq h (.t rfl) (fun h => ?_) (fun h => ?_)
  · refine .sq ?_
    cases h
  · refine .skp ?_
    refine .sq ?_
    refine .sq ?_
    refine .rg (u (mv (.t rfl)) <| u (lnm sf24 (.t rfl)) <| u (bc (.t rfl) (.i rfl) rfl rfl) <| .nil _) rfl ?_
    refine .bq h (.t rfl) (fun h => ?_) (fun h => ?_)
    · refine .sq ?_
      refine be h fun x1 hx1 h => ?_
      refine .rg (u (mv (.t rfl)) <| u (mv (.t rfl)) <| u (ia sf24 (.t rfl) (.i rfl) (ix_map e8 hx1)) <| u (lr tf5 (.t rfl) rfl) <| u (ctb xf38 (.t rfl) (.t rfl)) <| u (asg (.t rfl)) <| .nil _) rfl ?_
      obtain rfl := Option.some.inj h
      exact .rt Try.func34 (.t rfl <| .n) .n rfl rfl
    · refine .skp ?_
      refine .sq ?_
      refine .rg (u (asg (.i rfl)) <| .nil _) rfl ?_
      refine .bl ?_
      unfold bytes_Count_l1 at h
      refine .kq (.lo (fun (s : List Int × Int) => ⟨[(0, .ro (.list 1 (List.map e8 s.1))), (1, .ro (.list 1 (List.map e8 sep))), (5, .ro (.int .i64 s.2))], []⟩) h ?_) (.c rfl (.c rfl (.c rfl .n))) .n
      rintro ⟨v2, v3⟩ u1 h ih1 hx1
      replace h : bytes_Count_s1 z v2 v3 = _ := h
      unfold bytes_Count_s1 at h
      refine .bl ?_
      refine .sq ?_
      cases h

theorem pad_Zero_c {z : Option Nat} {b : List Int} {r : Bool} (h : pad_Zero z b = some r) :
    AC Try.prog 28 [.ro (.list 1 (List.map e8 b))] (.ro (.bool r)) [] := by
  refine AC.of Try.func28 rfl rfl fun w M0 hM => ?_
  unfold pad_Zero at h
  refine .sq ?_
  refine .rg (u (asg .b) <| .nil _) rfl ?_
  refine .sq ?_
  refine be h fun x1 hx1 h => ?_
  refine .rg (u (mv (.t rfl)) <| bs (F := e8) (l := [0]) 4 pf24 (.c (.i rfl) rfl <| .n) rfl (fun _ _ => rfl) rfl rfl <| cl [] cf34 (bytes_Count_c hx1) (.c (.t rfl) <| .b (.t rfl) rfl <| .n) (.inr rfl) <| u (mv (.t rfl)) <| u (lnm sf24 (.t rfl)) <| u (bc (.t rfl) (.t rfl) rfl rfl) <| u (asg (.t rfl)) <| .nil _) rfl ?_
  obtain rfl := Option.some.inj h
  exact .rt Try.func28 (.t rfl <| .n) .n rfl rfl

theorem elem_Canon_c {z : Option Nat} {profile : Int} {data : List Int} {r : Bool} (h : elem_Canon z profile data = some r) :
    AC Try.prog 19 [.ro (.int .u16 profile), .ro (.list 1 (List.map e8 data))] (.ro (.bool r)) [] := by
  refine AC.of Try.func19 rfl rfl fun w M0 hM => ?_
  unfold elem_Canon at h
  refine .sq ?_
  refine .rg (u (asg .b) <| .nil _) rfl ?_
  refine .sq ?_
  refine be h fun x1 hx1 h => ?_
  refine .rg (u (mv (.t rfl)) <| u (mv (.t rfl)) <| cnf 18000 cf14 (elem_Spots_c hx1) (.c (.t rfl) <| .c (.t rfl) <| .n) rfl rfl rfl <| u (mv (.t rfl)) <| u (ex (.t rfl) rfl rfl) <| u (ex (.t rfl) rfl rfl) <| u (asg (.t rfl)) <| u (asg (.t rfl)) <| .nil _) rfl ?_
  refine .sq ?_
  refine .sq ?_
  refine .rg (u (mv (.t rfl)) <| u (bc (.t rfl) (.i rfl) rfl rfl) <| u (mv (.t rfl)) <| gd rfl rfl (fun hB => mv (.t rfl)) <| gd rfl rfl (fun hB => bc (.m rfl hB) (.i rfl) rfl rfl) <| gd rfl rfl (fun hB => mv (.m rfl hB)) <| gm rfl rfl (fun hB => mv (.t rfl)) <| gm rfl rfl (fun hB => bc (.m rfl hB) (.i rfl) rfl rfl) <| gd rfl rfl (fun hB => pkam (.m rfl hB) (.t rfl) hB) <| u (pko (.t rfl) (.t rfl)) <| u (mv (.t rfl)) <| gd rfl rfl (fun hB => mv (.t rfl)) <| gd rfl rfl (fun hB => lnm sf24 (.m rfl hB)) <| gd rfl rfl (fun hB => di (.m rfl hB) (.i rfl) rfl (by decide)) <| gd rfl rfl (fun hB => bc (.m rfl hB) (.i rfl) rfl rfl) <| u (pko (.t rfl) (.t rfl)) <| .nil _) rfl ?_
  refine .bq h (.t rfl) (fun h => ?_) (fun h => ?_)
  · refine .sq ?_
    refine .rg (u (asg .b) <| .nil _) rfl ?_
    obtain rfl := Option.some.inj h
    exact .rt Try.func19 (.t rfl <| .n) .n rfl rfl
  · refine .skp ?_
    refine .sq ?_
    refine .rg (u (mv (.t rfl)) <| cl [] cf24 (elem_walk_c profile) (.c (.t rfl) <| .n) (.inl rfl) <| u (tas tc61 tz61 (.t rfl) (as61_I_elem_walker _)) <| u (mv (.t rfl)) <| u (ex (.t rfl) rfl rfl) <| u (ex (.t rfl) rfl rfl) <| al 7 zf61 rfl <| st tf61 (.t rfl) rfl (.t rfl) rfl rfl rfl <| u (asg (.t rfl)) <| .nil _) rfl ?_
    refine .sq ?_
    refine .rg (u (asg (.i rfl)) <| u (asg (.i rfl)) <| u (asg .b) <| .nil _) rfl ?_
    refine .sq ?_
    refine .sq ?_
    refine .rg (u (mv (.t rfl)) <| .nil _) rfl ?_
    refine .jq (t := some r) (fun (a : Int) => ⟨[(1, .ro (.list 1 (List.map e8 data))), (5, .own 18000), (8, .ro (.bool ((I_elem_walker.as61 (elem_walk profile)).2))), (9, .ro (.int .i64 a)), (10, .ro (.int .i64 0)), (11, .ro (.bool true))], [(18000, some (.arr 43 3 (List.map cells_Spot x1.1)))]⟩) (fun (a : Int) => elem_Canon_j1 z profile data x1 a) ?_ (fun J1 => ?_)
    · intro v2 h
      replace h : elem_Canon_j1 z profile data x1 v2 = _ := h
      unfold elem_Canon_j1 at h
      refine .sq ?_
      refine .sq ?_
      refine .rg (u (mv (.t rfl)) <| u (lom sf36 (.t rfl) rfl) <| u (mv (.i rfl)) <| .nil _) rfl ?_
      refine .bl ?_
      unfold elem_Canon_l2 at h
      refine .kq (.lo (fun (s : Int × Bool × Int) => ⟨[(1, .ro (.list 1 (List.map e8 data))), (8, .ro (.bool ((I_elem_walker.as61 (elem_walk profile)).2))), (9, .ro (.int .i64 v2)), (10, .ro (.int .i64 s.1)), (11, .ro (.bool s.2.1)), (43, .own 18000), (44, .ro (.int .i64 (x1.1.length : Int))), (45, .ro (.int .i64 s.2.2))], [(18000, some (.arr 43 3 (List.map cells_Spot x1.1)))]⟩) h ?_) (.c rfl (.c rfl (.c rfl (.c rfl (.c rfl (.c rfl (.c rfl (.c rfl .n)))))))) (.c rfl .n)
      rintro ⟨v3, v4, v5⟩ u2 h ih2 hx2
      replace h : elem_Canon_s2 z profile data x1 v2 v3 v4 v5 = _ := h
      unfold elem_Canon_s2 at h
      refine .sq ?_
      refine .rg (u (bc (.t rfl) (.t rfl) rfl rfl) <| .nil _) rfl ?_
      refine .sq ?_
      refine .bq h (.t rfl) (fun h => ?_) (fun h => ?_)
      · refine .skp ?_
        refine .sq ?_
        refine .bl ?_
        refine .sq ?_
        refine be h fun x6 hx6 h => ?_
        refine .rg (u (io sf36 (.t rfl) rfl (.t rfl) (ix_map cells_Spot hx6)) <| u (le tf43 (.t rfl) rfl (ix_lt (ix_map _ hx6)).2.2 rfl) <| al 13 zf43 rfl <| st tf43 (.t rfl) rfl (.t rfl) rfl rfl rfl <| .nil _) rfl ?_
        refine .sq ?_
        refine .sq ?_
        refine .rg (u (fa ff43_1 (.t rfl)) <| u (ld tf3 (.t rfl) rfl rfl) <| u (mv (.t rfl)) <| u (mv (.t rfl)) <| u (bi (.t rfl) (.t rfl) rfl) <| u (bc (.t rfl) (.t rfl) rfl rfl) <| .nil _) rfl ?_
        refine .bq h (.t rfl) (fun h => ?_) (fun h => ?_)
        · refine .sq ?_
          refine .rg (u (asg .b) <| .nil _) rfl ?_
          replace h := mpR h hx2
          obtain rfl := Option.some.inj h
          exact .rt Try.func19 (.t rfl <| .n) .n rfl rfl
        · refine .skp ?_
          refine .sq ?_
          refine .rg (u (fa ff43_1 (.t rfl)) <| u (ld tf3 (.t rfl) rfl rfl) <| u (fa ff43_2 (.t rfl)) <| u (ld tf3 (.t rfl) rfl rfl) <| u (bi (.t rfl) (.t rfl) rfl) <| u (asg (.t rfl)) <| .nil _) rfl ?_
          refine .rg (u (mv (.t rfl)) <| u (mv (.t rfl)) <| gd rfl rfl (fun hB => fa ff43_0 (.t rfl)) <| gd rfl rfl (fun hB => ld tf3 (.m rfl hB) rfl rfl) <| gd rfl rfl (fun hB => bc (.m rfl hB) (.i rfl) rfl rfl) <| u (pka (.t rfl) (.t rfl)) <| u (mv (.t rfl)) <| gd rfl rfl (fun hB => fa ff43_2 (.t rfl)) <| gd rfl rfl (fun hB => ld tf3 (.m rfl hB) rfl rfl) <| gd rfl rfl (fun hB => bc (.m rfl hB) (.i rfl) rfl rfl) <| u (pka (.t rfl) (.t rfl)) <| u (mv (.t rfl)) <| gd rfl rfl (fun hB => fa ff43_2 (.t rfl)) <| gd rfl rfl (fun hB => ld tf3 (.m rfl hB) rfl rfl) <| gd rfl rfl (fun hB => bc (.m rfl hB) (.i rfl) rfl rfl) <| u (pka (.t rfl) (.t rfl)) <| u (asg (.t rfl)) <| .nil _) rfl ?_
          refine .ib ?_
          refine .rg (u (bi (.t rfl) (.i rfl) rfl) <| u (mv (.t rfl)) <| .nil _) rfl ?_
          exact .kq (.il (ih2 ((ar .add .i64 x6.at_ x6.size), (((v4 && (cm .leq x6.id_ 14)) && (cm .geq x6.size 1)) && (cm .leq x6.size 16)), (ar .add .i64 v5 1)) (nxi h))) (.c rfl (.c rfl (.c rfl (.c rfl (.c rfl (.c rfl (.c rfl (.c rfl .n)))))))) (.c rfl .n)
      · refine .xt rfl ?_
        replace h := mpR h hx2
        refine .sq ?_
        refine be h fun x7 hx7 h => ?_
        refine be h fun x8 hx8 h => ?_
        refine .rg (u (mv (.t rfl)) <| u (mv (.t rfl)) <| u (be2 ub4 (.t rfl) (.t rfl) rfl) <| u (mv (.t rfl)) <| gd rfl rfl (fun hB => mv (.t rfl)) <| gd rfl rfl (fun hB => lnm sf24 (.m rfl hB)) <| gd rfl rfl (fun hB => mv (.t rfl)) <| gd rfl rfl (fun hB => bi (.m rfl hB) (.m rfl hB) rfl) <| gd rfl rfl (fun hB => bc (.m rfl hB) (.i rfl) rfl rfl) <| u (pka (.t rfl) (.t rfl)) <| u (mv (.t rfl)) <| gd rfl rfl (fun hB => mv (.t rfl)) <| gd rfl rfl (fun hB => mv (.t rfl)) <| gd rfl rfl (fun hB => sl sf24 (.m rfl hB) (.s (.m rfl hB)) .n (gTt hx7 hB)) <| cg rfl rfl cf28 (fun hB => (pad_Zero_c (gTt hx8 hB))) (fun hB => .c (.m rfl hB) <| .n) (.inl rfl) <| u (pka (.t rfl) (.t rfl)) <| u (asg (.t rfl)) <| .nil _) rfl ?_
        obtain rfl := Option.some.inj h
        exact .rt Try.func19 (.t rfl <| .n) .n rfl rfl
    refine .bq h (.t rfl) (fun h => ?_) (fun h => ?_)
    · refine .rg (u (asg (.i rfl)) <| .nil _) rfl ?_
      exact .kq (J1 1 h) (.c rfl (.c rfl (.c rfl (.c rfl (.c rfl (.c rfl .n)))))) (.c rfl .n)
    · refine .skp ?_
      exact .kq (J1 2 h) (.c rfl (.c rfl (.c rfl (.c rfl (.c rfl (.c rfl .n)))))) (.c rfl .n)

theorem law08_awake_c {z : Option Nat}  {r : Bool} (h : law08_awake z = some r) :
    AC Try.prog 6 [] (.ro (.bool r)) [] := by
  refine AC.of Try.func6 rfl rfl fun w M0 hM => ?_
  unfold law08_awake at h
  refine .sq ?_
  refine .rg (u (asg .b) <| .nil _) rfl ?_
  refine .sq ?_
  refine be h fun x1 hx1 h => ?_
  refine .rg (nu (bsn (F := e8) (l := [7, 8]) pf24 (.c (.i rfl) rfl <| .c (.i rfl) rfl <| .n) rfl (fun _ _ => rfl) rfl) <| u (bd bf49 zf49 (.c rfl (.i rfl) rfl rfl rfl <| .c rfl (.t rfl) rfl rfl rfl <| .n) rfl) <| nu (bsn (F := cells_Elem) (l := [(Elem.mk 1 [7, 8])]) pf22 (.c (.t rfl) rfl <| .n) rfl (fun _ _ => rfl) rfl) <| cnf 13000 cf8 (elem_Write_c hx1) (.c (.t rfl) <| .n) rfl rfl rfl <| u (mv (.t rfl)) <| u (ex (.t rfl) rfl rfl) <| u (ex (.t rfl) rfl rfl) <| u (ex (.t rfl) rfl rfl) <| u (asg (.t rfl)) <| u (asg (.t rfl)) <| u (asg (.t rfl)) <| .nil _) rfl ?_
  refine .sq ?_
  refine be h fun x2 hx2 h => ?_
  refine .rg (nu (bsn (F := e8) (l := [0, 200, 0, 5, 1, 9, 0, 0]) pf24 (.c (.i rfl) rfl <| .c (.i rfl) rfl <| .c (.i rfl) rfl <| .c (.i rfl) rfl <| .c (.i rfl) rfl <| .c (.i rfl) rfl <| .c (.i rfl) rfl <| .c (.i rfl) rfl <| .n) rfl (fun _ _ => rfl) rfl) <| cnf 19000 cf12 (elem_Read_c hx2) (.c (.i rfl) <| .c (.t rfl) <| .n) rfl rfl rfl <| u (mv (.t rfl)) <| u (ex (.t rfl) rfl rfl) <| u (ex (.t rfl) rfl rfl) <| u (asg (.t rfl)) <| u (asg (.t rfl)) <| .nil _) rfl ?_
  refine .sq ?_
  refine be h fun x3 hx3 h => ?_
  refine .rg (nu (bsn (F := e8) (l := [16, 7, 240, 1]) pf24 (.c (.i rfl) rfl <| .c (.i rfl) rfl <| .c (.i rfl) rfl <| .c (.i rfl) rfl <| .n) rfl (fun _ _ => rfl) rfl) <| cnf 24000 cf14 (elem_Spots_c hx3) (.c (.i rfl) <| .c (.t rfl) <| .n) rfl rfl rfl <| u (mv (.t rfl)) <| u (ex (.t rfl) rfl rfl) <| u (ex (.t rfl) rfl rfl) <| u (asg (.t rfl)) <| u (asg (.t rfl)) <| .nil _) rfl ?_
  refine .sq ?_
  refine be h fun x4 hx4 h => ?_
  refine be h fun x5 hx5 h => ?_
  refine be h fun x6 hx6 h => ?_
  refine be h fun x7 hx7 h => ?_
  refine be h fun x8 hx8 h => ?_
  refine be h fun x9 hx9 h => ?_
  refine be h fun x10 hx10 h => ?_
  refine .rg (u (mv (.t rfl)) <| u (bc (.t rfl) (.i rfl) rfl rfl) <| u (mv (.t rfl)) <| gd rfl rfl (fun hB => mv (.t rfl)) <| gd rfl rfl (fun hB => bto bt24_9 (.m rfl hB) rfl) <| gd rfl rfl (fun hB => sq (.m rfl hB) (.s rfl) rfl rfl) <| u (pka (.t rfl) (.t rfl)) <| u (mv (.t rfl)) <| gd rfl rfl (fun hB => mv (.t rfl)) <| gd rfl rfl (fun hB => bc (.m rfl hB) (.i rfl) rfl rfl) <| u (pka (.t rfl) (.t rfl)) <| u (mv (.t rfl)) <| gd rfl rfl (fun hB => mv (.t rfl)) <| gd rfl rfl (fun hB => bc (.m rfl hB) (.i rfl) rfl rfl) <| u (pka (.t rfl) (.t rfl)) <| u (mv (.t rfl)) <| gd rfl rfl (fun hB => mv (.t rfl)) <| gd rfl rfl (fun hB => lom sf22 (.m rfl hB) rfl) <| gd rfl rfl (fun hB => bc (.m rfl hB) (.i rfl) rfl rfl) <| u (pka (.t rfl) (.t rfl)) <| u (mv (.t rfl)) <| gd rfl rfl (fun hB => mv (.t rfl)) <| gd rfl rfl (fun hB => io sf22 (.m rfl hB) rfl (.i rfl) (ix_map cells_Elem (gTt hx4 hB))) <| gd rfl rfl (fun hB => fa ff49_0 (.m rfl hB)) <| gd rfl rfl (fun hB => lef tf3 (.m rfl hB) rfl (ix_lt (ix_map cells_Elem (gTt hx4 hB))).2.2 rfl rfl) <| gd rfl rfl (fun hB => bc (.m rfl hB) (.i rfl) rfl rfl) <| u (pka (.t rfl) (.t rfl)) <| u (mv (.t rfl)) <| gd rfl rfl (fun hB => mv (.t rfl)) <| gd rfl rfl (fun hB => io sf22 (.m rfl hB) rfl (.i rfl) (ix_map cells_Elem (gTt hx5 hB))) <| gd rfl rfl (fun hB => fa ff49_1 (.m rfl hB)) <| gd rfl rfl (fun hB => lef tf24 (.m rfl hB) rfl (ix_lt (ix_map cells_Elem (gTt hx5 hB))).2.2 rfl rfl) <| gd rfl rfl (fun hB => lnm sf24 (.m rfl hB)) <| gd rfl rfl (fun hB => bc (.m rfl hB) (.i rfl) rfl rfl) <| u (pka (.t rfl) (.t rfl)) <| u (mv (.t rfl)) <| gd rfl rfl (fun hB => mv (.t rfl)) <| gd rfl rfl (fun hB => io sf22 (.m rfl hB) rfl (.i rfl) (ix_map cells_Elem (gTt hx6 hB))) <| gd rfl rfl (fun hB => fa ff49_1 (.m rfl hB)) <| gd rfl rfl (fun hB => lef tf24 (.m rfl hB) rfl (ix_lt (ix_map cells_Elem (gTt hx6 hB))).2.2 rfl rfl) <| gd rfl rfl (fun hB => bt bt24_9 (.m rfl hB)) <| gd rfl rfl (fun hB => sq (.m rfl hB) (.s rfl) rfl rfl) <| u (pka (.t rfl) (.t rfl)) <| u (mv (.t rfl)) <| gd rfl rfl (fun hB => mv (.t rfl)) <| gd rfl rfl (fun hB => bc (.m rfl hB) (.i rfl) rfl rfl) <| u (pka (.t rfl) (.t rfl)) <| u (mv (.t rfl)) <| gd rfl rfl (fun hB => mv (.t rfl)) <| gd rfl rfl (fun hB => lom sf36 (.m rfl hB) rfl) <| gd rfl rfl (fun hB => bc (.m rfl hB) (.i rfl) rfl rfl) <| u (pka (.t rfl) (.t rfl)) <| u (mv (.t rfl)) <| gd rfl rfl (fun hB => mv (.t rfl)) <| gd rfl rfl (fun hB => io sf36 (.m rfl hB) rfl (.i rfl) (ix_map cells_Spot (gTt hx7 hB))) <| gd rfl rfl (fun hB => le tf43 (.m rfl hB) rfl (ix_lt (ix_map _ (gTt hx7 hB))).2.2 rfl) <| gd rfl rfl (fun hB => bd bf43 zf43 (.c rfl (.i rfl) rfl rfl rfl <| .c rfl (.i rfl) rfl rfl rfl <| .c rfl (.i rfl) rfl rfl rfl <| .n) rfl) <| gd rfl rfl (fun hB => eqs qf43 (.m rfl hB) (.m rfl hB) rfl rfl rfl rfl) <| u (pka (.t rfl) (.t rfl)) <| u (mv (.t rfl)) <| gd rfl rfl (fun hB => mv (.t rfl)) <| gd rfl rfl (fun hB => mv (.t rfl)) <| cg rfl rfl cf19 (fun hB => (elem_Canon_c (gTt hx8 hB))) (fun hB => .c (.m rfl hB) <| .b (.m rfl hB) rfl <| .n) (.inr rfl) <| u (pka (.t rfl) (.t rfl)) <| u (mv (.t rfl)) <| gd rfl rfl (fun hB => mv (.t rfl)) <| cg rfl rfl cf19 (fun hB => (elem_Canon_c (gTt hx9 hB))) (fun hB => .c (.i rfl) <| .b (.m rfl hB) rfl <| .n) (.inr rfl) <| gd rfl rfl (fun hB => no (.m rfl hB)) <| u (pka (.t rfl) (.t rfl)) <| u (mv (.t rfl)) <| gd rfl rfl (fun hB => mv (.t rfl)) <| cg rfl rfl cf17 (fun hB => (elem_Right_c (gTt hx10 hB))) (fun hB => .b (.m rfl hB) rfl <| .n) (.inr rfl) <| u (pka (.t rfl) (.t rfl)) <| u (asg (.t rfl)) <| .nil _) rfl ?_
  obtain rfl := Option.some.inj h
  exact .rt Try.func6 (.t rfl <| .n) .n rfl rfl

theorem law08_awake_t : law08_awake (some 1000) = some true := by decide +kernel
theorem law08_awake_k : AC Try.prog 6 [] (.ro (.bool true)) [] := law08_awake_c law08_awake_t

theorem ref08_Short_c {z : Option Nat} {l : List Elem} {r : Bool} (h : ref08_Short z l = some r) :
    AC Try.prog 7 [.ro (.list 2 (List.map cells_Elem l))] (.ro (.bool r)) [] := by
  refine AC.of Try.func7 rfl rfl fun w M0 hM => ?_
  unfold ref08_Short at h
  refine .sq ?_
  refine .rg (u (asg .b) <| .nil _) rfl ?_
  refine .sq ?_
  refine .sq ?_
  refine .rg (u (asg (.i rfl)) <| .nil _) rfl ?_
  refine .bl ?_
  unfold ref08_Short_l1 at h
  refine .kq (.lo (fun (s : Int) => ⟨[(0, .ro (.list 2 (List.map cells_Elem l))), (3, .ro (.int .i64 s))], []⟩) h ?_) (.c rfl (.c rfl .n)) .n
  intro v1 u1 h ih1 hx1
  replace h : ref08_Short_s1 z l v1 = _ := h
  unfold ref08_Short_s1 at h
  refine .sq ?_
  refine .sq ?_
  refine .rg (u (mv (.t rfl)) <| u (mv (.t rfl)) <| u (lnm sf22 (.t rfl)) <| u (bc (.t rfl) (.t rfl) rfl rfl) <| .nil _) rfl ?_
  refine .bq h (.t rfl) (fun h => ?_) (fun h => ?_)
  · refine .skp ?_
    refine .sq ?_
    refine .bl ?_
    refine .sq ?_
    refine be h fun x2 hx2 h => ?_
    refine .rg (u (mv (.t rfl)) <| u (mv (.t rfl)) <| u (ia sf22 (.t rfl) (.t rfl) (ix_map cells_Elem hx2)) <| u (fr ff49_1 (.t rfl) rfl) <| u (lr tf24 (.t rfl) rfl) <| u (lnm sf24 (.t rfl)) <| u (bc (.t rfl) (.i rfl) rfl rfl) <| .nil _) rfl ?_
    refine .bq h (.t rfl) (fun h => ?_) (fun h => ?_)
    · refine .sq ?_
      refine .rg (u (asg .b) <| .nil _) rfl ?_
      replace h := mpR h hx1
      obtain rfl := Option.some.inj h
      exact .rt Try.func7 (.t rfl <| .n) .n rfl rfl
    · refine .skp ?_
      refine .ib ?_
      refine .rg (u (mv (.t rfl)) <| u (bi (.t rfl) (.i rfl) rfl) <| u (asg (.t rfl)) <| .nil _) rfl ?_
      exact .kq (.il (ih1 (ar .add .i64 v1 1) (nxi h))) (.c rfl (.c rfl .n)) .n
  · refine .xt rfl ?_
    replace h := mpR h hx1
    refine .sq ?_
    refine .rg (u (mv (.t rfl)) <| u (lnm sf22 (.t rfl)) <| u (bc (.t rfl) (.i rfl) rfl rfl) <| u (asg (.t rfl)) <| .nil _) rfl ?_
    obtain rfl := Option.some.inj h
    exact .rt Try.func7 (.t rfl <| .n) .n rfl rfl

theorem ref08_Right_c {z : Option Nat} {l : List Elem} {r : Bool} (h : ref08_Right z l = some r) :
    AC Try.prog 9 [.ro (.list 2 (List.map cells_Elem l))] (.ro (.bool r)) [] := by
  refine AC.of Try.func9 rfl rfl fun w M0 hM => ?_
  unfold ref08_Right at h
  refine .sq ?_
  refine .rg (u (asg .b) <| .nil _) rfl ?_
  refine .sq ?_
  refine .sq ?_
  refine .rg (u (asg (.i rfl)) <| .nil _) rfl ?_
  refine .bl ?_
  unfold ref08_Right_l1 at h
  refine .kq (.lo (fun (s : Int) => ⟨[(0, .ro (.list 2 (List.map cells_Elem l))), (3, .ro (.int .i64 s))], []⟩) h ?_) (.c rfl (.c rfl .n)) .n
  intro v1 u1 h ih1 hx1
  replace h : ref08_Right_s1 z l v1 = _ := h
  unfold ref08_Right_s1 at h
  refine .sq ?_
  refine .sq ?_
  refine .rg (u (mv (.t rfl)) <| u (mv (.t rfl)) <| u (lnm sf22 (.t rfl)) <| u (bc (.t rfl) (.t rfl) rfl rfl) <| .nil _) rfl ?_
  refine .bq h (.t rfl) (fun h => ?_) (fun h => ?_)
  · refine .skp ?_
    refine .sq ?_
    refine .bl ?_
    refine .sq ?_
    refine .sq ?_
    refine be h fun x2 hx2 h => ?_
    refine be h fun x3 hx3 h => ?_
    refine be h fun x4 hx4 h => ?_
    refine .rg (u (mv (.t rfl)) <| u (mv (.t rfl)) <| u (ia sf22 (.t rfl) (.t rfl) (ix_map cells_Elem hx2)) <| u (fr ff49_0 (.t rfl) rfl) <| u (lr tf3 (.t rfl) rfl) <| u (bc (.t rfl) (.i rfl) rfl rfl) <| u (mv (.t rfl)) <| gd rfl rfl (fun hB => mv (.t rfl)) <| gd rfl rfl (fun hB => mv (.t rfl)) <| gd rfl rfl (fun hB => ia sf22 (.m rfl hB) (.m rfl hB) (ix_map cells_Elem (gTt hx3 (nt hB)))) <| gd rfl rfl (fun hB => fr ff49_0 (.m rfl hB) rfl) <| gd rfl rfl (fun hB => lr tf3 (.m rfl hB) rfl) <| gd rfl rfl (fun hB => bc (.m rfl hB) (.i rfl) rfl rfl) <| u (pko (.t rfl) (.t rfl)) <| u (mv (.t rfl)) <| gd rfl rfl (fun hB => mv (.t rfl)) <| gd rfl rfl (fun hB => mv (.t rfl)) <| gd rfl rfl (fun hB => ia sf22 (.m rfl hB) (.m rfl hB) (ix_map cells_Elem (gTt hx4 (nt hB)))) <| gd rfl rfl (fun hB => fr ff49_1 (.m rfl hB) rfl) <| gd rfl rfl (fun hB => lr tf24 (.m rfl hB) rfl) <| gd rfl rfl (fun hB => lnm sf24 (.m rfl hB)) <| gd rfl rfl (fun hB => bc (.m rfl hB) (.i rfl) rfl rfl) <| u (pko (.t rfl) (.t rfl)) <| .nil _) rfl ?_
    refine .bq h (.t rfl) (fun h => ?_) (fun h => ?_)
    · refine .sq ?_
      refine .rg (u (asg .b) <| .nil _) rfl ?_
      replace h := mpR h hx1
      obtain rfl := Option.some.inj h
      exact .rt Try.func9 (.t rfl <| .n) .n rfl rfl
    · refine .skp ?_
      refine .sq ?_
      refine .rg (u (asg (.i rfl)) <| .nil _) rfl ?_
      refine .bl ?_
      unfold ref08_Right_l2 at h
      refine .kq (.lo (fun (s : Int) => ⟨[(0, .ro (.list 2 (List.map cells_Elem l))), (3, .ro (.int .i64 v1)), (4, .ro (.int .i64 s))], []⟩) h ?_) (.c rfl (.c rfl (.c rfl .n))) .n
      intro v5 u2 h ih2 hx2
      replace h : ref08_Right_s2 z l v1 v5 = _ := h
      unfold ref08_Right_s2 at h
      refine .sq ?_
      refine .sq ?_
      refine .rg (u (mv (.t rfl)) <| u (mv (.t rfl)) <| u (bc (.t rfl) (.t rfl) rfl rfl) <| .nil _) rfl ?_
      refine .bq h (.t rfl) (fun h => ?_) (fun h => ?_)
      · refine .skp ?_
        refine .sq ?_
        refine .bl ?_
        refine .sq ?_
        refine be h fun x6 hx6 h => ?_
        refine be h fun x7 hx7 h => ?_
        refine .rd mixed (u (mv (.t rfl)) <| u (mv (.t rfl)) <| u (ia sf22 (.t rfl) (.t rfl) (ix_map cells_Elem hx6)) <| u (fr ff49_0 (.t rfl) rfl) <| u (lr tf3 (.t rfl) rfl) <| u (mv (.t rfl)) <| u (mv (.t rfl)) <| u (ia sf22 (.t rfl) (.t rfl) (ix_map cells_Elem hx7)) <| u (fr ff49_0 (.t rfl) rfl) <| u (lr tf3 (.t rfl) rfl) <| u (bc (.t rfl) (.t rfl) rfl rfl) <| .nil _) (by kernel_rfl) rfl ?_
        refine .bq h (.t rfl) (fun h => ?_) (fun h => ?_)
        · refine .sq ?_
          refine .rg (u (asg .b) <| .nil _) rfl ?_
          replace h := mpR h hx2
          replace h := mpR h hx1
          obtain rfl := Option.some.inj h
          exact .rt Try.func9 (.t rfl <| .n) .n rfl rfl
        · refine .skp ?_
          refine .ib ?_
          refine .rg (u (mv (.t rfl)) <| u (bi (.t rfl) (.i rfl) rfl) <| u (asg (.t rfl)) <| .nil _) rfl ?_
          exact .kq (.il (ih2 (ar .add .i64 v5 1) (nxi h))) (.c rfl (.c rfl (.c rfl .n))) .n
      · refine .xt rfl ?_
        replace h := mpR h hx2
        refine .ib ?_
        refine .rg (u (mv (.t rfl)) <| u (bi (.t rfl) (.i rfl) rfl) <| u (asg (.t rfl)) <| .nil _) rfl ?_
        exact .kq (.il (ih1 (ar .add .i64 v1 1) (nxi h))) (.c rfl (.c rfl .n)) .n
  · refine .xt rfl ?_
    replace h := mpR h hx1
    refine .sq ?_
    refine .rg (u (asg .b) <| .nil _) rfl ?_
    obtain rfl := Option.some.inj h
    exact .rt Try.func9 (.t rfl <| .n) .n rfl rfl

theorem ref08_Profile_c {z : Option Nat} {l : List Elem} {r : Int} (h : ref08_Profile z l = some r) :
    AC Try.prog 10 [.ro (.list 2 (List.map cells_Elem l))] (.ro (.int .u16 r)) [] := by
  refine AC.of Try.func10 rfl rfl fun w M0 hM => ?_
  unfold ref08_Profile at h
  refine .sq ?_
  refine .rg (u (asg (.i rfl)) <| .nil _) rfl ?_
  refine .sq ?_
  refine .sq ?_
  refine be h fun x1 hx1 h => ?_
  refine .rg (u (mv (.t rfl)) <| cl [] cf9 (ref08_Right_c hx1) (.c (.t rfl) <| .n) (.inl rfl) <| u (no (.t rfl)) <| .nil _) rfl ?_
  refine .bq h (.t rfl) (fun h => ?_) (fun h => ?_)
  · refine .sq ?_
    refine .rg (u (asg (.i rfl)) <| .nil _) rfl ?_
    obtain rfl := Option.some.inj h
    exact .rt Try.func10 (.t rfl <| .n) .n rfl rfl
  · refine .skp ?_
    refine .sq ?_
    refine .sq ?_
    refine .rg (u (asg (.i rfl)) <| .nil _) rfl ?_
    refine .bl ?_
    unfold ref08_Profile_l1 at h
    refine .kq (.lo (fun (s : Int) => ⟨[(0, .ro (.list 2 (List.map cells_Elem l))), (3, .ro (.int .i64 s))], []⟩) h ?_) (.c rfl (.c rfl .n)) .n
    intro v2 u1 h ih1 hx1
    replace h : ref08_Profile_s1 z l v2 = _ := h
    unfold ref08_Profile_s1 at h
    refine .sq ?_
    refine .sq ?_
    refine .rg (u (mv (.t rfl)) <| u (mv (.t rfl)) <| u (lnm sf22 (.t rfl)) <| u (bc (.t rfl) (.t rfl) rfl rfl) <| .nil _) rfl ?_
    refine .bq h (.t rfl) (fun h => ?_) (fun h => ?_)
    · refine .skp ?_
      refine .sq ?_
      refine .bl ?_
      refine .sq ?_
      refine be h fun x3 hx3 h => ?_
      refine be h fun x4 hx4 h => ?_
      refine be h fun x5 hx5 h => ?_
      refine .rg (u (mv (.t rfl)) <| u (mv (.t rfl)) <| u (ia sf22 (.t rfl) (.t rfl) (ix_map cells_Elem hx3)) <| u (fr ff49_0 (.t rfl) rfl) <| u (lr tf3 (.t rfl) rfl) <| u (bc (.t rfl) (.i rfl) rfl rfl) <| u (mv (.t rfl)) <| gd rfl rfl (fun hB => mv (.t rfl)) <| gd rfl rfl (fun hB => mv (.t rfl)) <| gd rfl rfl (fun hB => ia sf22 (.m rfl hB) (.m rfl hB) (ix_map cells_Elem (gTt hx4 (nt hB)))) <| gd rfl rfl (fun hB => fr ff49_1 (.m rfl hB) rfl) <| gd rfl rfl (fun hB => lr tf24 (.m rfl hB) rfl) <| gd rfl rfl (fun hB => lnm sf24 (.m rfl hB)) <| gd rfl rfl (fun hB => bc (.m rfl hB) (.i rfl) rfl rfl) <| u (pko (.t rfl) (.t rfl)) <| u (mv (.t rfl)) <| gd rfl rfl (fun hB => mv (.t rfl)) <| gd rfl rfl (fun hB => mv (.t rfl)) <| gd rfl rfl (fun hB => ia sf22 (.m rfl hB) (.m rfl hB) (ix_map cells_Elem (gTt hx5 (nt hB)))) <| gd rfl rfl (fun hB => fr ff49_1 (.m rfl hB) rfl) <| gd rfl rfl (fun hB => lr tf24 (.m rfl hB) rfl) <| gd rfl rfl (fun hB => lnm sf24 (.m rfl hB)) <| gd rfl rfl (fun hB => bc (.m rfl hB) (.i rfl) rfl rfl) <| u (pko (.t rfl) (.t rfl)) <| .nil _) rfl ?_
      refine .bq h (.t rfl) (fun h => ?_) (fun h => ?_)
      · refine .sq ?_
        refine .rg (u (asg (.i rfl)) <| .nil _) rfl ?_
        replace h := mpR h hx1
        obtain rfl := Option.some.inj h
        exact .rt Try.func10 (.t rfl <| .n) .n rfl rfl
      · refine .skp ?_
        refine .ib ?_
        refine .rg (u (mv (.t rfl)) <| u (bi (.t rfl) (.i rfl) rfl) <| u (asg (.t rfl)) <| .nil _) rfl ?_
        exact .kq (.il (ih1 (ar .add .i64 v2 1) (nxi h))) (.c rfl (.c rfl .n)) .n
    · refine .xt rfl ?_
      replace h := mpR h hx1
      refine .sq ?_
      refine .rg (u (asg (.i rfl)) <| .nil _) rfl ?_
      obtain rfl := Option.some.inj h
      exact .rt Try.func10 (.t rfl <| .n) .n rfl rfl

theorem ref03_Fill_c {z : Option Nat} {b : List Int} {r : List Int} (h : ref03_Fill z b = some r) :
    AC Try.prog 22 [.ro (.list 1 (List.map e8 b))] (.own 0) [(0, .arr 5 1 (List.map e8 r))] := by
  refine AC.of Try.func22 rfl rfl fun w M0 hM => ?_
  unfold ref03_Fill at h
  refine .sq ?_
  refine .rg (anm e8 2 5 1 rfl rfl <| .nil _) rfl ?_
  refine .sq ?_
  refine be h fun x1 hx1 h => ?_
  refine .rg (bs (F := e8) (l := ([] : List Int)) 4 pf24 (.n) rfl (fun _ _ => rfl) rfl rfl <| u (mv (.t rfl)) <| ap 6 pf24 (.t rfl) rfl (.t rfl) hx1 rfl <| u (asg (.t rfl)) <| .nil _) rfl ?_
  refine .sq ?_
  refine .bl ?_
  unfold ref03_Fill_l1 at h
  refine .ks (fun i => bif Nat.beq i 3 then 6 else i) (.lo (fun (s : List Int) => ⟨[(3, .own 3)], [(3, some (.arr 5 1 (List.map e8 s)))]⟩) h ?_) (.c rfl .n) (.c rfl .n) rfl
  intro v2 u1 h ih1 hx1
  replace h : ref03_Fill_s1 z v2 = _ := h
  unfold ref03_Fill_s1 at h
  refine .sq ?_
  refine .sq ?_
  refine .rg (u (mv (.t rfl)) <| u (lom sf24 (.t rfl) rfl) <| u (di (.t rfl) (.i rfl) rfl (by decide)) <| u (bc (.t rfl) (.i rfl) rfl rfl) <| .nil _) rfl ?_
  refine .bq h (.t rfl) (fun h => ?_) (fun h => ?_)
  · refine .skp ?_
    refine .bl ?_
    refine be h fun x3 hx3 h => ?_
    refine .rg (u (mv (.t rfl)) <| bs (F := e8) (l := [0]) 12 pf24 (.c (.i rfl) rfl <| .n) rfl (fun _ _ => rfl) rfl rfl <| apo 13 pf24 (.t rfl) rfl (.t rfl) rfl hx3 rfl <| u (asg (.t rfl)) <| .nil _) rfl ?_
    refine .ib ?_
    exact .ks (fun i => bif Nat.beq i 3 then 13 else i) (.il (ih1 x3 (nxi h))) (.c rfl .n) (.c rfl .n) rfl
  · refine .xt rfl ?_
    replace h := mpR h hx1
    refine .sq ?_
    refine .rg (u (mv (.t rfl)) <| u (asg (.t rfl)) <| .nil _) rfl ?_
    obtain rfl := Option.some.inj h
    refine .ks (l := [(2, .own 0)]) (o := [(0, some (.arr 5 1 (List.map e8 v2)))]) (fun i => bif Nat.beq i 0 then 3 else i) ?_ (.c rfl .n) (.c rfl .n) rfl
    exact .rt Try.func22 (.t rfl <| .n) (.c rfl .n) rfl rfl

theorem ref03_Fill_r {z : Option Nat} {b : List Int} {r : List Int} (h : ref03_Fill z b = some r) :
    AC Try.prog 22 [.ro (.list 1 (List.map e8 b))] (.ro (.list 1 (List.map e8 r))) [] := AC.fz (ref03_Fill_c h) rfl

theorem ref08_Write_c {z : Option Nat} {l : List Elem} {r : List Int} (h : ref08_Write z l = some r) :
    AC Try.prog 11 [.ro (.list 2 (List.map cells_Elem l))] (.own 0) [(0, .arr 5 1 (List.map e8 r))] := by
  refine AC.of Try.func11 rfl rfl fun w M0 hM => ?_
  unfold ref08_Write at h
  refine .sq ?_
  refine .rg (anm e8 2 5 1 rfl rfl <| .nil _) rfl ?_
  refine .sq ?_
  refine .rg (anm e8 3 5 1 rfl rfl <| .nil _) rfl ?_
  refine .sq ?_
  refine .sq ?_
  refine .rg (u (asg (.i rfl)) <| .nil _) rfl ?_
  refine .bl ?_
  unfold ref08_Write_l1 at h
  refine .kq (.lo (fun (s : List Int × Int) => ⟨[(0, .ro (.list 2 (List.map cells_Elem l))), (3, .own 3), (4, .ro (.int .i64 s.2))], [(3, some (.arr 5 1 (List.map e8 s.1)))]⟩) h ?_) (.c rfl (.c rfl (.c rfl .n))) (.c rfl .n)
  rintro ⟨v1, v2⟩ u1 h ih1 hx1
  replace h : ref08_Write_s1 z l v1 v2 = _ := h
  unfold ref08_Write_s1 at h
  refine .sq ?_
  refine .sq ?_
  refine .rg (u (mv (.t rfl)) <| u (mv (.t rfl)) <| u (lnm sf22 (.t rfl)) <| u (bc (.t rfl) (.t rfl) rfl rfl) <| .nil _) rfl ?_
  refine .bq h (.t rfl) (fun h => ?_) (fun h => ?_)
  · refine .skp ?_
    refine .sq ?_
    refine .bl ?_
    refine .sq ?_
    refine be h fun x3 hx3 h => ?_
    refine .rg (u (mv (.t rfl)) <| u (mv (.t rfl)) <| u (ia sf22 (.t rfl) (.t rfl) (ix_map cells_Elem hx3)) <| u (fr ff49_1 (.t rfl) rfl) <| u (lr tf24 (.t rfl) rfl) <| u (lnm sf24 (.t rfl)) <| u (asg (.t rfl)) <| .nil _) rfl ?_
    refine .sq ?_
    refine .sq ?_
    refine be h fun x4 hx4 h => ?_
    refine .rg (u (mv (.t rfl)) <| cl [] cf10 (ref08_Profile_c hx4) (.c (.t rfl) <| .n) (.inl rfl) <| u (bc (.t rfl) (.i rfl) rfl rfl) <| .nil _) rfl ?_
    refine .jq (t := some u1) (fun (a : List Int) => ⟨[(0, .ro (.list 2 (List.map cells_Elem l))), (3, .own 3), (4, .ro (.int .i64 v2))], [(3, some (.arr 5 1 (List.map e8 a)))]⟩) (fun (a : List Int) => ref08_Write_j2 z l v2 a) ?_ (fun J2 => ?_)
    · intro v5 h
      replace h : ref08_Write_j2 z l v2 v5 = _ := h
      unfold ref08_Write_j2 at h
      refine be h fun x6 hx6 h => ?_
      refine be h fun x7 hx7 h => ?_
      refine .rg (u (mv (.t rfl)) <| u (mv (.t rfl)) <| u (mv (.t rfl)) <| u (ia sf22 (.t rfl) (.t rfl) (ix_map cells_Elem hx6)) <| u (fr ff49_1 (.t rfl) rfl) <| u (lr tf24 (.t rfl) rfl) <| ap 51 pf24 (.t rfl) rfl (.t rfl) hx7 rfl <| u (asg (.t rfl)) <| .nil _) rfl ?_
      refine .ib ?_
      refine .rg (u (mv (.t rfl)) <| u (bi (.t rfl) (.i rfl) rfl) <| u (asg (.t rfl)) <| .nil _) rfl ?_
      exact .ks (fun i => bif Nat.beq i 3 then 51 else i) (.il (ih1 (x7, (ar .add .i64 v2 1)) (nxi h))) (.c rfl (.c rfl (.c rfl .n))) (.c rfl .n) rfl
    refine .bq h (.t rfl) (fun h => ?_) (fun h => ?_)
    · refine be h fun x8 hx8 h => ?_
      refine be h fun x9 hx9 h => ?_
      refine .rg (u (mv (.t rfl)) <| u (mv (.t rfl)) <| u (mv (.t rfl)) <| u (ia sf22 (.t rfl) (.t rfl) (ix_map cells_Elem hx8)) <| u (fr ff49_0 (.t rfl) rfl) <| u (lr tf3 (.t rfl) rfl) <| u (bi (.i rfl) (.t rfl) rfl) <| u (mv (.t rfl)) <| u (bi (.t rfl) (.t rfl) rfl) <| u (bi (.t rfl) (.i rfl) rfl) <| u (cv cv3_5 (.t rfl)) <| bs (F := e8) (l := [(IntKind.u8.wrap (ar .sub .i64 (ar .add .i64 (ar .mul .i64 16 x8.id_) (x3.data.length : Int)) 1))]) 32 pf24 (.c (.t rfl) rfl <| .n) rfl (fun _ _ => rfl) rfl rfl <| apo 33 pf24 (.t rfl) rfl (.t rfl) rfl hx9 rfl <| u (asg (.t rfl)) <| .nil _) rfl ?_
      exact .ks (fun i => bif Nat.beq i 3 then 33 else i) (J2 x9 h) (.c rfl (.c rfl (.c rfl .n))) (.c rfl .n) rfl
    · refine be h fun x10 hx10 h => ?_
      refine be h fun x11 hx11 h => ?_
      refine .rg (u (mv (.t rfl)) <| u (mv (.t rfl)) <| u (mv (.t rfl)) <| u (ia sf22 (.t rfl) (.t rfl) (ix_map cells_Elem hx10)) <| u (fr ff49_0 (.t rfl) rfl) <| u (lr tf3 (.t rfl) rfl) <| u (cv cv3_5 (.t rfl)) <| u (mv (.t rfl)) <| u (cv cv3_5 (.t rfl)) <| bs (F := e8) (l := [(IntKind.u8.wrap x10.id_), (IntKind.u8.wrap (x3.data.length : Int))]) 43 pf24 (.c (.t rfl) rfl <| .c (.t rfl) rfl <| .n) rfl (fun _ _ => rfl) rfl rfl <| apo 44 pf24 (.t rfl) rfl (.t rfl) rfl hx11 rfl <| u (asg (.t rfl)) <| .nil _) rfl ?_
      exact .ks (fun i => bif Nat.beq i 3 then 44 else i) (J2 x11 h) (.c rfl (.c rfl (.c rfl .n))) (.c rfl .n) rfl
  · refine .xt rfl ?_
    replace h := mpR h hx1
    refine .sq ?_
    refine .fz 3 rfl ?_
    refine be h fun x12 hx12 h => ?_
    refine .rg (u (mv (.t rfl)) <| cnf 54000 cf22 (ref03_Fill_c hx12) (.c (.t rfl) <| .n) rfl rfl rfl <| u (asg (.t rfl)) <| .nil _) rfl ?_
    obtain rfl := Option.some.inj h
    refine .ks (l := [(2, .own 0)]) (o := [(0, some (.arr 5 1 (List.map e8 x12)))]) (fun i => bif Nat.beq i 0 then 54000 else i) ?_ (.c rfl .n) (.c rfl .n) rfl
    exact .rt Try.func11 (.t rfl <| .n) (.c rfl .n) rfl rfl

theorem ref08_Write_r {z : Option Nat} {l : List Elem} {r : List Int} (h : ref08_Write z l = some r) :
    AC Try.prog 11 [.ro (.list 2 (List.map cells_Elem l))] (.ro (.list 1 (List.map e8 r))) [] := AC.fz (ref08_Write_c h) rfl

theorem ref08_Spots_c {z : Option Nat} {profile : Int} {data : List Int} {r : List Spot × Int} (h : ref08_Spots z profile data = some r) :
    AC Try.prog 15 [.ro (.int .u16 profile), .ro (.list 1 (List.map e8 data))] (.tup [.own 0, .ro (.int .i64 r.2)]) [(0, .arr 43 3 (List.map cells_Spot r.1))] := by
  refine AC.of Try.func15 rfl rfl fun w M0 hM => ?_
  unfold ref08_Spots at h
  refine .sq ?_
  refine .rg (anm cells_Spot 4 43 3 rfl rfl <| u (asg (.i rfl)) <| .nil _) rfl ?_
  refine .sq ?_
  refine .rg (u (mv (.t rfl)) <| u (bc (.t rfl) (.i rfl) rfl rfl) <| u (asg (.t rfl)) <| .nil _) rfl ?_
  refine .sq ?_
  refine .sq ?_
  refine .rg (u (mv (.t rfl)) <| u (no (.t rfl)) <| u (mv (.t rfl)) <| gd rfl rfl (fun hB => mv (.t rfl)) <| gd rfl rfl (fun hB => di (.m rfl hB) (.i rfl) rfl (by decide)) <| gd rfl rfl (fun hB => bc (.m rfl hB) (.i rfl) rfl rfl) <| u (pka (.t rfl) (.t rfl)) <| .nil _) rfl ?_
  refine .bq h (.t rfl) (fun h => ?_) (fun h => ?_)
  · refine .sq ?_
    refine .rg (anm cells_Spot 100004 43 3 rfl rfl <| u (asg (.i rfl)) <| .nil _) rfl ?_
    obtain rfl := Option.some.inj h
    refine .ks (l := [(4, .own 0), (5, .ro (.int .i64 6))]) (o := [(0, some (.arr 43 3 (List.map cells_Spot [])))]) (fun i => bif Nat.beq i 0 then 100004 else i) ?_ (.c rfl (.c rfl .n)) (.c rfl .n) rfl
    exact .rt Try.func15 (.t rfl <| .t rfl <| .n) (.c rfl .n) rfl rfl
  · refine .skp ?_
    refine .sq ?_
    refine .rg (anm cells_Spot 7 43 3 rfl rfl <| .nil _) rfl ?_
    refine .sq ?_
    refine .rg (u (asg (.i rfl)) <| .nil _) rfl ?_
    refine .sq ?_
    refine .bl ?_
    unfold ref08_Spots_l1 at h
    refine .kq (.lo (fun (s : List Spot × Int) => ⟨[(1, .ro (.list 1 (List.map e8 data))), (6, .ro (.bool (cm .eql profile 48862))), (7, .own 7), (8, .ro (.int .i64 s.2))], [(7, some (.arr 43 3 (List.map cells_Spot s.1)))]⟩) h ?_) (.c rfl (.c rfl (.c rfl (.c rfl .n)))) (.c rfl .n)
    rintro ⟨v1, v2⟩ u1 h ih1 hx1
    replace h : ref08_Spots_s1 z profile data v1 v2 = _ := h
    unfold ref08_Spots_s1 at h
    refine .sq ?_
    refine .sq ?_
    refine .rg (u (mv (.t rfl)) <| u (mv (.t rfl)) <| u (lnm sf24 (.t rfl)) <| u (bc (.t rfl) (.t rfl) rfl rfl) <| .nil _) rfl ?_
    refine .bq h (.t rfl) (fun h => ?_) (fun h => ?_)
    · refine .skp ?_
      refine .bl ?_
      refine .sq ?_
      refine be h fun x3 hx3 h => ?_
      refine .rg (u (mv (.t rfl)) <| u (mv (.t rfl)) <| u (ia sf24 (.t rfl) (.t rfl) (ix_map e8 hx3)) <| u (lr tf5 (.t rfl) rfl) <| u (cv cv5_3 (.t rfl)) <| u (asg (.t rfl)) <| .nil _) rfl ?_
      refine .sq ?_
      refine .sq ?_
      refine .rg (u (mv (.t rfl)) <| u (bc (.t rfl) (.i rfl) rfl rfl) <| .nil _) rfl ?_
      refine .bq h (.t rfl) (fun h => ?_) (fun h => ?_)
      · refine .sq ?_
        refine .rg (u (mv (.t rfl)) <| u (bi (.t rfl) (.i rfl) rfl) <| u (asg (.t rfl)) <| .nil _) rfl ?_
        refine .xt rfl ?_
        exact .kq (.il (ih1 (v1, (ar .add .i64 v2 1)) (nxi h))) (.c rfl (.c rfl (.c rfl (.c rfl .n)))) (.c rfl .n)
      · refine .skp ?_
        refine .sq ?_
        refine .rg (u (mv (.t rfl)) <| u (mv (.t rfl)) <| u (bi (.t rfl) (.i rfl) rfl) <| u (bd bf43 zf43 (.c rfl (.t rfl) rfl rfl rfl <| .c rfl (.t rfl) rfl rfl rfl <| .n) rfl) <| al 10 zf43 rfl <| st tf43 (.t rfl) rfl (.t rfl) rfl rfl rfl <| .nil _) rfl ?_
        refine .sq ?_
        refine .sq ?_
        refine .rg (u (mv (.t rfl)) <| .nil _) rfl ?_
        refine .jq (t := some u1) (fun (a : Spot) => ⟨[(1, .ro (.list 1 (List.map e8 data))), (6, .ro (.bool (cm .eql profile 48862))), (7, .own 7), (10, .ptr 10 0)], [(7, some (.arr 43 3 (List.map cells_Spot v1))), (10, some (.box [.ro (.int .i64 a.id_), .ro (.int .i64 a.at_), .ro (.int .i64 a.size)]))]⟩) (fun (a : Spot) => ref08_Spots_j2 z data v1 a) ?_ (fun J2 => ?_)
        · intro v4 h
          replace h : ref08_Spots_j2 z data v1 v4 = _ := h
          unfold ref08_Spots_j2 at h
          refine .sq ?_
          refine .sq ?_
          refine .rg (u (fa ff43_1 (.t rfl)) <| u (ld tf3 (.t rfl) rfl rfl) <| u (fa ff43_2 (.t rfl)) <| u (ld tf3 (.t rfl) rfl rfl) <| u (bi (.t rfl) (.t rfl) rfl) <| u (mv (.t rfl)) <| u (lnm sf24 (.t rfl)) <| u (bc (.t rfl) (.t rfl) rfl rfl) <| .nil _) rfl ?_
          refine .bq h (.t rfl) (fun h => ?_) (fun h => ?_)
          · refine .sq ?_
            refine .rg (anm cells_Spot 4 43 3 rfl rfl <| u (asg (.i rfl)) <| .nil _) rfl ?_
            replace h := mpR h hx1
            obtain rfl := Option.some.inj h
            refine .ks (l := [(4, .own 0), (5, .ro (.int .i64 4))]) (o := [(0, some (.arr 43 3 (List.map cells_Spot [])))]) (fun i => bif Nat.beq i 0 then 4 else i) ?_ (.c rfl (.c rfl .n)) (.c rfl .n) rfl
            exact .rt Try.func15 (.t rfl <| .t rfl <| .n) (.c rfl .n) rfl rfl
          · refine .skp ?_
            refine .sq ?_
            refine .sq ?_
            refine .rg (u (asg (.i rfl)) <| .nil _) rfl ?_
            refine .bl ?_
            unfold ref08_Spots_l3 at h
            refine .kq (.lo (fun (s : Int) => ⟨[(1, .ro (.list 1 (List.map e8 data))), (6, .ro (.bool (cm .eql profile 48862))), (7, .own 7), (10, .ptr 10 0), (11, .ro (.int .i64 s))], [(7, some (.arr 43 3 (List.map cells_Spot v1))), (10, some (.box [.ro (.int .i64 v4.id_), .ro (.int .i64 v4.at_), .ro (.int .i64 v4.size)]))]⟩) h ?_) (.c rfl (.c rfl (.c rfl (.c rfl (.c rfl .n))))) (.c rfl (.c rfl .n))
            intro v5 u3 h ih3 hx3
            replace h : ref08_Spots_s3 z v1 v4 v5 = _ := h
            unfold ref08_Spots_s3 at h
            refine .sq ?_
            refine .sq ?_
            refine .rg (u (mv (.t rfl)) <| u (mv (.t rfl)) <| u (lom sf36 (.t rfl) rfl) <| u (bc (.t rfl) (.t rfl) rfl rfl) <| .nil _) rfl ?_
            refine .bq h (.t rfl) (fun h => ?_) (fun h => ?_)
            · refine .skp ?_
              refine .sq ?_
              refine .bl ?_
              refine .sq ?_
              refine be h fun x6 hx6 h => ?_
              refine .rd mixed (u (mv (.t rfl)) <| u (mv (.t rfl)) <| u (io sf36 (.t rfl) rfl (.t rfl) (ix_map cells_Spot hx6)) <| u (fa ff43_0 (.t rfl)) <| u (lef tf3 (.t rfl) rfl (ix_lt (ix_map cells_Spot hx6)).2.2 rfl rfl) <| u (fa ff43_0 (.t rfl)) <| u (ld tf3 (.t rfl) rfl rfl) <| u (bc (.t rfl) (.t rfl) rfl rfl) <| .nil _) (by kernel_rfl) rfl ?_
              refine .bq h (.t rfl) (fun h => ?_) (fun h => ?_)
              · refine .sq ?_
                refine .rg (anm cells_Spot 4 43 3 rfl rfl <| u (asg (.i rfl)) <| .nil _) rfl ?_
                replace h := mpR h hx3
                replace h := mpR h hx1
                obtain rfl := Option.some.inj h
                refine .ks (l := [(4, .own 0), (5, .ro (.int .i64 6))]) (o := [(0, some (.arr 43 3 (List.map cells_Spot [])))]) (fun i => bif Nat.beq i 0 then 4 else i) ?_ (.c rfl (.c rfl .n)) (.c rfl .n) rfl
                exact .rt Try.func15 (.t rfl <| .t rfl <| .n) (.c rfl .n) rfl rfl
              · refine .skp ?_
                refine .ib ?_
                refine .rg (u (mv (.t rfl)) <| u (bi (.t rfl) (.i rfl) rfl) <| u (asg (.t rfl)) <| .nil _) rfl ?_
                exact .kq (.il (ih3 (ar .add .i64 v5 1) (nxi h))) (.c rfl (.c rfl (.c rfl (.c rfl (.c rfl .n))))) (.c rfl (.c rfl .n))
            · refine .xt rfl ?_
              replace h := mpR h hx3
              refine .sq ?_
              refine be h fun x7 hx7 h => ?_
              refine .rg (u (mv (.t rfl)) <| u (ld tf43 (.t rfl) rfl rfl) <| bs (F := cells_Spot) (l := [v4]) 92 pf36 (.c (.t rfl) rfl <| .n) rfl (fun _ _ => rfl) rfl rfl <| apo 93 pf36 (.t rfl) rfl (.t rfl) rfl hx7 rfl <| u (asg (.t rfl)) <| .nil _) rfl ?_
              refine .rg (u (fa ff43_1 (.t rfl)) <| u (ld tf3 (.t rfl) rfl rfl) <| u (fa ff43_2 (.t rfl)) <| u (ld tf3 (.t rfl) rfl rfl) <| u (bi (.t rfl) (.t rfl) rfl) <| u (asg (.t rfl)) <| .nil _) rfl ?_
              refine .ib ?_
              exact .ks (fun i => bif Nat.beq i 7 then 93 else i) (.il (ih1 (x7, (ar .add .i64 v4.at_ v4.size)) (nxi h))) (.c rfl (.c rfl (.c rfl (.c rfl .n)))) (.c rfl .n) rfl
        refine .bq h (.t rfl) (fun h => ?_) (fun h => ?_)
        · refine .sq ?_
          refine .rg (u (mv (.t rfl)) <| u (di (.t rfl) (.i rfl) rfl (by decide)) <| u (mv (.t rfl)) <| u (bi (.t rfl) (.i rfl) rfl) <| u (mv (.t rfl)) <| u (di (.t rfl) (.i rfl) rfl (by decide)) <| u (bi (.t rfl) (.i rfl) rfl) <| u (bd bf43 zf43 (.c rfl (.t rfl) rfl rfl rfl <| .c rfl (.t rfl) rfl rfl rfl <| .c rfl (.t rfl) rfl rfl rfl <| .n) rfl) <| st tf43 (.t rfl) rfl (.t rfl) rfl rfl rfl <| .nil _) rfl ?_
          refine .sq ?_
          refine .rg (u (fa ff43_0 (.t rfl)) <| u (ld tf3 (.t rfl) rfl rfl) <| u (bc (.t rfl) (.i rfl) rfl rfl) <| u (mv (.t rfl)) <| gd rfl rfl (fun hB => fa ff43_0 (.t rfl)) <| gd rfl rfl (fun hB => ld tf3 (.m rfl hB) rfl rfl) <| gd rfl rfl (fun hB => bc (.m rfl hB) (.i rfl) rfl rfl) <| u (pko (.t rfl) (.t rfl)) <| .nil _) rfl ?_
          refine .bq h (.t rfl) (fun h => ?_) (fun h => ?_)
          · refine .sq ?_
            refine .rg (u (mv (.t rfl)) <| u (asg (.t rfl)) <| u (asg (.i rfl)) <| .nil _) rfl ?_
            replace h := mpR h hx1
            obtain rfl := Option.some.inj h
            refine .ks (l := [(4, .own 0), (5, .ro (.int .i64 0))]) (o := [(0, some (.arr 43 3 (List.map cells_Spot v1)))]) (fun i => bif Nat.beq i 0 then 7 else i) ?_ (.c rfl (.c rfl .n)) (.c rfl .n) rfl
            exact .rt Try.func15 (.t rfl <| .t rfl <| .n) (.c rfl .n) rfl rfl
          · refine .skp ?_
            exact .kq (J2 (Spot.mk (dv .quo .i64 (IntKind.i64.wrap x3) 16) (ar .add .i64 v2 1) (ar .add .i64 (dv .rem .i64 (IntKind.i64.wrap x3) 16) 1)) h) (.c rfl (.c rfl (.c rfl (.c rfl .n)))) (.c rfl (.c rfl .n))
        · refine .sq ?_
          refine .sq ?_
          refine .rg (u (mv (.t rfl)) <| u (bi (.t rfl) (.i rfl) rfl) <| u (mv (.t rfl)) <| u (lnm sf24 (.t rfl)) <| u (bc (.t rfl) (.t rfl) rfl rfl) <| .nil _) rfl ?_
          refine .bq h (.t rfl) (fun h => ?_) (fun h => ?_)
          · refine .sq ?_
            refine .rg (anm cells_Spot 4 43 3 rfl rfl <| u (asg (.i rfl)) <| .nil _) rfl ?_
            replace h := mpR h hx1
            obtain rfl := Option.some.inj h
            refine .ks (l := [(4, .own 0), (5, .ro (.int .i64 4))]) (o := [(0, some (.arr 43 3 (List.map cells_Spot [])))]) (fun i => bif Nat.beq i 0 then 4 else i) ?_ (.c rfl (.c rfl .n)) (.c rfl .n) rfl
            exact .rt Try.func15 (.t rfl <| .t rfl <| .n) (.c rfl .n) rfl rfl
          · refine .skp ?_
            refine be h fun x8 hx8 h => ?_
            refine .rg (u (mv (.t rfl)) <| u (mv (.t rfl)) <| u (bi (.t rfl) (.i rfl) rfl) <| u (ia sf24 (.t rfl) (.t rfl) (ix_map e8 hx8)) <| u (lr tf5 (.t rfl) rfl) <| u (cv cv5_3 (.t rfl)) <| u (fa ff43_2 (.t rfl)) <| st tf3 (.t rfl) rfl (.t rfl) rfl rfl rfl <| .nil _) rfl ?_
            exact .kq (J2 (Spot.mk (IntKind.i64.wrap x3) (ar .add .i64 v2 2) (IntKind.i64.wrap x8)) h) (.c rfl (.c rfl (.c rfl (.c rfl .n)))) (.c rfl (.c rfl .n))
    · refine .xt rfl ?_
      replace h := mpR h hx1
      refine .sq ?_
      refine .rg (u (mv (.t rfl)) <| u (asg (.t rfl)) <| u (asg (.i rfl)) <| .nil _) rfl ?_
      obtain rfl := Option.some.inj h
      refine .ks (l := [(4, .own 0), (5, .ro (.int .i64 0))]) (o := [(0, some (.arr 43 3 (List.map cells_Spot v1)))]) (fun i => bif Nat.beq i 0 then 7 else i) ?_ (.c rfl (.c rfl .n)) (.c rfl .n) rfl
      exact .rt Try.func15 (.t rfl <| .t rfl <| .n) (.c rfl .n) rfl rfl

theorem ref08_Spots_r {z : Option Nat} {profile : Int} {data : List Int} {r : List Spot × Int} (h : ref08_Spots z profile data = some r) :
    AC Try.prog 15 [.ro (.int .u16 profile), .ro (.list 1 (List.map e8 data))] (.ro (.tup [.list 3 (List.map cells_Spot r.1), .int .i64 r.2])) [] := AC.fz (ref08_Spots_c h) rfl

theorem ref08_Read_c {z : Option Nat} {profile : Int} {data : List Int} {r : List Elem × Int} (h : ref08_Read z profile data = some r) :
    AC Try.prog 13 [.ro (.int .u16 profile), .ro (.list 1 (List.map e8 data))] (.tup [.own 0, .ro (.int .i64 r.2)]) [(0, .arr 49 2 (List.map cells_Elem r.1))] := by
  refine AC.of Try.func13 rfl rfl fun w M0 hM => ?_
  unfold ref08_Read at h
  refine .sq ?_
  refine .rg (anm cells_Elem 4 49 2 rfl rfl <| u (asg (.i rfl)) <| .nil _) rfl ?_
  refine .sq ?_
  refine be h fun x1 hx1 h => ?_
  refine .rg (u (mv (.t rfl)) <| u (mv (.t rfl)) <| cnf 14000 cf15 (ref08_Spots_c hx1) (.c (.t rfl) <| .c (.t rfl) <| .n) rfl rfl rfl <| u (mv (.t rfl)) <| u (ex (.t rfl) rfl rfl) <| u (ex (.t rfl) rfl rfl) <| u (asg (.t rfl)) <| u (asg (.t rfl)) <| .nil _) rfl ?_
  refine .sq ?_
  refine .rg (anm cells_Elem 8 49 2 rfl rfl <| .nil _) rfl ?_
  refine .sq ?_
  refine .sq ?_
  refine .rg (u (asg (.i rfl)) <| .nil _) rfl ?_
  refine .bl ?_
  unfold ref08_Read_l1 at h
  refine .kq (.lo (fun (s : List Elem × Int) => ⟨[(1, .ro (.list 1 (List.map e8 data))), (6, .own 14000), (7, .ro (.int .i64 x1.2)), (8, .own 8), (9, .ro (.int .i64 s.2))], [(8, some (.arr 49 2 (List.map cells_Elem s.1))), (14000, some (.arr 43 3 (List.map cells_Spot x1.1)))]⟩) h ?_) (.c rfl (.c rfl (.c rfl (.c rfl (.c rfl .n))))) (.c rfl (.c rfl .n))
  rintro ⟨v2, v3⟩ u1 h ih1 hx1
  replace h : ref08_Read_s1 z data x1 v2 v3 = _ := h
  unfold ref08_Read_s1 at h
  refine .sq ?_
  refine .sq ?_
  refine .rg (u (mv (.t rfl)) <| u (mv (.t rfl)) <| u (lom sf36 (.t rfl) rfl) <| u (bc (.t rfl) (.t rfl) rfl rfl) <| .nil _) rfl ?_
  refine .bq h (.t rfl) (fun h => ?_) (fun h => ?_)
  · refine .skp ?_
    refine .sq ?_
    refine .bl ?_
    refine be h fun x4 hx4 h => ?_
    refine be h fun x5 hx5 h => ?_
    refine be h fun x6 hx6 h => ?_
    refine be h fun x7 hx7 h => ?_
    refine be h fun x8 hx8 h => ?_
    refine be h fun x9 hx9 h => ?_
    refine be h fun x10 hx10 h => ?_
    refine .rd mixed (u (mv (.t rfl)) <| u (mv (.t rfl)) <| u (mv (.t rfl)) <| u (io sf36 (.t rfl) rfl (.t rfl) (ix_map cells_Spot hx4)) <| u (fa ff43_0 (.t rfl)) <| u (lef tf3 (.t rfl) rfl (ix_lt (ix_map cells_Spot hx4)).2.2 rfl rfl) <| bs (F := e8) (l := ([] : List Int)) 28 pf24 (.n) rfl (fun _ _ => rfl) rfl rfl <| u (mv (.t rfl)) <| u (mv (.t rfl)) <| u (mv (.t rfl)) <| u (io sf36 (.t rfl) rfl (.t rfl) (ix_map cells_Spot hx5)) <| u (fa ff43_1 (.t rfl)) <| u (lef tf3 (.t rfl) rfl (ix_lt (ix_map cells_Spot hx5)).2.2 rfl rfl) <| u (mv (.t rfl)) <| u (mv (.t rfl)) <| u (io sf36 (.t rfl) rfl (.t rfl) (ix_map cells_Spot hx6)) <| u (fa ff43_1 (.t rfl)) <| u (lef tf3 (.t rfl) rfl (ix_lt (ix_map cells_Spot hx6)).2.2 rfl rfl) <| u (mv (.t rfl)) <| u (mv (.t rfl)) <| u (io sf36 (.t rfl) rfl (.t rfl) (ix_map cells_Spot hx7)) <| u (fa ff43_2 (.t rfl)) <| u (lef tf3 (.t rfl) rfl (ix_lt (ix_map cells_Spot hx7)).2.2 rfl rfl) <| u (bi (.t rfl) (.t rfl) rfl) <| u (sl sf24 (.t rfl) (.s (.t rfl)) (.s (.t rfl)) hx8) <| apr pf24 (.t rfl) rfl (.t rfl) hx9 <| u (bd bf49 zf49 (.c rfl (.t rfl) rfl rfl rfl <| .c rfl (.t rfl) rfl rfl rfl <| .n) rfl) <| bs (F := cells_Elem) (l := [{ x4 with data := x9 }]) 49 pf22 (.c (.t rfl) rfl <| .n) rfl (fun _ _ => rfl) rfl rfl <| apo 50 pf22 (.t rfl) rfl (.t rfl) rfl hx10 rfl <| u (asg (.t rfl)) <| .nil _) (by kernel_rfl) rfl ?_
    refine .ib ?_
    refine .rg (u (mv (.t rfl)) <| u (bi (.t rfl) (.i rfl) rfl) <| u (asg (.t rfl)) <| .nil _) rfl ?_
    exact .ks (fun i => bif Nat.beq i 8 then 50 else i) (.il (ih1 (x10, (ar .add .i64 v3 1)) (nxi h))) (.c rfl (.c rfl (.c rfl (.c rfl (.c rfl .n))))) (.c rfl (.c rfl .n)) rfl
  · refine .xt rfl ?_
    replace h := mpR h hx1
    refine .sq ?_
    refine .rg (u (mv (.t rfl)) <| u (mv (.t rfl)) <| u (asg (.t rfl)) <| u (asg (.t rfl)) <| .nil _) rfl ?_
    obtain rfl := Option.some.inj h
    refine .ks (l := [(4, .own 0), (5, .ro (.int .i64 x1.2))]) (o := [(0, some (.arr 49 2 (List.map cells_Elem v2)))]) (fun i => bif Nat.beq i 0 then 8 else i) ?_ (.c rfl (.c rfl .n)) (.c rfl .n) rfl
    exact .rt Try.func13 (.t rfl <| .t rfl <| .n) (.c rfl .n) rfl rfl

theorem ref08_Read_r {z : Option Nat} {profile : Int} {data : List Int} {r : List Elem × Int} (h : ref08_Read z profile data = some r) :
    AC Try.prog 13 [.ro (.int .u16 profile), .ro (.list 1 (List.map e8 data))] (.ro (.tup [.list 2 (List.map cells_Elem r.1), .int .i64 r.2])) [] := AC.fz (ref08_Read_c h) rfl

theorem ref08_Same_c {z : Option Nat} {p_a : List Elem} {b : List Elem} {r : Bool} (h : ref08_Same z p_a b = some r) :
    AC Try.prog 16 [.ro (.list 2 (List.map cells_Elem p_a)), .ro (.list 2 (List.map cells_Elem b))] (.ro (.bool r)) [] := by
  refine AC.of Try.func16 rfl rfl fun w M0 hM => ?_
  unfold ref08_Same at h
  refine .sq ?_
  refine .rg (u (asg .b) <| .nil _) rfl ?_
  refine .sq ?_
  refine .sq ?_
  refine .rg (u (mv (.t rfl)) <| u (lnm sf22 (.t rfl)) <| u (mv (.t rfl)) <| u (lnm sf22 (.t rfl)) <| u (bc (.t rfl) (.t rfl) rfl rfl) <| .nil _) rfl ?_
  refine .bq h (.t rfl) (fun h => ?_) (fun h => ?_)
  · refine .sq ?_
    refine .rg (u (asg .b) <| .nil _) rfl ?_
    obtain rfl := Option.some.inj h
    exact .rt Try.func16 (.t rfl <| .n) .n rfl rfl
  · refine .skp ?_
    refine .sq ?_
    refine .sq ?_
    refine .rg (u (asg (.i rfl)) <| .nil _) rfl ?_
    refine .bl ?_
    unfold ref08_Same_l1 at h
    refine .kq (.lo (fun (s : Int) => ⟨[(0, .ro (.list 2 (List.map cells_Elem p_a))), (1, .ro (.list 2 (List.map cells_Elem b))), (5, .ro (.int .i64 s))], []⟩) h ?_) (.c rfl (.c rfl (.c rfl .n))) .n
    intro v1 u1 h ih1 hx1
    replace h : ref08_Same_s1 z p_a b v1 = _ := h
    unfold ref08_Same_s1 at h
    refine .sq ?_
    refine .sq ?_
    refine .rg (u (mv (.t rfl)) <| u (mv (.t rfl)) <| u (lnm sf22 (.t rfl)) <| u (bc (.t rfl) (.t rfl) rfl rfl) <| .nil _) rfl ?_
    refine .bq h (.t rfl) (fun h => ?_) (fun h => ?_)
    · refine .skp ?_
      refine .sq ?_
      refine .bl ?_
      refine .sq ?_
      refine be h fun x2 hx2 h => ?_
      refine be h fun x3 hx3 h => ?_
      refine be h fun x4 hx4 h => ?_
      refine be h fun x5 hx5 h => ?_
      refine .rd mixed (u (mv (.t rfl)) <| u (mv (.t rfl)) <| u (ia sf22 (.t rfl) (.t rfl) (ix_map cells_Elem hx2)) <| u (fr ff49_0 (.t rfl) rfl) <| u (lr tf3 (.t rfl) rfl) <| u (mv (.t rfl)) <| u (mv (.t rfl)) <| u (ia sf22 (.t rfl) (.t rfl) (ix_map cells_Elem hx3)) <| u (fr ff49_0 (.t rfl) rfl) <| u (lr tf3 (.t rfl) rfl) <| u (bc (.t rfl) (.t rfl) rfl rfl) <| u (mv (.t rfl)) <| gd rfl rfl (fun hB => mv (.t rfl)) <| gd rfl rfl (fun hB => mv (.t rfl)) <| gd rfl rfl (fun hB => ia sf22 (.m rfl hB) (.m rfl hB) (ix_map cells_Elem (gTt hx4 (nt hB)))) <| gd rfl rfl (fun hB => fr ff49_1 (.m rfl hB) rfl) <| gd rfl rfl (fun hB => lr tf24 (.m rfl hB) rfl) <| gd rfl rfl (fun hB => bt bt24_9 (.m rfl hB)) <| gd rfl rfl (fun hB => mv (.t rfl)) <| gd rfl rfl (fun hB => mv (.t rfl)) <| gd rfl rfl (fun hB => ia sf22 (.m rfl hB) (.m rfl hB) (ix_map cells_Elem (gTt hx5 (nt hB)))) <| gd rfl rfl (fun hB => fr ff49_1 (.m rfl hB) rfl) <| gd rfl rfl (fun hB => lr tf24 (.m rfl hB) rfl) <| gd rfl rfl (fun hB => bt bt24_9 (.m rfl hB)) <| gd rfl rfl (fun hB => sq (.m rfl hB) (.m rfl hB) rfl rfl) <| u (pko (.t rfl) (.t rfl)) <| .nil _) (by kernel_rfl) rfl ?_
      refine .bq h (.t rfl) (fun h => ?_) (fun h => ?_)
      · refine .sq ?_
        refine .rg (u (asg .b) <| .nil _) rfl ?_
        replace h := mpR h hx1
        obtain rfl := Option.some.inj h
        exact .rt Try.func16 (.t rfl <| .n) .n rfl rfl
      · refine .skp ?_
        refine .ib ?_
        refine .rg (u (mv (.t rfl)) <| u (bi (.t rfl) (.i rfl) rfl) <| u (asg (.t rfl)) <| .nil _) rfl ?_
        exact .kq (.il (ih1 (ar .add .i64 v1 1) (nxi h))) (.c rfl (.c rfl (.c rfl .n))) .n
    · refine .xt rfl ?_
      replace h := mpR h hx1
      refine .sq ?_
      refine .rg (u (asg .b) <| .nil _) rfl ?_
      obtain rfl := Option.some.inj h
      exact .rt Try.func16 (.t rfl <| .n) .n rfl rfl

theorem ref08_Canon_c {z : Option Nat} {profile : Int} {data : List Int} {r : Bool} (h : ref08_Canon z profile data = some r) :
    AC Try.prog 20 [.ro (.int .u16 profile), .ro (.list 1 (List.map e8 data))] (.ro (.bool r)) [] := by
  refine AC.of Try.func20 rfl rfl fun w M0 hM => ?_
  unfold ref08_Canon at h
  refine .sq ?_
  refine .rg (u (asg .b) <| .nil _) rfl ?_
  refine .sq ?_
  refine be h fun x1 hx1 h => ?_
  refine .rg (u (mv (.t rfl)) <| u (mv (.t rfl)) <| cnf 11000 cf13 (ref08_Read_c hx1) (.c (.t rfl) <| .c (.t rfl) <| .n) rfl rfl rfl <| u (mv (.t rfl)) <| u (ex (.t rfl) rfl rfl) <| u (ex (.t rfl) rfl rfl) <| u (asg (.t rfl)) <| u (asg (.t rfl)) <| .nil _) rfl ?_
  refine .sq ?_
  refine .fz 11000 rfl ?_
  refine be h fun x2 hx2 h => ?_
  refine be h fun x3 hx3 h => ?_
  refine .rd mixed (u (mv (.t rfl)) <| u (bc (.t rfl) (.i rfl) rfl rfl) <| u (mv (.t rfl)) <| gd rfl rfl (fun hB => mv (.t rfl)) <| cg rfl rfl cf10 (fun hB => (ref08_Profile_c (gTt hx2 hB))) (fun hB => .c (.m rfl hB) <| .n) (.inl rfl) <| gd rfl rfl (fun hB => mv (.t rfl)) <| gd rfl rfl (fun hB => bc (.m rfl hB) (.m rfl hB) rfl rfl) <| u (pka (.t rfl) (.t rfl)) <| u (mv (.t rfl)) <| gd rfl rfl (fun hB => mv (.t rfl)) <| cg rfl rfl cf11 (fun hB => (ref08_Write_r (gTt hx3 hB))) (fun hB => .c (.m rfl hB) <| .n) (.inl rfl) <| gd rfl rfl (fun hB => bt bt24_9 (.m rfl hB)) <| gd rfl rfl (fun hB => mv (.t rfl)) <| gd rfl rfl (fun hB => bt bt24_9 (.m rfl hB)) <| gd rfl rfl (fun hB => sq (.m rfl hB) (.m rfl hB) rfl rfl) <| u (pka (.t rfl) (.t rfl)) <| u (asg (.t rfl)) <| .nil _) (by kernel_rfl) rfl ?_
  obtain rfl := Option.some.inj h
  exact .rt Try.func20 (.t rfl <| .n) .n rfl rfl

theorem law08_ElemRight_c {z : Option Nat} {l : List Elem} {profile : Int} {data : List Int} {r : Bool} (h : law08_ElemRight z l profile data = some r) :
    AC Try.prog 3 [.ro (.list 2 (List.map cells_Elem l)), .ro (.int .u16 profile), .ro (.list 1 (List.map e8 data))] (.ro (.bool r)) [] := by
  refine AC.of Try.func3 rfl rfl fun w M0 hM => ?_
  unfold law08_ElemRight at h
  refine .sq ?_
  refine .rg (u (asg .b) <| .nil _) rfl ?_
  refine .sq ?_
  refine .sq ?_
  refine .rg (cl [] cf6 law08_awake_k (.n) (.inl rfl) <| u (no (.t rfl)) <| .nil _) rfl ?_
  refine .cf (.t rfl) rfl ?_
  refine .skp ?_
  refine .sq ?_
  refine .sq ?_
  refine be h fun x1 hx1 h => ?_
  refine .rg (u (mv (.t rfl)) <| cl [] cf7 (ref08_Short_c hx1) (.c (.t rfl) <| .n) (.inl rfl) <| u (no (.t rfl)) <| u (mv (.t rfl)) <| gd rfl rfl (fun hB => mv (.t rfl)) <| gd rfl rfl (fun hB => lnm sf24 (.m rfl hB)) <| gd rfl rfl (fun hB => bc (.m rfl hB) (.i rfl) rfl rfl) <| u (pko (.t rfl) (.t rfl)) <| .nil _) rfl ?_
  refine .bq h (.t rfl) (fun h => ?_) (fun h => ?_)
  · refine .sq ?_
    refine .rg (u (asg .b) <| .nil _) rfl ?_
    obtain rfl := Option.some.inj h
    exact .rt Try.func3 (.t rfl <| .n) .n rfl rfl
  · refine .skp ?_
    refine .sq ?_
    refine be h fun x2 hx2 h => ?_
    refine .rg (u (mv (.t rfl)) <| cnf 32000 cf8 (elem_Write_c hx2) (.c (.t rfl) <| .n) rfl rfl rfl <| u (mv (.t rfl)) <| u (ex (.t rfl) rfl rfl) <| u (ex (.t rfl) rfl rfl) <| u (ex (.t rfl) rfl rfl) <| u (asg (.t rfl)) <| u (asg (.t rfl)) <| u (asg (.t rfl)) <| .nil _) rfl ?_
    refine .sq ?_
    refine .sq ?_
    refine be h fun x3 hx3 h => ?_
    refine .rg (u (mv (.t rfl)) <| cl [] cf9 (ref08_Right_c hx3) (.c (.t rfl) <| .n) (.inl rfl) <| .nil _) rfl ?_
    refine .jq (t := some r) (fun (a : Unit) => ⟨[(0, .ro (.list 2 (List.map cells_Elem l))), (1, .ro (.int .u16 profile)), (2, .ro (.list 1 (List.map e8 data)))], []⟩) (fun (a : Unit) => law08_ElemRight_j1 z l profile data) ?_ (fun J1 => ?_)
    · intro _ h
      replace h : law08_ElemRight_j1 z l profile data = _ := h
      unfold law08_ElemRight_j1 at h
      refine .sq ?_
      refine be h fun x4 hx4 h => ?_
      refine .rg (u (mv (.t rfl)) <| u (mv (.t rfl)) <| cnf 68000 cf12 (elem_Read_c hx4) (.c (.t rfl) <| .c (.t rfl) <| .n) rfl rfl rfl <| u (mv (.t rfl)) <| u (ex (.t rfl) rfl rfl) <| u (ex (.t rfl) rfl rfl) <| u (asg (.t rfl)) <| u (asg (.t rfl)) <| .nil _) rfl ?_
      refine .sq ?_
      refine be h fun x5 hx5 h => ?_
      refine .rg (u (mv (.t rfl)) <| u (mv (.t rfl)) <| cnf 74000 cf13 (ref08_Read_c hx5) (.c (.t rfl) <| .c (.t rfl) <| .n) rfl rfl rfl <| u (mv (.t rfl)) <| u (ex (.t rfl) rfl rfl) <| u (ex (.t rfl) rfl rfl) <| u (asg (.t rfl)) <| u (asg (.t rfl)) <| .nil _) rfl ?_
      refine .sq ?_
      refine be h fun x6 hx6 h => ?_
      refine .rg (u (mv (.t rfl)) <| u (mv (.t rfl)) <| cnf 80000 cf14 (elem_Spots_c hx6) (.c (.t rfl) <| .c (.t rfl) <| .n) rfl rfl rfl <| u (mv (.t rfl)) <| u (ex (.t rfl) rfl rfl) <| u (ex (.t rfl) rfl rfl) <| u (asg (.t rfl)) <| u (asg (.t rfl)) <| .nil _) rfl ?_
      refine .sq ?_
      refine be h fun x7 hx7 h => ?_
      refine .rg (u (mv (.t rfl)) <| u (mv (.t rfl)) <| cnf 86000 cf15 (ref08_Spots_c hx7) (.c (.t rfl) <| .c (.t rfl) <| .n) rfl rfl rfl <| u (mv (.t rfl)) <| u (ex (.t rfl) rfl rfl) <| u (ex (.t rfl) rfl rfl) <| u (asg (.t rfl)) <| u (asg (.t rfl)) <| .nil _) rfl ?_
      refine .sq ?_
      refine .sq ?_
      refine be h fun x8 hx8 h => ?_
      refine .rg (u (mv (.t rfl)) <| u (mv (.t rfl)) <| u (bc (.t rfl) (.t rfl) rfl rfl) <| u (mv (.t rfl)) <| gd rfl rfl (fun hB => mv (.t rfl)) <| gd rfl rfl (fun hB => mv (.t rfl)) <| cg rfl rfl cf16 (fun hB => (ref08_Same_c (gTt hx8 (nt hB)))) (fun hB => .b (.m rfl hB) rfl <| .b (.m rfl hB) rfl <| .n) (.inr rfl) <| gd rfl rfl (fun hB => no (.m rfl hB)) <| u (pko (.t rfl) (.t rfl)) <| u (mv (.t rfl)) <| gd rfl rfl (fun hB => mv (.t rfl)) <| gd rfl rfl (fun hB => mv (.t rfl)) <| gd rfl rfl (fun hB => bc (.m rfl hB) (.m rfl hB) rfl rfl) <| u (pko (.t rfl) (.t rfl)) <| u (mv (.t rfl)) <| gd rfl rfl (fun hB => mv (.t rfl)) <| gd rfl rfl (fun hB => lom sf36 (.m rfl hB) rfl) <| gd rfl rfl (fun hB => mv (.t rfl)) <| gd rfl rfl (fun hB => lom sf36 (.m rfl hB) rfl) <| gd rfl rfl (fun hB => bc (.m rfl hB) (.m rfl hB) rfl rfl) <| u (pko (.t rfl) (.t rfl)) <| .nil _) rfl ?_
      refine .bq h (.t rfl) (fun h => ?_) (fun h => ?_)
      · refine .sq ?_
        refine .rg (u (asg .b) <| .nil _) rfl ?_
        obtain rfl := Option.some.inj h
        exact .rt Try.func3 (.t rfl <| .n) .n rfl rfl
      · refine .skp ?_
        refine .sq ?_
        refine .sq ?_
        refine .rg (u (asg (.i rfl)) <| .nil _) rfl ?_
        refine .bl ?_
        unfold law08_ElemRight_l2 at h
        refine .kq (.lo (fun (s : Int) => ⟨[(0, .ro (.list 2 (List.map cells_Elem l))), (1, .ro (.int .u16 profile)), (2, .ro (.list 1 (List.map e8 data))), (14, .own 80000), (16, .own 86000), (18, .ro (.int .i64 s))], [(80000, some (.arr 43 3 (List.map cells_Spot x6.1))), (86000, some (.arr 43 3 (List.map cells_Spot x7.1)))]⟩) h ?_) (.c rfl (.c rfl (.c rfl (.c rfl (.c rfl (.c rfl .n)))))) (.c rfl (.c rfl .n))
        intro v9 u2 h ih2 hx2
        replace h : law08_ElemRight_s2 z l profile data x6 x7 v9 = _ := h
        unfold law08_ElemRight_s2 at h
        refine .sq ?_
        refine .sq ?_
        refine .rg (u (mv (.t rfl)) <| u (mv (.t rfl)) <| u (lom sf36 (.t rfl) rfl) <| u (bc (.t rfl) (.t rfl) rfl rfl) <| .nil _) rfl ?_
        refine .bq h (.t rfl) (fun h => ?_) (fun h => ?_)
        · refine .skp ?_
          refine .sq ?_
          refine .bl ?_
          refine .sq ?_
          refine be h fun x10 hx10 h => ?_
          refine be h fun x11 hx11 h => ?_
          refine .rd mixed (u (mv (.t rfl)) <| u (mv (.t rfl)) <| u (io sf36 (.t rfl) rfl (.t rfl) (ix_map cells_Spot hx10)) <| u (le tf43 (.t rfl) rfl (ix_lt (ix_map _ hx10)).2.2 rfl) <| u (mv (.t rfl)) <| u (mv (.t rfl)) <| u (io sf36 (.t rfl) rfl (.t rfl) (ix_map cells_Spot hx11)) <| u (le tf43 (.t rfl) rfl (ix_lt (ix_map _ hx11)).2.2 rfl) <| u (eqs qf43 (.t rfl) (.t rfl) rfl rfl rfl rfl) <| .nil _) (by kernel_rfl) rfl ?_
          refine .bq h (.t rfl) (fun h => ?_) (fun h => ?_)
          · refine .sq ?_
            refine .rg (u (asg .b) <| .nil _) rfl ?_
            replace h := mpR h hx2
            obtain rfl := Option.some.inj h
            exact .rt Try.func3 (.t rfl <| .n) .n rfl rfl
          · refine .skp ?_
            refine .ib ?_
            refine .rg (u (mv (.t rfl)) <| u (bi (.t rfl) (.i rfl) rfl) <| u (asg (.t rfl)) <| .nil _) rfl ?_
            exact .kq (.il (ih2 (ar .add .i64 v9 1) (nxi h))) (.c rfl (.c rfl (.c rfl (.c rfl (.c rfl (.c rfl .n)))))) (.c rfl (.c rfl .n))
        · refine .xt rfl ?_
          replace h := mpR h hx2
          refine .sq ?_
          refine be h fun x12 hx12 h => ?_
          refine be h fun x13 hx13 h => ?_
          refine be h fun x14 hx14 h => ?_
          refine be h fun x15 hx15 h => ?_
          refine be h fun x16 hx16 h => ?_
          refine be h fun x17 hx17 h => ?_
          refine .rg (u (mv (.t rfl)) <| cl [] cf17 (elem_Right_c hx12) (.c (.t rfl) <| .n) (.inl rfl) <| u (mv (.t rfl)) <| cl [] cf9 (ref08_Right_c hx13) (.c (.t rfl) <| .n) (.inl rfl) <| u (be2 ub4 (.t rfl) (.t rfl) rfl) <| u (mv (.t rfl)) <| gd rfl rfl (fun hB => mv (.t rfl)) <| cg rfl rfl cf18 (fun hB => (elem_Profile_c (gTt hx14 hB))) (fun hB => .c (.m rfl hB) <| .n) (.inl rfl) <| gd rfl rfl (fun hB => mv (.t rfl)) <| cg rfl rfl cf10 (fun hB => (ref08_Profile_c (gTt hx15 hB))) (fun hB => .c (.m rfl hB) <| .n) (.inl rfl) <| gd rfl rfl (fun hB => bc (.m rfl hB) (.m rfl hB) rfl rfl) <| u (pka (.t rfl) (.t rfl)) <| u (mv (.t rfl)) <| gd rfl rfl (fun hB => mv (.t rfl)) <| gd rfl rfl (fun hB => mv (.t rfl)) <| cg rfl rfl cf19 (fun hB => (elem_Canon_c (gTt hx16 hB))) (fun hB => .c (.m rfl hB) <| .c (.m rfl hB) <| .n) (.inl rfl) <| gd rfl rfl (fun hB => mv (.t rfl)) <| gd rfl rfl (fun hB => mv (.t rfl)) <| cg rfl rfl cf20 (fun hB => (ref08_Canon_c (gTt hx17 hB))) (fun hB => .c (.m rfl hB) <| .c (.m rfl hB) <| .n) (.inl rfl) <| gd rfl rfl (fun hB => be2 ub4 (.m rfl hB) (.m rfl hB) rfl) <| u (pka (.t rfl) (.t rfl)) <| u (asg (.t rfl)) <| .nil _) rfl ?_
          obtain rfl := Option.some.inj h
          exact .rt Try.func3 (.t rfl <| .n) .n rfl rfl
    refine .bq h (.t rfl) (fun h => ?_) (fun h => ?_)
    · refine .sq ?_
      refine be h fun x18 hx18 h => ?_
      refine be h fun x19 hx19 h => ?_
      refine .rd mixed (u (mv (.t rfl)) <| u (bc (.t rfl) (.i rfl) rfl rfl) <| u (mv (.t rfl)) <| gd rfl rfl (fun hB => mv (.t rfl)) <| gd rfl rfl (fun hB => mv (.t rfl)) <| cg rfl rfl cf10 (fun hB => (ref08_Profile_c (gTt hx18 (nt hB)))) (fun hB => .c (.m rfl hB) <| .n) (.inl rfl) <| gd rfl rfl (fun hB => bc (.m rfl hB) (.m rfl hB) rfl rfl) <| u (pko (.t rfl) (.t rfl)) <| u (mv (.t rfl)) <| gd rfl rfl (fun hB => mv (.t rfl)) <| gd rfl rfl (fun hB => bto bt24_9 (.m rfl hB) rfl) <| gd rfl rfl (fun hB => mv (.t rfl)) <| cg rfl rfl cf11 (fun hB => (ref08_Write_r (gTt hx19 (nt hB)))) (fun hB => .c (.m rfl hB) <| .n) (.inl rfl) <| gd rfl rfl (fun hB => bt bt24_9 (.m rfl hB)) <| gd rfl rfl (fun hB => sq (.m rfl hB) (.m rfl hB) rfl rfl) <| u (pko (.t rfl) (.t rfl)) <| .nil _) (by kernel_rfl) rfl ?_
      refine .bq h (.t rfl) (fun h => ?_) (fun h => ?_)
      · refine .sq ?_
        refine .rg (u (asg .b) <| .nil _) rfl ?_
        obtain rfl := Option.some.inj h
        exact .rt Try.func3 (.t rfl <| .n) .n rfl rfl
      · refine .skp ?_
        exact .kq (J1 () h) (.c rfl (.c rfl (.c rfl .n))) .n
    · refine .sq ?_
      refine .rg (u (mv (.t rfl)) <| u (bc (.t rfl) (.i rfl) rfl rfl) <| u (mv (.t rfl)) <| gd rfl rfl (fun hB => mv (.t rfl)) <| gd rfl rfl (fun hB => bc (.m rfl hB) (.i rfl) rfl rfl) <| u (pko (.t rfl) (.t rfl)) <| u (mv (.t rfl)) <| gd rfl rfl (fun hB => mv (.t rfl)) <| gd rfl rfl (fun hB => lom sf24 (.m rfl hB) rfl) <| gd rfl rfl (fun hB => bc (.m rfl hB) (.i rfl) rfl rfl) <| u (pko (.t rfl) (.t rfl)) <| .nil _) rfl ?_
      refine .bq h (.t rfl) (fun h => ?_) (fun h => ?_)
      · refine .sq ?_
        refine .rg (u (asg .b) <| .nil _) rfl ?_
        obtain rfl := Option.some.inj h
        exact .rt Try.func3 (.t rfl <| .n) .n rfl rfl
      · refine .skp ?_
        exact .kq (J1 () h) (.c rfl (.c rfl (.c rfl .n))) .n

theorem law08_ElemBack_c {z : Option Nat} {l : List Elem} {m : List Elem} {profile : Int} {data : List Int} {r : Bool} (h : law08_ElemBack z l m profile data = some r) :
    AC Try.prog 4 [.ro (.list 2 (List.map cells_Elem l)), .ro (.list 2 (List.map cells_Elem m)), .ro (.int .u16 profile), .ro (.list 1 (List.map e8 data))] (.ro (.bool r)) [] := by
  refine AC.of Try.func4 rfl rfl fun w M0 hM => ?_
  unfold law08_ElemBack at h
  refine .sq ?_
  refine .rg (u (asg .b) <| .nil _) rfl ?_
  refine .sq ?_
  refine .sq ?_
  refine .rg (cl [] cf6 law08_awake_k (.n) (.inl rfl) <| u (no (.t rfl)) <| .nil _) rfl ?_
  refine .cf (.t rfl) rfl ?_
  refine .skp ?_
  refine .sq ?_
  refine .sq ?_
  refine be h fun x1 hx1 h => ?_
  refine be h fun x2 hx2 h => ?_
  refine .rg (u (mv (.t rfl)) <| cl [] cf7 (ref08_Short_c hx1) (.c (.t rfl) <| .n) (.inl rfl) <| u (no (.t rfl)) <| u (mv (.t rfl)) <| gd rfl rfl (fun hB => mv (.t rfl)) <| cg rfl rfl cf7 (fun hB => (ref08_Short_c (gTt hx2 (nt hB)))) (fun hB => .c (.m rfl hB) <| .n) (.inl rfl) <| gd rfl rfl (fun hB => no (.m rfl hB)) <| u (pko (.t rfl) (.t rfl)) <| u (mv (.t rfl)) <| gd rfl rfl (fun hB => mv (.t rfl)) <| gd rfl rfl (fun hB => lnm sf24 (.m rfl hB)) <| gd rfl rfl (fun hB => bc (.m rfl hB) (.i rfl) rfl rfl) <| u (pko (.t rfl) (.t rfl)) <| .nil _) rfl ?_
  refine .bq h (.t rfl) (fun h => ?_) (fun h => ?_)
  · refine .sq ?_
    refine .rg (u (asg .b) <| .nil _) rfl ?_
    obtain rfl := Option.some.inj h
    exact .rt Try.func4 (.t rfl <| .n) .n rfl rfl
  · refine .skp ?_
    refine .sq ?_
    refine be h fun x3 hx3 h => ?_
    refine .rg (u (mv (.t rfl)) <| cnf 42000 cf8 (elem_Write_c hx3) (.c (.t rfl) <| .n) rfl rfl rfl <| u (mv (.t rfl)) <| u (ex (.t rfl) rfl rfl) <| u (ex (.t rfl) rfl rfl) <| u (ex (.t rfl) rfl rfl) <| u (asg (.t rfl)) <| u (asg (.t rfl)) <| u (asg (.t rfl)) <| .nil _) rfl ?_
    refine .sq ?_
    refine be h fun x4 hx4 h => ?_
    refine .rg (u (mv (.t rfl)) <| cnf 48000 cf8 (elem_Write_c hx4) (.c (.t rfl) <| .n) rfl rfl rfl <| u (mv (.t rfl)) <| u (ex (.t rfl) rfl rfl) <| u (ex (.t rfl) rfl rfl) <| u (ex (.t rfl) rfl rfl) <| u (asg (.t rfl)) <| u (asg (.t rfl)) <| u (asg (.t rfl)) <| .nil _) rfl ?_
    refine .sq ?_
    refine .sq ?_
    refine .rg (u (mv (.t rfl)) <| u (bc (.t rfl) (.i rfl) rfl rfl) <| .nil _) rfl ?_
    refine .jq (t := some r) (fun (a : Unit) => ⟨[(2, .ro (.int .u16 profile)), (3, .ro (.list 1 (List.map e8 data)))], []⟩) (fun (a : Unit) => law08_ElemBack_j1 z profile data) ?_ (fun J1 => ?_)
    · intro _ h
      replace h : law08_ElemBack_j1 z profile data = _ := h
      unfold law08_ElemBack_j1 at h
      refine .sq ?_
      refine be h fun x5 hx5 h => ?_
      refine .rg (u (mv (.t rfl)) <| u (mv (.t rfl)) <| cnf 101000 cf12 (elem_Read_c hx5) (.c (.t rfl) <| .c (.t rfl) <| .n) rfl rfl rfl <| u (mv (.t rfl)) <| u (ex (.t rfl) rfl rfl) <| u (ex (.t rfl) rfl rfl) <| u (asg (.t rfl)) <| u (asg (.t rfl)) <| .nil _) rfl ?_
      refine .sq ?_
      refine .sq ?_
      refine .rg (u (mv (.t rfl)) <| u (bc (.t rfl) (.i rfl) rfl rfl) <| .nil _) rfl ?_
      refine .bq h (.t rfl) (fun h => ?_) (fun h => ?_)
      · refine .sq ?_
        refine be h fun x6 hx6 h => ?_
        refine .rg (u (mv (.t rfl)) <| u (lom sf22 (.t rfl) rfl) <| u (bc (.t rfl) (.i rfl) rfl rfl) <| u (mv (.t rfl)) <| gd rfl rfl (fun hB => mv (.t rfl)) <| gd rfl rfl (fun hB => mv (.t rfl)) <| cg rfl rfl cf19 (fun hB => (elem_Canon_c (gTt hx6 hB))) (fun hB => .c (.m rfl hB) <| .c (.m rfl hB) <| .n) (.inl rfl) <| gd rfl rfl (fun hB => no (.m rfl hB)) <| u (pka (.t rfl) (.t rfl)) <| u (asg (.t rfl)) <| .nil _) rfl ?_
        obtain rfl := Option.some.inj h
        exact .rt Try.func4 (.t rfl <| .n) .n rfl rfl
      · refine .skp ?_
        refine .sq ?_
        refine .fz 101000 rfl ?_
        refine be h fun x7 hx7 h => ?_
        refine .rg (u (mv (.t rfl)) <| cnf 117000 cf8 (elem_Write_c hx7) (.c (.t rfl) <| .n) rfl rfl rfl <| u (mv (.t rfl)) <| u (ex (.t rfl) rfl rfl) <| u (ex (.t rfl) rfl rfl) <| u (ex (.t rfl) rfl rfl) <| u (asg (.t rfl)) <| u (asg (.t rfl)) <| u (asg (.t rfl)) <| .nil _) rfl ?_
        refine .sq ?_
        refine .fz 117000 rfl ?_
        refine be h fun x8 hx8 h => ?_
        refine .rg (u (mv (.t rfl)) <| u (mv (.t rfl)) <| cnf 124000 cf12 (elem_Read_c hx8) (.c (.t rfl) <| .c (.t rfl) <| .n) rfl rfl rfl <| u (mv (.t rfl)) <| u (ex (.t rfl) rfl rfl) <| u (ex (.t rfl) rfl rfl) <| u (asg (.t rfl)) <| u (asg (.t rfl)) <| .nil _) rfl ?_
        refine .sq ?_
        refine be h fun x9 hx9 h => ?_
        refine be h fun x10 hx10 h => ?_
        refine be h fun x11 hx11 h => ?_
        refine .rg (u (mv (.t rfl)) <| u (bc (.t rfl) (.i rfl) rfl rfl) <| u (mv (.t rfl)) <| gd rfl rfl (fun hB => mv (.t rfl)) <| gd rfl rfl (fun hB => bc (.m rfl hB) (.i rfl) rfl rfl) <| u (pka (.t rfl) (.t rfl)) <| u (mv (.t rfl)) <| gd rfl rfl (fun hB => mv (.t rfl)) <| cg rfl rfl cf17 (fun hB => (elem_Right_c (gTt hx9 hB))) (fun hB => .c (.m rfl hB) <| .n) (.inl rfl) <| u (pka (.t rfl) (.t rfl)) <| u (mv (.t rfl)) <| gd rfl rfl (fun hB => mv (.t rfl)) <| gd rfl rfl (fun hB => mv (.t rfl)) <| cg rfl rfl cf16 (fun hB => (ref08_Same_c (gTt hx10 hB))) (fun hB => .c (.m rfl hB) <| .b (.m rfl hB) rfl <| .n) (.inr rfl) <| u (pka (.t rfl) (.t rfl)) <| u (mv (.t rfl)) <| gd rfl rfl (fun hB => mv (.t rfl)) <| gd rfl rfl (fun hB => mv (.t rfl)) <| cg rfl rfl cf19 (fun hB => (elem_Canon_c (gTt hx11 hB))) (fun hB => .c (.m rfl hB) <| .c (.m rfl hB) <| .n) (.inl rfl) <| gd rfl rfl (fun hB => mv (.t rfl)) <| gd rfl rfl (fun hB => mv (.t rfl)) <| gd rfl rfl (fun hB => bc (.m rfl hB) (.m rfl hB) rfl rfl) <| gd rfl rfl (fun hB => mv (.m rfl hB)) <| gm rfl rfl (fun hB => mv (.t rfl)) <| gm rfl rfl (fun hB => bt bt24_9 (.m rfl hB)) <| gm rfl rfl (fun hB => mv (.t rfl)) <| gm rfl rfl (fun hB => bt bt24_9 (.m rfl hB)) <| gm rfl rfl (fun hB => sq (.m rfl hB) (.m rfl hB) rfl rfl) <| gd rfl rfl (fun hB => pkam (.m rfl hB) (.t rfl) hB) <| gd rfl rfl (fun hB => be2 ub4 (.m rfl hB) (.m rfl hB) rfl) <| u (pka (.t rfl) (.t rfl)) <| u (asg (.t rfl)) <| .nil _) rfl ?_
        obtain rfl := Option.some.inj h
        exact .rt Try.func4 (.t rfl <| .n) .n rfl rfl
    refine .bq h (.t rfl) (fun h => ?_) (fun h => ?_)
    · refine .sq ?_
      refine .fz 42000 rfl ?_
      refine be h fun x12 hx12 h => ?_
      refine .rg (u (mv (.t rfl)) <| u (mv (.t rfl)) <| cnf 57000 cf12 (elem_Read_c hx12) (.c (.t rfl) <| .c (.t rfl) <| .n) rfl rfl rfl <| u (mv (.t rfl)) <| u (ex (.t rfl) rfl rfl) <| u (ex (.t rfl) rfl rfl) <| u (asg (.t rfl)) <| u (asg (.t rfl)) <| .nil _) rfl ?_
      refine .sq ?_
      refine .sq ?_
      refine be h fun x13 hx13 h => ?_
      refine be h fun x14 hx14 h => ?_
      refine .rg (u (mv (.t rfl)) <| u (bc (.t rfl) (.i rfl) rfl rfl) <| u (mv (.t rfl)) <| gd rfl rfl (fun hB => mv (.t rfl)) <| gd rfl rfl (fun hB => mv (.t rfl)) <| cg rfl rfl cf16 (fun hB => (ref08_Same_c (gTt hx13 (nt hB)))) (fun hB => .b (.m rfl hB) rfl <| .c (.m rfl hB) <| .n) (.inr rfl) <| gd rfl rfl (fun hB => no (.m rfl hB)) <| u (pko (.t rfl) (.t rfl)) <| u (mv (.t rfl)) <| gd rfl rfl (fun hB => mv (.t rfl)) <| gd rfl rfl (fun hB => mv (.t rfl)) <| cg rfl rfl cf19 (fun hB => (elem_Canon_c (gTt hx14 (nt hB)))) (fun hB => .c (.m rfl hB) <| .c (.m rfl hB) <| .n) (.inl rfl) <| gd rfl rfl (fun hB => no (.m rfl hB)) <| u (pko (.t rfl) (.t rfl)) <| u (mv (.t rfl)) <| gd rfl rfl (fun hB => mv (.t rfl)) <| gd rfl rfl (fun hB => lnm sf24 (.m rfl hB)) <| gd rfl rfl (fun hB => di (.m rfl hB) (.i rfl) rfl (by decide)) <| gd rfl rfl (fun hB => bc (.m rfl hB) (.i rfl) rfl rfl) <| u (pko (.t rfl) (.t rfl)) <| .nil _) rfl ?_
      refine .bq h (.t rfl) (fun h => ?_) (fun h => ?_)
      · refine .sq ?_
        refine .rg (u (asg .b) <| .nil _) rfl ?_
        obtain rfl := Option.some.inj h
        exact .rt Try.func4 (.t rfl <| .n) .n rfl rfl
      · refine .skp ?_
        refine .sq ?_
        refine be h fun x15 hx15 h => ?_
        refine .rd mixed (u (mv (.t rfl)) <| u (bc (.t rfl) (.i rfl) rfl rfl) <| u (mv (.t rfl)) <| gd rfl rfl (fun hB => mv (.t rfl)) <| gd rfl rfl (fun hB => mv (.t rfl)) <| gd rfl rfl (fun hB => bc (.m rfl hB) (.m rfl hB) rfl rfl) <| gd rfl rfl (fun hB => mv (.m rfl hB)) <| gm rfl rfl (fun hB => mv (.t rfl)) <| gm rfl rfl (fun hB => bt bt24_9 (.m rfl hB)) <| gm rfl rfl (fun hB => mv (.t rfl)) <| gm rfl rfl (fun hB => bto bt24_9 (.m rfl hB) rfl) <| gm rfl rfl (fun hB => sq (.m rfl hB) (.m rfl hB) rfl rfl) <| gd rfl rfl (fun hB => pkam (.m rfl hB) (.t rfl) hB) <| gd rfl rfl (fun hB => mv (.t rfl)) <| gd rfl rfl (fun hB => mv (.t rfl)) <| cg rfl rfl cf16 (fun hB => (ref08_Same_c (gTt hx15 hB))) (fun hB => .c (.m rfl hB) <| .c (.m rfl hB) <| .n) (.inl rfl) <| gd rfl rfl (fun hB => be2 ub4 (.m rfl hB) (.m rfl hB) rfl) <| u (pka (.t rfl) (.t rfl)) <| .nil _) (by kernel_rfl) rfl ?_
        refine .bq h (.t rfl) (fun h => ?_) (fun h => ?_)
        · refine .sq ?_
          refine .rg (u (asg .b) <| .nil _) rfl ?_
          obtain rfl := Option.some.inj h
          exact .rt Try.func4 (.t rfl <| .n) .n rfl rfl
        · refine .skp ?_
          exact .kq (J1 () h) (.c rfl (.c rfl .n)) .n
    · refine .skp ?_
      exact .kq (J1 () h) (.c rfl (.c rfl .n)) .n

theorem law08_ElemPads_c {z : Option Nat} {l : List Elem} {pads : List Int} {low : Int} {more : List Int} {r : Bool} (h : law08_ElemPads z l pads low more = some r) :
    AC Try.prog 5 [.ro (.list 2 (List.map cells_Elem l)), .ro (.list 1 (List.map e8 pads)), .ro (.int .u8 low), .ro (.list 1 (List.map e8 more))] (.ro (.bool r)) [] := by
  refine AC.of Try.func5 rfl rfl fun w M0 hM => ?_
  unfold law08_ElemPads at h
  refine .sq ?_
  refine .rg (u (asg .b) <| .nil _) rfl ?_
  refine .sq ?_
  refine .sq ?_
  refine .rg (cl [] cf6 law08_awake_k (.n) (.inl rfl) <| u (no (.t rfl)) <| .nil _) rfl ?_
  refine .cf (.t rfl) rfl ?_
  refine .skp ?_
  refine .sq ?_
  refine .sq ?_
  refine be h fun x1 hx1 h => ?_
  refine .rg (u (mv (.t rfl)) <| cl [] cf7 (ref08_Short_c hx1) (.c (.t rfl) <| .n) (.inl rfl) <| u (no (.t rfl)) <| u (mv (.t rfl)) <| gd rfl rfl (fun hB => mv (.t rfl)) <| gd rfl rfl (fun hB => lnm sf22 (.m rfl hB)) <| gd rfl rfl (fun hB => bc (.m rfl hB) (.i rfl) rfl rfl) <| u (pko (.t rfl) (.t rfl)) <| u (mv (.t rfl)) <| gd rfl rfl (fun hB => mv (.t rfl)) <| gd rfl rfl (fun hB => lnm sf24 (.m rfl hB)) <| gd rfl rfl (fun hB => bc (.m rfl hB) (.i rfl) rfl rfl) <| u (pko (.t rfl) (.t rfl)) <| .nil _) rfl ?_
  refine .bq h (.t rfl) (fun h => ?_) (fun h => ?_)
  · refine .sq ?_
    refine .rg (u (asg .b) <| .nil _) rfl ?_
    obtain rfl := Option.some.inj h
    exact .rt Try.func5 (.t rfl <| .n) .n rfl rfl
  · refine .skp ?_
    refine .sq ?_
    refine be h fun x2 hx2 h => ?_
    refine .rg (u (mv (.t rfl)) <| cnf 38000 cf8 (elem_Write_c hx2) (.c (.t rfl) <| .n) rfl rfl rfl <| u (mv (.t rfl)) <| u (ex (.t rfl) rfl rfl) <| u (ex (.t rfl) rfl rfl) <| u (ex (.t rfl) rfl rfl) <| u (asg (.t rfl)) <| u (asg (.t rfl)) <| u (asg (.t rfl)) <| .nil _) rfl ?_
    refine .sq ?_
    refine .fz 38000 rfl ?_
    refine be h fun x3 hx3 h => ?_
    refine .rg (u (mv (.t rfl)) <| u (mv (.t rfl)) <| cnf 45000 cf14 (elem_Spots_c hx3) (.c (.t rfl) <| .c (.t rfl) <| .n) rfl rfl rfl <| u (mv (.t rfl)) <| u (ex (.t rfl) rfl rfl) <| u (ex (.t rfl) rfl rfl) <| u (asg (.t rfl)) <| u (asg (.t rfl)) <| .nil _) rfl ?_
    refine .sq ?_
    refine .sq ?_
    refine .rg (u (mv (.t rfl)) <| u (bc (.t rfl) (.i rfl) rfl rfl) <| u (mv (.t rfl)) <| gd rfl rfl (fun hB => mv (.t rfl)) <| gd rfl rfl (fun hB => bc (.m rfl hB) (.i rfl) rfl rfl) <| u (pko (.t rfl) (.t rfl)) <| u (mv (.t rfl)) <| gd rfl rfl (fun hB => mv (.t rfl)) <| gd rfl rfl (fun hB => lom sf36 (.m rfl hB) rfl) <| gd rfl rfl (fun hB => mv (.t rfl)) <| gd rfl rfl (fun hB => lnm sf22 (.m rfl hB)) <| gd rfl rfl (fun hB => bc (.m rfl hB) (.m rfl hB) rfl rfl) <| u (pko (.t rfl) (.t rfl)) <| .nil _) rfl ?_
    refine .bq h (.t rfl) (fun h => ?_) (fun h => ?_)
    · refine .sq ?_
      refine .rg (u (mv (.t rfl)) <| u (bc (.t rfl) (.i rfl) rfl rfl) <| u (asg (.t rfl)) <| .nil _) rfl ?_
      obtain rfl := Option.some.inj h
      exact .rt Try.func5 (.t rfl <| .n) .n rfl rfl
    · refine .skp ?_
      refine .sq ?_
      refine .rg (u (asg (.i rfl)) <| .nil _) rfl ?_
      refine .sq ?_
      refine .sq ?_
      refine .rg (u (mv (.t rfl)) <| u (bc (.t rfl) (.i rfl) rfl rfl) <| .nil _) rfl ?_
      refine .jq (t := some r) (fun (a : Int) => ⟨[(0, .ro (.list 2 (List.map cells_Elem l))), (1, .ro (.list 1 (List.map e8 pads))), (2, .ro (.int .u8 low)), (3, .ro (.list 1 (List.map e8 more))), (9, .ro (.int .u16 x2.1)), (10, .ro (.list 1 (List.map e8 x2.2.1))), (12, .own 45000), (14, .ro (.int .i64 a))], [(45000, some (.arr 43 3 (List.map cells_Spot x3.1)))]⟩) (fun (a : Int) => law08_ElemPads_j1 z l pads low more x2 x3 a) ?_ (fun J1 => ?_)
      · intro v4 h
        replace h : law08_ElemPads_j1 z l pads low more x2 x3 v4 = _ := h
        unfold law08_ElemPads_j1 at h
        refine .sq ?_
        refine .rg (anm e8 15 5 1 rfl rfl <| .nil _) rfl ?_
        refine .sq ?_
        refine .sq ?_
        refine .rg (u (asg (.i rfl)) <| .nil _) rfl ?_
        refine .bl ?_
        unfold law08_ElemPads_l2 at h
        refine .kq (.lo (fun (s : List Int × Int) => ⟨[(0, .ro (.list 2 (List.map cells_Elem l))), (1, .ro (.list 1 (List.map e8 pads))), (2, .ro (.int .u8 low)), (3, .ro (.list 1 (List.map e8 more))), (9, .ro (.int .u16 x2.1)), (10, .ro (.list 1 (List.map e8 x2.2.1))), (12, .own 45000), (14, .ro (.int .i64 v4)), (15, .own 15), (16, .ro (.int .i64 s.2))], [(15, some (.arr 5 1 (List.map e8 s.1))), (45000, some (.arr 43 3 (List.map cells_Spot x3.1)))]⟩) h ?_) (.c rfl (.c rfl (.c rfl (.c rfl (.c rfl (.c rfl (.c rfl (.c rfl (.c rfl (.c rfl .n)))))))))) (.c rfl (.c rfl .n))
        rintro ⟨v5, v6⟩ u2 h ih2 hx2
        replace h : law08_ElemPads_s2 z l pads low more x2 x3 v4 v5 v6 = _ := h
        unfold law08_ElemPads_s2 at h
        refine .sq ?_
        refine .sq ?_
        refine .rg (u (mv (.t rfl)) <| u (mv (.t rfl)) <| u (lnm sf22 (.t rfl)) <| u (bc (.t rfl) (.t rfl) rfl rfl) <| .nil _) rfl ?_
        refine .bq h (.t rfl) (fun h => ?_) (fun h => ?_)
        · refine .skp ?_
          refine .sq ?_
          refine .bl ?_
          refine .sq ?_
          refine .sq ?_
          refine .rg (u (mv (.t rfl)) <| u (mv (.t rfl)) <| u (lnm sf24 (.t rfl)) <| u (bc (.t rfl) (.t rfl) rfl rfl) <| .nil _) rfl ?_
          refine .jq (t := some u2) (fun (a : List Int) => ⟨[(0, .ro (.list 2 (List.map cells_Elem l))), (1, .ro (.list 1 (List.map e8 pads))), (2, .ro (.int .u8 low)), (3, .ro (.list 1 (List.map e8 more))), (9, .ro (.int .u16 x2.1)), (10, .ro (.list 1 (List.map e8 x2.2.1))), (12, .own 45000), (14, .ro (.int .i64 v4)), (15, .own 15), (16, .ro (.int .i64 v6))], [(15, some (.arr 5 1 (List.map e8 a))), (45000, some (.arr 43 3 (List.map cells_Spot x3.1)))]⟩) (fun (a : List Int) => law08_ElemPads_j3 z x2 x3 v4 v6 a) ?_ (fun J3 => ?_)
          · intro v7 h
            replace h : law08_ElemPads_j3 z x2 x3 v4 v6 v7 = _ := h
            unfold law08_ElemPads_j3 at h
            refine .sq ?_
            refine .sq ?_
            refine be h fun x8 hx8 h => ?_
            refine be h fun x9 hx9 h => ?_
            refine be h fun x10 hx10 h => ?_
            refine be h fun x11 hx11 h => ?_
            refine be h fun x12 hx12 h => ?_
            refine .rd mixed (u (mv (.t rfl)) <| u (mv (.t rfl)) <| u (io sf36 (.t rfl) rfl (.t rfl) (ix_map cells_Spot hx8)) <| u (fa ff43_1 (.t rfl)) <| u (lef tf3 (.t rfl) rfl (ix_lt (ix_map cells_Spot hx8)).2.2 rfl rfl) <| u (mv (.t rfl)) <| u (bc (.t rfl) (.t rfl) rfl rfl) <| u (mv (.t rfl)) <| gd rfl rfl (fun hB => mv (.t rfl)) <| gd rfl rfl (fun hB => mv (.t rfl)) <| gd rfl rfl (fun hB => io sf36 (.m rfl hB) rfl (.m rfl hB) (ix_map cells_Spot (gTt hx9 (nt hB)))) <| gd rfl rfl (fun hB => fa ff43_2 (.m rfl hB)) <| gd rfl rfl (fun hB => lef tf3 (.m rfl hB) rfl (ix_lt (ix_map cells_Spot (gTt hx9 (nt hB)))).2.2 rfl rfl) <| gd rfl rfl (fun hB => bc (.m rfl hB) (.i rfl) rfl rfl) <| u (pko (.t rfl) (.t rfl)) <| u (mv (.t rfl)) <| gd rfl rfl (fun hB => mv (.t rfl)) <| gd rfl rfl (fun hB => mv (.t rfl)) <| gd rfl rfl (fun hB => io sf36 (.m rfl hB) rfl (.m rfl hB) (ix_map cells_Spot (gTt hx10 (nt hB)))) <| gd rfl rfl (fun hB => fa ff43_2 (.m rfl hB)) <| gd rfl rfl (fun hB => lef tf3 (.m rfl hB) rfl (ix_lt (ix_map cells_Spot (gTt hx10 (nt hB)))).2.2 rfl rfl) <| gd rfl rfl (fun hB => mv (.t rfl)) <| gd rfl rfl (fun hB => lnm sf24 (.m rfl hB)) <| gd rfl rfl (fun hB => bc (.m rfl hB) (.m rfl hB) rfl rfl) <| u (pko (.t rfl) (.t rfl)) <| u (mv (.t rfl)) <| gd rfl rfl (fun hB => mv (.t rfl)) <| gd rfl rfl (fun hB => mv (.t rfl)) <| gd rfl rfl (fun hB => io sf36 (.m rfl hB) rfl (.m rfl hB) (ix_map cells_Spot (gTt hx11 (nt hB)))) <| gd rfl rfl (fun hB => fa ff43_1 (.m rfl hB)) <| gd rfl rfl (fun hB => lef tf3 (.m rfl hB) rfl (ix_lt (ix_map cells_Spot (gTt hx11 (nt hB)))).2.2 rfl rfl) <| gd rfl rfl (fun hB => mv (.t rfl)) <| gd rfl rfl (fun hB => lnm sf24 (.m rfl hB)) <| gd rfl rfl (fun hB => mv (.t rfl)) <| gd rfl rfl (fun hB => mv (.t rfl)) <| gd rfl rfl (fun hB => io sf36 (.m rfl hB) rfl (.m rfl hB) (ix_map cells_Spot (gTt hx12 (nt hB)))) <| gd rfl rfl (fun hB => fa ff43_2 (.m rfl hB)) <| gd rfl rfl (fun hB => lef tf3 (.m rfl hB) rfl (ix_lt (ix_map cells_Spot (gTt hx12 (nt hB)))).2.2 rfl rfl) <| gd rfl rfl (fun hB => bi (.m rfl hB) (.m rfl hB) rfl) <| gd rfl rfl (fun hB => bc (.m rfl hB) (.m rfl hB) rfl rfl) <| u (pko (.t rfl) (.t rfl)) <| .nil _) (by kernel_rfl) rfl ?_
            refine .bq h (.t rfl) (fun h => ?_) (fun h => ?_)
            · refine .sq ?_
              refine .rg (u (asg .b) <| .nil _) rfl ?_
              replace h := mpR h hx2
              obtain rfl := Option.some.inj h
              exact .rt Try.func5 (.t rfl <| .n) .n rfl rfl
            · refine .skp ?_
              refine be h fun x13 hx13 h => ?_
              refine be h fun x14 hx14 h => ?_
              refine be h fun x15 hx15 h => ?_
              refine be h fun x16 hx16 h => ?_
              refine be h fun x17 hx17 h => ?_
              refine .rd mixed (u (mv (.t rfl)) <| u (mv (.t rfl)) <| u (mv (.t rfl)) <| u (mv (.t rfl)) <| u (io sf36 (.t rfl) rfl (.t rfl) (ix_map cells_Spot hx13)) <| u (fa ff43_1 (.t rfl)) <| u (lef tf3 (.t rfl) rfl (ix_lt (ix_map cells_Spot hx13)).2.2 rfl rfl) <| u (mv (.t rfl)) <| u (bi (.t rfl) (.t rfl) rfl) <| u (mv (.t rfl)) <| u (mv (.t rfl)) <| u (io sf36 (.t rfl) rfl (.t rfl) (ix_map cells_Spot hx14)) <| u (fa ff43_1 (.t rfl)) <| u (lef tf3 (.t rfl) rfl (ix_lt (ix_map cells_Spot hx14)).2.2 rfl rfl) <| u (mv (.t rfl)) <| u (mv (.t rfl)) <| u (io sf36 (.t rfl) rfl (.t rfl) (ix_map cells_Spot hx15)) <| u (fa ff43_2 (.t rfl)) <| u (lef tf3 (.t rfl) rfl (ix_lt (ix_map cells_Spot hx15)).2.2 rfl rfl) <| u (bi (.t rfl) (.t rfl) rfl) <| u (sl sf24 (.t rfl) (.s (.t rfl)) (.s (.t rfl)) hx16) <| ap 144 pf24 (.t rfl) rfl (.t rfl) hx17 rfl <| u (asg (.t rfl)) <| .nil _) (by kernel_rfl) rfl ?_
              refine .ib ?_
              refine .rg (u (mv (.t rfl)) <| u (bi (.t rfl) (.i rfl) rfl) <| u (asg (.t rfl)) <| .nil _) rfl ?_
              exact .ks (fun i => bif Nat.beq i 15 then 144 else i) (.il (ih2 (x17, (ar .add .i64 v6 1)) (nxi h))) (.c rfl (.c rfl (.c rfl (.c rfl (.c rfl (.c rfl (.c rfl (.c rfl (.c rfl (.c rfl .n)))))))))) (.c rfl (.c rfl .n)) rfl
          refine .bq h (.t rfl) (fun h => ?_) (fun h => ?_)
          · refine be h fun x18 hx18 h => ?_
            refine be h fun x19 hx19 h => ?_
            refine .rg (u (mv (.t rfl)) <| u (mv (.t rfl)) <| u (mv (.t rfl)) <| u (ia sf24 (.t rfl) (.t rfl) (ix_map e8 hx18)) <| u (lr tf5 (.t rfl) rfl) <| u (cv cv5_3 (.t rfl)) <| u (di (.t rfl) (.i rfl) rfl (by decide)) <| apz (F := e8) (z0 := 0) 81 pf24 ui3 zf5 (.t rfl) rfl (.t rfl) hx19 rfl <| u (asg (.t rfl)) <| .nil _) rfl ?_
            exact .ks (fun i => bif Nat.beq i 15 then 81 else i) (J3 x19 h) (.c rfl (.c rfl (.c rfl (.c rfl (.c rfl (.c rfl (.c rfl (.c rfl (.c rfl (.c rfl .n)))))))))) (.c rfl (.c rfl .n)) rfl
          · refine .skp ?_
            exact .kq (J3 v5 h) (.c rfl (.c rfl (.c rfl (.c rfl (.c rfl (.c rfl (.c rfl (.c rfl (.c rfl (.c rfl .n)))))))))) (.c rfl (.c rfl .n))
        · refine .xt rfl ?_
          replace h := mpR h hx2
          refine .sq ?_
          refine be h fun x20 hx20 h => ?_
          refine .rg (u (mv (.t rfl)) <| u (mv (.t rfl)) <| u (cv cv5_3 (.t rfl)) <| u (di (.t rfl) (.i rfl) rfl (by decide)) <| apz (F := e8) (z0 := 0) 149 pf24 ui3 zf5 (.t rfl) rfl (.t rfl) hx20 rfl <| u (asg (.t rfl)) <| .nil _) rfl ?_
          refine .sq ?_
          refine .rg (u (mv (.t rfl)) <| u (asg (.t rfl)) <| .nil _) rfl ?_
          refine .sq ?_
          refine .sq ?_
          refine .rg (u (mv (.t rfl)) <| u (bc (.t rfl) (.i rfl) rfl rfl) <| .nil _) rfl ?_
          refine .jq (t := some r) (fun (a : List Int × Int) => ⟨[(0, .ro (.list 2 (List.map cells_Elem l))), (9, .ro (.int .u16 x2.1)), (15, .own 15), (17, .ro (.int .u16 a.2))], [(15, some (.arr 5 1 (List.map e8 a.1)))]⟩) (fun (a : List Int × Int) => law08_ElemPads_j4 z l x2 a.1 a.2) ?_ (fun J4 => ?_)
          · rintro ⟨v21, v22⟩ h
            replace h : law08_ElemPads_j4 z l x2 v21 v22 = _ := h
            unfold law08_ElemPads_j4 at h
            refine .sq ?_
            refine .fz 15 rfl ?_
            refine be h fun x23 hx23 h => ?_
            refine .rg (u (mv (.t rfl)) <| u (mv (.t rfl)) <| cnf 171000 cf12 (elem_Read_c hx23) (.c (.t rfl) <| .c (.t rfl) <| .n) rfl rfl rfl <| u (mv (.t rfl)) <| u (ex (.t rfl) rfl rfl) <| u (ex (.t rfl) rfl rfl) <| u (asg (.t rfl)) <| u (asg (.t rfl)) <| .nil _) rfl ?_
            refine .sq ?_
            refine be h fun x24 hx24 h => ?_
            refine be h fun x25 hx25 h => ?_
            refine .rg (u (mv (.t rfl)) <| u (bc (.t rfl) (.i rfl) rfl rfl) <| u (mv (.t rfl)) <| gd rfl rfl (fun hB => mv (.t rfl)) <| gd rfl rfl (fun hB => mv (.t rfl)) <| cg rfl rfl cf16 (fun hB => (ref08_Same_c (gTt hx24 hB))) (fun hB => .b (.m rfl hB) rfl <| .c (.m rfl hB) <| .n) (.inr rfl) <| u (pka (.t rfl) (.t rfl)) <| u (mv (.t rfl)) <| gd rfl rfl (fun hB => mv (.t rfl)) <| gd rfl rfl (fun hB => bc (.m rfl hB) (.i rfl) rfl rfl) <| gd rfl rfl (fun hB => mv (.m rfl hB)) <| gm rfl rfl (fun hB => mv (.t rfl)) <| gm rfl rfl (fun hB => mv (.t rfl)) <| cgm rfl rfl cf19 (fun hB => (elem_Canon_c (gTt hx25 (an2 hB.1 (nt hB.2))))) (fun hB => .c (.m rfl hB) <| .c (.m rfl hB) <| .n) (.inl rfl) <| gm rfl rfl (fun hB => no (.m rfl hB)) <| gd rfl rfl (fun hB => pkom (.m rfl hB) (.t rfl) hB) <| u (pka (.t rfl) (.t rfl)) <| u (asg (.t rfl)) <| .nil _) rfl ?_
            obtain rfl := Option.some.inj h
            exact .rt Try.func5 (.t rfl <| .n) .n rfl rfl
          refine .bq h (.t rfl) (fun h => ?_) (fun h => ?_)
          · refine .rg (u (mv (.t rfl)) <| u (mv (.t rfl)) <| u (di (.t rfl) (.i rfl) rfl (by decide)) <| u (cv cv5_23 (.t rfl)) <| u (bi (.t rfl) (.t rfl) rfl) <| u (asg (.t rfl)) <| .nil _) rfl ?_
            exact .ks (fun i => bif Nat.beq i 15 then 149 else i) (J4 (x20, (ar .add .u16 x2.1 (IntKind.u16.wrap (dv .rem .u8 low 16)))) h) (.c rfl (.c rfl (.c rfl (.c rfl .n)))) (.c rfl .n) rfl
          · refine .sq ?_
            refine be h fun x26 hx26 h => ?_
            refine .rg (u (mv (.t rfl)) <| u (mv (.t rfl)) <| u (di (.t rfl) (.i rfl) rfl (by decide)) <| u (bi (.i rfl) (.t rfl) rfl) <| bs (F := e8) (l := [(ar .add .u8 240 (dv .rem .u8 low 16))]) 162 pf24 (.c (.t rfl) rfl <| .n) rfl (fun _ _ => rfl) rfl rfl <| apo 163 pf24 (.t rfl) rfl (.t rfl) rfl hx26 rfl <| u (asg (.t rfl)) <| .nil _) rfl ?_
            refine be h fun x27 hx27 h => ?_
            refine .rg (u (mv (.t rfl)) <| u (mv (.t rfl)) <| ap 166 pf24 (.t rfl) rfl (.t rfl) hx27 rfl <| u (asg (.t rfl)) <| .nil _) rfl ?_
            exact .ks (fun i => bif Nat.beq i 15 then 166 else i) (J4 (x27, x2.1) h) (.c rfl (.c rfl (.c rfl (.c rfl .n)))) (.c rfl .n) rfl
      refine .bq h (.t rfl) (fun h => ?_) (fun h => ?_)
      · refine .rg (u (asg (.i rfl)) <| .nil _) rfl ?_
        exact .kq (J1 1 h) (.c rfl (.c rfl (.c rfl (.c rfl (.c rfl (.c rfl (.c rfl (.c rfl .n)))))))) (.c rfl .n)
      · refine .skp ?_
        exact .kq (J1 2 h) (.c rfl (.c rfl (.c rfl (.c rfl (.c rfl (.c rfl (.c rfl (.c rfl .n)))))))) (.c rfl .n)

end Xb
