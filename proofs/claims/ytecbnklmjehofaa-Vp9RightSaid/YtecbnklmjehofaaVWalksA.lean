/- Own text: VWalksA. -/
import Derived.Test.YtecbnklmjehofaaVFacts
import Derived.Test.YtecbnklmjehofaaVRaw
import Derived.Test.YtecbnklmjehofaaVIter
set_option linter.all false
set_option linter.unusedVariables false
set_option linter.unusedSimpArgs false
set_option linter.unnecessarySimpa false
set_option linter.deprecated false
namespace Xb
open Go Go.Proofs
set_option linter.unusedVariables false
set_option maxRecDepth 20000

theorem vp9_most_c (p_d : Vp9) :
    AC Try.prog 80 [.ro (enc_Vp9 p_d)] (.ro (.int .i64 (vp9_most p_d))) [] := by
  obtain ⟨r, h⟩ : ∃ r, vp9_most p_d = r := ⟨_, rfl⟩
  rw [h]
  refine AC.of Try.func80 rfl rfl fun w M0 hM => ?_
  unfold vp9_most at h
  refine .sq ?_
  refine .rg (bx 1 (.t rfl) rfl rfl <| u (asg (.i rfl)) <| .nil _) rfl ?_
  refine .sq ?_
  refine .bl ?_
  refine .sq ?_
  refine .rg (u (fa ff62_0 (.t rfl)) <| u (ld tf4 (.t rfl) rfl rfl) <| u (no (.t rfl)) <| u (asg (.t rfl)) <| .nil _) rfl ?_
  refine .bq h (.t rfl) (fun h => ?_) (fun h => ?_)
  · refine .sq ?_
    refine .rg (u (asg (.i rfl)) <| .nil _) rfl ?_
    subst h
    exact .rt Try.func80 (.t rfl <| .n) .n rfl rfl
  · refine .sq ?_
    refine .rg (u (fa ff62_1 (.t rfl)) <| u (ld tf4 (.t rfl) rfl rfl) <| u (asg (.t rfl)) <| .nil _) rfl ?_
    refine .bq h (.t rfl) (fun h => ?_) (fun h => ?_)
    · refine .sq ?_
      refine .rg (u (asg (.i rfl)) <| .nil _) rfl ?_
      subst h
      exact .rt Try.func80 (.t rfl <| .n) .n rfl rfl
    · refine .skp ?_
      refine .ib ?_
      refine .sq ?_
      refine .rg (u (asg (.i rfl)) <| .nil _) rfl ?_
      subst h
      exact .rt Try.func80 (.t rfl <| .n) .n rfl rfl

theorem vp9_in_c (n : Int) (least : Int) (most : Int) :
    AC Try.prog 74 [.ro (.int .i64 n), .ro (.int .i64 least), .ro (.int .i64 most)] (.ro (.bool (vp9_in n least most))) [] := by
  obtain ⟨r, h⟩ : ∃ r, vp9_in n least most = r := ⟨_, rfl⟩
  rw [h]
  refine AC.of Try.func74 rfl rfl fun w M0 hM => ?_
  unfold vp9_in at h
  refine .sq ?_
  refine .rg (u (asg .b) <| .nil _) rfl ?_
  refine .sq ?_
  refine .rg (u (mv (.t rfl)) <| u (mv (.t rfl)) <| u (bc (.t rfl) (.t rfl) rfl rfl) <| u (mv (.t rfl)) <| gd rfl rfl (fun hB => mv (.t rfl)) <| gd rfl rfl (fun hB => mv (.t rfl)) <| gd rfl rfl (fun hB => bc (.m rfl hB) (.m rfl hB) rfl rfl) <| u (pka (.t rfl) (.t rfl)) <| u (asg (.t rfl)) <| .nil _) rfl ?_
  subst h
  exact .rt Try.func74 (.t rfl <| .n) .n rfl rfl

theorem vp9_layered_c (p_d : Vp9) :
    AC Try.prog 81 [.ro (enc_Vp9 p_d)] (.ro (.bool (vp9_layered p_d))) [] := by
  obtain ⟨r, h⟩ : ∃ r, vp9_layered p_d = r := ⟨_, rfl⟩
  rw [h]
  refine AC.of Try.func81 rfl rfl fun w M0 hM => ?_
  unfold vp9_layered at h
  refine .sq ?_
  refine .rg (bx 1 (.t rfl) rfl rfl <| u (asg .b) <| .nil _) rfl ?_
  refine .sq ?_
  refine .sq ?_
  refine .rg (u (fa ff62_4 (.t rfl)) <| u (ld tf4 (.t rfl) rfl rfl) <| u (no (.t rfl)) <| .nil _) rfl ?_
  refine .bq h (.t rfl) (fun h => ?_) (fun h => ?_)
  · refine .sq ?_
    refine .rg (u (fa ff62_5 (.t rfl)) <| u (ld tf3 (.t rfl) rfl rfl) <| u (bc (.t rfl) (.i rfl) rfl rfl) <| u (mv (.t rfl)) <| gd rfl rfl (fun hB => fa ff62_6 (.t rfl)) <| gd rfl rfl (fun hB => ld tf3 (.m rfl hB) rfl rfl) <| gd rfl rfl (fun hB => bc (.m rfl hB) (.i rfl) rfl rfl) <| u (pka (.t rfl) (.t rfl)) <| u (mv (.t rfl)) <| gd rfl rfl (fun hB => fa ff62_7 (.t rfl)) <| gd rfl rfl (fun hB => ld tf4 (.m rfl hB) rfl rfl) <| gd rfl rfl (fun hB => no (.m rfl hB)) <| u (pka (.t rfl) (.t rfl)) <| u (mv (.t rfl)) <| gd rfl rfl (fun hB => fa ff62_8 (.t rfl)) <| gd rfl rfl (fun hB => ld tf4 (.m rfl hB) rfl rfl) <| gd rfl rfl (fun hB => no (.m rfl hB)) <| u (pka (.t rfl) (.t rfl)) <| u (mv (.t rfl)) <| gd rfl rfl (fun hB => fa ff62_10 (.t rfl)) <| gd rfl rfl (fun hB => ld tf3 (.m rfl hB) rfl rfl) <| gd rfl rfl (fun hB => bc (.m rfl hB) (.i rfl) rfl rfl) <| u (pka (.t rfl) (.t rfl)) <| u (asg (.t rfl)) <| .nil _) rfl ?_
    subst h
    exact .rt Try.func81 (.t rfl <| .n) .n rfl rfl
  · refine .skp ?_
    refine .sq ?_
    refine .rg (u (fa ff62_5 (.t rfl)) <| u (ld tf3 (.t rfl) rfl rfl) <| cl [] cf74 (vp9_in_c p_d.tid 0 7) (.c (.t rfl) <| .c (.i rfl) <| .c (.i rfl) <| .n) (.inl rfl) <| u (mv (.t rfl)) <| gd rfl rfl (fun hB => fa ff62_6 (.t rfl)) <| gd rfl rfl (fun hB => ld tf3 (.m rfl hB) rfl rfl) <| cg rfl rfl cf74 (fun hB => (vp9_in_c p_d.sid 0 7)) (fun hB => .c (.m rfl hB) <| .c (.i rfl) <| .c (.i rfl) <| .n) (.inl rfl) <| u (pka (.t rfl) (.t rfl)) <| u (mv (.t rfl)) <| gd rfl rfl (fun hB => fa ff62_10 (.t rfl)) <| gd rfl rfl (fun hB => ld tf3 (.m rfl hB) rfl rfl) <| cg rfl rfl cf74 (fun hB => (vp9_in_c p_d.level 0 255)) (fun hB => .c (.m rfl hB) <| .c (.i rfl) <| .c (.i rfl) <| .n) (.inl rfl) <| u (pka (.t rfl) (.t rfl)) <| u (mv (.t rfl)) <| gd rfl rfl (fun hB => fa ff62_9 (.t rfl)) <| gd rfl rfl (fun hB => ld tf4 (.m rfl hB) rfl rfl) <| gd rfl rfl (fun hB => no (.m rfl hB)) <| gd rfl rfl (fun hB => mv (.m rfl hB)) <| gm rfl rfl (fun hB => fa ff62_10 (.t rfl)) <| gm rfl rfl (fun hB => ld tf3 (.m rfl hB) rfl rfl) <| gm rfl rfl (fun hB => bc (.m rfl hB) (.i rfl) rfl rfl) <| gd rfl rfl (fun hB => pkom (.m rfl hB) (.t rfl) hB) <| u (pka (.t rfl) (.t rfl)) <| u (asg (.t rfl)) <| .nil _) rfl ?_
    subst h
    exact .rt Try.func81 (.t rfl <| .n) .n rfl rfl

theorem vp9_referring_1_c (n : Int) :
    AC Try.prog 107 [.ro (.int .i64 n)] (.ro (.bool (vp9_referring_1 n))) [] := by
  obtain ⟨r, h⟩ : ∃ r, vp9_referring_1 n = r := ⟨_, rfl⟩
  rw [h]
  refine AC.of Try.func107 rfl rfl fun w M0 hM => ?_
  unfold vp9_referring_1 at h
  refine .sq ?_
  refine .rg (u (asg .b) <| .nil _) rfl ?_
  refine .sq ?_
  refine .rg (u (mv (.t rfl)) <| cl [] cf74 (vp9_in_c n 1 127) (.c (.t rfl) <| .c (.i rfl) <| .c (.i rfl) <| .n) (.inl rfl) <| u (no (.t rfl)) <| u (asg (.t rfl)) <| .nil _) rfl ?_
  subst h
  exact .rt Try.func107 (.t rfl <| .n) .n rfl rfl

theorem slices_IndexFunc_int_c {z : Option Nat} {p_s : List Int} {f : (Int → Option Bool)} {g_f : FuncId} {c_f : List V} (hF_f : CF Try.prog g_f) (h_f : ∀ (a0 : Int) (q : Bool), f a0 = some q → AC Try.prog g_f ([.ro (.int .i64 a0)] ++ c_f) (.ro (.bool q)) []) {r : Int} (h : slices_IndexFunc_int z p_s f = some r) :
    AC Try.prog 113 [.ro (.list 1 (List.map (ei .i64) p_s)), .fn (.func g_f) [] c_f] (.ro (.int .i64 r)) [] := by
  refine AC.of Try.func113 rfl rfl fun w M0 hM => ?_
  unfold slices_IndexFunc_int at h
  refine .sq ?_
  refine .rg (u (asg (.i rfl)) <| .nil _) rfl ?_
  refine .sq ?_
  refine .sq ?_
  refine .rg (u (mv (.t rfl)) <| u (lnm sf22 (.t rfl)) <| u (mv (.i rfl)) <| .nil _) rfl ?_
  refine .bl ?_
  unfold slices_IndexFunc_int_l1 at h
  refine .kq (.lo (fun (s : Int) => ⟨[(0, .ro (.list 1 (List.map (ei .i64) p_s))), (1, .fn (.func g_f) [] c_f), (7, .ro (.int .i64 (p_s.length : Int))), (8, .ro (.int .i64 s))], []⟩) h ?_) (.c rfl (.c rfl (.c rfl (.c rfl .n)))) .n
  intro v1 u1 h ih1 hx1
  replace h : slices_IndexFunc_int_s1 z p_s f v1 = _ := h
  unfold slices_IndexFunc_int_s1 at h
  refine .sq ?_
  refine .rg (u (bc (.t rfl) (.t rfl) rfl rfl) <| .nil _) rfl ?_
  refine .sq ?_
  refine .bq h (.t rfl) (fun h => ?_) (fun h => ?_)
  · refine .skp ?_
    refine .sq ?_
    refine .bl ?_
    refine .sq ?_
    refine .rg (u (mv (.t rfl)) <| u (asg (.t rfl)) <| .nil _) rfl ?_
    refine .sq ?_
    refine be h fun x2 hx2 h => ?_
    refine be h fun x3 hx3 h => ?_
    refine .rg (u (mv (.t rfl)) <| u (mv (.t rfl)) <| u (mv (.t rfl)) <| u (ia sf22 (.t rfl) (.t rfl) (ix_map (ei .i64) hx2)) <| u (lr tf3 (.t rfl) rfl) <| clv [] hF_f (.t rfl) (h_f _ _ hx3) (.c (.t rfl) <| .n) (.inl rfl) <| .nil _) rfl ?_
    refine .bq h (.t rfl) (fun h => ?_) (fun h => ?_)
    · refine .sq ?_
      refine .rg (u (mv (.t rfl)) <| u (asg (.t rfl)) <| .nil _) rfl ?_
      replace h := mpR h hx1
      obtain rfl := Option.some.inj h
      exact .rt Try.func113 (.t rfl <| .n) .n rfl rfl
    · refine .skp ?_
      refine .ib ?_
      refine .rg (u (bi (.t rfl) (.i rfl) rfl) <| u (mv (.t rfl)) <| .nil _) rfl ?_
      exact .kq (.il (ih1 (ar .add .i64 v1 1) (nxi h))) (.c rfl (.c rfl (.c rfl (.c rfl .n)))) .n
  · refine .xt rfl ?_
    replace h := mpR h hx1
    refine .sq ?_
    refine .rg (u (asg (.i rfl)) <| .nil _) rfl ?_
    obtain rfl := Option.some.inj h
    exact .rt Try.func113 (.t rfl <| .n) .n rfl rfl

theorem slices_ContainsFunc_int_c {z : Option Nat} {p_s : List Int} {f : (Int → Option Bool)} {g_f : FuncId} {c_f : List V} (hF_f : CF Try.prog g_f) (h_f : ∀ (a0 : Int) (q : Bool), f a0 = some q → AC Try.prog g_f ([.ro (.int .i64 a0)] ++ c_f) (.ro (.bool q)) []) {r : Bool} (h : slices_ContainsFunc_int z p_s f = some r) :
    AC Try.prog 98 [.ro (.list 1 (List.map (ei .i64) p_s)), .fn (.func g_f) [] c_f] (.ro (.bool r)) [] := by
  refine AC.of Try.func98 rfl rfl fun w M0 hM => ?_
  unfold slices_ContainsFunc_int at h
  refine .sq ?_
  refine .rg (u (asg .b) <| .nil _) rfl ?_
  refine .sq ?_
  refine be h fun x1 hx1 h => ?_
  refine .rg (u (mv (.t rfl)) <| u (mv (.t rfl)) <| cl [] cf113 (slices_IndexFunc_int_c hF_f h_f hx1) (.c (.t rfl) <| .c (.t rfl) <| .n) (.inl rfl) <| u (bc (.t rfl) (.i rfl) rfl rfl) <| u (asg (.t rfl)) <| .nil _) rfl ?_
  obtain rfl := Option.some.inj h
  exact .rt Try.func98 (.t rfl <| .n) .n rfl rfl

theorem vp9_referring_c {z : Option Nat} {p_d : Vp9} {r : Bool} (h : vp9_referring z p_d = some r) :
    AC Try.prog 82 [.ro (enc_Vp9 p_d)] (.ro (.bool r)) [] := by
  refine AC.of Try.func82 rfl rfl fun w M0 hM => ?_
  unfold vp9_referring at h
  refine .sq ?_
  refine .rg (bx 1 (.t rfl) rfl rfl <| u (asg .b) <| .nil _) rfl ?_
  refine .sq ?_
  refine .sq ?_
  refine .rg (u (fa ff62_9 (.t rfl)) <| u (ld tf4 (.t rfl) rfl rfl) <| u (no (.t rfl)) <| u (mv (.t rfl)) <| gd rfl rfl (fun hB => fa ff62_3 (.t rfl)) <| gd rfl rfl (fun hB => ld tf4 (.m rfl hB) rfl rfl) <| gd rfl rfl (fun hB => no (.m rfl hB)) <| u (pko (.t rfl) (.t rfl)) <| .nil _) rfl ?_
  refine .bq h (.t rfl) (fun h => ?_) (fun h => ?_)
  · refine .sq ?_
    refine .rg (u (fa ff62_11 (.t rfl)) <| u (ld tf22 (.t rfl) rfl rfl) <| u (lnm sf22 (.t rfl)) <| u (bc (.t rfl) (.i rfl) rfl rfl) <| u (asg (.t rfl)) <| .nil _) rfl ?_
    obtain rfl := Option.some.inj h
    exact .rt Try.func82 (.t rfl <| .n) .n rfl rfl
  · refine .skp ?_
    refine .sq ?_
    refine .rg (u (asg .f) <| .nil _) rfl ?_
    refine .sq ?_
    refine be h fun x1 hx1 h => ?_
    refine .rg (u (fa ff62_11 (.t rfl)) <| u (ld tf22 (.t rfl) rfl rfl) <| u (lnm sf22 (.t rfl)) <| cl [] cf74 (vp9_in_c (p_d.refs.length : Int) 1 3) (.c (.t rfl) <| .c (.i rfl) <| .c (.i rfl) <| .n) (.inl rfl) <| u (mv (.t rfl)) <| gd rfl rfl (fun hB => fa ff62_11 (.t rfl)) <| gd rfl rfl (fun hB => ld tf22 (.m rfl hB) rfl rfl) <| gd rfl rfl (fun hB => mv (.t rfl)) <| cg rfl rfl cf98 (fun hB => (slices_ContainsFunc_int_c cf107 (fun y0 q h => by obtain rfl := Option.some.inj h; exact vp9_referring_1_c y0) (gTt hx1 hB))) (fun hB => .c (.m rfl hB) <| .c (.m rfl hB) <| .n) (.inl rfl) <| gd rfl rfl (fun hB => no (.m rfl hB)) <| u (pka (.t rfl) (.t rfl)) <| u (asg (.t rfl)) <| .nil _) rfl ?_
    obtain rfl := Option.some.inj h
    exact .rt Try.func82 (.t rfl <| .n) .n rfl rfl

theorem vp9_RightScale_1_c (x : Size) :
    AC Try.prog 75 [.ro (enc_Size x)] (.ro (.bool (vp9_RightScale_1 x))) [] := by
  obtain ⟨r, h⟩ : ∃ r, vp9_RightScale_1 x = r := ⟨_, rfl⟩
  rw [h]
  refine AC.of Try.func75 rfl rfl fun w M0 hM => ?_
  unfold vp9_RightScale_1 at h
  refine .sq ?_
  refine .rg (bx 1 (.t rfl) rfl rfl <| u (asg .b) <| .nil _) rfl ?_
  refine .sq ?_
  refine .rg (u (fa ff83_0 (.t rfl)) <| u (ld tf3 (.t rfl) rfl rfl) <| cl [] cf74 (vp9_in_c x.wide 0 65535) (.c (.t rfl) <| .c (.i rfl) <| .c (.i rfl) <| .n) (.inl rfl) <| u (no (.t rfl)) <| u (mv (.t rfl)) <| gd rfl rfl (fun hB => fa ff83_1 (.t rfl)) <| gd rfl rfl (fun hB => ld tf3 (.m rfl hB) rfl rfl) <| cg rfl rfl cf74 (fun hB => (vp9_in_c x.high 0 65535)) (fun hB => .c (.m rfl hB) <| .c (.i rfl) <| .c (.i rfl) <| .n) (.inl rfl) <| gd rfl rfl (fun hB => no (.m rfl hB)) <| u (pko (.t rfl) (.t rfl)) <| u (asg (.t rfl)) <| .nil _) rfl ?_
  subst h
  exact .rt Try.func75 (.t rfl <| .n) .n rfl rfl

theorem slices_IndexFunc_Size_c {z : Option Nat} {p_s : List Size} {f : (Size → Option Bool)} {g_f : FuncId} {c_f : List V} (hF_f : CF Try.prog g_f) (h_f : ∀ (a0 : Size) (q : Bool), f a0 = some q → AC Try.prog g_f ([.ro (enc_Size a0)] ++ c_f) (.ro (.bool q)) []) {r : Int} (h : slices_IndexFunc_Size z p_s f = some r) :
    AC Try.prog 104 [.ro (.list 2 (List.map cells_Size p_s)), .fn (.func g_f) [] c_f] (.ro (.int .i64 r)) [] := by
  refine AC.of Try.func104 rfl rfl fun w M0 hM => ?_
  unfold slices_IndexFunc_Size at h
  refine .sq ?_
  refine .rg (u (asg (.i rfl)) <| .nil _) rfl ?_
  refine .sq ?_
  refine .sq ?_
  refine .rg (u (mv (.t rfl)) <| u (lnm sf24 (.t rfl)) <| u (mv (.i rfl)) <| .nil _) rfl ?_
  refine .bl ?_
  unfold slices_IndexFunc_Size_l1 at h
  refine .kq (.lo (fun (s : Int) => ⟨[(0, .ro (.list 2 (List.map cells_Size p_s))), (1, .fn (.func g_f) [] c_f), (7, .ro (.int .i64 (p_s.length : Int))), (8, .ro (.int .i64 s))], []⟩) h ?_) (.c rfl (.c rfl (.c rfl (.c rfl .n)))) .n
  intro v1 u1 h ih1 hx1
  replace h : slices_IndexFunc_Size_s1 z p_s f v1 = _ := h
  unfold slices_IndexFunc_Size_s1 at h
  refine .sq ?_
  refine .rg (u (bc (.t rfl) (.t rfl) rfl rfl) <| .nil _) rfl ?_
  refine .sq ?_
  refine .bq h (.t rfl) (fun h => ?_) (fun h => ?_)
  · refine .skp ?_
    refine .sq ?_
    refine .bl ?_
    refine .sq ?_
    refine .rg (u (mv (.t rfl)) <| u (asg (.t rfl)) <| .nil _) rfl ?_
    refine .sq ?_
    refine be h fun x2 hx2 h => ?_
    refine be h fun x3 hx3 h => ?_
    refine .rg (u (mv (.t rfl)) <| u (mv (.t rfl)) <| u (mv (.t rfl)) <| u (ia sf24 (.t rfl) (.t rfl) (ix_map cells_Size hx2)) <| u (lr tf83 (.t rfl) rfl) <| clv [] hF_f (.t rfl) (h_f _ _ hx3) (.c (.t rfl) <| .n) (.inl rfl) <| .nil _) rfl ?_
    refine .bq h (.t rfl) (fun h => ?_) (fun h => ?_)
    · refine .sq ?_
      refine .rg (u (mv (.t rfl)) <| u (asg (.t rfl)) <| .nil _) rfl ?_
      replace h := mpR h hx1
      obtain rfl := Option.some.inj h
      exact .rt Try.func104 (.t rfl <| .n) .n rfl rfl
    · refine .skp ?_
      refine .ib ?_
      refine .rg (u (bi (.t rfl) (.i rfl) rfl) <| u (mv (.t rfl)) <| .nil _) rfl ?_
      exact .kq (.il (ih1 (ar .add .i64 v1 1) (nxi h))) (.c rfl (.c rfl (.c rfl (.c rfl .n)))) .n
  · refine .xt rfl ?_
    replace h := mpR h hx1
    refine .sq ?_
    refine .rg (u (asg (.i rfl)) <| .nil _) rfl ?_
    obtain rfl := Option.some.inj h
    exact .rt Try.func104 (.t rfl <| .n) .n rfl rfl

theorem slices_ContainsFunc_Size_c {z : Option Nat} {p_s : List Size} {f : (Size → Option Bool)} {g_f : FuncId} {c_f : List V} (hF_f : CF Try.prog g_f) (h_f : ∀ (a0 : Size) (q : Bool), f a0 = some q → AC Try.prog g_f ([.ro (enc_Size a0)] ++ c_f) (.ro (.bool q)) []) {r : Bool} (h : slices_ContainsFunc_Size z p_s f = some r) :
    AC Try.prog 76 [.ro (.list 2 (List.map cells_Size p_s)), .fn (.func g_f) [] c_f] (.ro (.bool r)) [] := by
  refine AC.of Try.func76 rfl rfl fun w M0 hM => ?_
  unfold slices_ContainsFunc_Size at h
  refine .sq ?_
  refine .rg (u (asg .b) <| .nil _) rfl ?_
  refine .sq ?_
  refine be h fun x1 hx1 h => ?_
  refine .rg (u (mv (.t rfl)) <| u (mv (.t rfl)) <| cl [] cf104 (slices_IndexFunc_Size_c hF_f h_f hx1) (.c (.t rfl) <| .c (.t rfl) <| .n) (.inl rfl) <| u (bc (.t rfl) (.i rfl) rfl rfl) <| u (asg (.t rfl)) <| .nil _) rfl ?_
  obtain rfl := Option.some.inj h
  exact .rt Try.func76 (.t rfl <| .n) .n rfl rfl

theorem slices_IndexFunc_Group_c {z : Option Nat} {p_s : List Group} {f : (Group → Option Bool)} {g_f : FuncId} {c_f : List V} (hF_f : CF Try.prog g_f) (h_f : ∀ (a0 : Group) (q : Bool), f a0 = some q → AC Try.prog g_f ([.ro (enc_Group a0)] ++ c_f) (.ro (.bool q)) []) {r : Int} (h : slices_IndexFunc_Group z p_s f = some r) :
    AC Try.prog 105 [.ro (.list 3 (List.map cells_Group p_s)), .fn (.func g_f) [] c_f] (.ro (.int .i64 r)) [] := by
  refine AC.of Try.func105 rfl rfl fun w M0 hM => ?_
  unfold slices_IndexFunc_Group at h
  refine .sq ?_
  refine .rg (u (asg (.i rfl)) <| .nil _) rfl ?_
  refine .sq ?_
  refine .sq ?_
  refine .rg (u (mv (.t rfl)) <| u (lnm sf58 (.t rfl)) <| u (mv (.i rfl)) <| .nil _) rfl ?_
  refine .bl ?_
  unfold slices_IndexFunc_Group_l1 at h
  refine .kq (.lo (fun (s : Int) => ⟨[(0, .ro (.list 3 (List.map cells_Group p_s))), (1, .fn (.func g_f) [] c_f), (7, .ro (.int .i64 (p_s.length : Int))), (8, .ro (.int .i64 s))], []⟩) h ?_) (.c rfl (.c rfl (.c rfl (.c rfl .n)))) .n
  intro v1 u1 h ih1 hx1
  replace h : slices_IndexFunc_Group_s1 z p_s f v1 = _ := h
  unfold slices_IndexFunc_Group_s1 at h
  refine .sq ?_
  refine .rg (u (bc (.t rfl) (.t rfl) rfl rfl) <| .nil _) rfl ?_
  refine .sq ?_
  refine .bq h (.t rfl) (fun h => ?_) (fun h => ?_)
  · refine .skp ?_
    refine .sq ?_
    refine .bl ?_
    refine .sq ?_
    refine .rg (u (mv (.t rfl)) <| u (asg (.t rfl)) <| .nil _) rfl ?_
    refine .sq ?_
    refine be h fun x2 hx2 h => ?_
    refine be h fun x3 hx3 h => ?_
    refine .rg (u (mv (.t rfl)) <| u (mv (.t rfl)) <| u (mv (.t rfl)) <| u (ia sf58 (.t rfl) (.t rfl) (ix_map cells_Group hx2)) <| u (lr tf113 (.t rfl) rfl) <| clv [] hF_f (.t rfl) (h_f _ _ hx3) (.c (.t rfl) <| .n) (.inl rfl) <| .nil _) rfl ?_
    refine .bq h (.t rfl) (fun h => ?_) (fun h => ?_)
    · refine .sq ?_
      refine .rg (u (mv (.t rfl)) <| u (asg (.t rfl)) <| .nil _) rfl ?_
      replace h := mpR h hx1
      obtain rfl := Option.some.inj h
      exact .rt Try.func105 (.t rfl <| .n) .n rfl rfl
    · refine .skp ?_
      refine .ib ?_
      refine .rg (u (bi (.t rfl) (.i rfl) rfl) <| u (mv (.t rfl)) <| .nil _) rfl ?_
      exact .kq (.il (ih1 (ar .add .i64 v1 1) (nxi h))) (.c rfl (.c rfl (.c rfl (.c rfl .n)))) .n
  · refine .xt rfl ?_
    replace h := mpR h hx1
    refine .sq ?_
    refine .rg (u (asg (.i rfl)) <| .nil _) rfl ?_
    obtain rfl := Option.some.inj h
    exact .rt Try.func105 (.t rfl <| .n) .n rfl rfl

theorem slices_ContainsFunc_Group_c {z : Option Nat} {p_s : List Group} {f : (Group → Option Bool)} {g_f : FuncId} {c_f : List V} (hF_f : CF Try.prog g_f) (h_f : ∀ (a0 : Group) (q : Bool), f a0 = some q → AC Try.prog g_f ([.ro (enc_Group a0)] ++ c_f) (.ro (.bool q)) []) {r : Bool} (h : slices_ContainsFunc_Group z p_s f = some r) :
    AC Try.prog 77 [.ro (.list 3 (List.map cells_Group p_s)), .fn (.func g_f) [] c_f] (.ro (.bool r)) [] := by
  refine AC.of Try.func77 rfl rfl fun w M0 hM => ?_
  unfold slices_ContainsFunc_Group at h
  refine .sq ?_
  refine .rg (u (asg .b) <| .nil _) rfl ?_
  refine .sq ?_
  refine be h fun x1 hx1 h => ?_
  refine .rg (u (mv (.t rfl)) <| u (mv (.t rfl)) <| cl [] cf105 (slices_IndexFunc_Group_c hF_f h_f hx1) (.c (.t rfl) <| .c (.t rfl) <| .n) (.inl rfl) <| u (bc (.t rfl) (.i rfl) rfl rfl) <| u (asg (.t rfl)) <| .nil _) rfl ?_
  obtain rfl := Option.some.inj h
  exact .rt Try.func77 (.t rfl <| .n) .n rfl rfl

theorem vp9_group_1_c (n : Int) :
    AC Try.prog 106 [.ro (.int .i64 n)] (.ro (.bool (vp9_group_1 n))) [] := by
  obtain ⟨r, h⟩ : ∃ r, vp9_group_1 n = r := ⟨_, rfl⟩
  rw [h]
  refine AC.of Try.func106 rfl rfl fun w M0 hM => ?_
  unfold vp9_group_1 at h
  refine .sq ?_
  refine .rg (u (asg .b) <| .nil _) rfl ?_
  refine .sq ?_
  refine .rg (u (mv (.t rfl)) <| cl [] cf74 (vp9_in_c n 0 255) (.c (.t rfl) <| .c (.i rfl) <| .c (.i rfl) <| .n) (.inl rfl) <| u (no (.t rfl)) <| u (asg (.t rfl)) <| .nil _) rfl ?_
  subst h
  exact .rt Try.func106 (.t rfl <| .n) .n rfl rfl

theorem vp9_group_c {z : Option Nat} {g : Group} {r : Bool} (h : vp9_group z g = some r) :
    AC Try.prog 79 [.ro (enc_Group g)] (.ro (.bool r)) [] := by
  refine AC.of Try.func79 rfl rfl fun w M0 hM => ?_
  unfold vp9_group at h
  refine .sq ?_
  refine .rg (bx 1 (.t rfl) rfl rfl <| u (asg .b) <| .nil _) rfl ?_
  refine .sq ?_
  refine .rg (u (asg .f) <| .nil _) rfl ?_
  refine .sq ?_
  refine be h fun x1 hx1 h => ?_
  refine .rg (u (fa ff113_0 (.t rfl)) <| u (ld tf3 (.t rfl) rfl rfl) <| cl [] cf74 (vp9_in_c g.tid 0 7) (.c (.t rfl) <| .c (.i rfl) <| .c (.i rfl) <| .n) (.inl rfl) <| u (mv (.t rfl)) <| gd rfl rfl (fun hB => fa ff113_2 (.t rfl)) <| gd rfl rfl (fun hB => ld tf22 (.m rfl hB) rfl rfl) <| gd rfl rfl (fun hB => lnm sf22 (.m rfl hB)) <| gd rfl rfl (fun hB => bc (.m rfl hB) (.i rfl) rfl rfl) <| u (pka (.t rfl) (.t rfl)) <| u (mv (.t rfl)) <| gd rfl rfl (fun hB => fa ff113_2 (.t rfl)) <| gd rfl rfl (fun hB => ld tf22 (.m rfl hB) rfl rfl) <| gd rfl rfl (fun hB => mv (.t rfl)) <| cg rfl rfl cf98 (fun hB => (slices_ContainsFunc_int_c cf106 (fun y0 q h => by obtain rfl := Option.some.inj h; exact vp9_group_1_c y0) (gTt hx1 hB))) (fun hB => .c (.m rfl hB) <| .c (.m rfl hB) <| .n) (.inl rfl) <| gd rfl rfl (fun hB => no (.m rfl hB)) <| u (pka (.t rfl) (.t rfl)) <| u (asg (.t rfl)) <| .nil _) rfl ?_
  obtain rfl := Option.some.inj h
  exact .rt Try.func79 (.t rfl <| .n) .n rfl rfl

theorem vp9_RightScale_2_c {z : Option Nat} {g : Group} {r : Bool} (h : vp9_RightScale_2 z g = some r) :
    AC Try.prog 78 [.ro (enc_Group g)] (.ro (.bool r)) [] := by
  refine AC.of Try.func78 rfl rfl fun w M0 hM => ?_
  unfold vp9_RightScale_2 at h
  refine .sq ?_
  refine .rg (bx 1 (.t rfl) rfl rfl <| u (asg .b) <| .nil _) rfl ?_
  refine .sq ?_
  refine be h fun x1 hx1 h => ?_
  refine .rg (u (ld tf113 (.t rfl) rfl rfl) <| cl [] cf79 (vp9_group_c hx1) (.c (.t rfl) <| .n) (.inl rfl) <| u (no (.t rfl)) <| u (asg (.t rfl)) <| .nil _) rfl ?_
  obtain rfl := Option.some.inj h
  exact .rt Try.func78 (.t rfl <| .n) .n rfl rfl

theorem vp9_RightScale_c {z : Option Nat} {p_s : Scale} {r : Bool} (h : vp9_RightScale z p_s = some r) :
    AC Try.prog 35 [.ro (enc_Scale p_s)] (.ro (.bool r)) [] := by
  refine AC.of Try.func35 rfl rfl fun w M0 hM => ?_
  unfold vp9_RightScale at h
  refine .sq ?_
  refine .rg (bx 1 (.t rfl) rfl rfl <| u (asg .b) <| .nil _) rfl ?_
  refine .sq ?_
  refine .rg (u (asg (.i rfl)) <| u (asg (.i rfl)) <| .nil _) rfl ?_
  refine .sq ?_
  refine .sq ?_
  refine .rg (u (fa ff60_1 (.t rfl)) <| u (ld tf4 (.t rfl) rfl rfl) <| .nil _) rfl ?_
  refine .jq (t := some r) (fun (a : Int) => ⟨[(1, .ptr 1 0), (3, .ro (.int .i64 a)), (4, .ro (.int .i64 0))], [(1, some (.box [.ro (.int .i64 p_s.layers), .ro (.bool p_s.hasSizes), .ro (.list 2 (List.map cells_Size p_s.sizes)), .ro (.bool p_s.hasPics), .ro (.list 3 (List.map cells_Group p_s.pics))]))]⟩) (fun (a : Int) => vp9_RightScale_j1 z p_s a) ?_ (fun J1 => ?_)
  · intro v1 h
    replace h : vp9_RightScale_j1 z p_s v1 = _ := h
    unfold vp9_RightScale_j1 at h
    refine .sq ?_
    refine .sq ?_
    refine .rg (u (fa ff60_3 (.t rfl)) <| u (ld tf4 (.t rfl) rfl rfl) <| .nil _) rfl ?_
    refine .jq (t := some r) (fun (a : Int) => ⟨[(1, .ptr 1 0), (3, .ro (.int .i64 v1)), (4, .ro (.int .i64 a))], [(1, some (.box [.ro (.int .i64 p_s.layers), .ro (.bool p_s.hasSizes), .ro (.list 2 (List.map cells_Size p_s.sizes)), .ro (.bool p_s.hasPics), .ro (.list 3 (List.map cells_Group p_s.pics))]))]⟩) (fun (a : Int) => vp9_RightScale_j2 z p_s v1 a) ?_ (fun J2 => ?_)
    · intro v2 h
      replace h : vp9_RightScale_j2 z p_s v1 v2 = _ := h
      unfold vp9_RightScale_j2 at h
      refine .sq ?_
      refine .sq ?_
      refine .rg (u (fa ff60_0 (.t rfl)) <| u (ld tf3 (.t rfl) rfl rfl) <| cl [] cf74 (vp9_in_c p_s.layers 1 8) (.c (.t rfl) <| .c (.i rfl) <| .c (.i rfl) <| .n) (.inl rfl) <| u (no (.t rfl)) <| u (mv (.t rfl)) <| gd rfl rfl (fun hB => fa ff60_2 (.t rfl)) <| gd rfl rfl (fun hB => ld tf24 (.m rfl hB) rfl rfl) <| gd rfl rfl (fun hB => lnm sf24 (.m rfl hB)) <| gd rfl rfl (fun hB => mv (.t rfl)) <| gd rfl rfl (fun hB => bc (.m rfl hB) (.m rfl hB) rfl rfl) <| u (pko (.t rfl) (.t rfl)) <| u (mv (.t rfl)) <| gd rfl rfl (fun hB => fa ff60_4 (.t rfl)) <| gd rfl rfl (fun hB => ld tf58 (.m rfl hB) rfl rfl) <| gd rfl rfl (fun hB => lnm sf58 (.m rfl hB)) <| gd rfl rfl (fun hB => mv (.t rfl)) <| gd rfl rfl (fun hB => bc (.m rfl hB) (.m rfl hB) rfl rfl) <| u (pko (.t rfl) (.t rfl)) <| .nil _) rfl ?_
      refine .bq h (.t rfl) (fun h => ?_) (fun h => ?_)
      · refine .sq ?_
        refine .rg (u (asg .b) <| .nil _) rfl ?_
        obtain rfl := Option.some.inj h
        exact .rt Try.func35 (.t rfl <| .n) .n rfl rfl
      · refine .skp ?_
        refine .sq ?_
        refine .rg (u (asg .f) <| .nil _) rfl ?_
        refine .sq ?_
        refine be h fun x3 hx3 h => ?_
        refine be h fun x4 hx4 h => ?_
        refine .rg (u (fa ff60_2 (.t rfl)) <| u (ld tf24 (.t rfl) rfl rfl) <| u (mv (.t rfl)) <| cl [] cf76 (slices_ContainsFunc_Size_c cf75 (fun y0 q h => by obtain rfl := Option.some.inj h; exact vp9_RightScale_1_c y0) hx3) (.c (.t rfl) <| .c (.t rfl) <| .n) (.inl rfl) <| u (no (.t rfl)) <| u (mv (.t rfl)) <| gd rfl rfl (fun hB => fa ff60_4 (.t rfl)) <| gd rfl rfl (fun hB => ld tf58 (.m rfl hB) rfl rfl) <| cg rfl rfl cf77 (fun hB => (slices_ContainsFunc_Group_c cf78 (fun y0 q h => vp9_RightScale_2_c h) (gTt hx4 hB))) (fun hB => .c (.m rfl hB) <| .c .f <| .n) (.inl rfl) <| gd rfl rfl (fun hB => no (.m rfl hB)) <| u (pka (.t rfl) (.t rfl)) <| u (asg (.t rfl)) <| .nil _) rfl ?_
        obtain rfl := Option.some.inj h
        exact .rt Try.func35 (.t rfl <| .n) .n rfl rfl
    refine .bq h (.t rfl) (fun h => ?_) (fun h => ?_)
    · refine .rg (u (asg (.i rfl)) <| .nil _) rfl ?_
      exact .kq (J2 255 h) (.c rfl (.c rfl (.c rfl .n))) (.c rfl .n)
    · refine .skp ?_
      exact .kq (J2 0 h) (.c rfl (.c rfl (.c rfl .n))) (.c rfl .n)
  refine .bq h (.t rfl) (fun h => ?_) (fun h => ?_)
  · refine .rg (u (fa ff60_0 (.t rfl)) <| u (ld tf3 (.t rfl) rfl rfl) <| u (asg (.t rfl)) <| .nil _) rfl ?_
    exact .kq (J1 p_s.layers h) (.c rfl (.c rfl (.c rfl .n))) (.c rfl .n)
  · refine .skp ?_
    exact .kq (J1 0 h) (.c rfl (.c rfl (.c rfl .n))) (.c rfl .n)

theorem vp9_Right_c {z : Option Nat} {p_d : Vp9} {r : Bool} (h : vp9_Right z p_d = some r) :
    AC Try.prog 39 [.ro (enc_Vp9 p_d)] (.ro (.bool r)) [] := by
  refine AC.of Try.func39 rfl rfl fun w M0 hM => ?_
  unfold vp9_Right at h
  refine .sq ?_
  refine .rg (bx 1 (.t rfl) rfl rfl <| u (asg .b) <| .nil _) rfl ?_
  refine .sq ?_
  refine .sq ?_
  refine be h fun x1 hx1 h => ?_
  refine .rd mixed (u (fa ff62_2 (.t rfl)) <| u (ld tf3 (.t rfl) rfl rfl) <| u (ld tf62 (.t rfl) rfl rfl) <| cl [] cf80 (vp9_most_c p_d) (.c (.t rfl) <| .n) (.inl rfl) <| cl [] cf74 (vp9_in_c p_d.pic 0 (vp9_most p_d)) (.c (.t rfl) <| .c (.i rfl) <| .c (.t rfl) <| .n) (.inl rfl) <| u (no (.t rfl)) <| u (mv (.t rfl)) <| gd rfl rfl (fun hB => fa ff62_0 (.t rfl)) <| gd rfl rfl (fun hB => ld tf4 (.m rfl hB) rfl rfl) <| gd rfl rfl (fun hB => no (.m rfl hB)) <| gd rfl rfl (fun hB => mv (.m rfl hB)) <| gm rfl rfl (fun hB => fa ff62_1 (.t rfl)) <| gm rfl rfl (fun hB => ld tf4 (.m rfl hB) rfl rfl) <| gd rfl rfl (fun hB => pkam (.m rfl hB) (.t rfl) hB) <| u (pko (.t rfl) (.t rfl)) <| u (mv (.t rfl)) <| gd rfl rfl (fun hB => ld tf62 (.t rfl) rfl rfl) <| cg rfl rfl cf81 (fun hB => (vp9_layered_c p_d)) (fun hB => .c (.m rfl hB) <| .n) (.inl rfl) <| gd rfl rfl (fun hB => no (.m rfl hB)) <| u (pko (.t rfl) (.t rfl)) <| u (mv (.t rfl)) <| gd rfl rfl (fun hB => ld tf62 (.t rfl) rfl rfl) <| cg rfl rfl cf82 (fun hB => (vp9_referring_c (gTt hx1 (nt hB)))) (fun hB => .c (.m rfl hB) <| .n) (.inl rfl) <| gd rfl rfl (fun hB => no (.m rfl hB)) <| u (pko (.t rfl) (.t rfl)) <| .nil _) (by kernel_rfl) rfl ?_
  refine .bq h (.t rfl) (fun h => ?_) (fun h => ?_)
  · refine .sq ?_
    refine .rg (u (asg .b) <| .nil _) rfl ?_
    obtain rfl := Option.some.inj h
    exact .rt Try.func39 (.t rfl <| .n) .n rfl rfl
  · refine .skp ?_
    refine .sq ?_
    refine .sq ?_
    refine .rg (u (fa ff62_14 (.t rfl)) <| u (ld tf4 (.t rfl) rfl rfl) <| u (no (.t rfl)) <| .nil _) rfl ?_
    refine .bq h (.t rfl) (fun h => ?_) (fun h => ?_)
    · refine .sq ?_
      refine .rg (u (fa ff62_15 (.t rfl)) <| u (ld tf60 (.t rfl) rfl rfl) <| al 3 zf60 rfl <| st tf60 (.t rfl) rfl (.t rfl) rfl rfl rfl <| .nil _) rfl ?_
      refine .sq ?_
      refine .rg (u (fa ff60_0 (.t rfl)) <| u (ld tf3 (.t rfl) rfl rfl) <| u (bc (.t rfl) (.i rfl) rfl rfl) <| u (mv (.t rfl)) <| gd rfl rfl (fun hB => fa ff60_1 (.t rfl)) <| gd rfl rfl (fun hB => ld tf4 (.m rfl hB) rfl rfl) <| gd rfl rfl (fun hB => no (.m rfl hB)) <| u (pka (.t rfl) (.t rfl)) <| u (mv (.t rfl)) <| gd rfl rfl (fun hB => fa ff60_3 (.t rfl)) <| gd rfl rfl (fun hB => ld tf4 (.m rfl hB) rfl rfl) <| gd rfl rfl (fun hB => no (.m rfl hB)) <| u (pka (.t rfl) (.t rfl)) <| u (mv (.t rfl)) <| gd rfl rfl (fun hB => fa ff60_2 (.t rfl)) <| gd rfl rfl (fun hB => ld tf24 (.m rfl hB) rfl rfl) <| gd rfl rfl (fun hB => lnm sf24 (.m rfl hB)) <| gd rfl rfl (fun hB => bc (.m rfl hB) (.i rfl) rfl rfl) <| u (pka (.t rfl) (.t rfl)) <| u (mv (.t rfl)) <| gd rfl rfl (fun hB => fa ff60_4 (.t rfl)) <| gd rfl rfl (fun hB => ld tf58 (.m rfl hB) rfl rfl) <| gd rfl rfl (fun hB => lnm sf58 (.m rfl hB)) <| gd rfl rfl (fun hB => bc (.m rfl hB) (.i rfl) rfl rfl) <| u (pka (.t rfl) (.t rfl)) <| u (asg (.t rfl)) <| .nil _) rfl ?_
      obtain rfl := Option.some.inj h
      exact .rt Try.func39 (.t rfl <| .n) .n rfl rfl
    · refine .skp ?_
      refine .sq ?_
      refine be h fun x2 hx2 h => ?_
      refine .rg (u (fa ff62_15 (.t rfl)) <| u (ld tf60 (.t rfl) rfl rfl) <| cl [] cf35 (vp9_RightScale_c hx2) (.c (.t rfl) <| .n) (.inl rfl) <| u (asg (.t rfl)) <| .nil _) rfl ?_
      obtain rfl := Option.some.inj h
      exact .rt Try.func39 (.t rfl <| .n) .n rfl rfl

theorem bits_Right_c {k : Ink} {r : Bool} (h : bits_Right k = some r) :
    AC Try.prog 43 [.ro (enc_Ink k)] (.ro (.bool r)) [] := by
  refine AC.of Try.func43 rfl rfl fun w M0 hM => ?_
  unfold bits_Right at h
  refine .sq ?_
  refine .rg (bx 1 (.t rfl) rfl rfl <| u (asg .b) <| .nil _) rfl ?_
  refine .sq ?_
  refine .sq ?_
  refine .rg (u (fa ff29_1 (.t rfl)) <| u (ld tf3 (.t rfl) rfl rfl) <| u (bc (.t rfl) (.i rfl) rfl rfl) <| u (mv (.t rfl)) <| gd rfl rfl (fun hB => fa ff29_0 (.t rfl)) <| gd rfl rfl (fun hB => ld tf27 (.m rfl hB) rfl rfl) <| gd rfl rfl (fun hB => lnm sf27 (.m rfl hB)) <| gd rfl rfl (fun hB => fa ff29_1 (.t rfl)) <| gd rfl rfl (fun hB => ld tf3 (.m rfl hB) rfl rfl) <| gd rfl rfl (fun hB => di (.m rfl hB) (.i rfl) rfl (by decide)) <| gd rfl rfl (fun hB => fa ff29_1 (.t rfl)) <| gd rfl rfl (fun hB => ld tf3 (.m rfl hB) rfl rfl) <| gd rfl rfl (fun hB => di (.m rfl hB) (.i rfl) rfl (by decide)) <| gd rfl rfl (fun hB => mn (.m rfl hB) (.i rfl)) <| gd rfl rfl (fun hB => bi (.m rfl hB) (.m rfl hB) rfl) <| gd rfl rfl (fun hB => bc (.m rfl hB) (.m rfl hB) rfl rfl) <| u (pko (.t rfl) (.t rfl)) <| .nil _) rfl ?_
  refine .bq h (.t rfl) (fun h => ?_) (fun h => ?_)
  · refine .sq ?_
    refine .rg (u (asg .b) <| .nil _) rfl ?_
    obtain rfl := Option.some.inj h
    exact .rt Try.func43 (.t rfl <| .n) .n rfl rfl
  · refine .skp ?_
    refine .sq ?_
    refine .rg (u (fa ff29_0 (.t rfl)) <| u (ld tf27 (.t rfl) rfl rfl) <| u (lnm sf27 (.t rfl)) <| u (bi (.i rfl) (.t rfl) rfl) <| u (fa ff29_1 (.t rfl)) <| u (ld tf3 (.t rfl) rfl rfl) <| u (bi (.t rfl) (.t rfl) rfl) <| u (asg (.t rfl)) <| .nil _) rfl ?_
    refine .sq ?_
    refine be h fun x1 hx1 h => ?_
    refine be h fun x2 hx2 h => ?_
    refine .rd mixed (u (mv (.t rfl)) <| u (bc (.t rfl) (.i rfl) rfl rfl) <| u (mv (.t rfl)) <| gd rfl rfl (fun hB => fa ff29_0 (.t rfl)) <| gd rfl rfl (fun hB => ld tf27 (.m rfl hB) rfl rfl) <| gd rfl rfl (fun hB => fa ff29_0 (.t rfl)) <| gd rfl rfl (fun hB => ld tf27 (.m rfl hB) rfl rfl) <| gd rfl rfl (fun hB => lnm sf27 (.m rfl hB)) <| gd rfl rfl (fun hB => bi (.m rfl hB) (.i rfl) rfl) <| gd rfl rfl (fun hB => ia sf27 (.m rfl hB) (.m rfl hB) (ix_map e8 (gTt hx1 (nt hB)))) <| gd rfl rfl (fun hB => lr tf5 (.m rfl hB) rfl) <| gd rfl rfl (fun hB => mv (.t rfl)) <| gd rfl rfl (fun hB => sho (.i rfl) (.m rfl hB) rfl (gTt hx2 (nt hB))) <| gd rfl rfl (fun hB => bi (.m rfl hB) (.i rfl) rfl) <| gd rfl rfl (fun hB => bi (.m rfl hB) (.m rfl hB) rfl) <| gd rfl rfl (fun hB => bc (.m rfl hB) (.i rfl) rfl rfl) <| u (pko (.t rfl) (.t rfl)) <| u (asg (.t rfl)) <| .nil _) (by kernel_rfl) rfl ?_
    obtain rfl := Option.some.inj h
    exact .rt Try.func43 (.t rfl <| .n) .n rfl rfl

theorem math_bits_Len64_c {x : Int} {r : Int} (h : math_bits_Len64 x = some r) :
    AC Try.prog 63 [.ro (.int .u64 x)] (.ro (.int .i64 r)) [] := by
  refine AC.of Try.func63 rfl rfl fun w M0 hM => ?_
  unfold math_bits_Len64 at h
  refine .sq ?_
  refine .rg (u (asg (.i rfl)) <| .nil _) rfl ?_
  refine .sq ?_
  refine .sq ?_
  refine .rg (u (mv (.t rfl)) <| u (bc (.t rfl) (.i rfl) rfl rfl) <| .nil _) rfl ?_
  refine .jq (t := some r) (fun (a : Int × Int) => ⟨[(0, .ro (.int .u64 a.1)), (2, .ro (.int .i64 a.2))], []⟩) (fun (a : Int × Int) => math_bits_Len64_j1 a.1 a.2) ?_ (fun J1 => ?_)
  · rintro ⟨v1, v2⟩ h
    replace h : math_bits_Len64_j1 v1 v2 = _ := h
    unfold math_bits_Len64_j1 at h
    refine .sq ?_
    refine .sq ?_
    refine .rg (u (mv (.t rfl)) <| u (bc (.t rfl) (.i rfl) rfl rfl) <| .nil _) rfl ?_
    refine .jq (t := some r) (fun (a : Int × Int) => ⟨[(0, .ro (.int .u64 a.1)), (2, .ro (.int .i64 a.2))], []⟩) (fun (a : Int × Int) => math_bits_Len64_j2 a.1 a.2) ?_ (fun J2 => ?_)
    · rintro ⟨v3, v4⟩ h
      replace h : math_bits_Len64_j2 v3 v4 = _ := h
      unfold math_bits_Len64_j2 at h
      refine .sq ?_
      refine .sq ?_
      refine .rg (u (mv (.t rfl)) <| u (bc (.t rfl) (.i rfl) rfl rfl) <| .nil _) rfl ?_
      refine .jq (t := some r) (fun (a : Int × Int) => ⟨[(0, .ro (.int .u64 a.1)), (2, .ro (.int .i64 a.2))], []⟩) (fun (a : Int × Int) => math_bits_Len64_j3 a.1 a.2) ?_ (fun J3 => ?_)
      · rintro ⟨v5, v6⟩ h
        replace h : math_bits_Len64_j3 v5 v6 = _ := h
        unfold math_bits_Len64_j3 at h
        refine .sq ?_
        refine be h fun x7 hx7 h => ?_
        refine .rg (u (mv (.t rfl)) <| u (mv (.t rfl)) <| u (cv cv50_5 (.t rfl)) <| u (is us9 (.s rfl) (.t rfl) hx7) <| u (cv cv5_3 (.t rfl)) <| u (bi (.t rfl) (.t rfl) rfl) <| u (asg (.t rfl)) <| .nil _) rfl ?_
        obtain rfl := Option.some.inj h
        exact .rt Try.func63 (.t rfl <| .n) .n rfl rfl
      refine .bq h (.t rfl) (fun h => ?_) (fun h => ?_)
      · refine .sq ?_
        refine .rg (u (mv (.t rfl)) <| u (sh (.t rfl) (.i rfl) rfl (by decide)) <| u (asg (.t rfl)) <| .nil _) rfl ?_
        refine .rg (u (mv (.t rfl)) <| u (bi (.t rfl) (.i rfl) rfl) <| u (asg (.t rfl)) <| .nil _) rfl ?_
        exact .kq (J3 ((sf .shr .u64 v3 8), (ar .add .i64 v4 8)) h) (.c rfl (.c rfl .n)) .n
      · refine .skp ?_
        exact .kq (J3 (v3, v4) h) (.c rfl (.c rfl .n)) .n
    refine .bq h (.t rfl) (fun h => ?_) (fun h => ?_)
    · refine .sq ?_
      refine .rg (u (mv (.t rfl)) <| u (sh (.t rfl) (.i rfl) rfl (by decide)) <| u (asg (.t rfl)) <| .nil _) rfl ?_
      refine .rg (u (mv (.t rfl)) <| u (bi (.t rfl) (.i rfl) rfl) <| u (asg (.t rfl)) <| .nil _) rfl ?_
      exact .kq (J2 ((sf .shr .u64 v1 16), (ar .add .i64 v2 16)) h) (.c rfl (.c rfl .n)) .n
    · refine .skp ?_
      exact .kq (J2 (v1, v2) h) (.c rfl (.c rfl .n)) .n
  refine .bq h (.t rfl) (fun h => ?_) (fun h => ?_)
  · refine .sq ?_
    refine .rg (u (mv (.t rfl)) <| u (sh (.t rfl) (.i rfl) rfl (by decide)) <| u (asg (.t rfl)) <| .nil _) rfl ?_
    refine .rg (u (asg (.i rfl)) <| .nil _) rfl ?_
    exact .kq (J1 ((sf .shr .u64 x 32), 32) h) (.c rfl (.c rfl .n)) .n
  · refine .skp ?_
    exact .kq (J1 (x, 0) h) (.c rfl (.c rfl .n)) .n

theorem slices_Clone_c {l r : List Int} (h : slices_Clone l = some r) : AC Try.prog 64 [.ro (.list 1 (List.map e8 l))] (.own 0) [(0, .arr 5 1 (List.map e8 r))] := by
  unfold slices_Clone at h
  obtain rfl := app_nil h
  refine AC.of Try.func64 rfl rfl fun w M0 hM => ?_
  refine .sq ?_
  refine .rg (anm e8 0 5 1 rfl rfl <| .nil _) rfl ?_
  refine .sq ?_
  refine .sq ?_
  refine .nq rfl sf27 rfl rfl fun b hb => ?_
  refine .cd (.t rfl) (fun hh => ?_) (fun _ => ?_)
  · have hl := hb hh
    obtain rfl := List.map_eq_nil_iff.1 hl
    refine .sq ?_
    refine .rg (anm e8 10 5 1 rfl rfl <| .nil _) rfl ?_
    refine .ks (l := [(2, .own 0)]) (o := [(0, some (.arr 5 1 (List.map e8 [])))]) (fun i => bif Nat.beq i 0 then 10 else i) ?_ (.c rfl .n) (.c rfl .n) rfl
    exact .rt Try.func64 (.t rfl <| .n) (.c rfl .n) rfl rfl
  · refine .skp ?_
    refine .sq ?_
    refine .rg (bs (F := e8) (l := ([] : List Int)) 5 pf27 .n rfl (fun _ _ => rfl) rfl rfl <| u (mv (.t rfl)) <| ap 7 pf27 (.t rfl) rfl (.t rfl) h rfl <| u (asg (.t rfl)) <| .nil _) rfl ?_
    refine .ks (l := [(2, .own 0)]) (o := [(0, some (.arr 5 1 (List.map e8 l)))]) (fun i => bif Nat.beq i 0 then 7 else i) ?_ (.c rfl .n) (.c rfl .n) rfl
    exact .rt Try.func64 (.t rfl <| .n) (.c rfl .n) rfl rfl

theorem slices_Clone_r {l r : List Int} (h : slices_Clone l = some r) : AC Try.prog 64 [.ro (.list 1 (List.map e8 l))] (.ro (.list 1 (List.map e8 r))) [] := AC.fz (slices_Clone_c h) rfl

theorem bits_Add_c {z : Option Nat} {k : Ink} {v : Int} {n : Int} {r : Ink × Int} (h : bits_Add z k v n = some r) :
    AC Try.prog 24 [.ro (enc_Ink k), .ro (.int .u64 v), .ro (.int .i64 n)] (.ro (.tup [enc_Ink r.1, .int .i64 r.2])) [] := by
  refine AC.of Try.func24 rfl rfl fun w M0 hM => ?_
  unfold bits_Add at h
  refine .sq ?_
  refine .rg (bx 3 (.t rfl) rfl rfl <| al 6 zf29 rfl <| u (asg (.i rfl)) <| .nil _) rfl ?_
  refine .sq ?_
  refine .bl ?_
  refine .sq ?_
  refine .sq ?_
  refine be h fun x1 hx1 h => ?_
  refine .rg (u (ld tf29 (.t rfl) rfl rfl) <| cl [] cf43 (bits_Right_c hx1) (.c (.t rfl) <| .n) (.inl rfl) <| u (no (.t rfl)) <| u (asg (.t rfl)) <| .nil _) rfl ?_
  refine .jq (t := some r) (fun (a : Bool) => ⟨[(1, .ro (.int .u64 v)), (2, .ro (.int .i64 n)), (3, .ptr 3 0), (6, .ptr 6 0), (11, .ro (.bool a))], [(3, some (.box [.ro (.list 1 (List.map e8 k.bytes)), .ro (.int .i64 k.many)])), (6, some (.box [.ro (.list 1 (List.map e8 [])), .ro (.int .i64 0)]))]⟩) (fun (a : Bool) => bits_Add_j1 z k v n a) ?_ (fun J1 => ?_)
  · intro v2 h
    replace h : bits_Add_j1 z k v n v2 = _ := h
    unfold bits_Add_j1 at h
    refine .bq h (.t rfl) (fun h => ?_) (fun h => ?_)
    · refine .sq ?_
      refine .rg (u (ld tf29 (.t rfl) rfl rfl) <| st tf29 (.t rfl) rfl (.t rfl) rfl rfl rfl <| u (asg (.i rfl)) <| .nil _) rfl ?_
      obtain rfl := Option.some.inj h
      exact .rt Try.func24 (.c tf29 rfl rfl rfl <| .t rfl <| .n) .n rfl rfl
    · refine .sq ?_
      refine be h fun x3 hx3 h => ?_
      refine .rg (u (mv (.t rfl)) <| cl [] cf63 (math_bits_Len64_c hx3) (.c (.t rfl) <| .n) (.inl rfl) <| u (mv (.t rfl)) <| u (bc (.t rfl) (.t rfl) rfl rfl) <| u (asg (.t rfl)) <| .nil _) rfl ?_
      refine .bq h (.t rfl) (fun h => ?_) (fun h => ?_)
      · refine .sq ?_
        refine .rg (u (ld tf29 (.t rfl) rfl rfl) <| st tf29 (.t rfl) rfl (.t rfl) rfl rfl rfl <| u (asg (.i rfl)) <| .nil _) rfl ?_
        obtain rfl := Option.some.inj h
        exact .rt Try.func24 (.c tf29 rfl rfl rfl <| .t rfl <| .n) .n rfl rfl
      · refine .skp ?_
        refine .ib ?_
        refine .sq ?_
        refine be h fun x4 hx4 h => ?_
        refine .rg (u (fa ff29_0 (.t rfl)) <| u (ld tf27 (.t rfl) rfl rfl) <| cnl 28 cf64 (slices_Clone_c hx4) (.c (.t rfl) <| .n) rfl <| u (asg (.t rfl)) <| .nil _) rfl ?_
        refine .sq ?_
        refine .bl ?_
        unfold bits_Add_l2 at h
        refine .ks (fun i => bif Nat.beq i 8 then 28 else i) (.lo (fun (s : Int × List Int × Ink) => ⟨[(1, .ro (.int .u64 v)), (2, .ro (.int .i64 s.1)), (3, .ptr 3 0), (6, .ptr 6 0), (8, .own 8)], [(3, some (.box [.ro (.list 1 (List.map e8 s.2.2.bytes)), .ro (.int .i64 s.2.2.many)])), (6, some (.box [.ro (.list 1 (List.map e8 [])), .ro (.int .i64 0)])), (8, some (.arr 5 1 (List.map e8 s.2.1)))]⟩) h ?_) (.c rfl (.c rfl (.c rfl (.c rfl (.c rfl .n))))) (.c rfl (.c rfl (.c rfl .n))) rfl
        rintro ⟨v5, v6, v7⟩ u2 h ih2 hx2
        replace h : bits_Add_s2 z v v5 v6 v7 = _ := h
        unfold bits_Add_s2 at h
        refine .sq ?_
        refine .sq ?_
        refine .rg (u (mv (.t rfl)) <| u (bc (.t rfl) (.i rfl) rfl rfl) <| .nil _) rfl ?_
        refine .bq h (.t rfl) (fun h => ?_) (fun h => ?_)
        · refine .skp ?_
          refine .bl ?_
          refine .sq ?_
          refine .rg (u (mv (.t rfl)) <| u (lom sf27 (.t rfl) rfl) <| u (bi (.i rfl) (.t rfl) rfl) <| u (fa ff29_1 (.t rfl)) <| u (ld tf3 (.t rfl) rfl rfl) <| u (bi (.t rfl) (.t rfl) rfl) <| u (asg (.t rfl)) <| .nil _) rfl ?_
          refine .sq ?_
          refine .sq ?_
          refine .rg (u (mv (.t rfl)) <| u (bc (.t rfl) (.i rfl) rfl rfl) <| .nil _) rfl ?_
          refine .jq (t := some u2) (fun (a : List Int × Int) => ⟨[(1, .ro (.int .u64 v)), (2, .ro (.int .i64 v5)), (3, .ptr 3 0), (6, .ptr 6 0), (8, .own 8), (9, .ro (.int .i64 a.2))], [(3, some (.box [.ro (.list 1 (List.map e8 v7.bytes)), .ro (.int .i64 v7.many)])), (6, some (.box [.ro (.list 1 (List.map e8 [])), .ro (.int .i64 0)])), (8, some (.arr 5 1 (List.map e8 a.1)))]⟩) (fun (a : List Int × Int) => bits_Add_j3 z v v5 v7 a.1 a.2) ?_ (fun J3 => ?_)
          · rintro ⟨v8, v9⟩ h
            replace h : bits_Add_j3 z v v5 v7 v8 v9 = _ := h
            unfold bits_Add_j3 at h
            refine .sq ?_
            refine .rg (u (mv (.t rfl)) <| u (mv (.t rfl)) <| u (mn (.t rfl) (.t rfl)) <| u (asg (.t rfl)) <| .nil _) rfl ?_
            refine .sq ?_
            refine .rg (u (mv (.t rfl)) <| u (mv (.t rfl)) <| u (bi (.t rfl) (.t rfl) rfl) <| u (asg (.t rfl)) <| .nil _) rfl ?_
            refine .sq ?_
            refine be h fun x10 hx10 h => ?_
            refine be h fun x11 hx11 h => ?_
            refine be h fun x12 hx12 h => ?_
            refine be h fun x13 hx13 h => ?_
            refine be h fun x14 hx14 h => ?_
            refine .rd mixed (u (mv (.t rfl)) <| u (mv (.t rfl)) <| u (lom sf27 (.t rfl) rfl) <| u (bi (.t rfl) (.i rfl) rfl) <| u (io sf27 (.t rfl) rfl (.t rfl) (ix_map e8 hx10)) <| u (le tf5 (.t rfl) rfl (ix_lt (ix_map _ hx10)).2.2 rfl) <| u (mv (.t rfl)) <| u (mv (.t rfl)) <| u (sho (.t rfl) (.t rfl) rfl hx11) <| u (mv (.t rfl)) <| u (sho (.i rfl) (.t rfl) rfl hx12) <| u (bi (.t rfl) (.i rfl) rfl) <| u (bi (.t rfl) (.t rfl) rfl) <| u (cv cv50_5 (.t rfl)) <| u (mv (.t rfl)) <| u (mv (.t rfl)) <| u (bi (.t rfl) (.t rfl) rfl) <| u (sho (.t rfl) (.t rfl) rfl hx13) <| u (bi (.t rfl) (.t rfl) rfl) <| u (io sf27 (.t rfl) rfl (.t rfl) (ix_map e8 hx14)) <| se (q := (ar .or .u8 x10 x13)) tf5 (.t rfl) rfl (.t rfl) rfl rfl rfl (ixn hx14) <| .nil _) (by kernel_rfl) rfl ?_
            refine .rg (u (fa ff29_1 (.t rfl)) <| u (ld tf3 (.t rfl) rfl rfl) <| u (mv (.t rfl)) <| u (bi (.t rfl) (.t rfl) rfl) <| u (fa ff29_1 (.t rfl)) <| st tf3 (.t rfl) rfl (.t rfl) rfl rfl rfl <| .nil _) rfl ?_
            refine .ib ?_
            exact .kq (.il (ih2 ((ar .sub .i64 v5 (imin v9 v5)), (List.set v8 ((ar .sub .i64 (v8.length : Int) 1) : Int).toNat (ar .or .u8 x10 x13)), { v7 with many := (ar .add .i64 v7.many (imin v9 v5)) }) (nxi h))) (.c rfl (.c rfl (.c rfl (.c rfl (.c rfl .n))))) (.c rfl (.c rfl (.c rfl .n)))
          refine .bq h (.t rfl) (fun h => ?_) (fun h => ?_)
          · refine be h fun x15 hx15 h => ?_
            refine .rg (u (mv (.t rfl)) <| bs (F := e8) (l := [0]) 40 pf27 (.c (.i rfl) rfl <| .n) rfl (fun _ _ => rfl) rfl rfl <| apo 41 pf27 (.t rfl) rfl (.t rfl) rfl hx15 rfl <| u (asg (.t rfl)) <| u (asg (.i rfl)) <| .nil _) rfl ?_
            exact .ks (fun i => bif Nat.beq i 8 then 41 else i) (J3 (x15, 8) h) (.c rfl (.c rfl (.c rfl (.c rfl (.c rfl (.c rfl .n)))))) (.c rfl (.c rfl (.c rfl .n))) rfl
          · refine .skp ?_
            exact .kq (J3 (v6, (ar .sub .i64 (ar .mul .i64 8 (v6.length : Int)) v7.many)) h) (.c rfl (.c rfl (.c rfl (.c rfl (.c rfl (.c rfl .n)))))) (.c rfl (.c rfl (.c rfl .n)))
        · refine .xt rfl ?_
          replace h := mpR h hx2
          refine .sq ?_
          refine .rg (u (mv (.t rfl)) <| u (fa ff29_0 (.t rfl)) <| st tf27 (.t rfl) rfl (.t rfl) rfl rfl rfl <| .nil _) rfl ?_
          refine .sq ?_
          refine .rg (u (ld tf29 (.t rfl) rfl rfl) <| st tf29 (.t rfl) rfl (.t rfl) rfl rfl rfl <| u (asg (.i rfl)) <| .nil _) rfl ?_
          refine .fz 8 rfl ?_
          obtain rfl := Option.some.inj h
          exact .rt Try.func24 (.c tf29 rfl rfl rfl <| .t rfl <| .n) .n rfl rfl
  refine .bq h (.t rfl) (fun h => ?_) (fun h => ?_)
  · refine .skp ?_
    exact .kq (J1 (!x1) h) (.c rfl (.c rfl (.c rfl (.c rfl (.c rfl .n))))) (.c rfl (.c rfl .n))
  · refine .sq ?_
    refine .rg (u (mv (.t rfl)) <| u (bc (.t rfl) (.i rfl) rfl rfl) <| u (asg (.t rfl)) <| .nil _) rfl ?_
    refine .bq h (.t rfl) (fun h => ?_) (fun h => ?_)
    · refine .skp ?_
      exact .kq (J1 (cm .lss n 0) h) (.c rfl (.c rfl (.c rfl (.c rfl (.c rfl .n))))) (.c rfl (.c rfl .n))
    · refine .rg (u (mv (.t rfl)) <| u (bc (.t rfl) (.i rfl) rfl rfl) <| u (asg (.t rfl)) <| .nil _) rfl ?_
      exact .kq (J1 (cm .gtr n 64) h) (.c rfl (.c rfl (.c rfl (.c rfl (.c rfl .n))))) (.c rfl (.c rfl .n))

theorem bits_right_c (c : GBits) :
    AC Try.prog 65 [.ro (enc_GBits c)] (.ro (.bool (bits_right c))) [] := by
  obtain ⟨r, h⟩ : ∃ r, bits_right c = r := ⟨_, rfl⟩
  rw [h]
  refine AC.of Try.func65 rfl rfl fun w M0 hM => ?_
  unfold bits_right at h
  refine .sq ?_
  refine .rg (bx 1 (.t rfl) rfl rfl <| u (asg .b) <| .nil _) rfl ?_
  refine .sq ?_
  refine .rg (u (fa ff32_2 (.t rfl)) <| u (ld tf30 (.t rfl) rfl rfl) <| u (bc (.t rfl) (.i rfl) rfl rfl) <| u (mv (.t rfl)) <| gd rfl rfl (fun hB => fa ff32_1 (.t rfl)) <| gd rfl rfl (fun hB => ld tf3 (.m rfl hB) rfl rfl) <| gd rfl rfl (fun hB => bc (.m rfl hB) (.i rfl) rfl rfl) <| u (pka (.t rfl) (.t rfl)) <| u (mv (.t rfl)) <| gd rfl rfl (fun hB => fa ff32_1 (.t rfl)) <| gd rfl rfl (fun hB => ld tf3 (.m rfl hB) rfl rfl) <| gd rfl rfl (fun hB => fa ff32_0 (.t rfl)) <| gd rfl rfl (fun hB => ld tf27 (.m rfl hB) rfl rfl) <| gd rfl rfl (fun hB => lnm sf27 (.m rfl hB)) <| gd rfl rfl (fun hB => bi (.i rfl) (.m rfl hB) rfl) <| gd rfl rfl (fun hB => bc (.m rfl hB) (.m rfl hB) rfl rfl) <| u (pka (.t rfl) (.t rfl)) <| u (asg (.t rfl)) <| .nil _) rfl ?_
  subst h
  exact .rt Try.func65 (.t rfl <| .n) .n rfl rfl

theorem bits_fail_c (c : GBits) (p_e : Int) :
    AC Try.prog 66 [.ro (enc_GBits c), .ro (.int .i64 p_e)] (.ro (.tup [enc_GBits ((bits_fail c p_e).1), .int .u64 ((bits_fail c p_e).2)])) [] := by
  obtain ⟨r, h⟩ : ∃ r, bits_fail c p_e = r := ⟨_, rfl⟩
  rw [h]
  refine AC.of Try.func66 rfl rfl fun w M0 hM => ?_
  unfold bits_fail at h
  refine .sq ?_
  refine .rg (bx 2 (.t rfl) rfl rfl <| al 4 zf32 rfl <| u (asg (.i rfl)) <| .nil _) rfl ?_
  refine .sq ?_
  refine .sq ?_
  refine .rg (u (fa ff32_2 (.t rfl)) <| u (ld tf30 (.t rfl) rfl rfl) <| u (bc (.t rfl) (.i rfl) rfl rfl) <| .nil _) rfl ?_
  refine .jq (t := r) (fun (a : GBits) => ⟨[(2, .ptr 2 0), (4, .ptr 4 0)], [(2, some (.box [.ro (.list 1 (List.map e8 a.bytes)), .ro (.int .i64 a.at_), .ro (.int .i64 a.err)])), (4, some (.box [.ro (.list 1 (List.map e8 [])), .ro (.int .i64 0), .ro (.int .i64 0)]))]⟩) (fun (a : GBits) => bits_fail_j1 a) ?_ (fun J1 => ?_)
  · intro v1 h
    replace h : bits_fail_j1 v1 = _ := h
    unfold bits_fail_j1 at h
    refine .sq ?_
    refine .rg (u (ld tf32 (.t rfl) rfl rfl) <| st tf32 (.t rfl) rfl (.t rfl) rfl rfl rfl <| u (asg (.i rfl)) <| .nil _) rfl ?_
    subst h
    exact .rt Try.func66 (.c tf32 rfl rfl rfl <| .t rfl <| .n) .n rfl rfl
  refine .bq h (.t rfl) (fun h => ?_) (fun h => ?_)
  · refine .rg (u (mv (.t rfl)) <| u (fa ff32_2 (.t rfl)) <| st tf30 (.t rfl) rfl (.t rfl) rfl rfl rfl <| .nil _) rfl ?_
    exact .kq (J1 ({ c with err := p_e }) h) (.c rfl (.c rfl .n)) (.c rfl (.c rfl .n))
  · refine .skp ?_
    exact .kq (J1 c h) (.c rfl (.c rfl .n)) (.c rfl (.c rfl .n))

theorem bits_Left_c (c : GBits) :
    AC Try.prog 67 [.ro (enc_GBits c)] (.ro (.int .i64 (bits_Left c))) [] := by
  obtain ⟨r, h⟩ : ∃ r, bits_Left c = r := ⟨_, rfl⟩
  rw [h]
  refine AC.of Try.func67 rfl rfl fun w M0 hM => ?_
  unfold bits_Left at h
  refine .sq ?_
  refine .rg (bx 1 (.t rfl) rfl rfl <| u (asg (.i rfl)) <| .nil _) rfl ?_
  refine .sq ?_
  refine .sq ?_
  refine .rg (u (ld tf32 (.t rfl) rfl rfl) <| cl [] cf65 (bits_right_c c) (.c (.t rfl) <| .n) (.inl rfl) <| u (no (.t rfl)) <| .nil _) rfl ?_
  refine .bq h (.t rfl) (fun h => ?_) (fun h => ?_)
  · refine .sq ?_
    refine .rg (u (asg (.i rfl)) <| .nil _) rfl ?_
    subst h
    exact .rt Try.func67 (.t rfl <| .n) .n rfl rfl
  · refine .skp ?_
    refine .sq ?_
    refine .rg (u (fa ff32_0 (.t rfl)) <| u (ld tf27 (.t rfl) rfl rfl) <| u (lnm sf27 (.t rfl)) <| u (bi (.i rfl) (.t rfl) rfl) <| u (fa ff32_1 (.t rfl)) <| u (ld tf3 (.t rfl) rfl rfl) <| u (bi (.t rfl) (.t rfl) rfl) <| u (asg (.t rfl)) <| .nil _) rfl ?_
    subst h
    exact .rt Try.func67 (.t rfl <| .n) .n rfl rfl

theorem bits_Get_c {z : Option Nat} {c : GBits} {n : Int} {r : GBits × Int} (h : bits_Get z c n = some r) :
    AC Try.prog 25 [.ro (enc_GBits c), .ro (.int .i64 n)] (.ro (.tup [enc_GBits r.1, .int .u64 r.2])) [] := by
  refine AC.of Try.func25 rfl rfl fun w M0 hM => ?_
  unfold bits_Get at h
  refine .sq ?_
  refine .rg (bx 2 (.t rfl) rfl rfl <| al 4 zf32 rfl <| u (asg (.i rfl)) <| .nil _) rfl ?_
  refine .sq ?_
  refine .bl ?_
  refine .sq ?_
  refine .sq ?_
  refine .rg (u (ld tf32 (.t rfl) rfl rfl) <| cl [] cf65 (bits_right_c c) (.c (.t rfl) <| .n) (.inl rfl) <| u (no (.t rfl)) <| u (asg (.t rfl)) <| .nil _) rfl ?_
  refine .jq (t := some r) (fun (a : Bool) => ⟨[(1, .ro (.int .i64 n)), (2, .ptr 2 0), (4, .ptr 4 0), (10, .ro (.bool a))], [(2, some (.box [.ro (.list 1 (List.map e8 c.bytes)), .ro (.int .i64 c.at_), .ro (.int .i64 c.err)])), (4, some (.box [.ro (.list 1 (List.map e8 [])), .ro (.int .i64 0), .ro (.int .i64 0)]))]⟩) (fun (a : Bool) => bits_Get_j1 z c n a) ?_ (fun J1 => ?_)
  · intro v1 h
    replace h : bits_Get_j1 z c n v1 = _ := h
    unfold bits_Get_j1 at h
    refine .bq h (.t rfl) (fun h => ?_) (fun h => ?_)
    · refine .sq ?_
      refine .rg (u (ld tf32 (.t rfl) rfl rfl) <| cl [] cf66 (bits_fail_c c 1) (.c (.t rfl) <| .c (.i rfl) <| .n) (.inl rfl) <| u (ex (.t rfl) rfl rfl) <| u (ex (.t rfl) rfl rfl) <| st tf32 (.t rfl) rfl (.t rfl) rfl rfl rfl <| u (asg (.t rfl)) <| .nil _) rfl ?_
      obtain rfl := Option.some.inj h
      exact .rt Try.func25 (.c tf32 rfl rfl rfl <| .t rfl <| .n) .n rfl rfl
    · refine .sq ?_
      refine .rg (u (mv (.t rfl)) <| u (ld tf32 (.t rfl) rfl rfl) <| cl [] cf67 (bits_Left_c c) (.c (.t rfl) <| .n) (.inl rfl) <| u (bc (.t rfl) (.t rfl) rfl rfl) <| u (asg (.t rfl)) <| .nil _) rfl ?_
      refine .bq h (.t rfl) (fun h => ?_) (fun h => ?_)
      · refine .sq ?_
        refine .rg (u (ld tf32 (.t rfl) rfl rfl) <| cl [] cf66 (bits_fail_c c 2) (.c (.t rfl) <| .c (.i rfl) <| .n) (.inl rfl) <| u (ex (.t rfl) rfl rfl) <| u (ex (.t rfl) rfl rfl) <| st tf32 (.t rfl) rfl (.t rfl) rfl rfl rfl <| u (asg (.t rfl)) <| .nil _) rfl ?_
        obtain rfl := Option.some.inj h
        exact .rt Try.func25 (.c tf32 rfl rfl rfl <| .t rfl <| .n) .n rfl rfl
      · refine .skp ?_
        refine .ib ?_
        refine .sq ?_
        refine .rg (u (asg (.i rfl)) <| .nil _) rfl ?_
        refine .sq ?_
        refine .bl ?_
        unfold bits_Get_l2 at h
        refine .kq (.lo (fun (s : Int × Int × GBits) => ⟨[(1, .ro (.int .i64 s.1)), (2, .ptr 2 0), (4, .ptr 4 0), (6, .ro (.int .u64 s.2.1))], [(2, some (.box [.ro (.list 1 (List.map e8 s.2.2.bytes)), .ro (.int .i64 s.2.2.at_), .ro (.int .i64 s.2.2.err)])), (4, some (.box [.ro (.list 1 (List.map e8 [])), .ro (.int .i64 0), .ro (.int .i64 0)]))]⟩) h ?_) (.c rfl (.c rfl (.c rfl (.c rfl .n)))) (.c rfl (.c rfl .n))
        rintro ⟨v2, v3, v4⟩ u2 h ih2 hx2
        replace h : bits_Get_s2 z v2 v3 v4 = _ := h
        unfold bits_Get_s2 at h
        refine .sq ?_
        refine .sq ?_
        refine .rg (u (mv (.t rfl)) <| u (bc (.t rfl) (.i rfl) rfl rfl) <| .nil _) rfl ?_
        refine .bq h (.t rfl) (fun h => ?_) (fun h => ?_)
        · refine .skp ?_
          refine .bl ?_
          refine .sq ?_
          refine .rg (u (fa ff32_1 (.t rfl)) <| u (ld tf3 (.t rfl) rfl rfl) <| u (di (.t rfl) (.i rfl) rfl (by decide)) <| u (bi (.i rfl) (.t rfl) rfl) <| u (asg (.t rfl)) <| .nil _) rfl ?_
          refine .sq ?_
          refine .rg (u (mv (.t rfl)) <| u (mv (.t rfl)) <| u (mn (.t rfl) (.t rfl)) <| u (asg (.t rfl)) <| .nil _) rfl ?_
          refine .sq ?_
          refine be h fun x5 hx5 h => ?_
          refine be h fun x6 hx6 h => ?_
          refine be h fun x7 hx7 h => ?_
          refine .rd mixed (u (fa ff32_0 (.t rfl)) <| u (ld tf27 (.t rfl) rfl rfl) <| u (fa ff32_1 (.t rfl)) <| u (ld tf3 (.t rfl) rfl rfl) <| u (di (.t rfl) (.i rfl) rfl (by decide)) <| u (ia sf27 (.t rfl) (.t rfl) (ix_map e8 hx5)) <| u (lr tf5 (.t rfl) rfl) <| u (mv (.t rfl)) <| u (mv (.t rfl)) <| u (bi (.t rfl) (.t rfl) rfl) <| u (sho (.t rfl) (.t rfl) rfl hx6) <| u (mv (.t rfl)) <| u (sho (.i rfl) (.t rfl) rfl hx7) <| u (bi (.t rfl) (.i rfl) rfl) <| u (bi (.t rfl) (.t rfl) rfl) <| u (asg (.t rfl)) <| .nil _) (by kernel_rfl) rfl ?_
          refine .sq ?_
          refine be h fun x8 hx8 h => ?_
          refine .rg (u (mv (.t rfl)) <| u (mv (.t rfl)) <| u (sho (.t rfl) (.t rfl) rfl hx8) <| u (mv (.t rfl)) <| u (cv cv5_50 (.t rfl)) <| u (bi (.t rfl) (.t rfl) rfl) <| u (asg (.t rfl)) <| .nil _) rfl ?_
          refine .sq ?_
          refine .rg (u (fa ff32_1 (.t rfl)) <| u (ld tf3 (.t rfl) rfl rfl) <| u (mv (.t rfl)) <| u (bi (.t rfl) (.t rfl) rfl) <| u (fa ff32_1 (.t rfl)) <| st tf3 (.t rfl) rfl (.t rfl) rfl rfl rfl <| .nil _) rfl ?_
          refine .rg (u (mv (.t rfl)) <| u (mv (.t rfl)) <| u (bi (.t rfl) (.t rfl) rfl) <| u (asg (.t rfl)) <| .nil _) rfl ?_
          refine .ib ?_
          exact .kq (.il (ih2 ((ar .sub .i64 v2 (imin (ar .sub .i64 8 (dv .rem .i64 v4.at_ 8)) v2)), (ar .or .u64 x8 (IntKind.u64.wrap (ar .and .u8 x6 (ar .sub .u8 x7 1)))), { v4 with at_ := (ar .add .i64 v4.at_ (imin (ar .sub .i64 8 (dv .rem .i64 v4.at_ 8)) v2)) }) (nxi h))) (.c rfl (.c rfl (.c rfl (.c rfl .n)))) (.c rfl (.c rfl .n))
        · refine .xt rfl ?_
          replace h := mpR h hx2
          refine .sq ?_
          refine .rg (u (ld tf32 (.t rfl) rfl rfl) <| u (mv (.t rfl)) <| st tf32 (.t rfl) rfl (.t rfl) rfl rfl rfl <| u (asg (.t rfl)) <| .nil _) rfl ?_
          obtain rfl := Option.some.inj h
          exact .rt Try.func25 (.c tf32 rfl rfl rfl <| .t rfl <| .n) .n rfl rfl
  refine .bq h (.t rfl) (fun h => ?_) (fun h => ?_)
  · refine .skp ?_
    exact .kq (J1 (!(bits_right c)) h) (.c rfl (.c rfl (.c rfl (.c rfl .n)))) (.c rfl (.c rfl .n))
  · refine .sq ?_
    refine .rg (u (mv (.t rfl)) <| u (bc (.t rfl) (.i rfl) rfl rfl) <| u (asg (.t rfl)) <| .nil _) rfl ?_
    refine .bq h (.t rfl) (fun h => ?_) (fun h => ?_)
    · refine .skp ?_
      exact .kq (J1 (cm .lss n 0) h) (.c rfl (.c rfl (.c rfl (.c rfl .n)))) (.c rfl (.c rfl .n))
    · refine .rg (u (mv (.t rfl)) <| u (bc (.t rfl) (.i rfl) rfl rfl) <| u (asg (.t rfl)) <| .nil _) rfl ?_
      exact .kq (J1 (cm .gtr n 64) h) (.c rfl (.c rfl (.c rfl (.c rfl .n)))) (.c rfl (.c rfl .n))

theorem vp9_writer_num_y1_c {z : Option Nat} {n : Int} {width : Int} {box0 : vp9_writer} {r : Int × vp9_writer} (h : vp9_writer_num_y1 z n width box0 = some r) :
    AY Try.prog 141 [.ptr 9000 0, .ro (.int .i64 n), .ro (.int .i64 width)] [(9000, [.list 1 (List.map e8 box0.k.bytes), .int .i64 box0.k.many])] [0] (.ro (.int .i64 r.1)) [] [(0, .ptr 9000 0)] [(9000, [.list 1 (List.map e8 r.2.k.bytes), .int .i64 r.2.k.many])] := by
  refine AY.of Try.func141 rfl rfl fun w X M0 hM pv => ?_
  refine .kq (l := [(0, .ptr 9000 0), (1, .ro (.int .i64 n)), (2, .ro (.int .i64 width))]) (o := [(9000, some (.box [.ro (.list 1 (List.map e8 box0.k.bytes)), .ro (.int .i64 box0.k.many)]))]) ?_ (.c rfl (.c rfl (.c rfl .n))) (.c rfl .n)
  unfold vp9_writer_num_y1 at h
  refine .sq ?_
  refine .rg (u (asg (.i rfl)) <| .nil _) rfl ?_
  refine .sq ?_
  refine be h fun x1 hx1 h => ?_
  refine .rg (u (mv (.t rfl)) <| u (mv (.t rfl)) <| u (nkp (.t rfl)) <| u (fa ff118_0 (.t rfl)) <| u (ld tf29 (.t rfl) rfl rfl) <| u (mv (.t rfl)) <| u (cv cv3_50 (.t rfl)) <| u (mv (.t rfl)) <| cl [] cf24 (bits_Add_c hx1) (.c (.t rfl) <| .c (.t rfl) <| .c (.t rfl) <| .n) (.inl rfl) <| u (mv (.t rfl)) <| u (ex (.t rfl) rfl rfl) <| u (ex (.t rfl) rfl rfl) <| u (nkp (.t rfl)) <| u (fa ff118_0 (.t rfl)) <| st tf29 (.t rfl) rfl (.t rfl) rfl rfl rfl <| .nil _) rfl ?_
  refine .sq ?_
  refine .rg (u (mv (.t rfl)) <| u (asg (.t rfl)) <| .nil _) rfl ?_
  obtain rfl := Option.some.inj h
  exact .rtx (o := [(9000, some (.box [.ro (.list 1 (List.map e8 x1.1.bytes)), .ro (.int .i64 x1.1.many)]))]) Try.func141 (.t rfl <| .n) (.c rfl .n) rfl rfl (.c rfl .n) rfl

theorem vp9_truth_y1_c {z : Option Nat} {is_ : Bool} {box0 : vp9_writer} {r : Bool × vp9_writer} (h : vp9_truth_y1 z is_ box0 = some r) :
    AY Try.prog 100 [.ifc 116 (.ptr 9000 0), .ro (.bool is_)] [(9000, [.list 1 (List.map e8 box0.k.bytes), .int .i64 box0.k.many])] [0] (.ro (.bool r.1)) [] [(0, .ifc 116 (.ptr 9000 0))] [(9000, [.list 1 (List.map e8 r.2.k.bytes), .int .i64 r.2.k.many])] := by
  refine AY.of Try.func100 rfl rfl fun w X M0 hM pv => ?_
  refine .kq (l := [(0, .ifc 116 (.ptr 9000 0)), (1, .ro (.bool is_))]) (o := [(9000, some (.box [.ro (.list 1 (List.map e8 box0.k.bytes)), .ro (.int .i64 box0.k.many)]))]) ?_ (.c rfl (.c rfl .n)) (.c rfl .n)
  unfold vp9_truth_y1 at h
  refine .sq ?_
  refine .rg (u (asg .b) <| .nil _) rfl ?_
  refine .sq ?_
  refine .rg (u (asg (.i rfl)) <| .nil _) rfl ?_
  refine .sq ?_
  refine .sq ?_
  refine .rg (u (mv (.t rfl)) <| .nil _) rfl ?_
  refine .jq (t := some r) (fun (a : Int) => ⟨[(0, .ifc 116 (.ptr 9000 0)), (5, .ro (.int .i64 a))], [(9000, some (.box [.ro (.list 1 (List.map e8 box0.k.bytes)), .ro (.int .i64 box0.k.many)]))]⟩) (fun (a : Int) => vp9_truth_y1_j1 z box0 a) ?_ (fun J1 => ?_)
  · intro v1 h
    replace h : vp9_truth_y1_j1 z box0 v1 = _ := h
    unfold vp9_truth_y1_j1 at h
    refine .sq ?_
    refine be h fun x2 hx2 h => ?_
    refine .rg (u (mv (.t rfl)) <| u (mv (.t rfl)) <| ciy 10000000 cm116_141 (AY.ly (fun i => bif Nat.beq i 9000 then 9000 else i) (vp9_writer_num_y1_c hx2) rfl rfl rfl rfl rfl rfl rfl) (.t rfl) (.c (.t rfl) <| .c (.i rfl) <| .n) rfl (.c rfl <| .n) rfl <| u (bc (.t rfl) (.i rfl) rfl rfl) <| u (asg (.t rfl)) <| .nil _) rfl ?_
    obtain rfl := Option.some.inj h
    exact .rtx (o := [(9000, some (.box [.ro (.list 1 (List.map e8 x2.2.k.bytes)), .ro (.int .i64 x2.2.k.many)]))]) Try.func100 (.t rfl <| .n) (.c rfl .n) rfl rfl (.c rfl .n) rfl
  refine .bq h (.t rfl) (fun h => ?_) (fun h => ?_)
  · refine .rg (u (asg (.i rfl)) <| .nil _) rfl ?_
    exact .kq (J1 1 h) (.c rfl (.c rfl .n)) (.c rfl .n)
  · refine .skp ?_
    exact .kq (J1 0 h) (.c rfl (.c rfl .n)) (.c rfl .n)

theorem vp9_writer_failed_y1_c {z : Option Nat} {box0 : vp9_writer} {r : Bool × vp9_writer} (h : vp9_writer_failed_y1 z box0 = some r) :
    AY Try.prog 140 [.ptr 9000 0] [(9000, [.list 1 (List.map e8 box0.k.bytes), .int .i64 box0.k.many])] [0] (.ro (.bool r.1)) [] [(0, .ptr 9000 0)] [(9000, [.list 1 (List.map e8 r.2.k.bytes), .int .i64 r.2.k.many])] := by
  refine AY.of Try.func140 rfl rfl fun w X M0 hM pv => ?_
  refine .kq (l := [(0, .ptr 9000 0)]) (o := [(9000, some (.box [.ro (.list 1 (List.map e8 box0.k.bytes)), .ro (.int .i64 box0.k.many)]))]) ?_ (.c rfl .n) (.c rfl .n)
  unfold vp9_writer_failed_y1 at h
  refine .sq ?_
  refine .rg (u (asg .b) <| .nil _) rfl ?_
  refine .sq ?_
  refine .rg (u (asg .b) <| .nil _) rfl ?_
  obtain rfl := Option.some.inj h
  exact .rtx (o := [(9000, some (.box [.ro (.list 1 (List.map e8 box0.k.bytes)), .ro (.int .i64 box0.k.many)]))]) Try.func140 (.t rfl <| .n) (.c rfl .n) rfl rfl (.c rfl .n) rfl

theorem vp9_picture_1_y1_c {z : Option Nat} {n : Int} {box0 : vp9_writer} {r : Int × vp9_writer} (h : vp9_picture_1_y1 z n box0 = some r) :
    AY Try.prog 123 [.ro (.int .i64 n), .cptr [.ifc 116 (.ptr 9000 0)]] [(9000, [.list 1 (List.map e8 box0.k.bytes), .int .i64 box0.k.many])] [1] (.ro (.int .i64 r.1)) [] [(1, .cptr [.ifc 116 (.ptr 9000 0)])] [(9000, [.list 1 (List.map e8 r.2.k.bytes), .int .i64 r.2.k.many])] := by
  refine AY.of Try.func123 rfl rfl fun w X M0 hM pv => ?_
  refine .kq (l := [(0, .ro (.int .i64 n)), (1, .cptr [.ifc 116 (.ptr 9000 0)])]) (o := [(9000, some (.box [.ro (.list 1 (List.map e8 box0.k.bytes)), .ro (.int .i64 box0.k.many)]))]) ?_ (.c rfl (.c rfl .n)) (.c rfl .n)
  unfold vp9_picture_1_y1 at h
  refine .sq ?_
  refine .rg (u (asg (.i rfl)) <| .nil _) rfl ?_
  refine .sq ?_
  refine be h fun x1 hx1 h => ?_
  refine .rg (u (lc tf146 (.t rfl) rfl) <| u (mv (.t rfl)) <| ciy 7000000 cm116_141 (AY.ly (fun i => bif Nat.beq i 9000 then 9000 else i) (vp9_writer_num_y1_c hx1) rfl rfl rfl rfl rfl rfl rfl) (.t rfl) (.c (.t rfl) <| .c (.i rfl) <| .n) rfl (.c rfl <| .n) rfl <| u (asg (.t rfl)) <| .nil _) rfl ?_
  obtain rfl := Option.some.inj h
  exact .rtx (o := [(9000, some (.box [.ro (.list 1 (List.map e8 x1.2.k.bytes)), .ro (.int .i64 x1.2.k.many)]))]) Try.func123 (.t rfl <| .n) (.c rfl .n) rfl rfl (.c rfl .n) rfl

theorem vp9_gone_int_y1_c {z : Option Nat} {l : List Int} {many : Int} {box0 : vp9_writer} {r : List Int × vp9_writer} (h : vp9_gone_int_y1 z l many box0 = some r) :
    AY Try.prog 122 [.ifc 116 (.ptr 9000 0), .ro (.list 1 (List.map (ei .i64) l)), .ro (.int .i64 many), .fn (.func 123) [] [.cptr [.ifc 116 (.ptr 9000 0)]]] [(9000, [.list 1 (List.map e8 box0.k.bytes), .int .i64 box0.k.many])] [0, 3] (.own 8000) [(8000, .arr 3 1 (List.map (ei .i64) r.1))] [(0, .ifc 116 (.ptr 9000 0)), (3, .fn (.func 123) [] [.cptr [.ifc 116 (.ptr 9000 0)]])] [(9000, [.list 1 (List.map e8 r.2.k.bytes), .int .i64 r.2.k.many])] := by
  refine AY.of Try.func122 rfl rfl fun w X M0 hM pv => ?_
  refine .kq (l := [(0, .ifc 116 (.ptr 9000 0)), (1, .ro (.list 1 (List.map (ei .i64) l))), (2, .ro (.int .i64 many)), (3, .fn (.func 123) [] [.cptr [.ifc 116 (.ptr 9000 0)]])]) (o := [(9000, some (.box [.ro (.list 1 (List.map e8 box0.k.bytes)), .ro (.int .i64 box0.k.many)]))]) ?_ (.c rfl (.c rfl (.c rfl (.c rfl .n)))) (.c rfl .n)
  unfold vp9_gone_int_y1 at h
  refine .sq ?_
  refine .rg (anm (ei .i64) 8 3 1 rfl rfl <| .nil _) rfl ?_
  refine .sq ?_
  refine .rg (anm (ei .i64) 9 3 1 rfl rfl <| .nil _) rfl ?_
  refine .sq ?_
  refine .sq ?_
  refine .rg (u (asg (.i rfl)) <| .nil _) rfl ?_
  refine .bl ?_
  unfold vp9_gone_int_y1_l1 at h
  refine .kq (.lo (fun (s : List Int × Int × vp9_writer) => ⟨[(0, .ifc 116 (.ptr 9000 0)), (1, .ro (.list 1 (List.map (ei .i64) l))), (2, .ro (.int .i64 many)), (3, .fn (.func 123) [] [.cptr [.ifc 116 (.ptr 9000 0)]]), (9, .own 9), (10, .ro (.int .i64 s.2.1))], [(9, some (.arr 3 1 (List.map (ei .i64) s.1))), (9000, some (.box [.ro (.list 1 (List.map e8 s.2.2.k.bytes)), .ro (.int .i64 s.2.2.k.many)]))]⟩) h ?_) (.c rfl (.c rfl (.c rfl (.c rfl (.c rfl (.c rfl .n)))))) (.c rfl (.c rfl .n))
  rintro ⟨v1, v2, v3⟩ u1 h ih1 hx1
  replace h : vp9_gone_int_y1_s1 z l many v1 v2 v3 = _ := h
  unfold vp9_gone_int_y1_s1 at h
  refine .sq ?_
  refine .sq ?_
  rcases btf (cm .lss v2 many) with hs0 | hs0
  · replace h := ifT h hs0
    refine be h fun x4 hx4 h => ?_
    refine .rg (u (mv (.t rfl)) <| u (mv (.t rfl)) <| u (bc (.t rfl) (.t rfl) rfl rfl) <| u (mv (.t rfl)) <| gdk rfl rfl hs0 <| u (mv (.t rfl)) <| gdk rfl rfl hs0 <| ciy 18000000 cm116_140 (AY.ly (fun i => bif Nat.beq i 9000 then 9000 else i) (vp9_writer_failed_y1_c hx4) rfl rfl rfl rfl rfl rfl rfl) (.t rfl) (.n) rfl (.c rfl <| .n) rfl <| gdk rfl rfl hs0 <| u (no (.t rfl)) <| u (pkt hs0 (.t rfl) (.t rfl)) <| .nil _) rfl ?_
    refine .bq h (.t rfl) (fun h => ?_) (fun h => ?_)
    · refine .skp ?_
      refine .sq ?_
      refine .bl ?_
      refine .sq ?_
      refine .rg (u (asg (.i rfl)) <| .nil _) rfl ?_
      refine .sq ?_
      refine .sq ?_
      refine .rg (u (mv (.t rfl)) <| u (mv (.t rfl)) <| u (lnm sf22 (.t rfl)) <| u (bc (.t rfl) (.t rfl) rfl rfl) <| .nil _) rfl ?_
      refine .jq (t := some u1) (fun (a : Int) => ⟨[(0, .ifc 116 (.ptr 9000 0)), (1, .ro (.list 1 (List.map (ei .i64) l))), (2, .ro (.int .i64 many)), (3, .fn (.func 123) [] [.cptr [.ifc 116 (.ptr 9000 0)]]), (9, .own 9), (10, .ro (.int .i64 v2)), (11, .ro (.int .i64 a))], [(9, some (.arr 3 1 (List.map (ei .i64) v1))), (9000, some (.box [.ro (.list 1 (List.map e8 x4.2.k.bytes)), .ro (.int .i64 x4.2.k.many)]))]⟩) (fun (a : Int) => vp9_gone_int_y1_j2 z v1 v2 x4 a) ?_ (fun J2 => ?_)
      · intro v5 h
        replace h : vp9_gone_int_y1_j2 z v1 v2 x4 v5 = _ := h
        unfold vp9_gone_int_y1_j2 at h
        refine be h fun x6 hx6 h => ?_
        refine be h fun x7 hx7 h => ?_
        refine .rg (u (mv (.t rfl)) <| u (mv (.t rfl)) <| u (mv (.t rfl)) <| cvy 34000000 cf123 (AY.ly (fun i => bif Nat.beq i 9000 then 9000 else i) (vp9_picture_1_y1_c hx6) rfl rfl rfl rfl rfl rfl rfl) (.t rfl) (.c (.t rfl) <| .n) rfl (.c rfl <| .n) rfl <| bs (F := (ei .i64)) (l := [x6.1]) 34 pf22 (.c (.t rfl) rfl <| .n) rfl (fun _ _ => rfl) rfl rfl <| apo 35 pf22 (.t rfl) rfl (.t rfl) rfl hx7 rfl <| u (asg (.t rfl)) <| .nil _) rfl ?_
        refine .ib ?_
        refine .rg (u (mv (.t rfl)) <| u (bi (.t rfl) (.i rfl) rfl) <| u (asg (.t rfl)) <| .nil _) rfl ?_
        exact .ks (fun i => bif Nat.beq i 9 then 35 else i) (.il (ih1 (x7, (ar .add .i64 v2 1), x6.2) (nxi h))) (.c rfl (.c rfl (.c rfl (.c rfl (.c rfl (.c rfl .n)))))) (.c rfl (.c rfl .n)) rfl
      refine .bq h (.t rfl) (fun h => ?_) (fun h => ?_)
      · refine be h fun x8 hx8 h => ?_
        refine .rg (u (mv (.t rfl)) <| u (mv (.t rfl)) <| u (ia sf22 (.t rfl) (.t rfl) (ix_map (ei .i64) hx8)) <| u (lr tf3 (.t rfl) rfl) <| u (asg (.t rfl)) <| .nil _) rfl ?_
        exact .kq (J2 x8 h) (.c rfl (.c rfl (.c rfl (.c rfl (.c rfl (.c rfl (.c rfl .n))))))) (.c rfl (.c rfl .n))
      · refine .skp ?_
        exact .kq (J2 0 h) (.c rfl (.c rfl (.c rfl (.c rfl (.c rfl (.c rfl (.c rfl .n))))))) (.c rfl (.c rfl .n))
    · refine .xt rfl ?_
      replace h := mpR h hx1
      refine .sq ?_
      refine .rg (u (mv (.t rfl)) <| u (asg (.t rfl)) <| .nil _) rfl ?_
      obtain rfl := Option.some.inj h
      refine .ks (l := [(8, .own 8000), (0, .ifc 116 (.ptr 9000 0)), (3, .fn (.func 123) [] [.cptr [.ifc 116 (.ptr 9000 0)]])]) (o := [(9000, some (.box [.ro (.list 1 (List.map e8 x4.2.k.bytes)), .ro (.int .i64 x4.2.k.many)])), (8000, some (.arr 3 1 (List.map (ei .i64) v1)))]) (fun i => bif Nat.beq i 8000 then 9 else i) ?_ (.c rfl (.c rfl (.c rfl .n))) (.c rfl (.c rfl .n)) rfl
      exact .rtx (o := [(9000, some (.box [.ro (.list 1 (List.map e8 x4.2.k.bytes)), .ro (.int .i64 x4.2.k.many)])), (8000, some (.arr 3 1 (List.map (ei .i64) v1)))]) Try.func122 (.t rfl <| .n) (.c rfl (.c rfl .n)) rfl rfl (.c rfl (.c rfl .n)) rfl
  · replace h := ifF h hs0
    refine .rg (u (mv (.t rfl)) <| u (mv (.t rfl)) <| u (bc (.t rfl) (.t rfl) rfl rfl) <| u (mv (.t rfl)) <| gd (v := .ro (.bool false)) (rs := []) (ro := []) rfl rfl (fun hB => absurd (hB.symm.trans hs0) (by decide)) <| gd (v := .ro (.bool false)) (rs := []) (ro := []) rfl rfl (fun hB => absurd (hB.symm.trans hs0) (by decide)) <| gd (v := .ro (.bool false)) (rs := []) (ro := []) rfl rfl (fun hB => absurd (hB.symm.trans hs0) (by decide)) <| u (pkf hs0 (.t rfl) .b) <| .nil _) rfl ?_
    refine .cf (.t rfl) rfl ?_
    refine .xt rfl ?_
    replace h := mpR h hx1
    refine .sq ?_
    refine .rg (u (mv (.t rfl)) <| u (asg (.t rfl)) <| .nil _) rfl ?_
    obtain rfl := Option.some.inj h
    refine .ks (l := [(8, .own 8000), (0, .ifc 116 (.ptr 9000 0)), (3, .fn (.func 123) [] [.cptr [.ifc 116 (.ptr 9000 0)]])]) (o := [(9000, some (.box [.ro (.list 1 (List.map e8 v3.k.bytes)), .ro (.int .i64 v3.k.many)])), (8000, some (.arr 3 1 (List.map (ei .i64) v1)))]) (fun i => bif Nat.beq i 8000 then 9 else i) ?_ (.c rfl (.c rfl (.c rfl .n))) (.c rfl (.c rfl .n)) rfl
    exact .rtx (o := [(9000, some (.box [.ro (.list 1 (List.map e8 v3.k.bytes)), .ro (.int .i64 v3.k.many)])), (8000, some (.arr 3 1 (List.map (ei .i64) v1)))]) Try.func122 (.t rfl <| .n) (.c rfl (.c rfl .n)) rfl rfl (.c rfl (.c rfl .n)) rfl

theorem vp9_picture_y1_c {z : Option Nat} {g : Group} {box0 : vp9_writer} {r : Group × vp9_writer} (h : vp9_picture_y1 z g box0 = some r) :
    AY Try.prog 118 [.ifc 116 (.ptr 9000 0), .ro (enc_Group g)] [(9000, [.list 1 (List.map e8 box0.k.bytes), .int .i64 box0.k.many])] [0] (.ro (enc_Group r.1)) [] [(0, .ifc 116 (.ptr 9000 0))] [(9000, [.list 1 (List.map e8 r.2.k.bytes), .int .i64 r.2.k.many])] := by
  refine AY.of Try.func118 rfl rfl fun w X M0 hM pv => ?_
  refine .kq (l := [(0, .ifc 116 (.ptr 9000 0)), (1, .ro (enc_Group g))]) (o := [(9000, some (.box [.ro (.list 1 (List.map e8 box0.k.bytes)), .ro (.int .i64 box0.k.many)]))]) ?_ (.c rfl (.c rfl .n)) (.c rfl .n)
  unfold vp9_picture_y1 at h
  refine .sq ?_
  refine .rg (bx 2 (.t rfl) rfl rfl <| bx 3 (.t rfl) rfl rfl <| al 4 zf113 rfl <| .nil _) rfl ?_
  refine .fc 2 rfl ?_
  refine .sq ?_
  refine be h fun x1 hx1 h => ?_
  refine .rg (u (lc tf146 (.t rfl) rfl) <| u (fa ff113_0 (.t rfl)) <| u (ld tf3 (.t rfl) rfl rfl) <| ciy 10000000 cm116_141 (AY.ly (fun i => bif Nat.beq i 9000 then 9000 else i) (vp9_writer_num_y1_c hx1) rfl rfl rfl rfl rfl rfl rfl) (.t rfl) (.c (.t rfl) <| .c (.i rfl) <| .n) rfl (.c rfl <| .n) rfl <| u (fa ff113_0 (.t rfl)) <| st tf3 (.t rfl) rfl (.t rfl) rfl rfl rfl <| .nil _) rfl ?_
  refine .sq ?_
  refine be h fun x2 hx2 h => ?_
  refine .rg (u (lc tf146 (.t rfl) rfl) <| u (fa ff113_1 (.t rfl)) <| u (ld tf4 (.t rfl) rfl rfl) <| cly 15000000 cf100 (AY.ly (fun i => bif Nat.beq i 9000 then 9000 else i) (vp9_truth_y1_c hx2) rfl rfl rfl rfl rfl rfl rfl)  (.c (.t rfl) <| .c (.t rfl) <| .n) rfl (.c rfl <| .n) rfl <| u (fa ff113_1 (.t rfl)) <| st tf4 (.t rfl) rfl (.t rfl) rfl rfl rfl <| .nil _) rfl ?_
  refine .sq ?_
  refine be h fun x3 hx3 h => ?_
  refine .rg (u (lc tf146 (.t rfl) rfl) <| u (fa ff113_2 (.t rfl)) <| u (ld tf22 (.t rfl) rfl rfl) <| u (lnm sf22 (.t rfl)) <| ciy 21000000 cm116_141 (AY.ly (fun i => bif Nat.beq i 9000 then 9000 else i) (vp9_writer_num_y1_c hx3) rfl rfl rfl rfl rfl rfl rfl) (.t rfl) (.c (.t rfl) <| .c (.i rfl) <| .n) rfl (.c rfl <| .n) rfl <| u (asg (.t rfl)) <| .nil _) rfl ?_
  refine .sq ?_
  refine be h fun x4 hx4 h => ?_
  refine .rg (u (lc tf146 (.t rfl) rfl) <| ciy 23000000 cm116_141 (AY.ly (fun i => bif Nat.beq i 9000 then 9000 else i) (vp9_writer_num_y1_c hx4) rfl rfl rfl rfl rfl rfl rfl) (.t rfl) (.c (.i rfl) <| .c (.i rfl) <| .n) rfl (.c rfl <| .n) rfl <| .nil _) rfl ?_
  refine .sq ?_
  refine be h fun x5 hx5 h => ?_
  refine .rg (u (lc tf146 (.t rfl) rfl) <| u (fa ff113_2 (.t rfl)) <| u (ld tf22 (.t rfl) rfl rfl) <| u (mv (.t rfl)) <| u (mfn (.c (.t rfl) <| .n)) <| cly 29000000 cf122 (AY.ly (fun i => bif Nat.beq i 9000 then 9000 else i) (vp9_gone_int_y1_c hx5) rfl rfl rfl rfl rfl rfl rfl)  (.c (.t rfl) <| .c (.t rfl) <| .c (.t rfl) <| .c (.t rfl) <| .n) rfl (.c rfl <| .n) rfl <| u (fa ff113_2 (.t rfl)) <| st tf22 (.t rfl) rfl (.t rfl) rfl rfl rfl <| .nil _) rfl ?_
  refine .sq ?_
  refine .rg (u (ld tf113 (.t rfl) rfl rfl) <| st tf113 (.t rfl) rfl (.t rfl) rfl rfl rfl <| .nil _) rfl ?_
  refine .fz 29008000 rfl ?_
  obtain rfl := Option.some.inj h
  exact .rtx (o := [(9000, some (.box [.ro (.list 1 (List.map e8 x5.2.k.bytes)), .ro (.int .i64 x5.2.k.many)]))]) Try.func118 (.c tf113 rfl rfl rfl <| .n) (.c rfl .n) rfl rfl (.c rfl .n) rfl

theorem vp9_scale_2_y1_c {z : Option Nat} {g : Group} {box0 : vp9_writer} {r : Group × vp9_writer} (h : vp9_scale_2_y1 z g box0 = some r) :
    AY Try.prog 117 [.ro (enc_Group g), .cptr [.ifc 116 (.ptr 9000 0)]] [(9000, [.list 1 (List.map e8 box0.k.bytes), .int .i64 box0.k.many])] [1] (.ro (enc_Group r.1)) [] [(1, .cptr [.ifc 116 (.ptr 9000 0)])] [(9000, [.list 1 (List.map e8 r.2.k.bytes), .int .i64 r.2.k.many])] := by
  refine AY.of Try.func117 rfl rfl fun w X M0 hM pv => ?_
  refine .kq (l := [(0, .ro (enc_Group g)), (1, .cptr [.ifc 116 (.ptr 9000 0)])]) (o := [(9000, some (.box [.ro (.list 1 (List.map e8 box0.k.bytes)), .ro (.int .i64 box0.k.many)]))]) ?_ (.c rfl (.c rfl .n)) (.c rfl .n)
  unfold vp9_scale_2_y1 at h
  refine .sq ?_
  refine .rg (bx 2 (.t rfl) rfl rfl <| al 3 zf113 rfl <| .nil _) rfl ?_
  refine .sq ?_
  refine be h fun x1 hx1 h => ?_
  refine .rg (u (lc tf146 (.t rfl) rfl) <| u (ld tf113 (.t rfl) rfl rfl) <| cly 7000000 cf118 (AY.ly (fun i => bif Nat.beq i 9000 then 9000 else i) (vp9_picture_y1_c hx1) rfl rfl rfl rfl rfl rfl rfl)  (.c (.t rfl) <| .c (.t rfl) <| .n) rfl (.c rfl <| .n) rfl <| st tf113 (.t rfl) rfl (.t rfl) rfl rfl rfl <| .nil _) rfl ?_
  obtain rfl := Option.some.inj h
  exact .rtx (o := [(9000, some (.box [.ro (.list 1 (List.map e8 x1.2.k.bytes)), .ro (.int .i64 x1.2.k.many)]))]) Try.func117 (.c tf113 rfl rfl rfl <| .n) (.c rfl .n) rfl rfl (.c rfl .n) rfl

theorem vp9_gone_Group_y1_c {z : Option Nat} {l : List Group} {many : Int} {box0 : vp9_writer} {r : List Group × vp9_writer} (h : vp9_gone_Group_y1 z l many box0 = some r) :
    AY Try.prog 116 [.ifc 116 (.ptr 9000 0), .ro (.list 3 (List.map cells_Group l)), .ro (.int .i64 many), .fn (.func 117) [] [.cptr [.ifc 116 (.ptr 9000 0)]]] [(9000, [.list 1 (List.map e8 box0.k.bytes), .int .i64 box0.k.many])] [0, 3] (.own 8000) [(8000, .arr 113 3 (List.map cells_Group r.1))] [(0, .ifc 116 (.ptr 9000 0)), (3, .fn (.func 117) [] [.cptr [.ifc 116 (.ptr 9000 0)]])] [(9000, [.list 1 (List.map e8 r.2.k.bytes), .int .i64 r.2.k.many])] := by
  refine AY.of Try.func116 rfl rfl fun w X M0 hM pv => ?_
  refine .kq (l := [(0, .ifc 116 (.ptr 9000 0)), (1, .ro (.list 3 (List.map cells_Group l))), (2, .ro (.int .i64 many)), (3, .fn (.func 117) [] [.cptr [.ifc 116 (.ptr 9000 0)]])]) (o := [(9000, some (.box [.ro (.list 1 (List.map e8 box0.k.bytes)), .ro (.int .i64 box0.k.many)]))]) ?_ (.c rfl (.c rfl (.c rfl (.c rfl .n)))) (.c rfl .n)
  unfold vp9_gone_Group_y1 at h
  refine .sq ?_
  refine .rg (anm cells_Group 8 113 3 rfl rfl <| .nil _) rfl ?_
  refine .sq ?_
  refine .rg (anm cells_Group 9 113 3 rfl rfl <| .nil _) rfl ?_
  refine .sq ?_
  refine .sq ?_
  refine .rg (u (asg (.i rfl)) <| .nil _) rfl ?_
  refine .bl ?_
  unfold vp9_gone_Group_y1_l1 at h
  refine .kq (.lo (fun (s : List Group × Int × vp9_writer) => ⟨[(0, .ifc 116 (.ptr 9000 0)), (1, .ro (.list 3 (List.map cells_Group l))), (2, .ro (.int .i64 many)), (3, .fn (.func 117) [] [.cptr [.ifc 116 (.ptr 9000 0)]]), (9, .own 9), (10, .ro (.int .i64 s.2.1))], [(9, some (.arr 113 3 (List.map cells_Group s.1))), (9000, some (.box [.ro (.list 1 (List.map e8 s.2.2.k.bytes)), .ro (.int .i64 s.2.2.k.many)]))]⟩) h ?_) (.c rfl (.c rfl (.c rfl (.c rfl (.c rfl (.c rfl .n)))))) (.c rfl (.c rfl .n))
  rintro ⟨v1, v2, v3⟩ u1 h ih1 hx1
  replace h : vp9_gone_Group_y1_s1 z l many v1 v2 v3 = _ := h
  unfold vp9_gone_Group_y1_s1 at h
  refine .sq ?_
  refine .sq ?_
  rcases btf (cm .lss v2 many) with hs0 | hs0
  · replace h := ifT h hs0
    refine be h fun x4 hx4 h => ?_
    refine .rg (u (mv (.t rfl)) <| u (mv (.t rfl)) <| u (bc (.t rfl) (.t rfl) rfl rfl) <| u (mv (.t rfl)) <| gdk rfl rfl hs0 <| u (mv (.t rfl)) <| gdk rfl rfl hs0 <| ciy 18000000 cm116_140 (AY.ly (fun i => bif Nat.beq i 9000 then 9000 else i) (vp9_writer_failed_y1_c hx4) rfl rfl rfl rfl rfl rfl rfl) (.t rfl) (.n) rfl (.c rfl <| .n) rfl <| gdk rfl rfl hs0 <| u (no (.t rfl)) <| u (pkt hs0 (.t rfl) (.t rfl)) <| .nil _) rfl ?_
    refine .bq h (.t rfl) (fun h => ?_) (fun h => ?_)
    · refine .skp ?_
      refine .sq ?_
      refine .bl ?_
      refine .sq ?_
      refine .rg (al 11 zf113 rfl <| .nil _) rfl ?_
      refine .sq ?_
      refine .sq ?_
      refine .rg (u (mv (.t rfl)) <| u (mv (.t rfl)) <| u (lnm sf58 (.t rfl)) <| u (bc (.t rfl) (.t rfl) rfl rfl) <| .nil _) rfl ?_
      refine .jq (t := some u1) (fun (a : Group) => ⟨[(0, .ifc 116 (.ptr 9000 0)), (1, .ro (.list 3 (List.map cells_Group l))), (2, .ro (.int .i64 many)), (3, .fn (.func 117) [] [.cptr [.ifc 116 (.ptr 9000 0)]]), (9, .own 9), (10, .ro (.int .i64 v2)), (11, .ptr 11 0)], [(9, some (.arr 113 3 (List.map cells_Group v1))), (11, some (.box [.ro (.int .i64 a.tid), .ro (.bool a.up), .ro (.list 1 (List.map (ei .i64) a.refs))])), (9000, some (.box [.ro (.list 1 (List.map e8 x4.2.k.bytes)), .ro (.int .i64 x4.2.k.many)]))]⟩) (fun (a : Group) => vp9_gone_Group_y1_j2 z v1 v2 x4 a) ?_ (fun J2 => ?_)
      · intro v5 h
        replace h : vp9_gone_Group_y1_j2 z v1 v2 x4 v5 = _ := h
        unfold vp9_gone_Group_y1_j2 at h
        refine be h fun x6 hx6 h => ?_
        refine be h fun x7 hx7 h => ?_
        refine .rg (u (mv (.t rfl)) <| u (mv (.t rfl)) <| u (ld tf113 (.t rfl) rfl rfl) <| cvy 34000000 cf117 (AY.ly (fun i => bif Nat.beq i 9000 then 9000 else i) (vp9_scale_2_y1_c hx6) rfl rfl rfl rfl rfl rfl rfl) (.t rfl) (.c (.t rfl) <| .n) rfl (.c rfl <| .n) rfl <| bs (F := cells_Group) (l := [x6.1]) 34 pf58 (.c (.t rfl) rfl <| .n) rfl (fun _ _ => rfl) rfl rfl <| apo 35 pf58 (.t rfl) rfl (.t rfl) rfl hx7 rfl <| u (asg (.t rfl)) <| .nil _) rfl ?_
        refine .ib ?_
        refine .rg (u (mv (.t rfl)) <| u (bi (.t rfl) (.i rfl) rfl) <| u (asg (.t rfl)) <| .nil _) rfl ?_
        exact .ks (fun i => bif Nat.beq i 9 then 35 else i) (.il (ih1 (x7, (ar .add .i64 v2 1), x6.2) (nxi h))) (.c rfl (.c rfl (.c rfl (.c rfl (.c rfl (.c rfl .n)))))) (.c rfl (.c rfl .n)) rfl
      refine .bq h (.t rfl) (fun h => ?_) (fun h => ?_)
      · refine be h fun x8 hx8 h => ?_
        refine .rg (u (mv (.t rfl)) <| u (mv (.t rfl)) <| u (ia sf58 (.t rfl) (.t rfl) (ix_map cells_Group hx8)) <| u (lr tf113 (.t rfl) rfl) <| st tf113 (.t rfl) rfl (.t rfl) rfl rfl rfl <| .nil _) rfl ?_
        exact .kq (J2 x8 h) (.c rfl (.c rfl (.c rfl (.c rfl (.c rfl (.c rfl (.c rfl .n))))))) (.c rfl (.c rfl (.c rfl .n)))
      · refine .skp ?_
        exact .kq (J2 (Group.mk 0 false []) h) (.c rfl (.c rfl (.c rfl (.c rfl (.c rfl (.c rfl (.c rfl .n))))))) (.c rfl (.c rfl (.c rfl .n)))
    · refine .xt rfl ?_
      replace h := mpR h hx1
      refine .sq ?_
      refine .rg (u (mv (.t rfl)) <| u (asg (.t rfl)) <| .nil _) rfl ?_
      obtain rfl := Option.some.inj h
      refine .ks (l := [(8, .own 8000), (0, .ifc 116 (.ptr 9000 0)), (3, .fn (.func 117) [] [.cptr [.ifc 116 (.ptr 9000 0)]])]) (o := [(9000, some (.box [.ro (.list 1 (List.map e8 x4.2.k.bytes)), .ro (.int .i64 x4.2.k.many)])), (8000, some (.arr 113 3 (List.map cells_Group v1)))]) (fun i => bif Nat.beq i 8000 then 9 else i) ?_ (.c rfl (.c rfl (.c rfl .n))) (.c rfl (.c rfl .n)) rfl
      exact .rtx (o := [(9000, some (.box [.ro (.list 1 (List.map e8 x4.2.k.bytes)), .ro (.int .i64 x4.2.k.many)])), (8000, some (.arr 113 3 (List.map cells_Group v1)))]) Try.func116 (.t rfl <| .n) (.c rfl (.c rfl .n)) rfl rfl (.c rfl (.c rfl .n)) rfl
  · replace h := ifF h hs0
    refine .rg (u (mv (.t rfl)) <| u (mv (.t rfl)) <| u (bc (.t rfl) (.t rfl) rfl rfl) <| u (mv (.t rfl)) <| gd (v := .ro (.bool false)) (rs := []) (ro := []) rfl rfl (fun hB => absurd (hB.symm.trans hs0) (by decide)) <| gd (v := .ro (.bool false)) (rs := []) (ro := []) rfl rfl (fun hB => absurd (hB.symm.trans hs0) (by decide)) <| gd (v := .ro (.bool false)) (rs := []) (ro := []) rfl rfl (fun hB => absurd (hB.symm.trans hs0) (by decide)) <| u (pkf hs0 (.t rfl) .b) <| .nil _) rfl ?_
    refine .cf (.t rfl) rfl ?_
    refine .xt rfl ?_
    replace h := mpR h hx1
    refine .sq ?_
    refine .rg (u (mv (.t rfl)) <| u (asg (.t rfl)) <| .nil _) rfl ?_
    obtain rfl := Option.some.inj h
    refine .ks (l := [(8, .own 8000), (0, .ifc 116 (.ptr 9000 0)), (3, .fn (.func 117) [] [.cptr [.ifc 116 (.ptr 9000 0)]])]) (o := [(9000, some (.box [.ro (.list 1 (List.map e8 v3.k.bytes)), .ro (.int .i64 v3.k.many)])), (8000, some (.arr 113 3 (List.map cells_Group v1)))]) (fun i => bif Nat.beq i 8000 then 9 else i) ?_ (.c rfl (.c rfl (.c rfl .n))) (.c rfl (.c rfl .n)) rfl
    exact .rtx (o := [(9000, some (.box [.ro (.list 1 (List.map e8 v3.k.bytes)), .ro (.int .i64 v3.k.many)])), (8000, some (.arr 113 3 (List.map cells_Group v1)))]) Try.func116 (.t rfl <| .n) (.c rfl (.c rfl .n)) rfl rfl (.c rfl (.c rfl .n)) rfl

theorem vp9_scale_1_y1_c {z : Option Nat} {p_z : Size} {box0 : vp9_writer} {r : Size × vp9_writer} (h : vp9_scale_1_y1 z p_z box0 = some r) :
    AY Try.prog 115 [.ro (enc_Size p_z), .cptr [.ifc 116 (.ptr 9000 0)]] [(9000, [.list 1 (List.map e8 box0.k.bytes), .int .i64 box0.k.many])] [1] (.ro (enc_Size r.1)) [] [(1, .cptr [.ifc 116 (.ptr 9000 0)])] [(9000, [.list 1 (List.map e8 r.2.k.bytes), .int .i64 r.2.k.many])] := by
  refine AY.of Try.func115 rfl rfl fun w X M0 hM pv => ?_
  refine .kq (l := [(0, .ro (enc_Size p_z)), (1, .cptr [.ifc 116 (.ptr 9000 0)])]) (o := [(9000, some (.box [.ro (.list 1 (List.map e8 box0.k.bytes)), .ro (.int .i64 box0.k.many)]))]) ?_ (.c rfl (.c rfl .n)) (.c rfl .n)
  unfold vp9_scale_1_y1 at h
  refine .sq ?_
  refine .rg (bx 2 (.t rfl) rfl rfl <| al 3 zf83 rfl <| .nil _) rfl ?_
  refine .sq ?_
  refine be h fun x1 hx1 h => ?_
  refine be h fun x2 hx2 h => ?_
  refine .rd mixed (u (lc tf146 (.t rfl) rfl) <| u (fa ff83_0 (.t rfl)) <| u (ld tf3 (.t rfl) rfl rfl) <| ciy 8000000 cm116_141 (AY.ly (fun i => bif Nat.beq i 9000 then 9000 else i) (vp9_writer_num_y1_c hx1) rfl rfl rfl rfl rfl rfl rfl) (.t rfl) (.c (.t rfl) <| .c (.i rfl) <| .n) rfl (.c rfl <| .n) rfl <| u (lc tf146 (.t rfl) rfl) <| u (fa ff83_1 (.t rfl)) <| u (ld tf3 (.t rfl) rfl rfl) <| ciy 12000000 cm116_141 (AY.ly (fun i => bif Nat.beq i 9000 then 9000 else i) (vp9_writer_num_y1_c hx2) rfl rfl rfl rfl rfl rfl rfl) (.t rfl) (.c (.t rfl) <| .c (.i rfl) <| .n) rfl (.c rfl <| .n) rfl <| u (bd bf83 zf83 (.c rfl (.t rfl) rfl rfl rfl <| .c rfl (.t rfl) rfl rfl rfl <| .n) rfl) <| st tf83 (.t rfl) rfl (.t rfl) rfl rfl rfl <| .nil _) (by kernel_rfl) rfl ?_
  obtain rfl := Option.some.inj h
  exact .rtx (o := [(9000, some (.box [.ro (.list 1 (List.map e8 x2.2.k.bytes)), .ro (.int .i64 x2.2.k.many)]))]) Try.func115 (.c tf83 rfl rfl rfl <| .n) (.c rfl .n) rfl rfl (.c rfl .n) rfl

theorem vp9_gone_Size_y1_c {z : Option Nat} {l : List Size} {many : Int} {box0 : vp9_writer} {r : List Size × vp9_writer} (h : vp9_gone_Size_y1 z l many box0 = some r) :
    AY Try.prog 114 [.ifc 116 (.ptr 9000 0), .ro (.list 2 (List.map cells_Size l)), .ro (.int .i64 many), .fn (.func 115) [] [.cptr [.ifc 116 (.ptr 9000 0)]]] [(9000, [.list 1 (List.map e8 box0.k.bytes), .int .i64 box0.k.many])] [0, 3] (.own 8000) [(8000, .arr 83 2 (List.map cells_Size r.1))] [(0, .ifc 116 (.ptr 9000 0)), (3, .fn (.func 115) [] [.cptr [.ifc 116 (.ptr 9000 0)]])] [(9000, [.list 1 (List.map e8 r.2.k.bytes), .int .i64 r.2.k.many])] := by
  refine AY.of Try.func114 rfl rfl fun w X M0 hM pv => ?_
  refine .kq (l := [(0, .ifc 116 (.ptr 9000 0)), (1, .ro (.list 2 (List.map cells_Size l))), (2, .ro (.int .i64 many)), (3, .fn (.func 115) [] [.cptr [.ifc 116 (.ptr 9000 0)]])]) (o := [(9000, some (.box [.ro (.list 1 (List.map e8 box0.k.bytes)), .ro (.int .i64 box0.k.many)]))]) ?_ (.c rfl (.c rfl (.c rfl (.c rfl .n)))) (.c rfl .n)
  unfold vp9_gone_Size_y1 at h
  refine .sq ?_
  refine .rg (anm cells_Size 8 83 2 rfl rfl <| .nil _) rfl ?_
  refine .sq ?_
  refine .rg (anm cells_Size 9 83 2 rfl rfl <| .nil _) rfl ?_
  refine .sq ?_
  refine .sq ?_
  refine .rg (u (asg (.i rfl)) <| .nil _) rfl ?_
  refine .bl ?_
  unfold vp9_gone_Size_y1_l1 at h
  refine .kq (.lo (fun (s : List Size × Int × vp9_writer) => ⟨[(0, .ifc 116 (.ptr 9000 0)), (1, .ro (.list 2 (List.map cells_Size l))), (2, .ro (.int .i64 many)), (3, .fn (.func 115) [] [.cptr [.ifc 116 (.ptr 9000 0)]]), (9, .own 9), (10, .ro (.int .i64 s.2.1))], [(9, some (.arr 83 2 (List.map cells_Size s.1))), (9000, some (.box [.ro (.list 1 (List.map e8 s.2.2.k.bytes)), .ro (.int .i64 s.2.2.k.many)]))]⟩) h ?_) (.c rfl (.c rfl (.c rfl (.c rfl (.c rfl (.c rfl .n)))))) (.c rfl (.c rfl .n))
  rintro ⟨v1, v2, v3⟩ u1 h ih1 hx1
  replace h : vp9_gone_Size_y1_s1 z l many v1 v2 v3 = _ := h
  unfold vp9_gone_Size_y1_s1 at h
  refine .sq ?_
  refine .sq ?_
  rcases btf (cm .lss v2 many) with hs0 | hs0
  · replace h := ifT h hs0
    refine be h fun x4 hx4 h => ?_
    refine .rg (u (mv (.t rfl)) <| u (mv (.t rfl)) <| u (bc (.t rfl) (.t rfl) rfl rfl) <| u (mv (.t rfl)) <| gdk rfl rfl hs0 <| u (mv (.t rfl)) <| gdk rfl rfl hs0 <| ciy 18000000 cm116_140 (AY.ly (fun i => bif Nat.beq i 9000 then 9000 else i) (vp9_writer_failed_y1_c hx4) rfl rfl rfl rfl rfl rfl rfl) (.t rfl) (.n) rfl (.c rfl <| .n) rfl <| gdk rfl rfl hs0 <| u (no (.t rfl)) <| u (pkt hs0 (.t rfl) (.t rfl)) <| .nil _) rfl ?_
    refine .bq h (.t rfl) (fun h => ?_) (fun h => ?_)
    · refine .skp ?_
      refine .sq ?_
      refine .bl ?_
      refine .sq ?_
      refine .rg (al 11 zf83 rfl <| .nil _) rfl ?_
      refine .sq ?_
      refine .sq ?_
      refine .rg (u (mv (.t rfl)) <| u (mv (.t rfl)) <| u (lnm sf24 (.t rfl)) <| u (bc (.t rfl) (.t rfl) rfl rfl) <| .nil _) rfl ?_
      refine .jq (t := some u1) (fun (a : Size) => ⟨[(0, .ifc 116 (.ptr 9000 0)), (1, .ro (.list 2 (List.map cells_Size l))), (2, .ro (.int .i64 many)), (3, .fn (.func 115) [] [.cptr [.ifc 116 (.ptr 9000 0)]]), (9, .own 9), (10, .ro (.int .i64 v2)), (11, .ptr 11 0)], [(9, some (.arr 83 2 (List.map cells_Size v1))), (11, some (.box [.ro (.int .i64 a.wide), .ro (.int .i64 a.high)])), (9000, some (.box [.ro (.list 1 (List.map e8 x4.2.k.bytes)), .ro (.int .i64 x4.2.k.many)]))]⟩) (fun (a : Size) => vp9_gone_Size_y1_j2 z v1 v2 x4 a) ?_ (fun J2 => ?_)
      · intro v5 h
        replace h : vp9_gone_Size_y1_j2 z v1 v2 x4 v5 = _ := h
        unfold vp9_gone_Size_y1_j2 at h
        refine be h fun x6 hx6 h => ?_
        refine be h fun x7 hx7 h => ?_
        refine .rg (u (mv (.t rfl)) <| u (mv (.t rfl)) <| u (ld tf83 (.t rfl) rfl rfl) <| cvy 34000000 cf115 (AY.ly (fun i => bif Nat.beq i 9000 then 9000 else i) (vp9_scale_1_y1_c hx6) rfl rfl rfl rfl rfl rfl rfl) (.t rfl) (.c (.t rfl) <| .n) rfl (.c rfl <| .n) rfl <| bs (F := cells_Size) (l := [x6.1]) 34 pf24 (.c (.t rfl) rfl <| .n) rfl (fun _ _ => rfl) rfl rfl <| apo 35 pf24 (.t rfl) rfl (.t rfl) rfl hx7 rfl <| u (asg (.t rfl)) <| .nil _) rfl ?_
        refine .ib ?_
        refine .rg (u (mv (.t rfl)) <| u (bi (.t rfl) (.i rfl) rfl) <| u (asg (.t rfl)) <| .nil _) rfl ?_
        exact .ks (fun i => bif Nat.beq i 9 then 35 else i) (.il (ih1 (x7, (ar .add .i64 v2 1), x6.2) (nxi h))) (.c rfl (.c rfl (.c rfl (.c rfl (.c rfl (.c rfl .n)))))) (.c rfl (.c rfl .n)) rfl
      refine .bq h (.t rfl) (fun h => ?_) (fun h => ?_)
      · refine be h fun x8 hx8 h => ?_
        refine .rg (u (mv (.t rfl)) <| u (mv (.t rfl)) <| u (ia sf24 (.t rfl) (.t rfl) (ix_map cells_Size hx8)) <| u (lr tf83 (.t rfl) rfl) <| st tf83 (.t rfl) rfl (.t rfl) rfl rfl rfl <| .nil _) rfl ?_
        exact .kq (J2 x8 h) (.c rfl (.c rfl (.c rfl (.c rfl (.c rfl (.c rfl (.c rfl .n))))))) (.c rfl (.c rfl (.c rfl .n)))
      · refine .skp ?_
        exact .kq (J2 (Size.mk 0 0) h) (.c rfl (.c rfl (.c rfl (.c rfl (.c rfl (.c rfl (.c rfl .n))))))) (.c rfl (.c rfl (.c rfl .n)))
    · refine .xt rfl ?_
      replace h := mpR h hx1
      refine .sq ?_
      refine .rg (u (mv (.t rfl)) <| u (asg (.t rfl)) <| .nil _) rfl ?_
      obtain rfl := Option.some.inj h
      refine .ks (l := [(8, .own 8000), (0, .ifc 116 (.ptr 9000 0)), (3, .fn (.func 115) [] [.cptr [.ifc 116 (.ptr 9000 0)]])]) (o := [(9000, some (.box [.ro (.list 1 (List.map e8 x4.2.k.bytes)), .ro (.int .i64 x4.2.k.many)])), (8000, some (.arr 83 2 (List.map cells_Size v1)))]) (fun i => bif Nat.beq i 8000 then 9 else i) ?_ (.c rfl (.c rfl (.c rfl .n))) (.c rfl (.c rfl .n)) rfl
      exact .rtx (o := [(9000, some (.box [.ro (.list 1 (List.map e8 x4.2.k.bytes)), .ro (.int .i64 x4.2.k.many)])), (8000, some (.arr 83 2 (List.map cells_Size v1)))]) Try.func114 (.t rfl <| .n) (.c rfl (.c rfl .n)) rfl rfl (.c rfl (.c rfl .n)) rfl
  · replace h := ifF h hs0
    refine .rg (u (mv (.t rfl)) <| u (mv (.t rfl)) <| u (bc (.t rfl) (.t rfl) rfl rfl) <| u (mv (.t rfl)) <| gd (v := .ro (.bool false)) (rs := []) (ro := []) rfl rfl (fun hB => absurd (hB.symm.trans hs0) (by decide)) <| gd (v := .ro (.bool false)) (rs := []) (ro := []) rfl rfl (fun hB => absurd (hB.symm.trans hs0) (by decide)) <| gd (v := .ro (.bool false)) (rs := []) (ro := []) rfl rfl (fun hB => absurd (hB.symm.trans hs0) (by decide)) <| u (pkf hs0 (.t rfl) .b) <| .nil _) rfl ?_
    refine .cf (.t rfl) rfl ?_
    refine .xt rfl ?_
    replace h := mpR h hx1
    refine .sq ?_
    refine .rg (u (mv (.t rfl)) <| u (asg (.t rfl)) <| .nil _) rfl ?_
    obtain rfl := Option.some.inj h
    refine .ks (l := [(8, .own 8000), (0, .ifc 116 (.ptr 9000 0)), (3, .fn (.func 115) [] [.cptr [.ifc 116 (.ptr 9000 0)]])]) (o := [(9000, some (.box [.ro (.list 1 (List.map e8 v3.k.bytes)), .ro (.int .i64 v3.k.many)])), (8000, some (.arr 83 2 (List.map cells_Size v1)))]) (fun i => bif Nat.beq i 8000 then 9 else i) ?_ (.c rfl (.c rfl (.c rfl .n))) (.c rfl (.c rfl .n)) rfl
    exact .rtx (o := [(9000, some (.box [.ro (.list 1 (List.map e8 v3.k.bytes)), .ro (.int .i64 v3.k.many)])), (8000, some (.arr 83 2 (List.map cells_Size v1)))]) Try.func114 (.t rfl <| .n) (.c rfl (.c rfl .n)) rfl rfl (.c rfl (.c rfl .n)) rfl

theorem vp9_scale_y1_c {z : Option Nat} {p_s : Scale} {box0 : vp9_writer} {r : Scale × vp9_writer} (h : vp9_scale_y1 z p_s box0 = some r) :
    AY Try.prog 103 [.ifc 116 (.ptr 9000 0), .ro (enc_Scale p_s)] [(9000, [.list 1 (List.map e8 box0.k.bytes), .int .i64 box0.k.many])] [0] (.ro (enc_Scale r.1)) [] [(0, .ifc 116 (.ptr 9000 0))] [(9000, [.list 1 (List.map e8 r.2.k.bytes), .int .i64 r.2.k.many])] := by
  refine AY.of Try.func103 rfl rfl fun w X M0 hM pv => ?_
  refine .kq (l := [(0, .ifc 116 (.ptr 9000 0)), (1, .ro (enc_Scale p_s))]) (o := [(9000, some (.box [.ro (.list 1 (List.map e8 box0.k.bytes)), .ro (.int .i64 box0.k.many)]))]) ?_ (.c rfl (.c rfl .n)) (.c rfl .n)
  unfold vp9_scale_y1 at h
  refine .sq ?_
  refine .rg (bx 2 (.t rfl) rfl rfl <| bx 3 (.t rfl) rfl rfl <| al 4 zf60 rfl <| .nil _) rfl ?_
  refine .fc 2 rfl ?_
  refine .sq ?_
  refine be h fun x1 hx1 h => ?_
  refine .rg (u (lc tf146 (.t rfl) rfl) <| u (fa ff60_0 (.t rfl)) <| u (ld tf3 (.t rfl) rfl rfl) <| u (bi (.t rfl) (.i rfl) rfl) <| ciy 10000000 cm116_141 (AY.ly (fun i => bif Nat.beq i 9000 then 9000 else i) (vp9_writer_num_y1_c hx1) rfl rfl rfl rfl rfl rfl rfl) (.t rfl) (.c (.t rfl) <| .c (.i rfl) <| .n) rfl (.c rfl <| .n) rfl <| u (bi (.t rfl) (.i rfl) rfl) <| u (fa ff60_0 (.t rfl)) <| st tf3 (.t rfl) rfl (.t rfl) rfl rfl rfl <| .nil _) rfl ?_
  refine .sq ?_
  refine be h fun x2 hx2 h => ?_
  refine be h fun x3 hx3 h => ?_
  refine .rd mixed (u (lc tf146 (.t rfl) rfl) <| u (fa ff60_1 (.t rfl)) <| u (ld tf4 (.t rfl) rfl rfl) <| cly 16000000 cf100 (AY.ly (fun i => bif Nat.beq i 9000 then 9000 else i) (vp9_truth_y1_c hx2) rfl rfl rfl rfl rfl rfl rfl)  (.c (.t rfl) <| .c (.t rfl) <| .n) rfl (.c rfl <| .n) rfl <| u (lc tf146 (.t rfl) rfl) <| u (fa ff60_3 (.t rfl)) <| u (ld tf4 (.t rfl) rfl rfl) <| cly 20000000 cf100 (AY.ly (fun i => bif Nat.beq i 9000 then 9000 else i) (vp9_truth_y1_c hx3) rfl rfl rfl rfl rfl rfl rfl)  (.c (.t rfl) <| .c (.t rfl) <| .n) rfl (.c rfl <| .n) rfl <| u (fa ff60_1 (.t rfl)) <| st tf4 (.t rfl) rfl (.t rfl) rfl rfl rfl <| u (fa ff60_3 (.t rfl)) <| st tf4 (.t rfl) rfl (.t rfl) rfl rfl rfl <| .nil _) (by kernel_rfl) rfl ?_
  refine .sq ?_
  refine be h fun x4 hx4 h => ?_
  refine .rg (u (lc tf146 (.t rfl) rfl) <| ciy 24000000 cm116_141 (AY.ly (fun i => bif Nat.beq i 9000 then 9000 else i) (vp9_writer_num_y1_c hx4) rfl rfl rfl rfl rfl rfl rfl) (.t rfl) (.c (.i rfl) <| .c (.i rfl) <| .n) rfl (.c rfl <| .n) rfl <| .nil _) rfl ?_
  refine .sq ?_
  refine .sq ?_
  refine .rg (u (fa ff60_1 (.t rfl)) <| u (ld tf4 (.t rfl) rfl rfl) <| .nil _) rfl ?_
  refine .jq (t := some r) (fun (a : Scale × vp9_writer) => ⟨[(0, .ifc 116 (.ptr 9000 0)), (2, .cptr [.ifc 116 (.ptr 9000 0)]), (3, .ptr 3 0), (4, .ptr 4 0)], [(3, some (.box [.ro (.int .i64 a.1.layers), .ro (.bool a.1.hasSizes), .ro (.list 2 (List.map cells_Size a.1.sizes)), .ro (.bool a.1.hasPics), .ro (.list 3 (List.map cells_Group a.1.pics))])), (4, some (.box [.ro (.int .i64 0), .ro (.bool false), .ro (.list 2 (List.map cells_Size [])), .ro (.bool false), .ro (.list 3 (List.map cells_Group []))])), (9000, some (.box [.ro (.list 1 (List.map e8 a.2.k.bytes)), .ro (.int .i64 a.2.k.many)]))]⟩) (fun (a : Scale × vp9_writer) => vp9_scale_y1_j1 z a.1 a.2) ?_ (fun J1 => ?_)
  · rintro ⟨v5, v6⟩ h
    replace h : vp9_scale_y1_j1 z v5 v6 = _ := h
    unfold vp9_scale_y1_j1 at h
    refine .sq ?_
    refine .sq ?_
    refine .rg (u (fa ff60_3 (.t rfl)) <| u (ld tf4 (.t rfl) rfl rfl) <| .nil _) rfl ?_
    refine .jq (t := some r) (fun (a : Scale × vp9_writer) => ⟨[(0, .ifc 116 (.ptr 9000 0)), (3, .ptr 3 0), (4, .ptr 4 0)], [(3, some (.box [.ro (.int .i64 a.1.layers), .ro (.bool a.1.hasSizes), .ro (.list 2 (List.map cells_Size a.1.sizes)), .ro (.bool a.1.hasPics), .ro (.list 3 (List.map cells_Group a.1.pics))])), (4, some (.box [.ro (.int .i64 0), .ro (.bool false), .ro (.list 2 (List.map cells_Size [])), .ro (.bool false), .ro (.list 3 (List.map cells_Group []))])), (9000, some (.box [.ro (.list 1 (List.map e8 a.2.k.bytes)), .ro (.int .i64 a.2.k.many)]))]⟩) (fun (a : Scale × vp9_writer) => vp9_scale_y1_j2 z a.1 a.2) ?_ (fun J2 => ?_)
    · rintro ⟨v7, v8⟩ h
      replace h : vp9_scale_y1_j2 z v7 v8 = _ := h
      unfold vp9_scale_y1_j2 at h
      refine .sq ?_
      refine .rg (u (ld tf60 (.t rfl) rfl rfl) <| st tf60 (.t rfl) rfl (.t rfl) rfl rfl rfl <| .nil _) rfl ?_
      obtain rfl := Option.some.inj h
      exact .rtx (o := [(9000, some (.box [.ro (.list 1 (List.map e8 v8.k.bytes)), .ro (.int .i64 v8.k.many)]))]) Try.func103 (.c tf60 rfl rfl rfl <| .n) (.c rfl .n) rfl rfl (.c rfl .n) rfl
    refine .bq h (.t rfl) (fun h => ?_) (fun h => ?_)
    · refine be h fun x9 hx9 h => ?_
      refine be h fun x10 hx10 h => ?_
      refine .rd mixed (u (lc tf146 (.t rfl) rfl) <| u (fa ff60_4 (.t rfl)) <| u (ld tf58 (.t rfl) rfl rfl) <| u (lc tf146 (.t rfl) rfl) <| u (fa ff60_4 (.t rfl)) <| u (ld tf58 (.t rfl) rfl rfl) <| u (lnm sf58 (.t rfl)) <| ciy 44000000 cm116_141 (AY.ly (fun i => bif Nat.beq i 9000 then 9000 else i) (vp9_writer_num_y1_c hx9) rfl rfl rfl rfl rfl rfl rfl) (.t rfl) (.c (.t rfl) <| .c (.i rfl) <| .n) rfl (.c rfl <| .n) rfl <| u (mfn (.c (.t rfl) <| .n)) <| cly 46000000 cf116 (AY.ly (fun i => bif Nat.beq i 9000 then 9000 else i) (vp9_gone_Group_y1_c hx10) rfl rfl rfl rfl rfl rfl rfl)  (.c (.t rfl) <| .c (.t rfl) <| .c (.t rfl) <| .c (.t rfl) <| .n) rfl (.c rfl <| .n) rfl <| u (fa ff60_4 (.t rfl)) <| st tf58 (.t rfl) rfl (.t rfl) rfl rfl rfl <| .nil _) (by kernel_rfl) rfl ?_
      refine .fz 46008000 rfl ?_
      exact .kq (J2 ({ v5 with pics := x10.1 }, x10.2) h) (.c rfl (.c rfl (.c rfl .n))) (.c rfl (.c rfl (.c rfl .n)))
    · refine .skp ?_
      exact .kq (J2 (v5, v6) h) (.c rfl (.c rfl (.c rfl .n))) (.c rfl (.c rfl (.c rfl .n)))
  refine .bq h (.t rfl) (fun h => ?_) (fun h => ?_)
  · refine be h fun x11 hx11 h => ?_
    refine .rg (u (lc tf146 (.t rfl) rfl) <| u (fa ff60_2 (.t rfl)) <| u (ld tf24 (.t rfl) rfl rfl) <| u (fa ff60_0 (.t rfl)) <| u (ld tf3 (.t rfl) rfl rfl) <| u (mfn (.c (.t rfl) <| .n)) <| cly 33000000 cf114 (AY.ly (fun i => bif Nat.beq i 9000 then 9000 else i) (vp9_gone_Size_y1_c hx11) rfl rfl rfl rfl rfl rfl rfl)  (.c (.t rfl) <| .c (.t rfl) <| .c (.t rfl) <| .c (.t rfl) <| .n) rfl (.c rfl <| .n) rfl <| u (fa ff60_2 (.t rfl)) <| st tf24 (.t rfl) rfl (.t rfl) rfl rfl rfl <| .nil _) rfl ?_
    refine .fz 33008000 rfl ?_
    exact .kq (J1 ((Scale.mk (ar .add .i64 x1.1 1) x2.1 x11.1 x3.1 p_s.pics), x11.2) h) (.c rfl (.c rfl (.c rfl (.c rfl .n)))) (.c rfl (.c rfl (.c rfl .n)))
  · refine .skp ?_
    exact .kq (J1 ((Scale.mk (ar .add .i64 x1.1 1) x2.1 p_s.sizes x3.1 p_s.pics), x4.2) h) (.c rfl (.c rfl (.c rfl (.c rfl .n)))) (.c rfl (.c rfl (.c rfl .n)))

theorem vp9_writer_bad_y1_c {z : Option Nat} {box0 : vp9_writer} {r : vp9_writer} (h : vp9_writer_bad_y1 z box0 = some r) :
    AY Try.prog 139 [.ptr 9000 0] [(9000, [.list 1 (List.map e8 box0.k.bytes), .int .i64 box0.k.many])] [0] (.ro (.tup [])) [] [(0, .ptr 9000 0)] [(9000, [.list 1 (List.map e8 r.k.bytes), .int .i64 r.k.many])] := by
  refine AY.of Try.func139 rfl rfl fun w X M0 hM pv => ?_
  refine .kq (l := [(0, .ptr 9000 0)]) (o := [(9000, some (.box [.ro (.list 1 (List.map e8 box0.k.bytes)), .ro (.int .i64 box0.k.many)]))]) ?_ (.c rfl .n) (.c rfl .n)
  unfold vp9_writer_bad_y1 at h
  refine .skp ?_
  obtain rfl := Option.some.inj h
  exact .rte (o := [(9000, some (.box [.ro (.list 1 (List.map e8 box0.k.bytes)), .ro (.int .i64 box0.k.many)]))]) Try.func139 (.n) (.c rfl .n) rfl rfl (.c rfl .n) rfl

theorem vp9_references_y1_c {z : Option Nat} {l : List Int} {box0 : vp9_writer} {r : List Int × vp9_writer} (h : vp9_references_y1 z l box0 = some r) :
    AY Try.prog 102 [.ifc 116 (.ptr 9000 0), .ro (.list 1 (List.map (ei .i64) l))] [(9000, [.list 1 (List.map e8 box0.k.bytes), .int .i64 box0.k.many])] [0] (.own 8000) [(8000, .arr 3 1 (List.map (ei .i64) r.1))] [(0, .ifc 116 (.ptr 9000 0))] [(9000, [.list 1 (List.map e8 r.2.k.bytes), .int .i64 r.2.k.many])] := by
  refine AY.of Try.func102 rfl rfl fun w X M0 hM pv => ?_
  refine .kq (l := [(0, .ifc 116 (.ptr 9000 0)), (1, .ro (.list 1 (List.map (ei .i64) l)))]) (o := [(9000, some (.box [.ro (.list 1 (List.map e8 box0.k.bytes)), .ro (.int .i64 box0.k.many)]))]) ?_ (.c rfl (.c rfl .n)) (.c rfl .n)
  unfold vp9_references_y1 at h
  refine .sq ?_
  refine .rg (anm (ei .i64) 4 3 1 rfl rfl <| .nil _) rfl ?_
  refine .sq ?_
  refine .rg (anm (ei .i64) 5 3 1 rfl rfl <| .nil _) rfl ?_
  refine .sq ?_
  refine .sq ?_
  refine .rg (u (asg .b) <| .nil _) rfl ?_
  refine .bl ?_
  unfold vp9_references_y1_l1 at h
  refine .kq (.lo (fun (s : List Int × Bool × vp9_writer) => ⟨[(0, .ifc 116 (.ptr 9000 0)), (1, .ro (.list 1 (List.map (ei .i64) l))), (5, .own 5), (6, .ro (.bool s.2.1))], [(5, some (.arr 3 1 (List.map (ei .i64) s.1))), (9000, some (.box [.ro (.list 1 (List.map e8 s.2.2.k.bytes)), .ro (.int .i64 s.2.2.k.many)]))]⟩) h ?_) (.c rfl (.c rfl (.c rfl (.c rfl .n)))) (.c rfl (.c rfl .n))
  rintro ⟨v1, v2, v3⟩ u1 h ih1 hx1
  replace h : vp9_references_y1_s1 z l v1 v2 v3 = _ := h
  unfold vp9_references_y1_s1 at h
  refine .sq ?_
  refine .sq ?_
  rcases btf v2 with hs0 | hs0
  · replace h := ifT h hs0
    refine be h fun x4 hx4 h => ?_
    refine .rg (u (mv (.t rfl)) <| u (mv (.t rfl)) <| gdk rfl rfl hs0 <| u (mv (.t rfl)) <| gdk rfl rfl hs0 <| ciy 12000000 cm116_140 (AY.ly (fun i => bif Nat.beq i 9000 then 9000 else i) (vp9_writer_failed_y1_c hx4) rfl rfl rfl rfl rfl rfl rfl) (.t rfl) (.n) rfl (.c rfl <| .n) rfl <| gdk rfl rfl hs0 <| u (no (.t rfl)) <| u (pkt hs0 (.t rfl) (.t rfl)) <| .nil _) rfl ?_
    refine .bq h (.t rfl) (fun h => ?_) (fun h => ?_)
    · refine .skp ?_
      refine .bl ?_
      refine .sq ?_
      refine .rg (u (asg (.i rfl)) <| .nil _) rfl ?_
      refine .sq ?_
      refine .sq ?_
      refine .rg (u (mv (.t rfl)) <| u (lom sf22 (.t rfl) rfl) <| u (mv (.t rfl)) <| u (lnm sf22 (.t rfl)) <| u (bc (.t rfl) (.t rfl) rfl rfl) <| .nil _) rfl ?_
      refine .jq (t := some u1) (fun (a : Int) => ⟨[(0, .ifc 116 (.ptr 9000 0)), (1, .ro (.list 1 (List.map (ei .i64) l))), (5, .own 5), (7, .ro (.int .i64 a))], [(5, some (.arr 3 1 (List.map (ei .i64) v1))), (9000, some (.box [.ro (.list 1 (List.map e8 x4.2.k.bytes)), .ro (.int .i64 x4.2.k.many)]))]⟩) (fun (a : Int) => vp9_references_y1_j2 z l v1 x4 a) ?_ (fun J2 => ?_)
      · intro v5 h
        replace h : vp9_references_y1_j2 z l v1 x4 v5 = _ := h
        unfold vp9_references_y1_j2 at h
        refine .sq ?_
        refine be h fun x6 hx6 h => ?_
        refine be h fun x7 hx7 h => ?_
        refine .rg (u (mv (.t rfl)) <| u (mv (.t rfl)) <| u (mv (.t rfl)) <| ciy 28000000 cm116_141 (AY.ly (fun i => bif Nat.beq i 9000 then 9000 else i) (vp9_writer_num_y1_c hx6) rfl rfl rfl rfl rfl rfl rfl) (.t rfl) (.c (.t rfl) <| .c (.i rfl) <| .n) rfl (.c rfl <| .n) rfl <| bs (F := (ei .i64)) (l := [x6.1]) 28 pf22 (.c (.t rfl) rfl <| .n) rfl (fun _ _ => rfl) rfl rfl <| apo 29 pf22 (.t rfl) rfl (.t rfl) rfl hx7 rfl <| u (asg (.t rfl)) <| .nil _) rfl ?_
        refine .sq ?_
        refine be h fun x8 hx8 h => ?_
        refine .rg (u (mv (.t rfl)) <| u (mv (.t rfl)) <| u (lom sf22 (.t rfl) rfl) <| u (mv (.t rfl)) <| u (lnm sf22 (.t rfl)) <| u (bc (.t rfl) (.t rfl) rfl rfl) <| cly 37000000 cf100 (AY.ly (fun i => bif Nat.beq i 9000 then 9000 else i) (vp9_truth_y1_c hx8) rfl rfl rfl rfl rfl rfl rfl)  (.c (.t rfl) <| .c (.t rfl) <| .n) rfl (.c rfl <| .n) rfl <| u (asg (.t rfl)) <| .nil _) rfl ?_
        refine .sq ?_
        refine be h fun x9 hx9 h => ?_
        refine .rg (u (mv (.t rfl)) <| u (mv (.t rfl)) <| u (lom sf22 (.t rfl) rfl) <| u (bi (.t rfl) (.i rfl) rfl) <| u (io sf22 (.t rfl) rfl (.t rfl) (ix_map (ei .i64) hx9)) <| u (le tf3 (.t rfl) rfl (ix_lt (ix_map _ hx9)).2.2 rfl) <| u (bc (.t rfl) (.i rfl) rfl rfl) <| u (mv (.t rfl)) <| gd rfl rfl (fun hB => mv (.t rfl)) <| gd rfl rfl (fun hB => mv (.m rfl hB)) <| gm rfl rfl (fun hB => mv (.t rfl)) <| gm rfl rfl (fun hB => lom sf22 (.m rfl hB) rfl) <| gm rfl rfl (fun hB => bc (.m rfl hB) (.i rfl) rfl rfl) <| gd rfl rfl (fun hB => pkam (.m rfl hB) (.t rfl) hB) <| u (pko (.t rfl) (.t rfl)) <| .nil _) rfl ?_
        refine .bq h (.t rfl) (fun h => ?_) (fun h => ?_)
        · refine be h fun x10 hx10 h => ?_
          refine .rg (u (mv (.t rfl)) <| ciy 54000000 cm116_139 (AY.ly (fun i => bif Nat.beq i 9000 then 9000 else i) (vp9_writer_bad_y1_c hx10) rfl rfl rfl rfl rfl rfl rfl) (.t rfl) (.n) rfl (.c rfl <| .n) rfl <| .nil _) rfl ?_
          refine .ib ?_
          exact .ks (fun i => bif Nat.beq i 5 then 29 else i) (.il (ih1 (x7, x8.1, x10) (nxi h))) (.c rfl (.c rfl (.c rfl (.c rfl .n)))) (.c rfl (.c rfl .n)) rfl
        · refine .skp ?_
          refine .ib ?_
          exact .ks (fun i => bif Nat.beq i 5 then 29 else i) (.il (ih1 (x7, x8.1, x8.2) (nxi h))) (.c rfl (.c rfl (.c rfl (.c rfl .n)))) (.c rfl (.c rfl .n)) rfl
      refine .bq h (.t rfl) (fun h => ?_) (fun h => ?_)
      · refine be h fun x11 hx11 h => ?_
        refine .rg (u (mv (.t rfl)) <| u (mv (.t rfl)) <| u (lom sf22 (.t rfl) rfl) <| u (ia sf22 (.t rfl) (.t rfl) (ix_map (ei .i64) hx11)) <| u (lr tf3 (.t rfl) rfl) <| u (asg (.t rfl)) <| .nil _) rfl ?_
        exact .kq (J2 x11 h) (.c rfl (.c rfl (.c rfl (.c rfl .n)))) (.c rfl (.c rfl .n))
      · refine .skp ?_
        exact .kq (J2 0 h) (.c rfl (.c rfl (.c rfl (.c rfl .n)))) (.c rfl (.c rfl .n))
    · refine .xt rfl ?_
      replace h := mpR h hx1
      refine .sq ?_
      refine .rg (u (mv (.t rfl)) <| u (asg (.t rfl)) <| .nil _) rfl ?_
      obtain rfl := Option.some.inj h
      refine .ks (l := [(4, .own 8000), (0, .ifc 116 (.ptr 9000 0))]) (o := [(9000, some (.box [.ro (.list 1 (List.map e8 x4.2.k.bytes)), .ro (.int .i64 x4.2.k.many)])), (8000, some (.arr 3 1 (List.map (ei .i64) v1)))]) (fun i => bif Nat.beq i 8000 then 5 else i) ?_ (.c rfl (.c rfl .n)) (.c rfl (.c rfl .n)) rfl
      exact .rtx (o := [(9000, some (.box [.ro (.list 1 (List.map e8 x4.2.k.bytes)), .ro (.int .i64 x4.2.k.many)])), (8000, some (.arr 3 1 (List.map (ei .i64) v1)))]) Try.func102 (.t rfl <| .n) (.c rfl (.c rfl .n)) rfl rfl (.c rfl .n) rfl
  · replace h := ifF h hs0
    refine .rg (u (mv (.t rfl)) <| u (mv (.t rfl)) <| gd (v := .ro (.bool false)) (rs := []) (ro := []) rfl rfl (fun hB => absurd (hB.symm.trans hs0) (by decide)) <| gd (v := .ro (.bool false)) (rs := []) (ro := []) rfl rfl (fun hB => absurd (hB.symm.trans hs0) (by decide)) <| gd (v := .ro (.bool false)) (rs := []) (ro := []) rfl rfl (fun hB => absurd (hB.symm.trans hs0) (by decide)) <| u (pkf hs0 (.t rfl) .b) <| .nil _) rfl ?_
    refine .cf (.t rfl) rfl ?_
    refine .xt rfl ?_
    replace h := mpR h hx1
    refine .sq ?_
    refine .rg (u (mv (.t rfl)) <| u (asg (.t rfl)) <| .nil _) rfl ?_
    obtain rfl := Option.some.inj h
    refine .ks (l := [(4, .own 8000), (0, .ifc 116 (.ptr 9000 0))]) (o := [(9000, some (.box [.ro (.list 1 (List.map e8 v3.k.bytes)), .ro (.int .i64 v3.k.many)])), (8000, some (.arr 3 1 (List.map (ei .i64) v1)))]) (fun i => bif Nat.beq i 8000 then 5 else i) ?_ (.c rfl (.c rfl .n)) (.c rfl (.c rfl .n)) rfl
    exact .rtx (o := [(9000, some (.box [.ro (.list 1 (List.map e8 v3.k.bytes)), .ro (.int .i64 v3.k.many)])), (8000, some (.arr 3 1 (List.map (ei .i64) v1)))]) Try.func102 (.t rfl <| .n) (.c rfl (.c rfl .n)) rfl rfl (.c rfl .n) rfl

theorem vp9_layers_y1_c {z : Option Nat} {box0 : vp9_writer} {box1 : Vp9} {r : vp9_writer × Vp9} (h : vp9_layers_y1 z box0 box1 = some r) :
    AY Try.prog 101 [.ifc 116 (.ptr 9000 0), .ptr 9001 0] [(9000, [.list 1 (List.map e8 box0.k.bytes), .int .i64 box0.k.many]), (9001, [.bool box1.hasPic, .bool box1.wide, .int .i64 box1.pic, .bool box1.inter, .bool box1.hasLayer, .int .i64 box1.tid, .int .i64 box1.sid, .bool box1.up, .bool box1.depends, .bool box1.flexible, .int .i64 box1.level, .list 1 (List.map (ei .i64) box1.refs), .bool box1.begin, .bool box1.end_, .bool box1.hasScale, .int .i64 box1.scale.layers, .bool box1.scale.hasSizes, .list 2 (List.map cells_Size box1.scale.sizes), .bool box1.scale.hasPics, .list 3 (List.map cells_Group box1.scale.pics), .bool box1.notRef])] [0, 1] (.ro (.tup [])) [] [(0, .ifc 116 (.ptr 9000 0)), (1, .ptr 9001 0)] [(9000, [.list 1 (List.map e8 r.1.k.bytes), .int .i64 r.1.k.many]), (9001, [.bool r.2.hasPic, .bool r.2.wide, .int .i64 r.2.pic, .bool r.2.inter, .bool r.2.hasLayer, .int .i64 r.2.tid, .int .i64 r.2.sid, .bool r.2.up, .bool r.2.depends, .bool r.2.flexible, .int .i64 r.2.level, .list 1 (List.map (ei .i64) r.2.refs), .bool r.2.begin, .bool r.2.end_, .bool r.2.hasScale, .int .i64 r.2.scale.layers, .bool r.2.scale.hasSizes, .list 2 (List.map cells_Size r.2.scale.sizes), .bool r.2.scale.hasPics, .list 3 (List.map cells_Group r.2.scale.pics), .bool r.2.notRef])] := by
  refine AY.of Try.func101 rfl rfl fun w X M0 hM pv => ?_
  refine .kq (l := [(0, .ifc 116 (.ptr 9000 0)), (1, .ptr 9001 0)]) (o := [(9000, some (.box [.ro (.list 1 (List.map e8 box0.k.bytes)), .ro (.int .i64 box0.k.many)])), (9001, some (.box [.ro (.bool box1.hasPic), .ro (.bool box1.wide), .ro (.int .i64 box1.pic), .ro (.bool box1.inter), .ro (.bool box1.hasLayer), .ro (.int .i64 box1.tid), .ro (.int .i64 box1.sid), .ro (.bool box1.up), .ro (.bool box1.depends), .ro (.bool box1.flexible), .ro (.int .i64 box1.level), .ro (.list 1 (List.map (ei .i64) box1.refs)), .ro (.bool box1.begin), .ro (.bool box1.end_), .ro (.bool box1.hasScale), .ro (.int .i64 box1.scale.layers), .ro (.bool box1.scale.hasSizes), .ro (.list 2 (List.map cells_Size box1.scale.sizes)), .ro (.bool box1.scale.hasPics), .ro (.list 3 (List.map cells_Group box1.scale.pics)), .ro (.bool box1.notRef)]))]) ?_ (.c rfl (.c rfl .n)) (.c rfl (.c rfl .n))
  unfold vp9_layers_y1 at h
  refine .sq ?_
  refine be h fun x1 hx1 h => ?_
  refine .rd mixed (u (mv (.t rfl)) <| u (mv (.t rfl)) <| u (mv (.t rfl)) <| u (nkp (.t rfl)) <| u (fa ff62_5 (.t rfl)) <| u (ld tf3 (.t rfl) rfl rfl) <| u (mfm (.t rfl)) <| u (nkm nm116_2 (.t rfl)) <| u (mv (.t rfl)) <| ciy 14000000 cm116_141 (AY.ly (fun i => bif Nat.beq i 9000 then 9000 else i) (vp9_writer_num_y1_c hx1) rfl rfl rfl rfl rfl rfl rfl) (.t rfl) (.c (.t rfl) <| .c (.i rfl) <| .n) rfl (.c rfl <| .n) rfl <| u (nkp (.t rfl)) <| u (fa ff62_5 (.t rfl)) <| st tf3 (.t rfl) rfl (.t rfl) rfl rfl rfl <| .nil _) (by kernel_rfl) rfl ?_
  refine .sq ?_
  refine be h fun x2 hx2 h => ?_
  refine .rg (u (mv (.t rfl)) <| u (mv (.t rfl)) <| u (mv (.t rfl)) <| u (nkp (.t rfl)) <| u (fa ff62_7 (.t rfl)) <| u (ld tf4 (.t rfl) rfl rfl) <| cly 23000000 cf100 (AY.ly (fun i => bif Nat.beq i 9000 then 9000 else i) (vp9_truth_y1_c hx2) rfl rfl rfl rfl rfl rfl rfl)  (.c (.t rfl) <| .c (.t rfl) <| .n) rfl (.c rfl <| .n) rfl <| u (nkp (.t rfl)) <| u (fa ff62_7 (.t rfl)) <| st tf4 (.t rfl) rfl (.t rfl) rfl rfl rfl <| .nil _) rfl ?_
  refine .sq ?_
  refine be h fun x3 hx3 h => ?_
  refine .rd mixed (u (mv (.t rfl)) <| u (mv (.t rfl)) <| u (mv (.t rfl)) <| u (nkp (.t rfl)) <| u (fa ff62_6 (.t rfl)) <| u (ld tf3 (.t rfl) rfl rfl) <| u (mfm (.t rfl)) <| u (nkm nm116_2 (.t rfl)) <| u (mv (.t rfl)) <| ciy 35000000 cm116_141 (AY.ly (fun i => bif Nat.beq i 9000 then 9000 else i) (vp9_writer_num_y1_c hx3) rfl rfl rfl rfl rfl rfl rfl) (.t rfl) (.c (.t rfl) <| .c (.i rfl) <| .n) rfl (.c rfl <| .n) rfl <| u (nkp (.t rfl)) <| u (fa ff62_6 (.t rfl)) <| st tf3 (.t rfl) rfl (.t rfl) rfl rfl rfl <| .nil _) (by kernel_rfl) rfl ?_
  refine .sq ?_
  refine be h fun x4 hx4 h => ?_
  refine .rg (u (mv (.t rfl)) <| u (mv (.t rfl)) <| u (mv (.t rfl)) <| u (nkp (.t rfl)) <| u (fa ff62_8 (.t rfl)) <| u (ld tf4 (.t rfl) rfl rfl) <| cly 44000000 cf100 (AY.ly (fun i => bif Nat.beq i 9000 then 9000 else i) (vp9_truth_y1_c hx4) rfl rfl rfl rfl rfl rfl rfl)  (.c (.t rfl) <| .c (.t rfl) <| .n) rfl (.c rfl <| .n) rfl <| u (nkp (.t rfl)) <| u (fa ff62_8 (.t rfl)) <| st tf4 (.t rfl) rfl (.t rfl) rfl rfl rfl <| .nil _) rfl ?_
  refine .sq ?_
  refine .rg (u (mv (.t rfl)) <| u (nkp (.t rfl)) <| u (fa ff62_9 (.t rfl)) <| u (ld tf4 (.t rfl) rfl rfl) <| u (no (.t rfl)) <| .nil _) rfl ?_
  refine .bq h (.t rfl) (fun h => ?_) (fun h => ?_)
  · refine be h fun x5 hx5 h => ?_
    refine .rd mixed (u (mv (.t rfl)) <| u (mv (.t rfl)) <| u (mv (.t rfl)) <| u (nkp (.t rfl)) <| u (fa ff62_10 (.t rfl)) <| u (ld tf3 (.t rfl) rfl rfl) <| u (mfm (.t rfl)) <| u (nkm nm116_2 (.t rfl)) <| u (mv (.t rfl)) <| ciy 61000000 cm116_141 (AY.ly (fun i => bif Nat.beq i 9000 then 9000 else i) (vp9_writer_num_y1_c hx5) rfl rfl rfl rfl rfl rfl rfl) (.t rfl) (.c (.t rfl) <| .c (.i rfl) <| .n) rfl (.c rfl <| .n) rfl <| u (nkp (.t rfl)) <| u (fa ff62_10 (.t rfl)) <| st tf3 (.t rfl) rfl (.t rfl) rfl rfl rfl <| .nil _) (by kernel_rfl) rfl ?_
    obtain rfl := Option.some.inj h
    exact .rte (o := [(9000, some (.box [.ro (.list 1 (List.map e8 x5.2.k.bytes)), .ro (.int .i64 x5.2.k.many)])), (9001, some (.box [.ro (.bool box1.hasPic), .ro (.bool box1.wide), .ro (.int .i64 box1.pic), .ro (.bool box1.inter), .ro (.bool box1.hasLayer), .ro (.int .i64 x1.1), .ro (.int .i64 x3.1), .ro (.bool x2.1), .ro (.bool x4.1), .ro (.bool box1.flexible), .ro (.int .i64 x5.1), .ro (.list 1 (List.map (ei .i64) box1.refs)), .ro (.bool box1.begin), .ro (.bool box1.end_), .ro (.bool box1.hasScale), .ro (.int .i64 box1.scale.layers), .ro (.bool box1.scale.hasSizes), .ro (.list 2 (List.map cells_Size box1.scale.sizes)), .ro (.bool box1.scale.hasPics), .ro (.list 3 (List.map cells_Group box1.scale.pics)), .ro (.bool box1.notRef)]))]) Try.func101 (.n) (.c rfl (.c rfl .n)) rfl rfl (.c rfl (.c rfl .n)) rfl
  · refine .skp ?_
    obtain rfl := Option.some.inj h
    exact .rte (o := [(9000, some (.box [.ro (.list 1 (List.map e8 x4.2.k.bytes)), .ro (.int .i64 x4.2.k.many)])), (9001, some (.box [.ro (.bool box1.hasPic), .ro (.bool box1.wide), .ro (.int .i64 box1.pic), .ro (.bool box1.inter), .ro (.bool box1.hasLayer), .ro (.int .i64 x1.1), .ro (.int .i64 x3.1), .ro (.bool x2.1), .ro (.bool x4.1), .ro (.bool box1.flexible), .ro (.int .i64 box1.level), .ro (.list 1 (List.map (ei .i64) box1.refs)), .ro (.bool box1.begin), .ro (.bool box1.end_), .ro (.bool box1.hasScale), .ro (.int .i64 box1.scale.layers), .ro (.bool box1.scale.hasSizes), .ro (.list 2 (List.map cells_Size box1.scale.sizes)), .ro (.bool box1.scale.hasPics), .ro (.list 3 (List.map cells_Group box1.scale.pics)), .ro (.bool box1.notRef)]))]) Try.func101 (.n) (.c rfl (.c rfl .n)) rfl rfl (.c rfl (.c rfl .n)) rfl

theorem vp9_through_y1_c {z : Option Nat} {p_d : Vp9} {box0 : vp9_writer} {r : Vp9 × vp9_writer} (h : vp9_through_y1 z p_d box0 = some r) :
    AY Try.prog 70 [.ifc 116 (.ptr 9000 0), .ro (enc_Vp9 p_d)] [(9000, [.list 1 (List.map e8 box0.k.bytes), .int .i64 box0.k.many])] [0] (.ro (enc_Vp9 r.1)) [] [(0, .ifc 116 (.ptr 9000 0))] [(9000, [.list 1 (List.map e8 r.2.k.bytes), .int .i64 r.2.k.many])] := by
  refine AY.of Try.func70 rfl rfl fun w X M0 hM pv => ?_
  refine .kq (l := [(0, .ifc 116 (.ptr 9000 0)), (1, .ro (enc_Vp9 p_d))]) (o := [(9000, some (.box [.ro (.list 1 (List.map e8 box0.k.bytes)), .ro (.int .i64 box0.k.many)]))]) ?_ (.c rfl (.c rfl .n)) (.c rfl .n)
  unfold vp9_through_y1 at h
  refine .sq ?_
  refine .rg (bx 3 (.t rfl) rfl rfl <| al 4 zf62 rfl <| .nil _) rfl ?_
  refine .sq ?_
  refine .sq ?_
  refine .rg (u (fa ff62_0 (.t rfl)) <| u (fa ff62_3 (.t rfl)) <| u (fa ff62_4 (.t rfl)) <| u (fa ff62_9 (.t rfl)) <| u (fa ff62_12 (.t rfl)) <| u (fa ff62_13 (.t rfl)) <| u (fa ff62_14 (.t rfl)) <| u (fa ff62_16 (.t rfl)) <| bsp 16 pf148 (.c (.t rfl) <| .c (.t rfl) <| .c (.t rfl) <| .c (.t rfl) <| .c (.t rfl) <| .c (.t rfl) <| .c (.t rfl) <| .c (.t rfl) <| .n) rfl rfl rfl rfl <| u (lnv sf148 (.t rfl)) <| u (mv (.i rfl)) <| .nil _) rfl ?_
  refine .bl ?_
  refine .lp ?_
  refine .sq ?_
  refine .rg (u (bc (.t rfl) (.t rfl) rfl rfl) <| .nil _) rfl ?_
  refine .sq ?_
  refine .ct (.t rfl) rfl ?_
  refine .skp ?_
  refine .sq ?_
  refine .bl ?_
  refine .sq ?_
  refine .rg (u (ixb sf148 (.t rfl) (.t rfl) rfl rfl) <| u (ld tf147 (.t rfl) rfl rfl) <| u (asg (.t rfl)) <| .nil _) rfl ?_
  refine be h fun x1 hx1 h => ?_
  refine .rg (u (mv (.t rfl)) <| u (mv (.t rfl)) <| u (mv (.t rfl)) <| u (nkp (.t rfl)) <| u (ld tf4 (.t rfl) rfl rfl) <| cly 28000000 cf100 (AY.ly (fun i => bif Nat.beq i 9000 then 9000 else i) (vp9_truth_y1_c hx1) rfl rfl rfl rfl rfl rfl rfl)  (.c (.t rfl) <| .c (.t rfl) <| .n) rfl (.c rfl <| .n) rfl <| u (nkp (.t rfl)) <| st tf4 (.t rfl) rfl (.t rfl) rfl rfl rfl <| .nil _) rfl ?_
  refine .ib ?_
  refine .rg (u (bi (.t rfl) (.i rfl) rfl) <| u (mv (.t rfl)) <| .nil _) rfl ?_
  refine .il ?_
  refine .sq ?_
  refine .rg (u (bc (.t rfl) (.t rfl) rfl rfl) <| .nil _) rfl ?_
  refine .sq ?_
  refine .ct (.t rfl) rfl ?_
  refine .skp ?_
  refine .sq ?_
  refine .bl ?_
  refine .sq ?_
  refine .rg (u (ixb sf148 (.t rfl) (.t rfl) rfl rfl) <| u (ld tf147 (.t rfl) rfl rfl) <| u (asg (.t rfl)) <| .nil _) rfl ?_
  refine be h fun x2 hx2 h => ?_
  refine .rg (u (mv (.t rfl)) <| u (mv (.t rfl)) <| u (mv (.t rfl)) <| u (nkp (.t rfl)) <| u (ld tf4 (.t rfl) rfl rfl) <| cly 28000000 cf100 (AY.ly (fun i => bif Nat.beq i 9000 then 9000 else i) (vp9_truth_y1_c hx2) rfl rfl rfl rfl rfl rfl rfl)  (.c (.t rfl) <| .c (.t rfl) <| .n) rfl (.c rfl <| .n) rfl <| u (nkp (.t rfl)) <| st tf4 (.t rfl) rfl (.t rfl) rfl rfl rfl <| .nil _) rfl ?_
  refine .ib ?_
  refine .rg (u (bi (.t rfl) (.i rfl) rfl) <| u (mv (.t rfl)) <| .nil _) rfl ?_
  refine .il ?_
  refine .sq ?_
  refine .rg (u (bc (.t rfl) (.t rfl) rfl rfl) <| .nil _) rfl ?_
  refine .sq ?_
  refine .ct (.t rfl) rfl ?_
  refine .skp ?_
  refine .sq ?_
  refine .bl ?_
  refine .sq ?_
  refine .rg (u (ixb sf148 (.t rfl) (.t rfl) rfl rfl) <| u (ld tf147 (.t rfl) rfl rfl) <| u (asg (.t rfl)) <| .nil _) rfl ?_
  refine be h fun x3 hx3 h => ?_
  refine .rg (u (mv (.t rfl)) <| u (mv (.t rfl)) <| u (mv (.t rfl)) <| u (nkp (.t rfl)) <| u (ld tf4 (.t rfl) rfl rfl) <| cly 28000000 cf100 (AY.ly (fun i => bif Nat.beq i 9000 then 9000 else i) (vp9_truth_y1_c hx3) rfl rfl rfl rfl rfl rfl rfl)  (.c (.t rfl) <| .c (.t rfl) <| .n) rfl (.c rfl <| .n) rfl <| u (nkp (.t rfl)) <| st tf4 (.t rfl) rfl (.t rfl) rfl rfl rfl <| .nil _) rfl ?_
  refine .ib ?_
  refine .rg (u (bi (.t rfl) (.i rfl) rfl) <| u (mv (.t rfl)) <| .nil _) rfl ?_
  refine .il ?_
  refine .sq ?_
  refine .rg (u (bc (.t rfl) (.t rfl) rfl rfl) <| .nil _) rfl ?_
  refine .sq ?_
  refine .ct (.t rfl) rfl ?_
  refine .skp ?_
  refine .sq ?_
  refine .bl ?_
  refine .sq ?_
  refine .rg (u (ixb sf148 (.t rfl) (.t rfl) rfl rfl) <| u (ld tf147 (.t rfl) rfl rfl) <| u (asg (.t rfl)) <| .nil _) rfl ?_
  refine be h fun x4 hx4 h => ?_
  refine .rg (u (mv (.t rfl)) <| u (mv (.t rfl)) <| u (mv (.t rfl)) <| u (nkp (.t rfl)) <| u (ld tf4 (.t rfl) rfl rfl) <| cly 28000000 cf100 (AY.ly (fun i => bif Nat.beq i 9000 then 9000 else i) (vp9_truth_y1_c hx4) rfl rfl rfl rfl rfl rfl rfl)  (.c (.t rfl) <| .c (.t rfl) <| .n) rfl (.c rfl <| .n) rfl <| u (nkp (.t rfl)) <| st tf4 (.t rfl) rfl (.t rfl) rfl rfl rfl <| .nil _) rfl ?_
  refine .ib ?_
  refine .rg (u (bi (.t rfl) (.i rfl) rfl) <| u (mv (.t rfl)) <| .nil _) rfl ?_
  refine .il ?_
  refine .sq ?_
  refine .rg (u (bc (.t rfl) (.t rfl) rfl rfl) <| .nil _) rfl ?_
  refine .sq ?_
  refine .ct (.t rfl) rfl ?_
  refine .skp ?_
  refine .sq ?_
  refine .bl ?_
  refine .sq ?_
  refine .rg (u (ixb sf148 (.t rfl) (.t rfl) rfl rfl) <| u (ld tf147 (.t rfl) rfl rfl) <| u (asg (.t rfl)) <| .nil _) rfl ?_
  refine be h fun x5 hx5 h => ?_
  refine .rg (u (mv (.t rfl)) <| u (mv (.t rfl)) <| u (mv (.t rfl)) <| u (nkp (.t rfl)) <| u (ld tf4 (.t rfl) rfl rfl) <| cly 28000000 cf100 (AY.ly (fun i => bif Nat.beq i 9000 then 9000 else i) (vp9_truth_y1_c hx5) rfl rfl rfl rfl rfl rfl rfl)  (.c (.t rfl) <| .c (.t rfl) <| .n) rfl (.c rfl <| .n) rfl <| u (nkp (.t rfl)) <| st tf4 (.t rfl) rfl (.t rfl) rfl rfl rfl <| .nil _) rfl ?_
  refine .ib ?_
  refine .rg (u (bi (.t rfl) (.i rfl) rfl) <| u (mv (.t rfl)) <| .nil _) rfl ?_
  refine .il ?_
  refine .sq ?_
  refine .rg (u (bc (.t rfl) (.t rfl) rfl rfl) <| .nil _) rfl ?_
  refine .sq ?_
  refine .ct (.t rfl) rfl ?_
  refine .skp ?_
  refine .sq ?_
  refine .bl ?_
  refine .sq ?_
  refine .rg (u (ixb sf148 (.t rfl) (.t rfl) rfl rfl) <| u (ld tf147 (.t rfl) rfl rfl) <| u (asg (.t rfl)) <| .nil _) rfl ?_
  refine be h fun x6 hx6 h => ?_
  refine .rg (u (mv (.t rfl)) <| u (mv (.t rfl)) <| u (mv (.t rfl)) <| u (nkp (.t rfl)) <| u (ld tf4 (.t rfl) rfl rfl) <| cly 28000000 cf100 (AY.ly (fun i => bif Nat.beq i 9000 then 9000 else i) (vp9_truth_y1_c hx6) rfl rfl rfl rfl rfl rfl rfl)  (.c (.t rfl) <| .c (.t rfl) <| .n) rfl (.c rfl <| .n) rfl <| u (nkp (.t rfl)) <| st tf4 (.t rfl) rfl (.t rfl) rfl rfl rfl <| .nil _) rfl ?_
  refine .ib ?_
  refine .rg (u (bi (.t rfl) (.i rfl) rfl) <| u (mv (.t rfl)) <| .nil _) rfl ?_
  refine .il ?_
  refine .sq ?_
  refine .rg (u (bc (.t rfl) (.t rfl) rfl rfl) <| .nil _) rfl ?_
  refine .sq ?_
  refine .ct (.t rfl) rfl ?_
  refine .skp ?_
  refine .sq ?_
  refine .bl ?_
  refine .sq ?_
  refine .rg (u (ixb sf148 (.t rfl) (.t rfl) rfl rfl) <| u (ld tf147 (.t rfl) rfl rfl) <| u (asg (.t rfl)) <| .nil _) rfl ?_
  refine be h fun x7 hx7 h => ?_
  refine .rg (u (mv (.t rfl)) <| u (mv (.t rfl)) <| u (mv (.t rfl)) <| u (nkp (.t rfl)) <| u (ld tf4 (.t rfl) rfl rfl) <| cly 28000000 cf100 (AY.ly (fun i => bif Nat.beq i 9000 then 9000 else i) (vp9_truth_y1_c hx7) rfl rfl rfl rfl rfl rfl rfl)  (.c (.t rfl) <| .c (.t rfl) <| .n) rfl (.c rfl <| .n) rfl <| u (nkp (.t rfl)) <| st tf4 (.t rfl) rfl (.t rfl) rfl rfl rfl <| .nil _) rfl ?_
  refine .ib ?_
  refine .rg (u (bi (.t rfl) (.i rfl) rfl) <| u (mv (.t rfl)) <| .nil _) rfl ?_
  refine .il ?_
  refine .sq ?_
  refine .rg (u (bc (.t rfl) (.t rfl) rfl rfl) <| .nil _) rfl ?_
  refine .sq ?_
  refine .ct (.t rfl) rfl ?_
  refine .skp ?_
  refine .sq ?_
  refine .bl ?_
  refine .sq ?_
  refine .rg (u (ixb sf148 (.t rfl) (.t rfl) rfl rfl) <| u (ld tf147 (.t rfl) rfl rfl) <| u (asg (.t rfl)) <| .nil _) rfl ?_
  refine be h fun x8 hx8 h => ?_
  refine .rg (u (mv (.t rfl)) <| u (mv (.t rfl)) <| u (mv (.t rfl)) <| u (nkp (.t rfl)) <| u (ld tf4 (.t rfl) rfl rfl) <| cly 28000000 cf100 (AY.ly (fun i => bif Nat.beq i 9000 then 9000 else i) (vp9_truth_y1_c hx8) rfl rfl rfl rfl rfl rfl rfl)  (.c (.t rfl) <| .c (.t rfl) <| .n) rfl (.c rfl <| .n) rfl <| u (nkp (.t rfl)) <| st tf4 (.t rfl) rfl (.t rfl) rfl rfl rfl <| .nil _) rfl ?_
  refine .ib ?_
  refine .rg (u (bi (.t rfl) (.i rfl) rfl) <| u (mv (.t rfl)) <| .nil _) rfl ?_
  refine .il ?_
  refine .sq ?_
  refine .rg (u (bc (.t rfl) (.t rfl) rfl rfl) <| .nil _) rfl ?_
  refine .sq ?_
  refine .cf (.t rfl) rfl ?_
  refine .xt rfl ?_
  refine .sq ?_
  refine .sq ?_
  refine .rg (u (fa ff62_0 (.t rfl)) <| u (ld tf4 (.t rfl) rfl rfl) <| .nil _) rfl ?_
  refine .jq (t := some r) (fun (a : Vp9 × vp9_writer) => ⟨[(0, .ifc 116 (.ptr 9000 0)), (3, .ptr 3 0), (4, .ptr 4 0)], [(3, some (.box [.ro (.bool a.1.hasPic), .ro (.bool a.1.wide), .ro (.int .i64 a.1.pic), .ro (.bool a.1.inter), .ro (.bool a.1.hasLayer), .ro (.int .i64 a.1.tid), .ro (.int .i64 a.1.sid), .ro (.bool a.1.up), .ro (.bool a.1.depends), .ro (.bool a.1.flexible), .ro (.int .i64 a.1.level), .ro (.list 1 (List.map (ei .i64) a.1.refs)), .ro (.bool a.1.begin), .ro (.bool a.1.end_), .ro (.bool a.1.hasScale), .ro (.int .i64 a.1.scale.layers), .ro (.bool a.1.scale.hasSizes), .ro (.list 2 (List.map cells_Size a.1.scale.sizes)), .ro (.bool a.1.scale.hasPics), .ro (.list 3 (List.map cells_Group a.1.scale.pics)), .ro (.bool a.1.notRef)])), (4, some (.box [.ro (.bool false), .ro (.bool false), .ro (.int .i64 0), .ro (.bool false), .ro (.bool false), .ro (.int .i64 0), .ro (.int .i64 0), .ro (.bool false), .ro (.bool false), .ro (.bool false), .ro (.int .i64 0), .ro (.list 1 (List.map (ei .i64) [])), .ro (.bool false), .ro (.bool false), .ro (.bool false), .ro (.int .i64 0), .ro (.bool false), .ro (.list 2 (List.map cells_Size [])), .ro (.bool false), .ro (.list 3 (List.map cells_Group [])), .ro (.bool false)])), (9000, some (.box [.ro (.list 1 (List.map e8 a.2.k.bytes)), .ro (.int .i64 a.2.k.many)]))]⟩) (fun (a : Vp9 × vp9_writer) => vp9_through_y1_j1 z a.1 a.2) ?_ (fun J1 => ?_)
  · rintro ⟨v9, v10⟩ h
    replace h : vp9_through_y1_j1 z v9 v10 = _ := h
    unfold vp9_through_y1_j1 at h
    refine .sq ?_
    refine .sq ?_
    refine .rg (u (fa ff62_4 (.t rfl)) <| u (ld tf4 (.t rfl) rfl rfl) <| .nil _) rfl ?_
    refine .jq (t := some r) (fun (a : Vp9 × vp9_writer) => ⟨[(0, .ifc 116 (.ptr 9000 0)), (3, .ptr 3 0), (4, .ptr 4 0)], [(3, some (.box [.ro (.bool a.1.hasPic), .ro (.bool a.1.wide), .ro (.int .i64 a.1.pic), .ro (.bool a.1.inter), .ro (.bool a.1.hasLayer), .ro (.int .i64 a.1.tid), .ro (.int .i64 a.1.sid), .ro (.bool a.1.up), .ro (.bool a.1.depends), .ro (.bool a.1.flexible), .ro (.int .i64 a.1.level), .ro (.list 1 (List.map (ei .i64) a.1.refs)), .ro (.bool a.1.begin), .ro (.bool a.1.end_), .ro (.bool a.1.hasScale), .ro (.int .i64 a.1.scale.layers), .ro (.bool a.1.scale.hasSizes), .ro (.list 2 (List.map cells_Size a.1.scale.sizes)), .ro (.bool a.1.scale.hasPics), .ro (.list 3 (List.map cells_Group a.1.scale.pics)), .ro (.bool a.1.notRef)])), (4, some (.box [.ro (.bool false), .ro (.bool false), .ro (.int .i64 0), .ro (.bool false), .ro (.bool false), .ro (.int .i64 0), .ro (.int .i64 0), .ro (.bool false), .ro (.bool false), .ro (.bool false), .ro (.int .i64 0), .ro (.list 1 (List.map (ei .i64) [])), .ro (.bool false), .ro (.bool false), .ro (.bool false), .ro (.int .i64 0), .ro (.bool false), .ro (.list 2 (List.map cells_Size [])), .ro (.bool false), .ro (.list 3 (List.map cells_Group [])), .ro (.bool false)])), (9000, some (.box [.ro (.list 1 (List.map e8 a.2.k.bytes)), .ro (.int .i64 a.2.k.many)]))]⟩) (fun (a : Vp9 × vp9_writer) => vp9_through_y1_j2 z a.1 a.2) ?_ (fun J2 => ?_)
    · rintro ⟨v11, v12⟩ h
      replace h : vp9_through_y1_j2 z v11 v12 = _ := h
      unfold vp9_through_y1_j2 at h
      refine .sq ?_
      refine .sq ?_
      refine .rg (u (fa ff62_9 (.t rfl)) <| u (ld tf4 (.t rfl) rfl rfl) <| u (mv (.t rfl)) <| gd rfl rfl (fun hB => fa ff62_3 (.t rfl)) <| gd rfl rfl (fun hB => ld tf4 (.m rfl hB) rfl rfl) <| u (pka (.t rfl) (.t rfl)) <| .nil _) rfl ?_
      refine .jq (t := some r) (fun (a : Vp9 × vp9_writer) => ⟨[(0, .ifc 116 (.ptr 9000 0)), (3, .ptr 3 0), (4, .ptr 4 0)], [(3, some (.box [.ro (.bool a.1.hasPic), .ro (.bool a.1.wide), .ro (.int .i64 a.1.pic), .ro (.bool a.1.inter), .ro (.bool a.1.hasLayer), .ro (.int .i64 a.1.tid), .ro (.int .i64 a.1.sid), .ro (.bool a.1.up), .ro (.bool a.1.depends), .ro (.bool a.1.flexible), .ro (.int .i64 a.1.level), .ro (.list 1 (List.map (ei .i64) a.1.refs)), .ro (.bool a.1.begin), .ro (.bool a.1.end_), .ro (.bool a.1.hasScale), .ro (.int .i64 a.1.scale.layers), .ro (.bool a.1.scale.hasSizes), .ro (.list 2 (List.map cells_Size a.1.scale.sizes)), .ro (.bool a.1.scale.hasPics), .ro (.list 3 (List.map cells_Group a.1.scale.pics)), .ro (.bool a.1.notRef)])), (4, some (.box [.ro (.bool false), .ro (.bool false), .ro (.int .i64 0), .ro (.bool false), .ro (.bool false), .ro (.int .i64 0), .ro (.int .i64 0), .ro (.bool false), .ro (.bool false), .ro (.bool false), .ro (.int .i64 0), .ro (.list 1 (List.map (ei .i64) [])), .ro (.bool false), .ro (.bool false), .ro (.bool false), .ro (.int .i64 0), .ro (.bool false), .ro (.list 2 (List.map cells_Size [])), .ro (.bool false), .ro (.list 3 (List.map cells_Group [])), .ro (.bool false)])), (9000, some (.box [.ro (.list 1 (List.map e8 a.2.k.bytes)), .ro (.int .i64 a.2.k.many)]))]⟩) (fun (a : Vp9 × vp9_writer) => vp9_through_y1_j3 z a.1 a.2) ?_ (fun J3 => ?_)
      · rintro ⟨v13, v14⟩ h
        replace h : vp9_through_y1_j3 z v13 v14 = _ := h
        unfold vp9_through_y1_j3 at h
        refine .sq ?_
        refine .sq ?_
        refine .rg (u (fa ff62_14 (.t rfl)) <| u (ld tf4 (.t rfl) rfl rfl) <| .nil _) rfl ?_
        refine .jq (t := some r) (fun (a : Vp9 × vp9_writer) => ⟨[(0, .ifc 116 (.ptr 9000 0)), (3, .ptr 3 0), (4, .ptr 4 0)], [(3, some (.box [.ro (.bool a.1.hasPic), .ro (.bool a.1.wide), .ro (.int .i64 a.1.pic), .ro (.bool a.1.inter), .ro (.bool a.1.hasLayer), .ro (.int .i64 a.1.tid), .ro (.int .i64 a.1.sid), .ro (.bool a.1.up), .ro (.bool a.1.depends), .ro (.bool a.1.flexible), .ro (.int .i64 a.1.level), .ro (.list 1 (List.map (ei .i64) a.1.refs)), .ro (.bool a.1.begin), .ro (.bool a.1.end_), .ro (.bool a.1.hasScale), .ro (.int .i64 a.1.scale.layers), .ro (.bool a.1.scale.hasSizes), .ro (.list 2 (List.map cells_Size a.1.scale.sizes)), .ro (.bool a.1.scale.hasPics), .ro (.list 3 (List.map cells_Group a.1.scale.pics)), .ro (.bool a.1.notRef)])), (4, some (.box [.ro (.bool false), .ro (.bool false), .ro (.int .i64 0), .ro (.bool false), .ro (.bool false), .ro (.int .i64 0), .ro (.int .i64 0), .ro (.bool false), .ro (.bool false), .ro (.bool false), .ro (.int .i64 0), .ro (.list 1 (List.map (ei .i64) [])), .ro (.bool false), .ro (.bool false), .ro (.bool false), .ro (.int .i64 0), .ro (.bool false), .ro (.list 2 (List.map cells_Size [])), .ro (.bool false), .ro (.list 3 (List.map cells_Group [])), .ro (.bool false)])), (9000, some (.box [.ro (.list 1 (List.map e8 a.2.k.bytes)), .ro (.int .i64 a.2.k.many)]))]⟩) (fun (a : Vp9 × vp9_writer) => vp9_through_y1_j4 z a.1 a.2) ?_ (fun J4 => ?_)
        · rintro ⟨v15, v16⟩ h
          replace h : vp9_through_y1_j4 z v15 v16 = _ := h
          unfold vp9_through_y1_j4 at h
          refine .sq ?_
          refine .rg (u (ld tf62 (.t rfl) rfl rfl) <| st tf62 (.t rfl) rfl (.t rfl) rfl rfl rfl <| .nil _) rfl ?_
          obtain rfl := Option.some.inj h
          exact .rtx (o := [(9000, some (.box [.ro (.list 1 (List.map e8 v16.k.bytes)), .ro (.int .i64 v16.k.many)]))]) Try.func70 (.c tf62 rfl rfl rfl <| .n) (.c rfl .n) rfl rfl (.c rfl .n) rfl
        refine .bq h (.t rfl) (fun h => ?_) (fun h => ?_)
        · refine be h fun x17 hx17 h => ?_
          refine .rg (u (mv (.t rfl)) <| u (fa ff62_15 (.t rfl)) <| u (ld tf60 (.t rfl) rfl rfl) <| cly 66000000 cf103 (AY.ly (fun i => bif Nat.beq i 9000 then 9000 else i) (vp9_scale_y1_c hx17) rfl rfl rfl rfl rfl rfl rfl)  (.c (.t rfl) <| .c (.t rfl) <| .n) rfl (.c rfl <| .n) rfl <| u (fa ff62_15 (.t rfl)) <| st tf60 (.t rfl) rfl (.t rfl) rfl rfl rfl <| .nil _) rfl ?_
          exact .kq (J4 ({ v13 with scale := x17.1 }, x17.2) h) (.c rfl (.c rfl (.c rfl .n))) (.c rfl (.c rfl (.c rfl .n)))
        · refine .skp ?_
          exact .kq (J4 (v13, v14) h) (.c rfl (.c rfl (.c rfl .n))) (.c rfl (.c rfl (.c rfl .n)))
      refine .bq h (.t rfl) (fun h => ?_) (fun h => ?_)
      · refine be h fun x18 hx18 h => ?_
        refine .rg (u (mv (.t rfl)) <| u (fa ff62_11 (.t rfl)) <| u (ld tf22 (.t rfl) rfl rfl) <| cly 59000000 cf102 (AY.ly (fun i => bif Nat.beq i 9000 then 9000 else i) (vp9_references_y1_c hx18) rfl rfl rfl rfl rfl rfl rfl)  (.c (.t rfl) <| .c (.t rfl) <| .n) rfl (.c rfl <| .n) rfl <| u (fa ff62_11 (.t rfl)) <| st tf22 (.t rfl) rfl (.t rfl) rfl rfl rfl <| .nil _) rfl ?_
        refine .fz 59008000 rfl ?_
        exact .kq (J3 ({ v11 with refs := x18.1 }, x18.2) h) (.c rfl (.c rfl (.c rfl .n))) (.c rfl (.c rfl (.c rfl .n)))
      · refine .skp ?_
        exact .kq (J3 (v11, v12) h) (.c rfl (.c rfl (.c rfl .n))) (.c rfl (.c rfl (.c rfl .n)))
    refine .bq h (.t rfl) (fun h => ?_) (fun h => ?_)
    · refine be h fun x19 hx19 h => ?_
      refine .rg (u (mv (.t rfl)) <| cly 49000000 cf101 (AY.ly (fun i => bif Nat.beq i 9001 then 3 else bif Nat.beq i 9000 then 9000 else i) (vp9_layers_y1_c hx19) rfl rfl rfl rfl rfl rfl rfl)  (.c (.t rfl) <| .c (.t rfl) <| .n) rfl (.c rfl <| .c rfl <| .n) rfl <| .nil _) rfl ?_
      exact .kq (J2 (x19.2, x19.1) h) (.c rfl (.c rfl (.c rfl .n))) (.c rfl (.c rfl (.c rfl .n)))
    · refine .skp ?_
      exact .kq (J2 (v9, v10) h) (.c rfl (.c rfl (.c rfl .n))) (.c rfl (.c rfl (.c rfl .n)))
  refine .bq h (.t rfl) (fun h => ?_) (fun h => ?_)
  · refine .sq ?_
    refine be h fun x20 hx20 h => ?_
    refine .rg (u (mv (.t rfl)) <| u (fa ff62_1 (.t rfl)) <| u (ld tf4 (.t rfl) rfl rfl) <| cly 36000000 cf100 (AY.ly (fun i => bif Nat.beq i 9000 then 9000 else i) (vp9_truth_y1_c hx20) rfl rfl rfl rfl rfl rfl rfl)  (.c (.t rfl) <| .c (.t rfl) <| .n) rfl (.c rfl <| .n) rfl <| u (fa ff62_1 (.t rfl)) <| st tf4 (.t rfl) rfl (.t rfl) rfl rfl rfl <| .nil _) rfl ?_
    refine .sq ?_
    refine .rg (u (asg (.i rfl)) <| .nil _) rfl ?_
    refine .sq ?_
    refine .sq ?_
    refine .rg (u (fa ff62_1 (.t rfl)) <| u (ld tf4 (.t rfl) rfl rfl) <| .nil _) rfl ?_
    refine .jq (t := some r) (fun (a : Int) => ⟨[(0, .ifc 116 (.ptr 9000 0)), (3, .ptr 3 0), (4, .ptr 4 0), (7, .ro (.int .i64 a))], [(3, some (.box [.ro (.bool x1.1), .ro (.bool x20.1), .ro (.int .i64 p_d.pic), .ro (.bool x2.1), .ro (.bool x3.1), .ro (.int .i64 p_d.tid), .ro (.int .i64 p_d.sid), .ro (.bool p_d.up), .ro (.bool p_d.depends), .ro (.bool x4.1), .ro (.int .i64 p_d.level), .ro (.list 1 (List.map (ei .i64) p_d.refs)), .ro (.bool x5.1), .ro (.bool x6.1), .ro (.bool x7.1), .ro (.int .i64 p_d.scale.layers), .ro (.bool p_d.scale.hasSizes), .ro (.list 2 (List.map cells_Size p_d.scale.sizes)), .ro (.bool p_d.scale.hasPics), .ro (.list 3 (List.map cells_Group p_d.scale.pics)), .ro (.bool x8.1)])), (4, some (.box [.ro (.bool false), .ro (.bool false), .ro (.int .i64 0), .ro (.bool false), .ro (.bool false), .ro (.int .i64 0), .ro (.int .i64 0), .ro (.bool false), .ro (.bool false), .ro (.bool false), .ro (.int .i64 0), .ro (.list 1 (List.map (ei .i64) [])), .ro (.bool false), .ro (.bool false), .ro (.bool false), .ro (.int .i64 0), .ro (.bool false), .ro (.list 2 (List.map cells_Size [])), .ro (.bool false), .ro (.list 3 (List.map cells_Group [])), .ro (.bool false)])), (9000, some (.box [.ro (.list 1 (List.map e8 x20.2.k.bytes)), .ro (.int .i64 x20.2.k.many)]))]⟩) (fun (a : Int) => vp9_through_y1_j5 z p_d x1 x2 x3 x4 x5 x6 x7 x8 x20 a) ?_ (fun J5 => ?_)
    · intro v21 h
      replace h : vp9_through_y1_j5 z p_d x1 x2 x3 x4 x5 x6 x7 x8 x20 v21 = _ := h
      unfold vp9_through_y1_j5 at h
      refine be h fun x22 hx22 h => ?_
      refine .rg (u (mv (.t rfl)) <| u (fa ff62_2 (.t rfl)) <| u (ld tf3 (.t rfl) rfl rfl) <| u (mv (.t rfl)) <| ciy 44000000 cm116_141 (AY.ly (fun i => bif Nat.beq i 9000 then 9000 else i) (vp9_writer_num_y1_c hx22) rfl rfl rfl rfl rfl rfl rfl) (.t rfl) (.c (.t rfl) <| .c (.t rfl) <| .n) rfl (.c rfl <| .n) rfl <| u (fa ff62_2 (.t rfl)) <| st tf3 (.t rfl) rfl (.t rfl) rfl rfl rfl <| .nil _) rfl ?_
      exact .kq (J1 ((Vp9.mk x1.1 x20.1 x22.1 x2.1 x3.1 p_d.tid p_d.sid p_d.up p_d.depends x4.1 p_d.level p_d.refs x5.1 x6.1 x7.1 p_d.scale x8.1), x22.2) h) (.c rfl (.c rfl (.c rfl .n))) (.c rfl (.c rfl (.c rfl .n)))
    refine .bq h (.t rfl) (fun h => ?_) (fun h => ?_)
    · refine .rg (u (asg (.i rfl)) <| .nil _) rfl ?_
      exact .kq (J5 15 h) (.c rfl (.c rfl (.c rfl (.c rfl .n)))) (.c rfl (.c rfl (.c rfl .n)))
    · refine .skp ?_
      exact .kq (J5 7 h) (.c rfl (.c rfl (.c rfl (.c rfl .n)))) (.c rfl (.c rfl (.c rfl .n)))
  · refine .skp ?_
    exact .kq (J1 ({ p_d with hasPic := x1.1, inter := x2.1, hasLayer := x3.1, flexible := x4.1, begin := x5.1, end_ := x6.1, hasScale := x7.1, notRef := x8.1 }, x8.2) h) (.c rfl (.c rfl (.c rfl .n))) (.c rfl (.c rfl (.c rfl .n)))

theorem vp9_Write_c {z : Option Nat} {p_d : Vp9} {r : List Int × Int} (h : vp9_Write z p_d = some r) :
    AC Try.prog 30 [.ro (enc_Vp9 p_d)] (.ro (.tup [.list 1 (List.map e8 r.1), .int .i64 r.2])) [] := by
  refine AC.of Try.func30 rfl rfl fun w M0 hM => ?_
  unfold vp9_Write at h
  refine .sq ?_
  refine .rg (bx 1 (.t rfl) rfl rfl <| u (asg (.n (sz := 1) (F := e8))) <| u (asg (.i rfl)) <| .nil _) rfl ?_
  refine .sq ?_
  refine .sq ?_
  refine be h fun x1 hx1 h => ?_
  refine .rg (u (ld tf62 (.t rfl) rfl rfl) <| cl [] cf39 (vp9_Right_c hx1) (.c (.t rfl) <| .n) (.inl rfl) <| u (no (.t rfl)) <| .nil _) rfl ?_
  refine .bq h (.t rfl) (fun h => ?_) (fun h => ?_)
  · refine .sq ?_
    refine .rg (u (asg (.n (sz := 1) (F := e8))) <| u (asg (.i rfl)) <| .nil _) rfl ?_
    obtain rfl := Option.some.inj h
    exact .rt Try.func30 (.t rfl <| .t rfl <| .n) .n rfl rfl
  · refine .skp ?_
    refine .sq ?_
    refine .rg (u (bd bf118 zf118 (.n) rfl) <| bx 9 (.t rfl) rfl rfl <| u (asg (.t rfl)) <| .nil _) rfl ?_
    refine .sq ?_
    refine be h fun x2 hx2 h => ?_
    refine .rg (u (mv (.t rfl)) <| u (mkx pc116 (.t rfl)) <| u (ld tf62 (.t rfl) rfl rfl) <| cly 14000000 cf70 (AY.ly (fun i => bif Nat.beq i 9000 then 9 else i) (vp9_through_y1_c hx2) rfl rfl rfl rfl rfl rfl rfl)  (.c (.t rfl) <| .c (.t rfl) <| .n) rfl (.c rfl <| .n) rfl <| .nil _) rfl ?_
    refine .sq ?_
    refine .rg (u (mv (.t rfl)) <| u (nkp (.t rfl)) <| u (fa ff118_0 (.t rfl)) <| u (fa ff29_0 (.t rfl)) <| u (ld tf27 (.t rfl) rfl rfl) <| u (asg (.t rfl)) <| u (asg (.i rfl)) <| .nil _) rfl ?_
    obtain rfl := Option.some.inj h
    exact .rt Try.func30 (.t rfl <| .t rfl <| .n) .n rfl rfl

theorem bits_Start_c (b : List Int) :
    AC Try.prog 26 [.ro (.list 1 (List.map e8 b))] (.ro (enc_GBits (bits_Start b))) [] := by
  obtain ⟨r, h⟩ : ∃ r, bits_Start b = r := ⟨_, rfl⟩
  rw [h]
  refine AC.of Try.func26 rfl rfl fun w M0 hM => ?_
  unfold bits_Start at h
  refine .sq ?_
  refine .rg (al 2 zf32 rfl <| .nil _) rfl ?_
  refine .sq ?_
  refine .rg (u (mv (.t rfl)) <| u (bd bf32 zf32 (.c rfl (.t rfl) rfl rfl rfl <| .n) rfl) <| st tf32 (.t rfl) rfl (.t rfl) rfl rfl rfl <| .nil _) rfl ?_
  subst h
  exact .rt Try.func26 (.c tf32 rfl rfl rfl <| .n) .n rfl rfl

theorem vp9_reader_num_y1_c {z : Option Nat} {p1 : Int} {width : Int} {box0 : vp9_reader} {r : Int × vp9_reader} (h : vp9_reader_num_y1 z p1 width box0 = some r) :
    AY Try.prog 144 [.ptr 9000 0, .ro (.int .i64 p1), .ro (.int .i64 width)] [(9000, [.list 1 (List.map e8 box0.c.bytes), .int .i64 box0.c.at_, .int .i64 box0.c.err])] [0] (.ro (.int .i64 r.1)) [] [(0, .ptr 9000 0)] [(9000, [.list 1 (List.map e8 r.2.c.bytes), .int .i64 r.2.c.at_, .int .i64 r.2.c.err])] := by
  refine AY.of Try.func144 rfl rfl fun w X M0 hM pv => ?_
  refine .kq (l := [(0, .ptr 9000 0), (1, .ro (.int .i64 p1)), (2, .ro (.int .i64 width))]) (o := [(9000, some (.box [.ro (.list 1 (List.map e8 box0.c.bytes)), .ro (.int .i64 box0.c.at_), .ro (.int .i64 box0.c.err)]))]) ?_ (.c rfl (.c rfl (.c rfl .n))) (.c rfl .n)
  unfold vp9_reader_num_y1 at h
  refine .sq ?_
  refine .rg (u (asg (.i rfl)) <| .nil _) rfl ?_
  refine .sq ?_
  refine .rg (u (asg (.i rfl)) <| .nil _) rfl ?_
  refine .sq ?_
  refine be h fun x1 hx1 h => ?_
  refine .rg (u (mv (.t rfl)) <| u (mv (.t rfl)) <| u (nkp (.t rfl)) <| u (fa ff123_0 (.t rfl)) <| u (ld tf32 (.t rfl) rfl rfl) <| u (mv (.t rfl)) <| cl [] cf25 (bits_Get_c hx1) (.c (.t rfl) <| .c (.t rfl) <| .n) (.inl rfl) <| u (mv (.t rfl)) <| u (ex (.t rfl) rfl rfl) <| u (ex (.t rfl) rfl rfl) <| u (nkp (.t rfl)) <| u (fa ff123_0 (.t rfl)) <| st tf32 (.t rfl) rfl (.t rfl) rfl rfl rfl <| u (asg (.t rfl)) <| .nil _) rfl ?_
  refine .sq ?_
  refine .rg (u (mv (.t rfl)) <| u (cv cv50_3 (.t rfl)) <| u (asg (.t rfl)) <| .nil _) rfl ?_
  obtain rfl := Option.some.inj h
  exact .rtx (o := [(9000, some (.box [.ro (.list 1 (List.map e8 x1.1.bytes)), .ro (.int .i64 x1.1.at_), .ro (.int .i64 x1.1.err)]))]) Try.func144 (.t rfl <| .n) (.c rfl .n) rfl rfl (.c rfl .n) rfl

theorem vp9_truth_y2_c {z : Option Nat} {is_ : Bool} {box0 : vp9_reader} {r : Bool × vp9_reader} (h : vp9_truth_y2 z is_ box0 = some r) :
    AY Try.prog 100 [.ifc 121 (.ptr 9000 0), .ro (.bool is_)] [(9000, [.list 1 (List.map e8 box0.c.bytes), .int .i64 box0.c.at_, .int .i64 box0.c.err])] [0] (.ro (.bool r.1)) [] [(0, .ifc 121 (.ptr 9000 0))] [(9000, [.list 1 (List.map e8 r.2.c.bytes), .int .i64 r.2.c.at_, .int .i64 r.2.c.err])] := by
  refine AY.of Try.func100 rfl rfl fun w X M0 hM pv => ?_
  refine .kq (l := [(0, .ifc 121 (.ptr 9000 0)), (1, .ro (.bool is_))]) (o := [(9000, some (.box [.ro (.list 1 (List.map e8 box0.c.bytes)), .ro (.int .i64 box0.c.at_), .ro (.int .i64 box0.c.err)]))]) ?_ (.c rfl (.c rfl .n)) (.c rfl .n)
  unfold vp9_truth_y2 at h
  refine .sq ?_
  refine .rg (u (asg .b) <| .nil _) rfl ?_
  refine .sq ?_
  refine .rg (u (asg (.i rfl)) <| .nil _) rfl ?_
  refine .sq ?_
  refine .sq ?_
  refine .rg (u (mv (.t rfl)) <| .nil _) rfl ?_
  refine .jq (t := some r) (fun (a : Int) => ⟨[(0, .ifc 121 (.ptr 9000 0)), (5, .ro (.int .i64 a))], [(9000, some (.box [.ro (.list 1 (List.map e8 box0.c.bytes)), .ro (.int .i64 box0.c.at_), .ro (.int .i64 box0.c.err)]))]⟩) (fun (a : Int) => vp9_truth_y2_j1 z box0 a) ?_ (fun J1 => ?_)
  · intro v1 h
    replace h : vp9_truth_y2_j1 z box0 v1 = _ := h
    unfold vp9_truth_y2_j1 at h
    refine .sq ?_
    refine be h fun x2 hx2 h => ?_
    refine .rg (u (mv (.t rfl)) <| u (mv (.t rfl)) <| ciy 10000000 cm121_144 (AY.ly (fun i => bif Nat.beq i 9000 then 9000 else i) (vp9_reader_num_y1_c hx2) rfl rfl rfl rfl rfl rfl rfl) (.t rfl) (.c (.t rfl) <| .c (.i rfl) <| .n) rfl (.c rfl <| .n) rfl <| u (bc (.t rfl) (.i rfl) rfl rfl) <| u (asg (.t rfl)) <| .nil _) rfl ?_
    obtain rfl := Option.some.inj h
    exact .rtx (o := [(9000, some (.box [.ro (.list 1 (List.map e8 x2.2.c.bytes)), .ro (.int .i64 x2.2.c.at_), .ro (.int .i64 x2.2.c.err)]))]) Try.func100 (.t rfl <| .n) (.c rfl .n) rfl rfl (.c rfl .n) rfl
  refine .bq h (.t rfl) (fun h => ?_) (fun h => ?_)
  · refine .rg (u (asg (.i rfl)) <| .nil _) rfl ?_
    exact .kq (J1 1 h) (.c rfl (.c rfl .n)) (.c rfl .n)
  · refine .skp ?_
    exact .kq (J1 0 h) (.c rfl (.c rfl .n)) (.c rfl .n)

theorem vp9_reader_failed_y1_c {z : Option Nat} {box0 : vp9_reader} {r : Bool × vp9_reader} (h : vp9_reader_failed_y1 z box0 = some r) :
    AY Try.prog 143 [.ptr 9000 0] [(9000, [.list 1 (List.map e8 box0.c.bytes), .int .i64 box0.c.at_, .int .i64 box0.c.err])] [0] (.ro (.bool r.1)) [] [(0, .ptr 9000 0)] [(9000, [.list 1 (List.map e8 r.2.c.bytes), .int .i64 r.2.c.at_, .int .i64 r.2.c.err])] := by
  refine AY.of Try.func143 rfl rfl fun w X M0 hM pv => ?_
  refine .kq (l := [(0, .ptr 9000 0)]) (o := [(9000, some (.box [.ro (.list 1 (List.map e8 box0.c.bytes)), .ro (.int .i64 box0.c.at_), .ro (.int .i64 box0.c.err)]))]) ?_ (.c rfl .n) (.c rfl .n)
  unfold vp9_reader_failed_y1 at h
  refine .sq ?_
  refine .rg (u (asg .b) <| .nil _) rfl ?_
  refine .sq ?_
  refine .rg (u (mv (.t rfl)) <| u (nkp (.t rfl)) <| u (fa ff123_0 (.t rfl)) <| u (fa ff32_2 (.t rfl)) <| u (ld tf30 (.t rfl) rfl rfl) <| u (bc (.t rfl) (.i rfl) rfl rfl) <| u (asg (.t rfl)) <| .nil _) rfl ?_
  obtain rfl := Option.some.inj h
  exact .rtx (o := [(9000, some (.box [.ro (.list 1 (List.map e8 box0.c.bytes)), .ro (.int .i64 box0.c.at_), .ro (.int .i64 box0.c.err)]))]) Try.func143 (.t rfl <| .n) (.c rfl .n) rfl rfl (.c rfl .n) rfl

theorem vp9_picture_1_y2_c {z : Option Nat} {n : Int} {box0 : vp9_reader} {r : Int × vp9_reader} (h : vp9_picture_1_y2 z n box0 = some r) :
    AY Try.prog 123 [.ro (.int .i64 n), .cptr [.ifc 121 (.ptr 9000 0)]] [(9000, [.list 1 (List.map e8 box0.c.bytes), .int .i64 box0.c.at_, .int .i64 box0.c.err])] [1] (.ro (.int .i64 r.1)) [] [(1, .cptr [.ifc 121 (.ptr 9000 0)])] [(9000, [.list 1 (List.map e8 r.2.c.bytes), .int .i64 r.2.c.at_, .int .i64 r.2.c.err])] := by
  refine AY.of Try.func123 rfl rfl fun w X M0 hM pv => ?_
  refine .kq (l := [(0, .ro (.int .i64 n)), (1, .cptr [.ifc 121 (.ptr 9000 0)])]) (o := [(9000, some (.box [.ro (.list 1 (List.map e8 box0.c.bytes)), .ro (.int .i64 box0.c.at_), .ro (.int .i64 box0.c.err)]))]) ?_ (.c rfl (.c rfl .n)) (.c rfl .n)
  unfold vp9_picture_1_y2 at h
  refine .sq ?_
  refine .rg (u (asg (.i rfl)) <| .nil _) rfl ?_
  refine .sq ?_
  refine be h fun x1 hx1 h => ?_
  refine .rg (u (lc tf146 (.t rfl) rfl) <| u (mv (.t rfl)) <| ciy 7000000 cm121_144 (AY.ly (fun i => bif Nat.beq i 9000 then 9000 else i) (vp9_reader_num_y1_c hx1) rfl rfl rfl rfl rfl rfl rfl) (.t rfl) (.c (.t rfl) <| .c (.i rfl) <| .n) rfl (.c rfl <| .n) rfl <| u (asg (.t rfl)) <| .nil _) rfl ?_
  obtain rfl := Option.some.inj h
  exact .rtx (o := [(9000, some (.box [.ro (.list 1 (List.map e8 x1.2.c.bytes)), .ro (.int .i64 x1.2.c.at_), .ro (.int .i64 x1.2.c.err)]))]) Try.func123 (.t rfl <| .n) (.c rfl .n) rfl rfl (.c rfl .n) rfl

theorem vp9_gone_int_y2_c {z : Option Nat} {l : List Int} {many : Int} {box0 : vp9_reader} {r : List Int × vp9_reader} (h : vp9_gone_int_y2 z l many box0 = some r) :
    AY Try.prog 122 [.ifc 121 (.ptr 9000 0), .ro (.list 1 (List.map (ei .i64) l)), .ro (.int .i64 many), .fn (.func 123) [] [.cptr [.ifc 121 (.ptr 9000 0)]]] [(9000, [.list 1 (List.map e8 box0.c.bytes), .int .i64 box0.c.at_, .int .i64 box0.c.err])] [0, 3] (.own 8000) [(8000, .arr 3 1 (List.map (ei .i64) r.1))] [(0, .ifc 121 (.ptr 9000 0)), (3, .fn (.func 123) [] [.cptr [.ifc 121 (.ptr 9000 0)]])] [(9000, [.list 1 (List.map e8 r.2.c.bytes), .int .i64 r.2.c.at_, .int .i64 r.2.c.err])] := by
  refine AY.of Try.func122 rfl rfl fun w X M0 hM pv => ?_
  refine .kq (l := [(0, .ifc 121 (.ptr 9000 0)), (1, .ro (.list 1 (List.map (ei .i64) l))), (2, .ro (.int .i64 many)), (3, .fn (.func 123) [] [.cptr [.ifc 121 (.ptr 9000 0)]])]) (o := [(9000, some (.box [.ro (.list 1 (List.map e8 box0.c.bytes)), .ro (.int .i64 box0.c.at_), .ro (.int .i64 box0.c.err)]))]) ?_ (.c rfl (.c rfl (.c rfl (.c rfl .n)))) (.c rfl .n)
  unfold vp9_gone_int_y2 at h
  refine .sq ?_
  refine .rg (anm (ei .i64) 8 3 1 rfl rfl <| .nil _) rfl ?_
  refine .sq ?_
  refine .rg (anm (ei .i64) 9 3 1 rfl rfl <| .nil _) rfl ?_
  refine .sq ?_
  refine .sq ?_
  refine .rg (u (asg (.i rfl)) <| .nil _) rfl ?_
  refine .bl ?_
  unfold vp9_gone_int_y2_l1 at h
  refine .kq (.lo (fun (s : List Int × Int × vp9_reader) => ⟨[(0, .ifc 121 (.ptr 9000 0)), (1, .ro (.list 1 (List.map (ei .i64) l))), (2, .ro (.int .i64 many)), (3, .fn (.func 123) [] [.cptr [.ifc 121 (.ptr 9000 0)]]), (9, .own 9), (10, .ro (.int .i64 s.2.1))], [(9, some (.arr 3 1 (List.map (ei .i64) s.1))), (9000, some (.box [.ro (.list 1 (List.map e8 s.2.2.c.bytes)), .ro (.int .i64 s.2.2.c.at_), .ro (.int .i64 s.2.2.c.err)]))]⟩) h ?_) (.c rfl (.c rfl (.c rfl (.c rfl (.c rfl (.c rfl .n)))))) (.c rfl (.c rfl .n))
  rintro ⟨v1, v2, v3⟩ u1 h ih1 hx1
  replace h : vp9_gone_int_y2_s1 z l many v1 v2 v3 = _ := h
  unfold vp9_gone_int_y2_s1 at h
  refine .sq ?_
  refine .sq ?_
  rcases btf (cm .lss v2 many) with hs0 | hs0
  · replace h := ifT h hs0
    refine be h fun x4 hx4 h => ?_
    refine .rg (u (mv (.t rfl)) <| u (mv (.t rfl)) <| u (bc (.t rfl) (.t rfl) rfl rfl) <| u (mv (.t rfl)) <| gdk rfl rfl hs0 <| u (mv (.t rfl)) <| gdk rfl rfl hs0 <| ciy 18000000 cm121_143 (AY.ly (fun i => bif Nat.beq i 9000 then 9000 else i) (vp9_reader_failed_y1_c hx4) rfl rfl rfl rfl rfl rfl rfl) (.t rfl) (.n) rfl (.c rfl <| .n) rfl <| gdk rfl rfl hs0 <| u (no (.t rfl)) <| u (pkt hs0 (.t rfl) (.t rfl)) <| .nil _) rfl ?_
    refine .bq h (.t rfl) (fun h => ?_) (fun h => ?_)
    · refine .skp ?_
      refine .sq ?_
      refine .bl ?_
      refine .sq ?_
      refine .rg (u (asg (.i rfl)) <| .nil _) rfl ?_
      refine .sq ?_
      refine .sq ?_
      refine .rg (u (mv (.t rfl)) <| u (mv (.t rfl)) <| u (lnm sf22 (.t rfl)) <| u (bc (.t rfl) (.t rfl) rfl rfl) <| .nil _) rfl ?_
      refine .jq (t := some u1) (fun (a : Int) => ⟨[(0, .ifc 121 (.ptr 9000 0)), (1, .ro (.list 1 (List.map (ei .i64) l))), (2, .ro (.int .i64 many)), (3, .fn (.func 123) [] [.cptr [.ifc 121 (.ptr 9000 0)]]), (9, .own 9), (10, .ro (.int .i64 v2)), (11, .ro (.int .i64 a))], [(9, some (.arr 3 1 (List.map (ei .i64) v1))), (9000, some (.box [.ro (.list 1 (List.map e8 x4.2.c.bytes)), .ro (.int .i64 x4.2.c.at_), .ro (.int .i64 x4.2.c.err)]))]⟩) (fun (a : Int) => vp9_gone_int_y2_j2 z v1 v2 x4 a) ?_ (fun J2 => ?_)
      · intro v5 h
        replace h : vp9_gone_int_y2_j2 z v1 v2 x4 v5 = _ := h
        unfold vp9_gone_int_y2_j2 at h
        refine be h fun x6 hx6 h => ?_
        refine be h fun x7 hx7 h => ?_
        refine .rg (u (mv (.t rfl)) <| u (mv (.t rfl)) <| u (mv (.t rfl)) <| cvy 34000000 cf123 (AY.ly (fun i => bif Nat.beq i 9000 then 9000 else i) (vp9_picture_1_y2_c hx6) rfl rfl rfl rfl rfl rfl rfl) (.t rfl) (.c (.t rfl) <| .n) rfl (.c rfl <| .n) rfl <| bs (F := (ei .i64)) (l := [x6.1]) 34 pf22 (.c (.t rfl) rfl <| .n) rfl (fun _ _ => rfl) rfl rfl <| apo 35 pf22 (.t rfl) rfl (.t rfl) rfl hx7 rfl <| u (asg (.t rfl)) <| .nil _) rfl ?_
        refine .ib ?_
        refine .rg (u (mv (.t rfl)) <| u (bi (.t rfl) (.i rfl) rfl) <| u (asg (.t rfl)) <| .nil _) rfl ?_
        exact .ks (fun i => bif Nat.beq i 9 then 35 else i) (.il (ih1 (x7, (ar .add .i64 v2 1), x6.2) (nxi h))) (.c rfl (.c rfl (.c rfl (.c rfl (.c rfl (.c rfl .n)))))) (.c rfl (.c rfl .n)) rfl
      refine .bq h (.t rfl) (fun h => ?_) (fun h => ?_)
      · refine be h fun x8 hx8 h => ?_
        refine .rg (u (mv (.t rfl)) <| u (mv (.t rfl)) <| u (ia sf22 (.t rfl) (.t rfl) (ix_map (ei .i64) hx8)) <| u (lr tf3 (.t rfl) rfl) <| u (asg (.t rfl)) <| .nil _) rfl ?_
        exact .kq (J2 x8 h) (.c rfl (.c rfl (.c rfl (.c rfl (.c rfl (.c rfl (.c rfl .n))))))) (.c rfl (.c rfl .n))
      · refine .skp ?_
        exact .kq (J2 0 h) (.c rfl (.c rfl (.c rfl (.c rfl (.c rfl (.c rfl (.c rfl .n))))))) (.c rfl (.c rfl .n))
    · refine .xt rfl ?_
      replace h := mpR h hx1
      refine .sq ?_
      refine .rg (u (mv (.t rfl)) <| u (asg (.t rfl)) <| .nil _) rfl ?_
      obtain rfl := Option.some.inj h
      refine .ks (l := [(8, .own 8000), (0, .ifc 121 (.ptr 9000 0)), (3, .fn (.func 123) [] [.cptr [.ifc 121 (.ptr 9000 0)]])]) (o := [(9000, some (.box [.ro (.list 1 (List.map e8 x4.2.c.bytes)), .ro (.int .i64 x4.2.c.at_), .ro (.int .i64 x4.2.c.err)])), (8000, some (.arr 3 1 (List.map (ei .i64) v1)))]) (fun i => bif Nat.beq i 8000 then 9 else i) ?_ (.c rfl (.c rfl (.c rfl .n))) (.c rfl (.c rfl .n)) rfl
      exact .rtx (o := [(9000, some (.box [.ro (.list 1 (List.map e8 x4.2.c.bytes)), .ro (.int .i64 x4.2.c.at_), .ro (.int .i64 x4.2.c.err)])), (8000, some (.arr 3 1 (List.map (ei .i64) v1)))]) Try.func122 (.t rfl <| .n) (.c rfl (.c rfl .n)) rfl rfl (.c rfl (.c rfl .n)) rfl
  · replace h := ifF h hs0
    refine .rg (u (mv (.t rfl)) <| u (mv (.t rfl)) <| u (bc (.t rfl) (.t rfl) rfl rfl) <| u (mv (.t rfl)) <| gd (v := .ro (.bool false)) (rs := []) (ro := []) rfl rfl (fun hB => absurd (hB.symm.trans hs0) (by decide)) <| gd (v := .ro (.bool false)) (rs := []) (ro := []) rfl rfl (fun hB => absurd (hB.symm.trans hs0) (by decide)) <| gd (v := .ro (.bool false)) (rs := []) (ro := []) rfl rfl (fun hB => absurd (hB.symm.trans hs0) (by decide)) <| u (pkf hs0 (.t rfl) .b) <| .nil _) rfl ?_
    refine .cf (.t rfl) rfl ?_
    refine .xt rfl ?_
    replace h := mpR h hx1
    refine .sq ?_
    refine .rg (u (mv (.t rfl)) <| u (asg (.t rfl)) <| .nil _) rfl ?_
    obtain rfl := Option.some.inj h
    refine .ks (l := [(8, .own 8000), (0, .ifc 121 (.ptr 9000 0)), (3, .fn (.func 123) [] [.cptr [.ifc 121 (.ptr 9000 0)]])]) (o := [(9000, some (.box [.ro (.list 1 (List.map e8 v3.c.bytes)), .ro (.int .i64 v3.c.at_), .ro (.int .i64 v3.c.err)])), (8000, some (.arr 3 1 (List.map (ei .i64) v1)))]) (fun i => bif Nat.beq i 8000 then 9 else i) ?_ (.c rfl (.c rfl (.c rfl .n))) (.c rfl (.c rfl .n)) rfl
    exact .rtx (o := [(9000, some (.box [.ro (.list 1 (List.map e8 v3.c.bytes)), .ro (.int .i64 v3.c.at_), .ro (.int .i64 v3.c.err)])), (8000, some (.arr 3 1 (List.map (ei .i64) v1)))]) Try.func122 (.t rfl <| .n) (.c rfl (.c rfl .n)) rfl rfl (.c rfl (.c rfl .n)) rfl

theorem vp9_picture_y2_c {z : Option Nat} {g : Group} {box0 : vp9_reader} {r : Group × vp9_reader} (h : vp9_picture_y2 z g box0 = some r) :
    AY Try.prog 118 [.ifc 121 (.ptr 9000 0), .ro (enc_Group g)] [(9000, [.list 1 (List.map e8 box0.c.bytes), .int .i64 box0.c.at_, .int .i64 box0.c.err])] [0] (.ro (enc_Group r.1)) [] [(0, .ifc 121 (.ptr 9000 0))] [(9000, [.list 1 (List.map e8 r.2.c.bytes), .int .i64 r.2.c.at_, .int .i64 r.2.c.err])] := by
  refine AY.of Try.func118 rfl rfl fun w X M0 hM pv => ?_
  refine .kq (l := [(0, .ifc 121 (.ptr 9000 0)), (1, .ro (enc_Group g))]) (o := [(9000, some (.box [.ro (.list 1 (List.map e8 box0.c.bytes)), .ro (.int .i64 box0.c.at_), .ro (.int .i64 box0.c.err)]))]) ?_ (.c rfl (.c rfl .n)) (.c rfl .n)
  unfold vp9_picture_y2 at h
  refine .sq ?_
  refine .rg (bx 2 (.t rfl) rfl rfl <| bx 3 (.t rfl) rfl rfl <| al 4 zf113 rfl <| .nil _) rfl ?_
  refine .fc 2 rfl ?_
  refine .sq ?_
  refine be h fun x1 hx1 h => ?_
  refine .rg (u (lc tf146 (.t rfl) rfl) <| u (fa ff113_0 (.t rfl)) <| u (ld tf3 (.t rfl) rfl rfl) <| ciy 10000000 cm121_144 (AY.ly (fun i => bif Nat.beq i 9000 then 9000 else i) (vp9_reader_num_y1_c hx1) rfl rfl rfl rfl rfl rfl rfl) (.t rfl) (.c (.t rfl) <| .c (.i rfl) <| .n) rfl (.c rfl <| .n) rfl <| u (fa ff113_0 (.t rfl)) <| st tf3 (.t rfl) rfl (.t rfl) rfl rfl rfl <| .nil _) rfl ?_
  refine .sq ?_
  refine be h fun x2 hx2 h => ?_
  refine .rg (u (lc tf146 (.t rfl) rfl) <| u (fa ff113_1 (.t rfl)) <| u (ld tf4 (.t rfl) rfl rfl) <| cly 15000000 cf100 (AY.ly (fun i => bif Nat.beq i 9000 then 9000 else i) (vp9_truth_y2_c hx2) rfl rfl rfl rfl rfl rfl rfl)  (.c (.t rfl) <| .c (.t rfl) <| .n) rfl (.c rfl <| .n) rfl <| u (fa ff113_1 (.t rfl)) <| st tf4 (.t rfl) rfl (.t rfl) rfl rfl rfl <| .nil _) rfl ?_
  refine .sq ?_
  refine be h fun x3 hx3 h => ?_
  refine .rg (u (lc tf146 (.t rfl) rfl) <| u (fa ff113_2 (.t rfl)) <| u (ld tf22 (.t rfl) rfl rfl) <| u (lnm sf22 (.t rfl)) <| ciy 21000000 cm121_144 (AY.ly (fun i => bif Nat.beq i 9000 then 9000 else i) (vp9_reader_num_y1_c hx3) rfl rfl rfl rfl rfl rfl rfl) (.t rfl) (.c (.t rfl) <| .c (.i rfl) <| .n) rfl (.c rfl <| .n) rfl <| u (asg (.t rfl)) <| .nil _) rfl ?_
  refine .sq ?_
  refine be h fun x4 hx4 h => ?_
  refine .rg (u (lc tf146 (.t rfl) rfl) <| ciy 23000000 cm121_144 (AY.ly (fun i => bif Nat.beq i 9000 then 9000 else i) (vp9_reader_num_y1_c hx4) rfl rfl rfl rfl rfl rfl rfl) (.t rfl) (.c (.i rfl) <| .c (.i rfl) <| .n) rfl (.c rfl <| .n) rfl <| .nil _) rfl ?_
  refine .sq ?_
  refine be h fun x5 hx5 h => ?_
  refine .rg (u (lc tf146 (.t rfl) rfl) <| u (fa ff113_2 (.t rfl)) <| u (ld tf22 (.t rfl) rfl rfl) <| u (mv (.t rfl)) <| u (mfn (.c (.t rfl) <| .n)) <| cly 29000000 cf122 (AY.ly (fun i => bif Nat.beq i 9000 then 9000 else i) (vp9_gone_int_y2_c hx5) rfl rfl rfl rfl rfl rfl rfl)  (.c (.t rfl) <| .c (.t rfl) <| .c (.t rfl) <| .c (.t rfl) <| .n) rfl (.c rfl <| .n) rfl <| u (fa ff113_2 (.t rfl)) <| st tf22 (.t rfl) rfl (.t rfl) rfl rfl rfl <| .nil _) rfl ?_
  refine .sq ?_
  refine .rg (u (ld tf113 (.t rfl) rfl rfl) <| st tf113 (.t rfl) rfl (.t rfl) rfl rfl rfl <| .nil _) rfl ?_
  refine .fz 29008000 rfl ?_
  obtain rfl := Option.some.inj h
  exact .rtx (o := [(9000, some (.box [.ro (.list 1 (List.map e8 x5.2.c.bytes)), .ro (.int .i64 x5.2.c.at_), .ro (.int .i64 x5.2.c.err)]))]) Try.func118 (.c tf113 rfl rfl rfl <| .n) (.c rfl .n) rfl rfl (.c rfl .n) rfl

theorem vp9_scale_2_y2_c {z : Option Nat} {g : Group} {box0 : vp9_reader} {r : Group × vp9_reader} (h : vp9_scale_2_y2 z g box0 = some r) :
    AY Try.prog 117 [.ro (enc_Group g), .cptr [.ifc 121 (.ptr 9000 0)]] [(9000, [.list 1 (List.map e8 box0.c.bytes), .int .i64 box0.c.at_, .int .i64 box0.c.err])] [1] (.ro (enc_Group r.1)) [] [(1, .cptr [.ifc 121 (.ptr 9000 0)])] [(9000, [.list 1 (List.map e8 r.2.c.bytes), .int .i64 r.2.c.at_, .int .i64 r.2.c.err])] := by
  refine AY.of Try.func117 rfl rfl fun w X M0 hM pv => ?_
  refine .kq (l := [(0, .ro (enc_Group g)), (1, .cptr [.ifc 121 (.ptr 9000 0)])]) (o := [(9000, some (.box [.ro (.list 1 (List.map e8 box0.c.bytes)), .ro (.int .i64 box0.c.at_), .ro (.int .i64 box0.c.err)]))]) ?_ (.c rfl (.c rfl .n)) (.c rfl .n)
  unfold vp9_scale_2_y2 at h
  refine .sq ?_
  refine .rg (bx 2 (.t rfl) rfl rfl <| al 3 zf113 rfl <| .nil _) rfl ?_
  refine .sq ?_
  refine be h fun x1 hx1 h => ?_
  refine .rg (u (lc tf146 (.t rfl) rfl) <| u (ld tf113 (.t rfl) rfl rfl) <| cly 7000000 cf118 (AY.ly (fun i => bif Nat.beq i 9000 then 9000 else i) (vp9_picture_y2_c hx1) rfl rfl rfl rfl rfl rfl rfl)  (.c (.t rfl) <| .c (.t rfl) <| .n) rfl (.c rfl <| .n) rfl <| st tf113 (.t rfl) rfl (.t rfl) rfl rfl rfl <| .nil _) rfl ?_
  obtain rfl := Option.some.inj h
  exact .rtx (o := [(9000, some (.box [.ro (.list 1 (List.map e8 x1.2.c.bytes)), .ro (.int .i64 x1.2.c.at_), .ro (.int .i64 x1.2.c.err)]))]) Try.func117 (.c tf113 rfl rfl rfl <| .n) (.c rfl .n) rfl rfl (.c rfl .n) rfl

theorem vp9_gone_Group_y2_c {z : Option Nat} {l : List Group} {many : Int} {box0 : vp9_reader} {r : List Group × vp9_reader} (h : vp9_gone_Group_y2 z l many box0 = some r) :
    AY Try.prog 116 [.ifc 121 (.ptr 9000 0), .ro (.list 3 (List.map cells_Group l)), .ro (.int .i64 many), .fn (.func 117) [] [.cptr [.ifc 121 (.ptr 9000 0)]]] [(9000, [.list 1 (List.map e8 box0.c.bytes), .int .i64 box0.c.at_, .int .i64 box0.c.err])] [0, 3] (.own 8000) [(8000, .arr 113 3 (List.map cells_Group r.1))] [(0, .ifc 121 (.ptr 9000 0)), (3, .fn (.func 117) [] [.cptr [.ifc 121 (.ptr 9000 0)]])] [(9000, [.list 1 (List.map e8 r.2.c.bytes), .int .i64 r.2.c.at_, .int .i64 r.2.c.err])] := by
  refine AY.of Try.func116 rfl rfl fun w X M0 hM pv => ?_
  refine .kq (l := [(0, .ifc 121 (.ptr 9000 0)), (1, .ro (.list 3 (List.map cells_Group l))), (2, .ro (.int .i64 many)), (3, .fn (.func 117) [] [.cptr [.ifc 121 (.ptr 9000 0)]])]) (o := [(9000, some (.box [.ro (.list 1 (List.map e8 box0.c.bytes)), .ro (.int .i64 box0.c.at_), .ro (.int .i64 box0.c.err)]))]) ?_ (.c rfl (.c rfl (.c rfl (.c rfl .n)))) (.c rfl .n)
  unfold vp9_gone_Group_y2 at h
  refine .sq ?_
  refine .rg (anm cells_Group 8 113 3 rfl rfl <| .nil _) rfl ?_
  refine .sq ?_
  refine .rg (anm cells_Group 9 113 3 rfl rfl <| .nil _) rfl ?_
  refine .sq ?_
  refine .sq ?_
  refine .rg (u (asg (.i rfl)) <| .nil _) rfl ?_
  refine .bl ?_
  unfold vp9_gone_Group_y2_l1 at h
  refine .kq (.lo (fun (s : List Group × Int × vp9_reader) => ⟨[(0, .ifc 121 (.ptr 9000 0)), (1, .ro (.list 3 (List.map cells_Group l))), (2, .ro (.int .i64 many)), (3, .fn (.func 117) [] [.cptr [.ifc 121 (.ptr 9000 0)]]), (9, .own 9), (10, .ro (.int .i64 s.2.1))], [(9, some (.arr 113 3 (List.map cells_Group s.1))), (9000, some (.box [.ro (.list 1 (List.map e8 s.2.2.c.bytes)), .ro (.int .i64 s.2.2.c.at_), .ro (.int .i64 s.2.2.c.err)]))]⟩) h ?_) (.c rfl (.c rfl (.c rfl (.c rfl (.c rfl (.c rfl .n)))))) (.c rfl (.c rfl .n))
  rintro ⟨v1, v2, v3⟩ u1 h ih1 hx1
  replace h : vp9_gone_Group_y2_s1 z l many v1 v2 v3 = _ := h
  unfold vp9_gone_Group_y2_s1 at h
  refine .sq ?_
  refine .sq ?_
  rcases btf (cm .lss v2 many) with hs0 | hs0
  · replace h := ifT h hs0
    refine be h fun x4 hx4 h => ?_
    refine .rg (u (mv (.t rfl)) <| u (mv (.t rfl)) <| u (bc (.t rfl) (.t rfl) rfl rfl) <| u (mv (.t rfl)) <| gdk rfl rfl hs0 <| u (mv (.t rfl)) <| gdk rfl rfl hs0 <| ciy 18000000 cm121_143 (AY.ly (fun i => bif Nat.beq i 9000 then 9000 else i) (vp9_reader_failed_y1_c hx4) rfl rfl rfl rfl rfl rfl rfl) (.t rfl) (.n) rfl (.c rfl <| .n) rfl <| gdk rfl rfl hs0 <| u (no (.t rfl)) <| u (pkt hs0 (.t rfl) (.t rfl)) <| .nil _) rfl ?_
    refine .bq h (.t rfl) (fun h => ?_) (fun h => ?_)
    · refine .skp ?_
      refine .sq ?_
      refine .bl ?_
      refine .sq ?_
      refine .rg (al 11 zf113 rfl <| .nil _) rfl ?_
      refine .sq ?_
      refine .sq ?_
      refine .rg (u (mv (.t rfl)) <| u (mv (.t rfl)) <| u (lnm sf58 (.t rfl)) <| u (bc (.t rfl) (.t rfl) rfl rfl) <| .nil _) rfl ?_
      refine .jq (t := some u1) (fun (a : Group) => ⟨[(0, .ifc 121 (.ptr 9000 0)), (1, .ro (.list 3 (List.map cells_Group l))), (2, .ro (.int .i64 many)), (3, .fn (.func 117) [] [.cptr [.ifc 121 (.ptr 9000 0)]]), (9, .own 9), (10, .ro (.int .i64 v2)), (11, .ptr 11 0)], [(9, some (.arr 113 3 (List.map cells_Group v1))), (11, some (.box [.ro (.int .i64 a.tid), .ro (.bool a.up), .ro (.list 1 (List.map (ei .i64) a.refs))])), (9000, some (.box [.ro (.list 1 (List.map e8 x4.2.c.bytes)), .ro (.int .i64 x4.2.c.at_), .ro (.int .i64 x4.2.c.err)]))]⟩) (fun (a : Group) => vp9_gone_Group_y2_j2 z v1 v2 x4 a) ?_ (fun J2 => ?_)
      · intro v5 h
        replace h : vp9_gone_Group_y2_j2 z v1 v2 x4 v5 = _ := h
        unfold vp9_gone_Group_y2_j2 at h
        refine be h fun x6 hx6 h => ?_
        refine be h fun x7 hx7 h => ?_
        refine .rg (u (mv (.t rfl)) <| u (mv (.t rfl)) <| u (ld tf113 (.t rfl) rfl rfl) <| cvy 34000000 cf117 (AY.ly (fun i => bif Nat.beq i 9000 then 9000 else i) (vp9_scale_2_y2_c hx6) rfl rfl rfl rfl rfl rfl rfl) (.t rfl) (.c (.t rfl) <| .n) rfl (.c rfl <| .n) rfl <| bs (F := cells_Group) (l := [x6.1]) 34 pf58 (.c (.t rfl) rfl <| .n) rfl (fun _ _ => rfl) rfl rfl <| apo 35 pf58 (.t rfl) rfl (.t rfl) rfl hx7 rfl <| u (asg (.t rfl)) <| .nil _) rfl ?_
        refine .ib ?_
        refine .rg (u (mv (.t rfl)) <| u (bi (.t rfl) (.i rfl) rfl) <| u (asg (.t rfl)) <| .nil _) rfl ?_
        exact .ks (fun i => bif Nat.beq i 9 then 35 else i) (.il (ih1 (x7, (ar .add .i64 v2 1), x6.2) (nxi h))) (.c rfl (.c rfl (.c rfl (.c rfl (.c rfl (.c rfl .n)))))) (.c rfl (.c rfl .n)) rfl
      refine .bq h (.t rfl) (fun h => ?_) (fun h => ?_)
      · refine be h fun x8 hx8 h => ?_
        refine .rg (u (mv (.t rfl)) <| u (mv (.t rfl)) <| u (ia sf58 (.t rfl) (.t rfl) (ix_map cells_Group hx8)) <| u (lr tf113 (.t rfl) rfl) <| st tf113 (.t rfl) rfl (.t rfl) rfl rfl rfl <| .nil _) rfl ?_
        exact .kq (J2 x8 h) (.c rfl (.c rfl (.c rfl (.c rfl (.c rfl (.c rfl (.c rfl .n))))))) (.c rfl (.c rfl (.c rfl .n)))
      · refine .skp ?_
        exact .kq (J2 (Group.mk 0 false []) h) (.c rfl (.c rfl (.c rfl (.c rfl (.c rfl (.c rfl (.c rfl .n))))))) (.c rfl (.c rfl (.c rfl .n)))
    · refine .xt rfl ?_
      replace h := mpR h hx1
      refine .sq ?_
      refine .rg (u (mv (.t rfl)) <| u (asg (.t rfl)) <| .nil _) rfl ?_
      obtain rfl := Option.some.inj h
      refine .ks (l := [(8, .own 8000), (0, .ifc 121 (.ptr 9000 0)), (3, .fn (.func 117) [] [.cptr [.ifc 121 (.ptr 9000 0)]])]) (o := [(9000, some (.box [.ro (.list 1 (List.map e8 x4.2.c.bytes)), .ro (.int .i64 x4.2.c.at_), .ro (.int .i64 x4.2.c.err)])), (8000, some (.arr 113 3 (List.map cells_Group v1)))]) (fun i => bif Nat.beq i 8000 then 9 else i) ?_ (.c rfl (.c rfl (.c rfl .n))) (.c rfl (.c rfl .n)) rfl
      exact .rtx (o := [(9000, some (.box [.ro (.list 1 (List.map e8 x4.2.c.bytes)), .ro (.int .i64 x4.2.c.at_), .ro (.int .i64 x4.2.c.err)])), (8000, some (.arr 113 3 (List.map cells_Group v1)))]) Try.func116 (.t rfl <| .n) (.c rfl (.c rfl .n)) rfl rfl (.c rfl (.c rfl .n)) rfl
  · replace h := ifF h hs0
    refine .rg (u (mv (.t rfl)) <| u (mv (.t rfl)) <| u (bc (.t rfl) (.t rfl) rfl rfl) <| u (mv (.t rfl)) <| gd (v := .ro (.bool false)) (rs := []) (ro := []) rfl rfl (fun hB => absurd (hB.symm.trans hs0) (by decide)) <| gd (v := .ro (.bool false)) (rs := []) (ro := []) rfl rfl (fun hB => absurd (hB.symm.trans hs0) (by decide)) <| gd (v := .ro (.bool false)) (rs := []) (ro := []) rfl rfl (fun hB => absurd (hB.symm.trans hs0) (by decide)) <| u (pkf hs0 (.t rfl) .b) <| .nil _) rfl ?_
    refine .cf (.t rfl) rfl ?_
    refine .xt rfl ?_
    replace h := mpR h hx1
    refine .sq ?_
    refine .rg (u (mv (.t rfl)) <| u (asg (.t rfl)) <| .nil _) rfl ?_
    obtain rfl := Option.some.inj h
    refine .ks (l := [(8, .own 8000), (0, .ifc 121 (.ptr 9000 0)), (3, .fn (.func 117) [] [.cptr [.ifc 121 (.ptr 9000 0)]])]) (o := [(9000, some (.box [.ro (.list 1 (List.map e8 v3.c.bytes)), .ro (.int .i64 v3.c.at_), .ro (.int .i64 v3.c.err)])), (8000, some (.arr 113 3 (List.map cells_Group v1)))]) (fun i => bif Nat.beq i 8000 then 9 else i) ?_ (.c rfl (.c rfl (.c rfl .n))) (.c rfl (.c rfl .n)) rfl
    exact .rtx (o := [(9000, some (.box [.ro (.list 1 (List.map e8 v3.c.bytes)), .ro (.int .i64 v3.c.at_), .ro (.int .i64 v3.c.err)])), (8000, some (.arr 113 3 (List.map cells_Group v1)))]) Try.func116 (.t rfl <| .n) (.c rfl (.c rfl .n)) rfl rfl (.c rfl (.c rfl .n)) rfl

theorem vp9_scale_1_y2_c {z : Option Nat} {p_z : Size} {box0 : vp9_reader} {r : Size × vp9_reader} (h : vp9_scale_1_y2 z p_z box0 = some r) :
    AY Try.prog 115 [.ro (enc_Size p_z), .cptr [.ifc 121 (.ptr 9000 0)]] [(9000, [.list 1 (List.map e8 box0.c.bytes), .int .i64 box0.c.at_, .int .i64 box0.c.err])] [1] (.ro (enc_Size r.1)) [] [(1, .cptr [.ifc 121 (.ptr 9000 0)])] [(9000, [.list 1 (List.map e8 r.2.c.bytes), .int .i64 r.2.c.at_, .int .i64 r.2.c.err])] := by
  refine AY.of Try.func115 rfl rfl fun w X M0 hM pv => ?_
  refine .kq (l := [(0, .ro (enc_Size p_z)), (1, .cptr [.ifc 121 (.ptr 9000 0)])]) (o := [(9000, some (.box [.ro (.list 1 (List.map e8 box0.c.bytes)), .ro (.int .i64 box0.c.at_), .ro (.int .i64 box0.c.err)]))]) ?_ (.c rfl (.c rfl .n)) (.c rfl .n)
  unfold vp9_scale_1_y2 at h
  refine .sq ?_
  refine .rg (bx 2 (.t rfl) rfl rfl <| al 3 zf83 rfl <| .nil _) rfl ?_
  refine .sq ?_
  refine be h fun x1 hx1 h => ?_
  refine be h fun x2 hx2 h => ?_
  refine .rd mixed (u (lc tf146 (.t rfl) rfl) <| u (fa ff83_0 (.t rfl)) <| u (ld tf3 (.t rfl) rfl rfl) <| ciy 8000000 cm121_144 (AY.ly (fun i => bif Nat.beq i 9000 then 9000 else i) (vp9_reader_num_y1_c hx1) rfl rfl rfl rfl rfl rfl rfl) (.t rfl) (.c (.t rfl) <| .c (.i rfl) <| .n) rfl (.c rfl <| .n) rfl <| u (lc tf146 (.t rfl) rfl) <| u (fa ff83_1 (.t rfl)) <| u (ld tf3 (.t rfl) rfl rfl) <| ciy 12000000 cm121_144 (AY.ly (fun i => bif Nat.beq i 9000 then 9000 else i) (vp9_reader_num_y1_c hx2) rfl rfl rfl rfl rfl rfl rfl) (.t rfl) (.c (.t rfl) <| .c (.i rfl) <| .n) rfl (.c rfl <| .n) rfl <| u (bd bf83 zf83 (.c rfl (.t rfl) rfl rfl rfl <| .c rfl (.t rfl) rfl rfl rfl <| .n) rfl) <| st tf83 (.t rfl) rfl (.t rfl) rfl rfl rfl <| .nil _) (by kernel_rfl) rfl ?_
  obtain rfl := Option.some.inj h
  exact .rtx (o := [(9000, some (.box [.ro (.list 1 (List.map e8 x2.2.c.bytes)), .ro (.int .i64 x2.2.c.at_), .ro (.int .i64 x2.2.c.err)]))]) Try.func115 (.c tf83 rfl rfl rfl <| .n) (.c rfl .n) rfl rfl (.c rfl .n) rfl

theorem vp9_gone_Size_y2_c {z : Option Nat} {l : List Size} {many : Int} {box0 : vp9_reader} {r : List Size × vp9_reader} (h : vp9_gone_Size_y2 z l many box0 = some r) :
    AY Try.prog 114 [.ifc 121 (.ptr 9000 0), .ro (.list 2 (List.map cells_Size l)), .ro (.int .i64 many), .fn (.func 115) [] [.cptr [.ifc 121 (.ptr 9000 0)]]] [(9000, [.list 1 (List.map e8 box0.c.bytes), .int .i64 box0.c.at_, .int .i64 box0.c.err])] [0, 3] (.own 8000) [(8000, .arr 83 2 (List.map cells_Size r.1))] [(0, .ifc 121 (.ptr 9000 0)), (3, .fn (.func 115) [] [.cptr [.ifc 121 (.ptr 9000 0)]])] [(9000, [.list 1 (List.map e8 r.2.c.bytes), .int .i64 r.2.c.at_, .int .i64 r.2.c.err])] := by
  refine AY.of Try.func114 rfl rfl fun w X M0 hM pv => ?_
  refine .kq (l := [(0, .ifc 121 (.ptr 9000 0)), (1, .ro (.list 2 (List.map cells_Size l))), (2, .ro (.int .i64 many)), (3, .fn (.func 115) [] [.cptr [.ifc 121 (.ptr 9000 0)]])]) (o := [(9000, some (.box [.ro (.list 1 (List.map e8 box0.c.bytes)), .ro (.int .i64 box0.c.at_), .ro (.int .i64 box0.c.err)]))]) ?_ (.c rfl (.c rfl (.c rfl (.c rfl .n)))) (.c rfl .n)
  unfold vp9_gone_Size_y2 at h
  refine .sq ?_
  refine .rg (anm cells_Size 8 83 2 rfl rfl <| .nil _) rfl ?_
  refine .sq ?_
  refine .rg (anm cells_Size 9 83 2 rfl rfl <| .nil _) rfl ?_
  refine .sq ?_
  refine .sq ?_
  refine .rg (u (asg (.i rfl)) <| .nil _) rfl ?_
  refine .bl ?_
  unfold vp9_gone_Size_y2_l1 at h
  refine .kq (.lo (fun (s : List Size × Int × vp9_reader) => ⟨[(0, .ifc 121 (.ptr 9000 0)), (1, .ro (.list 2 (List.map cells_Size l))), (2, .ro (.int .i64 many)), (3, .fn (.func 115) [] [.cptr [.ifc 121 (.ptr 9000 0)]]), (9, .own 9), (10, .ro (.int .i64 s.2.1))], [(9, some (.arr 83 2 (List.map cells_Size s.1))), (9000, some (.box [.ro (.list 1 (List.map e8 s.2.2.c.bytes)), .ro (.int .i64 s.2.2.c.at_), .ro (.int .i64 s.2.2.c.err)]))]⟩) h ?_) (.c rfl (.c rfl (.c rfl (.c rfl (.c rfl (.c rfl .n)))))) (.c rfl (.c rfl .n))
  rintro ⟨v1, v2, v3⟩ u1 h ih1 hx1
  replace h : vp9_gone_Size_y2_s1 z l many v1 v2 v3 = _ := h
  unfold vp9_gone_Size_y2_s1 at h
  refine .sq ?_
  refine .sq ?_
  rcases btf (cm .lss v2 many) with hs0 | hs0
  · replace h := ifT h hs0
    refine be h fun x4 hx4 h => ?_
    refine .rg (u (mv (.t rfl)) <| u (mv (.t rfl)) <| u (bc (.t rfl) (.t rfl) rfl rfl) <| u (mv (.t rfl)) <| gdk rfl rfl hs0 <| u (mv (.t rfl)) <| gdk rfl rfl hs0 <| ciy 18000000 cm121_143 (AY.ly (fun i => bif Nat.beq i 9000 then 9000 else i) (vp9_reader_failed_y1_c hx4) rfl rfl rfl rfl rfl rfl rfl) (.t rfl) (.n) rfl (.c rfl <| .n) rfl <| gdk rfl rfl hs0 <| u (no (.t rfl)) <| u (pkt hs0 (.t rfl) (.t rfl)) <| .nil _) rfl ?_
    refine .bq h (.t rfl) (fun h => ?_) (fun h => ?_)
    · refine .skp ?_
      refine .sq ?_
      refine .bl ?_
      refine .sq ?_
      refine .rg (al 11 zf83 rfl <| .nil _) rfl ?_
      refine .sq ?_
      refine .sq ?_
      refine .rg (u (mv (.t rfl)) <| u (mv (.t rfl)) <| u (lnm sf24 (.t rfl)) <| u (bc (.t rfl) (.t rfl) rfl rfl) <| .nil _) rfl ?_
      refine .jq (t := some u1) (fun (a : Size) => ⟨[(0, .ifc 121 (.ptr 9000 0)), (1, .ro (.list 2 (List.map cells_Size l))), (2, .ro (.int .i64 many)), (3, .fn (.func 115) [] [.cptr [.ifc 121 (.ptr 9000 0)]]), (9, .own 9), (10, .ro (.int .i64 v2)), (11, .ptr 11 0)], [(9, some (.arr 83 2 (List.map cells_Size v1))), (11, some (.box [.ro (.int .i64 a.wide), .ro (.int .i64 a.high)])), (9000, some (.box [.ro (.list 1 (List.map e8 x4.2.c.bytes)), .ro (.int .i64 x4.2.c.at_), .ro (.int .i64 x4.2.c.err)]))]⟩) (fun (a : Size) => vp9_gone_Size_y2_j2 z v1 v2 x4 a) ?_ (fun J2 => ?_)
      · intro v5 h
        replace h : vp9_gone_Size_y2_j2 z v1 v2 x4 v5 = _ := h
        unfold vp9_gone_Size_y2_j2 at h
        refine be h fun x6 hx6 h => ?_
        refine be h fun x7 hx7 h => ?_
        refine .rg (u (mv (.t rfl)) <| u (mv (.t rfl)) <| u (ld tf83 (.t rfl) rfl rfl) <| cvy 34000000 cf115 (AY.ly (fun i => bif Nat.beq i 9000 then 9000 else i) (vp9_scale_1_y2_c hx6) rfl rfl rfl rfl rfl rfl rfl) (.t rfl) (.c (.t rfl) <| .n) rfl (.c rfl <| .n) rfl <| bs (F := cells_Size) (l := [x6.1]) 34 pf24 (.c (.t rfl) rfl <| .n) rfl (fun _ _ => rfl) rfl rfl <| apo 35 pf24 (.t rfl) rfl (.t rfl) rfl hx7 rfl <| u (asg (.t rfl)) <| .nil _) rfl ?_
        refine .ib ?_
        refine .rg (u (mv (.t rfl)) <| u (bi (.t rfl) (.i rfl) rfl) <| u (asg (.t rfl)) <| .nil _) rfl ?_
        exact .ks (fun i => bif Nat.beq i 9 then 35 else i) (.il (ih1 (x7, (ar .add .i64 v2 1), x6.2) (nxi h))) (.c rfl (.c rfl (.c rfl (.c rfl (.c rfl (.c rfl .n)))))) (.c rfl (.c rfl .n)) rfl
      refine .bq h (.t rfl) (fun h => ?_) (fun h => ?_)
      · refine be h fun x8 hx8 h => ?_
        refine .rg (u (mv (.t rfl)) <| u (mv (.t rfl)) <| u (ia sf24 (.t rfl) (.t rfl) (ix_map cells_Size hx8)) <| u (lr tf83 (.t rfl) rfl) <| st tf83 (.t rfl) rfl (.t rfl) rfl rfl rfl <| .nil _) rfl ?_
        exact .kq (J2 x8 h) (.c rfl (.c rfl (.c rfl (.c rfl (.c rfl (.c rfl (.c rfl .n))))))) (.c rfl (.c rfl (.c rfl .n)))
      · refine .skp ?_
        exact .kq (J2 (Size.mk 0 0) h) (.c rfl (.c rfl (.c rfl (.c rfl (.c rfl (.c rfl (.c rfl .n))))))) (.c rfl (.c rfl (.c rfl .n)))
    · refine .xt rfl ?_
      replace h := mpR h hx1
      refine .sq ?_
      refine .rg (u (mv (.t rfl)) <| u (asg (.t rfl)) <| .nil _) rfl ?_
      obtain rfl := Option.some.inj h
      refine .ks (l := [(8, .own 8000), (0, .ifc 121 (.ptr 9000 0)), (3, .fn (.func 115) [] [.cptr [.ifc 121 (.ptr 9000 0)]])]) (o := [(9000, some (.box [.ro (.list 1 (List.map e8 x4.2.c.bytes)), .ro (.int .i64 x4.2.c.at_), .ro (.int .i64 x4.2.c.err)])), (8000, some (.arr 83 2 (List.map cells_Size v1)))]) (fun i => bif Nat.beq i 8000 then 9 else i) ?_ (.c rfl (.c rfl (.c rfl .n))) (.c rfl (.c rfl .n)) rfl
      exact .rtx (o := [(9000, some (.box [.ro (.list 1 (List.map e8 x4.2.c.bytes)), .ro (.int .i64 x4.2.c.at_), .ro (.int .i64 x4.2.c.err)])), (8000, some (.arr 83 2 (List.map cells_Size v1)))]) Try.func114 (.t rfl <| .n) (.c rfl (.c rfl .n)) rfl rfl (.c rfl (.c rfl .n)) rfl
  · replace h := ifF h hs0
    refine .rg (u (mv (.t rfl)) <| u (mv (.t rfl)) <| u (bc (.t rfl) (.t rfl) rfl rfl) <| u (mv (.t rfl)) <| gd (v := .ro (.bool false)) (rs := []) (ro := []) rfl rfl (fun hB => absurd (hB.symm.trans hs0) (by decide)) <| gd (v := .ro (.bool false)) (rs := []) (ro := []) rfl rfl (fun hB => absurd (hB.symm.trans hs0) (by decide)) <| gd (v := .ro (.bool false)) (rs := []) (ro := []) rfl rfl (fun hB => absurd (hB.symm.trans hs0) (by decide)) <| u (pkf hs0 (.t rfl) .b) <| .nil _) rfl ?_
    refine .cf (.t rfl) rfl ?_
    refine .xt rfl ?_
    replace h := mpR h hx1
    refine .sq ?_
    refine .rg (u (mv (.t rfl)) <| u (asg (.t rfl)) <| .nil _) rfl ?_
    obtain rfl := Option.some.inj h
    refine .ks (l := [(8, .own 8000), (0, .ifc 121 (.ptr 9000 0)), (3, .fn (.func 115) [] [.cptr [.ifc 121 (.ptr 9000 0)]])]) (o := [(9000, some (.box [.ro (.list 1 (List.map e8 v3.c.bytes)), .ro (.int .i64 v3.c.at_), .ro (.int .i64 v3.c.err)])), (8000, some (.arr 83 2 (List.map cells_Size v1)))]) (fun i => bif Nat.beq i 8000 then 9 else i) ?_ (.c rfl (.c rfl (.c rfl .n))) (.c rfl (.c rfl .n)) rfl
    exact .rtx (o := [(9000, some (.box [.ro (.list 1 (List.map e8 v3.c.bytes)), .ro (.int .i64 v3.c.at_), .ro (.int .i64 v3.c.err)])), (8000, some (.arr 83 2 (List.map cells_Size v1)))]) Try.func114 (.t rfl <| .n) (.c rfl (.c rfl .n)) rfl rfl (.c rfl (.c rfl .n)) rfl

theorem vp9_scale_y2_c {z : Option Nat} {p_s : Scale} {box0 : vp9_reader} {r : Scale × vp9_reader} (h : vp9_scale_y2 z p_s box0 = some r) :
    AY Try.prog 103 [.ifc 121 (.ptr 9000 0), .ro (enc_Scale p_s)] [(9000, [.list 1 (List.map e8 box0.c.bytes), .int .i64 box0.c.at_, .int .i64 box0.c.err])] [0] (.ro (enc_Scale r.1)) [] [(0, .ifc 121 (.ptr 9000 0))] [(9000, [.list 1 (List.map e8 r.2.c.bytes), .int .i64 r.2.c.at_, .int .i64 r.2.c.err])] := by
  refine AY.of Try.func103 rfl rfl fun w X M0 hM pv => ?_
  refine .kq (l := [(0, .ifc 121 (.ptr 9000 0)), (1, .ro (enc_Scale p_s))]) (o := [(9000, some (.box [.ro (.list 1 (List.map e8 box0.c.bytes)), .ro (.int .i64 box0.c.at_), .ro (.int .i64 box0.c.err)]))]) ?_ (.c rfl (.c rfl .n)) (.c rfl .n)
  unfold vp9_scale_y2 at h
  refine .sq ?_
  refine .rg (bx 2 (.t rfl) rfl rfl <| bx 3 (.t rfl) rfl rfl <| al 4 zf60 rfl <| .nil _) rfl ?_
  refine .fc 2 rfl ?_
  refine .sq ?_
  refine be h fun x1 hx1 h => ?_
  refine .rg (u (lc tf146 (.t rfl) rfl) <| u (fa ff60_0 (.t rfl)) <| u (ld tf3 (.t rfl) rfl rfl) <| u (bi (.t rfl) (.i rfl) rfl) <| ciy 10000000 cm121_144 (AY.ly (fun i => bif Nat.beq i 9000 then 9000 else i) (vp9_reader_num_y1_c hx1) rfl rfl rfl rfl rfl rfl rfl) (.t rfl) (.c (.t rfl) <| .c (.i rfl) <| .n) rfl (.c rfl <| .n) rfl <| u (bi (.t rfl) (.i rfl) rfl) <| u (fa ff60_0 (.t rfl)) <| st tf3 (.t rfl) rfl (.t rfl) rfl rfl rfl <| .nil _) rfl ?_
  refine .sq ?_
  refine be h fun x2 hx2 h => ?_
  refine be h fun x3 hx3 h => ?_
  refine .rd mixed (u (lc tf146 (.t rfl) rfl) <| u (fa ff60_1 (.t rfl)) <| u (ld tf4 (.t rfl) rfl rfl) <| cly 16000000 cf100 (AY.ly (fun i => bif Nat.beq i 9000 then 9000 else i) (vp9_truth_y2_c hx2) rfl rfl rfl rfl rfl rfl rfl)  (.c (.t rfl) <| .c (.t rfl) <| .n) rfl (.c rfl <| .n) rfl <| u (lc tf146 (.t rfl) rfl) <| u (fa ff60_3 (.t rfl)) <| u (ld tf4 (.t rfl) rfl rfl) <| cly 20000000 cf100 (AY.ly (fun i => bif Nat.beq i 9000 then 9000 else i) (vp9_truth_y2_c hx3) rfl rfl rfl rfl rfl rfl rfl)  (.c (.t rfl) <| .c (.t rfl) <| .n) rfl (.c rfl <| .n) rfl <| u (fa ff60_1 (.t rfl)) <| st tf4 (.t rfl) rfl (.t rfl) rfl rfl rfl <| u (fa ff60_3 (.t rfl)) <| st tf4 (.t rfl) rfl (.t rfl) rfl rfl rfl <| .nil _) (by kernel_rfl) rfl ?_
  refine .sq ?_
  refine be h fun x4 hx4 h => ?_
  refine .rg (u (lc tf146 (.t rfl) rfl) <| ciy 24000000 cm121_144 (AY.ly (fun i => bif Nat.beq i 9000 then 9000 else i) (vp9_reader_num_y1_c hx4) rfl rfl rfl rfl rfl rfl rfl) (.t rfl) (.c (.i rfl) <| .c (.i rfl) <| .n) rfl (.c rfl <| .n) rfl <| .nil _) rfl ?_
  refine .sq ?_
  refine .sq ?_
  refine .rg (u (fa ff60_1 (.t rfl)) <| u (ld tf4 (.t rfl) rfl rfl) <| .nil _) rfl ?_
  refine .jq (t := some r) (fun (a : Scale × vp9_reader) => ⟨[(0, .ifc 121 (.ptr 9000 0)), (2, .cptr [.ifc 121 (.ptr 9000 0)]), (3, .ptr 3 0), (4, .ptr 4 0)], [(3, some (.box [.ro (.int .i64 a.1.layers), .ro (.bool a.1.hasSizes), .ro (.list 2 (List.map cells_Size a.1.sizes)), .ro (.bool a.1.hasPics), .ro (.list 3 (List.map cells_Group a.1.pics))])), (4, some (.box [.ro (.int .i64 0), .ro (.bool false), .ro (.list 2 (List.map cells_Size [])), .ro (.bool false), .ro (.list 3 (List.map cells_Group []))])), (9000, some (.box [.ro (.list 1 (List.map e8 a.2.c.bytes)), .ro (.int .i64 a.2.c.at_), .ro (.int .i64 a.2.c.err)]))]⟩) (fun (a : Scale × vp9_reader) => vp9_scale_y2_j1 z a.1 a.2) ?_ (fun J1 => ?_)
  · rintro ⟨v5, v6⟩ h
    replace h : vp9_scale_y2_j1 z v5 v6 = _ := h
    unfold vp9_scale_y2_j1 at h
    refine .sq ?_
    refine .sq ?_
    refine .rg (u (fa ff60_3 (.t rfl)) <| u (ld tf4 (.t rfl) rfl rfl) <| .nil _) rfl ?_
    refine .jq (t := some r) (fun (a : Scale × vp9_reader) => ⟨[(0, .ifc 121 (.ptr 9000 0)), (3, .ptr 3 0), (4, .ptr 4 0)], [(3, some (.box [.ro (.int .i64 a.1.layers), .ro (.bool a.1.hasSizes), .ro (.list 2 (List.map cells_Size a.1.sizes)), .ro (.bool a.1.hasPics), .ro (.list 3 (List.map cells_Group a.1.pics))])), (4, some (.box [.ro (.int .i64 0), .ro (.bool false), .ro (.list 2 (List.map cells_Size [])), .ro (.bool false), .ro (.list 3 (List.map cells_Group []))])), (9000, some (.box [.ro (.list 1 (List.map e8 a.2.c.bytes)), .ro (.int .i64 a.2.c.at_), .ro (.int .i64 a.2.c.err)]))]⟩) (fun (a : Scale × vp9_reader) => vp9_scale_y2_j2 z a.1 a.2) ?_ (fun J2 => ?_)
    · rintro ⟨v7, v8⟩ h
      replace h : vp9_scale_y2_j2 z v7 v8 = _ := h
      unfold vp9_scale_y2_j2 at h
      refine .sq ?_
      refine .rg (u (ld tf60 (.t rfl) rfl rfl) <| st tf60 (.t rfl) rfl (.t rfl) rfl rfl rfl <| .nil _) rfl ?_
      obtain rfl := Option.some.inj h
      exact .rtx (o := [(9000, some (.box [.ro (.list 1 (List.map e8 v8.c.bytes)), .ro (.int .i64 v8.c.at_), .ro (.int .i64 v8.c.err)]))]) Try.func103 (.c tf60 rfl rfl rfl <| .n) (.c rfl .n) rfl rfl (.c rfl .n) rfl
    refine .bq h (.t rfl) (fun h => ?_) (fun h => ?_)
    · refine be h fun x9 hx9 h => ?_
      refine be h fun x10 hx10 h => ?_
      refine .rd mixed (u (lc tf146 (.t rfl) rfl) <| u (fa ff60_4 (.t rfl)) <| u (ld tf58 (.t rfl) rfl rfl) <| u (lc tf146 (.t rfl) rfl) <| u (fa ff60_4 (.t rfl)) <| u (ld tf58 (.t rfl) rfl rfl) <| u (lnm sf58 (.t rfl)) <| ciy 44000000 cm121_144 (AY.ly (fun i => bif Nat.beq i 9000 then 9000 else i) (vp9_reader_num_y1_c hx9) rfl rfl rfl rfl rfl rfl rfl) (.t rfl) (.c (.t rfl) <| .c (.i rfl) <| .n) rfl (.c rfl <| .n) rfl <| u (mfn (.c (.t rfl) <| .n)) <| cly 46000000 cf116 (AY.ly (fun i => bif Nat.beq i 9000 then 9000 else i) (vp9_gone_Group_y2_c hx10) rfl rfl rfl rfl rfl rfl rfl)  (.c (.t rfl) <| .c (.t rfl) <| .c (.t rfl) <| .c (.t rfl) <| .n) rfl (.c rfl <| .n) rfl <| u (fa ff60_4 (.t rfl)) <| st tf58 (.t rfl) rfl (.t rfl) rfl rfl rfl <| .nil _) (by kernel_rfl) rfl ?_
      refine .fz 46008000 rfl ?_
      exact .kq (J2 ({ v5 with pics := x10.1 }, x10.2) h) (.c rfl (.c rfl (.c rfl .n))) (.c rfl (.c rfl (.c rfl .n)))
    · refine .skp ?_
      exact .kq (J2 (v5, v6) h) (.c rfl (.c rfl (.c rfl .n))) (.c rfl (.c rfl (.c rfl .n)))
  refine .bq h (.t rfl) (fun h => ?_) (fun h => ?_)
  · refine be h fun x11 hx11 h => ?_
    refine .rg (u (lc tf146 (.t rfl) rfl) <| u (fa ff60_2 (.t rfl)) <| u (ld tf24 (.t rfl) rfl rfl) <| u (fa ff60_0 (.t rfl)) <| u (ld tf3 (.t rfl) rfl rfl) <| u (mfn (.c (.t rfl) <| .n)) <| cly 33000000 cf114 (AY.ly (fun i => bif Nat.beq i 9000 then 9000 else i) (vp9_gone_Size_y2_c hx11) rfl rfl rfl rfl rfl rfl rfl)  (.c (.t rfl) <| .c (.t rfl) <| .c (.t rfl) <| .c (.t rfl) <| .n) rfl (.c rfl <| .n) rfl <| u (fa ff60_2 (.t rfl)) <| st tf24 (.t rfl) rfl (.t rfl) rfl rfl rfl <| .nil _) rfl ?_
    refine .fz 33008000 rfl ?_
    exact .kq (J1 ((Scale.mk (ar .add .i64 x1.1 1) x2.1 x11.1 x3.1 p_s.pics), x11.2) h) (.c rfl (.c rfl (.c rfl (.c rfl .n)))) (.c rfl (.c rfl (.c rfl .n)))
  · refine .skp ?_
    exact .kq (J1 ((Scale.mk (ar .add .i64 x1.1 1) x2.1 p_s.sizes x3.1 p_s.pics), x4.2) h) (.c rfl (.c rfl (.c rfl (.c rfl .n)))) (.c rfl (.c rfl (.c rfl .n)))

theorem vp9_reader_bad_y1_c {z : Option Nat} {box0 : vp9_reader} {r : vp9_reader} (h : vp9_reader_bad_y1 z box0 = some r) :
    AY Try.prog 142 [.ptr 9000 0] [(9000, [.list 1 (List.map e8 box0.c.bytes), .int .i64 box0.c.at_, .int .i64 box0.c.err])] [0] (.ro (.tup [])) [] [(0, .ptr 9000 0)] [(9000, [.list 1 (List.map e8 r.c.bytes), .int .i64 r.c.at_, .int .i64 r.c.err])] := by
  refine AY.of Try.func142 rfl rfl fun w X M0 hM pv => ?_
  refine .kq (l := [(0, .ptr 9000 0)]) (o := [(9000, some (.box [.ro (.list 1 (List.map e8 box0.c.bytes)), .ro (.int .i64 box0.c.at_), .ro (.int .i64 box0.c.err)]))]) ?_ (.c rfl .n) (.c rfl .n)
  unfold vp9_reader_bad_y1 at h
  refine .sq ?_
  refine .rg (u (mv (.t rfl)) <| u (nkp (.t rfl)) <| u (fa ff123_0 (.t rfl)) <| u (fa ff32_2 (.t rfl)) <| u (ld tf30 (.t rfl) rfl rfl) <| u (bc (.t rfl) (.i rfl) rfl rfl) <| .nil _) rfl ?_
  refine .bq h (.t rfl) (fun h => ?_) (fun h => ?_)
  · refine .rg (u (mv (.t rfl)) <| u (nkp (.t rfl)) <| u (fa ff123_0 (.t rfl)) <| u (fa ff32_2 (.t rfl)) <| st tf30 (.t rfl) rfl (.i rfl) rfl rfl rfl <| .nil _) rfl ?_
    obtain rfl := Option.some.inj h
    exact .rte (o := [(9000, some (.box [.ro (.list 1 (List.map e8 box0.c.bytes)), .ro (.int .i64 box0.c.at_), .ro (.int .i64 6)]))]) Try.func142 (.n) (.c rfl .n) rfl rfl (.c rfl .n) rfl
  · refine .skp ?_
    obtain rfl := Option.some.inj h
    exact .rte (o := [(9000, some (.box [.ro (.list 1 (List.map e8 box0.c.bytes)), .ro (.int .i64 box0.c.at_), .ro (.int .i64 box0.c.err)]))]) Try.func142 (.n) (.c rfl .n) rfl rfl (.c rfl .n) rfl

theorem vp9_references_y2_c {z : Option Nat} {l : List Int} {box0 : vp9_reader} {r : List Int × vp9_reader} (h : vp9_references_y2 z l box0 = some r) :
    AY Try.prog 102 [.ifc 121 (.ptr 9000 0), .ro (.list 1 (List.map (ei .i64) l))] [(9000, [.list 1 (List.map e8 box0.c.bytes), .int .i64 box0.c.at_, .int .i64 box0.c.err])] [0] (.own 8000) [(8000, .arr 3 1 (List.map (ei .i64) r.1))] [(0, .ifc 121 (.ptr 9000 0))] [(9000, [.list 1 (List.map e8 r.2.c.bytes), .int .i64 r.2.c.at_, .int .i64 r.2.c.err])] := by
  refine AY.of Try.func102 rfl rfl fun w X M0 hM pv => ?_
  refine .kq (l := [(0, .ifc 121 (.ptr 9000 0)), (1, .ro (.list 1 (List.map (ei .i64) l)))]) (o := [(9000, some (.box [.ro (.list 1 (List.map e8 box0.c.bytes)), .ro (.int .i64 box0.c.at_), .ro (.int .i64 box0.c.err)]))]) ?_ (.c rfl (.c rfl .n)) (.c rfl .n)
  unfold vp9_references_y2 at h
  refine .sq ?_
  refine .rg (anm (ei .i64) 4 3 1 rfl rfl <| .nil _) rfl ?_
  refine .sq ?_
  refine .rg (anm (ei .i64) 5 3 1 rfl rfl <| .nil _) rfl ?_
  refine .sq ?_
  refine .sq ?_
  refine .rg (u (asg .b) <| .nil _) rfl ?_
  refine .bl ?_
  unfold vp9_references_y2_l1 at h
  refine .kq (.lo (fun (s : List Int × Bool × vp9_reader) => ⟨[(0, .ifc 121 (.ptr 9000 0)), (1, .ro (.list 1 (List.map (ei .i64) l))), (5, .own 5), (6, .ro (.bool s.2.1))], [(5, some (.arr 3 1 (List.map (ei .i64) s.1))), (9000, some (.box [.ro (.list 1 (List.map e8 s.2.2.c.bytes)), .ro (.int .i64 s.2.2.c.at_), .ro (.int .i64 s.2.2.c.err)]))]⟩) h ?_) (.c rfl (.c rfl (.c rfl (.c rfl .n)))) (.c rfl (.c rfl .n))
  rintro ⟨v1, v2, v3⟩ u1 h ih1 hx1
  replace h : vp9_references_y2_s1 z l v1 v2 v3 = _ := h
  unfold vp9_references_y2_s1 at h
  refine .sq ?_
  refine .sq ?_
  rcases btf v2 with hs0 | hs0
  · replace h := ifT h hs0
    refine be h fun x4 hx4 h => ?_
    refine .rg (u (mv (.t rfl)) <| u (mv (.t rfl)) <| gdk rfl rfl hs0 <| u (mv (.t rfl)) <| gdk rfl rfl hs0 <| ciy 12000000 cm121_143 (AY.ly (fun i => bif Nat.beq i 9000 then 9000 else i) (vp9_reader_failed_y1_c hx4) rfl rfl rfl rfl rfl rfl rfl) (.t rfl) (.n) rfl (.c rfl <| .n) rfl <| gdk rfl rfl hs0 <| u (no (.t rfl)) <| u (pkt hs0 (.t rfl) (.t rfl)) <| .nil _) rfl ?_
    refine .bq h (.t rfl) (fun h => ?_) (fun h => ?_)
    · refine .skp ?_
      refine .bl ?_
      refine .sq ?_
      refine .rg (u (asg (.i rfl)) <| .nil _) rfl ?_
      refine .sq ?_
      refine .sq ?_
      refine .rg (u (mv (.t rfl)) <| u (lom sf22 (.t rfl) rfl) <| u (mv (.t rfl)) <| u (lnm sf22 (.t rfl)) <| u (bc (.t rfl) (.t rfl) rfl rfl) <| .nil _) rfl ?_
      refine .jq (t := some u1) (fun (a : Int) => ⟨[(0, .ifc 121 (.ptr 9000 0)), (1, .ro (.list 1 (List.map (ei .i64) l))), (5, .own 5), (7, .ro (.int .i64 a))], [(5, some (.arr 3 1 (List.map (ei .i64) v1))), (9000, some (.box [.ro (.list 1 (List.map e8 x4.2.c.bytes)), .ro (.int .i64 x4.2.c.at_), .ro (.int .i64 x4.2.c.err)]))]⟩) (fun (a : Int) => vp9_references_y2_j2 z l v1 x4 a) ?_ (fun J2 => ?_)
      · intro v5 h
        replace h : vp9_references_y2_j2 z l v1 x4 v5 = _ := h
        unfold vp9_references_y2_j2 at h
        refine .sq ?_
        refine be h fun x6 hx6 h => ?_
        refine be h fun x7 hx7 h => ?_
        refine .rg (u (mv (.t rfl)) <| u (mv (.t rfl)) <| u (mv (.t rfl)) <| ciy 28000000 cm121_144 (AY.ly (fun i => bif Nat.beq i 9000 then 9000 else i) (vp9_reader_num_y1_c hx6) rfl rfl rfl rfl rfl rfl rfl) (.t rfl) (.c (.t rfl) <| .c (.i rfl) <| .n) rfl (.c rfl <| .n) rfl <| bs (F := (ei .i64)) (l := [x6.1]) 28 pf22 (.c (.t rfl) rfl <| .n) rfl (fun _ _ => rfl) rfl rfl <| apo 29 pf22 (.t rfl) rfl (.t rfl) rfl hx7 rfl <| u (asg (.t rfl)) <| .nil _) rfl ?_
        refine .sq ?_
        refine be h fun x8 hx8 h => ?_
        refine .rg (u (mv (.t rfl)) <| u (mv (.t rfl)) <| u (lom sf22 (.t rfl) rfl) <| u (mv (.t rfl)) <| u (lnm sf22 (.t rfl)) <| u (bc (.t rfl) (.t rfl) rfl rfl) <| cly 37000000 cf100 (AY.ly (fun i => bif Nat.beq i 9000 then 9000 else i) (vp9_truth_y2_c hx8) rfl rfl rfl rfl rfl rfl rfl)  (.c (.t rfl) <| .c (.t rfl) <| .n) rfl (.c rfl <| .n) rfl <| u (asg (.t rfl)) <| .nil _) rfl ?_
        refine .sq ?_
        refine be h fun x9 hx9 h => ?_
        refine .rg (u (mv (.t rfl)) <| u (mv (.t rfl)) <| u (lom sf22 (.t rfl) rfl) <| u (bi (.t rfl) (.i rfl) rfl) <| u (io sf22 (.t rfl) rfl (.t rfl) (ix_map (ei .i64) hx9)) <| u (le tf3 (.t rfl) rfl (ix_lt (ix_map _ hx9)).2.2 rfl) <| u (bc (.t rfl) (.i rfl) rfl rfl) <| u (mv (.t rfl)) <| gd rfl rfl (fun hB => mv (.t rfl)) <| gd rfl rfl (fun hB => mv (.m rfl hB)) <| gm rfl rfl (fun hB => mv (.t rfl)) <| gm rfl rfl (fun hB => lom sf22 (.m rfl hB) rfl) <| gm rfl rfl (fun hB => bc (.m rfl hB) (.i rfl) rfl rfl) <| gd rfl rfl (fun hB => pkam (.m rfl hB) (.t rfl) hB) <| u (pko (.t rfl) (.t rfl)) <| .nil _) rfl ?_
        refine .bq h (.t rfl) (fun h => ?_) (fun h => ?_)
        · refine be h fun x10 hx10 h => ?_
          refine .rg (u (mv (.t rfl)) <| ciy 54000000 cm121_142 (AY.ly (fun i => bif Nat.beq i 9000 then 9000 else i) (vp9_reader_bad_y1_c hx10) rfl rfl rfl rfl rfl rfl rfl) (.t rfl) (.n) rfl (.c rfl <| .n) rfl <| .nil _) rfl ?_
          refine .ib ?_
          exact .ks (fun i => bif Nat.beq i 5 then 29 else i) (.il (ih1 (x7, x8.1, x10) (nxi h))) (.c rfl (.c rfl (.c rfl (.c rfl .n)))) (.c rfl (.c rfl .n)) rfl
        · refine .skp ?_
          refine .ib ?_
          exact .ks (fun i => bif Nat.beq i 5 then 29 else i) (.il (ih1 (x7, x8.1, x8.2) (nxi h))) (.c rfl (.c rfl (.c rfl (.c rfl .n)))) (.c rfl (.c rfl .n)) rfl
      refine .bq h (.t rfl) (fun h => ?_) (fun h => ?_)
      · refine be h fun x11 hx11 h => ?_
        refine .rg (u (mv (.t rfl)) <| u (mv (.t rfl)) <| u (lom sf22 (.t rfl) rfl) <| u (ia sf22 (.t rfl) (.t rfl) (ix_map (ei .i64) hx11)) <| u (lr tf3 (.t rfl) rfl) <| u (asg (.t rfl)) <| .nil _) rfl ?_
        exact .kq (J2 x11 h) (.c rfl (.c rfl (.c rfl (.c rfl .n)))) (.c rfl (.c rfl .n))
      · refine .skp ?_
        exact .kq (J2 0 h) (.c rfl (.c rfl (.c rfl (.c rfl .n)))) (.c rfl (.c rfl .n))
    · refine .xt rfl ?_
      replace h := mpR h hx1
      refine .sq ?_
      refine .rg (u (mv (.t rfl)) <| u (asg (.t rfl)) <| .nil _) rfl ?_
      obtain rfl := Option.some.inj h
      refine .ks (l := [(4, .own 8000), (0, .ifc 121 (.ptr 9000 0))]) (o := [(9000, some (.box [.ro (.list 1 (List.map e8 x4.2.c.bytes)), .ro (.int .i64 x4.2.c.at_), .ro (.int .i64 x4.2.c.err)])), (8000, some (.arr 3 1 (List.map (ei .i64) v1)))]) (fun i => bif Nat.beq i 8000 then 5 else i) ?_ (.c rfl (.c rfl .n)) (.c rfl (.c rfl .n)) rfl
      exact .rtx (o := [(9000, some (.box [.ro (.list 1 (List.map e8 x4.2.c.bytes)), .ro (.int .i64 x4.2.c.at_), .ro (.int .i64 x4.2.c.err)])), (8000, some (.arr 3 1 (List.map (ei .i64) v1)))]) Try.func102 (.t rfl <| .n) (.c rfl (.c rfl .n)) rfl rfl (.c rfl .n) rfl
  · replace h := ifF h hs0
    refine .rg (u (mv (.t rfl)) <| u (mv (.t rfl)) <| gd (v := .ro (.bool false)) (rs := []) (ro := []) rfl rfl (fun hB => absurd (hB.symm.trans hs0) (by decide)) <| gd (v := .ro (.bool false)) (rs := []) (ro := []) rfl rfl (fun hB => absurd (hB.symm.trans hs0) (by decide)) <| gd (v := .ro (.bool false)) (rs := []) (ro := []) rfl rfl (fun hB => absurd (hB.symm.trans hs0) (by decide)) <| u (pkf hs0 (.t rfl) .b) <| .nil _) rfl ?_
    refine .cf (.t rfl) rfl ?_
    refine .xt rfl ?_
    replace h := mpR h hx1
    refine .sq ?_
    refine .rg (u (mv (.t rfl)) <| u (asg (.t rfl)) <| .nil _) rfl ?_
    obtain rfl := Option.some.inj h
    refine .ks (l := [(4, .own 8000), (0, .ifc 121 (.ptr 9000 0))]) (o := [(9000, some (.box [.ro (.list 1 (List.map e8 v3.c.bytes)), .ro (.int .i64 v3.c.at_), .ro (.int .i64 v3.c.err)])), (8000, some (.arr 3 1 (List.map (ei .i64) v1)))]) (fun i => bif Nat.beq i 8000 then 5 else i) ?_ (.c rfl (.c rfl .n)) (.c rfl (.c rfl .n)) rfl
    exact .rtx (o := [(9000, some (.box [.ro (.list 1 (List.map e8 v3.c.bytes)), .ro (.int .i64 v3.c.at_), .ro (.int .i64 v3.c.err)])), (8000, some (.arr 3 1 (List.map (ei .i64) v1)))]) Try.func102 (.t rfl <| .n) (.c rfl (.c rfl .n)) rfl rfl (.c rfl .n) rfl

end Xb
