/- Own text: QWalksA. -/
import Derived.Test.YtjjaohddaclafaaQFacts
import Derived.Test.YtjjaohddaclafaaQRaw
import Derived.Test.YtjjaohddaclafaaQIter
set_option linter.all false
set_option linter.unusedVariables false
set_option linter.unusedSimpArgs false
set_option linter.unnecessarySimpa false
set_option linter.deprecated false
namespace Xb
open Go Go.Proofs
set_option linter.unusedVariables false
set_option maxRecDepth 20000

theorem av1_structure_c (f : Frame) (known : Structure) :
    AC Try.prog 20 [.ro (enc_Frame f), .ro (enc_Structure known)] (.ro (enc_Structure (av1_structure f known))) [] := by
  obtain ⟨r, h⟩ : ∃ r, av1_structure f known = r := ⟨_, rfl⟩
  rw [h]
  refine AC.of Try.func20 rfl rfl fun w M0 hM => ?_
  unfold av1_structure at h
  refine .sq ?_
  refine .rg (bx 2 (.t rfl) rfl rfl <| bx 3 (.t rfl) rfl rfl <| al 4 zf26 rfl <| .nil _) rfl ?_
  refine .sq ?_
  refine .sq ?_
  refine .rg (u (fa ff29_4 (.t rfl)) <| u (ld tf4 (.t rfl) rfl rfl) <| .nil _) rfl ?_
  refine .bq h (.t rfl) (fun h => ?_) (fun h => ?_)
  · refine .sq ?_
    refine .rg (u (fa ff29_5 (.t rfl)) <| u (ld tf26 (.t rfl) rfl rfl) <| st tf26 (.t rfl) rfl (.t rfl) rfl rfl rfl <| .nil _) rfl ?_
    subst h
    exact .rt Try.func20 (.c tf26 rfl rfl rfl <| .n) .n rfl rfl
  · refine .skp ?_
    refine .sq ?_
    refine .rg (u (ld tf26 (.t rfl) rfl rfl) <| st tf26 (.t rfl) rfl (.t rfl) rfl rfl rfl <| .nil _) rfl ?_
    subst h
    exact .rt Try.func20 (.c tf26 rfl rfl rfl <| .n) .n rfl rfl

theorem templ_within_1_c (n : Int) (cap0 : Int) (cap1 : Int) :
    AC Try.prog 53 [.ro (.int .i64 n), .rptr [.int .i64 cap0], .rptr [.int .i64 cap1]] (.ro (.bool (templ_within_1 n cap0 cap1))) [] := by
  obtain ⟨r, h⟩ : ∃ r, templ_within_1 n cap0 cap1 = r := ⟨_, rfl⟩
  rw [h]
  refine AC.of Try.func53 rfl rfl fun w M0 hM => ?_
  unfold templ_within_1 at h
  refine .sq ?_
  refine .rg (u (asg .b) <| .nil _) rfl ?_
  refine .sq ?_
  refine .rg (u (mv (.t rfl)) <| u (lr tf3 (.t rfl) rfl) <| u (bc (.t rfl) (.t rfl) rfl rfl) <| u (mv (.t rfl)) <| gd rfl rfl (fun hB => mv (.t rfl)) <| gd rfl rfl (fun hB => lr tf3 (.t rfl) rfl) <| gd rfl rfl (fun hB => bc (.m rfl hB) (.m rfl hB) rfl rfl) <| u (pko (.t rfl) (.t rfl)) <| u (asg (.t rfl)) <| .nil _) rfl ?_
  subst h
  exact .rt Try.func53 (.t rfl <| .n) .n rfl rfl

theorem slices_IndexFunc_c {z : Option Nat} {p_s : List Int} {f : (Int → Option Bool)} {g_f : FuncId} {c_f : List V} (hF_f : CF Try.prog g_f) (h_f : ∀ (a0 : Int) (q : Bool), f a0 = some q → AC Try.prog g_f ([.ro (.int .i64 a0)] ++ c_f) (.ro (.bool q)) []) {r : Int} (h : slices_IndexFunc z p_s f = some r) :
    AC Try.prog 65 [.ro (.list 1 (List.map (ei .i64) p_s)), .fn (.func g_f) [] c_f] (.ro (.int .i64 r)) [] := by
  refine AC.of Try.func65 rfl rfl fun w M0 hM => ?_
  unfold slices_IndexFunc at h
  refine .sq ?_
  refine .rg (u (asg (.i rfl)) <| .nil _) rfl ?_
  refine .sq ?_
  refine .sq ?_
  refine .rg (u (mv (.t rfl)) <| u (lnm sf22 (.t rfl)) <| u (mv (.i rfl)) <| .nil _) rfl ?_
  refine .bl ?_
  unfold slices_IndexFunc_l1 at h
  refine .kq (.lo (fun (s : Int) => ⟨[(0, .ro (.list 1 (List.map (ei .i64) p_s))), (1, .fn (.func g_f) [] c_f), (7, .ro (.int .i64 (p_s.length : Int))), (8, .ro (.int .i64 s))], []⟩) h ?_) (.c rfl (.c rfl (.c rfl (.c rfl .n)))) .n
  intro v1 u1 h ih1 hx1
  replace h : slices_IndexFunc_s1 z p_s f v1 = _ := h
  unfold slices_IndexFunc_s1 at h
  refine .sq ?_
  refine .rg (u (bc (.t rfl) (.t rfl) rfl rfl) <| .nil _) rfl ?_
  refine .sq ?_
  refine .bq h (.t rfl) (fun h => ?_) (fun h => ?_)
  · refine .skp ?_
    refine .sq ?_
    refine .bl ?_
    refine .sq ?_
    refine .rg (u (mv (.t rfl)) <| u (asg (.t rfl)) <| .nil _) rfl ?_
    refine .sq ?_
    refine be h fun x2 hx2 h => ?_
    refine be h fun x3 hx3 h => ?_
    refine .rg (u (mv (.t rfl)) <| u (mv (.t rfl)) <| u (mv (.t rfl)) <| u (ia sf22 (.t rfl) (.t rfl) (ix_map (ei .i64) hx2)) <| u (lr tf3 (.t rfl) rfl) <| clv [] hF_f (.t rfl) (h_f _ _ hx3) (.c (.t rfl) <| .n) (.inl rfl) <| .nil _) rfl ?_
    refine .bq h (.t rfl) (fun h => ?_) (fun h => ?_)
    · refine .sq ?_
      refine .rg (u (mv (.t rfl)) <| u (asg (.t rfl)) <| .nil _) rfl ?_
      replace h := mpR h hx1
      obtain rfl := Option.some.inj h
      exact .rt Try.func65 (.t rfl <| .n) .n rfl rfl
    · refine .skp ?_
      refine .ib ?_
      refine .rg (u (bi (.t rfl) (.i rfl) rfl) <| u (mv (.t rfl)) <| .nil _) rfl ?_
      exact .kq (.il (ih1 (ar .add .i64 v1 1) (nxi h))) (.c rfl (.c rfl (.c rfl (.c rfl .n)))) .n
  · refine .xt rfl ?_
    replace h := mpR h hx1
    refine .sq ?_
    refine .rg (u (asg (.i rfl)) <| .nil _) rfl ?_
    obtain rfl := Option.some.inj h
    exact .rt Try.func65 (.t rfl <| .n) .n rfl rfl

theorem slices_ContainsFunc_c {z : Option Nat} {p_s : List Int} {f : (Int → Option Bool)} {g_f : FuncId} {c_f : List V} (hF_f : CF Try.prog g_f) (h_f : ∀ (a0 : Int) (q : Bool), f a0 = some q → AC Try.prog g_f ([.ro (.int .i64 a0)] ++ c_f) (.ro (.bool q)) []) {r : Bool} (h : slices_ContainsFunc z p_s f = some r) :
    AC Try.prog 52 [.ro (.list 1 (List.map (ei .i64) p_s)), .fn (.func g_f) [] c_f] (.ro (.bool r)) [] := by
  refine AC.of Try.func52 rfl rfl fun w M0 hM => ?_
  unfold slices_ContainsFunc at h
  refine .sq ?_
  refine .rg (u (asg .b) <| .nil _) rfl ?_
  refine .sq ?_
  refine be h fun x1 hx1 h => ?_
  refine .rg (u (mv (.t rfl)) <| u (mv (.t rfl)) <| cl [] cf65 (slices_IndexFunc_c hF_f h_f hx1) (.c (.t rfl) <| .c (.t rfl) <| .n) (.inl rfl) <| u (bc (.t rfl) (.i rfl) rfl rfl) <| u (asg (.t rfl)) <| .nil _) rfl ?_
  obtain rfl := Option.some.inj h
  exact .rt Try.func52 (.t rfl <| .n) .n rfl rfl

theorem templ_within_c {z : Option Nat} {l : List Int} {least : Int} {most : Int} {r : Bool} (h : templ_within z l least most = some r) :
    AC Try.prog 33 [.ro (.list 1 (List.map (ei .i64) l)), .ro (.int .i64 least), .ro (.int .i64 most)] (.ro (.bool r)) [] := by
  refine AC.of Try.func33 rfl rfl fun w M0 hM => ?_
  unfold templ_within at h
  refine .sq ?_
  refine .rg (bx 4 (.t rfl) rfl rfl <| bx 5 (.t rfl) rfl rfl <| u (asg .b) <| .nil _) rfl ?_
  refine .fb 4 rfl rfl ?_
  refine .fb 5 rfl rfl ?_
  refine .sq ?_
  refine be h fun x1 hx1 h => ?_
  refine .rg (u (mv (.t rfl)) <| u (mfn (.c (.t rfl) <| .c (.t rfl) <| .n)) <| cl [] cf52 (slices_ContainsFunc_c cf53 (fun y0 q h => by obtain rfl := Option.some.inj h; exact templ_within_1_c y0 least most) hx1) (.c (.t rfl) <| .c (.t rfl) <| .n) (.inl rfl) <| u (no (.t rfl)) <| u (asg (.t rfl)) <| .nil _) rfl ?_
  obtain rfl := Option.some.inj h
  exact .rt Try.func33 (.t rfl <| .n) .n rfl rfl

theorem templ_protected_c {z : Option Nat} {p_s : Structure} {r : Bool} (h : templ_protected z p_s = some r) :
    AC Try.prog 34 [.ro (enc_Structure p_s)] (.ro (.bool r)) [] := by
  refine AC.of Try.func34 rfl rfl fun w M0 hM => ?_
  unfold templ_protected at h
  refine .sq ?_
  refine .rg (bx 1 (.t rfl) rfl rfl <| u (asg .b) <| .nil _) rfl ?_
  refine .sq ?_
  refine .sq ?_
  refine .rg (u (fa ff26_2 (.t rfl)) <| u (ld tf3 (.t rfl) rfl rfl) <| u (bc (.t rfl) (.i rfl) rfl rfl) <| .nil _) rfl ?_
  refine .bq h (.t rfl) (fun h => ?_) (fun h => ?_)
  · refine .sq ?_
    refine .rg (u (fa ff26_3 (.t rfl)) <| u (ld tf22 (.t rfl) rfl rfl) <| u (lnm sf22 (.t rfl)) <| u (bc (.t rfl) (.i rfl) rfl rfl) <| u (asg (.t rfl)) <| .nil _) rfl ?_
    obtain rfl := Option.some.inj h
    exact .rt Try.func34 (.t rfl <| .n) .n rfl rfl
  · refine .skp ?_
    refine .sq ?_
    refine be h fun x1 hx1 h => ?_
    refine .rg (u (fa ff26_3 (.t rfl)) <| u (ld tf22 (.t rfl) rfl rfl) <| u (lnm sf22 (.t rfl)) <| u (fa ff26_1 (.t rfl)) <| u (ld tf3 (.t rfl) rfl rfl) <| u (bc (.t rfl) (.t rfl) rfl rfl) <| u (mv (.t rfl)) <| gd rfl rfl (fun hB => fa ff26_3 (.t rfl)) <| gd rfl rfl (fun hB => ld tf22 (.m rfl hB) rfl rfl) <| gd rfl rfl (fun hB => fa ff26_2 (.t rfl)) <| gd rfl rfl (fun hB => ld tf3 (.m rfl hB) rfl rfl) <| gd rfl rfl (fun hB => bi (.m rfl hB) (.i rfl) rfl) <| cg rfl rfl cf33 (fun hB => (templ_within_c (gTt hx1 hB))) (fun hB => .c (.m rfl hB) <| .c (.i rfl) <| .c (.m rfl hB) <| .n) (.inl rfl) <| u (pka (.t rfl) (.t rfl)) <| u (asg (.t rfl)) <| .nil _) rfl ?_
    obtain rfl := Option.some.inj h
    exact .rt Try.func34 (.t rfl <| .n) .n rfl rfl

theorem templ_template_c {z : Option Nat} {p_s : Structure} {t : Template} {r : Bool} (h : templ_template z p_s t = some r) :
    AC Try.prog 35 [.ro (enc_Structure p_s), .ro (enc_Template t)] (.ro (.bool r)) [] := by
  refine AC.of Try.func35 rfl rfl fun w M0 hM => ?_
  unfold templ_template at h
  refine .sq ?_
  refine .rg (bx 2 (.t rfl) rfl rfl <| bx 3 (.t rfl) rfl rfl <| u (asg .b) <| .nil _) rfl ?_
  refine .sq ?_
  refine be h fun x1 hx1 h => ?_
  refine be h fun x2 hx2 h => ?_
  refine be h fun x3 hx3 h => ?_
  refine .rg (u (fa ff46_2 (.t rfl)) <| u (ld tf22 (.t rfl) rfl rfl) <| u (lnm sf22 (.t rfl)) <| u (fa ff26_1 (.t rfl)) <| u (ld tf3 (.t rfl) rfl rfl) <| u (bc (.t rfl) (.t rfl) rfl rfl) <| u (mv (.t rfl)) <| gd rfl rfl (fun hB => fa ff46_2 (.t rfl)) <| gd rfl rfl (fun hB => ld tf22 (.m rfl hB) rfl rfl) <| cg rfl rfl cf33 (fun hB => (templ_within_c (gTt hx1 hB))) (fun hB => .c (.m rfl hB) <| .c (.i rfl) <| .c (.i rfl) <| .n) (.inl rfl) <| u (pka (.t rfl) (.t rfl)) <| u (mv (.t rfl)) <| gd rfl rfl (fun hB => fa ff46_3 (.t rfl)) <| gd rfl rfl (fun hB => ld tf22 (.m rfl hB) rfl rfl) <| gd rfl rfl (fun hB => lnm sf22 (.m rfl hB)) <| gd rfl rfl (fun hB => bc (.m rfl hB) (.i rfl) rfl rfl) <| u (pka (.t rfl) (.t rfl)) <| u (mv (.t rfl)) <| gd rfl rfl (fun hB => fa ff46_3 (.t rfl)) <| gd rfl rfl (fun hB => ld tf22 (.m rfl hB) rfl rfl) <| cg rfl rfl cf33 (fun hB => (templ_within_c (gTt hx2 hB))) (fun hB => .c (.m rfl hB) <| .c (.i rfl) <| .c (.i rfl) <| .n) (.inl rfl) <| u (pka (.t rfl) (.t rfl)) <| u (mv (.t rfl)) <| gd rfl rfl (fun hB => fa ff46_4 (.t rfl)) <| gd rfl rfl (fun hB => ld tf22 (.m rfl hB) rfl rfl) <| gd rfl rfl (fun hB => lnm sf22 (.m rfl hB)) <| gd rfl rfl (fun hB => fa ff26_2 (.t rfl)) <| gd rfl rfl (fun hB => ld tf3 (.m rfl hB) rfl rfl) <| gd rfl rfl (fun hB => bc (.m rfl hB) (.m rfl hB) rfl rfl) <| u (pka (.t rfl) (.t rfl)) <| u (mv (.t rfl)) <| gd rfl rfl (fun hB => fa ff46_4 (.t rfl)) <| gd rfl rfl (fun hB => ld tf22 (.m rfl hB) rfl rfl) <| cg rfl rfl cf33 (fun hB => (templ_within_c (gTt hx3 hB))) (fun hB => .c (.m rfl hB) <| .c (.i rfl) <| .c (.i rfl) <| .n) (.inl rfl) <| u (pka (.t rfl) (.t rfl)) <| u (asg (.t rfl)) <| .nil _) rfl ?_
  obtain rfl := Option.some.inj h
  exact .rt Try.func35 (.t rfl <| .n) .n rfl rfl

theorem templ_follows_c (p_a : Template) (b : Template) :
    AC Try.prog 36 [.ro (enc_Template p_a), .ro (enc_Template b)] (.ro (.int .i64 (templ_follows p_a b))) [] := by
  obtain ⟨r, h⟩ : ∃ r, templ_follows p_a b = r := ⟨_, rfl⟩
  rw [h]
  refine AC.of Try.func36 rfl rfl fun w M0 hM => ?_
  unfold templ_follows at h
  refine .sq ?_
  refine .rg (bx 2 (.t rfl) rfl rfl <| bx 3 (.t rfl) rfl rfl <| u (asg (.i rfl)) <| .nil _) rfl ?_
  refine .sq ?_
  refine .bl ?_
  refine .sq ?_
  refine .rg (u (fa ff46_0 (.t rfl)) <| u (ld tf3 (.t rfl) rfl rfl) <| u (fa ff46_0 (.t rfl)) <| u (ld tf3 (.t rfl) rfl rfl) <| u (bc (.t rfl) (.t rfl) rfl rfl) <| u (mv (.t rfl)) <| gd rfl rfl (fun hB => fa ff46_1 (.t rfl)) <| gd rfl rfl (fun hB => ld tf3 (.m rfl hB) rfl rfl) <| gd rfl rfl (fun hB => fa ff46_1 (.t rfl)) <| gd rfl rfl (fun hB => ld tf3 (.m rfl hB) rfl rfl) <| gd rfl rfl (fun hB => bc (.m rfl hB) (.m rfl hB) rfl rfl) <| u (pka (.t rfl) (.t rfl)) <| u (asg (.t rfl)) <| .nil _) rfl ?_
  refine .bq h (.t rfl) (fun h => ?_) (fun h => ?_)
  · refine .sq ?_
    refine .rg (u (asg (.i rfl)) <| .nil _) rfl ?_
    subst h
    exact .rt Try.func36 (.t rfl <| .n) .n rfl rfl
  · refine .sq ?_
    refine .rg (u (fa ff46_0 (.t rfl)) <| u (ld tf3 (.t rfl) rfl rfl) <| u (fa ff46_0 (.t rfl)) <| u (ld tf3 (.t rfl) rfl rfl) <| u (bc (.t rfl) (.t rfl) rfl rfl) <| u (mv (.t rfl)) <| gd rfl rfl (fun hB => fa ff46_1 (.t rfl)) <| gd rfl rfl (fun hB => ld tf3 (.m rfl hB) rfl rfl) <| gd rfl rfl (fun hB => bi (.m rfl hB) (.i rfl) rfl) <| gd rfl rfl (fun hB => fa ff46_1 (.t rfl)) <| gd rfl rfl (fun hB => ld tf3 (.m rfl hB) rfl rfl) <| gd rfl rfl (fun hB => bc (.m rfl hB) (.m rfl hB) rfl rfl) <| u (pka (.t rfl) (.t rfl)) <| u (mv (.t rfl)) <| gd rfl rfl (fun hB => fa ff46_1 (.t rfl)) <| gd rfl rfl (fun hB => ld tf3 (.m rfl hB) rfl rfl) <| gd rfl rfl (fun hB => bc (.m rfl hB) (.i rfl) rfl rfl) <| u (pka (.t rfl) (.t rfl)) <| u (asg (.t rfl)) <| .nil _) rfl ?_
    refine .bq h (.t rfl) (fun h => ?_) (fun h => ?_)
    · refine .sq ?_
      refine .rg (u (asg (.i rfl)) <| .nil _) rfl ?_
      subst h
      exact .rt Try.func36 (.t rfl <| .n) .n rfl rfl
    · refine .sq ?_
      refine .rg (u (fa ff46_0 (.t rfl)) <| u (ld tf3 (.t rfl) rfl rfl) <| u (bi (.t rfl) (.i rfl) rfl) <| u (fa ff46_0 (.t rfl)) <| u (ld tf3 (.t rfl) rfl rfl) <| u (bc (.t rfl) (.t rfl) rfl rfl) <| u (mv (.t rfl)) <| gd rfl rfl (fun hB => fa ff46_0 (.t rfl)) <| gd rfl rfl (fun hB => ld tf3 (.m rfl hB) rfl rfl) <| gd rfl rfl (fun hB => bc (.m rfl hB) (.i rfl) rfl rfl) <| u (pka (.t rfl) (.t rfl)) <| u (mv (.t rfl)) <| gd rfl rfl (fun hB => fa ff46_1 (.t rfl)) <| gd rfl rfl (fun hB => ld tf3 (.m rfl hB) rfl rfl) <| gd rfl rfl (fun hB => bc (.m rfl hB) (.i rfl) rfl rfl) <| u (pka (.t rfl) (.t rfl)) <| u (asg (.t rfl)) <| .nil _) rfl ?_
      refine .bq h (.t rfl) (fun h => ?_) (fun h => ?_)
      · refine .sq ?_
        refine .rg (u (asg (.i rfl)) <| .nil _) rfl ?_
        subst h
        exact .rt Try.func36 (.t rfl <| .n) .n rfl rfl
      · refine .skp ?_
        refine .ib ?_
        refine .sq ?_
        refine .rg (u (asg (.i rfl)) <| .nil _) rfl ?_
        subst h
        exact .rt Try.func36 (.t rfl <| .n) .n rfl rfl

theorem templ_Right_c {z : Option Nat} {p_s : Structure} {r : Bool} (h : templ_Right z p_s = some r) :
    AC Try.prog 14 [.ro (enc_Structure p_s)] (.ro (.bool r)) [] := by
  refine AC.of Try.func14 rfl rfl fun w M0 hM => ?_
  unfold templ_Right at h
  refine .sq ?_
  refine .rg (bx 1 (.t rfl) rfl rfl <| u (asg .b) <| .nil _) rfl ?_
  refine .sq ?_
  refine be h fun x1 hx1 h => ?_
  refine be h fun x2 hx2 h => ?_
  refine be h fun x3 hx3 h => ?_
  refine .rg (u (fa ff26_0 (.t rfl)) <| u (ld tf3 (.t rfl) rfl rfl) <| bs (F := (ei .i64)) (l := [p_s.id_]) 12 pf22 (.c (.t rfl) rfl <| .n) rfl (fun _ _ => rfl) rfl rfl <| cl [] cf33 (templ_within_c hx1) (.b (.t rfl) rfl <| .c (.i rfl) <| .c (.i rfl) <| .n) (.inr rfl) <| u (mv (.t rfl)) <| gd rfl rfl (fun hB => fa ff26_1 (.t rfl)) <| gd rfl rfl (fun hB => ld tf3 (.m rfl hB) rfl rfl) <| ngd rfl rfl (fun hB => bsn (F := (ei .i64)) (l := [p_s.targets]) pf22 (.c (.m rfl hB) rfl <| .n) rfl (fun _ _ => rfl) rfl) <| cg rfl rfl cf33 (fun hB => (templ_within_c (gTt hx2 hB))) (fun hB => .c (.m rfl hB) <| .c (.i rfl) <| .c (.i rfl) <| .n) (.inl rfl) <| u (pka (.t rfl) (.t rfl)) <| u (mv (.t rfl)) <| gd rfl rfl (fun hB => fa ff26_2 (.t rfl)) <| gd rfl rfl (fun hB => ld tf3 (.m rfl hB) rfl rfl) <| ngd rfl rfl (fun hB => bsn (F := (ei .i64)) (l := [p_s.chains]) pf22 (.c (.m rfl hB) rfl <| .n) rfl (fun _ _ => rfl) rfl) <| gd rfl rfl (fun hB => fa ff26_1 (.t rfl)) <| gd rfl rfl (fun hB => ld tf3 (.m rfl hB) rfl rfl) <| cg rfl rfl cf33 (fun hB => (templ_within_c (gTt hx3 hB))) (fun hB => .c (.m rfl hB) <| .c (.i rfl) <| .c (.m rfl hB) <| .n) (.inl rfl) <| u (pka (.t rfl) (.t rfl)) <| u (asg (.t rfl)) <| .nil _) rfl ?_
  refine .sq ?_
  refine .sq ?_
  refine .rg (u (fa ff26_4 (.t rfl)) <| u (ld tf23 (.t rfl) rfl rfl) <| u (lnm sf23 (.t rfl)) <| u (asg (.t rfl)) <| .nil _) rfl ?_
  refine .sq ?_
  refine be h fun x4 hx4 h => ?_
  refine .rg (u (mv (.t rfl)) <| u (no (.t rfl)) <| u (mv (.t rfl)) <| gd rfl rfl (fun hB => ld tf26 (.t rfl) rfl rfl) <| cg rfl rfl cf34 (fun hB => (templ_protected_c (gTt hx4 (nt hB)))) (fun hB => .c (.m rfl hB) <| .n) (.inl rfl) <| gd rfl rfl (fun hB => no (.m rfl hB)) <| u (pko (.t rfl) (.t rfl)) <| u (mv (.t rfl)) <| gd rfl rfl (fun hB => mv (.t rfl)) <| gd rfl rfl (fun hB => bc (.m rfl hB) (.i rfl) rfl rfl) <| u (pko (.t rfl) (.t rfl)) <| u (mv (.t rfl)) <| gd rfl rfl (fun hB => mv (.t rfl)) <| gd rfl rfl (fun hB => bc (.m rfl hB) (.i rfl) rfl rfl) <| u (pko (.t rfl) (.t rfl)) <| .nil _) rfl ?_
  refine .bq h (.t rfl) (fun h => ?_) (fun h => ?_)
  · refine .sq ?_
    refine .rg (u (asg .b) <| .nil _) rfl ?_
    obtain rfl := Option.some.inj h
    exact .rt Try.func14 (.t rfl <| .n) .n rfl rfl
  · refine .skp ?_
    refine .sq ?_
    refine .rg (u (bd bf46 zf46 (.n) rfl) <| al 5 zf46 rfl <| st tf46 (.t rfl) rfl (.t rfl) rfl rfl rfl <| .nil _) rfl ?_
    refine .sq ?_
    refine .sq ?_
    refine .rg (u (fa ff26_4 (.t rfl)) <| u (ld tf23 (.t rfl) rfl rfl) <| u (lnm sf23 (.t rfl)) <| u (mv (.i rfl)) <| .nil _) rfl ?_
    refine .bl ?_
    unfold templ_Right_l1 at h
    refine .kq (.lo (fun (s : Int × Structure × Template) => ⟨[(1, .ptr 1 0), (5, .ptr 5 0), (48, .ro (.list 5 (List.map cells_Template p_s.templates))), (49, .ro (.int .i64 (p_s.templates.length : Int))), (50, .ro (.int .i64 s.1))], [(1, some (.box [.ro (.int .i64 s.2.1.id_), .ro (.int .i64 s.2.1.targets), .ro (.int .i64 s.2.1.chains), .ro (.list 1 (List.map (ei .i64) s.2.1.protect)), .ro (.list 5 (List.map cells_Template s.2.1.templates)), .ro (.list 2 (List.map cells_Size s.2.1.sizes))])), (5, some (.box [.ro (.int .i64 s.2.2.sid), .ro (.int .i64 s.2.2.tid), .ro (.list 1 (List.map (ei .i64) s.2.2.marks)), .ro (.list 1 (List.map (ei .i64) s.2.2.diffs)), .ro (.list 1 (List.map (ei .i64) s.2.2.chains))]))]⟩) h ?_) (.c rfl (.c rfl (.c rfl (.c rfl (.c rfl .n))))) (.c rfl (.c rfl .n))
    rintro ⟨v5, v6, v7⟩ u1 h ih1 hx1
    replace h : templ_Right_s1 z p_s v5 v6 v7 = _ := h
    unfold templ_Right_s1 at h
    refine .sq ?_
    refine .rg (u (bc (.t rfl) (.t rfl) rfl rfl) <| .nil _) rfl ?_
    refine .sq ?_
    refine .bq h (.t rfl) (fun h => ?_) (fun h => ?_)
    · refine .skp ?_
      refine .sq ?_
      refine .bl ?_
      refine .sq ?_
      refine be h fun x8 hx8 h => ?_
      refine .rg (u (mv (.t rfl)) <| u (ia sf23 (.t rfl) (.t rfl) (ix_map cells_Template hx8)) <| u (lr tf46 (.t rfl) rfl) <| al 7 zf46 rfl <| u (asg (.t rfl)) <| st tf46 (.t rfl) rfl (.t rfl) rfl rfl rfl <| .nil _) rfl ?_
      refine .sq ?_
      refine .sq ?_
      refine be h fun x9 hx9 h => ?_
      refine .rg (u (ld tf26 (.t rfl) rfl rfl) <| u (ld tf46 (.t rfl) rfl rfl) <| cl [] cf35 (templ_template_c hx9) (.c (.t rfl) <| .c (.t rfl) <| .n) (.inl rfl) <| u (no (.t rfl)) <| u (mv (.t rfl)) <| gd rfl rfl (fun hB => ld tf46 (.t rfl) rfl rfl) <| gd rfl rfl (fun hB => ld tf46 (.t rfl) rfl rfl) <| cg rfl rfl cf36 (fun hB => (templ_follows_c v7 x8)) (fun hB => .c (.m rfl hB) <| .c (.m rfl hB) <| .n) (.inl rfl) <| gd rfl rfl (fun hB => bc (.m rfl hB) (.i rfl) rfl rfl) <| u (pko (.t rfl) (.t rfl)) <| u (mv (.t rfl)) <| gd rfl rfl (fun hB => mv (.t rfl)) <| gd rfl rfl (fun hB => bc (.m rfl hB) (.i rfl) rfl rfl) <| gd rfl rfl (fun hB => mv (.m rfl hB)) <| gm rfl rfl (fun hB => ld tf46 (.t rfl) rfl rfl) <| gm rfl rfl (fun hB => ld tf46 (.t rfl) rfl rfl) <| cgm rfl rfl cf36 (fun hB => (templ_follows_c v7 x8)) (fun hB => .c (.m rfl hB) <| .c (.m rfl hB) <| .n) (.inl rfl) <| gm rfl rfl (fun hB => bc (.m rfl hB) (.i rfl) rfl rfl) <| gd rfl rfl (fun hB => pkam (.m rfl hB) (.t rfl) hB) <| u (pko (.t rfl) (.t rfl)) <| .nil _) rfl ?_
      refine .bq h (.t rfl) (fun h => ?_) (fun h => ?_)
      · refine .sq ?_
        refine .rg (u (asg .b) <| .nil _) rfl ?_
        replace h := mpR h hx1
        obtain rfl := Option.some.inj h
        exact .rt Try.func14 (.t rfl <| .n) .n rfl rfl
      · refine .skp ?_
        refine .rg (u (ld tf46 (.t rfl) rfl rfl) <| st tf46 (.t rfl) rfl (.t rfl) rfl rfl rfl <| .nil _) rfl ?_
        refine .ib ?_
        refine .rg (u (bi (.t rfl) (.i rfl) rfl) <| u (mv (.t rfl)) <| .nil _) rfl ?_
        exact .kq (.il (ih1 ((ar .add .i64 v5 1), v6, x8) (nxi h))) (.c rfl (.c rfl (.c rfl (.c rfl (.c rfl .n))))) (.c rfl (.c rfl .n))
    · refine .xt rfl ?_
      replace h := mpR h hx1
      refine .sq ?_
      refine .sq ?_
      refine .rg (u (fa ff26_5 (.t rfl)) <| u (ld tf24 (.t rfl) rfl rfl) <| u (lnm sf24 (.t rfl)) <| u (mv (.i rfl)) <| .nil _) rfl ?_
      refine .bl ?_
      unfold templ_Right_l2 at h
      refine .kq (.lo (fun (s : Int) => ⟨[(1, .ptr 1 0), (5, .ptr 5 0), (78, .ro (.list 2 (List.map cells_Size v6.sizes))), (79, .ro (.int .i64 (v6.sizes.length : Int))), (80, .ro (.int .i64 s))], [(1, some (.box [.ro (.int .i64 v6.id_), .ro (.int .i64 v6.targets), .ro (.int .i64 v6.chains), .ro (.list 1 (List.map (ei .i64) v6.protect)), .ro (.list 5 (List.map cells_Template v6.templates)), .ro (.list 2 (List.map cells_Size v6.sizes))])), (5, some (.box [.ro (.int .i64 v7.sid), .ro (.int .i64 v7.tid), .ro (.list 1 (List.map (ei .i64) v7.marks)), .ro (.list 1 (List.map (ei .i64) v7.diffs)), .ro (.list 1 (List.map (ei .i64) v7.chains))]))]⟩) h ?_) (.c rfl (.c rfl (.c rfl (.c rfl (.c rfl .n))))) (.c rfl (.c rfl .n))
      intro v10 u2 h ih2 hx2
      replace h : templ_Right_s2 z v6 v7 v10 = _ := h
      unfold templ_Right_s2 at h
      refine .sq ?_
      refine .rg (u (bc (.t rfl) (.t rfl) rfl rfl) <| .nil _) rfl ?_
      refine .sq ?_
      refine .bq h (.t rfl) (fun h => ?_) (fun h => ?_)
      · refine .skp ?_
        refine .sq ?_
        refine .bl ?_
        refine .sq ?_
        refine be h fun x11 hx11 h => ?_
        refine .rg (u (ia sf24 (.t rfl) (.t rfl) (ix_map cells_Size hx11)) <| u (lr tf74 (.t rfl) rfl) <| al 9 zf74 rfl <| st tf74 (.t rfl) rfl (.t rfl) rfl rfl rfl <| .nil _) rfl ?_
        refine .sq ?_
        refine be h fun x12 hx12 h => ?_
        refine .rg (u (fa ff74_0 (.t rfl)) <| u (ld tf3 (.t rfl) rfl rfl) <| u (fa ff74_1 (.t rfl)) <| u (ld tf3 (.t rfl) rfl rfl) <| bs (F := (ei .i64)) (l := [x11.wide, x11.high]) 88 pf22 (.c (.t rfl) rfl <| .c (.t rfl) rfl <| .n) rfl (fun _ _ => rfl) rfl rfl <| cl [] cf33 (templ_within_c hx12) (.b (.t rfl) rfl <| .c (.i rfl) <| .c (.i rfl) <| .n) (.inr rfl) <| u (no (.t rfl)) <| .nil _) rfl ?_
        refine .bq h (.t rfl) (fun h => ?_) (fun h => ?_)
        · refine .sq ?_
          refine .rg (u (asg .b) <| .nil _) rfl ?_
          replace h := mpR h hx2
          obtain rfl := Option.some.inj h
          exact .rt Try.func14 (.t rfl <| .n) .n rfl rfl
        · refine .skp ?_
          refine .ib ?_
          refine .rg (u (bi (.t rfl) (.i rfl) rfl) <| u (mv (.t rfl)) <| .nil _) rfl ?_
          exact .kq (.il (ih2 (ar .add .i64 v10 1) (nxi h))) (.c rfl (.c rfl (.c rfl (.c rfl (.c rfl .n))))) (.c rfl (.c rfl .n))
      · refine .xt rfl ?_
        replace h := mpR h hx2
        refine .sq ?_
        refine .rg (u (fa ff26_5 (.t rfl)) <| u (ld tf24 (.t rfl) rfl rfl) <| u (lnm sf24 (.t rfl)) <| u (bc (.t rfl) (.i rfl) rfl rfl) <| u (mv (.t rfl)) <| gd rfl rfl (fun hB => fa ff26_5 (.t rfl)) <| gd rfl rfl (fun hB => ld tf24 (.m rfl hB) rfl rfl) <| gd rfl rfl (fun hB => lnm sf24 (.m rfl hB)) <| gd rfl rfl (fun hB => fa ff46_0 (.t rfl)) <| gd rfl rfl (fun hB => ld tf3 (.m rfl hB) rfl rfl) <| gd rfl rfl (fun hB => bi (.m rfl hB) (.i rfl) rfl) <| gd rfl rfl (fun hB => bc (.m rfl hB) (.m rfl hB) rfl rfl) <| u (pko (.t rfl) (.t rfl)) <| u (asg (.t rfl)) <| .nil _) rfl ?_
        obtain rfl := Option.some.inj h
        exact .rt Try.func14 (.t rfl <| .n) .n rfl rfl

theorem slices_Equal_int_c {z : Option Nat} {s1 : List Int} {s2 : List Int} {r : Bool} (h : slices_Equal_int z s1 s2 = some r) :
    AC Try.prog 38 [.ro (.list 1 (List.map (ei .i64) s1)), .ro (.list 1 (List.map (ei .i64) s2))] (.ro (.bool r)) [] := by
  refine AC.of Try.func38 rfl rfl fun w M0 hM => ?_
  unfold slices_Equal_int at h
  refine .sq ?_
  refine .rg (u (asg .b) <| .nil _) rfl ?_
  refine .sq ?_
  refine .sq ?_
  refine .rg (u (mv (.t rfl)) <| u (lnm sf22 (.t rfl)) <| u (mv (.t rfl)) <| u (lnm sf22 (.t rfl)) <| u (bc (.t rfl) (.t rfl) rfl rfl) <| .nil _) rfl ?_
  refine .bq h (.t rfl) (fun h => ?_) (fun h => ?_)
  · refine .sq ?_
    refine .rg (u (asg .b) <| .nil _) rfl ?_
    obtain rfl := Option.some.inj h
    exact .rt Try.func38 (.t rfl <| .n) .n rfl rfl
  · refine .skp ?_
    refine .sq ?_
    refine .sq ?_
    refine .rg (u (mv (.t rfl)) <| u (lnm sf22 (.t rfl)) <| u (mv (.i rfl)) <| .nil _) rfl ?_
    refine .bl ?_
    unfold slices_Equal_int_l1 at h
    refine .kq (.lo (fun (s : Int) => ⟨[(0, .ro (.list 1 (List.map (ei .i64) s1))), (1, .ro (.list 1 (List.map (ei .i64) s2))), (12, .ro (.int .i64 (s1.length : Int))), (13, .ro (.int .i64 s))], []⟩) h ?_) (.c rfl (.c rfl (.c rfl (.c rfl .n)))) .n
    intro v1 u1 h ih1 hx1
    replace h : slices_Equal_int_s1 z s1 s2 v1 = _ := h
    unfold slices_Equal_int_s1 at h
    refine .sq ?_
    refine .rg (u (bc (.t rfl) (.t rfl) rfl rfl) <| .nil _) rfl ?_
    refine .sq ?_
    refine .bq h (.t rfl) (fun h => ?_) (fun h => ?_)
    · refine .skp ?_
      refine .sq ?_
      refine .bl ?_
      refine .sq ?_
      refine .rg (u (mv (.t rfl)) <| u (asg (.t rfl)) <| .nil _) rfl ?_
      refine .sq ?_
      refine be h fun x2 hx2 h => ?_
      refine be h fun x3 hx3 h => ?_
      refine .rd mixed (u (mv (.t rfl)) <| u (mv (.t rfl)) <| u (ia sf22 (.t rfl) (.t rfl) (ix_map (ei .i64) hx2)) <| u (lr tf3 (.t rfl) rfl) <| u (mv (.t rfl)) <| u (mv (.t rfl)) <| u (ia sf22 (.t rfl) (.t rfl) (ix_map (ei .i64) hx3)) <| u (lr tf3 (.t rfl) rfl) <| u (bc (.t rfl) (.t rfl) rfl rfl) <| .nil _) (by kernel_rfl) rfl ?_
      refine .bq h (.t rfl) (fun h => ?_) (fun h => ?_)
      · refine .sq ?_
        refine .rg (u (asg .b) <| .nil _) rfl ?_
        replace h := mpR h hx1
        obtain rfl := Option.some.inj h
        exact .rt Try.func38 (.t rfl <| .n) .n rfl rfl
      · refine .skp ?_
        refine .ib ?_
        refine .rg (u (bi (.t rfl) (.i rfl) rfl) <| u (mv (.t rfl)) <| .nil _) rfl ?_
        exact .kq (.il (ih1 (ar .add .i64 v1 1) (nxi h))) (.c rfl (.c rfl (.c rfl (.c rfl .n)))) .n
    · refine .xt rfl ?_
      replace h := mpR h hx1
      refine .sq ?_
      refine .rg (u (asg .b) <| .nil _) rfl ?_
      obtain rfl := Option.some.inj h
      exact .rt Try.func38 (.t rfl <| .n) .n rfl rfl

theorem templ_Same_1_c {z : Option Nat} {x : Template} {y : Template} {r : Bool} (h : templ_Same_1 z x y = some r) :
    AC Try.prog 37 [.ro (enc_Template x), .ro (enc_Template y)] (.ro (.bool r)) [] := by
  refine AC.of Try.func37 rfl rfl fun w M0 hM => ?_
  unfold templ_Same_1 at h
  refine .sq ?_
  refine .rg (bx 2 (.t rfl) rfl rfl <| bx 3 (.t rfl) rfl rfl <| u (asg .b) <| .nil _) rfl ?_
  refine .sq ?_
  refine be h fun x1 hx1 h => ?_
  refine be h fun x2 hx2 h => ?_
  refine be h fun x3 hx3 h => ?_
  refine .rg (u (fa ff46_0 (.t rfl)) <| u (ld tf3 (.t rfl) rfl rfl) <| u (fa ff46_0 (.t rfl)) <| u (ld tf3 (.t rfl) rfl rfl) <| u (bc (.t rfl) (.t rfl) rfl rfl) <| u (mv (.t rfl)) <| gd rfl rfl (fun hB => fa ff46_1 (.t rfl)) <| gd rfl rfl (fun hB => ld tf3 (.m rfl hB) rfl rfl) <| gd rfl rfl (fun hB => fa ff46_1 (.t rfl)) <| gd rfl rfl (fun hB => ld tf3 (.m rfl hB) rfl rfl) <| gd rfl rfl (fun hB => bc (.m rfl hB) (.m rfl hB) rfl rfl) <| u (pka (.t rfl) (.t rfl)) <| u (mv (.t rfl)) <| gd rfl rfl (fun hB => fa ff46_2 (.t rfl)) <| gd rfl rfl (fun hB => ld tf22 (.m rfl hB) rfl rfl) <| gd rfl rfl (fun hB => fa ff46_2 (.t rfl)) <| gd rfl rfl (fun hB => ld tf22 (.m rfl hB) rfl rfl) <| cg rfl rfl cf38 (fun hB => (slices_Equal_int_c (gTt hx1 hB))) (fun hB => .c (.m rfl hB) <| .c (.m rfl hB) <| .n) (.inl rfl) <| u (pka (.t rfl) (.t rfl)) <| u (mv (.t rfl)) <| gd rfl rfl (fun hB => fa ff46_3 (.t rfl)) <| gd rfl rfl (fun hB => ld tf22 (.m rfl hB) rfl rfl) <| gd rfl rfl (fun hB => fa ff46_3 (.t rfl)) <| gd rfl rfl (fun hB => ld tf22 (.m rfl hB) rfl rfl) <| cg rfl rfl cf38 (fun hB => (slices_Equal_int_c (gTt hx2 hB))) (fun hB => .c (.m rfl hB) <| .c (.m rfl hB) <| .n) (.inl rfl) <| u (pka (.t rfl) (.t rfl)) <| u (mv (.t rfl)) <| gd rfl rfl (fun hB => fa ff46_4 (.t rfl)) <| gd rfl rfl (fun hB => ld tf22 (.m rfl hB) rfl rfl) <| gd rfl rfl (fun hB => fa ff46_4 (.t rfl)) <| gd rfl rfl (fun hB => ld tf22 (.m rfl hB) rfl rfl) <| cg rfl rfl cf38 (fun hB => (slices_Equal_int_c (gTt hx3 hB))) (fun hB => .c (.m rfl hB) <| .c (.m rfl hB) <| .n) (.inl rfl) <| u (pka (.t rfl) (.t rfl)) <| u (asg (.t rfl)) <| .nil _) rfl ?_
  obtain rfl := Option.some.inj h
  exact .rt Try.func37 (.t rfl <| .n) .n rfl rfl

theorem slices_Equal_Size_c {z : Option Nat} {s1 : List Size} {s2 : List Size} {r : Bool} (h : slices_Equal_Size z s1 s2 = some r) :
    AC Try.prog 39 [.ro (.list 2 (List.map cells_Size s1)), .ro (.list 2 (List.map cells_Size s2))] (.ro (.bool r)) [] := by
  refine AC.of Try.func39 rfl rfl fun w M0 hM => ?_
  unfold slices_Equal_Size at h
  refine .sq ?_
  refine .rg (u (asg .b) <| .nil _) rfl ?_
  refine .sq ?_
  refine .sq ?_
  refine .rg (u (mv (.t rfl)) <| u (lnm sf24 (.t rfl)) <| u (mv (.t rfl)) <| u (lnm sf24 (.t rfl)) <| u (bc (.t rfl) (.t rfl) rfl rfl) <| .nil _) rfl ?_
  refine .bq h (.t rfl) (fun h => ?_) (fun h => ?_)
  · refine .sq ?_
    refine .rg (u (asg .b) <| .nil _) rfl ?_
    obtain rfl := Option.some.inj h
    exact .rt Try.func39 (.t rfl <| .n) .n rfl rfl
  · refine .skp ?_
    refine .sq ?_
    refine .sq ?_
    refine .rg (u (mv (.t rfl)) <| u (lnm sf24 (.t rfl)) <| u (mv (.i rfl)) <| .nil _) rfl ?_
    refine .bl ?_
    unfold slices_Equal_Size_l1 at h
    refine .kq (.lo (fun (s : Int) => ⟨[(0, .ro (.list 2 (List.map cells_Size s1))), (1, .ro (.list 2 (List.map cells_Size s2))), (12, .ro (.int .i64 (s1.length : Int))), (13, .ro (.int .i64 s))], []⟩) h ?_) (.c rfl (.c rfl (.c rfl (.c rfl .n)))) .n
    intro v1 u1 h ih1 hx1
    replace h : slices_Equal_Size_s1 z s1 s2 v1 = _ := h
    unfold slices_Equal_Size_s1 at h
    refine .sq ?_
    refine .rg (u (bc (.t rfl) (.t rfl) rfl rfl) <| .nil _) rfl ?_
    refine .sq ?_
    refine .bq h (.t rfl) (fun h => ?_) (fun h => ?_)
    · refine .skp ?_
      refine .sq ?_
      refine .bl ?_
      refine .sq ?_
      refine .rg (u (mv (.t rfl)) <| u (asg (.t rfl)) <| .nil _) rfl ?_
      refine .sq ?_
      refine be h fun x2 hx2 h => ?_
      refine be h fun x3 hx3 h => ?_
      refine .rd mixed (u (mv (.t rfl)) <| u (mv (.t rfl)) <| u (ia sf24 (.t rfl) (.t rfl) (ix_map cells_Size hx2)) <| u (lr tf74 (.t rfl) rfl) <| u (mv (.t rfl)) <| u (mv (.t rfl)) <| u (ia sf24 (.t rfl) (.t rfl) (ix_map cells_Size hx3)) <| u (lr tf74 (.t rfl) rfl) <| u (eqs qf74 (.t rfl) (.t rfl) rfl rfl rfl rfl) <| .nil _) (by kernel_rfl) rfl ?_
      refine .bq h (.t rfl) (fun h => ?_) (fun h => ?_)
      · refine .sq ?_
        refine .rg (u (asg .b) <| .nil _) rfl ?_
        replace h := mpR h hx1
        obtain rfl := Option.some.inj h
        exact .rt Try.func39 (.t rfl <| .n) .n rfl rfl
      · refine .skp ?_
        refine .ib ?_
        refine .rg (u (bi (.t rfl) (.i rfl) rfl) <| u (mv (.t rfl)) <| .nil _) rfl ?_
        exact .kq (.il (ih1 (ar .add .i64 v1 1) (nxi h))) (.c rfl (.c rfl (.c rfl (.c rfl .n)))) .n
    · refine .xt rfl ?_
      replace h := mpR h hx1
      refine .sq ?_
      refine .rg (u (asg .b) <| .nil _) rfl ?_
      obtain rfl := Option.some.inj h
      exact .rt Try.func39 (.t rfl <| .n) .n rfl rfl

theorem slices_EqualFunc_f0_c {z : Option Nat} {s1 : List Template} {s2 : List Template} {r : Bool} (h : slices_EqualFunc_f0 z s1 s2 = some r) :
    AC Try.prog 40 [.ro (.list 5 (List.map cells_Template s1)), .ro (.list 5 (List.map cells_Template s2)), .fn (.func 37) [] []] (.ro (.bool r)) [] := by
  refine AC.of Try.func40 rfl rfl fun w M0 hM => ?_
  unfold slices_EqualFunc_f0 at h
  refine .sq ?_
  refine .rg (u (asg .b) <| .nil _) rfl ?_
  refine .sq ?_
  refine .sq ?_
  refine .rg (u (mv (.t rfl)) <| u (lnm sf23 (.t rfl)) <| u (mv (.t rfl)) <| u (lnm sf23 (.t rfl)) <| u (bc (.t rfl) (.t rfl) rfl rfl) <| .nil _) rfl ?_
  refine .bq h (.t rfl) (fun h => ?_) (fun h => ?_)
  · refine .sq ?_
    refine .rg (u (asg .b) <| .nil _) rfl ?_
    obtain rfl := Option.some.inj h
    exact .rt Try.func40 (.t rfl <| .n) .n rfl rfl
  · refine .skp ?_
    refine .sq ?_
    refine .sq ?_
    refine .rg (u (mv (.t rfl)) <| u (lnm sf23 (.t rfl)) <| u (mv (.i rfl)) <| .nil _) rfl ?_
    refine .bl ?_
    unfold slices_EqualFunc_f0_l1 at h
    refine .kq (.lo (fun (s : Int) => ⟨[(1, .ro (.list 5 (List.map cells_Template s2))), (2, .fn (.func 37) [] []), (15, .ro (.list 5 (List.map cells_Template s1))), (16, .ro (.int .i64 (s1.length : Int))), (17, .ro (.int .i64 s))], []⟩) h ?_) (.c rfl (.c rfl (.c rfl (.c rfl (.c rfl .n))))) .n
    intro v1 u1 h ih1 hx1
    replace h : slices_EqualFunc_f0_s1 z s1 s2 v1 = _ := h
    unfold slices_EqualFunc_f0_s1 at h
    refine .sq ?_
    refine .rg (u (bc (.t rfl) (.t rfl) rfl rfl) <| .nil _) rfl ?_
    refine .sq ?_
    refine .bq h (.t rfl) (fun h => ?_) (fun h => ?_)
    · refine .skp ?_
      refine .sq ?_
      refine .bl ?_
      refine .sq ?_
      refine be h fun x2 hx2 h => ?_
      refine .rg (u (mv (.t rfl)) <| u (ia sf23 (.t rfl) (.t rfl) (ix_map cells_Template hx2)) <| u (lr tf46 (.t rfl) rfl) <| al 8 zf46 rfl <| u (asg (.t rfl)) <| st tf46 (.t rfl) rfl (.t rfl) rfl rfl rfl <| .nil _) rfl ?_
      refine .sq ?_
      refine be h fun x3 hx3 h => ?_
      refine .rg (u (mv (.t rfl)) <| u (mv (.t rfl)) <| u (ia sf23 (.t rfl) (.t rfl) (ix_map cells_Template hx3)) <| u (lr tf46 (.t rfl) rfl) <| al 9 zf46 rfl <| st tf46 (.t rfl) rfl (.t rfl) rfl rfl rfl <| .nil _) rfl ?_
      refine .sq ?_
      refine be h fun x4 hx4 h => ?_
      refine .rg (u (mv (.t rfl)) <| u (ld tf46 (.t rfl) rfl rfl) <| u (ld tf46 (.t rfl) rfl rfl) <| clv [] cf37 (.t rfl) (templ_Same_1_c hx4) (.c (.t rfl) <| .c (.t rfl) <| .n) (.inl rfl) <| u (no (.t rfl)) <| .nil _) rfl ?_
      refine .bq h (.t rfl) (fun h => ?_) (fun h => ?_)
      · refine .sq ?_
        refine .rg (u (asg .b) <| .nil _) rfl ?_
        replace h := mpR h hx1
        obtain rfl := Option.some.inj h
        exact .rt Try.func40 (.t rfl <| .n) .n rfl rfl
      · refine .skp ?_
        refine .ib ?_
        refine .rg (u (bi (.t rfl) (.i rfl) rfl) <| u (mv (.t rfl)) <| .nil _) rfl ?_
        exact .kq (.il (ih1 (ar .add .i64 v1 1) (nxi h))) (.c rfl (.c rfl (.c rfl (.c rfl (.c rfl .n))))) .n
    · refine .xt rfl ?_
      replace h := mpR h hx1
      refine .sq ?_
      refine .rg (u (asg .b) <| .nil _) rfl ?_
      obtain rfl := Option.some.inj h
      exact .rt Try.func40 (.t rfl <| .n) .n rfl rfl

theorem templ_Same_c {z : Option Nat} {p_a : Structure} {b : Structure} {r : Bool} (h : templ_Same z p_a b = some r) :
    AC Try.prog 15 [.ro (enc_Structure p_a), .ro (enc_Structure b)] (.ro (.bool r)) [] := by
  refine AC.of Try.func15 rfl rfl fun w M0 hM => ?_
  unfold templ_Same at h
  refine .sq ?_
  refine .rg (bx 2 (.t rfl) rfl rfl <| bx 3 (.t rfl) rfl rfl <| u (asg .b) <| .nil _) rfl ?_
  refine .sq ?_
  refine .rg (u (asg .f) <| .nil _) rfl ?_
  refine .sq ?_
  refine .rg (u (fa ff26_0 (.t rfl)) <| u (ld tf3 (.t rfl) rfl rfl) <| u (fa ff26_0 (.t rfl)) <| u (ld tf3 (.t rfl) rfl rfl) <| u (bc (.t rfl) (.t rfl) rfl rfl) <| u (mv (.t rfl)) <| gd rfl rfl (fun hB => fa ff26_1 (.t rfl)) <| gd rfl rfl (fun hB => ld tf3 (.m rfl hB) rfl rfl) <| gd rfl rfl (fun hB => fa ff26_1 (.t rfl)) <| gd rfl rfl (fun hB => ld tf3 (.m rfl hB) rfl rfl) <| gd rfl rfl (fun hB => bc (.m rfl hB) (.m rfl hB) rfl rfl) <| u (pka (.t rfl) (.t rfl)) <| u (mv (.t rfl)) <| gd rfl rfl (fun hB => fa ff26_2 (.t rfl)) <| gd rfl rfl (fun hB => ld tf3 (.m rfl hB) rfl rfl) <| gd rfl rfl (fun hB => fa ff26_2 (.t rfl)) <| gd rfl rfl (fun hB => ld tf3 (.m rfl hB) rfl rfl) <| gd rfl rfl (fun hB => bc (.m rfl hB) (.m rfl hB) rfl rfl) <| u (pka (.t rfl) (.t rfl)) <| u (asg (.t rfl)) <| .nil _) rfl ?_
  refine .sq ?_
  refine be h fun x1 hx1 h => ?_
  refine be h fun x2 hx2 h => ?_
  refine be h fun x3 hx3 h => ?_
  refine .rg (u (mv (.t rfl)) <| u (mv (.t rfl)) <| gd rfl rfl (fun hB => fa ff26_3 (.t rfl)) <| gd rfl rfl (fun hB => ld tf22 (.m rfl hB) rfl rfl) <| gd rfl rfl (fun hB => fa ff26_3 (.t rfl)) <| gd rfl rfl (fun hB => ld tf22 (.m rfl hB) rfl rfl) <| cg rfl rfl cf38 (fun hB => (slices_Equal_int_c (gTt hx1 hB))) (fun hB => .c (.m rfl hB) <| .c (.m rfl hB) <| .n) (.inl rfl) <| u (pka (.t rfl) (.t rfl)) <| u (mv (.t rfl)) <| gd rfl rfl (fun hB => fa ff26_5 (.t rfl)) <| gd rfl rfl (fun hB => ld tf24 (.m rfl hB) rfl rfl) <| gd rfl rfl (fun hB => fa ff26_5 (.t rfl)) <| gd rfl rfl (fun hB => ld tf24 (.m rfl hB) rfl rfl) <| cg rfl rfl cf39 (fun hB => (slices_Equal_Size_c (gTt hx2 hB))) (fun hB => .c (.m rfl hB) <| .c (.m rfl hB) <| .n) (.inl rfl) <| u (pka (.t rfl) (.t rfl)) <| u (mv (.t rfl)) <| gd rfl rfl (fun hB => fa ff26_4 (.t rfl)) <| gd rfl rfl (fun hB => ld tf23 (.m rfl hB) rfl rfl) <| gd rfl rfl (fun hB => fa ff26_4 (.t rfl)) <| gd rfl rfl (fun hB => ld tf23 (.m rfl hB) rfl rfl) <| gd rfl rfl (fun hB => mv (.t rfl)) <| cg rfl rfl cf40 (fun hB => (slices_EqualFunc_f0_c (gTt hx3 hB))) (fun hB => .c (.m rfl hB) <| .c (.m rfl hB) <| .c (.m rfl hB) <| .n) (.inl rfl) <| u (pka (.t rfl) (.t rfl)) <| u (asg (.t rfl)) <| .nil _) rfl ?_
  obtain rfl := Option.some.inj h
  exact .rt Try.func15 (.t rfl <| .n) .n rfl rfl

theorem av1_may_c {z : Option Nat} {known : Structure} {r : Bool} (h : av1_may z known = some r) :
    AC Try.prog 21 [.ro (enc_Structure known)] (.ro (.bool r)) [] := by
  refine AC.of Try.func21 rfl rfl fun w M0 hM => ?_
  unfold av1_may at h
  refine .sq ?_
  refine .rg (bx 1 (.t rfl) rfl rfl <| u (asg .b) <| .nil _) rfl ?_
  refine .sq ?_
  refine be h fun x1 hx1 h => ?_
  refine be h fun x2 hx2 h => ?_
  refine .rg (u (ld tf26 (.t rfl) rfl rfl) <| cl [] cf14 (templ_Right_c hx1) (.c (.t rfl) <| .n) (.inl rfl) <| u (mv (.t rfl)) <| gd rfl rfl (fun hB => ld tf26 (.t rfl) rfl rfl) <| gd rfl rfl (fun hB => bd bf26 zf26 (.n) rfl) <| cg rfl rfl cf15 (fun hB => (templ_Same_c (gTt hx2 (nt hB)))) (fun hB => .c (.m rfl hB) <| .c (.m rfl hB) <| .n) (.inl rfl) <| u (pko (.t rfl) (.t rfl)) <| u (asg (.t rfl)) <| .nil _) rfl ?_
  obtain rfl := Option.some.inj h
  exact .rt Try.func21 (.t rfl <| .n) .n rfl rfl

theorem av1_numbered_c {f : Frame} {p_s : Structure} {r : Bool} (h : av1_numbered f p_s = some r) :
    AC Try.prog 30 [.ro (enc_Frame f), .ro (enc_Structure p_s)] (.ro (.bool r)) [] := by
  refine AC.of Try.func30 rfl rfl fun w M0 hM => ?_
  unfold av1_numbered at h
  refine .sq ?_
  refine .rg (bx 2 (.t rfl) rfl rfl <| bx 3 (.t rfl) rfl rfl <| u (asg .b) <| .nil _) rfl ?_
  refine .sq ?_
  refine be h fun x1 hx1 h => ?_
  refine .rg (u (fa ff29_7 (.t rfl)) <| u (ld tf27 (.t rfl) rfl rfl) <| u (cv cv27_83 (.t rfl)) <| u (fa ff26_1 (.t rfl)) <| u (ld tf3 (.t rfl) rfl rfl) <| u (sho (.t rfl) (.t rfl) rfl hx1) <| u (bc (.t rfl) (.i rfl) rfl rfl) <| u (mv (.t rfl)) <| gd rfl rfl (fun hB => fa ff29_6 (.t rfl)) <| gd rfl rfl (fun hB => ld tf4 (.m rfl hB) rfl rfl) <| gd rfl rfl (fun hB => mv (.m rfl hB)) <| gm rfl rfl (fun hB => fa ff29_7 (.t rfl)) <| gm rfl rfl (fun hB => ld tf27 (.m rfl hB) rfl rfl) <| gm rfl rfl (fun hB => bc (.m rfl hB) (.i rfl) rfl rfl) <| gd rfl rfl (fun hB => pkom (.m rfl hB) (.t rfl) hB) <| u (pka (.t rfl) (.t rfl)) <| u (asg (.t rfl)) <| .nil _) rfl ?_
  refine .sq ?_
  refine .rg (u (fa ff29_2 (.t rfl)) <| u (ld tf3 (.t rfl) rfl rfl) <| u (bc (.t rfl) (.i rfl) rfl rfl) <| u (mv (.t rfl)) <| gd rfl rfl (fun hB => fa ff29_2 (.t rfl)) <| gd rfl rfl (fun hB => ld tf3 (.m rfl hB) rfl rfl) <| gd rfl rfl (fun hB => bc (.m rfl hB) (.i rfl) rfl rfl) <| u (pka (.t rfl) (.t rfl)) <| u (mv (.t rfl)) <| gd rfl rfl (fun hB => fa ff29_3 (.t rfl)) <| gd rfl rfl (fun hB => ld tf3 (.m rfl hB) rfl rfl) <| gd rfl rfl (fun hB => bc (.m rfl hB) (.i rfl) rfl rfl) <| u (pka (.t rfl) (.t rfl)) <| u (mv (.t rfl)) <| gd rfl rfl (fun hB => fa ff29_3 (.t rfl)) <| gd rfl rfl (fun hB => ld tf3 (.m rfl hB) rfl rfl) <| gd rfl rfl (fun hB => bc (.m rfl hB) (.i rfl) rfl rfl) <| u (pka (.t rfl) (.t rfl)) <| u (mv (.t rfl)) <| gd rfl rfl (fun hB => mv (.t rfl)) <| u (pka (.t rfl) (.t rfl)) <| u (asg (.t rfl)) <| .nil _) rfl ?_
  obtain rfl := Option.some.inj h
  exact .rt Try.func30 (.t rfl <| .n) .n rfl rfl

theorem av1_place_c (f : Frame) (p_s : Structure) :
    AC Try.prog 31 [.ro (enc_Frame f), .ro (enc_Structure p_s)] (.ro (.int .i64 (av1_place f p_s))) [] := by
  obtain ⟨r, h⟩ : ∃ r, av1_place f p_s = r := ⟨_, rfl⟩
  rw [h]
  refine AC.of Try.func31 rfl rfl fun w M0 hM => ?_
  unfold av1_place at h
  refine .sq ?_
  refine .rg (bx 2 (.t rfl) rfl rfl <| bx 3 (.t rfl) rfl rfl <| u (asg (.i rfl)) <| .nil _) rfl ?_
  refine .sq ?_
  refine .rg (u (fa ff29_2 (.t rfl)) <| u (ld tf3 (.t rfl) rfl rfl) <| u (fa ff26_0 (.t rfl)) <| u (ld tf3 (.t rfl) rfl rfl) <| u (bi (.t rfl) (.t rfl) rfl) <| u (bi (.t rfl) (.i rfl) rfl) <| u (di (.t rfl) (.i rfl) rfl (by decide)) <| u (asg (.t rfl)) <| .nil _) rfl ?_
  refine .sq ?_
  refine .sq ?_
  refine .rg (u (mv (.t rfl)) <| u (fa ff26_4 (.t rfl)) <| u (ld tf23 (.t rfl) rfl rfl) <| u (lnm sf23 (.t rfl)) <| u (bc (.t rfl) (.t rfl) rfl rfl) <| .nil _) rfl ?_
  refine .bq h (.t rfl) (fun h => ?_) (fun h => ?_)
  · refine .sq ?_
    refine .rg (u (asg (.i rfl)) <| .nil _) rfl ?_
    subst h
    exact .rt Try.func31 (.t rfl <| .n) .n rfl rfl
  · refine .skp ?_
    refine .sq ?_
    refine .rg (u (mv (.t rfl)) <| u (asg (.t rfl)) <| .nil _) rfl ?_
    subst h
    exact .rt Try.func31 (.t rfl <| .n) .n rfl rfl

theorem av1_own_1_c (n : Int) (cap0 : Int) (cap1 : Int) :
    AC Try.prog 51 [.ro (.int .i64 n), .rptr [.int .i64 cap0], .rptr [.int .i64 cap1]] (.ro (.bool (av1_own_1 n cap0 cap1))) [] := by
  obtain ⟨r, h⟩ : ∃ r, av1_own_1 n cap0 cap1 = r := ⟨_, rfl⟩
  rw [h]
  refine AC.of Try.func51 rfl rfl fun w M0 hM => ?_
  unfold av1_own_1 at h
  refine .sq ?_
  refine .rg (u (asg .b) <| .nil _) rfl ?_
  refine .sq ?_
  refine .rg (u (mv (.t rfl)) <| u (lr tf3 (.t rfl) rfl) <| u (bc (.t rfl) (.t rfl) rfl rfl) <| u (mv (.t rfl)) <| gd rfl rfl (fun hB => mv (.t rfl)) <| gd rfl rfl (fun hB => lr tf3 (.t rfl) rfl) <| gd rfl rfl (fun hB => bc (.m rfl hB) (.m rfl hB) rfl rfl) <| u (pko (.t rfl) (.t rfl)) <| u (asg (.t rfl)) <| .nil _) rfl ?_
  subst h
  exact .rt Try.func51 (.t rfl <| .n) .n rfl rfl

theorem av1_own_c {z : Option Nat} {is_ : Bool} {l : List Int} {fewest : Int} {many : Int} {least : Int} {most : Int} {r : Bool} (h : av1_own z is_ l fewest many least most = some r) :
    AC Try.prog 32 [.ro (.bool is_), .ro (.list 1 (List.map (ei .i64) l)), .ro (.int .i64 fewest), .ro (.int .i64 many), .ro (.int .i64 least), .ro (.int .i64 most)] (.ro (.bool r)) [] := by
  refine AC.of Try.func32 rfl rfl fun w M0 hM => ?_
  unfold av1_own at h
  refine .sq ?_
  refine .rg (bx 10 (.t rfl) rfl rfl <| bx 11 (.t rfl) rfl rfl <| u (asg .b) <| .nil _) rfl ?_
  refine .fb 10 rfl rfl ?_
  refine .fb 11 rfl rfl ?_
  refine .sq ?_
  refine .sq ?_
  refine .rg (u (mv (.t rfl)) <| u (no (.t rfl)) <| .nil _) rfl ?_
  refine .bq h (.t rfl) (fun h => ?_) (fun h => ?_)
  · refine .sq ?_
    refine .rg (u (mv (.t rfl)) <| u (lnm sf22 (.t rfl)) <| u (bc (.t rfl) (.i rfl) rfl rfl) <| u (asg (.t rfl)) <| .nil _) rfl ?_
    obtain rfl := Option.some.inj h
    exact .rt Try.func32 (.t rfl <| .n) .n rfl rfl
  · refine .skp ?_
    refine .sq ?_
    refine .rg (u (mfn (.c (.t rfl) <| .c (.t rfl) <| .n)) <| u (asg (.t rfl)) <| .nil _) rfl ?_
    refine .sq ?_
    refine be h fun x1 hx1 h => ?_
    refine .rg (u (mv (.t rfl)) <| u (lnm sf22 (.t rfl)) <| u (mv (.t rfl)) <| u (bc (.t rfl) (.t rfl) rfl rfl) <| u (mv (.t rfl)) <| gd rfl rfl (fun hB => mv (.t rfl)) <| gd rfl rfl (fun hB => lnm sf22 (.m rfl hB)) <| gd rfl rfl (fun hB => mv (.t rfl)) <| gd rfl rfl (fun hB => bc (.m rfl hB) (.m rfl hB) rfl rfl) <| u (pka (.t rfl) (.t rfl)) <| u (mv (.t rfl)) <| gd rfl rfl (fun hB => mv (.t rfl)) <| gd rfl rfl (fun hB => mv (.t rfl)) <| cg rfl rfl cf52 (fun hB => (slices_ContainsFunc_c cf51 (fun y0 q h => by obtain rfl := Option.some.inj h; exact av1_own_1_c y0 least most) (gTt hx1 hB))) (fun hB => .c (.m rfl hB) <| .c (.m rfl hB) <| .n) (.inl rfl) <| gd rfl rfl (fun hB => no (.m rfl hB)) <| u (pka (.t rfl) (.t rfl)) <| u (asg (.t rfl)) <| .nil _) rfl ?_
    obtain rfl := Option.some.inj h
    exact .rt Try.func32 (.t rfl <| .n) .n rfl rfl

theorem av1_Right_c {z : Option Nat} {f : Frame} {known : Structure} {r : Bool} (h : av1_Right z f known = some r) :
    AC Try.prog 12 [.ro (enc_Frame f), .ro (enc_Structure known)] (.ro (.bool r)) [] := by
  refine AC.of Try.func12 rfl rfl fun w M0 hM => ?_
  unfold av1_Right at h
  refine .sq ?_
  refine .rg (bx 2 (.t rfl) rfl rfl <| bx 3 (.t rfl) rfl rfl <| u (asg .b) <| .nil _) rfl ?_
  refine .sq ?_
  refine .rg (u (ld tf29 (.t rfl) rfl rfl) <| u (ld tf26 (.t rfl) rfl rfl) <| cl [] cf20 (av1_structure_c f known) (.c (.t rfl) <| .c (.t rfl) <| .n) (.inl rfl) <| al 5 zf26 rfl <| st tf26 (.t rfl) rfl (.t rfl) rfl rfl rfl <| .nil _) rfl ?_
  refine .sq ?_
  refine .sq ?_
  refine be h fun x1 hx1 h => ?_
  refine be h fun x2 hx2 h => ?_
  refine be h fun x3 hx3 h => ?_
  refine .rg (u (ld tf26 (.t rfl) rfl rfl) <| cl [] cf21 (av1_may_c hx1) (.c (.t rfl) <| .n) (.inl rfl) <| u (no (.t rfl)) <| u (mv (.t rfl)) <| gd rfl rfl (fun hB => ld tf26 (.t rfl) rfl rfl) <| cg rfl rfl cf14 (fun hB => (templ_Right_c (gTt hx2 (nt hB)))) (fun hB => .c (.m rfl hB) <| .n) (.inl rfl) <| gd rfl rfl (fun hB => no (.m rfl hB)) <| u (pko (.t rfl) (.t rfl)) <| u (mv (.t rfl)) <| gd rfl rfl (fun hB => fa ff29_4 (.t rfl)) <| gd rfl rfl (fun hB => ld tf4 (.m rfl hB) rfl rfl) <| gd rfl rfl (fun hB => no (.m rfl hB)) <| gd rfl rfl (fun hB => mv (.m rfl hB)) <| gm rfl rfl (fun hB => fa ff29_5 (.t rfl)) <| gm rfl rfl (fun hB => ld tf26 (.m rfl hB) rfl rfl) <| gm rfl rfl (fun hB => bd bf26 zf26 (.n) rfl) <| cgm rfl rfl cf15 (fun hB => (templ_Same_c (gTt hx3 (an2 (nt hB.1) hB.2)))) (fun hB => .c (.m rfl hB) <| .c (.m rfl hB) <| .n) (.inl rfl) <| gm rfl rfl (fun hB => no (.m rfl hB)) <| gd rfl rfl (fun hB => pkam (.m rfl hB) (.t rfl) hB) <| u (pko (.t rfl) (.t rfl)) <| .nil _) rfl ?_
  refine .bq h (.t rfl) (fun h => ?_) (fun h => ?_)
  · refine .sq ?_
    refine .rg (u (asg .b) <| .nil _) rfl ?_
    obtain rfl := Option.some.inj h
    exact .rt Try.func12 (.t rfl <| .n) .n rfl rfl
  · refine .skp ?_
    refine .sq ?_
    refine .sq ?_
    refine be h fun x4 hx4 h => ?_
    refine .rg (u (ld tf29 (.t rfl) rfl rfl) <| u (ld tf26 (.t rfl) rfl rfl) <| cl [] cf30 (av1_numbered_c hx4) (.c (.t rfl) <| .c (.t rfl) <| .n) (.inl rfl) <| u (no (.t rfl)) <| u (mv (.t rfl)) <| gd rfl rfl (fun hB => ld tf29 (.t rfl) rfl rfl) <| gd rfl rfl (fun hB => ld tf26 (.t rfl) rfl rfl) <| cg rfl rfl cf31 (fun hB => (av1_place_c f (av1_structure f known))) (fun hB => .c (.m rfl hB) <| .c (.m rfl hB) <| .n) (.inl rfl) <| gd rfl rfl (fun hB => bc (.m rfl hB) (.i rfl) rfl rfl) <| u (pko (.t rfl) (.t rfl)) <| .nil _) rfl ?_
    refine .bq h (.t rfl) (fun h => ?_) (fun h => ?_)
    · refine .sq ?_
      refine .rg (u (asg .b) <| .nil _) rfl ?_
      obtain rfl := Option.some.inj h
      exact .rt Try.func12 (.t rfl <| .n) .n rfl rfl
    · refine .skp ?_
      refine .sq ?_
      refine be h fun x5 hx5 h => ?_
      refine be h fun x6 hx6 h => ?_
      refine be h fun x7 hx7 h => ?_
      refine .rg (u (fa ff29_8 (.t rfl)) <| u (ld tf4 (.t rfl) rfl rfl) <| u (fa ff29_9 (.t rfl)) <| u (ld tf22 (.t rfl) rfl rfl) <| u (fa ff26_1 (.t rfl)) <| u (ld tf3 (.t rfl) rfl rfl) <| u (fa ff26_1 (.t rfl)) <| u (ld tf3 (.t rfl) rfl rfl) <| cl [] cf32 (av1_own_c hx5) (.c (.t rfl) <| .c (.t rfl) <| .c (.t rfl) <| .c (.t rfl) <| .c (.i rfl) <| .c (.i rfl) <| .n) (.inl rfl) <| u (mv (.t rfl)) <| gd rfl rfl (fun hB => fa ff29_10 (.t rfl)) <| gd rfl rfl (fun hB => ld tf4 (.m rfl hB) rfl rfl) <| gd rfl rfl (fun hB => fa ff29_11 (.t rfl)) <| gd rfl rfl (fun hB => ld tf22 (.m rfl hB) rfl rfl) <| cg rfl rfl cf32 (fun hB => (av1_own_c (gTt hx6 hB))) (fun hB => .c (.m rfl hB) <| .c (.m rfl hB) <| .c (.i rfl) <| .c (.i rfl) <| .c (.i rfl) <| .c (.i rfl) <| .n) (.inl rfl) <| u (pka (.t rfl) (.t rfl)) <| u (mv (.t rfl)) <| gd rfl rfl (fun hB => fa ff29_12 (.t rfl)) <| gd rfl rfl (fun hB => ld tf4 (.m rfl hB) rfl rfl) <| gd rfl rfl (fun hB => fa ff29_13 (.t rfl)) <| gd rfl rfl (fun hB => ld tf22 (.m rfl hB) rfl rfl) <| gd rfl rfl (fun hB => fa ff26_2 (.t rfl)) <| gd rfl rfl (fun hB => ld tf3 (.m rfl hB) rfl rfl) <| gd rfl rfl (fun hB => fa ff26_2 (.t rfl)) <| gd rfl rfl (fun hB => ld tf3 (.m rfl hB) rfl rfl) <| cg rfl rfl cf32 (fun hB => (av1_own_c (gTt hx7 hB))) (fun hB => .c (.m rfl hB) <| .c (.m rfl hB) <| .c (.m rfl hB) <| .c (.m rfl hB) <| .c (.i rfl) <| .c (.i rfl) <| .n) (.inl rfl) <| u (pka (.t rfl) (.t rfl)) <| u (asg (.t rfl)) <| .nil _) rfl ?_
      obtain rfl := Option.some.inj h
      exact .rt Try.func12 (.t rfl <| .n) .n rfl rfl

theorem bits_Right_c {k : Ink} {r : Bool} (h : bits_Right k = some r) :
    AC Try.prog 54 [.ro (enc_Ink k)] (.ro (.bool r)) [] := by
  refine AC.of Try.func54 rfl rfl fun w M0 hM => ?_
  unfold bits_Right at h
  refine .sq ?_
  refine .rg (bx 1 (.t rfl) rfl rfl <| u (asg .b) <| .nil _) rfl ?_
  refine .sq ?_
  refine .sq ?_
  refine .rg (u (fa ff51_1 (.t rfl)) <| u (ld tf3 (.t rfl) rfl rfl) <| u (bc (.t rfl) (.i rfl) rfl rfl) <| u (mv (.t rfl)) <| gd rfl rfl (fun hB => fa ff51_0 (.t rfl)) <| gd rfl rfl (fun hB => ld tf30 (.m rfl hB) rfl rfl) <| gd rfl rfl (fun hB => lnm sf30 (.m rfl hB)) <| gd rfl rfl (fun hB => fa ff51_1 (.t rfl)) <| gd rfl rfl (fun hB => ld tf3 (.m rfl hB) rfl rfl) <| gd rfl rfl (fun hB => di (.m rfl hB) (.i rfl) rfl (by decide)) <| gd rfl rfl (fun hB => fa ff51_1 (.t rfl)) <| gd rfl rfl (fun hB => ld tf3 (.m rfl hB) rfl rfl) <| gd rfl rfl (fun hB => di (.m rfl hB) (.i rfl) rfl (by decide)) <| gd rfl rfl (fun hB => mn (.m rfl hB) (.i rfl)) <| gd rfl rfl (fun hB => bi (.m rfl hB) (.m rfl hB) rfl) <| gd rfl rfl (fun hB => bc (.m rfl hB) (.m rfl hB) rfl rfl) <| u (pko (.t rfl) (.t rfl)) <| .nil _) rfl ?_
  refine .bq h (.t rfl) (fun h => ?_) (fun h => ?_)
  · refine .sq ?_
    refine .rg (u (asg .b) <| .nil _) rfl ?_
    obtain rfl := Option.some.inj h
    exact .rt Try.func54 (.t rfl <| .n) .n rfl rfl
  · refine .skp ?_
    refine .sq ?_
    refine .rg (u (fa ff51_0 (.t rfl)) <| u (ld tf30 (.t rfl) rfl rfl) <| u (lnm sf30 (.t rfl)) <| u (bi (.i rfl) (.t rfl) rfl) <| u (fa ff51_1 (.t rfl)) <| u (ld tf3 (.t rfl) rfl rfl) <| u (bi (.t rfl) (.t rfl) rfl) <| u (asg (.t rfl)) <| .nil _) rfl ?_
    refine .sq ?_
    refine be h fun x1 hx1 h => ?_
    refine be h fun x2 hx2 h => ?_
    refine .rd mixed (u (mv (.t rfl)) <| u (bc (.t rfl) (.i rfl) rfl rfl) <| u (mv (.t rfl)) <| gd rfl rfl (fun hB => fa ff51_0 (.t rfl)) <| gd rfl rfl (fun hB => ld tf30 (.m rfl hB) rfl rfl) <| gd rfl rfl (fun hB => fa ff51_0 (.t rfl)) <| gd rfl rfl (fun hB => ld tf30 (.m rfl hB) rfl rfl) <| gd rfl rfl (fun hB => lnm sf30 (.m rfl hB)) <| gd rfl rfl (fun hB => bi (.m rfl hB) (.i rfl) rfl) <| gd rfl rfl (fun hB => ia sf30 (.m rfl hB) (.m rfl hB) (ix_map e8 (gTt hx1 (nt hB)))) <| gd rfl rfl (fun hB => lr tf5 (.m rfl hB) rfl) <| gd rfl rfl (fun hB => mv (.t rfl)) <| gd rfl rfl (fun hB => sho (.i rfl) (.m rfl hB) rfl (gTt hx2 (nt hB))) <| gd rfl rfl (fun hB => bi (.m rfl hB) (.i rfl) rfl) <| gd rfl rfl (fun hB => bi (.m rfl hB) (.m rfl hB) rfl) <| gd rfl rfl (fun hB => bc (.m rfl hB) (.i rfl) rfl rfl) <| u (pko (.t rfl) (.t rfl)) <| u (asg (.t rfl)) <| .nil _) (by kernel_rfl) rfl ?_
    obtain rfl := Option.some.inj h
    exact .rt Try.func54 (.t rfl <| .n) .n rfl rfl

theorem math_bits_Len64_c {x : Int} {r : Int} (h : math_bits_Len64 x = some r) :
    AC Try.prog 55 [.ro (.int .u64 x)] (.ro (.int .i64 r)) [] := by
  refine AC.of Try.func55 rfl rfl fun w M0 hM => ?_
  unfold math_bits_Len64 at h
  refine .sq ?_
  refine .rg (u (asg (.i rfl)) <| .nil _) rfl ?_
  refine .sq ?_
  refine .sq ?_
  refine .rg (u (mv (.t rfl)) <| u (bc (.t rfl) (.i rfl) rfl rfl) <| .nil _) rfl ?_
  refine .jq (t := some r) (fun (a : Int × Int) => ⟨[(0, .ro (.int .u64 a.1)), (2, .ro (.int .i64 a.2))], []⟩) (fun (a : Int × Int) => math_bits_Len64_j1 a.1 a.2) ?_ (fun J1 => ?_)
  · rintro ⟨v1, v2⟩ h
    replace h : math_bits_Len64_j1 v1 v2 = _ := h
    unfold math_bits_Len64_j1 at h
    refine .sq ?_
    refine .sq ?_
    refine .rg (u (mv (.t rfl)) <| u (bc (.t rfl) (.i rfl) rfl rfl) <| .nil _) rfl ?_
    refine .jq (t := some r) (fun (a : Int × Int) => ⟨[(0, .ro (.int .u64 a.1)), (2, .ro (.int .i64 a.2))], []⟩) (fun (a : Int × Int) => math_bits_Len64_j2 a.1 a.2) ?_ (fun J2 => ?_)
    · rintro ⟨v3, v4⟩ h
      replace h : math_bits_Len64_j2 v3 v4 = _ := h
      unfold math_bits_Len64_j2 at h
      refine .sq ?_
      refine .sq ?_
      refine .rg (u (mv (.t rfl)) <| u (bc (.t rfl) (.i rfl) rfl rfl) <| .nil _) rfl ?_
      refine .jq (t := some r) (fun (a : Int × Int) => ⟨[(0, .ro (.int .u64 a.1)), (2, .ro (.int .i64 a.2))], []⟩) (fun (a : Int × Int) => math_bits_Len64_j3 a.1 a.2) ?_ (fun J3 => ?_)
      · rintro ⟨v5, v6⟩ h
        replace h : math_bits_Len64_j3 v5 v6 = _ := h
        unfold math_bits_Len64_j3 at h
        refine .sq ?_
        refine be h fun x7 hx7 h => ?_
        refine .rg (u (mv (.t rfl)) <| u (mv (.t rfl)) <| u (cv cv83_5 (.t rfl)) <| u (is us9 (.s rfl) (.t rfl) hx7) <| u (cv cv5_3 (.t rfl)) <| u (bi (.t rfl) (.t rfl) rfl) <| u (asg (.t rfl)) <| .nil _) rfl ?_
        obtain rfl := Option.some.inj h
        exact .rt Try.func55 (.t rfl <| .n) .n rfl rfl
      refine .bq h (.t rfl) (fun h => ?_) (fun h => ?_)
      · refine .sq ?_
        refine .rg (u (mv (.t rfl)) <| u (sh (.t rfl) (.i rfl) rfl (by decide)) <| u (asg (.t rfl)) <| .nil _) rfl ?_
        refine .rg (u (mv (.t rfl)) <| u (bi (.t rfl) (.i rfl) rfl) <| u (asg (.t rfl)) <| .nil _) rfl ?_
        exact .kq (J3 ((sf .shr .u64 v3 8), (ar .add .i64 v4 8)) h) (.c rfl (.c rfl .n)) .n
      · refine .skp ?_
        exact .kq (J3 (v3, v4) h) (.c rfl (.c rfl .n)) .n
    refine .bq h (.t rfl) (fun h => ?_) (fun h => ?_)
    · refine .sq ?_
      refine .rg (u (mv (.t rfl)) <| u (sh (.t rfl) (.i rfl) rfl (by decide)) <| u (asg (.t rfl)) <| .nil _) rfl ?_
      refine .rg (u (mv (.t rfl)) <| u (bi (.t rfl) (.i rfl) rfl) <| u (asg (.t rfl)) <| .nil _) rfl ?_
      exact .kq (J2 ((sf .shr .u64 v1 16), (ar .add .i64 v2 16)) h) (.c rfl (.c rfl .n)) .n
    · refine .skp ?_
      exact .kq (J2 (v1, v2) h) (.c rfl (.c rfl .n)) .n
  refine .bq h (.t rfl) (fun h => ?_) (fun h => ?_)
  · refine .sq ?_
    refine .rg (u (mv (.t rfl)) <| u (sh (.t rfl) (.i rfl) rfl (by decide)) <| u (asg (.t rfl)) <| .nil _) rfl ?_
    refine .rg (u (asg (.i rfl)) <| .nil _) rfl ?_
    exact .kq (J1 ((sf .shr .u64 x 32), 32) h) (.c rfl (.c rfl .n)) .n
  · refine .skp ?_
    exact .kq (J1 (x, 0) h) (.c rfl (.c rfl .n)) .n

theorem slices_Clone_c {l r : List Int} (h : slices_Clone l = some r) : AC Try.prog 56 [.ro (.list 1 (List.map e8 l))] (.own 0) [(0, .arr 5 1 (List.map e8 r))] := by
  unfold slices_Clone at h
  obtain rfl := app_nil h
  refine AC.of Try.func56 rfl rfl fun w M0 hM => ?_
  refine .sq ?_
  refine .rg (anm e8 0 5 1 rfl rfl <| .nil _) rfl ?_
  refine .sq ?_
  refine .sq ?_
  refine .nq rfl sf30 rfl rfl fun b hb => ?_
  refine .cd (.t rfl) (fun hh => ?_) (fun _ => ?_)
  · have hl := hb hh
    obtain rfl := List.map_eq_nil_iff.1 hl
    refine .sq ?_
    refine .rg (anm e8 10 5 1 rfl rfl <| .nil _) rfl ?_
    refine .ks (l := [(2, .own 0)]) (o := [(0, some (.arr 5 1 (List.map e8 [])))]) (fun i => bif Nat.beq i 0 then 10 else i) ?_ (.c rfl .n) (.c rfl .n) rfl
    exact .rt Try.func56 (.t rfl <| .n) (.c rfl .n) rfl rfl
  · refine .skp ?_
    refine .sq ?_
    refine .rg (bs (F := e8) (l := ([] : List Int)) 5 pf30 .n rfl (fun _ _ => rfl) rfl rfl <| u (mv (.t rfl)) <| ap 7 pf30 (.t rfl) rfl (.t rfl) h rfl <| u (asg (.t rfl)) <| .nil _) rfl ?_
    refine .ks (l := [(2, .own 0)]) (o := [(0, some (.arr 5 1 (List.map e8 l)))]) (fun i => bif Nat.beq i 0 then 7 else i) ?_ (.c rfl .n) (.c rfl .n) rfl
    exact .rt Try.func56 (.t rfl <| .n) (.c rfl .n) rfl rfl

theorem slices_Clone_r {l r : List Int} (h : slices_Clone l = some r) : AC Try.prog 56 [.ro (.list 1 (List.map e8 l))] (.ro (.list 1 (List.map e8 r))) [] := AC.fz (slices_Clone_c h) rfl

theorem bits_Add_c {z : Option Nat} {k : Ink} {v : Int} {n : Int} {r : Ink × Int} (h : bits_Add z k v n = some r) :
    AC Try.prog 43 [.ro (enc_Ink k), .ro (.int .u64 v), .ro (.int .i64 n)] (.ro (.tup [enc_Ink r.1, .int .i64 r.2])) [] := by
  refine AC.of Try.func43 rfl rfl fun w M0 hM => ?_
  unfold bits_Add at h
  refine .sq ?_
  refine .rg (bx 3 (.t rfl) rfl rfl <| al 6 zf51 rfl <| u (asg (.i rfl)) <| .nil _) rfl ?_
  refine .sq ?_
  refine .bl ?_
  refine .sq ?_
  refine .sq ?_
  refine be h fun x1 hx1 h => ?_
  refine .rg (u (ld tf51 (.t rfl) rfl rfl) <| cl [] cf54 (bits_Right_c hx1) (.c (.t rfl) <| .n) (.inl rfl) <| u (no (.t rfl)) <| u (asg (.t rfl)) <| .nil _) rfl ?_
  refine .jq (t := some r) (fun (a : Bool) => ⟨[(1, .ro (.int .u64 v)), (2, .ro (.int .i64 n)), (3, .ptr 3 0), (6, .ptr 6 0), (11, .ro (.bool a))], [(3, some (.box [.ro (.list 1 (List.map e8 k.bytes)), .ro (.int .i64 k.many)])), (6, some (.box [.ro (.list 1 (List.map e8 [])), .ro (.int .i64 0)]))]⟩) (fun (a : Bool) => bits_Add_j1 z k v n a) ?_ (fun J1 => ?_)
  · intro v2 h
    replace h : bits_Add_j1 z k v n v2 = _ := h
    unfold bits_Add_j1 at h
    refine .bq h (.t rfl) (fun h => ?_) (fun h => ?_)
    · refine .sq ?_
      refine .rg (u (ld tf51 (.t rfl) rfl rfl) <| st tf51 (.t rfl) rfl (.t rfl) rfl rfl rfl <| u (asg (.i rfl)) <| .nil _) rfl ?_
      obtain rfl := Option.some.inj h
      exact .rt Try.func43 (.c tf51 rfl rfl rfl <| .t rfl <| .n) .n rfl rfl
    · refine .sq ?_
      refine be h fun x3 hx3 h => ?_
      refine .rg (u (mv (.t rfl)) <| cl [] cf55 (math_bits_Len64_c hx3) (.c (.t rfl) <| .n) (.inl rfl) <| u (mv (.t rfl)) <| u (bc (.t rfl) (.t rfl) rfl rfl) <| u (asg (.t rfl)) <| .nil _) rfl ?_
      refine .bq h (.t rfl) (fun h => ?_) (fun h => ?_)
      · refine .sq ?_
        refine .rg (u (ld tf51 (.t rfl) rfl rfl) <| st tf51 (.t rfl) rfl (.t rfl) rfl rfl rfl <| u (asg (.i rfl)) <| .nil _) rfl ?_
        obtain rfl := Option.some.inj h
        exact .rt Try.func43 (.c tf51 rfl rfl rfl <| .t rfl <| .n) .n rfl rfl
      · refine .skp ?_
        refine .ib ?_
        refine .sq ?_
        refine be h fun x4 hx4 h => ?_
        refine .rg (u (fa ff51_0 (.t rfl)) <| u (ld tf30 (.t rfl) rfl rfl) <| cnl 28 cf56 (slices_Clone_c hx4) (.c (.t rfl) <| .n) rfl <| u (asg (.t rfl)) <| .nil _) rfl ?_
        refine .sq ?_
        refine .bl ?_
        unfold bits_Add_l2 at h
        refine .ks (fun i => bif Nat.beq i 8 then 28 else i) (.lo (fun (s : Int × List Int × Ink) => ⟨[(1, .ro (.int .u64 v)), (2, .ro (.int .i64 s.1)), (3, .ptr 3 0), (6, .ptr 6 0), (8, .own 8)], [(3, some (.box [.ro (.list 1 (List.map e8 s.2.2.bytes)), .ro (.int .i64 s.2.2.many)])), (6, some (.box [.ro (.list 1 (List.map e8 [])), .ro (.int .i64 0)])), (8, some (.arr 5 1 (List.map e8 s.2.1)))]⟩) h ?_) (.c rfl (.c rfl (.c rfl (.c rfl (.c rfl .n))))) (.c rfl (.c rfl (.c rfl .n))) rfl
        rintro ⟨v5, v6, v7⟩ u2 h ih2 hx2
        replace h : bits_Add_s2 z v v5 v6 v7 = _ := h
        unfold bits_Add_s2 at h
        refine .sq ?_
        refine .sq ?_
        refine .rg (u (mv (.t rfl)) <| u (bc (.t rfl) (.i rfl) rfl rfl) <| .nil _) rfl ?_
        refine .bq h (.t rfl) (fun h => ?_) (fun h => ?_)
        · refine .skp ?_
          refine .bl ?_
          refine .sq ?_
          refine .rg (u (mv (.t rfl)) <| u (lom sf30 (.t rfl) rfl) <| u (bi (.i rfl) (.t rfl) rfl) <| u (fa ff51_1 (.t rfl)) <| u (ld tf3 (.t rfl) rfl rfl) <| u (bi (.t rfl) (.t rfl) rfl) <| u (asg (.t rfl)) <| .nil _) rfl ?_
          refine .sq ?_
          refine .sq ?_
          refine .rg (u (mv (.t rfl)) <| u (bc (.t rfl) (.i rfl) rfl rfl) <| .nil _) rfl ?_
          refine .jq (t := some u2) (fun (a : List Int × Int) => ⟨[(1, .ro (.int .u64 v)), (2, .ro (.int .i64 v5)), (3, .ptr 3 0), (6, .ptr 6 0), (8, .own 8), (9, .ro (.int .i64 a.2))], [(3, some (.box [.ro (.list 1 (List.map e8 v7.bytes)), .ro (.int .i64 v7.many)])), (6, some (.box [.ro (.list 1 (List.map e8 [])), .ro (.int .i64 0)])), (8, some (.arr 5 1 (List.map e8 a.1)))]⟩) (fun (a : List Int × Int) => bits_Add_j3 z v v5 v7 a.1 a.2) ?_ (fun J3 => ?_)
          · rintro ⟨v8, v9⟩ h
            replace h : bits_Add_j3 z v v5 v7 v8 v9 = _ := h
            unfold bits_Add_j3 at h
            refine .sq ?_
            refine .rg (u (mv (.t rfl)) <| u (mv (.t rfl)) <| u (mn (.t rfl) (.t rfl)) <| u (asg (.t rfl)) <| .nil _) rfl ?_
            refine .sq ?_
            refine .rg (u (mv (.t rfl)) <| u (mv (.t rfl)) <| u (bi (.t rfl) (.t rfl) rfl) <| u (asg (.t rfl)) <| .nil _) rfl ?_
            refine .sq ?_
            refine be h fun x10 hx10 h => ?_
            refine be h fun x11 hx11 h => ?_
            refine be h fun x12 hx12 h => ?_
            refine be h fun x13 hx13 h => ?_
            refine be h fun x14 hx14 h => ?_
            refine .rd mixed (u (mv (.t rfl)) <| u (mv (.t rfl)) <| u (lom sf30 (.t rfl) rfl) <| u (bi (.t rfl) (.i rfl) rfl) <| u (io sf30 (.t rfl) rfl (.t rfl) (ix_map e8 hx10)) <| u (le tf5 (.t rfl) rfl (ix_lt (ix_map _ hx10)).2.2 rfl) <| u (mv (.t rfl)) <| u (mv (.t rfl)) <| u (sho (.t rfl) (.t rfl) rfl hx11) <| u (mv (.t rfl)) <| u (sho (.i rfl) (.t rfl) rfl hx12) <| u (bi (.t rfl) (.i rfl) rfl) <| u (bi (.t rfl) (.t rfl) rfl) <| u (cv cv83_5 (.t rfl)) <| u (mv (.t rfl)) <| u (mv (.t rfl)) <| u (bi (.t rfl) (.t rfl) rfl) <| u (sho (.t rfl) (.t rfl) rfl hx13) <| u (bi (.t rfl) (.t rfl) rfl) <| u (io sf30 (.t rfl) rfl (.t rfl) (ix_map e8 hx14)) <| se (q := (ar .or .u8 x10 x13)) tf5 (.t rfl) rfl (.t rfl) rfl rfl rfl (ixn hx14) <| .nil _) (by kernel_rfl) rfl ?_
            refine .rg (u (fa ff51_1 (.t rfl)) <| u (ld tf3 (.t rfl) rfl rfl) <| u (mv (.t rfl)) <| u (bi (.t rfl) (.t rfl) rfl) <| u (fa ff51_1 (.t rfl)) <| st tf3 (.t rfl) rfl (.t rfl) rfl rfl rfl <| .nil _) rfl ?_
            refine .ib ?_
            exact .kq (.il (ih2 ((ar .sub .i64 v5 (imin v9 v5)), (List.set v8 ((ar .sub .i64 (v8.length : Int) 1) : Int).toNat (ar .or .u8 x10 x13)), { v7 with many := (ar .add .i64 v7.many (imin v9 v5)) }) (nxi h))) (.c rfl (.c rfl (.c rfl (.c rfl (.c rfl .n))))) (.c rfl (.c rfl (.c rfl .n)))
          refine .bq h (.t rfl) (fun h => ?_) (fun h => ?_)
          · refine be h fun x15 hx15 h => ?_
            refine .rg (u (mv (.t rfl)) <| bs (F := e8) (l := [0]) 40 pf30 (.c (.i rfl) rfl <| .n) rfl (fun _ _ => rfl) rfl rfl <| apo 41 pf30 (.t rfl) rfl (.t rfl) rfl hx15 rfl <| u (asg (.t rfl)) <| u (asg (.i rfl)) <| .nil _) rfl ?_
            exact .ks (fun i => bif Nat.beq i 8 then 41 else i) (J3 (x15, 8) h) (.c rfl (.c rfl (.c rfl (.c rfl (.c rfl (.c rfl .n)))))) (.c rfl (.c rfl (.c rfl .n))) rfl
          · refine .skp ?_
            exact .kq (J3 (v6, (ar .sub .i64 (ar .mul .i64 8 (v6.length : Int)) v7.many)) h) (.c rfl (.c rfl (.c rfl (.c rfl (.c rfl (.c rfl .n)))))) (.c rfl (.c rfl (.c rfl .n)))
        · refine .xt rfl ?_
          replace h := mpR h hx2
          refine .sq ?_
          refine .rg (u (mv (.t rfl)) <| u (fa ff51_0 (.t rfl)) <| st tf30 (.t rfl) rfl (.t rfl) rfl rfl rfl <| .nil _) rfl ?_
          refine .sq ?_
          refine .rg (u (ld tf51 (.t rfl) rfl rfl) <| st tf51 (.t rfl) rfl (.t rfl) rfl rfl rfl <| u (asg (.i rfl)) <| .nil _) rfl ?_
          refine .fz 8 rfl ?_
          obtain rfl := Option.some.inj h
          exact .rt Try.func43 (.c tf51 rfl rfl rfl <| .t rfl <| .n) .n rfl rfl
  refine .bq h (.t rfl) (fun h => ?_) (fun h => ?_)
  · refine .skp ?_
    exact .kq (J1 (!x1) h) (.c rfl (.c rfl (.c rfl (.c rfl (.c rfl .n))))) (.c rfl (.c rfl .n))
  · refine .sq ?_
    refine .rg (u (mv (.t rfl)) <| u (bc (.t rfl) (.i rfl) rfl rfl) <| u (asg (.t rfl)) <| .nil _) rfl ?_
    refine .bq h (.t rfl) (fun h => ?_) (fun h => ?_)
    · refine .skp ?_
      exact .kq (J1 (cm .lss n 0) h) (.c rfl (.c rfl (.c rfl (.c rfl (.c rfl .n))))) (.c rfl (.c rfl .n))
    · refine .rg (u (mv (.t rfl)) <| u (bc (.t rfl) (.i rfl) rfl rfl) <| u (asg (.t rfl)) <| .nil _) rfl ?_
      exact .kq (J1 (cm .gtr n 64) h) (.c rfl (.c rfl (.c rfl (.c rfl (.c rfl .n))))) (.c rfl (.c rfl .n))

theorem bits_spread_c {n : Int} {r : Int × Int} (h : bits_spread n = some r) :
    AC Try.prog 79 [.ro (.int .u64 n)] (.ro (.tup [.int .i64 r.1, .int .u64 r.2])) [] := by
  refine AC.of Try.func79 rfl rfl fun w M0 hM => ?_
  unfold bits_spread at h
  refine .sq ?_
  refine .rg (u (asg (.i rfl)) <| u (asg (.i rfl)) <| .nil _) rfl ?_
  refine .sq ?_
  refine be h fun x1 hx1 h => ?_
  refine .rg (u (mv (.t rfl)) <| cl [] cf55 (math_bits_Len64_c hx1) (.c (.t rfl) <| .n) (.inl rfl) <| u (asg (.t rfl)) <| .nil _) rfl ?_
  refine .sq ?_
  refine be h fun x2 hx2 h => ?_
  refine .rd mixed (u (mv (.t rfl)) <| u (mv (.t rfl)) <| u (sho (.i rfl) (.t rfl) rfl hx2) <| u (mv (.t rfl)) <| u (bi (.t rfl) (.t rfl) rfl) <| u (asg (.t rfl)) <| u (asg (.t rfl)) <| .nil _) (by kernel_rfl) rfl ?_
  obtain rfl := Option.some.inj h
  exact .rt Try.func79 (.t rfl <| .t rfl <| .n) .n rfl rfl

theorem bits_AddRange_c {z : Option Nat} {k : Ink} {v : Int} {n : Int} {r : Ink × Int} (h : bits_AddRange z k v n = some r) :
    AC Try.prog 70 [.ro (enc_Ink k), .ro (.int .u64 v), .ro (.int .u64 n)] (.ro (.tup [enc_Ink r.1, .int .i64 r.2])) [] := by
  refine AC.of Try.func70 rfl rfl fun w M0 hM => ?_
  unfold bits_AddRange at h
  refine .sq ?_
  refine .rg (bx 3 (.t rfl) rfl rfl <| al 6 zf51 rfl <| u (asg (.i rfl)) <| .nil _) rfl ?_
  refine .sq ?_
  refine .bl ?_
  refine .sq ?_
  refine .sq ?_
  refine be h fun x1 hx1 h => ?_
  refine .rg (u (ld tf51 (.t rfl) rfl rfl) <| cl [] cf54 (bits_Right_c hx1) (.c (.t rfl) <| .n) (.inl rfl) <| u (no (.t rfl)) <| u (asg (.t rfl)) <| .nil _) rfl ?_
  refine .jq (t := some r) (fun (a : Bool) => ⟨[(1, .ro (.int .u64 v)), (2, .ro (.int .u64 n)), (3, .ptr 3 0), (6, .ptr 6 0), (10, .ro (.bool a))], [(3, some (.box [.ro (.list 1 (List.map e8 k.bytes)), .ro (.int .i64 k.many)])), (6, some (.box [.ro (.list 1 (List.map e8 [])), .ro (.int .i64 0)]))]⟩) (fun (a : Bool) => bits_AddRange_j1 z k v n a) ?_ (fun J1 => ?_)
  · intro v2 h
    replace h : bits_AddRange_j1 z k v n v2 = _ := h
    unfold bits_AddRange_j1 at h
    refine .bq h (.t rfl) (fun h => ?_) (fun h => ?_)
    · refine .sq ?_
      refine .rg (u (ld tf51 (.t rfl) rfl rfl) <| st tf51 (.t rfl) rfl (.t rfl) rfl rfl rfl <| u (asg (.i rfl)) <| .nil _) rfl ?_
      obtain rfl := Option.some.inj h
      exact .rt Try.func70 (.c tf51 rfl rfl rfl <| .t rfl <| .n) .n rfl rfl
    · refine .sq ?_
      refine .rg (u (mv (.t rfl)) <| u (mv (.t rfl)) <| u (bc (.t rfl) (.t rfl) rfl rfl) <| u (asg (.t rfl)) <| .nil _) rfl ?_
      refine .bq h (.t rfl) (fun h => ?_) (fun h => ?_)
      · refine .sq ?_
        refine .rg (u (ld tf51 (.t rfl) rfl rfl) <| st tf51 (.t rfl) rfl (.t rfl) rfl rfl rfl <| u (asg (.i rfl)) <| .nil _) rfl ?_
        obtain rfl := Option.some.inj h
        exact .rt Try.func70 (.c tf51 rfl rfl rfl <| .t rfl <| .n) .n rfl rfl
      · refine .skp ?_
        refine .ib ?_
        refine .sq ?_
        refine be h fun x3 hx3 h => ?_
        refine .rg (u (mv (.t rfl)) <| cl [] cf79 (bits_spread_c hx3) (.c (.t rfl) <| .n) (.inl rfl) <| u (mv (.t rfl)) <| u (ex (.t rfl) rfl rfl) <| u (ex (.t rfl) rfl rfl) <| u (asg (.t rfl)) <| u (asg (.t rfl)) <| .nil _) rfl ?_
        refine .sq ?_
        refine .sq ?_
        refine .rg (u (mv (.t rfl)) <| u (mv (.t rfl)) <| u (bc (.t rfl) (.t rfl) rfl rfl) <| .nil _) rfl ?_
        refine .bq h (.t rfl) (fun h => ?_) (fun h => ?_)
        · refine .sq ?_
          refine be h fun x4 hx4 h => ?_
          refine .rg (u (ld tf51 (.t rfl) rfl rfl) <| u (mv (.t rfl)) <| u (mv (.t rfl)) <| u (bi (.t rfl) (.i rfl) rfl) <| cl [] cf43 (bits_Add_c hx4) (.c (.t rfl) <| .c (.t rfl) <| .c (.t rfl) <| .n) (.inl rfl) <| u (ex (.t rfl) rfl rfl) <| u (ex (.t rfl) rfl rfl) <| st tf51 (.t rfl) rfl (.t rfl) rfl rfl rfl <| u (asg (.t rfl)) <| .nil _) rfl ?_
          obtain rfl := Option.some.inj h
          exact .rt Try.func70 (.c tf51 rfl rfl rfl <| .t rfl <| .n) .n rfl rfl
        · refine .skp ?_
          refine .sq ?_
          refine be h fun x5 hx5 h => ?_
          refine .rg (u (ld tf51 (.t rfl) rfl rfl) <| u (mv (.t rfl)) <| u (mv (.t rfl)) <| u (bi (.t rfl) (.t rfl) rfl) <| u (mv (.t rfl)) <| cl [] cf43 (bits_Add_c hx5) (.c (.t rfl) <| .c (.t rfl) <| .c (.t rfl) <| .n) (.inl rfl) <| u (ex (.t rfl) rfl rfl) <| u (ex (.t rfl) rfl rfl) <| st tf51 (.t rfl) rfl (.t rfl) rfl rfl rfl <| u (asg (.t rfl)) <| .nil _) rfl ?_
          obtain rfl := Option.some.inj h
          exact .rt Try.func70 (.c tf51 rfl rfl rfl <| .t rfl <| .n) .n rfl rfl
  refine .bq h (.t rfl) (fun h => ?_) (fun h => ?_)
  · refine .skp ?_
    exact .kq (J1 (!x1) h) (.c rfl (.c rfl (.c rfl (.c rfl (.c rfl .n))))) (.c rfl (.c rfl .n))
  · refine .sq ?_
    refine .rg (u (mv (.t rfl)) <| u (bc (.t rfl) (.i rfl) rfl rfl) <| u (asg (.t rfl)) <| .nil _) rfl ?_
    refine .bq h (.t rfl) (fun h => ?_) (fun h => ?_)
    · refine .skp ?_
      exact .kq (J1 (cm .lss n 1) h) (.c rfl (.c rfl (.c rfl (.c rfl (.c rfl .n))))) (.c rfl (.c rfl .n))
    · refine .rg (u (mv (.t rfl)) <| u (bc (.t rfl) (.i rfl) rfl rfl) <| u (asg (.t rfl)) <| .nil _) rfl ?_
      exact .kq (J1 (cm .gtr n 4294967296) h) (.c rfl (.c rfl (.c rfl (.c rfl (.c rfl .n))))) (.c rfl (.c rfl .n))

theorem templ_pen_num_y1_c {z : Option Nat} {n : Int} {width : Int} {box0 : templ_pen} {r : templ_pen} (h : templ_pen_num_y1 z n width box0 = some r) :
    AY Try.prog 57 [.ptr 9000 0, .ro (.int .i64 n), .ro (.int .i64 width)] [(9000, [.list 1 (List.map e8 box0.k.bytes), .int .i64 box0.k.many])] [0] (.ro (.tup [])) [] [(0, .ptr 9000 0)] [(9000, [.list 1 (List.map e8 r.k.bytes), .int .i64 r.k.many])] := by
  refine AY.of Try.func57 rfl rfl fun w X M0 hM pv => ?_
  refine .kq (l := [(0, .ptr 9000 0), (1, .ro (.int .i64 n)), (2, .ro (.int .i64 width))]) (o := [(9000, some (.box [.ro (.list 1 (List.map e8 box0.k.bytes)), .ro (.int .i64 box0.k.many)]))]) ?_ (.c rfl (.c rfl (.c rfl .n))) (.c rfl .n)
  unfold templ_pen_num_y1 at h
  refine be h fun x1 hx1 h => ?_
  refine .rg (u (mv (.t rfl)) <| u (mv (.t rfl)) <| u (nkp (.t rfl)) <| u (fa ff97_0 (.t rfl)) <| u (ld tf51 (.t rfl) rfl rfl) <| u (mv (.t rfl)) <| u (cv cv3_83 (.t rfl)) <| u (mv (.t rfl)) <| cl [] cf43 (bits_Add_c hx1) (.c (.t rfl) <| .c (.t rfl) <| .c (.t rfl) <| .n) (.inl rfl) <| u (mv (.t rfl)) <| u (ex (.t rfl) rfl rfl) <| u (ex (.t rfl) rfl rfl) <| u (nkp (.t rfl)) <| u (fa ff97_0 (.t rfl)) <| st tf51 (.t rfl) rfl (.t rfl) rfl rfl rfl <| .nil _) rfl ?_
  obtain rfl := Option.some.inj h
  exact .rte (o := [(9000, some (.box [.ro (.list 1 (List.map e8 x1.1.bytes)), .ro (.int .i64 x1.1.many)]))]) Try.func57 (.n) (.c rfl .n) rfl rfl (.c rfl .n) rfl

theorem templ_pen_layers_y1_c {z : Option Nat} {l : List Template} {box0 : templ_pen} {r : templ_pen} (h : templ_pen_layers_y1 z l box0 = some r) :
    AY Try.prog 58 [.ptr 9000 0, .ro (.list 5 (List.map cells_Template l))] [(9000, [.list 1 (List.map e8 box0.k.bytes), .int .i64 box0.k.many])] [0] (.ro (.tup [])) [] [(0, .ptr 9000 0)] [(9000, [.list 1 (List.map e8 r.k.bytes), .int .i64 r.k.many])] := by
  refine AY.of Try.func58 rfl rfl fun w X M0 hM pv => ?_
  refine .kq (l := [(0, .ptr 9000 0), (1, .ro (.list 5 (List.map cells_Template l)))]) (o := [(9000, some (.box [.ro (.list 1 (List.map e8 box0.k.bytes)), .ro (.int .i64 box0.k.many)]))]) ?_ (.c rfl (.c rfl .n)) (.c rfl .n)
  unfold templ_pen_layers_y1 at h
  refine .sq ?_
  refine .rg (u (mv (.t rfl)) <| u (lnm sf23 (.t rfl)) <| u (mv (.i rfl)) <| .nil _) rfl ?_
  refine .bl ?_
  unfold templ_pen_layers_y1_l1 at h
  refine .kq (.lo (fun (s : Int × templ_pen) => ⟨[(0, .ptr 9000 0), (1, .ro (.list 5 (List.map cells_Template l))), (7, .ro (.list 5 (List.map cells_Template l))), (8, .ro (.int .i64 (l.length : Int))), (9, .ro (.int .i64 s.1))], [(9000, some (.box [.ro (.list 1 (List.map e8 s.2.k.bytes)), .ro (.int .i64 s.2.k.many)]))]⟩) h ?_) (.c rfl (.c rfl (.c rfl (.c rfl (.c rfl .n))))) (.c rfl .n)
  rintro ⟨v1, v2⟩ u1 h ih1 hx1
  replace h : templ_pen_layers_y1_s1 z l v1 v2 = _ := h
  unfold templ_pen_layers_y1_s1 at h
  refine .sq ?_
  refine .rg (u (bc (.t rfl) (.t rfl) rfl rfl) <| .nil _) rfl ?_
  refine .sq ?_
  refine .bq h (.t rfl) (fun h => ?_) (fun h => ?_)
  · refine .skp ?_
    refine .sq ?_
    refine .bl ?_
    refine .sq ?_
    refine be h fun x3 hx3 h => ?_
    refine .rg (u (mv (.t rfl)) <| u (ia sf23 (.t rfl) (.t rfl) (ix_map cells_Template hx3)) <| u (lr tf46 (.t rfl) rfl) <| al 5 zf46 rfl <| u (asg (.t rfl)) <| st tf46 (.t rfl) rfl (.t rfl) rfl rfl rfl <| .nil _) rfl ?_
    refine .sq ?_
    refine .rg (u (asg (.i rfl)) <| .nil _) rfl ?_
    refine .sq ?_
    refine .sq ?_
    refine .rg (u (mv (.t rfl)) <| u (bi (.t rfl) (.i rfl) rfl) <| u (mv (.t rfl)) <| u (lnm sf23 (.t rfl)) <| u (bc (.t rfl) (.t rfl) rfl rfl) <| .nil _) rfl ?_
    refine .jq (t := some u1) (fun (a : Int) => ⟨[(0, .ptr 9000 0), (1, .ro (.list 5 (List.map cells_Template l))), (6, .ro (.int .i64 a)), (7, .ro (.list 5 (List.map cells_Template l))), (8, .ro (.int .i64 (l.length : Int))), (9, .ro (.int .i64 v1))], [(9000, some (.box [.ro (.list 1 (List.map e8 v2.k.bytes)), .ro (.int .i64 v2.k.many)]))]⟩) (fun (a : Int) => templ_pen_layers_y1_j2 z v1 v2 a) ?_ (fun J2 => ?_)
    · intro v4 h
      replace h : templ_pen_layers_y1_j2 z v1 v2 v4 = _ := h
      unfold templ_pen_layers_y1_j2 at h
      refine be h fun x5 hx5 h => ?_
      refine .rg (u (mv (.t rfl)) <| u (mv (.t rfl)) <| cly 29000000 cf57 (AY.ly (fun i => bif Nat.beq i 9000 then 9000 else i) (templ_pen_num_y1_c hx5) rfl rfl rfl rfl rfl rfl rfl)  (.c (.t rfl) <| .c (.t rfl) <| .c (.i rfl) <| .n) rfl (.c rfl <| .n) rfl <| .nil _) rfl ?_
      refine .ib ?_
      refine .rg (u (bi (.t rfl) (.i rfl) rfl) <| u (mv (.t rfl)) <| .nil _) rfl ?_
      exact .kq (.il (ih1 ((ar .add .i64 v1 1), x5) (nxi h))) (.c rfl (.c rfl (.c rfl (.c rfl (.c rfl .n))))) (.c rfl .n)
    refine .bq h (.t rfl) (fun h => ?_) (fun h => ?_)
    · refine be h fun x6 hx6 h => ?_
      refine .rd mixed (u (ld tf46 (.t rfl) rfl rfl) <| u (mv (.t rfl)) <| u (mv (.t rfl)) <| u (bi (.t rfl) (.i rfl) rfl) <| u (ia sf23 (.t rfl) (.t rfl) (ix_map cells_Template hx6)) <| u (lr tf46 (.t rfl) rfl) <| cl [] cf36 (templ_follows_c x3 x6) (.c (.t rfl) <| .c (.t rfl) <| .n) (.inl rfl) <| u (asg (.t rfl)) <| .nil _) (by kernel_rfl) rfl ?_
      exact .kq (J2 (templ_follows x3 x6) h) (.c rfl (.c rfl (.c rfl (.c rfl (.c rfl (.c rfl .n)))))) (.c rfl .n)
    · refine .skp ?_
      exact .kq (J2 3 h) (.c rfl (.c rfl (.c rfl (.c rfl (.c rfl (.c rfl .n)))))) (.c rfl .n)
  · refine .xt rfl ?_
    replace h := mpR h hx1
    obtain rfl := Option.some.inj h
    exact .rte (o := [(9000, some (.box [.ro (.list 1 (List.map e8 v2.k.bytes)), .ro (.int .i64 v2.k.many)]))]) Try.func58 (.n) (.c rfl .n) rfl rfl (.c rfl .n) rfl

theorem templ_pen_lists_y1_c {z : Option Nat} {l : List Template} {box0 : templ_pen} {r : templ_pen} (h : templ_pen_lists_y1 z l box0 = some r) :
    AY Try.prog 59 [.ptr 9000 0, .ro (.list 5 (List.map cells_Template l))] [(9000, [.list 1 (List.map e8 box0.k.bytes), .int .i64 box0.k.many])] [0] (.ro (.tup [])) [] [(0, .ptr 9000 0)] [(9000, [.list 1 (List.map e8 r.k.bytes), .int .i64 r.k.many])] := by
  refine AY.of Try.func59 rfl rfl fun w X M0 hM pv => ?_
  refine .kq (l := [(0, .ptr 9000 0), (1, .ro (.list 5 (List.map cells_Template l)))]) (o := [(9000, some (.box [.ro (.list 1 (List.map e8 box0.k.bytes)), .ro (.int .i64 box0.k.many)]))]) ?_ (.c rfl (.c rfl .n)) (.c rfl .n)
  unfold templ_pen_lists_y1 at h
  refine .sq ?_
  refine .sq ?_
  refine .rg (u (mv (.t rfl)) <| u (lnm sf23 (.t rfl)) <| u (mv (.i rfl)) <| .nil _) rfl ?_
  refine .bl ?_
  unfold templ_pen_lists_y1_l1 at h
  refine .kq (.lo (fun (s : Int × templ_pen) => ⟨[(0, .ptr 9000 0), (1, .ro (.list 5 (List.map cells_Template l))), (12, .ro (.list 5 (List.map cells_Template l))), (13, .ro (.int .i64 (l.length : Int))), (14, .ro (.int .i64 s.1))], [(9000, some (.box [.ro (.list 1 (List.map e8 s.2.k.bytes)), .ro (.int .i64 s.2.k.many)]))]⟩) h ?_) (.c rfl (.c rfl (.c rfl (.c rfl (.c rfl .n))))) (.c rfl .n)
  rintro ⟨v1, v2⟩ u1 h ih1 hx1
  replace h : templ_pen_lists_y1_s1 z l v1 v2 = _ := h
  unfold templ_pen_lists_y1_s1 at h
  refine .sq ?_
  refine .rg (u (bc (.t rfl) (.t rfl) rfl rfl) <| .nil _) rfl ?_
  refine .sq ?_
  refine .bq h (.t rfl) (fun h => ?_) (fun h => ?_)
  · refine .skp ?_
    refine .sq ?_
    refine .bl ?_
    refine .sq ?_
    refine be h fun x3 hx3 h => ?_
    refine .rg (u (ia sf23 (.t rfl) (.t rfl) (ix_map cells_Template hx3)) <| u (lr tf46 (.t rfl) rfl) <| al 5 zf46 rfl <| st tf46 (.t rfl) rfl (.t rfl) rfl rfl rfl <| .nil _) rfl ?_
    refine .sq ?_
    refine .rg (u (fa ff46_2 (.t rfl)) <| u (ld tf22 (.t rfl) rfl rfl) <| u (lnm sf22 (.t rfl)) <| u (mv (.i rfl)) <| .nil _) rfl ?_
    refine .bl ?_
    unfold templ_pen_lists_y1_l2 at h
    refine .kq (.lo (fun (s : Int × templ_pen) => ⟨[(0, .ptr 9000 0), (1, .ro (.list 5 (List.map cells_Template l))), (12, .ro (.list 5 (List.map cells_Template l))), (13, .ro (.int .i64 (l.length : Int))), (14, .ro (.int .i64 v1)), (19, .ro (.list 1 (List.map (ei .i64) x3.marks))), (20, .ro (.int .i64 (x3.marks.length : Int))), (21, .ro (.int .i64 s.1))], [(9000, some (.box [.ro (.list 1 (List.map e8 s.2.k.bytes)), .ro (.int .i64 s.2.k.many)]))]⟩) h ?_) (.c rfl (.c rfl (.c rfl (.c rfl (.c rfl (.c rfl (.c rfl (.c rfl .n)))))))) (.c rfl .n)
    rintro ⟨v4, v5⟩ u2 h ih2 hx2
    replace h : templ_pen_lists_y1_s2 z v1 x3 v4 v5 = _ := h
    unfold templ_pen_lists_y1_s2 at h
    refine .sq ?_
    refine .rg (u (bc (.t rfl) (.t rfl) rfl rfl) <| .nil _) rfl ?_
    refine .sq ?_
    refine .bq h (.t rfl) (fun h => ?_) (fun h => ?_)
    · refine .skp ?_
      refine .sq ?_
      refine .bl ?_
      refine .sq ?_
      refine be h fun x6 hx6 h => ?_
      refine .rg (u (ia sf22 (.t rfl) (.t rfl) (ix_map (ei .i64) hx6)) <| u (lr tf3 (.t rfl) rfl) <| u (asg (.t rfl)) <| .nil _) rfl ?_
      refine be h fun x7 hx7 h => ?_
      refine .rg (u (mv (.t rfl)) <| u (mv (.t rfl)) <| cly 28000000 cf57 (AY.ly (fun i => bif Nat.beq i 9000 then 9000 else i) (templ_pen_num_y1_c hx7) rfl rfl rfl rfl rfl rfl rfl)  (.c (.t rfl) <| .c (.t rfl) <| .c (.i rfl) <| .n) rfl (.c rfl <| .n) rfl <| .nil _) rfl ?_
      refine .ib ?_
      refine .rg (u (bi (.t rfl) (.i rfl) rfl) <| u (mv (.t rfl)) <| .nil _) rfl ?_
      exact .kq (.il (ih2 ((ar .add .i64 v4 1), x7) (nxi h))) (.c rfl (.c rfl (.c rfl (.c rfl (.c rfl (.c rfl (.c rfl (.c rfl .n)))))))) (.c rfl .n)
    · refine .xt rfl ?_
      replace h := mpR h hx2
      refine .ib ?_
      refine .rg (u (bi (.t rfl) (.i rfl) rfl) <| u (mv (.t rfl)) <| .nil _) rfl ?_
      exact .kq (.il (ih1 ((ar .add .i64 v1 1), v5) (nxi h))) (.c rfl (.c rfl (.c rfl (.c rfl (.c rfl .n))))) (.c rfl .n)
  · refine .xt rfl ?_
    replace h := mpR h hx1
    refine .sq ?_
    refine .rg (u (mv (.t rfl)) <| u (lnm sf23 (.t rfl)) <| u (mv (.i rfl)) <| .nil _) rfl ?_
    refine .bl ?_
    unfold templ_pen_lists_y1_l3 at h
    refine .kq (.lo (fun (s : Int × templ_pen) => ⟨[(0, .ptr 9000 0), (30, .ro (.list 5 (List.map cells_Template l))), (31, .ro (.int .i64 (l.length : Int))), (32, .ro (.int .i64 s.1))], [(9000, some (.box [.ro (.list 1 (List.map e8 s.2.k.bytes)), .ro (.int .i64 s.2.k.many)]))]⟩) h ?_) (.c rfl (.c rfl (.c rfl (.c rfl .n)))) (.c rfl .n)
    rintro ⟨v8, v9⟩ u3 h ih3 hx3
    replace h : templ_pen_lists_y1_s3 z l v8 v9 = _ := h
    unfold templ_pen_lists_y1_s3 at h
    refine .sq ?_
    refine .rg (u (bc (.t rfl) (.t rfl) rfl rfl) <| .nil _) rfl ?_
    refine .sq ?_
    refine .bq h (.t rfl) (fun h => ?_) (fun h => ?_)
    · refine .skp ?_
      refine .sq ?_
      refine .bl ?_
      refine .sq ?_
      refine be h fun x10 hx10 h => ?_
      refine .rg (u (ia sf23 (.t rfl) (.t rfl) (ix_map cells_Template hx10)) <| u (lr tf46 (.t rfl) rfl) <| al 9 zf46 rfl <| st tf46 (.t rfl) rfl (.t rfl) rfl rfl rfl <| .nil _) rfl ?_
      refine .sq ?_
      refine .sq ?_
      refine .rg (u (fa ff46_3 (.t rfl)) <| u (ld tf22 (.t rfl) rfl rfl) <| u (lnm sf22 (.t rfl)) <| u (mv (.i rfl)) <| .nil _) rfl ?_
      refine .bl ?_
      unfold templ_pen_lists_y1_l4 at h
      refine .kq (.lo (fun (s : Int × templ_pen) => ⟨[(0, .ptr 9000 0), (30, .ro (.list 5 (List.map cells_Template l))), (31, .ro (.int .i64 (l.length : Int))), (32, .ro (.int .i64 v8)), (37, .ro (.list 1 (List.map (ei .i64) x10.diffs))), (38, .ro (.int .i64 (x10.diffs.length : Int))), (39, .ro (.int .i64 s.1))], [(9000, some (.box [.ro (.list 1 (List.map e8 s.2.k.bytes)), .ro (.int .i64 s.2.k.many)]))]⟩) h ?_) (.c rfl (.c rfl (.c rfl (.c rfl (.c rfl (.c rfl (.c rfl .n))))))) (.c rfl .n)
      rintro ⟨v11, v12⟩ u4 h ih4 hx4
      replace h : templ_pen_lists_y1_s4 z v8 x10 v11 v12 = _ := h
      unfold templ_pen_lists_y1_s4 at h
      refine .sq ?_
      refine .rg (u (bc (.t rfl) (.t rfl) rfl rfl) <| .nil _) rfl ?_
      refine .sq ?_
      refine .bq h (.t rfl) (fun h => ?_) (fun h => ?_)
      · refine .skp ?_
        refine .sq ?_
        refine .bl ?_
        refine .sq ?_
        refine be h fun x13 hx13 h => ?_
        refine .rg (u (ia sf22 (.t rfl) (.t rfl) (ix_map (ei .i64) hx13)) <| u (lr tf3 (.t rfl) rfl) <| u (asg (.t rfl)) <| .nil _) rfl ?_
        refine .sq ?_
        refine be h fun x14 hx14 h => ?_
        refine .rg (u (mv (.t rfl)) <| cly 45000000 cf57 (AY.ly (fun i => bif Nat.beq i 9000 then 9000 else i) (templ_pen_num_y1_c hx14) rfl rfl rfl rfl rfl rfl rfl)  (.c (.t rfl) <| .c (.i rfl) <| .c (.i rfl) <| .n) rfl (.c rfl <| .n) rfl <| .nil _) rfl ?_
        refine be h fun x15 hx15 h => ?_
        refine .rg (u (mv (.t rfl)) <| u (mv (.t rfl)) <| u (bi (.t rfl) (.i rfl) rfl) <| cly 49000000 cf57 (AY.ly (fun i => bif Nat.beq i 9000 then 9000 else i) (templ_pen_num_y1_c hx15) rfl rfl rfl rfl rfl rfl rfl)  (.c (.t rfl) <| .c (.t rfl) <| .c (.i rfl) <| .n) rfl (.c rfl <| .n) rfl <| .nil _) rfl ?_
        refine .ib ?_
        refine .rg (u (bi (.t rfl) (.i rfl) rfl) <| u (mv (.t rfl)) <| .nil _) rfl ?_
        exact .kq (.il (ih4 ((ar .add .i64 v11 1), x15) (nxi h))) (.c rfl (.c rfl (.c rfl (.c rfl (.c rfl (.c rfl (.c rfl .n))))))) (.c rfl .n)
      · refine .xt rfl ?_
        replace h := mpR h hx4
        refine be h fun x16 hx16 h => ?_
        refine .rg (u (mv (.t rfl)) <| cly 52000000 cf57 (AY.ly (fun i => bif Nat.beq i 9000 then 9000 else i) (templ_pen_num_y1_c hx16) rfl rfl rfl rfl rfl rfl rfl)  (.c (.t rfl) <| .c (.i rfl) <| .c (.i rfl) <| .n) rfl (.c rfl <| .n) rfl <| .nil _) rfl ?_
        refine .ib ?_
        refine .rg (u (bi (.t rfl) (.i rfl) rfl) <| u (mv (.t rfl)) <| .nil _) rfl ?_
        exact .kq (.il (ih3 ((ar .add .i64 v8 1), x16) (nxi h))) (.c rfl (.c rfl (.c rfl (.c rfl .n)))) (.c rfl .n)
    · refine .xt rfl ?_
      replace h := mpR h hx3
      obtain rfl := Option.some.inj h
      exact .rte (o := [(9000, some (.box [.ro (.list 1 (List.map e8 v9.k.bytes)), .ro (.int .i64 v9.k.many)]))]) Try.func59 (.n) (.c rfl .n) rfl rfl (.c rfl .n) rfl

theorem templ_pen_ranged_y1_c {z : Option Nat} {n : Int} {many : Int} {box0 : templ_pen} {r : templ_pen} (h : templ_pen_ranged_y1 z n many box0 = some r) :
    AY Try.prog 66 [.ptr 9000 0, .ro (.int .i64 n), .ro (.int .i64 many)] [(9000, [.list 1 (List.map e8 box0.k.bytes), .int .i64 box0.k.many])] [0] (.ro (.tup [])) [] [(0, .ptr 9000 0)] [(9000, [.list 1 (List.map e8 r.k.bytes), .int .i64 r.k.many])] := by
  refine AY.of Try.func66 rfl rfl fun w X M0 hM pv => ?_
  refine .kq (l := [(0, .ptr 9000 0), (1, .ro (.int .i64 n)), (2, .ro (.int .i64 many))]) (o := [(9000, some (.box [.ro (.list 1 (List.map e8 box0.k.bytes)), .ro (.int .i64 box0.k.many)]))]) ?_ (.c rfl (.c rfl (.c rfl .n))) (.c rfl .n)
  unfold templ_pen_ranged_y1 at h
  refine be h fun x1 hx1 h => ?_
  refine .rg (u (mv (.t rfl)) <| u (mv (.t rfl)) <| u (nkp (.t rfl)) <| u (fa ff97_0 (.t rfl)) <| u (ld tf51 (.t rfl) rfl rfl) <| u (mv (.t rfl)) <| u (cv cv3_83 (.t rfl)) <| u (mv (.t rfl)) <| u (cv cv3_83 (.t rfl)) <| cl [] cf70 (bits_AddRange_c hx1) (.c (.t rfl) <| .c (.t rfl) <| .c (.t rfl) <| .n) (.inl rfl) <| u (mv (.t rfl)) <| u (ex (.t rfl) rfl rfl) <| u (ex (.t rfl) rfl rfl) <| u (nkp (.t rfl)) <| u (fa ff97_0 (.t rfl)) <| st tf51 (.t rfl) rfl (.t rfl) rfl rfl rfl <| .nil _) rfl ?_
  obtain rfl := Option.some.inj h
  exact .rte (o := [(9000, some (.box [.ro (.list 1 (List.map e8 x1.1.bytes)), .ro (.int .i64 x1.1.many)]))]) Try.func66 (.n) (.c rfl .n) rfl rfl (.c rfl .n) rfl

theorem templ_pen_chains_y1_c {z : Option Nat} {p_s : Structure} {box0 : templ_pen} {r : templ_pen} (h : templ_pen_chains_y1 z p_s box0 = some r) :
    AY Try.prog 60 [.ptr 9000 0, .ro (enc_Structure p_s)] [(9000, [.list 1 (List.map e8 box0.k.bytes), .int .i64 box0.k.many])] [0] (.ro (.tup [])) [] [(0, .ptr 9000 0)] [(9000, [.list 1 (List.map e8 r.k.bytes), .int .i64 r.k.many])] := by
  refine AY.of Try.func60 rfl rfl fun w X M0 hM pv => ?_
  refine .kq (l := [(0, .ptr 9000 0), (1, .ro (enc_Structure p_s))]) (o := [(9000, some (.box [.ro (.list 1 (List.map e8 box0.k.bytes)), .ro (.int .i64 box0.k.many)]))]) ?_ (.c rfl (.c rfl .n)) (.c rfl .n)
  unfold templ_pen_chains_y1 at h
  refine .sq ?_
  refine .rg (bx 3 (.t rfl) rfl rfl <| .nil _) rfl ?_
  refine .sq ?_
  refine be h fun x1 hx1 h => ?_
  refine .rg (u (mv (.t rfl)) <| u (fa ff26_2 (.t rfl)) <| u (ld tf3 (.t rfl) rfl rfl) <| u (fa ff26_1 (.t rfl)) <| u (ld tf3 (.t rfl) rfl rfl) <| u (bi (.t rfl) (.i rfl) rfl) <| cly 17000000 cf66 (AY.ly (fun i => bif Nat.beq i 9000 then 9000 else i) (templ_pen_ranged_y1_c hx1) rfl rfl rfl rfl rfl rfl rfl)  (.c (.t rfl) <| .c (.t rfl) <| .c (.t rfl) <| .n) rfl (.c rfl <| .n) rfl <| .nil _) rfl ?_
  refine .sq ?_
  refine .sq ?_
  refine .rg (u (fa ff26_3 (.t rfl)) <| u (ld tf22 (.t rfl) rfl rfl) <| u (lnm sf22 (.t rfl)) <| u (mv (.i rfl)) <| .nil _) rfl ?_
  refine .bl ?_
  unfold templ_pen_chains_y1_l1 at h
  refine .kq (.lo (fun (s : Int × Structure × templ_pen) => ⟨[(0, .ptr 9000 0), (3, .ptr 3 0), (18, .ro (.list 1 (List.map (ei .i64) p_s.protect))), (19, .ro (.int .i64 (p_s.protect.length : Int))), (20, .ro (.int .i64 s.1))], [(3, some (.box [.ro (.int .i64 s.2.1.id_), .ro (.int .i64 s.2.1.targets), .ro (.int .i64 s.2.1.chains), .ro (.list 1 (List.map (ei .i64) s.2.1.protect)), .ro (.list 5 (List.map cells_Template s.2.1.templates)), .ro (.list 2 (List.map cells_Size s.2.1.sizes))])), (9000, some (.box [.ro (.list 1 (List.map e8 s.2.2.k.bytes)), .ro (.int .i64 s.2.2.k.many)]))]⟩) h ?_) (.c rfl (.c rfl (.c rfl (.c rfl (.c rfl .n))))) (.c rfl (.c rfl .n))
  rintro ⟨v2, v3, v4⟩ u1 h ih1 hx1
  replace h : templ_pen_chains_y1_s1 z p_s v2 v3 v4 = _ := h
  unfold templ_pen_chains_y1_s1 at h
  refine .sq ?_
  refine .rg (u (bc (.t rfl) (.t rfl) rfl rfl) <| .nil _) rfl ?_
  refine .sq ?_
  refine .bq h (.t rfl) (fun h => ?_) (fun h => ?_)
  · refine .skp ?_
    refine .sq ?_
    refine .bl ?_
    refine .sq ?_
    refine be h fun x5 hx5 h => ?_
    refine .rg (u (ia sf22 (.t rfl) (.t rfl) (ix_map (ei .i64) hx5)) <| u (lr tf3 (.t rfl) rfl) <| u (asg (.t rfl)) <| .nil _) rfl ?_
    refine be h fun x6 hx6 h => ?_
    refine .rg (u (mv (.t rfl)) <| u (mv (.t rfl)) <| u (fa ff26_2 (.t rfl)) <| u (ld tf3 (.t rfl) rfl rfl) <| cly 29000000 cf66 (AY.ly (fun i => bif Nat.beq i 9000 then 9000 else i) (templ_pen_ranged_y1_c hx6) rfl rfl rfl rfl rfl rfl rfl)  (.c (.t rfl) <| .c (.t rfl) <| .c (.t rfl) <| .n) rfl (.c rfl <| .n) rfl <| .nil _) rfl ?_
    refine .ib ?_
    refine .rg (u (bi (.t rfl) (.i rfl) rfl) <| u (mv (.t rfl)) <| .nil _) rfl ?_
    exact .kq (.il (ih1 ((ar .add .i64 v2 1), v3, x6) (nxi h))) (.c rfl (.c rfl (.c rfl (.c rfl (.c rfl .n))))) (.c rfl (.c rfl .n))
  · refine .xt rfl ?_
    replace h := mpR h hx1
    refine .sq ?_
    refine .rg (u (fa ff26_4 (.t rfl)) <| u (ld tf23 (.t rfl) rfl rfl) <| u (lnm sf23 (.t rfl)) <| u (mv (.i rfl)) <| .nil _) rfl ?_
    refine .bl ?_
    unfold templ_pen_chains_y1_l2 at h
    refine .kq (.lo (fun (s : Int × templ_pen) => ⟨[(0, .ptr 9000 0), (31, .ro (.list 5 (List.map cells_Template v3.templates))), (32, .ro (.int .i64 (v3.templates.length : Int))), (33, .ro (.int .i64 s.1))], [(9000, some (.box [.ro (.list 1 (List.map e8 s.2.k.bytes)), .ro (.int .i64 s.2.k.many)]))]⟩) h ?_) (.c rfl (.c rfl (.c rfl (.c rfl .n)))) (.c rfl .n)
    rintro ⟨v7, v8⟩ u2 h ih2 hx2
    replace h : templ_pen_chains_y1_s2 z v3 v7 v8 = _ := h
    unfold templ_pen_chains_y1_s2 at h
    refine .sq ?_
    refine .rg (u (bc (.t rfl) (.t rfl) rfl rfl) <| .nil _) rfl ?_
    refine .sq ?_
    refine .bq h (.t rfl) (fun h => ?_) (fun h => ?_)
    · refine .skp ?_
      refine .sq ?_
      refine .bl ?_
      refine .sq ?_
      refine be h fun x9 hx9 h => ?_
      refine .rg (u (ia sf23 (.t rfl) (.t rfl) (ix_map cells_Template hx9)) <| u (lr tf46 (.t rfl) rfl) <| al 7 zf46 rfl <| st tf46 (.t rfl) rfl (.t rfl) rfl rfl rfl <| .nil _) rfl ?_
      refine .sq ?_
      refine .rg (u (fa ff46_4 (.t rfl)) <| u (ld tf22 (.t rfl) rfl rfl) <| u (lnm sf22 (.t rfl)) <| u (mv (.i rfl)) <| .nil _) rfl ?_
      refine .bl ?_
      unfold templ_pen_chains_y1_l3 at h
      refine .kq (.lo (fun (s : Int × templ_pen) => ⟨[(0, .ptr 9000 0), (31, .ro (.list 5 (List.map cells_Template v3.templates))), (32, .ro (.int .i64 (v3.templates.length : Int))), (33, .ro (.int .i64 v7)), (38, .ro (.list 1 (List.map (ei .i64) x9.chains))), (39, .ro (.int .i64 (x9.chains.length : Int))), (40, .ro (.int .i64 s.1))], [(9000, some (.box [.ro (.list 1 (List.map e8 s.2.k.bytes)), .ro (.int .i64 s.2.k.many)]))]⟩) h ?_) (.c rfl (.c rfl (.c rfl (.c rfl (.c rfl (.c rfl (.c rfl .n))))))) (.c rfl .n)
      rintro ⟨v10, v11⟩ u3 h ih3 hx3
      replace h : templ_pen_chains_y1_s3 z v7 x9 v10 v11 = _ := h
      unfold templ_pen_chains_y1_s3 at h
      refine .sq ?_
      refine .rg (u (bc (.t rfl) (.t rfl) rfl rfl) <| .nil _) rfl ?_
      refine .sq ?_
      refine .bq h (.t rfl) (fun h => ?_) (fun h => ?_)
      · refine .skp ?_
        refine .sq ?_
        refine .bl ?_
        refine .sq ?_
        refine be h fun x12 hx12 h => ?_
        refine .rg (u (ia sf22 (.t rfl) (.t rfl) (ix_map (ei .i64) hx12)) <| u (lr tf3 (.t rfl) rfl) <| u (asg (.t rfl)) <| .nil _) rfl ?_
        refine be h fun x13 hx13 h => ?_
        refine .rg (u (mv (.t rfl)) <| u (mv (.t rfl)) <| cly 47000000 cf57 (AY.ly (fun i => bif Nat.beq i 9000 then 9000 else i) (templ_pen_num_y1_c hx13) rfl rfl rfl rfl rfl rfl rfl)  (.c (.t rfl) <| .c (.t rfl) <| .c (.i rfl) <| .n) rfl (.c rfl <| .n) rfl <| .nil _) rfl ?_
        refine .ib ?_
        refine .rg (u (bi (.t rfl) (.i rfl) rfl) <| u (mv (.t rfl)) <| .nil _) rfl ?_
        exact .kq (.il (ih3 ((ar .add .i64 v10 1), x13) (nxi h))) (.c rfl (.c rfl (.c rfl (.c rfl (.c rfl (.c rfl (.c rfl .n))))))) (.c rfl .n)
      · refine .xt rfl ?_
        replace h := mpR h hx3
        refine .ib ?_
        refine .rg (u (bi (.t rfl) (.i rfl) rfl) <| u (mv (.t rfl)) <| .nil _) rfl ?_
        exact .kq (.il (ih2 ((ar .add .i64 v7 1), v11) (nxi h))) (.c rfl (.c rfl (.c rfl (.c rfl .n)))) (.c rfl .n)
    · refine .xt rfl ?_
      replace h := mpR h hx2
      obtain rfl := Option.some.inj h
      exact .rte (o := [(9000, some (.box [.ro (.list 1 (List.map e8 v8.k.bytes)), .ro (.int .i64 v8.k.many)]))]) Try.func60 (.n) (.c rfl .n) rfl rfl (.c rfl .n) rfl

theorem templ_Put_c {z : Option Nat} {k : Ink} {p_s : Structure} {r : Ink × Int} (h : templ_Put z k p_s = some r) :
    AC Try.prog 44 [.ro (enc_Ink k), .ro (enc_Structure p_s)] (.ro (.tup [enc_Ink r.1, .int .i64 r.2])) [] := by
  refine AC.of Try.func44 rfl rfl fun w M0 hM => ?_
  unfold templ_Put at h
  refine .sq ?_
  refine .rg (bx 2 (.t rfl) rfl rfl <| bx 3 (.t rfl) rfl rfl <| al 4 zf51 rfl <| u (asg (.i rfl)) <| .nil _) rfl ?_
  refine .sq ?_
  refine .sq ?_
  refine be h fun x1 hx1 h => ?_
  refine be h fun x2 hx2 h => ?_
  refine .rg (u (ld tf51 (.t rfl) rfl rfl) <| cl [] cf54 (bits_Right_c hx1) (.c (.t rfl) <| .n) (.inl rfl) <| u (no (.t rfl)) <| u (mv (.t rfl)) <| gd rfl rfl (fun hB => ld tf26 (.t rfl) rfl rfl) <| cg rfl rfl cf14 (fun hB => (templ_Right_c (gTt hx2 (nt hB)))) (fun hB => .c (.m rfl hB) <| .n) (.inl rfl) <| gd rfl rfl (fun hB => no (.m rfl hB)) <| u (pko (.t rfl) (.t rfl)) <| .nil _) rfl ?_
  refine .bq h (.t rfl) (fun h => ?_) (fun h => ?_)
  · refine .sq ?_
    refine .rg (u (ld tf51 (.t rfl) rfl rfl) <| st tf51 (.t rfl) rfl (.t rfl) rfl rfl rfl <| u (asg (.i rfl)) <| .nil _) rfl ?_
    obtain rfl := Option.some.inj h
    exact .rt Try.func44 (.c tf51 rfl rfl rfl <| .t rfl <| .n) .n rfl rfl
  · refine .skp ?_
    refine .sq ?_
    refine .rg (u (ld tf51 (.t rfl) rfl rfl) <| u (bd bf97 zf97 (.c rfl (.t rfl) rfl rfl rfl <| .n) rfl) <| bx 20 (.t rfl) rfl rfl <| u (asg (.t rfl)) <| .nil _) rfl ?_
    refine .sq ?_
    refine be h fun x3 hx3 h => ?_
    refine .rg (u (mv (.t rfl)) <| u (fa ff26_0 (.t rfl)) <| u (ld tf3 (.t rfl) rfl rfl) <| cly 25000000 cf57 (AY.ly (fun i => bif Nat.beq i 9000 then 20 else i) (templ_pen_num_y1_c hx3) rfl rfl rfl rfl rfl rfl rfl)  (.c (.t rfl) <| .c (.t rfl) <| .c (.i rfl) <| .n) rfl (.c rfl <| .n) rfl <| .nil _) rfl ?_
    refine .sq ?_
    refine be h fun x4 hx4 h => ?_
    refine .rg (u (mv (.t rfl)) <| u (fa ff26_1 (.t rfl)) <| u (ld tf3 (.t rfl) rfl rfl) <| u (bi (.t rfl) (.i rfl) rfl) <| cly 30000000 cf57 (AY.ly (fun i => bif Nat.beq i 9000 then 20 else i) (templ_pen_num_y1_c hx4) rfl rfl rfl rfl rfl rfl rfl)  (.c (.t rfl) <| .c (.t rfl) <| .c (.i rfl) <| .n) rfl (.c rfl <| .n) rfl <| .nil _) rfl ?_
    refine .sq ?_
    refine be h fun x5 hx5 h => ?_
    refine .rg (u (mv (.t rfl)) <| u (fa ff26_4 (.t rfl)) <| u (ld tf23 (.t rfl) rfl rfl) <| cly 34000000 cf58 (AY.ly (fun i => bif Nat.beq i 9000 then 20 else i) (templ_pen_layers_y1_c hx5) rfl rfl rfl rfl rfl rfl rfl)  (.c (.t rfl) <| .c (.t rfl) <| .n) rfl (.c rfl <| .n) rfl <| .nil _) rfl ?_
    refine .sq ?_
    refine be h fun x6 hx6 h => ?_
    refine .rg (u (mv (.t rfl)) <| u (fa ff26_4 (.t rfl)) <| u (ld tf23 (.t rfl) rfl rfl) <| cly 38000000 cf59 (AY.ly (fun i => bif Nat.beq i 9000 then 20 else i) (templ_pen_lists_y1_c hx6) rfl rfl rfl rfl rfl rfl rfl)  (.c (.t rfl) <| .c (.t rfl) <| .n) rfl (.c rfl <| .n) rfl <| .nil _) rfl ?_
    refine .sq ?_
    refine be h fun x7 hx7 h => ?_
    refine .rg (u (mv (.t rfl)) <| u (ld tf26 (.t rfl) rfl rfl) <| cly 41000000 cf60 (AY.ly (fun i => bif Nat.beq i 9000 then 20 else i) (templ_pen_chains_y1_c hx7) rfl rfl rfl rfl rfl rfl rfl)  (.c (.t rfl) <| .c (.t rfl) <| .n) rfl (.c rfl <| .n) rfl <| .nil _) rfl ?_
    refine .sq ?_
    refine be h fun x8 hx8 h => ?_
    refine .rg (u (mv (.t rfl)) <| u (fa ff26_5 (.t rfl)) <| u (ld tf24 (.t rfl) rfl rfl) <| u (lnm sf24 (.t rfl)) <| u (mn (.t rfl) (.i rfl)) <| cly 47000000 cf57 (AY.ly (fun i => bif Nat.beq i 9000 then 20 else i) (templ_pen_num_y1_c hx8) rfl rfl rfl rfl rfl rfl rfl)  (.c (.t rfl) <| .c (.t rfl) <| .c (.i rfl) <| .n) rfl (.c rfl <| .n) rfl <| .nil _) rfl ?_
    refine .sq ?_
    refine .sq ?_
    refine .rg (u (fa ff26_5 (.t rfl)) <| u (ld tf24 (.t rfl) rfl rfl) <| u (lnm sf24 (.t rfl)) <| u (mv (.i rfl)) <| .nil _) rfl ?_
    refine .bl ?_
    unfold templ_Put_l1 at h
    refine .kq (.lo (fun (s : Int × templ_pen) => ⟨[(4, .ptr 4 0), (6, .ptr 20 0), (48, .ro (.list 2 (List.map cells_Size p_s.sizes))), (49, .ro (.int .i64 (p_s.sizes.length : Int))), (50, .ro (.int .i64 s.1))], [(4, some (.box [.ro (.list 1 (List.map e8 [])), .ro (.int .i64 0)])), (20, some (.box [.ro (.list 1 (List.map e8 s.2.k.bytes)), .ro (.int .i64 s.2.k.many)]))]⟩) h ?_) (.c rfl (.c rfl (.c rfl (.c rfl (.c rfl .n))))) (.c rfl (.c rfl .n))
    rintro ⟨v9, v10⟩ u1 h ih1 hx1
    replace h : templ_Put_s1 z k p_s v9 v10 = _ := h
    unfold templ_Put_s1 at h
    refine .sq ?_
    refine .rg (u (bc (.t rfl) (.t rfl) rfl rfl) <| .nil _) rfl ?_
    refine .sq ?_
    refine .bq h (.t rfl) (fun h => ?_) (fun h => ?_)
    · refine .skp ?_
      refine .sq ?_
      refine .bl ?_
      refine .sq ?_
      refine be h fun x11 hx11 h => ?_
      refine .rg (u (ia sf24 (.t rfl) (.t rfl) (ix_map cells_Size hx11)) <| u (lr tf74 (.t rfl) rfl) <| al 8 zf74 rfl <| st tf74 (.t rfl) rfl (.t rfl) rfl rfl rfl <| .nil _) rfl ?_
      refine .sq ?_
      refine be h fun x12 hx12 h => ?_
      refine .rg (u (mv (.t rfl)) <| u (fa ff74_0 (.t rfl)) <| u (ld tf3 (.t rfl) rfl rfl) <| u (bi (.t rfl) (.i rfl) rfl) <| cly 59000000 cf57 (AY.ly (fun i => bif Nat.beq i 9000 then 20 else i) (templ_pen_num_y1_c hx12) rfl rfl rfl rfl rfl rfl rfl)  (.c (.t rfl) <| .c (.t rfl) <| .c (.i rfl) <| .n) rfl (.c rfl <| .n) rfl <| .nil _) rfl ?_
      refine be h fun x13 hx13 h => ?_
      refine .rg (u (mv (.t rfl)) <| u (fa ff74_1 (.t rfl)) <| u (ld tf3 (.t rfl) rfl rfl) <| u (bi (.t rfl) (.i rfl) rfl) <| cly 64000000 cf57 (AY.ly (fun i => bif Nat.beq i 9000 then 20 else i) (templ_pen_num_y1_c hx13) rfl rfl rfl rfl rfl rfl rfl)  (.c (.t rfl) <| .c (.t rfl) <| .c (.i rfl) <| .n) rfl (.c rfl <| .n) rfl <| .nil _) rfl ?_
      refine .ib ?_
      refine .rg (u (bi (.t rfl) (.i rfl) rfl) <| u (mv (.t rfl)) <| .nil _) rfl ?_
      exact .kq (.il (ih1 ((ar .add .i64 v9 1), x13) (nxi h))) (.c rfl (.c rfl (.c rfl (.c rfl (.c rfl .n))))) (.c rfl (.c rfl .n))
    · refine .xt rfl ?_
      replace h := mpR h hx1
      refine .sq ?_
      refine .rg (u (mv (.t rfl)) <| u (nkp (.t rfl)) <| u (fa ff97_0 (.t rfl)) <| u (ld tf51 (.t rfl) rfl rfl) <| st tf51 (.t rfl) rfl (.t rfl) rfl rfl rfl <| u (asg (.i rfl)) <| .nil _) rfl ?_
      obtain rfl := Option.some.inj h
      exact .rt Try.func44 (.c tf51 rfl rfl rfl <| .t rfl <| .n) .n rfl rfl

theorem av1_groups_c {z : Option Nat} {n : Int} {r : Int} (h : av1_groups z n = some r) :
    AC Try.prog 45 [.ro (.int .i64 n)] (.ro (.int .i64 r)) [] := by
  refine AC.of Try.func45 rfl rfl fun w M0 hM => ?_
  unfold av1_groups at h
  refine .sq ?_
  refine .rg (u (asg (.i rfl)) <| .nil _) rfl ?_
  refine .sq ?_
  refine .rg (u (asg (.i rfl)) <| .nil _) rfl ?_
  refine .sq ?_
  refine .bl ?_
  unfold av1_groups_l1 at h
  refine .kq (.lo (fun (s : Int) => ⟨[(0, .ro (.int .i64 n)), (3, .ro (.int .i64 s))], []⟩) h ?_) (.c rfl (.c rfl .n)) .n
  intro v1 u1 h ih1 hx1
  replace h : av1_groups_s1 z n v1 = _ := h
  unfold av1_groups_s1 at h
  refine .sq ?_
  refine .sq ?_
  refine be h fun x2 hx2 h => ?_
  refine .rg (u (mv (.t rfl)) <| u (bi (.t rfl) (.i rfl) rfl) <| u (mv (.t rfl)) <| u (bi (.i rfl) (.t rfl) rfl) <| u (sho (.t rfl) (.t rfl) rfl hx2) <| u (bc (.t rfl) (.i rfl) rfl rfl) <| .nil _) rfl ?_
  refine .bq h (.t rfl) (fun h => ?_) (fun h => ?_)
  · refine .skp ?_
    refine .bl ?_
    refine .rg (u (mv (.t rfl)) <| u (bi (.t rfl) (.i rfl) rfl) <| u (asg (.t rfl)) <| .nil _) rfl ?_
    refine .ib ?_
    exact .kq (.il (ih1 (ar .add .i64 v1 1) (nxi h))) (.c rfl (.c rfl .n)) .n
  · refine .xt rfl ?_
    replace h := mpR h hx1
    refine .sq ?_
    refine .rg (u (mv (.t rfl)) <| u (asg (.t rfl)) <| .nil _) rfl ?_
    obtain rfl := Option.some.inj h
    exact .rt Try.func45 (.t rfl <| .n) .n rfl rfl

theorem av1_pen_num_y1_c {z : Option Nat} {n : Int} {width : Int} {box0 : av1_pen} {r : av1_pen} (h : av1_pen_num_y1 z n width box0 = some r) :
    AY Try.prog 18 [.ptr 9000 0, .ro (.int .i64 n), .ro (.int .i64 width)] [(9000, [.list 1 (List.map e8 box0.k.bytes), .int .i64 box0.k.many])] [0] (.ro (.tup [])) [] [(0, .ptr 9000 0)] [(9000, [.list 1 (List.map e8 r.k.bytes), .int .i64 r.k.many])] := by
  refine AY.of Try.func18 rfl rfl fun w X M0 hM pv => ?_
  refine .kq (l := [(0, .ptr 9000 0), (1, .ro (.int .i64 n)), (2, .ro (.int .i64 width))]) (o := [(9000, some (.box [.ro (.list 1 (List.map e8 box0.k.bytes)), .ro (.int .i64 box0.k.many)]))]) ?_ (.c rfl (.c rfl (.c rfl .n))) (.c rfl .n)
  unfold av1_pen_num_y1 at h
  refine be h fun x1 hx1 h => ?_
  refine .rg (u (mv (.t rfl)) <| u (mv (.t rfl)) <| u (nkp (.t rfl)) <| u (fa ff53_0 (.t rfl)) <| u (ld tf51 (.t rfl) rfl rfl) <| u (mv (.t rfl)) <| u (cv cv3_83 (.t rfl)) <| u (mv (.t rfl)) <| cl [] cf43 (bits_Add_c hx1) (.c (.t rfl) <| .c (.t rfl) <| .c (.t rfl) <| .n) (.inl rfl) <| u (mv (.t rfl)) <| u (ex (.t rfl) rfl rfl) <| u (ex (.t rfl) rfl rfl) <| u (nkp (.t rfl)) <| u (fa ff53_0 (.t rfl)) <| st tf51 (.t rfl) rfl (.t rfl) rfl rfl rfl <| .nil _) rfl ?_
  obtain rfl := Option.some.inj h
  exact .rte (o := [(9000, some (.box [.ro (.list 1 (List.map e8 x1.1.bytes)), .ro (.int .i64 x1.1.many)]))]) Try.func18 (.n) (.c rfl .n) rfl rfl (.c rfl .n) rfl

theorem av1_pen_truths_y1_c {z : Option Nat} {l : List Bool} {box0 : av1_pen} {r : av1_pen} (h : av1_pen_truths_y1 z l box0 = some r) :
    AY Try.prog 17 [.ptr 9000 0, .ro (.list 1 (List.map eb l))] [(9000, [.list 1 (List.map e8 box0.k.bytes), .int .i64 box0.k.many])] [0] (.ro (.tup [])) [] [(0, .ptr 9000 0)] [(9000, [.list 1 (List.map e8 r.k.bytes), .int .i64 r.k.many])] := by
  refine AY.of Try.func17 rfl rfl fun w X M0 hM pv => ?_
  refine .kq (l := [(0, .ptr 9000 0), (1, .ro (.list 1 (List.map eb l)))]) (o := [(9000, some (.box [.ro (.list 1 (List.map e8 box0.k.bytes)), .ro (.int .i64 box0.k.many)]))]) ?_ (.c rfl (.c rfl .n)) (.c rfl .n)
  unfold av1_pen_truths_y1 at h
  refine .sq ?_
  refine .rg (u (mv (.t rfl)) <| u (lnm sf80 (.t rfl)) <| u (mv (.i rfl)) <| .nil _) rfl ?_
  refine .bl ?_
  unfold av1_pen_truths_y1_l1 at h
  refine .kq (.lo (fun (s : Int × av1_pen) => ⟨[(0, .ptr 9000 0), (7, .ro (.list 1 (List.map eb l))), (8, .ro (.int .i64 (l.length : Int))), (9, .ro (.int .i64 s.1))], [(9000, some (.box [.ro (.list 1 (List.map e8 s.2.k.bytes)), .ro (.int .i64 s.2.k.many)]))]⟩) h ?_) (.c rfl (.c rfl (.c rfl (.c rfl .n)))) (.c rfl .n)
  rintro ⟨v1, v2⟩ u1 h ih1 hx1
  replace h : av1_pen_truths_y1_s1 z l v1 v2 = _ := h
  unfold av1_pen_truths_y1_s1 at h
  refine .sq ?_
  refine .rg (u (bc (.t rfl) (.t rfl) rfl rfl) <| .nil _) rfl ?_
  refine .sq ?_
  refine .bq h (.t rfl) (fun h => ?_) (fun h => ?_)
  · refine .skp ?_
    refine .sq ?_
    refine .bl ?_
    refine .sq ?_
    refine be h fun x3 hx3 h => ?_
    refine .rg (u (ia sf80 (.t rfl) (.t rfl) (ix_map eb hx3)) <| u (lr tf4 (.t rfl) rfl) <| u (asg (.t rfl)) <| .nil _) rfl ?_
    refine .sq ?_
    refine .rg (u (asg (.i rfl)) <| .nil _) rfl ?_
    refine .sq ?_
    refine .sq ?_
    refine .rg (u (mv (.t rfl)) <| .nil _) rfl ?_
    refine .jq (t := some u1) (fun (a : Int) => ⟨[(0, .ptr 9000 0), (6, .ro (.int .i64 a)), (7, .ro (.list 1 (List.map eb l))), (8, .ro (.int .i64 (l.length : Int))), (9, .ro (.int .i64 v1))], [(9000, some (.box [.ro (.list 1 (List.map e8 v2.k.bytes)), .ro (.int .i64 v2.k.many)]))]⟩) (fun (a : Int) => av1_pen_truths_y1_j2 z v1 v2 a) ?_ (fun J2 => ?_)
    · intro v4 h
      replace h : av1_pen_truths_y1_j2 z v1 v2 v4 = _ := h
      unfold av1_pen_truths_y1_j2 at h
      refine be h fun x5 hx5 h => ?_
      refine .rg (u (mv (.t rfl)) <| u (mv (.t rfl)) <| cly 17000000 cf18 (AY.ly (fun i => bif Nat.beq i 9000 then 9000 else i) (av1_pen_num_y1_c hx5) rfl rfl rfl rfl rfl rfl rfl)  (.c (.t rfl) <| .c (.t rfl) <| .c (.i rfl) <| .n) rfl (.c rfl <| .n) rfl <| .nil _) rfl ?_
      refine .ib ?_
      refine .rg (u (bi (.t rfl) (.i rfl) rfl) <| u (mv (.t rfl)) <| .nil _) rfl ?_
      exact .kq (.il (ih1 ((ar .add .i64 v1 1), x5) (nxi h))) (.c rfl (.c rfl (.c rfl (.c rfl .n)))) (.c rfl .n)
    refine .bq h (.t rfl) (fun h => ?_) (fun h => ?_)
    · refine .rg (u (asg (.i rfl)) <| .nil _) rfl ?_
      exact .kq (J2 1 h) (.c rfl (.c rfl (.c rfl (.c rfl (.c rfl .n))))) (.c rfl .n)
    · refine .skp ?_
      exact .kq (J2 0 h) (.c rfl (.c rfl (.c rfl (.c rfl (.c rfl .n))))) (.c rfl .n)
  · refine .xt rfl ?_
    replace h := mpR h hx1
    obtain rfl := Option.some.inj h
    exact .rte (o := [(9000, some (.box [.ro (.list 1 (List.map e8 v2.k.bytes)), .ro (.int .i64 v2.k.many)]))]) Try.func17 (.n) (.c rfl .n) rfl rfl (.c rfl .n) rfl

theorem av1_pen_more_y1_c {z : Option Nat} {f : Frame} {p_s : Structure} {box0 : av1_pen} {r : av1_pen} (h : av1_pen_more_y1 z f p_s box0 = some r) :
    AY Try.prog 19 [.ptr 9000 0, .ro (enc_Frame f), .ro (enc_Structure p_s)] [(9000, [.list 1 (List.map e8 box0.k.bytes), .int .i64 box0.k.many])] [0] (.ro (.tup [])) [] [(0, .ptr 9000 0)] [(9000, [.list 1 (List.map e8 r.k.bytes), .int .i64 r.k.many])] := by
  refine AY.of Try.func19 rfl rfl fun w X M0 hM pv => ?_
  refine .kq (l := [(0, .ptr 9000 0), (1, .ro (enc_Frame f)), (2, .ro (enc_Structure p_s))]) (o := [(9000, some (.box [.ro (.list 1 (List.map e8 box0.k.bytes)), .ro (.int .i64 box0.k.many)]))]) ?_ (.c rfl (.c rfl (.c rfl .n))) (.c rfl .n)
  unfold av1_pen_more_y1 at h
  refine .sq ?_
  refine .rg (bx 4 (.t rfl) rfl rfl <| bx 5 (.t rfl) rfl rfl <| .nil _) rfl ?_
  refine .sq ?_
  refine be h fun x1 hx1 h => ?_
  refine .rg (u (mv (.t rfl)) <| u (fa ff29_4 (.t rfl)) <| u (ld tf4 (.t rfl) rfl rfl) <| u (fa ff29_6 (.t rfl)) <| u (ld tf4 (.t rfl) rfl rfl) <| u (fa ff29_8 (.t rfl)) <| u (ld tf4 (.t rfl) rfl rfl) <| u (fa ff29_10 (.t rfl)) <| u (ld tf4 (.t rfl) rfl rfl) <| u (fa ff29_12 (.t rfl)) <| u (ld tf4 (.t rfl) rfl rfl) <| nu (bsn (F := eb) (l := [f.hasStructure, f.hasActive, f.ownMarks, f.ownDiffs, f.ownChains]) pf80 (.c (.t rfl) rfl <| .c (.t rfl) rfl <| .c (.t rfl) rfl <| .c (.t rfl) rfl <| .c (.t rfl) rfl <| .n) rfl (fun _ _ => rfl) rfl) <| cly 26000000 cf17 (AY.ly (fun i => bif Nat.beq i 9000 then 9000 else i) (av1_pen_truths_y1_c hx1) rfl rfl rfl rfl rfl rfl rfl)  (.c (.t rfl) <| .c (.t rfl) <| .n) rfl (.c rfl <| .n) rfl <| .nil _) rfl ?_
  refine .sq ?_
  refine .sq ?_
  refine .rg (u (fa ff29_4 (.t rfl)) <| u (ld tf4 (.t rfl) rfl rfl) <| .nil _) rfl ?_
  refine .jq (t := some r) (fun (a : Frame × av1_pen) => ⟨[(0, .ptr 9000 0), (4, .ptr 4 0), (5, .ptr 5 0)], [(4, some (.box [.ro (.bool a.1.start), .ro (.bool a.1.end_), .ro (.int .i64 a.1.template), .ro (.int .i64 a.1.number), .ro (.bool a.1.hasStructure), .ro (.int .i64 a.1.structure_.id_), .ro (.int .i64 a.1.structure_.targets), .ro (.int .i64 a.1.structure_.chains), .ro (.list 1 (List.map (ei .i64) a.1.structure_.protect)), .ro (.list 5 (List.map cells_Template a.1.structure_.templates)), .ro (.list 2 (List.map cells_Size a.1.structure_.sizes)), .ro (.bool a.1.hasActive), .ro (.int .u32 a.1.active), .ro (.bool a.1.ownMarks), .ro (.list 1 (List.map (ei .i64) a.1.marks)), .ro (.bool a.1.ownDiffs), .ro (.list 1 (List.map (ei .i64) a.1.diffs)), .ro (.bool a.1.ownChains), .ro (.list 1 (List.map (ei .i64) a.1.chains))])), (5, some (.box [.ro (.int .i64 p_s.id_), .ro (.int .i64 p_s.targets), .ro (.int .i64 p_s.chains), .ro (.list 1 (List.map (ei .i64) p_s.protect)), .ro (.list 5 (List.map cells_Template p_s.templates)), .ro (.list 2 (List.map cells_Size p_s.sizes))])), (9000, some (.box [.ro (.list 1 (List.map e8 a.2.k.bytes)), .ro (.int .i64 a.2.k.many)]))]⟩) (fun (a : Frame × av1_pen) => av1_pen_more_y1_j1 z p_s a.1 a.2) ?_ (fun J1 => ?_)
  · rintro ⟨v2, v3⟩ h
    replace h : av1_pen_more_y1_j1 z p_s v2 v3 = _ := h
    unfold av1_pen_more_y1_j1 at h
    refine .sq ?_
    refine .sq ?_
    refine .rg (u (fa ff29_6 (.t rfl)) <| u (ld tf4 (.t rfl) rfl rfl) <| .nil _) rfl ?_
    refine .jq (t := some r) (fun (a : av1_pen) => ⟨[(0, .ptr 9000 0), (4, .ptr 4 0)], [(4, some (.box [.ro (.bool v2.start), .ro (.bool v2.end_), .ro (.int .i64 v2.template), .ro (.int .i64 v2.number), .ro (.bool v2.hasStructure), .ro (.int .i64 v2.structure_.id_), .ro (.int .i64 v2.structure_.targets), .ro (.int .i64 v2.structure_.chains), .ro (.list 1 (List.map (ei .i64) v2.structure_.protect)), .ro (.list 5 (List.map cells_Template v2.structure_.templates)), .ro (.list 2 (List.map cells_Size v2.structure_.sizes)), .ro (.bool v2.hasActive), .ro (.int .u32 v2.active), .ro (.bool v2.ownMarks), .ro (.list 1 (List.map (ei .i64) v2.marks)), .ro (.bool v2.ownDiffs), .ro (.list 1 (List.map (ei .i64) v2.diffs)), .ro (.bool v2.ownChains), .ro (.list 1 (List.map (ei .i64) v2.chains))])), (9000, some (.box [.ro (.list 1 (List.map e8 a.k.bytes)), .ro (.int .i64 a.k.many)]))]⟩) (fun (a : av1_pen) => av1_pen_more_y1_j2 z v2 a) ?_ (fun J2 => ?_)
    · intro v4 h
      replace h : av1_pen_more_y1_j2 z v2 v4 = _ := h
      unfold av1_pen_more_y1_j2 at h
      refine .sq ?_
      refine .sq ?_
      refine .rg (u (fa ff29_9 (.t rfl)) <| u (ld tf22 (.t rfl) rfl rfl) <| u (lnm sf22 (.t rfl)) <| u (mv (.i rfl)) <| .nil _) rfl ?_
      refine .bl ?_
      unfold av1_pen_more_y1_l3 at h
      refine .kq (.lo (fun (s : Int × av1_pen) => ⟨[(0, .ptr 9000 0), (4, .ptr 4 0), (51, .ro (.list 1 (List.map (ei .i64) v2.marks))), (52, .ro (.int .i64 (v2.marks.length : Int))), (53, .ro (.int .i64 s.1))], [(4, some (.box [.ro (.bool v2.start), .ro (.bool v2.end_), .ro (.int .i64 v2.template), .ro (.int .i64 v2.number), .ro (.bool v2.hasStructure), .ro (.int .i64 v2.structure_.id_), .ro (.int .i64 v2.structure_.targets), .ro (.int .i64 v2.structure_.chains), .ro (.list 1 (List.map (ei .i64) v2.structure_.protect)), .ro (.list 5 (List.map cells_Template v2.structure_.templates)), .ro (.list 2 (List.map cells_Size v2.structure_.sizes)), .ro (.bool v2.hasActive), .ro (.int .u32 v2.active), .ro (.bool v2.ownMarks), .ro (.list 1 (List.map (ei .i64) v2.marks)), .ro (.bool v2.ownDiffs), .ro (.list 1 (List.map (ei .i64) v2.diffs)), .ro (.bool v2.ownChains), .ro (.list 1 (List.map (ei .i64) v2.chains))])), (9000, some (.box [.ro (.list 1 (List.map e8 s.2.k.bytes)), .ro (.int .i64 s.2.k.many)]))]⟩) h ?_) (.c rfl (.c rfl (.c rfl (.c rfl (.c rfl .n))))) (.c rfl (.c rfl .n))
      rintro ⟨v5, v6⟩ u3 h ih3 hx3
      replace h : av1_pen_more_y1_s3 z v2 v5 v6 = _ := h
      unfold av1_pen_more_y1_s3 at h
      refine .sq ?_
      refine .rg (u (bc (.t rfl) (.t rfl) rfl rfl) <| .nil _) rfl ?_
      refine .sq ?_
      refine .bq h (.t rfl) (fun h => ?_) (fun h => ?_)
      · refine .skp ?_
        refine .sq ?_
        refine .bl ?_
        refine .sq ?_
        refine be h fun x7 hx7 h => ?_
        refine .rg (u (ia sf22 (.t rfl) (.t rfl) (ix_map (ei .i64) hx7)) <| u (lr tf3 (.t rfl) rfl) <| u (asg (.t rfl)) <| .nil _) rfl ?_
        refine be h fun x8 hx8 h => ?_
        refine .rg (u (mv (.t rfl)) <| u (mv (.t rfl)) <| cly 60000000 cf18 (AY.ly (fun i => bif Nat.beq i 9000 then 9000 else i) (av1_pen_num_y1_c hx8) rfl rfl rfl rfl rfl rfl rfl)  (.c (.t rfl) <| .c (.t rfl) <| .c (.i rfl) <| .n) rfl (.c rfl <| .n) rfl <| .nil _) rfl ?_
        refine .ib ?_
        refine .rg (u (bi (.t rfl) (.i rfl) rfl) <| u (mv (.t rfl)) <| .nil _) rfl ?_
        exact .kq (.il (ih3 ((ar .add .i64 v5 1), x8) (nxi h))) (.c rfl (.c rfl (.c rfl (.c rfl (.c rfl .n))))) (.c rfl (.c rfl .n))
      · refine .xt rfl ?_
        replace h := mpR h hx3
        refine .sq ?_
        refine .sq ?_
        refine .rg (u (fa ff29_11 (.t rfl)) <| u (ld tf22 (.t rfl) rfl rfl) <| u (lnm sf22 (.t rfl)) <| u (mv (.i rfl)) <| .nil _) rfl ?_
        refine .bl ?_
        unfold av1_pen_more_y1_l4 at h
        refine .kq (.lo (fun (s : Int × av1_pen) => ⟨[(0, .ptr 9000 0), (4, .ptr 4 0), (62, .ro (.list 1 (List.map (ei .i64) v2.diffs))), (63, .ro (.int .i64 (v2.diffs.length : Int))), (64, .ro (.int .i64 s.1))], [(4, some (.box [.ro (.bool v2.start), .ro (.bool v2.end_), .ro (.int .i64 v2.template), .ro (.int .i64 v2.number), .ro (.bool v2.hasStructure), .ro (.int .i64 v2.structure_.id_), .ro (.int .i64 v2.structure_.targets), .ro (.int .i64 v2.structure_.chains), .ro (.list 1 (List.map (ei .i64) v2.structure_.protect)), .ro (.list 5 (List.map cells_Template v2.structure_.templates)), .ro (.list 2 (List.map cells_Size v2.structure_.sizes)), .ro (.bool v2.hasActive), .ro (.int .u32 v2.active), .ro (.bool v2.ownMarks), .ro (.list 1 (List.map (ei .i64) v2.marks)), .ro (.bool v2.ownDiffs), .ro (.list 1 (List.map (ei .i64) v2.diffs)), .ro (.bool v2.ownChains), .ro (.list 1 (List.map (ei .i64) v2.chains))])), (9000, some (.box [.ro (.list 1 (List.map e8 s.2.k.bytes)), .ro (.int .i64 s.2.k.many)]))]⟩) h ?_) (.c rfl (.c rfl (.c rfl (.c rfl (.c rfl .n))))) (.c rfl (.c rfl .n))
        rintro ⟨v9, v10⟩ u4 h ih4 hx4
        replace h : av1_pen_more_y1_s4 z v2 v9 v10 = _ := h
        unfold av1_pen_more_y1_s4 at h
        refine .sq ?_
        refine .rg (u (bc (.t rfl) (.t rfl) rfl rfl) <| .nil _) rfl ?_
        refine .sq ?_
        refine .bq h (.t rfl) (fun h => ?_) (fun h => ?_)
        · refine .skp ?_
          refine .sq ?_
          refine .bl ?_
          refine .sq ?_
          refine be h fun x11 hx11 h => ?_
          refine .rg (u (ia sf22 (.t rfl) (.t rfl) (ix_map (ei .i64) hx11)) <| u (lr tf3 (.t rfl) rfl) <| u (asg (.t rfl)) <| .nil _) rfl ?_
          refine .sq ?_
          refine be h fun x12 hx12 h => ?_
          refine .rg (u (mv (.t rfl)) <| cl [] cf45 (av1_groups_c hx12) (.c (.t rfl) <| .n) (.inl rfl) <| u (asg (.t rfl)) <| .nil _) rfl ?_
          refine .sq ?_
          refine be h fun x13 hx13 h => ?_
          refine .rg (u (mv (.t rfl)) <| u (mv (.t rfl)) <| cly 73000000 cf18 (AY.ly (fun i => bif Nat.beq i 9000 then 9000 else i) (av1_pen_num_y1_c hx13) rfl rfl rfl rfl rfl rfl rfl)  (.c (.t rfl) <| .c (.t rfl) <| .c (.i rfl) <| .n) rfl (.c rfl <| .n) rfl <| .nil _) rfl ?_
          refine be h fun x14 hx14 h => ?_
          refine .rg (u (mv (.t rfl)) <| u (mv (.t rfl)) <| u (bi (.t rfl) (.i rfl) rfl) <| u (mv (.t rfl)) <| u (bi (.i rfl) (.t rfl) rfl) <| cly 79000000 cf18 (AY.ly (fun i => bif Nat.beq i 9000 then 9000 else i) (av1_pen_num_y1_c hx14) rfl rfl rfl rfl rfl rfl rfl)  (.c (.t rfl) <| .c (.t rfl) <| .c (.t rfl) <| .n) rfl (.c rfl <| .n) rfl <| .nil _) rfl ?_
          refine .ib ?_
          refine .rg (u (bi (.t rfl) (.i rfl) rfl) <| u (mv (.t rfl)) <| .nil _) rfl ?_
          exact .kq (.il (ih4 ((ar .add .i64 v9 1), x14) (nxi h))) (.c rfl (.c rfl (.c rfl (.c rfl (.c rfl .n))))) (.c rfl (.c rfl .n))
        · refine .xt rfl ?_
          replace h := mpR h hx4
          refine .sq ?_
          refine .sq ?_
          refine .rg (u (fa ff29_10 (.t rfl)) <| u (ld tf4 (.t rfl) rfl rfl) <| .nil _) rfl ?_
          refine .jq (t := some r) (fun (a : av1_pen) => ⟨[(0, .ptr 9000 0), (4, .ptr 4 0)], [(4, some (.box [.ro (.bool v2.start), .ro (.bool v2.end_), .ro (.int .i64 v2.template), .ro (.int .i64 v2.number), .ro (.bool v2.hasStructure), .ro (.int .i64 v2.structure_.id_), .ro (.int .i64 v2.structure_.targets), .ro (.int .i64 v2.structure_.chains), .ro (.list 1 (List.map (ei .i64) v2.structure_.protect)), .ro (.list 5 (List.map cells_Template v2.structure_.templates)), .ro (.list 2 (List.map cells_Size v2.structure_.sizes)), .ro (.bool v2.hasActive), .ro (.int .u32 v2.active), .ro (.bool v2.ownMarks), .ro (.list 1 (List.map (ei .i64) v2.marks)), .ro (.bool v2.ownDiffs), .ro (.list 1 (List.map (ei .i64) v2.diffs)), .ro (.bool v2.ownChains), .ro (.list 1 (List.map (ei .i64) v2.chains))])), (9000, some (.box [.ro (.list 1 (List.map e8 a.k.bytes)), .ro (.int .i64 a.k.many)]))]⟩) (fun (a : av1_pen) => av1_pen_more_y1_j5 z v2 a) ?_ (fun J5 => ?_)
          · intro v15 h
            replace h : av1_pen_more_y1_j5 z v2 v15 = _ := h
            unfold av1_pen_more_y1_j5 at h
            refine .sq ?_
            refine .rg (u (fa ff29_13 (.t rfl)) <| u (ld tf22 (.t rfl) rfl rfl) <| u (lnm sf22 (.t rfl)) <| u (mv (.i rfl)) <| .nil _) rfl ?_
            refine .bl ?_
            unfold av1_pen_more_y1_l6 at h
            refine .kq (.lo (fun (s : Int × av1_pen) => ⟨[(0, .ptr 9000 0), (85, .ro (.list 1 (List.map (ei .i64) v2.chains))), (86, .ro (.int .i64 (v2.chains.length : Int))), (87, .ro (.int .i64 s.1))], [(9000, some (.box [.ro (.list 1 (List.map e8 s.2.k.bytes)), .ro (.int .i64 s.2.k.many)]))]⟩) h ?_) (.c rfl (.c rfl (.c rfl (.c rfl .n)))) (.c rfl .n)
            rintro ⟨v16, v17⟩ u6 h ih6 hx6
            replace h : av1_pen_more_y1_s6 z v2 v16 v17 = _ := h
            unfold av1_pen_more_y1_s6 at h
            refine .sq ?_
            refine .rg (u (bc (.t rfl) (.t rfl) rfl rfl) <| .nil _) rfl ?_
            refine .sq ?_
            refine .bq h (.t rfl) (fun h => ?_) (fun h => ?_)
            · refine .skp ?_
              refine .sq ?_
              refine .bl ?_
              refine .sq ?_
              refine be h fun x18 hx18 h => ?_
              refine .rg (u (ia sf22 (.t rfl) (.t rfl) (ix_map (ei .i64) hx18)) <| u (lr tf3 (.t rfl) rfl) <| u (asg (.t rfl)) <| .nil _) rfl ?_
              refine be h fun x19 hx19 h => ?_
              refine .rg (u (mv (.t rfl)) <| u (mv (.t rfl)) <| cly 94000000 cf18 (AY.ly (fun i => bif Nat.beq i 9000 then 9000 else i) (av1_pen_num_y1_c hx19) rfl rfl rfl rfl rfl rfl rfl)  (.c (.t rfl) <| .c (.t rfl) <| .c (.i rfl) <| .n) rfl (.c rfl <| .n) rfl <| .nil _) rfl ?_
              refine .ib ?_
              refine .rg (u (bi (.t rfl) (.i rfl) rfl) <| u (mv (.t rfl)) <| .nil _) rfl ?_
              exact .kq (.il (ih6 ((ar .add .i64 v16 1), x19) (nxi h))) (.c rfl (.c rfl (.c rfl (.c rfl .n)))) (.c rfl .n)
            · refine .xt rfl ?_
              replace h := mpR h hx6
              obtain rfl := Option.some.inj h
              exact .rte (o := [(9000, some (.box [.ro (.list 1 (List.map e8 v17.k.bytes)), .ro (.int .i64 v17.k.many)]))]) Try.func19 (.n) (.c rfl .n) rfl rfl (.c rfl .n) rfl
          refine .bq h (.t rfl) (fun h => ?_) (fun h => ?_)
          · refine be h fun x20 hx20 h => ?_
            refine .rg (u (mv (.t rfl)) <| cly 84000000 cf18 (AY.ly (fun i => bif Nat.beq i 9000 then 9000 else i) (av1_pen_num_y1_c hx20) rfl rfl rfl rfl rfl rfl rfl)  (.c (.t rfl) <| .c (.i rfl) <| .c (.i rfl) <| .n) rfl (.c rfl <| .n) rfl <| .nil _) rfl ?_
            exact .kq (J5 x20 h) (.c rfl (.c rfl .n)) (.c rfl (.c rfl .n))
          · refine .skp ?_
            exact .kq (J5 v10 h) (.c rfl (.c rfl .n)) (.c rfl (.c rfl .n))
    refine .bq h (.t rfl) (fun h => ?_) (fun h => ?_)
    · refine be h fun x21 hx21 h => ?_
      refine .rg (u (mv (.t rfl)) <| u (fa ff29_7 (.t rfl)) <| u (ld tf27 (.t rfl) rfl rfl) <| u (cv cv27_3 (.t rfl)) <| u (fa ff26_1 (.t rfl)) <| u (ld tf3 (.t rfl) rfl rfl) <| cly 50000000 cf18 (AY.ly (fun i => bif Nat.beq i 9000 then 9000 else i) (av1_pen_num_y1_c hx21) rfl rfl rfl rfl rfl rfl rfl)  (.c (.t rfl) <| .c (.t rfl) <| .c (.t rfl) <| .n) rfl (.c rfl <| .n) rfl <| .nil _) rfl ?_
      exact .kq (J2 x21 h) (.c rfl (.c rfl .n)) (.c rfl (.c rfl .n))
    · refine .skp ?_
      exact .kq (J2 v3 h) (.c rfl (.c rfl .n)) (.c rfl (.c rfl .n))
  refine .bq h (.t rfl) (fun h => ?_) (fun h => ?_)
  · refine be h fun x22 hx22 h => ?_
    refine .rd mixed (u (mv (.t rfl)) <| u (mv (.t rfl)) <| u (nkp (.t rfl)) <| u (fa ff53_0 (.t rfl)) <| u (ld tf51 (.t rfl) rfl rfl) <| u (fa ff29_5 (.t rfl)) <| u (ld tf26 (.t rfl) rfl rfl) <| cl [] cf44 (templ_Put_c hx22) (.c (.t rfl) <| .c (.t rfl) <| .n) (.inl rfl) <| u (mv (.t rfl)) <| u (ex (.t rfl) rfl rfl) <| u (ex (.t rfl) rfl rfl) <| u (nkp (.t rfl)) <| u (fa ff53_0 (.t rfl)) <| st tf51 (.t rfl) rfl (.t rfl) rfl rfl rfl <| .nil _) (by kernel_rfl) rfl ?_
    exact .kq (J1 (f, (av1_pen.mk x22.1)) h) (.c rfl (.c rfl (.c rfl .n))) (.c rfl (.c rfl (.c rfl .n)))
  · refine .skp ?_
    exact .kq (J1 (f, x1) h) (.c rfl (.c rfl (.c rfl .n))) (.c rfl (.c rfl (.c rfl .n)))

theorem av1_Write_c {z : Option Nat} {f : Frame} {known : Structure} {r : List Int × Int} (h : av1_Write z f known = some r) :
    AC Try.prog 8 [.ro (enc_Frame f), .ro (enc_Structure known)] (.ro (.tup [.list 1 (List.map e8 r.1), .int .i64 r.2])) [] := by
  refine AC.of Try.func8 rfl rfl fun w M0 hM => ?_
  unfold av1_Write at h
  refine .sq ?_
  refine .rg (bx 2 (.t rfl) rfl rfl <| bx 3 (.t rfl) rfl rfl <| u (asg (.n (sz := 1) (F := e8))) <| u (asg (.i rfl)) <| .nil _) rfl ?_
  refine .sq ?_
  refine .sq ?_
  refine be h fun x1 hx1 h => ?_
  refine .rg (u (ld tf29 (.t rfl) rfl rfl) <| u (ld tf26 (.t rfl) rfl rfl) <| cl [] cf12 (av1_Right_c hx1) (.c (.t rfl) <| .c (.t rfl) <| .n) (.inl rfl) <| u (no (.t rfl)) <| .nil _) rfl ?_
  refine .bq h (.t rfl) (fun h => ?_) (fun h => ?_)
  · refine .sq ?_
    refine .rg (u (asg (.n (sz := 1) (F := e8))) <| u (asg (.i rfl)) <| .nil _) rfl ?_
    obtain rfl := Option.some.inj h
    exact .rt Try.func8 (.t rfl <| .t rfl <| .n) .n rfl rfl
  · refine .skp ?_
    refine .sq ?_
    refine .rg (u (bd bf53 zf53 (.n) rfl) <| bx 12 (.t rfl) rfl rfl <| u (asg (.t rfl)) <| .nil _) rfl ?_
    refine .sq ?_
    refine be h fun x2 hx2 h => ?_
    refine .rg (u (mv (.t rfl)) <| u (fa ff29_0 (.t rfl)) <| u (ld tf4 (.t rfl) rfl rfl) <| u (fa ff29_1 (.t rfl)) <| u (ld tf4 (.t rfl) rfl rfl) <| nu (bsn (F := eb) (l := [f.start, f.end_]) pf80 (.c (.t rfl) rfl <| .c (.t rfl) rfl <| .n) rfl (fun _ _ => rfl) rfl) <| cly 20000000 cf17 (AY.ly (fun i => bif Nat.beq i 9000 then 12 else i) (av1_pen_truths_y1_c hx2) rfl rfl rfl rfl rfl rfl rfl)  (.c (.t rfl) <| .c (.t rfl) <| .n) rfl (.c rfl <| .n) rfl <| .nil _) rfl ?_
    refine .sq ?_
    refine be h fun x3 hx3 h => ?_
    refine .rg (u (mv (.t rfl)) <| u (fa ff29_2 (.t rfl)) <| u (ld tf3 (.t rfl) rfl rfl) <| cly 24000000 cf18 (AY.ly (fun i => bif Nat.beq i 9000 then 12 else i) (av1_pen_num_y1_c hx3) rfl rfl rfl rfl rfl rfl rfl)  (.c (.t rfl) <| .c (.t rfl) <| .c (.i rfl) <| .n) rfl (.c rfl <| .n) rfl <| .nil _) rfl ?_
    refine .sq ?_
    refine be h fun x4 hx4 h => ?_
    refine .rg (u (mv (.t rfl)) <| u (fa ff29_3 (.t rfl)) <| u (ld tf3 (.t rfl) rfl rfl) <| cly 28000000 cf18 (AY.ly (fun i => bif Nat.beq i 9000 then 12 else i) (av1_pen_num_y1_c hx4) rfl rfl rfl rfl rfl rfl rfl)  (.c (.t rfl) <| .c (.t rfl) <| .c (.i rfl) <| .n) rfl (.c rfl <| .n) rfl <| .nil _) rfl ?_
    refine .sq ?_
    refine .sq ?_
    refine .rg (u (fa ff29_4 (.t rfl)) <| u (ld tf4 (.t rfl) rfl rfl) <| u (mv (.t rfl)) <| gd rfl rfl (fun hB => fa ff29_6 (.t rfl)) <| gd rfl rfl (fun hB => ld tf4 (.m rfl hB) rfl rfl) <| u (pko (.t rfl) (.t rfl)) <| u (mv (.t rfl)) <| gd rfl rfl (fun hB => fa ff29_8 (.t rfl)) <| gd rfl rfl (fun hB => ld tf4 (.m rfl hB) rfl rfl) <| u (pko (.t rfl) (.t rfl)) <| u (mv (.t rfl)) <| gd rfl rfl (fun hB => fa ff29_10 (.t rfl)) <| gd rfl rfl (fun hB => ld tf4 (.m rfl hB) rfl rfl) <| u (pko (.t rfl) (.t rfl)) <| u (mv (.t rfl)) <| gd rfl rfl (fun hB => fa ff29_12 (.t rfl)) <| gd rfl rfl (fun hB => ld tf4 (.m rfl hB) rfl rfl) <| u (pko (.t rfl) (.t rfl)) <| .nil _) rfl ?_
    refine .jq (t := some r) (fun (a : av1_pen) => ⟨[(6, .ptr 12 0)], [(12, some (.box [.ro (.list 1 (List.map e8 a.k.bytes)), .ro (.int .i64 a.k.many)]))]⟩) (fun (a : av1_pen) => av1_Write_j1 z a) ?_ (fun J1 => ?_)
    · intro v5 h
      replace h : av1_Write_j1 z v5 = _ := h
      unfold av1_Write_j1 at h
      refine .sq ?_
      refine .rg (u (mv (.t rfl)) <| u (nkp (.t rfl)) <| u (fa ff53_0 (.t rfl)) <| u (fa ff51_0 (.t rfl)) <| u (ld tf30 (.t rfl) rfl rfl) <| u (asg (.t rfl)) <| u (asg (.i rfl)) <| .nil _) rfl ?_
      obtain rfl := Option.some.inj h
      exact .rt Try.func8 (.t rfl <| .t rfl <| .n) .n rfl rfl
    refine .bq h (.t rfl) (fun h => ?_) (fun h => ?_)
    · refine be h fun x6 hx6 h => ?_
      refine .rd mixed (u (mv (.t rfl)) <| u (ld tf29 (.t rfl) rfl rfl) <| u (ld tf29 (.t rfl) rfl rfl) <| u (ld tf26 (.t rfl) rfl rfl) <| cl [] cf20 (av1_structure_c f known) (.c (.t rfl) <| .c (.t rfl) <| .n) (.inl rfl) <| cly 52000000 cf19 (AY.ly (fun i => bif Nat.beq i 9000 then 12 else i) (av1_pen_more_y1_c hx6) rfl rfl rfl rfl rfl rfl rfl)  (.c (.t rfl) <| .c (.t rfl) <| .c (.t rfl) <| .n) rfl (.c rfl <| .n) rfl <| .nil _) (by kernel_rfl) rfl ?_
      exact .kq (J1 x6 h) (.c rfl .n) (.c rfl .n)
    · refine .skp ?_
      exact .kq (J1 x4 h) (.c rfl .n) (.c rfl .n)

theorem bits_Start_c (b : List Int) :
    AC Try.prog 22 [.ro (.list 1 (List.map e8 b))] (.ro (enc_GBits (bits_Start b))) [] := by
  obtain ⟨r, h⟩ : ∃ r, bits_Start b = r := ⟨_, rfl⟩
  rw [h]
  refine AC.of Try.func22 rfl rfl fun w M0 hM => ?_
  unfold bits_Start at h
  refine .sq ?_
  refine .rg (al 2 zf59 rfl <| .nil _) rfl ?_
  refine .sq ?_
  refine .rg (u (mv (.t rfl)) <| u (bd bf59 zf59 (.c rfl (.t rfl) rfl rfl rfl <| .n) rfl) <| st tf59 (.t rfl) rfl (.t rfl) rfl rfl rfl <| .nil _) rfl ?_
  subst h
  exact .rt Try.func22 (.c tf59 rfl rfl rfl <| .n) .n rfl rfl

theorem bits_right_c (c : GBits) :
    AC Try.prog 50 [.ro (enc_GBits c)] (.ro (.bool (bits_right c))) [] := by
  obtain ⟨r, h⟩ : ∃ r, bits_right c = r := ⟨_, rfl⟩
  rw [h]
  refine AC.of Try.func50 rfl rfl fun w M0 hM => ?_
  unfold bits_right at h
  refine .sq ?_
  refine .rg (bx 1 (.t rfl) rfl rfl <| u (asg .b) <| .nil _) rfl ?_
  refine .sq ?_
  refine .rg (u (fa ff59_2 (.t rfl)) <| u (ld tf34 (.t rfl) rfl rfl) <| u (bc (.t rfl) (.i rfl) rfl rfl) <| u (mv (.t rfl)) <| gd rfl rfl (fun hB => fa ff59_1 (.t rfl)) <| gd rfl rfl (fun hB => ld tf3 (.m rfl hB) rfl rfl) <| gd rfl rfl (fun hB => bc (.m rfl hB) (.i rfl) rfl rfl) <| u (pka (.t rfl) (.t rfl)) <| u (mv (.t rfl)) <| gd rfl rfl (fun hB => fa ff59_1 (.t rfl)) <| gd rfl rfl (fun hB => ld tf3 (.m rfl hB) rfl rfl) <| gd rfl rfl (fun hB => fa ff59_0 (.t rfl)) <| gd rfl rfl (fun hB => ld tf30 (.m rfl hB) rfl rfl) <| gd rfl rfl (fun hB => lnm sf30 (.m rfl hB)) <| gd rfl rfl (fun hB => bi (.i rfl) (.m rfl hB) rfl) <| gd rfl rfl (fun hB => bc (.m rfl hB) (.m rfl hB) rfl rfl) <| u (pka (.t rfl) (.t rfl)) <| u (asg (.t rfl)) <| .nil _) rfl ?_
  subst h
  exact .rt Try.func50 (.t rfl <| .n) .n rfl rfl

theorem bits_fail_c (c : GBits) (p_e : Int) :
    AC Try.prog 67 [.ro (enc_GBits c), .ro (.int .i64 p_e)] (.ro (.tup [enc_GBits ((bits_fail c p_e).1), .int .u64 ((bits_fail c p_e).2)])) [] := by
  obtain ⟨r, h⟩ : ∃ r, bits_fail c p_e = r := ⟨_, rfl⟩
  rw [h]
  refine AC.of Try.func67 rfl rfl fun w M0 hM => ?_
  unfold bits_fail at h
  refine .sq ?_
  refine .rg (bx 2 (.t rfl) rfl rfl <| al 4 zf59 rfl <| u (asg (.i rfl)) <| .nil _) rfl ?_
  refine .sq ?_
  refine .sq ?_
  refine .rg (u (fa ff59_2 (.t rfl)) <| u (ld tf34 (.t rfl) rfl rfl) <| u (bc (.t rfl) (.i rfl) rfl rfl) <| .nil _) rfl ?_
  refine .jq (t := r) (fun (a : GBits) => ⟨[(2, .ptr 2 0), (4, .ptr 4 0)], [(2, some (.box [.ro (.list 1 (List.map e8 a.bytes)), .ro (.int .i64 a.at_), .ro (.int .i64 a.err)])), (4, some (.box [.ro (.list 1 (List.map e8 [])), .ro (.int .i64 0), .ro (.int .i64 0)]))]⟩) (fun (a : GBits) => bits_fail_j1 a) ?_ (fun J1 => ?_)
  · intro v1 h
    replace h : bits_fail_j1 v1 = _ := h
    unfold bits_fail_j1 at h
    refine .sq ?_
    refine .rg (u (ld tf59 (.t rfl) rfl rfl) <| st tf59 (.t rfl) rfl (.t rfl) rfl rfl rfl <| u (asg (.i rfl)) <| .nil _) rfl ?_
    subst h
    exact .rt Try.func67 (.c tf59 rfl rfl rfl <| .t rfl <| .n) .n rfl rfl
  refine .bq h (.t rfl) (fun h => ?_) (fun h => ?_)
  · refine .rg (u (mv (.t rfl)) <| u (fa ff59_2 (.t rfl)) <| st tf34 (.t rfl) rfl (.t rfl) rfl rfl rfl <| .nil _) rfl ?_
    exact .kq (J1 ({ c with err := p_e }) h) (.c rfl (.c rfl .n)) (.c rfl (.c rfl .n))
  · refine .skp ?_
    exact .kq (J1 c h) (.c rfl (.c rfl .n)) (.c rfl (.c rfl .n))

theorem bits_Left_c (c : GBits) :
    AC Try.prog 25 [.ro (enc_GBits c)] (.ro (.int .i64 (bits_Left c))) [] := by
  obtain ⟨r, h⟩ : ∃ r, bits_Left c = r := ⟨_, rfl⟩
  rw [h]
  refine AC.of Try.func25 rfl rfl fun w M0 hM => ?_
  unfold bits_Left at h
  refine .sq ?_
  refine .rg (bx 1 (.t rfl) rfl rfl <| u (asg (.i rfl)) <| .nil _) rfl ?_
  refine .sq ?_
  refine .sq ?_
  refine .rg (u (ld tf59 (.t rfl) rfl rfl) <| cl [] cf50 (bits_right_c c) (.c (.t rfl) <| .n) (.inl rfl) <| u (no (.t rfl)) <| .nil _) rfl ?_
  refine .bq h (.t rfl) (fun h => ?_) (fun h => ?_)
  · refine .sq ?_
    refine .rg (u (asg (.i rfl)) <| .nil _) rfl ?_
    subst h
    exact .rt Try.func25 (.t rfl <| .n) .n rfl rfl
  · refine .skp ?_
    refine .sq ?_
    refine .rg (u (fa ff59_0 (.t rfl)) <| u (ld tf30 (.t rfl) rfl rfl) <| u (lnm sf30 (.t rfl)) <| u (bi (.i rfl) (.t rfl) rfl) <| u (fa ff59_1 (.t rfl)) <| u (ld tf3 (.t rfl) rfl rfl) <| u (bi (.t rfl) (.t rfl) rfl) <| u (asg (.t rfl)) <| .nil _) rfl ?_
    subst h
    exact .rt Try.func25 (.t rfl <| .n) .n rfl rfl

theorem bits_Get_c {z : Option Nat} {c : GBits} {n : Int} {r : GBits × Int} (h : bits_Get z c n = some r) :
    AC Try.prog 61 [.ro (enc_GBits c), .ro (.int .i64 n)] (.ro (.tup [enc_GBits r.1, .int .u64 r.2])) [] := by
  refine AC.of Try.func61 rfl rfl fun w M0 hM => ?_
  unfold bits_Get at h
  refine .sq ?_
  refine .rg (bx 2 (.t rfl) rfl rfl <| al 4 zf59 rfl <| u (asg (.i rfl)) <| .nil _) rfl ?_
  refine .sq ?_
  refine .bl ?_
  refine .sq ?_
  refine .sq ?_
  refine .rg (u (ld tf59 (.t rfl) rfl rfl) <| cl [] cf50 (bits_right_c c) (.c (.t rfl) <| .n) (.inl rfl) <| u (no (.t rfl)) <| u (asg (.t rfl)) <| .nil _) rfl ?_
  refine .jq (t := some r) (fun (a : Bool) => ⟨[(1, .ro (.int .i64 n)), (2, .ptr 2 0), (4, .ptr 4 0), (10, .ro (.bool a))], [(2, some (.box [.ro (.list 1 (List.map e8 c.bytes)), .ro (.int .i64 c.at_), .ro (.int .i64 c.err)])), (4, some (.box [.ro (.list 1 (List.map e8 [])), .ro (.int .i64 0), .ro (.int .i64 0)]))]⟩) (fun (a : Bool) => bits_Get_j1 z c n a) ?_ (fun J1 => ?_)
  · intro v1 h
    replace h : bits_Get_j1 z c n v1 = _ := h
    unfold bits_Get_j1 at h
    refine .bq h (.t rfl) (fun h => ?_) (fun h => ?_)
    · refine .sq ?_
      refine .rg (u (ld tf59 (.t rfl) rfl rfl) <| cl [] cf67 (bits_fail_c c 1) (.c (.t rfl) <| .c (.i rfl) <| .n) (.inl rfl) <| u (ex (.t rfl) rfl rfl) <| u (ex (.t rfl) rfl rfl) <| st tf59 (.t rfl) rfl (.t rfl) rfl rfl rfl <| u (asg (.t rfl)) <| .nil _) rfl ?_
      obtain rfl := Option.some.inj h
      exact .rt Try.func61 (.c tf59 rfl rfl rfl <| .t rfl <| .n) .n rfl rfl
    · refine .sq ?_
      refine .rg (u (mv (.t rfl)) <| u (ld tf59 (.t rfl) rfl rfl) <| cl [] cf25 (bits_Left_c c) (.c (.t rfl) <| .n) (.inl rfl) <| u (bc (.t rfl) (.t rfl) rfl rfl) <| u (asg (.t rfl)) <| .nil _) rfl ?_
      refine .bq h (.t rfl) (fun h => ?_) (fun h => ?_)
      · refine .sq ?_
        refine .rg (u (ld tf59 (.t rfl) rfl rfl) <| cl [] cf67 (bits_fail_c c 2) (.c (.t rfl) <| .c (.i rfl) <| .n) (.inl rfl) <| u (ex (.t rfl) rfl rfl) <| u (ex (.t rfl) rfl rfl) <| st tf59 (.t rfl) rfl (.t rfl) rfl rfl rfl <| u (asg (.t rfl)) <| .nil _) rfl ?_
        obtain rfl := Option.some.inj h
        exact .rt Try.func61 (.c tf59 rfl rfl rfl <| .t rfl <| .n) .n rfl rfl
      · refine .skp ?_
        refine .ib ?_
        refine .sq ?_
        refine .rg (u (asg (.i rfl)) <| .nil _) rfl ?_
        refine .sq ?_
        refine .bl ?_
        unfold bits_Get_l2 at h
        refine .kq (.lo (fun (s : Int × Int × GBits) => ⟨[(1, .ro (.int .i64 s.1)), (2, .ptr 2 0), (4, .ptr 4 0), (6, .ro (.int .u64 s.2.1))], [(2, some (.box [.ro (.list 1 (List.map e8 s.2.2.bytes)), .ro (.int .i64 s.2.2.at_), .ro (.int .i64 s.2.2.err)])), (4, some (.box [.ro (.list 1 (List.map e8 [])), .ro (.int .i64 0), .ro (.int .i64 0)]))]⟩) h ?_) (.c rfl (.c rfl (.c rfl (.c rfl .n)))) (.c rfl (.c rfl .n))
        rintro ⟨v2, v3, v4⟩ u2 h ih2 hx2
        replace h : bits_Get_s2 z v2 v3 v4 = _ := h
        unfold bits_Get_s2 at h
        refine .sq ?_
        refine .sq ?_
        refine .rg (u (mv (.t rfl)) <| u (bc (.t rfl) (.i rfl) rfl rfl) <| .nil _) rfl ?_
        refine .bq h (.t rfl) (fun h => ?_) (fun h => ?_)
        · refine .skp ?_
          refine .bl ?_
          refine .sq ?_
          refine .rg (u (fa ff59_1 (.t rfl)) <| u (ld tf3 (.t rfl) rfl rfl) <| u (di (.t rfl) (.i rfl) rfl (by decide)) <| u (bi (.i rfl) (.t rfl) rfl) <| u (asg (.t rfl)) <| .nil _) rfl ?_
          refine .sq ?_
          refine .rg (u (mv (.t rfl)) <| u (mv (.t rfl)) <| u (mn (.t rfl) (.t rfl)) <| u (asg (.t rfl)) <| .nil _) rfl ?_
          refine .sq ?_
          refine be h fun x5 hx5 h => ?_
          refine be h fun x6 hx6 h => ?_
          refine be h fun x7 hx7 h => ?_
          refine .rd mixed (u (fa ff59_0 (.t rfl)) <| u (ld tf30 (.t rfl) rfl rfl) <| u (fa ff59_1 (.t rfl)) <| u (ld tf3 (.t rfl) rfl rfl) <| u (di (.t rfl) (.i rfl) rfl (by decide)) <| u (ia sf30 (.t rfl) (.t rfl) (ix_map e8 hx5)) <| u (lr tf5 (.t rfl) rfl) <| u (mv (.t rfl)) <| u (mv (.t rfl)) <| u (bi (.t rfl) (.t rfl) rfl) <| u (sho (.t rfl) (.t rfl) rfl hx6) <| u (mv (.t rfl)) <| u (sho (.i rfl) (.t rfl) rfl hx7) <| u (bi (.t rfl) (.i rfl) rfl) <| u (bi (.t rfl) (.t rfl) rfl) <| u (asg (.t rfl)) <| .nil _) (by kernel_rfl) rfl ?_
          refine .sq ?_
          refine be h fun x8 hx8 h => ?_
          refine .rg (u (mv (.t rfl)) <| u (mv (.t rfl)) <| u (sho (.t rfl) (.t rfl) rfl hx8) <| u (mv (.t rfl)) <| u (cv cv5_83 (.t rfl)) <| u (bi (.t rfl) (.t rfl) rfl) <| u (asg (.t rfl)) <| .nil _) rfl ?_
          refine .sq ?_
          refine .rg (u (fa ff59_1 (.t rfl)) <| u (ld tf3 (.t rfl) rfl rfl) <| u (mv (.t rfl)) <| u (bi (.t rfl) (.t rfl) rfl) <| u (fa ff59_1 (.t rfl)) <| st tf3 (.t rfl) rfl (.t rfl) rfl rfl rfl <| .nil _) rfl ?_
          refine .rg (u (mv (.t rfl)) <| u (mv (.t rfl)) <| u (bi (.t rfl) (.t rfl) rfl) <| u (asg (.t rfl)) <| .nil _) rfl ?_
          refine .ib ?_
          exact .kq (.il (ih2 ((ar .sub .i64 v2 (imin (ar .sub .i64 8 (dv .rem .i64 v4.at_ 8)) v2)), (ar .or .u64 x8 (IntKind.u64.wrap (ar .and .u8 x6 (ar .sub .u8 x7 1)))), { v4 with at_ := (ar .add .i64 v4.at_ (imin (ar .sub .i64 8 (dv .rem .i64 v4.at_ 8)) v2)) }) (nxi h))) (.c rfl (.c rfl (.c rfl (.c rfl .n)))) (.c rfl (.c rfl .n))
        · refine .xt rfl ?_
          replace h := mpR h hx2
          refine .sq ?_
          refine .rg (u (ld tf59 (.t rfl) rfl rfl) <| u (mv (.t rfl)) <| st tf59 (.t rfl) rfl (.t rfl) rfl rfl rfl <| u (asg (.t rfl)) <| .nil _) rfl ?_
          obtain rfl := Option.some.inj h
          exact .rt Try.func61 (.c tf59 rfl rfl rfl <| .t rfl <| .n) .n rfl rfl
  refine .bq h (.t rfl) (fun h => ?_) (fun h => ?_)
  · refine .skp ?_
    exact .kq (J1 (!(bits_right c)) h) (.c rfl (.c rfl (.c rfl (.c rfl .n)))) (.c rfl (.c rfl .n))
  · refine .sq ?_
    refine .rg (u (mv (.t rfl)) <| u (bc (.t rfl) (.i rfl) rfl rfl) <| u (asg (.t rfl)) <| .nil _) rfl ?_
    refine .bq h (.t rfl) (fun h => ?_) (fun h => ?_)
    · refine .skp ?_
      exact .kq (J1 (cm .lss n 0) h) (.c rfl (.c rfl (.c rfl (.c rfl .n)))) (.c rfl (.c rfl .n))
    · refine .rg (u (mv (.t rfl)) <| u (bc (.t rfl) (.i rfl) rfl rfl) <| u (asg (.t rfl)) <| .nil _) rfl ?_
      exact .kq (J1 (cm .gtr n 64) h) (.c rfl (.c rfl (.c rfl (.c rfl .n)))) (.c rfl (.c rfl .n))

theorem bits_Range_c {z : Option Nat} {c : GBits} {n : Int} {r : GBits × Int} (h : bits_Range z c n = some r) :
    AC Try.prog 81 [.ro (enc_GBits c), .ro (.int .u64 n)] (.ro (.tup [enc_GBits r.1, .int .u64 r.2])) [] := by
  refine AC.of Try.func81 rfl rfl fun w M0 hM => ?_
  unfold bits_Range at h
  refine .sq ?_
  refine .rg (bx 2 (.t rfl) rfl rfl <| al 4 zf59 rfl <| u (asg (.i rfl)) <| .nil _) rfl ?_
  refine .sq ?_
  refine .sq ?_
  refine .rg (u (ld tf59 (.t rfl) rfl rfl) <| cl [] cf50 (bits_right_c c) (.c (.t rfl) <| .n) (.inl rfl) <| u (no (.t rfl)) <| u (mv (.t rfl)) <| gd rfl rfl (fun hB => mv (.t rfl)) <| gd rfl rfl (fun hB => bc (.m rfl hB) (.i rfl) rfl rfl) <| u (pko (.t rfl) (.t rfl)) <| u (mv (.t rfl)) <| gd rfl rfl (fun hB => mv (.t rfl)) <| gd rfl rfl (fun hB => bc (.m rfl hB) (.i rfl) rfl rfl) <| u (pko (.t rfl) (.t rfl)) <| .nil _) rfl ?_
  refine .bq h (.t rfl) (fun h => ?_) (fun h => ?_)
  · refine .sq ?_
    refine .rg (u (ld tf59 (.t rfl) rfl rfl) <| cl [] cf67 (bits_fail_c c 1) (.c (.t rfl) <| .c (.i rfl) <| .n) (.inl rfl) <| u (ex (.t rfl) rfl rfl) <| u (ex (.t rfl) rfl rfl) <| st tf59 (.t rfl) rfl (.t rfl) rfl rfl rfl <| u (asg (.t rfl)) <| .nil _) rfl ?_
    obtain rfl := Option.some.inj h
    exact .rt Try.func81 (.c tf59 rfl rfl rfl <| .t rfl <| .n) .n rfl rfl
  · refine .skp ?_
    refine .sq ?_
    refine be h fun x1 hx1 h => ?_
    refine .rg (u (mv (.t rfl)) <| cl [] cf79 (bits_spread_c hx1) (.c (.t rfl) <| .n) (.inl rfl) <| u (mv (.t rfl)) <| u (ex (.t rfl) rfl rfl) <| u (ex (.t rfl) rfl rfl) <| u (asg (.t rfl)) <| u (asg (.t rfl)) <| .nil _) rfl ?_
    refine .sq ?_
    refine be h fun x2 hx2 h => ?_
    refine .rg (u (ld tf59 (.t rfl) rfl rfl) <| u (mv (.t rfl)) <| u (bi (.t rfl) (.i rfl) rfl) <| cl [] cf61 (bits_Get_c hx2) (.c (.t rfl) <| .c (.t rfl) <| .n) (.inl rfl) <| u (mv (.t rfl)) <| u (ex (.t rfl) rfl rfl) <| u (ex (.t rfl) rfl rfl) <| al 8 zf59 rfl <| st tf59 (.t rfl) rfl (.t rfl) rfl rfl rfl <| u (asg (.t rfl)) <| .nil _) rfl ?_
    refine .sq ?_
    refine .sq ?_
    refine .rg (u (fa ff59_2 (.t rfl)) <| u (ld tf34 (.t rfl) rfl rfl) <| u (bc (.t rfl) (.i rfl) rfl rfl) <| u (mv (.t rfl)) <| gd rfl rfl (fun hB => mv (.t rfl)) <| gd rfl rfl (fun hB => mv (.t rfl)) <| gd rfl rfl (fun hB => bc (.m rfl hB) (.m rfl hB) rfl rfl) <| u (pka (.t rfl) (.t rfl)) <| .nil _) rfl ?_
    refine .jq (t := some r) (fun (a : Int × GBits) => ⟨[(2, .ptr 2 0), (4, .ptr 4 0), (8, .ptr 8 0), (9, .ro (.int .u64 a.1))], [(2, some (.box [.ro (.list 1 (List.map e8 c.bytes)), .ro (.int .i64 c.at_), .ro (.int .i64 c.err)])), (4, some (.box [.ro (.list 1 (List.map e8 [])), .ro (.int .i64 0), .ro (.int .i64 0)])), (8, some (.box [.ro (.list 1 (List.map e8 a.2.bytes)), .ro (.int .i64 a.2.at_), .ro (.int .i64 a.2.err)]))]⟩) (fun (a : Int × GBits) => bits_Range_j1 z c a.1 a.2) ?_ (fun J1 => ?_)
    · rintro ⟨v3, v4⟩ h
      replace h : bits_Range_j1 z c v3 v4 = _ := h
      unfold bits_Range_j1 at h
      refine .sq ?_
      refine .sq ?_
      refine .rg (u (fa ff59_2 (.t rfl)) <| u (ld tf34 (.t rfl) rfl rfl) <| u (bc (.t rfl) (.i rfl) rfl rfl) <| .nil _) rfl ?_
      refine .bq h (.t rfl) (fun h => ?_) (fun h => ?_)
      · refine .sq ?_
        refine .rg (u (ld tf59 (.t rfl) rfl rfl) <| u (fa ff59_2 (.t rfl)) <| u (ld tf34 (.t rfl) rfl rfl) <| cl [] cf67 (bits_fail_c c v4.err) (.c (.t rfl) <| .c (.t rfl) <| .n) (.inl rfl) <| u (ex (.t rfl) rfl rfl) <| u (ex (.t rfl) rfl rfl) <| st tf59 (.t rfl) rfl (.t rfl) rfl rfl rfl <| u (asg (.t rfl)) <| .nil _) rfl ?_
        obtain rfl := Option.some.inj h
        exact .rt Try.func81 (.c tf59 rfl rfl rfl <| .t rfl <| .n) .n rfl rfl
      · refine .skp ?_
        refine .sq ?_
        refine .rg (u (ld tf59 (.t rfl) rfl rfl) <| u (mv (.t rfl)) <| st tf59 (.t rfl) rfl (.t rfl) rfl rfl rfl <| u (asg (.t rfl)) <| .nil _) rfl ?_
        obtain rfl := Option.some.inj h
        exact .rt Try.func81 (.c tf59 rfl rfl rfl <| .t rfl <| .n) .n rfl rfl
    refine .bq h (.t rfl) (fun h => ?_) (fun h => ?_)
    · refine .sq ?_
      refine .rg (u (asg (.i rfl)) <| .nil _) rfl ?_
      refine .sq ?_
      refine be h fun x5 hx5 h => ?_
      refine .rg (u (ld tf59 (.t rfl) rfl rfl) <| cl [] cf61 (bits_Get_c hx5) (.c (.t rfl) <| .c (.i rfl) <| .n) (.inl rfl) <| u (mv (.t rfl)) <| u (ex (.t rfl) rfl rfl) <| u (ex (.t rfl) rfl rfl) <| st tf59 (.t rfl) rfl (.t rfl) rfl rfl rfl <| u (asg (.t rfl)) <| .nil _) rfl ?_
      refine .rg (u (mv (.t rfl)) <| u (sh (.t rfl) (.i rfl) rfl (by decide)) <| u (mv (.t rfl)) <| u (bi (.t rfl) (.t rfl) rfl) <| u (mv (.t rfl)) <| u (bi (.t rfl) (.t rfl) rfl) <| u (asg (.t rfl)) <| .nil _) rfl ?_
      exact .kq (J1 ((ar .sub .u64 (ar .add .u64 (sf .shl .u64 x2.2 1) x5.2) x1.2), x5.1) h) (.c rfl (.c rfl (.c rfl (.c rfl .n)))) (.c rfl (.c rfl (.c rfl .n)))
    · refine .skp ?_
      exact .kq (J1 (x2.2, x2.1) h) (.c rfl (.c rfl (.c rfl (.c rfl .n)))) (.c rfl (.c rfl (.c rfl .n)))

theorem templ_eye_num_y1_c {z : Option Nat} {width : Int} {box0 : templ_eye} {r : Int × templ_eye} (h : templ_eye_num_y1 z width box0 = some r) :
    AY Try.prog 71 [.ptr 9000 0, .ro (.int .i64 width)] [(9000, [.list 1 (List.map e8 box0.c.bytes), .int .i64 box0.c.at_, .int .i64 box0.c.err])] [0] (.ro (.int .i64 r.1)) [] [(0, .ptr 9000 0)] [(9000, [.list 1 (List.map e8 r.2.c.bytes), .int .i64 r.2.c.at_, .int .i64 r.2.c.err])] := by
  refine AY.of Try.func71 rfl rfl fun w X M0 hM pv => ?_
  refine .kq (l := [(0, .ptr 9000 0), (1, .ro (.int .i64 width))]) (o := [(9000, some (.box [.ro (.list 1 (List.map e8 box0.c.bytes)), .ro (.int .i64 box0.c.at_), .ro (.int .i64 box0.c.err)]))]) ?_ (.c rfl (.c rfl .n)) (.c rfl .n)
  unfold templ_eye_num_y1 at h
  refine .sq ?_
  refine .rg (u (asg (.i rfl)) <| .nil _) rfl ?_
  refine .sq ?_
  refine be h fun x1 hx1 h => ?_
  refine .rg (u (mv (.t rfl)) <| u (nkp (.t rfl)) <| u (fa ff113_0 (.t rfl)) <| u (ld tf59 (.t rfl) rfl rfl) <| u (mv (.t rfl)) <| cl [] cf61 (bits_Get_c hx1) (.c (.t rfl) <| .c (.t rfl) <| .n) (.inl rfl) <| u (mv (.t rfl)) <| u (ex (.t rfl) rfl rfl) <| u (ex (.t rfl) rfl rfl) <| al 5 zf59 rfl <| st tf59 (.t rfl) rfl (.t rfl) rfl rfl rfl <| u (asg (.t rfl)) <| .nil _) rfl ?_
  refine .sq ?_
  refine .rg (u (mv (.t rfl)) <| u (ld tf59 (.t rfl) rfl rfl) <| u (nkp (.t rfl)) <| u (fa ff113_0 (.t rfl)) <| st tf59 (.t rfl) rfl (.t rfl) rfl rfl rfl <| .nil _) rfl ?_
  refine .sq ?_
  refine .rg (u (mv (.t rfl)) <| u (cv cv83_3 (.t rfl)) <| u (asg (.t rfl)) <| .nil _) rfl ?_
  obtain rfl := Option.some.inj h
  exact .rtx (o := [(9000, some (.box [.ro (.list 1 (List.map e8 x1.1.bytes)), .ro (.int .i64 x1.1.at_), .ro (.int .i64 x1.1.err)]))]) Try.func71 (.t rfl <| .n) (.c rfl .n) rfl rfl (.c rfl .n) rfl

theorem templ_eye_fine_p_c (y : templ_eye) :
    AC Try.prog 69 [.rptr [.list 1 (List.map e8 y.c.bytes), .int .i64 y.c.at_, .int .i64 y.c.err]] (.ro (.bool (templ_eye_fine_p y))) [] := by
  obtain ⟨r, h⟩ : ∃ r, templ_eye_fine_p y = r := ⟨_, rfl⟩
  rw [h]
  refine AC.of Try.func69 rfl rfl fun w M0 hM => ?_
  unfold templ_eye_fine_p at h
  refine .sq ?_
  refine .rg (u (asg .b) <| .nil _) rfl ?_
  refine .sq ?_
  refine .rg (u (mv (.t rfl)) <| u (nkr (.t rfl)) <| u (fr ff113_0 (.t rfl) rfl) <| u (fr ff59_2 (.t rfl) rfl) <| u (lr tf34 (.t rfl) rfl) <| u (bc (.t rfl) (.i rfl) rfl rfl) <| u (asg (.t rfl)) <| .nil _) rfl ?_
  subst h
  exact .rt Try.func69 (.t rfl <| .n) .n rfl rfl

theorem templ_eye_need_y1_c {z : Option Nat} {ok : Bool} {box0 : templ_eye} {r : templ_eye} (h : templ_eye_need_y1 z ok box0 = some r) :
    AY Try.prog 80 [.ptr 9000 0, .ro (.bool ok)] [(9000, [.list 1 (List.map e8 box0.c.bytes), .int .i64 box0.c.at_, .int .i64 box0.c.err])] [0] (.ro (.tup [])) [] [(0, .ptr 9000 0)] [(9000, [.list 1 (List.map e8 r.c.bytes), .int .i64 r.c.at_, .int .i64 r.c.err])] := by
  refine AY.of Try.func80 rfl rfl fun w X M0 hM pv => ?_
  refine .kq (l := [(0, .ptr 9000 0), (1, .ro (.bool ok))]) (o := [(9000, some (.box [.ro (.list 1 (List.map e8 box0.c.bytes)), .ro (.int .i64 box0.c.at_), .ro (.int .i64 box0.c.err)]))]) ?_ (.c rfl (.c rfl .n)) (.c rfl .n)
  unfold templ_eye_need_y1 at h
  refine .sq ?_
  refine .rg (u (mv (.t rfl)) <| cl [] cf69 (templ_eye_fine_p_c box0) (.p (.t rfl) rfl rfl rfl <| .n) (.inr rfl) <| u (mv (.t rfl)) <| gd rfl rfl (fun hB => mv (.t rfl)) <| gd rfl rfl (fun hB => no (.m rfl hB)) <| u (pka (.t rfl) (.t rfl)) <| .nil _) rfl ?_
  refine .bq h (.t rfl) (fun h => ?_) (fun h => ?_)
  · refine .rg (u (mv (.t rfl)) <| u (nkp (.t rfl)) <| u (fa ff113_0 (.t rfl)) <| u (fa ff59_2 (.t rfl)) <| st tf34 (.t rfl) rfl (.i rfl) rfl rfl rfl <| .nil _) rfl ?_
    obtain rfl := Option.some.inj h
    exact .rte (o := [(9000, some (.box [.ro (.list 1 (List.map e8 box0.c.bytes)), .ro (.int .i64 box0.c.at_), .ro (.int .i64 6)]))]) Try.func80 (.n) (.c rfl .n) rfl rfl (.c rfl .n) rfl
  · refine .skp ?_
    obtain rfl := Option.some.inj h
    exact .rte (o := [(9000, some (.box [.ro (.list 1 (List.map e8 box0.c.bytes)), .ro (.int .i64 box0.c.at_), .ro (.int .i64 box0.c.err)]))]) Try.func80 (.n) (.c rfl .n) rfl rfl (.c rfl .n) rfl

theorem templ_eye_layers_y1_c {z : Option Nat} {box0 : templ_eye} {r : List Template × templ_eye} (h : templ_eye_layers_y1 z box0 = some r) :
    AY Try.prog 72 [.ptr 9000 0] [(9000, [.list 1 (List.map e8 box0.c.bytes), .int .i64 box0.c.at_, .int .i64 box0.c.err])] [0] (.own 8000) [(8000, .arr 46 5 (List.map cells_Template r.1))] [(0, .ptr 9000 0)] [(9000, [.list 1 (List.map e8 r.2.c.bytes), .int .i64 r.2.c.at_, .int .i64 r.2.c.err])] := by
  refine AY.of Try.func72 rfl rfl fun w X M0 hM pv => ?_
  refine .kq (l := [(0, .ptr 9000 0)]) (o := [(9000, some (.box [.ro (.list 1 (List.map e8 box0.c.bytes)), .ro (.int .i64 box0.c.at_), .ro (.int .i64 box0.c.err)]))]) ?_ (.c rfl .n) (.c rfl .n)
  unfold templ_eye_layers_y1 at h
  refine .sq ?_
  refine .rg (anm cells_Template 2 46 5 rfl rfl <| .nil _) rfl ?_
  refine .sq ?_
  refine .rg (u (bd bf46 zf46 (.n) rfl) <| bs (F := cells_Template) (l := [(Template.mk 0 0 [] [] [])]) 6 pf23 (.c (.t rfl) rfl <| .n) rfl (fun _ _ => rfl) rfl rfl <| u (asg (.t rfl)) <| .nil _) rfl ?_
  refine .sq ?_
  refine .bl ?_
  unfold templ_eye_layers_y1_l1 at h
  refine .ks (fun i => bif Nat.beq i 3 then 6 else i) (.lo (fun (s : List Template × templ_eye) => ⟨[(0, .ptr 9000 0), (3, .own 3)], [(3, some (.arr 46 5 (List.map cells_Template s.1))), (9000, some (.box [.ro (.list 1 (List.map e8 s.2.c.bytes)), .ro (.int .i64 s.2.c.at_), .ro (.int .i64 s.2.c.err)]))]⟩) h ?_) (.c rfl (.c rfl .n)) (.c rfl (.c rfl .n)) rfl
  rintro ⟨v1, v2⟩ u1 h ih1 hx1
  replace h : templ_eye_layers_y1_s1 z v1 v2 = _ := h
  unfold templ_eye_layers_y1_s1 at h
  refine .sq ?_
  refine .sq ?_
  refine .rg (u (mv (.t rfl)) <| cl [] cf69 (templ_eye_fine_p_c v2) (.p (.t rfl) rfl rfl rfl <| .n) (.inr rfl) <| .nil _) rfl ?_
  refine .bq h (.t rfl) (fun h => ?_) (fun h => ?_)
  · refine .skp ?_
    refine .bl ?_
    refine .sq ?_
    refine be h fun x3 hx3 h => ?_
    refine .rg (u (mv (.t rfl)) <| u (mv (.t rfl)) <| u (lom sf23 (.t rfl) rfl) <| u (bi (.t rfl) (.i rfl) rfl) <| u (io sf23 (.t rfl) rfl (.t rfl) (ix_map cells_Template hx3)) <| u (le tf46 (.t rfl) rfl (ix_lt (ix_map _ hx3)).2.2 rfl) <| al 4 zf46 rfl <| st tf46 (.t rfl) rfl (.t rfl) rfl rfl rfl <| .nil _) rfl ?_
    refine .sq ?_
    refine .sq ?_
    refine be h fun x4 hx4 h => ?_
    refine .rg (u (mv (.t rfl)) <| cly 17000000 cf71 (AY.ly (fun i => bif Nat.beq i 9000 then 9000 else i) (templ_eye_num_y1_c hx4) rfl rfl rfl rfl rfl rfl rfl)  (.c (.t rfl) <| .c (.i rfl) <| .n) rfl (.c rfl <| .n) rfl <| .nil _) rfl ?_
    refine .bl ?_
    refine .sq ?_
    refine .rg (u (bc (.t rfl) (.i rfl) rfl rfl) <| u (asg (.t rfl)) <| .nil _) rfl ?_
    refine .jq (t := some u1) (fun (a : Template) => ⟨[(0, .ptr 9000 0), (3, .own 3), (4, .ptr 4 0)], [(3, some (.arr 46 5 (List.map cells_Template v1))), (4, some (.box [.ro (.int .i64 a.sid), .ro (.int .i64 a.tid), .ro (.list 1 (List.map (ei .i64) a.marks)), .ro (.list 1 (List.map (ei .i64) a.diffs)), .ro (.list 1 (List.map (ei .i64) a.chains))])), (9000, some (.box [.ro (.list 1 (List.map e8 x4.2.c.bytes)), .ro (.int .i64 x4.2.c.at_), .ro (.int .i64 x4.2.c.err)]))]⟩) (fun (a : Template) => templ_eye_layers_y1_j2 z v1 x4 a) ?_ (fun J2 => ?_)
    · intro v5 h
      replace h : templ_eye_layers_y1_j2 z v1 x4 v5 = _ := h
      unfold templ_eye_layers_y1_j2 at h
      refine .ib ?_
      refine .sq ?_
      refine be h fun x6 hx6 h => ?_
      refine .rg (u (mv (.t rfl)) <| u (fa ff46_1 (.t rfl)) <| u (ld tf3 (.t rfl) rfl rfl) <| u (bc (.t rfl) (.i rfl) rfl rfl) <| u (mv (.t rfl)) <| gd rfl rfl (fun hB => fa ff46_0 (.t rfl)) <| gd rfl rfl (fun hB => ld tf3 (.m rfl hB) rfl rfl) <| gd rfl rfl (fun hB => bc (.m rfl hB) (.i rfl) rfl rfl) <| u (pka (.t rfl) (.t rfl)) <| u (mv (.t rfl)) <| gd rfl rfl (fun hB => mv (.t rfl)) <| gd rfl rfl (fun hB => lom sf23 (.m rfl hB) rfl) <| gd rfl rfl (fun hB => bc (.m rfl hB) (.i rfl) rfl rfl) <| u (pka (.t rfl) (.t rfl)) <| cly 48000000 cf80 (AY.ly (fun i => bif Nat.beq i 9000 then 9000 else i) (templ_eye_need_y1_c hx6) rfl rfl rfl rfl rfl rfl rfl)  (.c (.t rfl) <| .c (.t rfl) <| .n) rfl (.c rfl <| .n) rfl <| .nil _) rfl ?_
      refine be h fun x7 hx7 h => ?_
      refine .rg (u (mv (.t rfl)) <| u (ld tf46 (.t rfl) rfl rfl) <| bs (F := cells_Template) (l := [v5]) 50 pf23 (.c (.t rfl) rfl <| .n) rfl (fun _ _ => rfl) rfl rfl <| apo 51 pf23 (.t rfl) rfl (.t rfl) rfl hx7 rfl <| u (asg (.t rfl)) <| .nil _) rfl ?_
      refine .ib ?_
      exact .ks (fun i => bif Nat.beq i 3 then 51 else i) (.il (ih1 (x7, x6) (nxi h))) (.c rfl (.c rfl .n)) (.c rfl (.c rfl .n)) rfl
    refine .bq h (.t rfl) (fun h => ?_) (fun h => ?_)
    · refine .rg (u (fa ff46_1 (.t rfl)) <| u (ld tf3 (.t rfl) rfl rfl) <| u (bi (.t rfl) (.i rfl) rfl) <| u (fa ff46_1 (.t rfl)) <| st tf3 (.t rfl) rfl (.t rfl) rfl rfl rfl <| .nil _) rfl ?_
      exact .kq (J2 ({ x3 with tid := (ar .add .i64 x3.tid 1) }) h) (.c rfl (.c rfl (.c rfl .n))) (.c rfl (.c rfl (.c rfl .n)))
    · refine .sq ?_
      refine .rg (u (bc (.t rfl) (.i rfl) rfl rfl) <| u (asg (.t rfl)) <| .nil _) rfl ?_
      refine .bq h (.t rfl) (fun h => ?_) (fun h => ?_)
      · refine .rg (u (fa ff46_0 (.t rfl)) <| u (ld tf3 (.t rfl) rfl rfl) <| u (bi (.t rfl) (.i rfl) rfl) <| u (fa ff46_0 (.t rfl)) <| st tf3 (.t rfl) rfl (.t rfl) rfl rfl rfl <| u (fa ff46_1 (.t rfl)) <| st tf3 (.t rfl) rfl (.i rfl) rfl rfl rfl <| .nil _) rfl ?_
        exact .kq (J2 ({ x3 with sid := (ar .add .i64 x3.sid 1), tid := 0 }) h) (.c rfl (.c rfl (.c rfl .n))) (.c rfl (.c rfl (.c rfl .n)))
      · refine .sq ?_
        refine .rg (u (bc (.t rfl) (.i rfl) rfl rfl) <| u (asg (.t rfl)) <| .nil _) rfl ?_
        refine .bq h (.t rfl) (fun h => ?_) (fun h => ?_)
        · refine .sq ?_
          refine .rg (u (mv (.t rfl)) <| u (asg (.t rfl)) <| .nil _) rfl ?_
          replace h := mpR h hx1
          obtain rfl := Option.some.inj h
          refine .ks (l := [(2, .own 8000), (0, .ptr 9000 0)]) (o := [(9000, some (.box [.ro (.list 1 (List.map e8 x4.2.c.bytes)), .ro (.int .i64 x4.2.c.at_), .ro (.int .i64 x4.2.c.err)])), (8000, some (.arr 46 5 (List.map cells_Template v1)))]) (fun i => bif Nat.beq i 8000 then 3 else i) ?_ (.c rfl (.c rfl .n)) (.c rfl (.c rfl .n)) rfl
          exact .rtx (o := [(9000, some (.box [.ro (.list 1 (List.map e8 x4.2.c.bytes)), .ro (.int .i64 x4.2.c.at_), .ro (.int .i64 x4.2.c.err)])), (8000, some (.arr 46 5 (List.map cells_Template v1)))]) Try.func72 (.t rfl <| .n) (.c rfl (.c rfl .n)) rfl rfl (.c rfl .n) rfl
        · refine .skp ?_
          exact .kq (J2 x3 h) (.c rfl (.c rfl (.c rfl .n))) (.c rfl (.c rfl (.c rfl .n)))
  · refine .xt rfl ?_
    replace h := mpR h hx1
    refine .sq ?_
    refine .rg (u (mv (.t rfl)) <| u (asg (.t rfl)) <| .nil _) rfl ?_
    obtain rfl := Option.some.inj h
    refine .ks (l := [(2, .own 8000), (0, .ptr 9000 0)]) (o := [(9000, some (.box [.ro (.list 1 (List.map e8 v2.c.bytes)), .ro (.int .i64 v2.c.at_), .ro (.int .i64 v2.c.err)])), (8000, some (.arr 46 5 (List.map cells_Template v1)))]) (fun i => bif Nat.beq i 8000 then 3 else i) ?_ (.c rfl (.c rfl .n)) (.c rfl (.c rfl .n)) rfl
    exact .rtx (o := [(9000, some (.box [.ro (.list 1 (List.map e8 v2.c.bytes)), .ro (.int .i64 v2.c.at_), .ro (.int .i64 v2.c.err)])), (8000, some (.arr 46 5 (List.map cells_Template v1)))]) Try.func72 (.t rfl <| .n) (.c rfl (.c rfl .n)) rfl rfl (.c rfl .n) rfl

theorem templ_eye_read_1_y1_c {z : Option Nat} {box0 : templ_eye} {r : Int × templ_eye} (h : templ_eye_read_1_y1 z box0 = some r) :
    AY Try.prog 74 [.cptr [.ptr 9000 0]] [(9000, [.list 1 (List.map e8 box0.c.bytes), .int .i64 box0.c.at_, .int .i64 box0.c.err])] [0] (.ro (.int .i64 r.1)) [] [(0, .cptr [.ptr 9000 0])] [(9000, [.list 1 (List.map e8 r.2.c.bytes), .int .i64 r.2.c.at_, .int .i64 r.2.c.err])] := by
  refine AY.of Try.func74 rfl rfl fun w X M0 hM pv => ?_
  refine .kq (l := [(0, .cptr [.ptr 9000 0])]) (o := [(9000, some (.box [.ro (.list 1 (List.map e8 box0.c.bytes)), .ro (.int .i64 box0.c.at_), .ro (.int .i64 box0.c.err)]))]) ?_ (.c rfl .n) (.c rfl .n)
  unfold templ_eye_read_1_y1 at h
  refine .sq ?_
  refine .rg (u (asg (.i rfl)) <| .nil _) rfl ?_
  refine .sq ?_
  refine be h fun x1 hx1 h => ?_
  refine .rg (u (lc tf111 (.t rfl) rfl) <| cly 4000000 cf71 (AY.ly (fun i => bif Nat.beq i 9000 then 9000 else i) (templ_eye_num_y1_c hx1) rfl rfl rfl rfl rfl rfl rfl)  (.c (.t rfl) <| .c (.i rfl) <| .n) rfl (.c rfl <| .n) rfl <| u (asg (.t rfl)) <| .nil _) rfl ?_
  obtain rfl := Option.some.inj h
  exact .rtx (o := [(9000, some (.box [.ro (.list 1 (List.map e8 x1.2.c.bytes)), .ro (.int .i64 x1.2.c.at_), .ro (.int .i64 x1.2.c.err)]))]) Try.func74 (.t rfl <| .n) (.c rfl .n) rfl rfl (.c rfl .n) rfl

theorem templ_eye_some_y1_c {z : Option Nat} {many : Int} {box0 : templ_eye} {r : List Int × templ_eye} (h : templ_eye_some_y1 z many box0 = some r) :
    AY Try.prog 73 [.ptr 9000 0, .ro (.int .i64 many), .fn (.func 74) [] [.cptr [.ptr 9000 0]]] [(9000, [.list 1 (List.map e8 box0.c.bytes), .int .i64 box0.c.at_, .int .i64 box0.c.err])] [0, 2] (.own 8000) [(8000, .arr 3 1 (List.map (ei .i64) r.1))] [(0, .ptr 9000 0), (2, .fn (.func 74) [] [.cptr [.ptr 9000 0]])] [(9000, [.list 1 (List.map e8 r.2.c.bytes), .int .i64 r.2.c.at_, .int .i64 r.2.c.err])] := by
  refine AY.of Try.func73 rfl rfl fun w X M0 hM pv => ?_
  refine .kq (l := [(0, .ptr 9000 0), (1, .ro (.int .i64 many)), (2, .fn (.func 74) [] [.cptr [.ptr 9000 0]])]) (o := [(9000, some (.box [.ro (.list 1 (List.map e8 box0.c.bytes)), .ro (.int .i64 box0.c.at_), .ro (.int .i64 box0.c.err)]))]) ?_ (.c rfl (.c rfl (.c rfl .n))) (.c rfl .n)
  unfold templ_eye_some_y1 at h
  refine .sq ?_
  refine .rg (anm (ei .i64) 6 3 1 rfl rfl <| .nil _) rfl ?_
  refine .sq ?_
  refine .rg (anm (ei .i64) 7 3 1 rfl rfl <| .nil _) rfl ?_
  refine .sq ?_
  refine .sq ?_
  refine .rg (u (asg (.i rfl)) <| .nil _) rfl ?_
  refine .bl ?_
  unfold templ_eye_some_y1_l1 at h
  refine .kq (.lo (fun (s : List Int × Int × templ_eye) => ⟨[(0, .ptr 9000 0), (1, .ro (.int .i64 many)), (2, .fn (.func 74) [] [.cptr [.ptr 9000 0]]), (7, .own 7), (8, .ro (.int .i64 s.2.1))], [(7, some (.arr 3 1 (List.map (ei .i64) s.1))), (9000, some (.box [.ro (.list 1 (List.map e8 s.2.2.c.bytes)), .ro (.int .i64 s.2.2.c.at_), .ro (.int .i64 s.2.2.c.err)]))]⟩) h ?_) (.c rfl (.c rfl (.c rfl (.c rfl (.c rfl .n))))) (.c rfl (.c rfl .n))
  rintro ⟨v1, v2, v3⟩ u1 h ih1 hx1
  replace h : templ_eye_some_y1_s1 z many v1 v2 v3 = _ := h
  unfold templ_eye_some_y1_s1 at h
  refine .sq ?_
  refine .sq ?_
  refine .rg (u (mv (.t rfl)) <| u (mv (.t rfl)) <| u (bc (.t rfl) (.t rfl) rfl rfl) <| u (mv (.t rfl)) <| gd rfl rfl (fun hB => mv (.t rfl)) <| cg rfl rfl cf69 (fun hB => (templ_eye_fine_p_c v3)) (fun hB => .p (.m rfl hB) rfl rfl rfl <| .n) (.inr rfl) <| u (pka (.t rfl) (.t rfl)) <| .nil _) rfl ?_
  refine .bq h (.t rfl) (fun h => ?_) (fun h => ?_)
  · refine .skp ?_
    refine .sq ?_
    refine .bl ?_
    refine be h fun x4 hx4 h => ?_
    refine be h fun x5 hx5 h => ?_
    refine .rg (u (mv (.t rfl)) <| u (mv (.t rfl)) <| cvy 21000000 cf74 (AY.ly (fun i => bif Nat.beq i 9000 then 9000 else i) (templ_eye_read_1_y1_c hx4) rfl rfl rfl rfl rfl rfl rfl) (.t rfl) (.n) rfl (.c rfl <| .n) rfl <| bs (F := (ei .i64)) (l := [x4.1]) 21 pf22 (.c (.t rfl) rfl <| .n) rfl (fun _ _ => rfl) rfl rfl <| apo 22 pf22 (.t rfl) rfl (.t rfl) rfl hx5 rfl <| u (asg (.t rfl)) <| .nil _) rfl ?_
    refine .ib ?_
    refine .rg (u (mv (.t rfl)) <| u (bi (.t rfl) (.i rfl) rfl) <| u (asg (.t rfl)) <| .nil _) rfl ?_
    exact .ks (fun i => bif Nat.beq i 7 then 22 else i) (.il (ih1 (x5, (ar .add .i64 v2 1), x4.2) (nxi h))) (.c rfl (.c rfl (.c rfl (.c rfl (.c rfl .n))))) (.c rfl (.c rfl .n)) rfl
  · refine .xt rfl ?_
    replace h := mpR h hx1
    refine .sq ?_
    refine .rg (u (mv (.t rfl)) <| u (asg (.t rfl)) <| .nil _) rfl ?_
    obtain rfl := Option.some.inj h
    refine .ks (l := [(6, .own 8000), (0, .ptr 9000 0), (2, .fn (.func 74) [] [.cptr [.ptr 9000 0]])]) (o := [(9000, some (.box [.ro (.list 1 (List.map e8 v3.c.bytes)), .ro (.int .i64 v3.c.at_), .ro (.int .i64 v3.c.err)])), (8000, some (.arr 3 1 (List.map (ei .i64) v1)))]) (fun i => bif Nat.beq i 8000 then 7 else i) ?_ (.c rfl (.c rfl (.c rfl .n))) (.c rfl (.c rfl .n)) rfl
    exact .rtx (o := [(9000, some (.box [.ro (.list 1 (List.map e8 v3.c.bytes)), .ro (.int .i64 v3.c.at_), .ro (.int .i64 v3.c.err)])), (8000, some (.arr 3 1 (List.map (ei .i64) v1)))]) Try.func73 (.t rfl <| .n) (.c rfl (.c rfl .n)) rfl rfl (.c rfl (.c rfl .n)) rfl

theorem templ_eye_some_y2_c {z : Option Nat} {many : Int} {box0 : templ_eye} {r : List Int × templ_eye} (h : templ_eye_some_y2 z many box0 = some r) :
    AY Try.prog 73 [.ptr 9000 0, .ro (.int .i64 many), .fn (.func 74) [] [.cptr [.ptr 9000 0]]] [(9000, [.list 1 (List.map e8 box0.c.bytes), .int .i64 box0.c.at_, .int .i64 box0.c.err])] [0, 2] (.ro (.list 1 (List.map (ei .i64) r.1))) [] [(0, .ptr 9000 0), (2, .fn (.func 74) [] [.cptr [.ptr 9000 0]])] [(9000, [.list 1 (List.map e8 r.2.c.bytes), .int .i64 r.2.c.at_, .int .i64 r.2.c.err])] := by
  refine AY.of Try.func73 rfl rfl fun w X M0 hM pv => ?_
  refine .kq (l := [(0, .ptr 9000 0), (1, .ro (.int .i64 many)), (2, .fn (.func 74) [] [.cptr [.ptr 9000 0]])]) (o := [(9000, some (.box [.ro (.list 1 (List.map e8 box0.c.bytes)), .ro (.int .i64 box0.c.at_), .ro (.int .i64 box0.c.err)]))]) ?_ (.c rfl (.c rfl (.c rfl .n))) (.c rfl .n)
  unfold templ_eye_some_y2 at h
  refine .sq ?_
  refine .rg (u (asg (.n (sz := 1) (F := (ei .i64)))) <| .nil _) rfl ?_
  refine .sq ?_
  refine .rg (anm (ei .i64) 7 3 1 rfl rfl <| .nil _) rfl ?_
  refine .sq ?_
  refine .sq ?_
  refine .rg (u (asg (.i rfl)) <| .nil _) rfl ?_
  refine .bl ?_
  unfold templ_eye_some_y2_l1 at h
  refine .kq (.lo (fun (s : List Int × Int × templ_eye) => ⟨[(0, .ptr 9000 0), (1, .ro (.int .i64 many)), (2, .fn (.func 74) [] [.cptr [.ptr 9000 0]]), (7, .own 7), (8, .ro (.int .i64 s.2.1))], [(7, some (.arr 3 1 (List.map (ei .i64) s.1))), (9000, some (.box [.ro (.list 1 (List.map e8 s.2.2.c.bytes)), .ro (.int .i64 s.2.2.c.at_), .ro (.int .i64 s.2.2.c.err)]))]⟩) h ?_) (.c rfl (.c rfl (.c rfl (.c rfl (.c rfl .n))))) (.c rfl (.c rfl .n))
  rintro ⟨v1, v2, v3⟩ u1 h ih1 hx1
  replace h : templ_eye_some_y2_s1 z many v1 v2 v3 = _ := h
  unfold templ_eye_some_y2_s1 at h
  refine .sq ?_
  refine .sq ?_
  refine .rg (u (mv (.t rfl)) <| u (mv (.t rfl)) <| u (bc (.t rfl) (.t rfl) rfl rfl) <| u (mv (.t rfl)) <| gd rfl rfl (fun hB => mv (.t rfl)) <| cg rfl rfl cf69 (fun hB => (templ_eye_fine_p_c v3)) (fun hB => .p (.m rfl hB) rfl rfl rfl <| .n) (.inr rfl) <| u (pka (.t rfl) (.t rfl)) <| .nil _) rfl ?_
  refine .bq h (.t rfl) (fun h => ?_) (fun h => ?_)
  · refine .skp ?_
    refine .sq ?_
    refine .bl ?_
    refine be h fun x4 hx4 h => ?_
    refine be h fun x5 hx5 h => ?_
    refine .rg (u (mv (.t rfl)) <| u (mv (.t rfl)) <| cvy 21000000 cf74 (AY.ly (fun i => bif Nat.beq i 9000 then 9000 else i) (templ_eye_read_1_y1_c hx4) rfl rfl rfl rfl rfl rfl rfl) (.t rfl) (.n) rfl (.c rfl <| .n) rfl <| bs (F := (ei .i64)) (l := [x4.1]) 21 pf22 (.c (.t rfl) rfl <| .n) rfl (fun _ _ => rfl) rfl rfl <| apo 22 pf22 (.t rfl) rfl (.t rfl) rfl hx5 rfl <| u (asg (.t rfl)) <| .nil _) rfl ?_
    refine .ib ?_
    refine .rg (u (mv (.t rfl)) <| u (bi (.t rfl) (.i rfl) rfl) <| u (asg (.t rfl)) <| .nil _) rfl ?_
    exact .ks (fun i => bif Nat.beq i 7 then 22 else i) (.il (ih1 (x5, (ar .add .i64 v2 1), x4.2) (nxi h))) (.c rfl (.c rfl (.c rfl (.c rfl (.c rfl .n))))) (.c rfl (.c rfl .n)) rfl
  · refine .xt rfl ?_
    replace h := mpR h hx1
    refine .sq ?_
    refine .rg (u (mv (.t rfl)) <| u (asg (.t rfl)) <| .nil _) rfl ?_
    refine .fz 7 rfl ?_
    obtain rfl := Option.some.inj h
    exact .rtx (o := [(9000, some (.box [.ro (.list 1 (List.map e8 v3.c.bytes)), .ro (.int .i64 v3.c.at_), .ro (.int .i64 v3.c.err)]))]) Try.func73 (.t rfl <| .n) (.c rfl .n) rfl rfl (.c rfl (.c rfl .n)) rfl

theorem templ_eye_diffs_y1_c {z : Option Nat} {box0 : templ_eye} {r : List Int × templ_eye} (h : templ_eye_diffs_y1 z box0 = some r) :
    AY Try.prog 75 [.ptr 9000 0] [(9000, [.list 1 (List.map e8 box0.c.bytes), .int .i64 box0.c.at_, .int .i64 box0.c.err])] [0] (.own 8000) [(8000, .arr 3 1 (List.map (ei .i64) r.1))] [(0, .ptr 9000 0)] [(9000, [.list 1 (List.map e8 r.2.c.bytes), .int .i64 r.2.c.at_, .int .i64 r.2.c.err])] := by
  refine AY.of Try.func75 rfl rfl fun w X M0 hM pv => ?_
  refine .kq (l := [(0, .ptr 9000 0)]) (o := [(9000, some (.box [.ro (.list 1 (List.map e8 box0.c.bytes)), .ro (.int .i64 box0.c.at_), .ro (.int .i64 box0.c.err)]))]) ?_ (.c rfl .n) (.c rfl .n)
  unfold templ_eye_diffs_y1 at h
  refine .sq ?_
  refine .rg (anm (ei .i64) 2 3 1 rfl rfl <| .nil _) rfl ?_
  refine .sq ?_
  refine .rg (anm (ei .i64) 3 3 1 rfl rfl <| .nil _) rfl ?_
  refine .sq ?_
  refine .bl ?_
  unfold templ_eye_diffs_y1_l1 at h
  refine .kq (.lo (fun (s : List Int × templ_eye) => ⟨[(0, .ptr 9000 0), (3, .own 3)], [(3, some (.arr 3 1 (List.map (ei .i64) s.1))), (9000, some (.box [.ro (.list 1 (List.map e8 s.2.c.bytes)), .ro (.int .i64 s.2.c.at_), .ro (.int .i64 s.2.c.err)]))]⟩) h ?_) (.c rfl (.c rfl .n)) (.c rfl (.c rfl .n))
  rintro ⟨v1, v2⟩ u1 h ih1 hx1
  replace h : templ_eye_diffs_y1_s1 z v1 v2 = _ := h
  unfold templ_eye_diffs_y1_s1 at h
  refine .sq ?_
  refine .sq ?_
  refine be h fun x3 hx3 h => ?_
  refine .rg (u (mv (.t rfl)) <| cly 6000000 cf71 (AY.ly (fun i => bif Nat.beq i 9000 then 9000 else i) (templ_eye_num_y1_c hx3) rfl rfl rfl rfl rfl rfl rfl)  (.c (.t rfl) <| .c (.i rfl) <| .n) rfl (.c rfl <| .n) rfl <| u (bc (.t rfl) (.i rfl) rfl rfl) <| u (mv (.t rfl)) <| gd rfl rfl (fun hB => mv (.t rfl)) <| cg rfl rfl cf69 (fun hB => (templ_eye_fine_p_c x3.2)) (fun hB => .p (.m rfl hB) rfl rfl rfl <| .n) (.inr rfl) <| u (pka (.t rfl) (.t rfl)) <| .nil _) rfl ?_
  refine .bq h (.t rfl) (fun h => ?_) (fun h => ?_)
  · refine .skp ?_
    refine .bl ?_
    refine .sq ?_
    refine be h fun x4 hx4 h => ?_
    refine .rg (u (mv (.t rfl)) <| u (mv (.t rfl)) <| u (lom sf22 (.t rfl) rfl) <| u (bc (.t rfl) (.i rfl) rfl rfl) <| cly 16000000 cf80 (AY.ly (fun i => bif Nat.beq i 9000 then 9000 else i) (templ_eye_need_y1_c hx4) rfl rfl rfl rfl rfl rfl rfl)  (.c (.t rfl) <| .c (.t rfl) <| .n) rfl (.c rfl <| .n) rfl <| .nil _) rfl ?_
    refine be h fun x5 hx5 h => ?_
    refine be h fun x6 hx6 h => ?_
    refine .rg (u (mv (.t rfl)) <| u (mv (.t rfl)) <| cly 19000000 cf71 (AY.ly (fun i => bif Nat.beq i 9000 then 9000 else i) (templ_eye_num_y1_c hx5) rfl rfl rfl rfl rfl rfl rfl)  (.c (.t rfl) <| .c (.i rfl) <| .n) rfl (.c rfl <| .n) rfl <| u (bi (.t rfl) (.i rfl) rfl) <| bs (F := (ei .i64)) (l := [(ar .add .i64 x5.1 1)]) 20 pf22 (.c (.t rfl) rfl <| .n) rfl (fun _ _ => rfl) rfl rfl <| apo 21 pf22 (.t rfl) rfl (.t rfl) rfl hx6 rfl <| u (asg (.t rfl)) <| .nil _) rfl ?_
    refine .ib ?_
    exact .ks (fun i => bif Nat.beq i 3 then 21 else i) (.il (ih1 (x6, x5.2) (nxi h))) (.c rfl (.c rfl .n)) (.c rfl (.c rfl .n)) rfl
  · refine .xt rfl ?_
    replace h := mpR h hx1
    refine .sq ?_
    refine .rg (u (mv (.t rfl)) <| u (asg (.t rfl)) <| .nil _) rfl ?_
    obtain rfl := Option.some.inj h
    refine .ks (l := [(2, .own 8000), (0, .ptr 9000 0)]) (o := [(9000, some (.box [.ro (.list 1 (List.map e8 x3.2.c.bytes)), .ro (.int .i64 x3.2.c.at_), .ro (.int .i64 x3.2.c.err)])), (8000, some (.arr 3 1 (List.map (ei .i64) v1)))]) (fun i => bif Nat.beq i 8000 then 3 else i) ?_ (.c rfl (.c rfl .n)) (.c rfl (.c rfl .n)) rfl
    exact .rtx (o := [(9000, some (.box [.ro (.list 1 (List.map e8 x3.2.c.bytes)), .ro (.int .i64 x3.2.c.at_), .ro (.int .i64 x3.2.c.err)])), (8000, some (.arr 3 1 (List.map (ei .i64) v1)))]) Try.func75 (.t rfl <| .n) (.c rfl (.c rfl .n)) rfl rfl (.c rfl .n) rfl

end Xb
