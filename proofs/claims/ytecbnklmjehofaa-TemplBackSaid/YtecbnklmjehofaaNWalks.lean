/- Own text: NWalks. -/
import Derived.Test.YtecbnklmjehofaaNFacts
import Derived.Test.YtecbnklmjehofaaNRaw
import Derived.Test.YtecbnklmjehofaaNIter
set_option linter.all false
set_option linter.unusedVariables false
set_option linter.unusedSimpArgs false
set_option linter.unnecessarySimpa false
set_option linter.deprecated false
namespace Xb
open Go Go.Proofs
set_option linter.unusedVariables false
set_option maxRecDepth 20000

theorem bits_Right_c {k : Ink} {r : Bool} (h : bits_Right k = some r) :
    AC Try.prog 43 [.ro (enc_Ink k)] (.ro (.bool r)) [] := by
  refine AC.of Try.func43 rfl rfl fun w M0 hM => ?_
  unfold bits_Right at h
  refine .sq ?_
  refine .rg (bx 1 (.t rfl) rfl rfl <| u (asg .b) <| .nil _) rfl ?_
  refine .sq ?_
  refine .sq ?_
  refine .rg (u (fa ff29_1 (.t rfl)) <| u (ld tf3 (.t rfl) rfl rfl) <| u (bc (.t rfl) (.i rfl) rfl rfl) <| u (mv (.t rfl)) <| gd rfl rfl (fun hB => fa ff29_0 (.t rfl)) <| gd rfl rfl (fun hB => ld tf27 (.m rfl hB) rfl rfl) <| gd rfl rfl (fun hB => lnm sf27 (.m rfl hB)) <| gd rfl rfl (fun hB => fa ff29_1 (.t rfl)) <| gd rfl rfl (fun hB => ld tf3 (.m rfl hB) rfl rfl) <| gd rfl rfl (fun hB => di (.m rfl hB) (.i rfl) rfl (by decide)) <| gd rfl rfl (fun hB => fa ff29_1 (.t rfl)) <| gd rfl rfl (fun hB => ld tf3 (.m rfl hB) rfl rfl) <| gd rfl rfl (fun hB => di (.m rfl hB) (.i rfl) rfl (by decide)) <| gd rfl rfl (fun hB => mn (.m rfl hB) (.i rfl)) <| gd rfl rfl (fun hB => bi (.m rfl hB) (.m rfl hB) rfl) <| gd rfl rfl (fun hB => bc (.m rfl hB) (.m rfl hB) rfl rfl) <| u (pko (.t rfl) (.t rfl)) <| .nil _) rfl ?_
  refine .bq h (.t rfl) (fun h => ?_) (fun h => ?_)
  · refine .sq ?_
    refine .rg (u (asg .b) <| .nil _) rfl ?_
    obtain rfl := Option.some.inj h
    exact .rt Try.func43 (.t rfl <| .n) .n rfl rfl
  · refine .skp ?_
    refine .sq ?_
    refine .rg (u (fa ff29_0 (.t rfl)) <| u (ld tf27 (.t rfl) rfl rfl) <| u (lnm sf27 (.t rfl)) <| u (bi (.i rfl) (.t rfl) rfl) <| u (fa ff29_1 (.t rfl)) <| u (ld tf3 (.t rfl) rfl rfl) <| u (bi (.t rfl) (.t rfl) rfl) <| u (asg (.t rfl)) <| .nil _) rfl ?_
    refine .sq ?_
    refine be h fun x1 hx1 h => ?_
    refine be h fun x2 hx2 h => ?_
    refine .rd mixed (u (mv (.t rfl)) <| u (bc (.t rfl) (.i rfl) rfl rfl) <| u (mv (.t rfl)) <| gd rfl rfl (fun hB => fa ff29_0 (.t rfl)) <| gd rfl rfl (fun hB => ld tf27 (.m rfl hB) rfl rfl) <| gd rfl rfl (fun hB => fa ff29_0 (.t rfl)) <| gd rfl rfl (fun hB => ld tf27 (.m rfl hB) rfl rfl) <| gd rfl rfl (fun hB => lnm sf27 (.m rfl hB)) <| gd rfl rfl (fun hB => bi (.m rfl hB) (.i rfl) rfl) <| gd rfl rfl (fun hB => ia sf27 (.m rfl hB) (.m rfl hB) (ix_map e8 (gTt hx1 (nt hB)))) <| gd rfl rfl (fun hB => lr tf5 (.m rfl hB) rfl) <| gd rfl rfl (fun hB => mv (.t rfl)) <| gd rfl rfl (fun hB => sho (.i rfl) (.m rfl hB) rfl (gTt hx2 (nt hB))) <| gd rfl rfl (fun hB => bi (.m rfl hB) (.i rfl) rfl) <| gd rfl rfl (fun hB => bi (.m rfl hB) (.m rfl hB) rfl) <| gd rfl rfl (fun hB => bc (.m rfl hB) (.i rfl) rfl rfl) <| u (pko (.t rfl) (.t rfl)) <| u (asg (.t rfl)) <| .nil _) (by kernel_rfl) rfl ?_
    obtain rfl := Option.some.inj h
    exact .rt Try.func43 (.t rfl <| .n) .n rfl rfl

theorem templ_within_1_c (n : Int) (cap0 : Int) (cap1 : Int) :
    AC Try.prog 99 [.ro (.int .i64 n), .rptr [.int .i64 cap0], .rptr [.int .i64 cap1]] (.ro (.bool (templ_within_1 n cap0 cap1))) [] := by
  obtain ⟨r, h⟩ : ∃ r, templ_within_1 n cap0 cap1 = r := ⟨_, rfl⟩
  rw [h]
  refine AC.of Try.func99 rfl rfl fun w M0 hM => ?_
  unfold templ_within_1 at h
  refine .sq ?_
  refine .rg (u (asg .b) <| .nil _) rfl ?_
  refine .sq ?_
  refine .rg (u (mv (.t rfl)) <| u (lr tf3 (.t rfl) rfl) <| u (bc (.t rfl) (.t rfl) rfl rfl) <| u (mv (.t rfl)) <| gd rfl rfl (fun hB => mv (.t rfl)) <| gd rfl rfl (fun hB => lr tf3 (.t rfl) rfl) <| gd rfl rfl (fun hB => bc (.m rfl hB) (.m rfl hB) rfl rfl) <| u (pko (.t rfl) (.t rfl)) <| u (asg (.t rfl)) <| .nil _) rfl ?_
  subst h
  exact .rt Try.func99 (.t rfl <| .n) .n rfl rfl

theorem slices_IndexFunc_int_c {z : Option Nat} {p_s : List Int} {f : (Int → Option Bool)} {g_f : FuncId} {c_f : List V} (hF_f : CF Try.prog g_f) (h_f : ∀ (a0 : Int) (q : Bool), f a0 = some q → AC Try.prog g_f ([.ro (.int .i64 a0)] ++ c_f) (.ro (.bool q)) []) {r : Int} (h : slices_IndexFunc_int z p_s f = some r) :
    AC Try.prog 113 [.ro (.list 1 (List.map (ei .i64) p_s)), .fn (.func g_f) [] c_f] (.ro (.int .i64 r)) [] := by
  refine AC.of Try.func113 rfl rfl fun w M0 hM => ?_
  unfold slices_IndexFunc_int at h
  refine .sq ?_
  refine .rg (u (asg (.i rfl)) <| .nil _) rfl ?_
  refine .sq ?_
  refine .sq ?_
  refine .rg (u (mv (.t rfl)) <| u (lnm sf22 (.t rfl)) <| u (mv (.i rfl)) <| .nil _) rfl ?_
  refine .bl ?_
  unfold slices_IndexFunc_int_l1 at h
  refine .kq (.lo (fun (s : Int) => ⟨[(0, .ro (.list 1 (List.map (ei .i64) p_s))), (1, .fn (.func g_f) [] c_f), (7, .ro (.int .i64 (p_s.length : Int))), (8, .ro (.int .i64 s))], []⟩) h ?_) (.c rfl (.c rfl (.c rfl (.c rfl .n)))) .n
  intro v1 u1 h ih1 hx1
  replace h : slices_IndexFunc_int_s1 z p_s f v1 = _ := h
  unfold slices_IndexFunc_int_s1 at h
  refine .sq ?_
  refine .rg (u (bc (.t rfl) (.t rfl) rfl rfl) <| .nil _) rfl ?_
  refine .sq ?_
  refine .bq h (.t rfl) (fun h => ?_) (fun h => ?_)
  · refine .skp ?_
    refine .sq ?_
    refine .bl ?_
    refine .sq ?_
    refine .rg (u (mv (.t rfl)) <| u (asg (.t rfl)) <| .nil _) rfl ?_
    refine .sq ?_
    refine be h fun x2 hx2 h => ?_
    refine be h fun x3 hx3 h => ?_
    refine .rg (u (mv (.t rfl)) <| u (mv (.t rfl)) <| u (mv (.t rfl)) <| u (ia sf22 (.t rfl) (.t rfl) (ix_map (ei .i64) hx2)) <| u (lr tf3 (.t rfl) rfl) <| clv [] hF_f (.t rfl) (h_f _ _ hx3) (.c (.t rfl) <| .n) (.inl rfl) <| .nil _) rfl ?_
    refine .bq h (.t rfl) (fun h => ?_) (fun h => ?_)
    · refine .sq ?_
      refine .rg (u (mv (.t rfl)) <| u (asg (.t rfl)) <| .nil _) rfl ?_
      replace h := mpR h hx1
      obtain rfl := Option.some.inj h
      exact .rt Try.func113 (.t rfl <| .n) .n rfl rfl
    · refine .skp ?_
      refine .ib ?_
      refine .rg (u (bi (.t rfl) (.i rfl) rfl) <| u (mv (.t rfl)) <| .nil _) rfl ?_
      exact .kq (.il (ih1 (ar .add .i64 v1 1) (nxi h))) (.c rfl (.c rfl (.c rfl (.c rfl .n)))) .n
  · refine .xt rfl ?_
    replace h := mpR h hx1
    refine .sq ?_
    refine .rg (u (asg (.i rfl)) <| .nil _) rfl ?_
    obtain rfl := Option.some.inj h
    exact .rt Try.func113 (.t rfl <| .n) .n rfl rfl

theorem slices_ContainsFunc_int_c {z : Option Nat} {p_s : List Int} {f : (Int → Option Bool)} {g_f : FuncId} {c_f : List V} (hF_f : CF Try.prog g_f) (h_f : ∀ (a0 : Int) (q : Bool), f a0 = some q → AC Try.prog g_f ([.ro (.int .i64 a0)] ++ c_f) (.ro (.bool q)) []) {r : Bool} (h : slices_ContainsFunc_int z p_s f = some r) :
    AC Try.prog 98 [.ro (.list 1 (List.map (ei .i64) p_s)), .fn (.func g_f) [] c_f] (.ro (.bool r)) [] := by
  refine AC.of Try.func98 rfl rfl fun w M0 hM => ?_
  unfold slices_ContainsFunc_int at h
  refine .sq ?_
  refine .rg (u (asg .b) <| .nil _) rfl ?_
  refine .sq ?_
  refine be h fun x1 hx1 h => ?_
  refine .rg (u (mv (.t rfl)) <| u (mv (.t rfl)) <| cl [] cf113 (slices_IndexFunc_int_c hF_f h_f hx1) (.c (.t rfl) <| .c (.t rfl) <| .n) (.inl rfl) <| u (bc (.t rfl) (.i rfl) rfl rfl) <| u (asg (.t rfl)) <| .nil _) rfl ?_
  obtain rfl := Option.some.inj h
  exact .rt Try.func98 (.t rfl <| .n) .n rfl rfl

theorem templ_within_c {z : Option Nat} {l : List Int} {least : Int} {most : Int} {r : Bool} (h : templ_within z l least most = some r) :
    AC Try.prog 54 [.ro (.list 1 (List.map (ei .i64) l)), .ro (.int .i64 least), .ro (.int .i64 most)] (.ro (.bool r)) [] := by
  refine AC.of Try.func54 rfl rfl fun w M0 hM => ?_
  unfold templ_within at h
  refine .sq ?_
  refine .rg (bx 4 (.t rfl) rfl rfl <| bx 5 (.t rfl) rfl rfl <| u (asg .b) <| .nil _) rfl ?_
  refine .fb 4 rfl rfl ?_
  refine .fb 5 rfl rfl ?_
  refine .sq ?_
  refine be h fun x1 hx1 h => ?_
  refine .rg (u (mv (.t rfl)) <| u (mfn (.c (.t rfl) <| .c (.t rfl) <| .n)) <| cl [] cf98 (slices_ContainsFunc_int_c cf99 (fun y0 q h => by obtain rfl := Option.some.inj h; exact templ_within_1_c y0 least most) hx1) (.c (.t rfl) <| .c (.t rfl) <| .n) (.inl rfl) <| u (no (.t rfl)) <| u (asg (.t rfl)) <| .nil _) rfl ?_
  obtain rfl := Option.some.inj h
  exact .rt Try.func54 (.t rfl <| .n) .n rfl rfl

theorem templ_protected_c {z : Option Nat} {p_s : Structure} {r : Bool} (h : templ_protected z p_s = some r) :
    AC Try.prog 55 [.ro (enc_Structure p_s)] (.ro (.bool r)) [] := by
  refine AC.of Try.func55 rfl rfl fun w M0 hM => ?_
  unfold templ_protected at h
  refine .sq ?_
  refine .rg (bx 1 (.t rfl) rfl rfl <| u (asg .b) <| .nil _) rfl ?_
  refine .sq ?_
  refine .sq ?_
  refine .rg (u (fa ff26_2 (.t rfl)) <| u (ld tf3 (.t rfl) rfl rfl) <| u (bc (.t rfl) (.i rfl) rfl rfl) <| .nil _) rfl ?_
  refine .bq h (.t rfl) (fun h => ?_) (fun h => ?_)
  · refine .sq ?_
    refine .rg (u (fa ff26_3 (.t rfl)) <| u (ld tf22 (.t rfl) rfl rfl) <| u (lnm sf22 (.t rfl)) <| u (bc (.t rfl) (.i rfl) rfl rfl) <| u (asg (.t rfl)) <| .nil _) rfl ?_
    obtain rfl := Option.some.inj h
    exact .rt Try.func55 (.t rfl <| .n) .n rfl rfl
  · refine .skp ?_
    refine .sq ?_
    refine be h fun x1 hx1 h => ?_
    refine .rg (u (fa ff26_3 (.t rfl)) <| u (ld tf22 (.t rfl) rfl rfl) <| u (lnm sf22 (.t rfl)) <| u (fa ff26_1 (.t rfl)) <| u (ld tf3 (.t rfl) rfl rfl) <| u (bc (.t rfl) (.t rfl) rfl rfl) <| u (mv (.t rfl)) <| gd rfl rfl (fun hB => fa ff26_3 (.t rfl)) <| gd rfl rfl (fun hB => ld tf22 (.m rfl hB) rfl rfl) <| gd rfl rfl (fun hB => fa ff26_2 (.t rfl)) <| gd rfl rfl (fun hB => ld tf3 (.m rfl hB) rfl rfl) <| gd rfl rfl (fun hB => bi (.m rfl hB) (.i rfl) rfl) <| cg rfl rfl cf54 (fun hB => (templ_within_c (gTt hx1 hB))) (fun hB => .c (.m rfl hB) <| .c (.i rfl) <| .c (.m rfl hB) <| .n) (.inl rfl) <| u (pka (.t rfl) (.t rfl)) <| u (asg (.t rfl)) <| .nil _) rfl ?_
    obtain rfl := Option.some.inj h
    exact .rt Try.func55 (.t rfl <| .n) .n rfl rfl

theorem templ_template_c {z : Option Nat} {p_s : Structure} {t : Template} {r : Bool} (h : templ_template z p_s t = some r) :
    AC Try.prog 56 [.ro (enc_Structure p_s), .ro (enc_Template t)] (.ro (.bool r)) [] := by
  refine AC.of Try.func56 rfl rfl fun w M0 hM => ?_
  unfold templ_template at h
  refine .sq ?_
  refine .rg (bx 2 (.t rfl) rfl rfl <| bx 3 (.t rfl) rfl rfl <| u (asg .b) <| .nil _) rfl ?_
  refine .sq ?_
  refine be h fun x1 hx1 h => ?_
  refine be h fun x2 hx2 h => ?_
  refine be h fun x3 hx3 h => ?_
  refine .rg (u (fa ff56_2 (.t rfl)) <| u (ld tf22 (.t rfl) rfl rfl) <| u (lnm sf22 (.t rfl)) <| u (fa ff26_1 (.t rfl)) <| u (ld tf3 (.t rfl) rfl rfl) <| u (bc (.t rfl) (.t rfl) rfl rfl) <| u (mv (.t rfl)) <| gd rfl rfl (fun hB => fa ff56_2 (.t rfl)) <| gd rfl rfl (fun hB => ld tf22 (.m rfl hB) rfl rfl) <| cg rfl rfl cf54 (fun hB => (templ_within_c (gTt hx1 hB))) (fun hB => .c (.m rfl hB) <| .c (.i rfl) <| .c (.i rfl) <| .n) (.inl rfl) <| u (pka (.t rfl) (.t rfl)) <| u (mv (.t rfl)) <| gd rfl rfl (fun hB => fa ff56_3 (.t rfl)) <| gd rfl rfl (fun hB => ld tf22 (.m rfl hB) rfl rfl) <| gd rfl rfl (fun hB => lnm sf22 (.m rfl hB)) <| gd rfl rfl (fun hB => bc (.m rfl hB) (.i rfl) rfl rfl) <| u (pka (.t rfl) (.t rfl)) <| u (mv (.t rfl)) <| gd rfl rfl (fun hB => fa ff56_3 (.t rfl)) <| gd rfl rfl (fun hB => ld tf22 (.m rfl hB) rfl rfl) <| cg rfl rfl cf54 (fun hB => (templ_within_c (gTt hx2 hB))) (fun hB => .c (.m rfl hB) <| .c (.i rfl) <| .c (.i rfl) <| .n) (.inl rfl) <| u (pka (.t rfl) (.t rfl)) <| u (mv (.t rfl)) <| gd rfl rfl (fun hB => fa ff56_4 (.t rfl)) <| gd rfl rfl (fun hB => ld tf22 (.m rfl hB) rfl rfl) <| gd rfl rfl (fun hB => lnm sf22 (.m rfl hB)) <| gd rfl rfl (fun hB => fa ff26_2 (.t rfl)) <| gd rfl rfl (fun hB => ld tf3 (.m rfl hB) rfl rfl) <| gd rfl rfl (fun hB => bc (.m rfl hB) (.m rfl hB) rfl rfl) <| u (pka (.t rfl) (.t rfl)) <| u (mv (.t rfl)) <| gd rfl rfl (fun hB => fa ff56_4 (.t rfl)) <| gd rfl rfl (fun hB => ld tf22 (.m rfl hB) rfl rfl) <| cg rfl rfl cf54 (fun hB => (templ_within_c (gTt hx3 hB))) (fun hB => .c (.m rfl hB) <| .c (.i rfl) <| .c (.i rfl) <| .n) (.inl rfl) <| u (pka (.t rfl) (.t rfl)) <| u (asg (.t rfl)) <| .nil _) rfl ?_
  obtain rfl := Option.some.inj h
  exact .rt Try.func56 (.t rfl <| .n) .n rfl rfl

theorem templ_follows_c (p_a : Template) (b : Template) :
    AC Try.prog 57 [.ro (enc_Template p_a), .ro (enc_Template b)] (.ro (.int .i64 (templ_follows p_a b))) [] := by
  obtain ⟨r, h⟩ : ∃ r, templ_follows p_a b = r := ⟨_, rfl⟩
  rw [h]
  refine AC.of Try.func57 rfl rfl fun w M0 hM => ?_
  unfold templ_follows at h
  refine .sq ?_
  refine .rg (bx 2 (.t rfl) rfl rfl <| bx 3 (.t rfl) rfl rfl <| u (asg (.i rfl)) <| .nil _) rfl ?_
  refine .sq ?_
  refine .bl ?_
  refine .sq ?_
  refine .rg (u (fa ff56_0 (.t rfl)) <| u (ld tf3 (.t rfl) rfl rfl) <| u (fa ff56_0 (.t rfl)) <| u (ld tf3 (.t rfl) rfl rfl) <| u (bc (.t rfl) (.t rfl) rfl rfl) <| u (mv (.t rfl)) <| gd rfl rfl (fun hB => fa ff56_1 (.t rfl)) <| gd rfl rfl (fun hB => ld tf3 (.m rfl hB) rfl rfl) <| gd rfl rfl (fun hB => fa ff56_1 (.t rfl)) <| gd rfl rfl (fun hB => ld tf3 (.m rfl hB) rfl rfl) <| gd rfl rfl (fun hB => bc (.m rfl hB) (.m rfl hB) rfl rfl) <| u (pka (.t rfl) (.t rfl)) <| u (asg (.t rfl)) <| .nil _) rfl ?_
  refine .bq h (.t rfl) (fun h => ?_) (fun h => ?_)
  · refine .sq ?_
    refine .rg (u (asg (.i rfl)) <| .nil _) rfl ?_
    subst h
    exact .rt Try.func57 (.t rfl <| .n) .n rfl rfl
  · refine .sq ?_
    refine .rg (u (fa ff56_0 (.t rfl)) <| u (ld tf3 (.t rfl) rfl rfl) <| u (fa ff56_0 (.t rfl)) <| u (ld tf3 (.t rfl) rfl rfl) <| u (bc (.t rfl) (.t rfl) rfl rfl) <| u (mv (.t rfl)) <| gd rfl rfl (fun hB => fa ff56_1 (.t rfl)) <| gd rfl rfl (fun hB => ld tf3 (.m rfl hB) rfl rfl) <| gd rfl rfl (fun hB => bi (.m rfl hB) (.i rfl) rfl) <| gd rfl rfl (fun hB => fa ff56_1 (.t rfl)) <| gd rfl rfl (fun hB => ld tf3 (.m rfl hB) rfl rfl) <| gd rfl rfl (fun hB => bc (.m rfl hB) (.m rfl hB) rfl rfl) <| u (pka (.t rfl) (.t rfl)) <| u (mv (.t rfl)) <| gd rfl rfl (fun hB => fa ff56_1 (.t rfl)) <| gd rfl rfl (fun hB => ld tf3 (.m rfl hB) rfl rfl) <| gd rfl rfl (fun hB => bc (.m rfl hB) (.i rfl) rfl rfl) <| u (pka (.t rfl) (.t rfl)) <| u (asg (.t rfl)) <| .nil _) rfl ?_
    refine .bq h (.t rfl) (fun h => ?_) (fun h => ?_)
    · refine .sq ?_
      refine .rg (u (asg (.i rfl)) <| .nil _) rfl ?_
      subst h
      exact .rt Try.func57 (.t rfl <| .n) .n rfl rfl
    · refine .sq ?_
      refine .rg (u (fa ff56_0 (.t rfl)) <| u (ld tf3 (.t rfl) rfl rfl) <| u (bi (.t rfl) (.i rfl) rfl) <| u (fa ff56_0 (.t rfl)) <| u (ld tf3 (.t rfl) rfl rfl) <| u (bc (.t rfl) (.t rfl) rfl rfl) <| u (mv (.t rfl)) <| gd rfl rfl (fun hB => fa ff56_0 (.t rfl)) <| gd rfl rfl (fun hB => ld tf3 (.m rfl hB) rfl rfl) <| gd rfl rfl (fun hB => bc (.m rfl hB) (.i rfl) rfl rfl) <| u (pka (.t rfl) (.t rfl)) <| u (mv (.t rfl)) <| gd rfl rfl (fun hB => fa ff56_1 (.t rfl)) <| gd rfl rfl (fun hB => ld tf3 (.m rfl hB) rfl rfl) <| gd rfl rfl (fun hB => bc (.m rfl hB) (.i rfl) rfl rfl) <| u (pka (.t rfl) (.t rfl)) <| u (asg (.t rfl)) <| .nil _) rfl ?_
      refine .bq h (.t rfl) (fun h => ?_) (fun h => ?_)
      · refine .sq ?_
        refine .rg (u (asg (.i rfl)) <| .nil _) rfl ?_
        subst h
        exact .rt Try.func57 (.t rfl <| .n) .n rfl rfl
      · refine .skp ?_
        refine .ib ?_
        refine .sq ?_
        refine .rg (u (asg (.i rfl)) <| .nil _) rfl ?_
        subst h
        exact .rt Try.func57 (.t rfl <| .n) .n rfl rfl

theorem templ_Right_c {z : Option Nat} {p_s : Structure} {r : Bool} (h : templ_Right z p_s = some r) :
    AC Try.prog 20 [.ro (enc_Structure p_s)] (.ro (.bool r)) [] := by
  refine AC.of Try.func20 rfl rfl fun w M0 hM => ?_
  unfold templ_Right at h
  refine .sq ?_
  refine .rg (bx 1 (.t rfl) rfl rfl <| u (asg .b) <| .nil _) rfl ?_
  refine .sq ?_
  refine be h fun x1 hx1 h => ?_
  refine be h fun x2 hx2 h => ?_
  refine be h fun x3 hx3 h => ?_
  refine .rg (u (fa ff26_0 (.t rfl)) <| u (ld tf3 (.t rfl) rfl rfl) <| bs (F := (ei .i64)) (l := [p_s.id_]) 12 pf22 (.c (.t rfl) rfl <| .n) rfl (fun _ _ => rfl) rfl rfl <| cl [] cf54 (templ_within_c hx1) (.b (.t rfl) rfl <| .c (.i rfl) <| .c (.i rfl) <| .n) (.inr rfl) <| u (mv (.t rfl)) <| gd rfl rfl (fun hB => fa ff26_1 (.t rfl)) <| gd rfl rfl (fun hB => ld tf3 (.m rfl hB) rfl rfl) <| ngd rfl rfl (fun hB => bsn (F := (ei .i64)) (l := [p_s.targets]) pf22 (.c (.m rfl hB) rfl <| .n) rfl (fun _ _ => rfl) rfl) <| cg rfl rfl cf54 (fun hB => (templ_within_c (gTt hx2 hB))) (fun hB => .c (.m rfl hB) <| .c (.i rfl) <| .c (.i rfl) <| .n) (.inl rfl) <| u (pka (.t rfl) (.t rfl)) <| u (mv (.t rfl)) <| gd rfl rfl (fun hB => fa ff26_2 (.t rfl)) <| gd rfl rfl (fun hB => ld tf3 (.m rfl hB) rfl rfl) <| ngd rfl rfl (fun hB => bsn (F := (ei .i64)) (l := [p_s.chains]) pf22 (.c (.m rfl hB) rfl <| .n) rfl (fun _ _ => rfl) rfl) <| gd rfl rfl (fun hB => fa ff26_1 (.t rfl)) <| gd rfl rfl (fun hB => ld tf3 (.m rfl hB) rfl rfl) <| cg rfl rfl cf54 (fun hB => (templ_within_c (gTt hx3 hB))) (fun hB => .c (.m rfl hB) <| .c (.i rfl) <| .c (.m rfl hB) <| .n) (.inl rfl) <| u (pka (.t rfl) (.t rfl)) <| u (asg (.t rfl)) <| .nil _) rfl ?_
  refine .sq ?_
  refine .sq ?_
  refine .rg (u (fa ff26_4 (.t rfl)) <| u (ld tf23 (.t rfl) rfl rfl) <| u (lnm sf23 (.t rfl)) <| u (asg (.t rfl)) <| .nil _) rfl ?_
  refine .sq ?_
  refine be h fun x4 hx4 h => ?_
  refine .rg (u (mv (.t rfl)) <| u (no (.t rfl)) <| u (mv (.t rfl)) <| gd rfl rfl (fun hB => ld tf26 (.t rfl) rfl rfl) <| cg rfl rfl cf55 (fun hB => (templ_protected_c (gTt hx4 (nt hB)))) (fun hB => .c (.m rfl hB) <| .n) (.inl rfl) <| gd rfl rfl (fun hB => no (.m rfl hB)) <| u (pko (.t rfl) (.t rfl)) <| u (mv (.t rfl)) <| gd rfl rfl (fun hB => mv (.t rfl)) <| gd rfl rfl (fun hB => bc (.m rfl hB) (.i rfl) rfl rfl) <| u (pko (.t rfl) (.t rfl)) <| u (mv (.t rfl)) <| gd rfl rfl (fun hB => mv (.t rfl)) <| gd rfl rfl (fun hB => bc (.m rfl hB) (.i rfl) rfl rfl) <| u (pko (.t rfl) (.t rfl)) <| .nil _) rfl ?_
  refine .bq h (.t rfl) (fun h => ?_) (fun h => ?_)
  · refine .sq ?_
    refine .rg (u (asg .b) <| .nil _) rfl ?_
    obtain rfl := Option.some.inj h
    exact .rt Try.func20 (.t rfl <| .n) .n rfl rfl
  · refine .skp ?_
    refine .sq ?_
    refine .rg (u (bd bf56 zf56 (.n) rfl) <| al 5 zf56 rfl <| st tf56 (.t rfl) rfl (.t rfl) rfl rfl rfl <| .nil _) rfl ?_
    refine .sq ?_
    refine .sq ?_
    refine .rg (u (fa ff26_4 (.t rfl)) <| u (ld tf23 (.t rfl) rfl rfl) <| u (lnm sf23 (.t rfl)) <| u (mv (.i rfl)) <| .nil _) rfl ?_
    refine .bl ?_
    unfold templ_Right_l1 at h
    refine .kq (.lo (fun (s : Int × Structure × Template) => ⟨[(1, .ptr 1 0), (5, .ptr 5 0), (48, .ro (.list 5 (List.map cells_Template p_s.templates))), (49, .ro (.int .i64 (p_s.templates.length : Int))), (50, .ro (.int .i64 s.1))], [(1, some (.box [.ro (.int .i64 s.2.1.id_), .ro (.int .i64 s.2.1.targets), .ro (.int .i64 s.2.1.chains), .ro (.list 1 (List.map (ei .i64) s.2.1.protect)), .ro (.list 5 (List.map cells_Template s.2.1.templates)), .ro (.list 2 (List.map cells_Size s.2.1.sizes))])), (5, some (.box [.ro (.int .i64 s.2.2.sid), .ro (.int .i64 s.2.2.tid), .ro (.list 1 (List.map (ei .i64) s.2.2.marks)), .ro (.list 1 (List.map (ei .i64) s.2.2.diffs)), .ro (.list 1 (List.map (ei .i64) s.2.2.chains))]))]⟩) h ?_) (.c rfl (.c rfl (.c rfl (.c rfl (.c rfl .n))))) (.c rfl (.c rfl .n))
    rintro ⟨v5, v6, v7⟩ u1 h ih1 hx1
    replace h : templ_Right_s1 z p_s v5 v6 v7 = _ := h
    unfold templ_Right_s1 at h
    refine .sq ?_
    refine .rg (u (bc (.t rfl) (.t rfl) rfl rfl) <| .nil _) rfl ?_
    refine .sq ?_
    refine .bq h (.t rfl) (fun h => ?_) (fun h => ?_)
    · refine .skp ?_
      refine .sq ?_
      refine .bl ?_
      refine .sq ?_
      refine be h fun x8 hx8 h => ?_
      refine .rg (u (mv (.t rfl)) <| u (ia sf23 (.t rfl) (.t rfl) (ix_map cells_Template hx8)) <| u (lr tf56 (.t rfl) rfl) <| al 7 zf56 rfl <| u (asg (.t rfl)) <| st tf56 (.t rfl) rfl (.t rfl) rfl rfl rfl <| .nil _) rfl ?_
      refine .sq ?_
      refine .sq ?_
      refine be h fun x9 hx9 h => ?_
      refine .rg (u (ld tf26 (.t rfl) rfl rfl) <| u (ld tf56 (.t rfl) rfl rfl) <| cl [] cf56 (templ_template_c hx9) (.c (.t rfl) <| .c (.t rfl) <| .n) (.inl rfl) <| u (no (.t rfl)) <| u (mv (.t rfl)) <| gd rfl rfl (fun hB => ld tf56 (.t rfl) rfl rfl) <| gd rfl rfl (fun hB => ld tf56 (.t rfl) rfl rfl) <| cg rfl rfl cf57 (fun hB => (templ_follows_c v7 x8)) (fun hB => .c (.m rfl hB) <| .c (.m rfl hB) <| .n) (.inl rfl) <| gd rfl rfl (fun hB => bc (.m rfl hB) (.i rfl) rfl rfl) <| u (pko (.t rfl) (.t rfl)) <| u (mv (.t rfl)) <| gd rfl rfl (fun hB => mv (.t rfl)) <| gd rfl rfl (fun hB => bc (.m rfl hB) (.i rfl) rfl rfl) <| gd rfl rfl (fun hB => mv (.m rfl hB)) <| gm rfl rfl (fun hB => ld tf56 (.t rfl) rfl rfl) <| gm rfl rfl (fun hB => ld tf56 (.t rfl) rfl rfl) <| cgm rfl rfl cf57 (fun hB => (templ_follows_c v7 x8)) (fun hB => .c (.m rfl hB) <| .c (.m rfl hB) <| .n) (.inl rfl) <| gm rfl rfl (fun hB => bc (.m rfl hB) (.i rfl) rfl rfl) <| gd rfl rfl (fun hB => pkam (.m rfl hB) (.t rfl) hB) <| u (pko (.t rfl) (.t rfl)) <| .nil _) rfl ?_
      refine .bq h (.t rfl) (fun h => ?_) (fun h => ?_)
      · refine .sq ?_
        refine .rg (u (asg .b) <| .nil _) rfl ?_
        replace h := mpR h hx1
        obtain rfl := Option.some.inj h
        exact .rt Try.func20 (.t rfl <| .n) .n rfl rfl
      · refine .skp ?_
        refine .rg (u (ld tf56 (.t rfl) rfl rfl) <| st tf56 (.t rfl) rfl (.t rfl) rfl rfl rfl <| .nil _) rfl ?_
        refine .ib ?_
        refine .rg (u (bi (.t rfl) (.i rfl) rfl) <| u (mv (.t rfl)) <| .nil _) rfl ?_
        exact .kq (.il (ih1 ((ar .add .i64 v5 1), v6, x8) (nxi h))) (.c rfl (.c rfl (.c rfl (.c rfl (.c rfl .n))))) (.c rfl (.c rfl .n))
    · refine .xt rfl ?_
      replace h := mpR h hx1
      refine .sq ?_
      refine .sq ?_
      refine .rg (u (fa ff26_5 (.t rfl)) <| u (ld tf24 (.t rfl) rfl rfl) <| u (lnm sf24 (.t rfl)) <| u (mv (.i rfl)) <| .nil _) rfl ?_
      refine .bl ?_
      unfold templ_Right_l2 at h
      refine .kq (.lo (fun (s : Int) => ⟨[(1, .ptr 1 0), (5, .ptr 5 0), (78, .ro (.list 2 (List.map cells_Size v6.sizes))), (79, .ro (.int .i64 (v6.sizes.length : Int))), (80, .ro (.int .i64 s))], [(1, some (.box [.ro (.int .i64 v6.id_), .ro (.int .i64 v6.targets), .ro (.int .i64 v6.chains), .ro (.list 1 (List.map (ei .i64) v6.protect)), .ro (.list 5 (List.map cells_Template v6.templates)), .ro (.list 2 (List.map cells_Size v6.sizes))])), (5, some (.box [.ro (.int .i64 v7.sid), .ro (.int .i64 v7.tid), .ro (.list 1 (List.map (ei .i64) v7.marks)), .ro (.list 1 (List.map (ei .i64) v7.diffs)), .ro (.list 1 (List.map (ei .i64) v7.chains))]))]⟩) h ?_) (.c rfl (.c rfl (.c rfl (.c rfl (.c rfl .n))))) (.c rfl (.c rfl .n))
      intro v10 u2 h ih2 hx2
      replace h : templ_Right_s2 z v6 v7 v10 = _ := h
      unfold templ_Right_s2 at h
      refine .sq ?_
      refine .rg (u (bc (.t rfl) (.t rfl) rfl rfl) <| .nil _) rfl ?_
      refine .sq ?_
      refine .bq h (.t rfl) (fun h => ?_) (fun h => ?_)
      · refine .skp ?_
        refine .sq ?_
        refine .bl ?_
        refine .sq ?_
        refine be h fun x11 hx11 h => ?_
        refine .rg (u (ia sf24 (.t rfl) (.t rfl) (ix_map cells_Size hx11)) <| u (lr tf83 (.t rfl) rfl) <| al 9 zf83 rfl <| st tf83 (.t rfl) rfl (.t rfl) rfl rfl rfl <| .nil _) rfl ?_
        refine .sq ?_
        refine be h fun x12 hx12 h => ?_
        refine .rg (u (fa ff83_0 (.t rfl)) <| u (ld tf3 (.t rfl) rfl rfl) <| u (fa ff83_1 (.t rfl)) <| u (ld tf3 (.t rfl) rfl rfl) <| bs (F := (ei .i64)) (l := [x11.wide, x11.high]) 88 pf22 (.c (.t rfl) rfl <| .c (.t rfl) rfl <| .n) rfl (fun _ _ => rfl) rfl rfl <| cl [] cf54 (templ_within_c hx12) (.b (.t rfl) rfl <| .c (.i rfl) <| .c (.i rfl) <| .n) (.inr rfl) <| u (no (.t rfl)) <| .nil _) rfl ?_
        refine .bq h (.t rfl) (fun h => ?_) (fun h => ?_)
        · refine .sq ?_
          refine .rg (u (asg .b) <| .nil _) rfl ?_
          replace h := mpR h hx2
          obtain rfl := Option.some.inj h
          exact .rt Try.func20 (.t rfl <| .n) .n rfl rfl
        · refine .skp ?_
          refine .ib ?_
          refine .rg (u (bi (.t rfl) (.i rfl) rfl) <| u (mv (.t rfl)) <| .nil _) rfl ?_
          exact .kq (.il (ih2 (ar .add .i64 v10 1) (nxi h))) (.c rfl (.c rfl (.c rfl (.c rfl (.c rfl .n))))) (.c rfl (.c rfl .n))
      · refine .xt rfl ?_
        replace h := mpR h hx2
        refine .sq ?_
        refine .rg (u (fa ff26_5 (.t rfl)) <| u (ld tf24 (.t rfl) rfl rfl) <| u (lnm sf24 (.t rfl)) <| u (bc (.t rfl) (.i rfl) rfl rfl) <| u (mv (.t rfl)) <| gd rfl rfl (fun hB => fa ff26_5 (.t rfl)) <| gd rfl rfl (fun hB => ld tf24 (.m rfl hB) rfl rfl) <| gd rfl rfl (fun hB => lnm sf24 (.m rfl hB)) <| gd rfl rfl (fun hB => fa ff56_0 (.t rfl)) <| gd rfl rfl (fun hB => ld tf3 (.m rfl hB) rfl rfl) <| gd rfl rfl (fun hB => bi (.m rfl hB) (.i rfl) rfl) <| gd rfl rfl (fun hB => bc (.m rfl hB) (.m rfl hB) rfl rfl) <| u (pko (.t rfl) (.t rfl)) <| u (asg (.t rfl)) <| .nil _) rfl ?_
        obtain rfl := Option.some.inj h
        exact .rt Try.func20 (.t rfl <| .n) .n rfl rfl

theorem math_bits_Len64_c {x : Int} {r : Int} (h : math_bits_Len64 x = some r) :
    AC Try.prog 63 [.ro (.int .u64 x)] (.ro (.int .i64 r)) [] := by
  refine AC.of Try.func63 rfl rfl fun w M0 hM => ?_
  unfold math_bits_Len64 at h
  refine .sq ?_
  refine .rg (u (asg (.i rfl)) <| .nil _) rfl ?_
  refine .sq ?_
  refine .sq ?_
  refine .rg (u (mv (.t rfl)) <| u (bc (.t rfl) (.i rfl) rfl rfl) <| .nil _) rfl ?_
  refine .jq (t := some r) (fun (a : Int × Int) => ⟨[(0, .ro (.int .u64 a.1)), (2, .ro (.int .i64 a.2))], []⟩) (fun (a : Int × Int) => math_bits_Len64_j1 a.1 a.2) ?_ (fun J1 => ?_)
  · rintro ⟨v1, v2⟩ h
    replace h : math_bits_Len64_j1 v1 v2 = _ := h
    unfold math_bits_Len64_j1 at h
    refine .sq ?_
    refine .sq ?_
    refine .rg (u (mv (.t rfl)) <| u (bc (.t rfl) (.i rfl) rfl rfl) <| .nil _) rfl ?_
    refine .jq (t := some r) (fun (a : Int × Int) => ⟨[(0, .ro (.int .u64 a.1)), (2, .ro (.int .i64 a.2))], []⟩) (fun (a : Int × Int) => math_bits_Len64_j2 a.1 a.2) ?_ (fun J2 => ?_)
    · rintro ⟨v3, v4⟩ h
      replace h : math_bits_Len64_j2 v3 v4 = _ := h
      unfold math_bits_Len64_j2 at h
      refine .sq ?_
      refine .sq ?_
      refine .rg (u (mv (.t rfl)) <| u (bc (.t rfl) (.i rfl) rfl rfl) <| .nil _) rfl ?_
      refine .jq (t := some r) (fun (a : Int × Int) => ⟨[(0, .ro (.int .u64 a.1)), (2, .ro (.int .i64 a.2))], []⟩) (fun (a : Int × Int) => math_bits_Len64_j3 a.1 a.2) ?_ (fun J3 => ?_)
      · rintro ⟨v5, v6⟩ h
        replace h : math_bits_Len64_j3 v5 v6 = _ := h
        unfold math_bits_Len64_j3 at h
        refine .sq ?_
        refine be h fun x7 hx7 h => ?_
        refine .rg (u (mv (.t rfl)) <| u (mv (.t rfl)) <| u (cv cv50_5 (.t rfl)) <| u (is us9 (.s rfl) (.t rfl) hx7) <| u (cv cv5_3 (.t rfl)) <| u (bi (.t rfl) (.t rfl) rfl) <| u (asg (.t rfl)) <| .nil _) rfl ?_
        obtain rfl := Option.some.inj h
        exact .rt Try.func63 (.t rfl <| .n) .n rfl rfl
      refine .bq h (.t rfl) (fun h => ?_) (fun h => ?_)
      · refine .sq ?_
        refine .rg (u (mv (.t rfl)) <| u (sh (.t rfl) (.i rfl) rfl (by decide)) <| u (asg (.t rfl)) <| .nil _) rfl ?_
        refine .rg (u (mv (.t rfl)) <| u (bi (.t rfl) (.i rfl) rfl) <| u (asg (.t rfl)) <| .nil _) rfl ?_
        exact .kq (J3 ((sf .shr .u64 v3 8), (ar .add .i64 v4 8)) h) (.c rfl (.c rfl .n)) .n
      · refine .skp ?_
        exact .kq (J3 (v3, v4) h) (.c rfl (.c rfl .n)) .n
    refine .bq h (.t rfl) (fun h => ?_) (fun h => ?_)
    · refine .sq ?_
      refine .rg (u (mv (.t rfl)) <| u (sh (.t rfl) (.i rfl) rfl (by decide)) <| u (asg (.t rfl)) <| .nil _) rfl ?_
      refine .rg (u (mv (.t rfl)) <| u (bi (.t rfl) (.i rfl) rfl) <| u (asg (.t rfl)) <| .nil _) rfl ?_
      exact .kq (J2 ((sf .shr .u64 v1 16), (ar .add .i64 v2 16)) h) (.c rfl (.c rfl .n)) .n
    · refine .skp ?_
      exact .kq (J2 (v1, v2) h) (.c rfl (.c rfl .n)) .n
  refine .bq h (.t rfl) (fun h => ?_) (fun h => ?_)
  · refine .sq ?_
    refine .rg (u (mv (.t rfl)) <| u (sh (.t rfl) (.i rfl) rfl (by decide)) <| u (asg (.t rfl)) <| .nil _) rfl ?_
    refine .rg (u (asg (.i rfl)) <| .nil _) rfl ?_
    exact .kq (J1 ((sf .shr .u64 x 32), 32) h) (.c rfl (.c rfl .n)) .n
  · refine .skp ?_
    exact .kq (J1 (x, 0) h) (.c rfl (.c rfl .n)) .n

theorem slices_Clone_c {l r : List Int} (h : slices_Clone l = some r) : AC Try.prog 64 [.ro (.list 1 (List.map e8 l))] (.own 0) [(0, .arr 5 1 (List.map e8 r))] := by
  unfold slices_Clone at h
  obtain rfl := app_nil h
  refine AC.of Try.func64 rfl rfl fun w M0 hM => ?_
  refine .sq ?_
  refine .rg (anm e8 0 5 1 rfl rfl <| .nil _) rfl ?_
  refine .sq ?_
  refine .sq ?_
  refine .nq rfl sf27 rfl rfl fun b hb => ?_
  refine .cd (.t rfl) (fun hh => ?_) (fun _ => ?_)
  · have hl := hb hh
    obtain rfl := List.map_eq_nil_iff.1 hl
    refine .sq ?_
    refine .rg (anm e8 10 5 1 rfl rfl <| .nil _) rfl ?_
    refine .ks (l := [(2, .own 0)]) (o := [(0, some (.arr 5 1 (List.map e8 [])))]) (fun i => bif Nat.beq i 0 then 10 else i) ?_ (.c rfl .n) (.c rfl .n) rfl
    exact .rt Try.func64 (.t rfl <| .n) (.c rfl .n) rfl rfl
  · refine .skp ?_
    refine .sq ?_
    refine .rg (bs (F := e8) (l := ([] : List Int)) 5 pf27 .n rfl (fun _ _ => rfl) rfl rfl <| u (mv (.t rfl)) <| ap 7 pf27 (.t rfl) rfl (.t rfl) h rfl <| u (asg (.t rfl)) <| .nil _) rfl ?_
    refine .ks (l := [(2, .own 0)]) (o := [(0, some (.arr 5 1 (List.map e8 l)))]) (fun i => bif Nat.beq i 0 then 7 else i) ?_ (.c rfl .n) (.c rfl .n) rfl
    exact .rt Try.func64 (.t rfl <| .n) (.c rfl .n) rfl rfl

theorem slices_Clone_r {l r : List Int} (h : slices_Clone l = some r) : AC Try.prog 64 [.ro (.list 1 (List.map e8 l))] (.ro (.list 1 (List.map e8 r))) [] := AC.fz (slices_Clone_c h) rfl

theorem bits_Add_c {z : Option Nat} {k : Ink} {v : Int} {n : Int} {r : Ink × Int} (h : bits_Add z k v n = some r) :
    AC Try.prog 24 [.ro (enc_Ink k), .ro (.int .u64 v), .ro (.int .i64 n)] (.ro (.tup [enc_Ink r.1, .int .i64 r.2])) [] := by
  refine AC.of Try.func24 rfl rfl fun w M0 hM => ?_
  unfold bits_Add at h
  refine .sq ?_
  refine .rg (bx 3 (.t rfl) rfl rfl <| al 6 zf29 rfl <| u (asg (.i rfl)) <| .nil _) rfl ?_
  refine .sq ?_
  refine .bl ?_
  refine .sq ?_
  refine .sq ?_
  refine be h fun x1 hx1 h => ?_
  refine .rg (u (ld tf29 (.t rfl) rfl rfl) <| cl [] cf43 (bits_Right_c hx1) (.c (.t rfl) <| .n) (.inl rfl) <| u (no (.t rfl)) <| u (asg (.t rfl)) <| .nil _) rfl ?_
  refine .jq (t := some r) (fun (a : Bool) => ⟨[(1, .ro (.int .u64 v)), (2, .ro (.int .i64 n)), (3, .ptr 3 0), (6, .ptr 6 0), (11, .ro (.bool a))], [(3, some (.box [.ro (.list 1 (List.map e8 k.bytes)), .ro (.int .i64 k.many)])), (6, some (.box [.ro (.list 1 (List.map e8 [])), .ro (.int .i64 0)]))]⟩) (fun (a : Bool) => bits_Add_j1 z k v n a) ?_ (fun J1 => ?_)
  · intro v2 h
    replace h : bits_Add_j1 z k v n v2 = _ := h
    unfold bits_Add_j1 at h
    refine .bq h (.t rfl) (fun h => ?_) (fun h => ?_)
    · refine .sq ?_
      refine .rg (u (ld tf29 (.t rfl) rfl rfl) <| st tf29 (.t rfl) rfl (.t rfl) rfl rfl rfl <| u (asg (.i rfl)) <| .nil _) rfl ?_
      obtain rfl := Option.some.inj h
      exact .rt Try.func24 (.c tf29 rfl rfl rfl <| .t rfl <| .n) .n rfl rfl
    · refine .sq ?_
      refine be h fun x3 hx3 h => ?_
      refine .rg (u (mv (.t rfl)) <| cl [] cf63 (math_bits_Len64_c hx3) (.c (.t rfl) <| .n) (.inl rfl) <| u (mv (.t rfl)) <| u (bc (.t rfl) (.t rfl) rfl rfl) <| u (asg (.t rfl)) <| .nil _) rfl ?_
      refine .bq h (.t rfl) (fun h => ?_) (fun h => ?_)
      · refine .sq ?_
        refine .rg (u (ld tf29 (.t rfl) rfl rfl) <| st tf29 (.t rfl) rfl (.t rfl) rfl rfl rfl <| u (asg (.i rfl)) <| .nil _) rfl ?_
        obtain rfl := Option.some.inj h
        exact .rt Try.func24 (.c tf29 rfl rfl rfl <| .t rfl <| .n) .n rfl rfl
      · refine .skp ?_
        refine .ib ?_
        refine .sq ?_
        refine be h fun x4 hx4 h => ?_
        refine .rg (u (fa ff29_0 (.t rfl)) <| u (ld tf27 (.t rfl) rfl rfl) <| cnl 28 cf64 (slices_Clone_c hx4) (.c (.t rfl) <| .n) rfl <| u (asg (.t rfl)) <| .nil _) rfl ?_
        refine .sq ?_
        refine .bl ?_
        unfold bits_Add_l2 at h
        refine .ks (fun i => bif Nat.beq i 8 then 28 else i) (.lo (fun (s : Int × List Int × Ink) => ⟨[(1, .ro (.int .u64 v)), (2, .ro (.int .i64 s.1)), (3, .ptr 3 0), (6, .ptr 6 0), (8, .own 8)], [(3, some (.box [.ro (.list 1 (List.map e8 s.2.2.bytes)), .ro (.int .i64 s.2.2.many)])), (6, some (.box [.ro (.list 1 (List.map e8 [])), .ro (.int .i64 0)])), (8, some (.arr 5 1 (List.map e8 s.2.1)))]⟩) h ?_) (.c rfl (.c rfl (.c rfl (.c rfl (.c rfl .n))))) (.c rfl (.c rfl (.c rfl .n))) rfl
        rintro ⟨v5, v6, v7⟩ u2 h ih2 hx2
        replace h : bits_Add_s2 z v v5 v6 v7 = _ := h
        unfold bits_Add_s2 at h
        refine .sq ?_
        refine .sq ?_
        refine .rg (u (mv (.t rfl)) <| u (bc (.t rfl) (.i rfl) rfl rfl) <| .nil _) rfl ?_
        refine .bq h (.t rfl) (fun h => ?_) (fun h => ?_)
        · refine .skp ?_
          refine .bl ?_
          refine .sq ?_
          refine .rg (u (mv (.t rfl)) <| u (lom sf27 (.t rfl) rfl) <| u (bi (.i rfl) (.t rfl) rfl) <| u (fa ff29_1 (.t rfl)) <| u (ld tf3 (.t rfl) rfl rfl) <| u (bi (.t rfl) (.t rfl) rfl) <| u (asg (.t rfl)) <| .nil _) rfl ?_
          refine .sq ?_
          refine .sq ?_
          refine .rg (u (mv (.t rfl)) <| u (bc (.t rfl) (.i rfl) rfl rfl) <| .nil _) rfl ?_
          refine .jq (t := some u2) (fun (a : List Int × Int) => ⟨[(1, .ro (.int .u64 v)), (2, .ro (.int .i64 v5)), (3, .ptr 3 0), (6, .ptr 6 0), (8, .own 8), (9, .ro (.int .i64 a.2))], [(3, some (.box [.ro (.list 1 (List.map e8 v7.bytes)), .ro (.int .i64 v7.many)])), (6, some (.box [.ro (.list 1 (List.map e8 [])), .ro (.int .i64 0)])), (8, some (.arr 5 1 (List.map e8 a.1)))]⟩) (fun (a : List Int × Int) => bits_Add_j3 z v v5 v7 a.1 a.2) ?_ (fun J3 => ?_)
          · rintro ⟨v8, v9⟩ h
            replace h : bits_Add_j3 z v v5 v7 v8 v9 = _ := h
            unfold bits_Add_j3 at h
            refine .sq ?_
            refine .rg (u (mv (.t rfl)) <| u (mv (.t rfl)) <| u (mn (.t rfl) (.t rfl)) <| u (asg (.t rfl)) <| .nil _) rfl ?_
            refine .sq ?_
            refine .rg (u (mv (.t rfl)) <| u (mv (.t rfl)) <| u (bi (.t rfl) (.t rfl) rfl) <| u (asg (.t rfl)) <| .nil _) rfl ?_
            refine .sq ?_
            refine be h fun x10 hx10 h => ?_
            refine be h fun x11 hx11 h => ?_
            refine be h fun x12 hx12 h => ?_
            refine be h fun x13 hx13 h => ?_
            refine be h fun x14 hx14 h => ?_
            refine .rd mixed (u (mv (.t rfl)) <| u (mv (.t rfl)) <| u (lom sf27 (.t rfl) rfl) <| u (bi (.t rfl) (.i rfl) rfl) <| u (io sf27 (.t rfl) rfl (.t rfl) (ix_map e8 hx10)) <| u (le tf5 (.t rfl) rfl (ix_lt (ix_map _ hx10)).2.2 rfl) <| u (mv (.t rfl)) <| u (mv (.t rfl)) <| u (sho (.t rfl) (.t rfl) rfl hx11) <| u (mv (.t rfl)) <| u (sho (.i rfl) (.t rfl) rfl hx12) <| u (bi (.t rfl) (.i rfl) rfl) <| u (bi (.t rfl) (.t rfl) rfl) <| u (cv cv50_5 (.t rfl)) <| u (mv (.t rfl)) <| u (mv (.t rfl)) <| u (bi (.t rfl) (.t rfl) rfl) <| u (sho (.t rfl) (.t rfl) rfl hx13) <| u (bi (.t rfl) (.t rfl) rfl) <| u (io sf27 (.t rfl) rfl (.t rfl) (ix_map e8 hx14)) <| se (q := (ar .or .u8 x10 x13)) tf5 (.t rfl) rfl (.t rfl) rfl rfl rfl (ixn hx14) <| .nil _) (by kernel_rfl) rfl ?_
            refine .rg (u (fa ff29_1 (.t rfl)) <| u (ld tf3 (.t rfl) rfl rfl) <| u (mv (.t rfl)) <| u (bi (.t rfl) (.t rfl) rfl) <| u (fa ff29_1 (.t rfl)) <| st tf3 (.t rfl) rfl (.t rfl) rfl rfl rfl <| .nil _) rfl ?_
            refine .ib ?_
            exact .kq (.il (ih2 ((ar .sub .i64 v5 (imin v9 v5)), (List.set v8 ((ar .sub .i64 (v8.length : Int) 1) : Int).toNat (ar .or .u8 x10 x13)), { v7 with many := (ar .add .i64 v7.many (imin v9 v5)) }) (nxi h))) (.c rfl (.c rfl (.c rfl (.c rfl (.c rfl .n))))) (.c rfl (.c rfl (.c rfl .n)))
          refine .bq h (.t rfl) (fun h => ?_) (fun h => ?_)
          · refine be h fun x15 hx15 h => ?_
            refine .rg (u (mv (.t rfl)) <| bs (F := e8) (l := [0]) 40 pf27 (.c (.i rfl) rfl <| .n) rfl (fun _ _ => rfl) rfl rfl <| apo 41 pf27 (.t rfl) rfl (.t rfl) rfl hx15 rfl <| u (asg (.t rfl)) <| u (asg (.i rfl)) <| .nil _) rfl ?_
            exact .ks (fun i => bif Nat.beq i 8 then 41 else i) (J3 (x15, 8) h) (.c rfl (.c rfl (.c rfl (.c rfl (.c rfl (.c rfl .n)))))) (.c rfl (.c rfl (.c rfl .n))) rfl
          · refine .skp ?_
            exact .kq (J3 (v6, (ar .sub .i64 (ar .mul .i64 8 (v6.length : Int)) v7.many)) h) (.c rfl (.c rfl (.c rfl (.c rfl (.c rfl (.c rfl .n)))))) (.c rfl (.c rfl (.c rfl .n)))
        · refine .xt rfl ?_
          replace h := mpR h hx2
          refine .sq ?_
          refine .rg (u (mv (.t rfl)) <| u (fa ff29_0 (.t rfl)) <| st tf27 (.t rfl) rfl (.t rfl) rfl rfl rfl <| .nil _) rfl ?_
          refine .sq ?_
          refine .rg (u (ld tf29 (.t rfl) rfl rfl) <| st tf29 (.t rfl) rfl (.t rfl) rfl rfl rfl <| u (asg (.i rfl)) <| .nil _) rfl ?_
          refine .fz 8 rfl ?_
          obtain rfl := Option.some.inj h
          exact .rt Try.func24 (.c tf29 rfl rfl rfl <| .t rfl <| .n) .n rfl rfl
  refine .bq h (.t rfl) (fun h => ?_) (fun h => ?_)
  · refine .skp ?_
    exact .kq (J1 (!x1) h) (.c rfl (.c rfl (.c rfl (.c rfl (.c rfl .n))))) (.c rfl (.c rfl .n))
  · refine .sq ?_
    refine .rg (u (mv (.t rfl)) <| u (bc (.t rfl) (.i rfl) rfl rfl) <| u (asg (.t rfl)) <| .nil _) rfl ?_
    refine .bq h (.t rfl) (fun h => ?_) (fun h => ?_)
    · refine .skp ?_
      exact .kq (J1 (cm .lss n 0) h) (.c rfl (.c rfl (.c rfl (.c rfl (.c rfl .n))))) (.c rfl (.c rfl .n))
    · refine .rg (u (mv (.t rfl)) <| u (bc (.t rfl) (.i rfl) rfl rfl) <| u (asg (.t rfl)) <| .nil _) rfl ?_
      exact .kq (J1 (cm .gtr n 64) h) (.c rfl (.c rfl (.c rfl (.c rfl (.c rfl .n))))) (.c rfl (.c rfl .n))

theorem bits_spread_c {n : Int} {r : Int × Int} (h : bits_spread n = some r) :
    AC Try.prog 119 [.ro (.int .u64 n)] (.ro (.tup [.int .i64 r.1, .int .u64 r.2])) [] := by
  refine AC.of Try.func119 rfl rfl fun w M0 hM => ?_
  unfold bits_spread at h
  refine .sq ?_
  refine .rg (u (asg (.i rfl)) <| u (asg (.i rfl)) <| .nil _) rfl ?_
  refine .sq ?_
  refine be h fun x1 hx1 h => ?_
  refine .rg (u (mv (.t rfl)) <| cl [] cf63 (math_bits_Len64_c hx1) (.c (.t rfl) <| .n) (.inl rfl) <| u (asg (.t rfl)) <| .nil _) rfl ?_
  refine .sq ?_
  refine be h fun x2 hx2 h => ?_
  refine .rd mixed (u (mv (.t rfl)) <| u (mv (.t rfl)) <| u (sho (.i rfl) (.t rfl) rfl hx2) <| u (mv (.t rfl)) <| u (bi (.t rfl) (.t rfl) rfl) <| u (asg (.t rfl)) <| u (asg (.t rfl)) <| .nil _) (by kernel_rfl) rfl ?_
  obtain rfl := Option.some.inj h
  exact .rt Try.func119 (.t rfl <| .t rfl <| .n) .n rfl rfl

theorem bits_AddRange_c {z : Option Nat} {k : Ink} {v : Int} {n : Int} {r : Ink × Int} (h : bits_AddRange z k v n = some r) :
    AC Try.prog 108 [.ro (enc_Ink k), .ro (.int .u64 v), .ro (.int .u64 n)] (.ro (.tup [enc_Ink r.1, .int .i64 r.2])) [] := by
  refine AC.of Try.func108 rfl rfl fun w M0 hM => ?_
  unfold bits_AddRange at h
  refine .sq ?_
  refine .rg (bx 3 (.t rfl) rfl rfl <| al 6 zf29 rfl <| u (asg (.i rfl)) <| .nil _) rfl ?_
  refine .sq ?_
  refine .bl ?_
  refine .sq ?_
  refine .sq ?_
  refine be h fun x1 hx1 h => ?_
  refine .rg (u (ld tf29 (.t rfl) rfl rfl) <| cl [] cf43 (bits_Right_c hx1) (.c (.t rfl) <| .n) (.inl rfl) <| u (no (.t rfl)) <| u (asg (.t rfl)) <| .nil _) rfl ?_
  refine .jq (t := some r) (fun (a : Bool) => ⟨[(1, .ro (.int .u64 v)), (2, .ro (.int .u64 n)), (3, .ptr 3 0), (6, .ptr 6 0), (10, .ro (.bool a))], [(3, some (.box [.ro (.list 1 (List.map e8 k.bytes)), .ro (.int .i64 k.many)])), (6, some (.box [.ro (.list 1 (List.map e8 [])), .ro (.int .i64 0)]))]⟩) (fun (a : Bool) => bits_AddRange_j1 z k v n a) ?_ (fun J1 => ?_)
  · intro v2 h
    replace h : bits_AddRange_j1 z k v n v2 = _ := h
    unfold bits_AddRange_j1 at h
    refine .bq h (.t rfl) (fun h => ?_) (fun h => ?_)
    · refine .sq ?_
      refine .rg (u (ld tf29 (.t rfl) rfl rfl) <| st tf29 (.t rfl) rfl (.t rfl) rfl rfl rfl <| u (asg (.i rfl)) <| .nil _) rfl ?_
      obtain rfl := Option.some.inj h
      exact .rt Try.func108 (.c tf29 rfl rfl rfl <| .t rfl <| .n) .n rfl rfl
    · refine .sq ?_
      refine .rg (u (mv (.t rfl)) <| u (mv (.t rfl)) <| u (bc (.t rfl) (.t rfl) rfl rfl) <| u (asg (.t rfl)) <| .nil _) rfl ?_
      refine .bq h (.t rfl) (fun h => ?_) (fun h => ?_)
      · refine .sq ?_
        refine .rg (u (ld tf29 (.t rfl) rfl rfl) <| st tf29 (.t rfl) rfl (.t rfl) rfl rfl rfl <| u (asg (.i rfl)) <| .nil _) rfl ?_
        obtain rfl := Option.some.inj h
        exact .rt Try.func108 (.c tf29 rfl rfl rfl <| .t rfl <| .n) .n rfl rfl
      · refine .skp ?_
        refine .ib ?_
        refine .sq ?_
        refine be h fun x3 hx3 h => ?_
        refine .rg (u (mv (.t rfl)) <| cl [] cf119 (bits_spread_c hx3) (.c (.t rfl) <| .n) (.inl rfl) <| u (mv (.t rfl)) <| u (ex (.t rfl) rfl rfl) <| u (ex (.t rfl) rfl rfl) <| u (asg (.t rfl)) <| u (asg (.t rfl)) <| .nil _) rfl ?_
        refine .sq ?_
        refine .sq ?_
        refine .rg (u (mv (.t rfl)) <| u (mv (.t rfl)) <| u (bc (.t rfl) (.t rfl) rfl rfl) <| .nil _) rfl ?_
        refine .bq h (.t rfl) (fun h => ?_) (fun h => ?_)
        · refine .sq ?_
          refine be h fun x4 hx4 h => ?_
          refine .rg (u (ld tf29 (.t rfl) rfl rfl) <| u (mv (.t rfl)) <| u (mv (.t rfl)) <| u (bi (.t rfl) (.i rfl) rfl) <| cl [] cf24 (bits_Add_c hx4) (.c (.t rfl) <| .c (.t rfl) <| .c (.t rfl) <| .n) (.inl rfl) <| u (ex (.t rfl) rfl rfl) <| u (ex (.t rfl) rfl rfl) <| st tf29 (.t rfl) rfl (.t rfl) rfl rfl rfl <| u (asg (.t rfl)) <| .nil _) rfl ?_
          obtain rfl := Option.some.inj h
          exact .rt Try.func108 (.c tf29 rfl rfl rfl <| .t rfl <| .n) .n rfl rfl
        · refine .skp ?_
          refine .sq ?_
          refine be h fun x5 hx5 h => ?_
          refine .rg (u (ld tf29 (.t rfl) rfl rfl) <| u (mv (.t rfl)) <| u (mv (.t rfl)) <| u (bi (.t rfl) (.t rfl) rfl) <| u (mv (.t rfl)) <| cl [] cf24 (bits_Add_c hx5) (.c (.t rfl) <| .c (.t rfl) <| .c (.t rfl) <| .n) (.inl rfl) <| u (ex (.t rfl) rfl rfl) <| u (ex (.t rfl) rfl rfl) <| st tf29 (.t rfl) rfl (.t rfl) rfl rfl rfl <| u (asg (.t rfl)) <| .nil _) rfl ?_
          obtain rfl := Option.some.inj h
          exact .rt Try.func108 (.c tf29 rfl rfl rfl <| .t rfl <| .n) .n rfl rfl
  refine .bq h (.t rfl) (fun h => ?_) (fun h => ?_)
  · refine .skp ?_
    exact .kq (J1 (!x1) h) (.c rfl (.c rfl (.c rfl (.c rfl (.c rfl .n))))) (.c rfl (.c rfl .n))
  · refine .sq ?_
    refine .rg (u (mv (.t rfl)) <| u (bc (.t rfl) (.i rfl) rfl rfl) <| u (asg (.t rfl)) <| .nil _) rfl ?_
    refine .bq h (.t rfl) (fun h => ?_) (fun h => ?_)
    · refine .skp ?_
      exact .kq (J1 (cm .lss n 1) h) (.c rfl (.c rfl (.c rfl (.c rfl (.c rfl .n))))) (.c rfl (.c rfl .n))
    · refine .rg (u (mv (.t rfl)) <| u (bc (.t rfl) (.i rfl) rfl rfl) <| u (asg (.t rfl)) <| .nil _) rfl ?_
      exact .kq (J1 (cm .gtr n 4294967296) h) (.c rfl (.c rfl (.c rfl (.c rfl (.c rfl .n))))) (.c rfl (.c rfl .n))

theorem templ_pen_num_y1_c {z : Option Nat} {n : Int} {width : Int} {box0 : templ_pen} {r : templ_pen} (h : templ_pen_num_y1 z n width box0 = some r) :
    AY Try.prog 44 [.ptr 9000 0, .ro (.int .i64 n), .ro (.int .i64 width)] [(9000, [.list 1 (List.map e8 box0.k.bytes), .int .i64 box0.k.many])] [0] (.ro (.tup [])) [] [(0, .ptr 9000 0)] [(9000, [.list 1 (List.map e8 r.k.bytes), .int .i64 r.k.many])] := by
  refine AY.of Try.func44 rfl rfl fun w X M0 hM pv => ?_
  refine .kq (l := [(0, .ptr 9000 0), (1, .ro (.int .i64 n)), (2, .ro (.int .i64 width))]) (o := [(9000, some (.box [.ro (.list 1 (List.map e8 box0.k.bytes)), .ro (.int .i64 box0.k.many)]))]) ?_ (.c rfl (.c rfl (.c rfl .n))) (.c rfl .n)
  unfold templ_pen_num_y1 at h
  refine be h fun x1 hx1 h => ?_
  refine .rg (u (mv (.t rfl)) <| u (mv (.t rfl)) <| u (nkp (.t rfl)) <| u (fa ff86_0 (.t rfl)) <| u (ld tf29 (.t rfl) rfl rfl) <| u (mv (.t rfl)) <| u (cv cv3_50 (.t rfl)) <| u (mv (.t rfl)) <| cl [] cf24 (bits_Add_c hx1) (.c (.t rfl) <| .c (.t rfl) <| .c (.t rfl) <| .n) (.inl rfl) <| u (mv (.t rfl)) <| u (ex (.t rfl) rfl rfl) <| u (ex (.t rfl) rfl rfl) <| u (nkp (.t rfl)) <| u (fa ff86_0 (.t rfl)) <| st tf29 (.t rfl) rfl (.t rfl) rfl rfl rfl <| .nil _) rfl ?_
  obtain rfl := Option.some.inj h
  exact .rte (o := [(9000, some (.box [.ro (.list 1 (List.map e8 x1.1.bytes)), .ro (.int .i64 x1.1.many)]))]) Try.func44 (.n) (.c rfl .n) rfl rfl (.c rfl .n) rfl

theorem templ_pen_layers_y1_c {z : Option Nat} {l : List Template} {box0 : templ_pen} {r : templ_pen} (h : templ_pen_layers_y1 z l box0 = some r) :
    AY Try.prog 45 [.ptr 9000 0, .ro (.list 5 (List.map cells_Template l))] [(9000, [.list 1 (List.map e8 box0.k.bytes), .int .i64 box0.k.many])] [0] (.ro (.tup [])) [] [(0, .ptr 9000 0)] [(9000, [.list 1 (List.map e8 r.k.bytes), .int .i64 r.k.many])] := by
  refine AY.of Try.func45 rfl rfl fun w X M0 hM pv => ?_
  refine .kq (l := [(0, .ptr 9000 0), (1, .ro (.list 5 (List.map cells_Template l)))]) (o := [(9000, some (.box [.ro (.list 1 (List.map e8 box0.k.bytes)), .ro (.int .i64 box0.k.many)]))]) ?_ (.c rfl (.c rfl .n)) (.c rfl .n)
  unfold templ_pen_layers_y1 at h
  refine .sq ?_
  refine .rg (u (mv (.t rfl)) <| u (lnm sf23 (.t rfl)) <| u (mv (.i rfl)) <| .nil _) rfl ?_
  refine .bl ?_
  unfold templ_pen_layers_y1_l1 at h
  refine .kq (.lo (fun (s : Int × templ_pen) => ⟨[(0, .ptr 9000 0), (1, .ro (.list 5 (List.map cells_Template l))), (7, .ro (.list 5 (List.map cells_Template l))), (8, .ro (.int .i64 (l.length : Int))), (9, .ro (.int .i64 s.1))], [(9000, some (.box [.ro (.list 1 (List.map e8 s.2.k.bytes)), .ro (.int .i64 s.2.k.many)]))]⟩) h ?_) (.c rfl (.c rfl (.c rfl (.c rfl (.c rfl .n))))) (.c rfl .n)
  rintro ⟨v1, v2⟩ u1 h ih1 hx1
  replace h : templ_pen_layers_y1_s1 z l v1 v2 = _ := h
  unfold templ_pen_layers_y1_s1 at h
  refine .sq ?_
  refine .rg (u (bc (.t rfl) (.t rfl) rfl rfl) <| .nil _) rfl ?_
  refine .sq ?_
  refine .bq h (.t rfl) (fun h => ?_) (fun h => ?_)
  · refine .skp ?_
    refine .sq ?_
    refine .bl ?_
    refine .sq ?_
    refine be h fun x3 hx3 h => ?_
    refine .rg (u (mv (.t rfl)) <| u (ia sf23 (.t rfl) (.t rfl) (ix_map cells_Template hx3)) <| u (lr tf56 (.t rfl) rfl) <| al 5 zf56 rfl <| u (asg (.t rfl)) <| st tf56 (.t rfl) rfl (.t rfl) rfl rfl rfl <| .nil _) rfl ?_
    refine .sq ?_
    refine .rg (u (asg (.i rfl)) <| .nil _) rfl ?_
    refine .sq ?_
    refine .sq ?_
    refine .rg (u (mv (.t rfl)) <| u (bi (.t rfl) (.i rfl) rfl) <| u (mv (.t rfl)) <| u (lnm sf23 (.t rfl)) <| u (bc (.t rfl) (.t rfl) rfl rfl) <| .nil _) rfl ?_
    refine .jq (t := some u1) (fun (a : Int) => ⟨[(0, .ptr 9000 0), (1, .ro (.list 5 (List.map cells_Template l))), (6, .ro (.int .i64 a)), (7, .ro (.list 5 (List.map cells_Template l))), (8, .ro (.int .i64 (l.length : Int))), (9, .ro (.int .i64 v1))], [(9000, some (.box [.ro (.list 1 (List.map e8 v2.k.bytes)), .ro (.int .i64 v2.k.many)]))]⟩) (fun (a : Int) => templ_pen_layers_y1_j2 z v1 v2 a) ?_ (fun J2 => ?_)
    · intro v4 h
      replace h : templ_pen_layers_y1_j2 z v1 v2 v4 = _ := h
      unfold templ_pen_layers_y1_j2 at h
      refine be h fun x5 hx5 h => ?_
      refine .rg (u (mv (.t rfl)) <| u (mv (.t rfl)) <| cly 29000000 cf44 (AY.ly (fun i => bif Nat.beq i 9000 then 9000 else i) (templ_pen_num_y1_c hx5) rfl rfl rfl rfl rfl rfl rfl)  (.c (.t rfl) <| .c (.t rfl) <| .c (.i rfl) <| .n) rfl (.c rfl <| .n) rfl <| .nil _) rfl ?_
      refine .ib ?_
      refine .rg (u (bi (.t rfl) (.i rfl) rfl) <| u (mv (.t rfl)) <| .nil _) rfl ?_
      exact .kq (.il (ih1 ((ar .add .i64 v1 1), x5) (nxi h))) (.c rfl (.c rfl (.c rfl (.c rfl (.c rfl .n))))) (.c rfl .n)
    refine .bq h (.t rfl) (fun h => ?_) (fun h => ?_)
    · refine be h fun x6 hx6 h => ?_
      refine .rd mixed (u (ld tf56 (.t rfl) rfl rfl) <| u (mv (.t rfl)) <| u (mv (.t rfl)) <| u (bi (.t rfl) (.i rfl) rfl) <| u (ia sf23 (.t rfl) (.t rfl) (ix_map cells_Template hx6)) <| u (lr tf56 (.t rfl) rfl) <| cl [] cf57 (templ_follows_c x3 x6) (.c (.t rfl) <| .c (.t rfl) <| .n) (.inl rfl) <| u (asg (.t rfl)) <| .nil _) (by kernel_rfl) rfl ?_
      exact .kq (J2 (templ_follows x3 x6) h) (.c rfl (.c rfl (.c rfl (.c rfl (.c rfl (.c rfl .n)))))) (.c rfl .n)
    · refine .skp ?_
      exact .kq (J2 3 h) (.c rfl (.c rfl (.c rfl (.c rfl (.c rfl (.c rfl .n)))))) (.c rfl .n)
  · refine .xt rfl ?_
    replace h := mpR h hx1
    obtain rfl := Option.some.inj h
    exact .rte (o := [(9000, some (.box [.ro (.list 1 (List.map e8 v2.k.bytes)), .ro (.int .i64 v2.k.many)]))]) Try.func45 (.n) (.c rfl .n) rfl rfl (.c rfl .n) rfl

theorem templ_pen_lists_y1_c {z : Option Nat} {l : List Template} {box0 : templ_pen} {r : templ_pen} (h : templ_pen_lists_y1 z l box0 = some r) :
    AY Try.prog 46 [.ptr 9000 0, .ro (.list 5 (List.map cells_Template l))] [(9000, [.list 1 (List.map e8 box0.k.bytes), .int .i64 box0.k.many])] [0] (.ro (.tup [])) [] [(0, .ptr 9000 0)] [(9000, [.list 1 (List.map e8 r.k.bytes), .int .i64 r.k.many])] := by
  refine AY.of Try.func46 rfl rfl fun w X M0 hM pv => ?_
  refine .kq (l := [(0, .ptr 9000 0), (1, .ro (.list 5 (List.map cells_Template l)))]) (o := [(9000, some (.box [.ro (.list 1 (List.map e8 box0.k.bytes)), .ro (.int .i64 box0.k.many)]))]) ?_ (.c rfl (.c rfl .n)) (.c rfl .n)
  unfold templ_pen_lists_y1 at h
  refine .sq ?_
  refine .sq ?_
  refine .rg (u (mv (.t rfl)) <| u (lnm sf23 (.t rfl)) <| u (mv (.i rfl)) <| .nil _) rfl ?_
  refine .bl ?_
  unfold templ_pen_lists_y1_l1 at h
  refine .kq (.lo (fun (s : Int × templ_pen) => ⟨[(0, .ptr 9000 0), (1, .ro (.list 5 (List.map cells_Template l))), (12, .ro (.list 5 (List.map cells_Template l))), (13, .ro (.int .i64 (l.length : Int))), (14, .ro (.int .i64 s.1))], [(9000, some (.box [.ro (.list 1 (List.map e8 s.2.k.bytes)), .ro (.int .i64 s.2.k.many)]))]⟩) h ?_) (.c rfl (.c rfl (.c rfl (.c rfl (.c rfl .n))))) (.c rfl .n)
  rintro ⟨v1, v2⟩ u1 h ih1 hx1
  replace h : templ_pen_lists_y1_s1 z l v1 v2 = _ := h
  unfold templ_pen_lists_y1_s1 at h
  refine .sq ?_
  refine .rg (u (bc (.t rfl) (.t rfl) rfl rfl) <| .nil _) rfl ?_
  refine .sq ?_
  refine .bq h (.t rfl) (fun h => ?_) (fun h => ?_)
  · refine .skp ?_
    refine .sq ?_
    refine .bl ?_
    refine .sq ?_
    refine be h fun x3 hx3 h => ?_
    refine .rg (u (ia sf23 (.t rfl) (.t rfl) (ix_map cells_Template hx3)) <| u (lr tf56 (.t rfl) rfl) <| al 5 zf56 rfl <| st tf56 (.t rfl) rfl (.t rfl) rfl rfl rfl <| .nil _) rfl ?_
    refine .sq ?_
    refine .rg (u (fa ff56_2 (.t rfl)) <| u (ld tf22 (.t rfl) rfl rfl) <| u (lnm sf22 (.t rfl)) <| u (mv (.i rfl)) <| .nil _) rfl ?_
    refine .bl ?_
    unfold templ_pen_lists_y1_l2 at h
    refine .kq (.lo (fun (s : Int × templ_pen) => ⟨[(0, .ptr 9000 0), (1, .ro (.list 5 (List.map cells_Template l))), (12, .ro (.list 5 (List.map cells_Template l))), (13, .ro (.int .i64 (l.length : Int))), (14, .ro (.int .i64 v1)), (19, .ro (.list 1 (List.map (ei .i64) x3.marks))), (20, .ro (.int .i64 (x3.marks.length : Int))), (21, .ro (.int .i64 s.1))], [(9000, some (.box [.ro (.list 1 (List.map e8 s.2.k.bytes)), .ro (.int .i64 s.2.k.many)]))]⟩) h ?_) (.c rfl (.c rfl (.c rfl (.c rfl (.c rfl (.c rfl (.c rfl (.c rfl .n)))))))) (.c rfl .n)
    rintro ⟨v4, v5⟩ u2 h ih2 hx2
    replace h : templ_pen_lists_y1_s2 z v1 x3 v4 v5 = _ := h
    unfold templ_pen_lists_y1_s2 at h
    refine .sq ?_
    refine .rg (u (bc (.t rfl) (.t rfl) rfl rfl) <| .nil _) rfl ?_
    refine .sq ?_
    refine .bq h (.t rfl) (fun h => ?_) (fun h => ?_)
    · refine .skp ?_
      refine .sq ?_
      refine .bl ?_
      refine .sq ?_
      refine be h fun x6 hx6 h => ?_
      refine .rg (u (ia sf22 (.t rfl) (.t rfl) (ix_map (ei .i64) hx6)) <| u (lr tf3 (.t rfl) rfl) <| u (asg (.t rfl)) <| .nil _) rfl ?_
      refine be h fun x7 hx7 h => ?_
      refine .rg (u (mv (.t rfl)) <| u (mv (.t rfl)) <| cly 28000000 cf44 (AY.ly (fun i => bif Nat.beq i 9000 then 9000 else i) (templ_pen_num_y1_c hx7) rfl rfl rfl rfl rfl rfl rfl)  (.c (.t rfl) <| .c (.t rfl) <| .c (.i rfl) <| .n) rfl (.c rfl <| .n) rfl <| .nil _) rfl ?_
      refine .ib ?_
      refine .rg (u (bi (.t rfl) (.i rfl) rfl) <| u (mv (.t rfl)) <| .nil _) rfl ?_
      exact .kq (.il (ih2 ((ar .add .i64 v4 1), x7) (nxi h))) (.c rfl (.c rfl (.c rfl (.c rfl (.c rfl (.c rfl (.c rfl (.c rfl .n)))))))) (.c rfl .n)
    · refine .xt rfl ?_
      replace h := mpR h hx2
      refine .ib ?_
      refine .rg (u (bi (.t rfl) (.i rfl) rfl) <| u (mv (.t rfl)) <| .nil _) rfl ?_
      exact .kq (.il (ih1 ((ar .add .i64 v1 1), v5) (nxi h))) (.c rfl (.c rfl (.c rfl (.c rfl (.c rfl .n))))) (.c rfl .n)
  · refine .xt rfl ?_
    replace h := mpR h hx1
    refine .sq ?_
    refine .rg (u (mv (.t rfl)) <| u (lnm sf23 (.t rfl)) <| u (mv (.i rfl)) <| .nil _) rfl ?_
    refine .bl ?_
    unfold templ_pen_lists_y1_l3 at h
    refine .kq (.lo (fun (s : Int × templ_pen) => ⟨[(0, .ptr 9000 0), (30, .ro (.list 5 (List.map cells_Template l))), (31, .ro (.int .i64 (l.length : Int))), (32, .ro (.int .i64 s.1))], [(9000, some (.box [.ro (.list 1 (List.map e8 s.2.k.bytes)), .ro (.int .i64 s.2.k.many)]))]⟩) h ?_) (.c rfl (.c rfl (.c rfl (.c rfl .n)))) (.c rfl .n)
    rintro ⟨v8, v9⟩ u3 h ih3 hx3
    replace h : templ_pen_lists_y1_s3 z l v8 v9 = _ := h
    unfold templ_pen_lists_y1_s3 at h
    refine .sq ?_
    refine .rg (u (bc (.t rfl) (.t rfl) rfl rfl) <| .nil _) rfl ?_
    refine .sq ?_
    refine .bq h (.t rfl) (fun h => ?_) (fun h => ?_)
    · refine .skp ?_
      refine .sq ?_
      refine .bl ?_
      refine .sq ?_
      refine be h fun x10 hx10 h => ?_
      refine .rg (u (ia sf23 (.t rfl) (.t rfl) (ix_map cells_Template hx10)) <| u (lr tf56 (.t rfl) rfl) <| al 9 zf56 rfl <| st tf56 (.t rfl) rfl (.t rfl) rfl rfl rfl <| .nil _) rfl ?_
      refine .sq ?_
      refine .sq ?_
      refine .rg (u (fa ff56_3 (.t rfl)) <| u (ld tf22 (.t rfl) rfl rfl) <| u (lnm sf22 (.t rfl)) <| u (mv (.i rfl)) <| .nil _) rfl ?_
      refine .bl ?_
      unfold templ_pen_lists_y1_l4 at h
      refine .kq (.lo (fun (s : Int × templ_pen) => ⟨[(0, .ptr 9000 0), (30, .ro (.list 5 (List.map cells_Template l))), (31, .ro (.int .i64 (l.length : Int))), (32, .ro (.int .i64 v8)), (37, .ro (.list 1 (List.map (ei .i64) x10.diffs))), (38, .ro (.int .i64 (x10.diffs.length : Int))), (39, .ro (.int .i64 s.1))], [(9000, some (.box [.ro (.list 1 (List.map e8 s.2.k.bytes)), .ro (.int .i64 s.2.k.many)]))]⟩) h ?_) (.c rfl (.c rfl (.c rfl (.c rfl (.c rfl (.c rfl (.c rfl .n))))))) (.c rfl .n)
      rintro ⟨v11, v12⟩ u4 h ih4 hx4
      replace h : templ_pen_lists_y1_s4 z v8 x10 v11 v12 = _ := h
      unfold templ_pen_lists_y1_s4 at h
      refine .sq ?_
      refine .rg (u (bc (.t rfl) (.t rfl) rfl rfl) <| .nil _) rfl ?_
      refine .sq ?_
      refine .bq h (.t rfl) (fun h => ?_) (fun h => ?_)
      · refine .skp ?_
        refine .sq ?_
        refine .bl ?_
        refine .sq ?_
        refine be h fun x13 hx13 h => ?_
        refine .rg (u (ia sf22 (.t rfl) (.t rfl) (ix_map (ei .i64) hx13)) <| u (lr tf3 (.t rfl) rfl) <| u (asg (.t rfl)) <| .nil _) rfl ?_
        refine .sq ?_
        refine be h fun x14 hx14 h => ?_
        refine .rg (u (mv (.t rfl)) <| cly 45000000 cf44 (AY.ly (fun i => bif Nat.beq i 9000 then 9000 else i) (templ_pen_num_y1_c hx14) rfl rfl rfl rfl rfl rfl rfl)  (.c (.t rfl) <| .c (.i rfl) <| .c (.i rfl) <| .n) rfl (.c rfl <| .n) rfl <| .nil _) rfl ?_
        refine be h fun x15 hx15 h => ?_
        refine .rg (u (mv (.t rfl)) <| u (mv (.t rfl)) <| u (bi (.t rfl) (.i rfl) rfl) <| cly 49000000 cf44 (AY.ly (fun i => bif Nat.beq i 9000 then 9000 else i) (templ_pen_num_y1_c hx15) rfl rfl rfl rfl rfl rfl rfl)  (.c (.t rfl) <| .c (.t rfl) <| .c (.i rfl) <| .n) rfl (.c rfl <| .n) rfl <| .nil _) rfl ?_
        refine .ib ?_
        refine .rg (u (bi (.t rfl) (.i rfl) rfl) <| u (mv (.t rfl)) <| .nil _) rfl ?_
        exact .kq (.il (ih4 ((ar .add .i64 v11 1), x15) (nxi h))) (.c rfl (.c rfl (.c rfl (.c rfl (.c rfl (.c rfl (.c rfl .n))))))) (.c rfl .n)
      · refine .xt rfl ?_
        replace h := mpR h hx4
        refine be h fun x16 hx16 h => ?_
        refine .rg (u (mv (.t rfl)) <| cly 52000000 cf44 (AY.ly (fun i => bif Nat.beq i 9000 then 9000 else i) (templ_pen_num_y1_c hx16) rfl rfl rfl rfl rfl rfl rfl)  (.c (.t rfl) <| .c (.i rfl) <| .c (.i rfl) <| .n) rfl (.c rfl <| .n) rfl <| .nil _) rfl ?_
        refine .ib ?_
        refine .rg (u (bi (.t rfl) (.i rfl) rfl) <| u (mv (.t rfl)) <| .nil _) rfl ?_
        exact .kq (.il (ih3 ((ar .add .i64 v8 1), x16) (nxi h))) (.c rfl (.c rfl (.c rfl (.c rfl .n)))) (.c rfl .n)
    · refine .xt rfl ?_
      replace h := mpR h hx3
      obtain rfl := Option.some.inj h
      exact .rte (o := [(9000, some (.box [.ro (.list 1 (List.map e8 v9.k.bytes)), .ro (.int .i64 v9.k.many)]))]) Try.func46 (.n) (.c rfl .n) rfl rfl (.c rfl .n) rfl

theorem templ_pen_ranged_y1_c {z : Option Nat} {n : Int} {many : Int} {box0 : templ_pen} {r : templ_pen} (h : templ_pen_ranged_y1 z n many box0 = some r) :
    AY Try.prog 84 [.ptr 9000 0, .ro (.int .i64 n), .ro (.int .i64 many)] [(9000, [.list 1 (List.map e8 box0.k.bytes), .int .i64 box0.k.many])] [0] (.ro (.tup [])) [] [(0, .ptr 9000 0)] [(9000, [.list 1 (List.map e8 r.k.bytes), .int .i64 r.k.many])] := by
  refine AY.of Try.func84 rfl rfl fun w X M0 hM pv => ?_
  refine .kq (l := [(0, .ptr 9000 0), (1, .ro (.int .i64 n)), (2, .ro (.int .i64 many))]) (o := [(9000, some (.box [.ro (.list 1 (List.map e8 box0.k.bytes)), .ro (.int .i64 box0.k.many)]))]) ?_ (.c rfl (.c rfl (.c rfl .n))) (.c rfl .n)
  unfold templ_pen_ranged_y1 at h
  refine be h fun x1 hx1 h => ?_
  refine .rg (u (mv (.t rfl)) <| u (mv (.t rfl)) <| u (nkp (.t rfl)) <| u (fa ff86_0 (.t rfl)) <| u (ld tf29 (.t rfl) rfl rfl) <| u (mv (.t rfl)) <| u (cv cv3_50 (.t rfl)) <| u (mv (.t rfl)) <| u (cv cv3_50 (.t rfl)) <| cl [] cf108 (bits_AddRange_c hx1) (.c (.t rfl) <| .c (.t rfl) <| .c (.t rfl) <| .n) (.inl rfl) <| u (mv (.t rfl)) <| u (ex (.t rfl) rfl rfl) <| u (ex (.t rfl) rfl rfl) <| u (nkp (.t rfl)) <| u (fa ff86_0 (.t rfl)) <| st tf29 (.t rfl) rfl (.t rfl) rfl rfl rfl <| .nil _) rfl ?_
  obtain rfl := Option.some.inj h
  exact .rte (o := [(9000, some (.box [.ro (.list 1 (List.map e8 x1.1.bytes)), .ro (.int .i64 x1.1.many)]))]) Try.func84 (.n) (.c rfl .n) rfl rfl (.c rfl .n) rfl

theorem templ_pen_chains_y1_c {z : Option Nat} {p_s : Structure} {box0 : templ_pen} {r : templ_pen} (h : templ_pen_chains_y1 z p_s box0 = some r) :
    AY Try.prog 47 [.ptr 9000 0, .ro (enc_Structure p_s)] [(9000, [.list 1 (List.map e8 box0.k.bytes), .int .i64 box0.k.many])] [0] (.ro (.tup [])) [] [(0, .ptr 9000 0)] [(9000, [.list 1 (List.map e8 r.k.bytes), .int .i64 r.k.many])] := by
  refine AY.of Try.func47 rfl rfl fun w X M0 hM pv => ?_
  refine .kq (l := [(0, .ptr 9000 0), (1, .ro (enc_Structure p_s))]) (o := [(9000, some (.box [.ro (.list 1 (List.map e8 box0.k.bytes)), .ro (.int .i64 box0.k.many)]))]) ?_ (.c rfl (.c rfl .n)) (.c rfl .n)
  unfold templ_pen_chains_y1 at h
  refine .sq ?_
  refine .rg (bx 3 (.t rfl) rfl rfl <| .nil _) rfl ?_
  refine .sq ?_
  refine be h fun x1 hx1 h => ?_
  refine .rg (u (mv (.t rfl)) <| u (fa ff26_2 (.t rfl)) <| u (ld tf3 (.t rfl) rfl rfl) <| u (fa ff26_1 (.t rfl)) <| u (ld tf3 (.t rfl) rfl rfl) <| u (bi (.t rfl) (.i rfl) rfl) <| cly 17000000 cf84 (AY.ly (fun i => bif Nat.beq i 9000 then 9000 else i) (templ_pen_ranged_y1_c hx1) rfl rfl rfl rfl rfl rfl rfl)  (.c (.t rfl) <| .c (.t rfl) <| .c (.t rfl) <| .n) rfl (.c rfl <| .n) rfl <| .nil _) rfl ?_
  refine .sq ?_
  refine .sq ?_
  refine .rg (u (fa ff26_3 (.t rfl)) <| u (ld tf22 (.t rfl) rfl rfl) <| u (lnm sf22 (.t rfl)) <| u (mv (.i rfl)) <| .nil _) rfl ?_
  refine .bl ?_
  unfold templ_pen_chains_y1_l1 at h
  refine .kq (.lo (fun (s : Int × Structure × templ_pen) => ⟨[(0, .ptr 9000 0), (3, .ptr 3 0), (18, .ro (.list 1 (List.map (ei .i64) p_s.protect))), (19, .ro (.int .i64 (p_s.protect.length : Int))), (20, .ro (.int .i64 s.1))], [(3, some (.box [.ro (.int .i64 s.2.1.id_), .ro (.int .i64 s.2.1.targets), .ro (.int .i64 s.2.1.chains), .ro (.list 1 (List.map (ei .i64) s.2.1.protect)), .ro (.list 5 (List.map cells_Template s.2.1.templates)), .ro (.list 2 (List.map cells_Size s.2.1.sizes))])), (9000, some (.box [.ro (.list 1 (List.map e8 s.2.2.k.bytes)), .ro (.int .i64 s.2.2.k.many)]))]⟩) h ?_) (.c rfl (.c rfl (.c rfl (.c rfl (.c rfl .n))))) (.c rfl (.c rfl .n))
  rintro ⟨v2, v3, v4⟩ u1 h ih1 hx1
  replace h : templ_pen_chains_y1_s1 z p_s v2 v3 v4 = _ := h
  unfold templ_pen_chains_y1_s1 at h
  refine .sq ?_
  refine .rg (u (bc (.t rfl) (.t rfl) rfl rfl) <| .nil _) rfl ?_
  refine .sq ?_
  refine .bq h (.t rfl) (fun h => ?_) (fun h => ?_)
  · refine .skp ?_
    refine .sq ?_
    refine .bl ?_
    refine .sq ?_
    refine be h fun x5 hx5 h => ?_
    refine .rg (u (ia sf22 (.t rfl) (.t rfl) (ix_map (ei .i64) hx5)) <| u (lr tf3 (.t rfl) rfl) <| u (asg (.t rfl)) <| .nil _) rfl ?_
    refine be h fun x6 hx6 h => ?_
    refine .rg (u (mv (.t rfl)) <| u (mv (.t rfl)) <| u (fa ff26_2 (.t rfl)) <| u (ld tf3 (.t rfl) rfl rfl) <| cly 29000000 cf84 (AY.ly (fun i => bif Nat.beq i 9000 then 9000 else i) (templ_pen_ranged_y1_c hx6) rfl rfl rfl rfl rfl rfl rfl)  (.c (.t rfl) <| .c (.t rfl) <| .c (.t rfl) <| .n) rfl (.c rfl <| .n) rfl <| .nil _) rfl ?_
    refine .ib ?_
    refine .rg (u (bi (.t rfl) (.i rfl) rfl) <| u (mv (.t rfl)) <| .nil _) rfl ?_
    exact .kq (.il (ih1 ((ar .add .i64 v2 1), v3, x6) (nxi h))) (.c rfl (.c rfl (.c rfl (.c rfl (.c rfl .n))))) (.c rfl (.c rfl .n))
  · refine .xt rfl ?_
    replace h := mpR h hx1
    refine .sq ?_
    refine .rg (u (fa ff26_4 (.t rfl)) <| u (ld tf23 (.t rfl) rfl rfl) <| u (lnm sf23 (.t rfl)) <| u (mv (.i rfl)) <| .nil _) rfl ?_
    refine .bl ?_
    unfold templ_pen_chains_y1_l2 at h
    refine .kq (.lo (fun (s : Int × templ_pen) => ⟨[(0, .ptr 9000 0), (31, .ro (.list 5 (List.map cells_Template v3.templates))), (32, .ro (.int .i64 (v3.templates.length : Int))), (33, .ro (.int .i64 s.1))], [(9000, some (.box [.ro (.list 1 (List.map e8 s.2.k.bytes)), .ro (.int .i64 s.2.k.many)]))]⟩) h ?_) (.c rfl (.c rfl (.c rfl (.c rfl .n)))) (.c rfl .n)
    rintro ⟨v7, v8⟩ u2 h ih2 hx2
    replace h : templ_pen_chains_y1_s2 z v3 v7 v8 = _ := h
    unfold templ_pen_chains_y1_s2 at h
    refine .sq ?_
    refine .rg (u (bc (.t rfl) (.t rfl) rfl rfl) <| .nil _) rfl ?_
    refine .sq ?_
    refine .bq h (.t rfl) (fun h => ?_) (fun h => ?_)
    · refine .skp ?_
      refine .sq ?_
      refine .bl ?_
      refine .sq ?_
      refine be h fun x9 hx9 h => ?_
      refine .rg (u (ia sf23 (.t rfl) (.t rfl) (ix_map cells_Template hx9)) <| u (lr tf56 (.t rfl) rfl) <| al 7 zf56 rfl <| st tf56 (.t rfl) rfl (.t rfl) rfl rfl rfl <| .nil _) rfl ?_
      refine .sq ?_
      refine .rg (u (fa ff56_4 (.t rfl)) <| u (ld tf22 (.t rfl) rfl rfl) <| u (lnm sf22 (.t rfl)) <| u (mv (.i rfl)) <| .nil _) rfl ?_
      refine .bl ?_
      unfold templ_pen_chains_y1_l3 at h
      refine .kq (.lo (fun (s : Int × templ_pen) => ⟨[(0, .ptr 9000 0), (31, .ro (.list 5 (List.map cells_Template v3.templates))), (32, .ro (.int .i64 (v3.templates.length : Int))), (33, .ro (.int .i64 v7)), (38, .ro (.list 1 (List.map (ei .i64) x9.chains))), (39, .ro (.int .i64 (x9.chains.length : Int))), (40, .ro (.int .i64 s.1))], [(9000, some (.box [.ro (.list 1 (List.map e8 s.2.k.bytes)), .ro (.int .i64 s.2.k.many)]))]⟩) h ?_) (.c rfl (.c rfl (.c rfl (.c rfl (.c rfl (.c rfl (.c rfl .n))))))) (.c rfl .n)
      rintro ⟨v10, v11⟩ u3 h ih3 hx3
      replace h : templ_pen_chains_y1_s3 z v7 x9 v10 v11 = _ := h
      unfold templ_pen_chains_y1_s3 at h
      refine .sq ?_
      refine .rg (u (bc (.t rfl) (.t rfl) rfl rfl) <| .nil _) rfl ?_
      refine .sq ?_
      refine .bq h (.t rfl) (fun h => ?_) (fun h => ?_)
      · refine .skp ?_
        refine .sq ?_
        refine .bl ?_
        refine .sq ?_
        refine be h fun x12 hx12 h => ?_
        refine .rg (u (ia sf22 (.t rfl) (.t rfl) (ix_map (ei .i64) hx12)) <| u (lr tf3 (.t rfl) rfl) <| u (asg (.t rfl)) <| .nil _) rfl ?_
        refine be h fun x13 hx13 h => ?_
        refine .rg (u (mv (.t rfl)) <| u (mv (.t rfl)) <| cly 47000000 cf44 (AY.ly (fun i => bif Nat.beq i 9000 then 9000 else i) (templ_pen_num_y1_c hx13) rfl rfl rfl rfl rfl rfl rfl)  (.c (.t rfl) <| .c (.t rfl) <| .c (.i rfl) <| .n) rfl (.c rfl <| .n) rfl <| .nil _) rfl ?_
        refine .ib ?_
        refine .rg (u (bi (.t rfl) (.i rfl) rfl) <| u (mv (.t rfl)) <| .nil _) rfl ?_
        exact .kq (.il (ih3 ((ar .add .i64 v10 1), x13) (nxi h))) (.c rfl (.c rfl (.c rfl (.c rfl (.c rfl (.c rfl (.c rfl .n))))))) (.c rfl .n)
      · refine .xt rfl ?_
        replace h := mpR h hx3
        refine .ib ?_
        refine .rg (u (bi (.t rfl) (.i rfl) rfl) <| u (mv (.t rfl)) <| .nil _) rfl ?_
        exact .kq (.il (ih2 ((ar .add .i64 v7 1), v11) (nxi h))) (.c rfl (.c rfl (.c rfl (.c rfl .n)))) (.c rfl .n)
    · refine .xt rfl ?_
      replace h := mpR h hx2
      obtain rfl := Option.some.inj h
      exact .rte (o := [(9000, some (.box [.ro (.list 1 (List.map e8 v8.k.bytes)), .ro (.int .i64 v8.k.many)]))]) Try.func47 (.n) (.c rfl .n) rfl rfl (.c rfl .n) rfl

theorem templ_Put_c {z : Option Nat} {k : Ink} {p_s : Structure} {r : Ink × Int} (h : templ_Put z k p_s = some r) :
    AC Try.prog 12 [.ro (enc_Ink k), .ro (enc_Structure p_s)] (.ro (.tup [enc_Ink r.1, .int .i64 r.2])) [] := by
  refine AC.of Try.func12 rfl rfl fun w M0 hM => ?_
  unfold templ_Put at h
  refine .sq ?_
  refine .rg (bx 2 (.t rfl) rfl rfl <| bx 3 (.t rfl) rfl rfl <| al 4 zf29 rfl <| u (asg (.i rfl)) <| .nil _) rfl ?_
  refine .sq ?_
  refine .sq ?_
  refine be h fun x1 hx1 h => ?_
  refine be h fun x2 hx2 h => ?_
  refine .rg (u (ld tf29 (.t rfl) rfl rfl) <| cl [] cf43 (bits_Right_c hx1) (.c (.t rfl) <| .n) (.inl rfl) <| u (no (.t rfl)) <| u (mv (.t rfl)) <| gd rfl rfl (fun hB => ld tf26 (.t rfl) rfl rfl) <| cg rfl rfl cf20 (fun hB => (templ_Right_c (gTt hx2 (nt hB)))) (fun hB => .c (.m rfl hB) <| .n) (.inl rfl) <| gd rfl rfl (fun hB => no (.m rfl hB)) <| u (pko (.t rfl) (.t rfl)) <| .nil _) rfl ?_
  refine .bq h (.t rfl) (fun h => ?_) (fun h => ?_)
  · refine .sq ?_
    refine .rg (u (ld tf29 (.t rfl) rfl rfl) <| st tf29 (.t rfl) rfl (.t rfl) rfl rfl rfl <| u (asg (.i rfl)) <| .nil _) rfl ?_
    obtain rfl := Option.some.inj h
    exact .rt Try.func12 (.c tf29 rfl rfl rfl <| .t rfl <| .n) .n rfl rfl
  · refine .skp ?_
    refine .sq ?_
    refine .rg (u (ld tf29 (.t rfl) rfl rfl) <| u (bd bf86 zf86 (.c rfl (.t rfl) rfl rfl rfl <| .n) rfl) <| bx 20 (.t rfl) rfl rfl <| u (asg (.t rfl)) <| .nil _) rfl ?_
    refine .sq ?_
    refine be h fun x3 hx3 h => ?_
    refine .rg (u (mv (.t rfl)) <| u (fa ff26_0 (.t rfl)) <| u (ld tf3 (.t rfl) rfl rfl) <| cly 25000000 cf44 (AY.ly (fun i => bif Nat.beq i 9000 then 20 else i) (templ_pen_num_y1_c hx3) rfl rfl rfl rfl rfl rfl rfl)  (.c (.t rfl) <| .c (.t rfl) <| .c (.i rfl) <| .n) rfl (.c rfl <| .n) rfl <| .nil _) rfl ?_
    refine .sq ?_
    refine be h fun x4 hx4 h => ?_
    refine .rg (u (mv (.t rfl)) <| u (fa ff26_1 (.t rfl)) <| u (ld tf3 (.t rfl) rfl rfl) <| u (bi (.t rfl) (.i rfl) rfl) <| cly 30000000 cf44 (AY.ly (fun i => bif Nat.beq i 9000 then 20 else i) (templ_pen_num_y1_c hx4) rfl rfl rfl rfl rfl rfl rfl)  (.c (.t rfl) <| .c (.t rfl) <| .c (.i rfl) <| .n) rfl (.c rfl <| .n) rfl <| .nil _) rfl ?_
    refine .sq ?_
    refine be h fun x5 hx5 h => ?_
    refine .rg (u (mv (.t rfl)) <| u (fa ff26_4 (.t rfl)) <| u (ld tf23 (.t rfl) rfl rfl) <| cly 34000000 cf45 (AY.ly (fun i => bif Nat.beq i 9000 then 20 else i) (templ_pen_layers_y1_c hx5) rfl rfl rfl rfl rfl rfl rfl)  (.c (.t rfl) <| .c (.t rfl) <| .n) rfl (.c rfl <| .n) rfl <| .nil _) rfl ?_
    refine .sq ?_
    refine be h fun x6 hx6 h => ?_
    refine .rg (u (mv (.t rfl)) <| u (fa ff26_4 (.t rfl)) <| u (ld tf23 (.t rfl) rfl rfl) <| cly 38000000 cf46 (AY.ly (fun i => bif Nat.beq i 9000 then 20 else i) (templ_pen_lists_y1_c hx6) rfl rfl rfl rfl rfl rfl rfl)  (.c (.t rfl) <| .c (.t rfl) <| .n) rfl (.c rfl <| .n) rfl <| .nil _) rfl ?_
    refine .sq ?_
    refine be h fun x7 hx7 h => ?_
    refine .rg (u (mv (.t rfl)) <| u (ld tf26 (.t rfl) rfl rfl) <| cly 41000000 cf47 (AY.ly (fun i => bif Nat.beq i 9000 then 20 else i) (templ_pen_chains_y1_c hx7) rfl rfl rfl rfl rfl rfl rfl)  (.c (.t rfl) <| .c (.t rfl) <| .n) rfl (.c rfl <| .n) rfl <| .nil _) rfl ?_
    refine .sq ?_
    refine be h fun x8 hx8 h => ?_
    refine .rg (u (mv (.t rfl)) <| u (fa ff26_5 (.t rfl)) <| u (ld tf24 (.t rfl) rfl rfl) <| u (lnm sf24 (.t rfl)) <| u (mn (.t rfl) (.i rfl)) <| cly 47000000 cf44 (AY.ly (fun i => bif Nat.beq i 9000 then 20 else i) (templ_pen_num_y1_c hx8) rfl rfl rfl rfl rfl rfl rfl)  (.c (.t rfl) <| .c (.t rfl) <| .c (.i rfl) <| .n) rfl (.c rfl <| .n) rfl <| .nil _) rfl ?_
    refine .sq ?_
    refine .sq ?_
    refine .rg (u (fa ff26_5 (.t rfl)) <| u (ld tf24 (.t rfl) rfl rfl) <| u (lnm sf24 (.t rfl)) <| u (mv (.i rfl)) <| .nil _) rfl ?_
    refine .bl ?_
    unfold templ_Put_l1 at h
    refine .kq (.lo (fun (s : Int × templ_pen) => ⟨[(4, .ptr 4 0), (6, .ptr 20 0), (48, .ro (.list 2 (List.map cells_Size p_s.sizes))), (49, .ro (.int .i64 (p_s.sizes.length : Int))), (50, .ro (.int .i64 s.1))], [(4, some (.box [.ro (.list 1 (List.map e8 [])), .ro (.int .i64 0)])), (20, some (.box [.ro (.list 1 (List.map e8 s.2.k.bytes)), .ro (.int .i64 s.2.k.many)]))]⟩) h ?_) (.c rfl (.c rfl (.c rfl (.c rfl (.c rfl .n))))) (.c rfl (.c rfl .n))
    rintro ⟨v9, v10⟩ u1 h ih1 hx1
    replace h : templ_Put_s1 z k p_s v9 v10 = _ := h
    unfold templ_Put_s1 at h
    refine .sq ?_
    refine .rg (u (bc (.t rfl) (.t rfl) rfl rfl) <| .nil _) rfl ?_
    refine .sq ?_
    refine .bq h (.t rfl) (fun h => ?_) (fun h => ?_)
    · refine .skp ?_
      refine .sq ?_
      refine .bl ?_
      refine .sq ?_
      refine be h fun x11 hx11 h => ?_
      refine .rg (u (ia sf24 (.t rfl) (.t rfl) (ix_map cells_Size hx11)) <| u (lr tf83 (.t rfl) rfl) <| al 8 zf83 rfl <| st tf83 (.t rfl) rfl (.t rfl) rfl rfl rfl <| .nil _) rfl ?_
      refine .sq ?_
      refine be h fun x12 hx12 h => ?_
      refine .rg (u (mv (.t rfl)) <| u (fa ff83_0 (.t rfl)) <| u (ld tf3 (.t rfl) rfl rfl) <| u (bi (.t rfl) (.i rfl) rfl) <| cly 59000000 cf44 (AY.ly (fun i => bif Nat.beq i 9000 then 20 else i) (templ_pen_num_y1_c hx12) rfl rfl rfl rfl rfl rfl rfl)  (.c (.t rfl) <| .c (.t rfl) <| .c (.i rfl) <| .n) rfl (.c rfl <| .n) rfl <| .nil _) rfl ?_
      refine be h fun x13 hx13 h => ?_
      refine .rg (u (mv (.t rfl)) <| u (fa ff83_1 (.t rfl)) <| u (ld tf3 (.t rfl) rfl rfl) <| u (bi (.t rfl) (.i rfl) rfl) <| cly 64000000 cf44 (AY.ly (fun i => bif Nat.beq i 9000 then 20 else i) (templ_pen_num_y1_c hx13) rfl rfl rfl rfl rfl rfl rfl)  (.c (.t rfl) <| .c (.t rfl) <| .c (.i rfl) <| .n) rfl (.c rfl <| .n) rfl <| .nil _) rfl ?_
      refine .ib ?_
      refine .rg (u (bi (.t rfl) (.i rfl) rfl) <| u (mv (.t rfl)) <| .nil _) rfl ?_
      exact .kq (.il (ih1 ((ar .add .i64 v9 1), x13) (nxi h))) (.c rfl (.c rfl (.c rfl (.c rfl (.c rfl .n))))) (.c rfl (.c rfl .n))
    · refine .xt rfl ?_
      replace h := mpR h hx1
      refine .sq ?_
      refine .rg (u (mv (.t rfl)) <| u (nkp (.t rfl)) <| u (fa ff86_0 (.t rfl)) <| u (ld tf29 (.t rfl) rfl rfl) <| st tf29 (.t rfl) rfl (.t rfl) rfl rfl rfl <| u (asg (.i rfl)) <| .nil _) rfl ?_
      obtain rfl := Option.some.inj h
      exact .rt Try.func12 (.c tf29 rfl rfl rfl <| .t rfl <| .n) .n rfl rfl

theorem bits_Start_c (b : List Int) :
    AC Try.prog 26 [.ro (.list 1 (List.map e8 b))] (.ro (enc_GBits (bits_Start b))) [] := by
  obtain ⟨r, h⟩ : ∃ r, bits_Start b = r := ⟨_, rfl⟩
  rw [h]
  refine AC.of Try.func26 rfl rfl fun w M0 hM => ?_
  unfold bits_Start at h
  refine .sq ?_
  refine .rg (al 2 zf32 rfl <| .nil _) rfl ?_
  refine .sq ?_
  refine .rg (u (mv (.t rfl)) <| u (bd bf32 zf32 (.c rfl (.t rfl) rfl rfl rfl <| .n) rfl) <| st tf32 (.t rfl) rfl (.t rfl) rfl rfl rfl <| .nil _) rfl ?_
  subst h
  exact .rt Try.func26 (.c tf32 rfl rfl rfl <| .n) .n rfl rfl

theorem bits_right_c (c : GBits) :
    AC Try.prog 65 [.ro (enc_GBits c)] (.ro (.bool (bits_right c))) [] := by
  obtain ⟨r, h⟩ : ∃ r, bits_right c = r := ⟨_, rfl⟩
  rw [h]
  refine AC.of Try.func65 rfl rfl fun w M0 hM => ?_
  unfold bits_right at h
  refine .sq ?_
  refine .rg (bx 1 (.t rfl) rfl rfl <| u (asg .b) <| .nil _) rfl ?_
  refine .sq ?_
  refine .rg (u (fa ff32_2 (.t rfl)) <| u (ld tf30 (.t rfl) rfl rfl) <| u (bc (.t rfl) (.i rfl) rfl rfl) <| u (mv (.t rfl)) <| gd rfl rfl (fun hB => fa ff32_1 (.t rfl)) <| gd rfl rfl (fun hB => ld tf3 (.m rfl hB) rfl rfl) <| gd rfl rfl (fun hB => bc (.m rfl hB) (.i rfl) rfl rfl) <| u (pka (.t rfl) (.t rfl)) <| u (mv (.t rfl)) <| gd rfl rfl (fun hB => fa ff32_1 (.t rfl)) <| gd rfl rfl (fun hB => ld tf3 (.m rfl hB) rfl rfl) <| gd rfl rfl (fun hB => fa ff32_0 (.t rfl)) <| gd rfl rfl (fun hB => ld tf27 (.m rfl hB) rfl rfl) <| gd rfl rfl (fun hB => lnm sf27 (.m rfl hB)) <| gd rfl rfl (fun hB => bi (.i rfl) (.m rfl hB) rfl) <| gd rfl rfl (fun hB => bc (.m rfl hB) (.m rfl hB) rfl rfl) <| u (pka (.t rfl) (.t rfl)) <| u (asg (.t rfl)) <| .nil _) rfl ?_
  subst h
  exact .rt Try.func65 (.t rfl <| .n) .n rfl rfl

theorem bits_fail_c (c : GBits) (p_e : Int) :
    AC Try.prog 66 [.ro (enc_GBits c), .ro (.int .i64 p_e)] (.ro (.tup [enc_GBits ((bits_fail c p_e).1), .int .u64 ((bits_fail c p_e).2)])) [] := by
  obtain ⟨r, h⟩ : ∃ r, bits_fail c p_e = r := ⟨_, rfl⟩
  rw [h]
  refine AC.of Try.func66 rfl rfl fun w M0 hM => ?_
  unfold bits_fail at h
  refine .sq ?_
  refine .rg (bx 2 (.t rfl) rfl rfl <| al 4 zf32 rfl <| u (asg (.i rfl)) <| .nil _) rfl ?_
  refine .sq ?_
  refine .sq ?_
  refine .rg (u (fa ff32_2 (.t rfl)) <| u (ld tf30 (.t rfl) rfl rfl) <| u (bc (.t rfl) (.i rfl) rfl rfl) <| .nil _) rfl ?_
  refine .jq (t := r) (fun (a : GBits) => ⟨[(2, .ptr 2 0), (4, .ptr 4 0)], [(2, some (.box [.ro (.list 1 (List.map e8 a.bytes)), .ro (.int .i64 a.at_), .ro (.int .i64 a.err)])), (4, some (.box [.ro (.list 1 (List.map e8 [])), .ro (.int .i64 0), .ro (.int .i64 0)]))]⟩) (fun (a : GBits) => bits_fail_j1 a) ?_ (fun J1 => ?_)
  · intro v1 h
    replace h : bits_fail_j1 v1 = _ := h
    unfold bits_fail_j1 at h
    refine .sq ?_
    refine .rg (u (ld tf32 (.t rfl) rfl rfl) <| st tf32 (.t rfl) rfl (.t rfl) rfl rfl rfl <| u (asg (.i rfl)) <| .nil _) rfl ?_
    subst h
    exact .rt Try.func66 (.c tf32 rfl rfl rfl <| .t rfl <| .n) .n rfl rfl
  refine .bq h (.t rfl) (fun h => ?_) (fun h => ?_)
  · refine .rg (u (mv (.t rfl)) <| u (fa ff32_2 (.t rfl)) <| st tf30 (.t rfl) rfl (.t rfl) rfl rfl rfl <| .nil _) rfl ?_
    exact .kq (J1 ({ c with err := p_e }) h) (.c rfl (.c rfl .n)) (.c rfl (.c rfl .n))
  · refine .skp ?_
    exact .kq (J1 c h) (.c rfl (.c rfl .n)) (.c rfl (.c rfl .n))

theorem bits_Left_c (c : GBits) :
    AC Try.prog 67 [.ro (enc_GBits c)] (.ro (.int .i64 (bits_Left c))) [] := by
  obtain ⟨r, h⟩ : ∃ r, bits_Left c = r := ⟨_, rfl⟩
  rw [h]
  refine AC.of Try.func67 rfl rfl fun w M0 hM => ?_
  unfold bits_Left at h
  refine .sq ?_
  refine .rg (bx 1 (.t rfl) rfl rfl <| u (asg (.i rfl)) <| .nil _) rfl ?_
  refine .sq ?_
  refine .sq ?_
  refine .rg (u (ld tf32 (.t rfl) rfl rfl) <| cl [] cf65 (bits_right_c c) (.c (.t rfl) <| .n) (.inl rfl) <| u (no (.t rfl)) <| .nil _) rfl ?_
  refine .bq h (.t rfl) (fun h => ?_) (fun h => ?_)
  · refine .sq ?_
    refine .rg (u (asg (.i rfl)) <| .nil _) rfl ?_
    subst h
    exact .rt Try.func67 (.t rfl <| .n) .n rfl rfl
  · refine .skp ?_
    refine .sq ?_
    refine .rg (u (fa ff32_0 (.t rfl)) <| u (ld tf27 (.t rfl) rfl rfl) <| u (lnm sf27 (.t rfl)) <| u (bi (.i rfl) (.t rfl) rfl) <| u (fa ff32_1 (.t rfl)) <| u (ld tf3 (.t rfl) rfl rfl) <| u (bi (.t rfl) (.t rfl) rfl) <| u (asg (.t rfl)) <| .nil _) rfl ?_
    subst h
    exact .rt Try.func67 (.t rfl <| .n) .n rfl rfl

theorem bits_Get_c {z : Option Nat} {c : GBits} {n : Int} {r : GBits × Int} (h : bits_Get z c n = some r) :
    AC Try.prog 25 [.ro (enc_GBits c), .ro (.int .i64 n)] (.ro (.tup [enc_GBits r.1, .int .u64 r.2])) [] := by
  refine AC.of Try.func25 rfl rfl fun w M0 hM => ?_
  unfold bits_Get at h
  refine .sq ?_
  refine .rg (bx 2 (.t rfl) rfl rfl <| al 4 zf32 rfl <| u (asg (.i rfl)) <| .nil _) rfl ?_
  refine .sq ?_
  refine .bl ?_
  refine .sq ?_
  refine .sq ?_
  refine .rg (u (ld tf32 (.t rfl) rfl rfl) <| cl [] cf65 (bits_right_c c) (.c (.t rfl) <| .n) (.inl rfl) <| u (no (.t rfl)) <| u (asg (.t rfl)) <| .nil _) rfl ?_
  refine .jq (t := some r) (fun (a : Bool) => ⟨[(1, .ro (.int .i64 n)), (2, .ptr 2 0), (4, .ptr 4 0), (10, .ro (.bool a))], [(2, some (.box [.ro (.list 1 (List.map e8 c.bytes)), .ro (.int .i64 c.at_), .ro (.int .i64 c.err)])), (4, some (.box [.ro (.list 1 (List.map e8 [])), .ro (.int .i64 0), .ro (.int .i64 0)]))]⟩) (fun (a : Bool) => bits_Get_j1 z c n a) ?_ (fun J1 => ?_)
  · intro v1 h
    replace h : bits_Get_j1 z c n v1 = _ := h
    unfold bits_Get_j1 at h
    refine .bq h (.t rfl) (fun h => ?_) (fun h => ?_)
    · refine .sq ?_
      refine .rg (u (ld tf32 (.t rfl) rfl rfl) <| cl [] cf66 (bits_fail_c c 1) (.c (.t rfl) <| .c (.i rfl) <| .n) (.inl rfl) <| u (ex (.t rfl) rfl rfl) <| u (ex (.t rfl) rfl rfl) <| st tf32 (.t rfl) rfl (.t rfl) rfl rfl rfl <| u (asg (.t rfl)) <| .nil _) rfl ?_
      obtain rfl := Option.some.inj h
      exact .rt Try.func25 (.c tf32 rfl rfl rfl <| .t rfl <| .n) .n rfl rfl
    · refine .sq ?_
      refine .rg (u (mv (.t rfl)) <| u (ld tf32 (.t rfl) rfl rfl) <| cl [] cf67 (bits_Left_c c) (.c (.t rfl) <| .n) (.inl rfl) <| u (bc (.t rfl) (.t rfl) rfl rfl) <| u (asg (.t rfl)) <| .nil _) rfl ?_
      refine .bq h (.t rfl) (fun h => ?_) (fun h => ?_)
      · refine .sq ?_
        refine .rg (u (ld tf32 (.t rfl) rfl rfl) <| cl [] cf66 (bits_fail_c c 2) (.c (.t rfl) <| .c (.i rfl) <| .n) (.inl rfl) <| u (ex (.t rfl) rfl rfl) <| u (ex (.t rfl) rfl rfl) <| st tf32 (.t rfl) rfl (.t rfl) rfl rfl rfl <| u (asg (.t rfl)) <| .nil _) rfl ?_
        obtain rfl := Option.some.inj h
        exact .rt Try.func25 (.c tf32 rfl rfl rfl <| .t rfl <| .n) .n rfl rfl
      · refine .skp ?_
        refine .ib ?_
        refine .sq ?_
        refine .rg (u (asg (.i rfl)) <| .nil _) rfl ?_
        refine .sq ?_
        refine .bl ?_
        unfold bits_Get_l2 at h
        refine .kq (.lo (fun (s : Int × Int × GBits) => ⟨[(1, .ro (.int .i64 s.1)), (2, .ptr 2 0), (4, .ptr 4 0), (6, .ro (.int .u64 s.2.1))], [(2, some (.box [.ro (.list 1 (List.map e8 s.2.2.bytes)), .ro (.int .i64 s.2.2.at_), .ro (.int .i64 s.2.2.err)])), (4, some (.box [.ro (.list 1 (List.map e8 [])), .ro (.int .i64 0), .ro (.int .i64 0)]))]⟩) h ?_) (.c rfl (.c rfl (.c rfl (.c rfl .n)))) (.c rfl (.c rfl .n))
        rintro ⟨v2, v3, v4⟩ u2 h ih2 hx2
        replace h : bits_Get_s2 z v2 v3 v4 = _ := h
        unfold bits_Get_s2 at h
        refine .sq ?_
        refine .sq ?_
        refine .rg (u (mv (.t rfl)) <| u (bc (.t rfl) (.i rfl) rfl rfl) <| .nil _) rfl ?_
        refine .bq h (.t rfl) (fun h => ?_) (fun h => ?_)
        · refine .skp ?_
          refine .bl ?_
          refine .sq ?_
          refine .rg (u (fa ff32_1 (.t rfl)) <| u (ld tf3 (.t rfl) rfl rfl) <| u (di (.t rfl) (.i rfl) rfl (by decide)) <| u (bi (.i rfl) (.t rfl) rfl) <| u (asg (.t rfl)) <| .nil _) rfl ?_
          refine .sq ?_
          refine .rg (u (mv (.t rfl)) <| u (mv (.t rfl)) <| u (mn (.t rfl) (.t rfl)) <| u (asg (.t rfl)) <| .nil _) rfl ?_
          refine .sq ?_
          refine be h fun x5 hx5 h => ?_
          refine be h fun x6 hx6 h => ?_
          refine be h fun x7 hx7 h => ?_
          refine .rd mixed (u (fa ff32_0 (.t rfl)) <| u (ld tf27 (.t rfl) rfl rfl) <| u (fa ff32_1 (.t rfl)) <| u (ld tf3 (.t rfl) rfl rfl) <| u (di (.t rfl) (.i rfl) rfl (by decide)) <| u (ia sf27 (.t rfl) (.t rfl) (ix_map e8 hx5)) <| u (lr tf5 (.t rfl) rfl) <| u (mv (.t rfl)) <| u (mv (.t rfl)) <| u (bi (.t rfl) (.t rfl) rfl) <| u (sho (.t rfl) (.t rfl) rfl hx6) <| u (mv (.t rfl)) <| u (sho (.i rfl) (.t rfl) rfl hx7) <| u (bi (.t rfl) (.i rfl) rfl) <| u (bi (.t rfl) (.t rfl) rfl) <| u (asg (.t rfl)) <| .nil _) (by kernel_rfl) rfl ?_
          refine .sq ?_
          refine be h fun x8 hx8 h => ?_
          refine .rg (u (mv (.t rfl)) <| u (mv (.t rfl)) <| u (sho (.t rfl) (.t rfl) rfl hx8) <| u (mv (.t rfl)) <| u (cv cv5_50 (.t rfl)) <| u (bi (.t rfl) (.t rfl) rfl) <| u (asg (.t rfl)) <| .nil _) rfl ?_
          refine .sq ?_
          refine .rg (u (fa ff32_1 (.t rfl)) <| u (ld tf3 (.t rfl) rfl rfl) <| u (mv (.t rfl)) <| u (bi (.t rfl) (.t rfl) rfl) <| u (fa ff32_1 (.t rfl)) <| st tf3 (.t rfl) rfl (.t rfl) rfl rfl rfl <| .nil _) rfl ?_
          refine .rg (u (mv (.t rfl)) <| u (mv (.t rfl)) <| u (bi (.t rfl) (.t rfl) rfl) <| u (asg (.t rfl)) <| .nil _) rfl ?_
          refine .ib ?_
          exact .kq (.il (ih2 ((ar .sub .i64 v2 (imin (ar .sub .i64 8 (dv .rem .i64 v4.at_ 8)) v2)), (ar .or .u64 x8 (IntKind.u64.wrap (ar .and .u8 x6 (ar .sub .u8 x7 1)))), { v4 with at_ := (ar .add .i64 v4.at_ (imin (ar .sub .i64 8 (dv .rem .i64 v4.at_ 8)) v2)) }) (nxi h))) (.c rfl (.c rfl (.c rfl (.c rfl .n)))) (.c rfl (.c rfl .n))
        · refine .xt rfl ?_
          replace h := mpR h hx2
          refine .sq ?_
          refine .rg (u (ld tf32 (.t rfl) rfl rfl) <| u (mv (.t rfl)) <| st tf32 (.t rfl) rfl (.t rfl) rfl rfl rfl <| u (asg (.t rfl)) <| .nil _) rfl ?_
          obtain rfl := Option.some.inj h
          exact .rt Try.func25 (.c tf32 rfl rfl rfl <| .t rfl <| .n) .n rfl rfl
  refine .bq h (.t rfl) (fun h => ?_) (fun h => ?_)
  · refine .skp ?_
    exact .kq (J1 (!(bits_right c)) h) (.c rfl (.c rfl (.c rfl (.c rfl .n)))) (.c rfl (.c rfl .n))
  · refine .sq ?_
    refine .rg (u (mv (.t rfl)) <| u (bc (.t rfl) (.i rfl) rfl rfl) <| u (asg (.t rfl)) <| .nil _) rfl ?_
    refine .bq h (.t rfl) (fun h => ?_) (fun h => ?_)
    · refine .skp ?_
      exact .kq (J1 (cm .lss n 0) h) (.c rfl (.c rfl (.c rfl (.c rfl .n)))) (.c rfl (.c rfl .n))
    · refine .rg (u (mv (.t rfl)) <| u (bc (.t rfl) (.i rfl) rfl rfl) <| u (asg (.t rfl)) <| .nil _) rfl ?_
      exact .kq (J1 (cm .gtr n 64) h) (.c rfl (.c rfl (.c rfl (.c rfl .n)))) (.c rfl (.c rfl .n))

theorem bits_Range_c {z : Option Nat} {c : GBits} {n : Int} {r : GBits × Int} (h : bits_Range z c n = some r) :
    AC Try.prog 110 [.ro (enc_GBits c), .ro (.int .u64 n)] (.ro (.tup [enc_GBits r.1, .int .u64 r.2])) [] := by
  refine AC.of Try.func110 rfl rfl fun w M0 hM => ?_
  unfold bits_Range at h
  refine .sq ?_
  refine .rg (bx 2 (.t rfl) rfl rfl <| al 4 zf32 rfl <| u (asg (.i rfl)) <| .nil _) rfl ?_
  refine .sq ?_
  refine .sq ?_
  refine .rg (u (ld tf32 (.t rfl) rfl rfl) <| cl [] cf65 (bits_right_c c) (.c (.t rfl) <| .n) (.inl rfl) <| u (no (.t rfl)) <| u (mv (.t rfl)) <| gd rfl rfl (fun hB => mv (.t rfl)) <| gd rfl rfl (fun hB => bc (.m rfl hB) (.i rfl) rfl rfl) <| u (pko (.t rfl) (.t rfl)) <| u (mv (.t rfl)) <| gd rfl rfl (fun hB => mv (.t rfl)) <| gd rfl rfl (fun hB => bc (.m rfl hB) (.i rfl) rfl rfl) <| u (pko (.t rfl) (.t rfl)) <| .nil _) rfl ?_
  refine .bq h (.t rfl) (fun h => ?_) (fun h => ?_)
  · refine .sq ?_
    refine .rg (u (ld tf32 (.t rfl) rfl rfl) <| cl [] cf66 (bits_fail_c c 1) (.c (.t rfl) <| .c (.i rfl) <| .n) (.inl rfl) <| u (ex (.t rfl) rfl rfl) <| u (ex (.t rfl) rfl rfl) <| st tf32 (.t rfl) rfl (.t rfl) rfl rfl rfl <| u (asg (.t rfl)) <| .nil _) rfl ?_
    obtain rfl := Option.some.inj h
    exact .rt Try.func110 (.c tf32 rfl rfl rfl <| .t rfl <| .n) .n rfl rfl
  · refine .skp ?_
    refine .sq ?_
    refine be h fun x1 hx1 h => ?_
    refine .rg (u (mv (.t rfl)) <| cl [] cf119 (bits_spread_c hx1) (.c (.t rfl) <| .n) (.inl rfl) <| u (mv (.t rfl)) <| u (ex (.t rfl) rfl rfl) <| u (ex (.t rfl) rfl rfl) <| u (asg (.t rfl)) <| u (asg (.t rfl)) <| .nil _) rfl ?_
    refine .sq ?_
    refine be h fun x2 hx2 h => ?_
    refine .rg (u (ld tf32 (.t rfl) rfl rfl) <| u (mv (.t rfl)) <| u (bi (.t rfl) (.i rfl) rfl) <| cl [] cf25 (bits_Get_c hx2) (.c (.t rfl) <| .c (.t rfl) <| .n) (.inl rfl) <| u (mv (.t rfl)) <| u (ex (.t rfl) rfl rfl) <| u (ex (.t rfl) rfl rfl) <| al 8 zf32 rfl <| st tf32 (.t rfl) rfl (.t rfl) rfl rfl rfl <| u (asg (.t rfl)) <| .nil _) rfl ?_
    refine .sq ?_
    refine .sq ?_
    refine .rg (u (fa ff32_2 (.t rfl)) <| u (ld tf30 (.t rfl) rfl rfl) <| u (bc (.t rfl) (.i rfl) rfl rfl) <| u (mv (.t rfl)) <| gd rfl rfl (fun hB => mv (.t rfl)) <| gd rfl rfl (fun hB => mv (.t rfl)) <| gd rfl rfl (fun hB => bc (.m rfl hB) (.m rfl hB) rfl rfl) <| u (pka (.t rfl) (.t rfl)) <| .nil _) rfl ?_
    refine .jq (t := some r) (fun (a : Int × GBits) => ⟨[(2, .ptr 2 0), (4, .ptr 4 0), (8, .ptr 8 0), (9, .ro (.int .u64 a.1))], [(2, some (.box [.ro (.list 1 (List.map e8 c.bytes)), .ro (.int .i64 c.at_), .ro (.int .i64 c.err)])), (4, some (.box [.ro (.list 1 (List.map e8 [])), .ro (.int .i64 0), .ro (.int .i64 0)])), (8, some (.box [.ro (.list 1 (List.map e8 a.2.bytes)), .ro (.int .i64 a.2.at_), .ro (.int .i64 a.2.err)]))]⟩) (fun (a : Int × GBits) => bits_Range_j1 z c a.1 a.2) ?_ (fun J1 => ?_)
    · rintro ⟨v3, v4⟩ h
      replace h : bits_Range_j1 z c v3 v4 = _ := h
      unfold bits_Range_j1 at h
      refine .sq ?_
      refine .sq ?_
      refine .rg (u (fa ff32_2 (.t rfl)) <| u (ld tf30 (.t rfl) rfl rfl) <| u (bc (.t rfl) (.i rfl) rfl rfl) <| .nil _) rfl ?_
      refine .bq h (.t rfl) (fun h => ?_) (fun h => ?_)
      · refine .sq ?_
        refine .rg (u (ld tf32 (.t rfl) rfl rfl) <| u (fa ff32_2 (.t rfl)) <| u (ld tf30 (.t rfl) rfl rfl) <| cl [] cf66 (bits_fail_c c v4.err) (.c (.t rfl) <| .c (.t rfl) <| .n) (.inl rfl) <| u (ex (.t rfl) rfl rfl) <| u (ex (.t rfl) rfl rfl) <| st tf32 (.t rfl) rfl (.t rfl) rfl rfl rfl <| u (asg (.t rfl)) <| .nil _) rfl ?_
        obtain rfl := Option.some.inj h
        exact .rt Try.func110 (.c tf32 rfl rfl rfl <| .t rfl <| .n) .n rfl rfl
      · refine .skp ?_
        refine .sq ?_
        refine .rg (u (ld tf32 (.t rfl) rfl rfl) <| u (mv (.t rfl)) <| st tf32 (.t rfl) rfl (.t rfl) rfl rfl rfl <| u (asg (.t rfl)) <| .nil _) rfl ?_
        obtain rfl := Option.some.inj h
        exact .rt Try.func110 (.c tf32 rfl rfl rfl <| .t rfl <| .n) .n rfl rfl
    refine .bq h (.t rfl) (fun h => ?_) (fun h => ?_)
    · refine .sq ?_
      refine .rg (u (asg (.i rfl)) <| .nil _) rfl ?_
      refine .sq ?_
      refine be h fun x5 hx5 h => ?_
      refine .rg (u (ld tf32 (.t rfl) rfl rfl) <| cl [] cf25 (bits_Get_c hx5) (.c (.t rfl) <| .c (.i rfl) <| .n) (.inl rfl) <| u (mv (.t rfl)) <| u (ex (.t rfl) rfl rfl) <| u (ex (.t rfl) rfl rfl) <| st tf32 (.t rfl) rfl (.t rfl) rfl rfl rfl <| u (asg (.t rfl)) <| .nil _) rfl ?_
      refine .rg (u (mv (.t rfl)) <| u (sh (.t rfl) (.i rfl) rfl (by decide)) <| u (mv (.t rfl)) <| u (bi (.t rfl) (.t rfl) rfl) <| u (mv (.t rfl)) <| u (bi (.t rfl) (.t rfl) rfl) <| u (asg (.t rfl)) <| .nil _) rfl ?_
      exact .kq (J1 ((ar .sub .u64 (ar .add .u64 (sf .shl .u64 x2.2 1) x5.2) x1.2), x5.1) h) (.c rfl (.c rfl (.c rfl (.c rfl .n)))) (.c rfl (.c rfl (.c rfl .n)))
    · refine .skp ?_
      exact .kq (J1 (x2.2, x2.1) h) (.c rfl (.c rfl (.c rfl (.c rfl .n)))) (.c rfl (.c rfl (.c rfl .n)))

theorem templ_eye_num_y1_c {z : Option Nat} {width : Int} {box0 : templ_eye} {r : Int × templ_eye} (h : templ_eye_num_y1 z width box0 = some r) :
    AY Try.prog 87 [.ptr 9000 0, .ro (.int .i64 width)] [(9000, [.list 1 (List.map e8 box0.c.bytes), .int .i64 box0.c.at_, .int .i64 box0.c.err])] [0] (.ro (.int .i64 r.1)) [] [(0, .ptr 9000 0)] [(9000, [.list 1 (List.map e8 r.2.c.bytes), .int .i64 r.2.c.at_, .int .i64 r.2.c.err])] := by
  refine AY.of Try.func87 rfl rfl fun w X M0 hM pv => ?_
  refine .kq (l := [(0, .ptr 9000 0), (1, .ro (.int .i64 width))]) (o := [(9000, some (.box [.ro (.list 1 (List.map e8 box0.c.bytes)), .ro (.int .i64 box0.c.at_), .ro (.int .i64 box0.c.err)]))]) ?_ (.c rfl (.c rfl .n)) (.c rfl .n)
  unfold templ_eye_num_y1 at h
  refine .sq ?_
  refine .rg (u (asg (.i rfl)) <| .nil _) rfl ?_
  refine .sq ?_
  refine be h fun x1 hx1 h => ?_
  refine .rg (u (mv (.t rfl)) <| u (nkp (.t rfl)) <| u (fa ff96_0 (.t rfl)) <| u (ld tf32 (.t rfl) rfl rfl) <| u (mv (.t rfl)) <| cl [] cf25 (bits_Get_c hx1) (.c (.t rfl) <| .c (.t rfl) <| .n) (.inl rfl) <| u (mv (.t rfl)) <| u (ex (.t rfl) rfl rfl) <| u (ex (.t rfl) rfl rfl) <| al 5 zf32 rfl <| st tf32 (.t rfl) rfl (.t rfl) rfl rfl rfl <| u (asg (.t rfl)) <| .nil _) rfl ?_
  refine .sq ?_
  refine .rg (u (mv (.t rfl)) <| u (ld tf32 (.t rfl) rfl rfl) <| u (nkp (.t rfl)) <| u (fa ff96_0 (.t rfl)) <| st tf32 (.t rfl) rfl (.t rfl) rfl rfl rfl <| .nil _) rfl ?_
  refine .sq ?_
  refine .rg (u (mv (.t rfl)) <| u (cv cv50_3 (.t rfl)) <| u (asg (.t rfl)) <| .nil _) rfl ?_
  obtain rfl := Option.some.inj h
  exact .rtx (o := [(9000, some (.box [.ro (.list 1 (List.map e8 x1.1.bytes)), .ro (.int .i64 x1.1.at_), .ro (.int .i64 x1.1.err)]))]) Try.func87 (.t rfl <| .n) (.c rfl .n) rfl rfl (.c rfl .n) rfl

theorem templ_eye_fine_p_c (y : templ_eye) :
    AC Try.prog 52 [.rptr [.list 1 (List.map e8 y.c.bytes), .int .i64 y.c.at_, .int .i64 y.c.err]] (.ro (.bool (templ_eye_fine_p y))) [] := by
  obtain ⟨r, h⟩ : ∃ r, templ_eye_fine_p y = r := ⟨_, rfl⟩
  rw [h]
  refine AC.of Try.func52 rfl rfl fun w M0 hM => ?_
  unfold templ_eye_fine_p at h
  refine .sq ?_
  refine .rg (u (asg .b) <| .nil _) rfl ?_
  refine .sq ?_
  refine .rg (u (mv (.t rfl)) <| u (nkr (.t rfl)) <| u (fr ff96_0 (.t rfl) rfl) <| u (fr ff32_2 (.t rfl) rfl) <| u (lr tf30 (.t rfl) rfl) <| u (bc (.t rfl) (.i rfl) rfl rfl) <| u (asg (.t rfl)) <| .nil _) rfl ?_
  subst h
  exact .rt Try.func52 (.t rfl <| .n) .n rfl rfl

theorem templ_eye_need_y1_c {z : Option Nat} {ok : Bool} {box0 : templ_eye} {r : templ_eye} (h : templ_eye_need_y1 z ok box0 = some r) :
    AY Try.prog 109 [.ptr 9000 0, .ro (.bool ok)] [(9000, [.list 1 (List.map e8 box0.c.bytes), .int .i64 box0.c.at_, .int .i64 box0.c.err])] [0] (.ro (.tup [])) [] [(0, .ptr 9000 0)] [(9000, [.list 1 (List.map e8 r.c.bytes), .int .i64 r.c.at_, .int .i64 r.c.err])] := by
  refine AY.of Try.func109 rfl rfl fun w X M0 hM pv => ?_
  refine .kq (l := [(0, .ptr 9000 0), (1, .ro (.bool ok))]) (o := [(9000, some (.box [.ro (.list 1 (List.map e8 box0.c.bytes)), .ro (.int .i64 box0.c.at_), .ro (.int .i64 box0.c.err)]))]) ?_ (.c rfl (.c rfl .n)) (.c rfl .n)
  unfold templ_eye_need_y1 at h
  refine .sq ?_
  refine .rg (u (mv (.t rfl)) <| cl [] cf52 (templ_eye_fine_p_c box0) (.p (.t rfl) rfl rfl rfl <| .n) (.inr rfl) <| u (mv (.t rfl)) <| gd rfl rfl (fun hB => mv (.t rfl)) <| gd rfl rfl (fun hB => no (.m rfl hB)) <| u (pka (.t rfl) (.t rfl)) <| .nil _) rfl ?_
  refine .bq h (.t rfl) (fun h => ?_) (fun h => ?_)
  · refine .rg (u (mv (.t rfl)) <| u (nkp (.t rfl)) <| u (fa ff96_0 (.t rfl)) <| u (fa ff32_2 (.t rfl)) <| st tf30 (.t rfl) rfl (.i rfl) rfl rfl rfl <| .nil _) rfl ?_
    obtain rfl := Option.some.inj h
    exact .rte (o := [(9000, some (.box [.ro (.list 1 (List.map e8 box0.c.bytes)), .ro (.int .i64 box0.c.at_), .ro (.int .i64 6)]))]) Try.func109 (.n) (.c rfl .n) rfl rfl (.c rfl .n) rfl
  · refine .skp ?_
    obtain rfl := Option.some.inj h
    exact .rte (o := [(9000, some (.box [.ro (.list 1 (List.map e8 box0.c.bytes)), .ro (.int .i64 box0.c.at_), .ro (.int .i64 box0.c.err)]))]) Try.func109 (.n) (.c rfl .n) rfl rfl (.c rfl .n) rfl

theorem templ_eye_layers_y1_c {z : Option Nat} {box0 : templ_eye} {r : List Template × templ_eye} (h : templ_eye_layers_y1 z box0 = some r) :
    AY Try.prog 88 [.ptr 9000 0] [(9000, [.list 1 (List.map e8 box0.c.bytes), .int .i64 box0.c.at_, .int .i64 box0.c.err])] [0] (.own 8000) [(8000, .arr 56 5 (List.map cells_Template r.1))] [(0, .ptr 9000 0)] [(9000, [.list 1 (List.map e8 r.2.c.bytes), .int .i64 r.2.c.at_, .int .i64 r.2.c.err])] := by
  refine AY.of Try.func88 rfl rfl fun w X M0 hM pv => ?_
  refine .kq (l := [(0, .ptr 9000 0)]) (o := [(9000, some (.box [.ro (.list 1 (List.map e8 box0.c.bytes)), .ro (.int .i64 box0.c.at_), .ro (.int .i64 box0.c.err)]))]) ?_ (.c rfl .n) (.c rfl .n)
  unfold templ_eye_layers_y1 at h
  refine .sq ?_
  refine .rg (anm cells_Template 2 56 5 rfl rfl <| .nil _) rfl ?_
  refine .sq ?_
  refine .rg (u (bd bf56 zf56 (.n) rfl) <| bs (F := cells_Template) (l := [(Template.mk 0 0 [] [] [])]) 6 pf23 (.c (.t rfl) rfl <| .n) rfl (fun _ _ => rfl) rfl rfl <| u (asg (.t rfl)) <| .nil _) rfl ?_
  refine .sq ?_
  refine .bl ?_
  unfold templ_eye_layers_y1_l1 at h
  refine .ks (fun i => bif Nat.beq i 3 then 6 else i) (.lo (fun (s : List Template × templ_eye) => ⟨[(0, .ptr 9000 0), (3, .own 3)], [(3, some (.arr 56 5 (List.map cells_Template s.1))), (9000, some (.box [.ro (.list 1 (List.map e8 s.2.c.bytes)), .ro (.int .i64 s.2.c.at_), .ro (.int .i64 s.2.c.err)]))]⟩) h ?_) (.c rfl (.c rfl .n)) (.c rfl (.c rfl .n)) rfl
  rintro ⟨v1, v2⟩ u1 h ih1 hx1
  replace h : templ_eye_layers_y1_s1 z v1 v2 = _ := h
  unfold templ_eye_layers_y1_s1 at h
  refine .sq ?_
  refine .sq ?_
  refine .rg (u (mv (.t rfl)) <| cl [] cf52 (templ_eye_fine_p_c v2) (.p (.t rfl) rfl rfl rfl <| .n) (.inr rfl) <| .nil _) rfl ?_
  refine .bq h (.t rfl) (fun h => ?_) (fun h => ?_)
  · refine .skp ?_
    refine .bl ?_
    refine .sq ?_
    refine be h fun x3 hx3 h => ?_
    refine .rg (u (mv (.t rfl)) <| u (mv (.t rfl)) <| u (lom sf23 (.t rfl) rfl) <| u (bi (.t rfl) (.i rfl) rfl) <| u (io sf23 (.t rfl) rfl (.t rfl) (ix_map cells_Template hx3)) <| u (le tf56 (.t rfl) rfl (ix_lt (ix_map _ hx3)).2.2 rfl) <| al 4 zf56 rfl <| st tf56 (.t rfl) rfl (.t rfl) rfl rfl rfl <| .nil _) rfl ?_
    refine .sq ?_
    refine .sq ?_
    refine be h fun x4 hx4 h => ?_
    refine .rg (u (mv (.t rfl)) <| cly 17000000 cf87 (AY.ly (fun i => bif Nat.beq i 9000 then 9000 else i) (templ_eye_num_y1_c hx4) rfl rfl rfl rfl rfl rfl rfl)  (.c (.t rfl) <| .c (.i rfl) <| .n) rfl (.c rfl <| .n) rfl <| .nil _) rfl ?_
    refine .bl ?_
    refine .sq ?_
    refine .rg (u (bc (.t rfl) (.i rfl) rfl rfl) <| u (asg (.t rfl)) <| .nil _) rfl ?_
    refine .jq (t := some u1) (fun (a : Template) => ⟨[(0, .ptr 9000 0), (3, .own 3), (4, .ptr 4 0)], [(3, some (.arr 56 5 (List.map cells_Template v1))), (4, some (.box [.ro (.int .i64 a.sid), .ro (.int .i64 a.tid), .ro (.list 1 (List.map (ei .i64) a.marks)), .ro (.list 1 (List.map (ei .i64) a.diffs)), .ro (.list 1 (List.map (ei .i64) a.chains))])), (9000, some (.box [.ro (.list 1 (List.map e8 x4.2.c.bytes)), .ro (.int .i64 x4.2.c.at_), .ro (.int .i64 x4.2.c.err)]))]⟩) (fun (a : Template) => templ_eye_layers_y1_j2 z v1 x4 a) ?_ (fun J2 => ?_)
    · intro v5 h
      replace h : templ_eye_layers_y1_j2 z v1 x4 v5 = _ := h
      unfold templ_eye_layers_y1_j2 at h
      refine .ib ?_
      refine .sq ?_
      refine be h fun x6 hx6 h => ?_
      refine .rg (u (mv (.t rfl)) <| u (fa ff56_1 (.t rfl)) <| u (ld tf3 (.t rfl) rfl rfl) <| u (bc (.t rfl) (.i rfl) rfl rfl) <| u (mv (.t rfl)) <| gd rfl rfl (fun hB => fa ff56_0 (.t rfl)) <| gd rfl rfl (fun hB => ld tf3 (.m rfl hB) rfl rfl) <| gd rfl rfl (fun hB => bc (.m rfl hB) (.i rfl) rfl rfl) <| u (pka (.t rfl) (.t rfl)) <| u (mv (.t rfl)) <| gd rfl rfl (fun hB => mv (.t rfl)) <| gd rfl rfl (fun hB => lom sf23 (.m rfl hB) rfl) <| gd rfl rfl (fun hB => bc (.m rfl hB) (.i rfl) rfl rfl) <| u (pka (.t rfl) (.t rfl)) <| cly 48000000 cf109 (AY.ly (fun i => bif Nat.beq i 9000 then 9000 else i) (templ_eye_need_y1_c hx6) rfl rfl rfl rfl rfl rfl rfl)  (.c (.t rfl) <| .c (.t rfl) <| .n) rfl (.c rfl <| .n) rfl <| .nil _) rfl ?_
      refine be h fun x7 hx7 h => ?_
      refine .rg (u (mv (.t rfl)) <| u (ld tf56 (.t rfl) rfl rfl) <| bs (F := cells_Template) (l := [v5]) 50 pf23 (.c (.t rfl) rfl <| .n) rfl (fun _ _ => rfl) rfl rfl <| apo 51 pf23 (.t rfl) rfl (.t rfl) rfl hx7 rfl <| u (asg (.t rfl)) <| .nil _) rfl ?_
      refine .ib ?_
      exact .ks (fun i => bif Nat.beq i 3 then 51 else i) (.il (ih1 (x7, x6) (nxi h))) (.c rfl (.c rfl .n)) (.c rfl (.c rfl .n)) rfl
    refine .bq h (.t rfl) (fun h => ?_) (fun h => ?_)
    · refine .rg (u (fa ff56_1 (.t rfl)) <| u (ld tf3 (.t rfl) rfl rfl) <| u (bi (.t rfl) (.i rfl) rfl) <| u (fa ff56_1 (.t rfl)) <| st tf3 (.t rfl) rfl (.t rfl) rfl rfl rfl <| .nil _) rfl ?_
      exact .kq (J2 ({ x3 with tid := (ar .add .i64 x3.tid 1) }) h) (.c rfl (.c rfl (.c rfl .n))) (.c rfl (.c rfl (.c rfl .n)))
    · refine .sq ?_
      refine .rg (u (bc (.t rfl) (.i rfl) rfl rfl) <| u (asg (.t rfl)) <| .nil _) rfl ?_
      refine .bq h (.t rfl) (fun h => ?_) (fun h => ?_)
      · refine .rg (u (fa ff56_0 (.t rfl)) <| u (ld tf3 (.t rfl) rfl rfl) <| u (bi (.t rfl) (.i rfl) rfl) <| u (fa ff56_0 (.t rfl)) <| st tf3 (.t rfl) rfl (.t rfl) rfl rfl rfl <| u (fa ff56_1 (.t rfl)) <| st tf3 (.t rfl) rfl (.i rfl) rfl rfl rfl <| .nil _) rfl ?_
        exact .kq (J2 ({ x3 with sid := (ar .add .i64 x3.sid 1), tid := 0 }) h) (.c rfl (.c rfl (.c rfl .n))) (.c rfl (.c rfl (.c rfl .n)))
      · refine .sq ?_
        refine .rg (u (bc (.t rfl) (.i rfl) rfl rfl) <| u (asg (.t rfl)) <| .nil _) rfl ?_
        refine .bq h (.t rfl) (fun h => ?_) (fun h => ?_)
        · refine .sq ?_
          refine .rg (u (mv (.t rfl)) <| u (asg (.t rfl)) <| .nil _) rfl ?_
          replace h := mpR h hx1
          obtain rfl := Option.some.inj h
          refine .ks (l := [(2, .own 8000), (0, .ptr 9000 0)]) (o := [(9000, some (.box [.ro (.list 1 (List.map e8 x4.2.c.bytes)), .ro (.int .i64 x4.2.c.at_), .ro (.int .i64 x4.2.c.err)])), (8000, some (.arr 56 5 (List.map cells_Template v1)))]) (fun i => bif Nat.beq i 8000 then 3 else i) ?_ (.c rfl (.c rfl .n)) (.c rfl (.c rfl .n)) rfl
          exact .rtx (o := [(9000, some (.box [.ro (.list 1 (List.map e8 x4.2.c.bytes)), .ro (.int .i64 x4.2.c.at_), .ro (.int .i64 x4.2.c.err)])), (8000, some (.arr 56 5 (List.map cells_Template v1)))]) Try.func88 (.t rfl <| .n) (.c rfl (.c rfl .n)) rfl rfl (.c rfl .n) rfl
        · refine .skp ?_
          exact .kq (J2 x3 h) (.c rfl (.c rfl (.c rfl .n))) (.c rfl (.c rfl (.c rfl .n)))
  · refine .xt rfl ?_
    replace h := mpR h hx1
    refine .sq ?_
    refine .rg (u (mv (.t rfl)) <| u (asg (.t rfl)) <| .nil _) rfl ?_
    obtain rfl := Option.some.inj h
    refine .ks (l := [(2, .own 8000), (0, .ptr 9000 0)]) (o := [(9000, some (.box [.ro (.list 1 (List.map e8 v2.c.bytes)), .ro (.int .i64 v2.c.at_), .ro (.int .i64 v2.c.err)])), (8000, some (.arr 56 5 (List.map cells_Template v1)))]) (fun i => bif Nat.beq i 8000 then 3 else i) ?_ (.c rfl (.c rfl .n)) (.c rfl (.c rfl .n)) rfl
    exact .rtx (o := [(9000, some (.box [.ro (.list 1 (List.map e8 v2.c.bytes)), .ro (.int .i64 v2.c.at_), .ro (.int .i64 v2.c.err)])), (8000, some (.arr 56 5 (List.map cells_Template v1)))]) Try.func88 (.t rfl <| .n) (.c rfl (.c rfl .n)) rfl rfl (.c rfl .n) rfl

theorem templ_eye_read_1_y1_c {z : Option Nat} {box0 : templ_eye} {r : Int × templ_eye} (h : templ_eye_read_1_y1 z box0 = some r) :
    AY Try.prog 90 [.cptr [.ptr 9000 0]] [(9000, [.list 1 (List.map e8 box0.c.bytes), .int .i64 box0.c.at_, .int .i64 box0.c.err])] [0] (.ro (.int .i64 r.1)) [] [(0, .cptr [.ptr 9000 0])] [(9000, [.list 1 (List.map e8 r.2.c.bytes), .int .i64 r.2.c.at_, .int .i64 r.2.c.err])] := by
  refine AY.of Try.func90 rfl rfl fun w X M0 hM pv => ?_
  refine .kq (l := [(0, .cptr [.ptr 9000 0])]) (o := [(9000, some (.box [.ro (.list 1 (List.map e8 box0.c.bytes)), .ro (.int .i64 box0.c.at_), .ro (.int .i64 box0.c.err)]))]) ?_ (.c rfl .n) (.c rfl .n)
  unfold templ_eye_read_1_y1 at h
  refine .sq ?_
  refine .rg (u (asg (.i rfl)) <| .nil _) rfl ?_
  refine .sq ?_
  refine be h fun x1 hx1 h => ?_
  refine .rg (u (lc tf94 (.t rfl) rfl) <| cly 4000000 cf87 (AY.ly (fun i => bif Nat.beq i 9000 then 9000 else i) (templ_eye_num_y1_c hx1) rfl rfl rfl rfl rfl rfl rfl)  (.c (.t rfl) <| .c (.i rfl) <| .n) rfl (.c rfl <| .n) rfl <| u (asg (.t rfl)) <| .nil _) rfl ?_
  obtain rfl := Option.some.inj h
  exact .rtx (o := [(9000, some (.box [.ro (.list 1 (List.map e8 x1.2.c.bytes)), .ro (.int .i64 x1.2.c.at_), .ro (.int .i64 x1.2.c.err)]))]) Try.func90 (.t rfl <| .n) (.c rfl .n) rfl rfl (.c rfl .n) rfl

theorem templ_eye_some_y1_c {z : Option Nat} {many : Int} {box0 : templ_eye} {r : List Int × templ_eye} (h : templ_eye_some_y1 z many box0 = some r) :
    AY Try.prog 89 [.ptr 9000 0, .ro (.int .i64 many), .fn (.func 90) [] [.cptr [.ptr 9000 0]]] [(9000, [.list 1 (List.map e8 box0.c.bytes), .int .i64 box0.c.at_, .int .i64 box0.c.err])] [0, 2] (.own 8000) [(8000, .arr 3 1 (List.map (ei .i64) r.1))] [(0, .ptr 9000 0), (2, .fn (.func 90) [] [.cptr [.ptr 9000 0]])] [(9000, [.list 1 (List.map e8 r.2.c.bytes), .int .i64 r.2.c.at_, .int .i64 r.2.c.err])] := by
  refine AY.of Try.func89 rfl rfl fun w X M0 hM pv => ?_
  refine .kq (l := [(0, .ptr 9000 0), (1, .ro (.int .i64 many)), (2, .fn (.func 90) [] [.cptr [.ptr 9000 0]])]) (o := [(9000, some (.box [.ro (.list 1 (List.map e8 box0.c.bytes)), .ro (.int .i64 box0.c.at_), .ro (.int .i64 box0.c.err)]))]) ?_ (.c rfl (.c rfl (.c rfl .n))) (.c rfl .n)
  unfold templ_eye_some_y1 at h
  refine .sq ?_
  refine .rg (anm (ei .i64) 6 3 1 rfl rfl <| .nil _) rfl ?_
  refine .sq ?_
  refine .rg (anm (ei .i64) 7 3 1 rfl rfl <| .nil _) rfl ?_
  refine .sq ?_
  refine .sq ?_
  refine .rg (u (asg (.i rfl)) <| .nil _) rfl ?_
  refine .bl ?_
  unfold templ_eye_some_y1_l1 at h
  refine .kq (.lo (fun (s : List Int × Int × templ_eye) => ⟨[(0, .ptr 9000 0), (1, .ro (.int .i64 many)), (2, .fn (.func 90) [] [.cptr [.ptr 9000 0]]), (7, .own 7), (8, .ro (.int .i64 s.2.1))], [(7, some (.arr 3 1 (List.map (ei .i64) s.1))), (9000, some (.box [.ro (.list 1 (List.map e8 s.2.2.c.bytes)), .ro (.int .i64 s.2.2.c.at_), .ro (.int .i64 s.2.2.c.err)]))]⟩) h ?_) (.c rfl (.c rfl (.c rfl (.c rfl (.c rfl .n))))) (.c rfl (.c rfl .n))
  rintro ⟨v1, v2, v3⟩ u1 h ih1 hx1
  replace h : templ_eye_some_y1_s1 z many v1 v2 v3 = _ := h
  unfold templ_eye_some_y1_s1 at h
  refine .sq ?_
  refine .sq ?_
  refine .rg (u (mv (.t rfl)) <| u (mv (.t rfl)) <| u (bc (.t rfl) (.t rfl) rfl rfl) <| u (mv (.t rfl)) <| gd rfl rfl (fun hB => mv (.t rfl)) <| cg rfl rfl cf52 (fun hB => (templ_eye_fine_p_c v3)) (fun hB => .p (.m rfl hB) rfl rfl rfl <| .n) (.inr rfl) <| u (pka (.t rfl) (.t rfl)) <| .nil _) rfl ?_
  refine .bq h (.t rfl) (fun h => ?_) (fun h => ?_)
  · refine .skp ?_
    refine .sq ?_
    refine .bl ?_
    refine be h fun x4 hx4 h => ?_
    refine be h fun x5 hx5 h => ?_
    refine .rg (u (mv (.t rfl)) <| u (mv (.t rfl)) <| cvy 21000000 cf90 (AY.ly (fun i => bif Nat.beq i 9000 then 9000 else i) (templ_eye_read_1_y1_c hx4) rfl rfl rfl rfl rfl rfl rfl) (.t rfl) (.n) rfl (.c rfl <| .n) rfl <| bs (F := (ei .i64)) (l := [x4.1]) 21 pf22 (.c (.t rfl) rfl <| .n) rfl (fun _ _ => rfl) rfl rfl <| apo 22 pf22 (.t rfl) rfl (.t rfl) rfl hx5 rfl <| u (asg (.t rfl)) <| .nil _) rfl ?_
    refine .ib ?_
    refine .rg (u (mv (.t rfl)) <| u (bi (.t rfl) (.i rfl) rfl) <| u (asg (.t rfl)) <| .nil _) rfl ?_
    exact .ks (fun i => bif Nat.beq i 7 then 22 else i) (.il (ih1 (x5, (ar .add .i64 v2 1), x4.2) (nxi h))) (.c rfl (.c rfl (.c rfl (.c rfl (.c rfl .n))))) (.c rfl (.c rfl .n)) rfl
  · refine .xt rfl ?_
    replace h := mpR h hx1
    refine .sq ?_
    refine .rg (u (mv (.t rfl)) <| u (asg (.t rfl)) <| .nil _) rfl ?_
    obtain rfl := Option.some.inj h
    refine .ks (l := [(6, .own 8000), (0, .ptr 9000 0), (2, .fn (.func 90) [] [.cptr [.ptr 9000 0]])]) (o := [(9000, some (.box [.ro (.list 1 (List.map e8 v3.c.bytes)), .ro (.int .i64 v3.c.at_), .ro (.int .i64 v3.c.err)])), (8000, some (.arr 3 1 (List.map (ei .i64) v1)))]) (fun i => bif Nat.beq i 8000 then 7 else i) ?_ (.c rfl (.c rfl (.c rfl .n))) (.c rfl (.c rfl .n)) rfl
    exact .rtx (o := [(9000, some (.box [.ro (.list 1 (List.map e8 v3.c.bytes)), .ro (.int .i64 v3.c.at_), .ro (.int .i64 v3.c.err)])), (8000, some (.arr 3 1 (List.map (ei .i64) v1)))]) Try.func89 (.t rfl <| .n) (.c rfl (.c rfl .n)) rfl rfl (.c rfl (.c rfl .n)) rfl

theorem templ_eye_some_y2_c {z : Option Nat} {many : Int} {box0 : templ_eye} {r : List Int × templ_eye} (h : templ_eye_some_y2 z many box0 = some r) :
    AY Try.prog 89 [.ptr 9000 0, .ro (.int .i64 many), .fn (.func 90) [] [.cptr [.ptr 9000 0]]] [(9000, [.list 1 (List.map e8 box0.c.bytes), .int .i64 box0.c.at_, .int .i64 box0.c.err])] [0, 2] (.ro (.list 1 (List.map (ei .i64) r.1))) [] [(0, .ptr 9000 0), (2, .fn (.func 90) [] [.cptr [.ptr 9000 0]])] [(9000, [.list 1 (List.map e8 r.2.c.bytes), .int .i64 r.2.c.at_, .int .i64 r.2.c.err])] := by
  refine AY.of Try.func89 rfl rfl fun w X M0 hM pv => ?_
  refine .kq (l := [(0, .ptr 9000 0), (1, .ro (.int .i64 many)), (2, .fn (.func 90) [] [.cptr [.ptr 9000 0]])]) (o := [(9000, some (.box [.ro (.list 1 (List.map e8 box0.c.bytes)), .ro (.int .i64 box0.c.at_), .ro (.int .i64 box0.c.err)]))]) ?_ (.c rfl (.c rfl (.c rfl .n))) (.c rfl .n)
  unfold templ_eye_some_y2 at h
  refine .sq ?_
  refine .rg (u (asg (.n (sz := 1) (F := (ei .i64)))) <| .nil _) rfl ?_
  refine .sq ?_
  refine .rg (anm (ei .i64) 7 3 1 rfl rfl <| .nil _) rfl ?_
  refine .sq ?_
  refine .sq ?_
  refine .rg (u (asg (.i rfl)) <| .nil _) rfl ?_
  refine .bl ?_
  unfold templ_eye_some_y2_l1 at h
  refine .kq (.lo (fun (s : List Int × Int × templ_eye) => ⟨[(0, .ptr 9000 0), (1, .ro (.int .i64 many)), (2, .fn (.func 90) [] [.cptr [.ptr 9000 0]]), (7, .own 7), (8, .ro (.int .i64 s.2.1))], [(7, some (.arr 3 1 (List.map (ei .i64) s.1))), (9000, some (.box [.ro (.list 1 (List.map e8 s.2.2.c.bytes)), .ro (.int .i64 s.2.2.c.at_), .ro (.int .i64 s.2.2.c.err)]))]⟩) h ?_) (.c rfl (.c rfl (.c rfl (.c rfl (.c rfl .n))))) (.c rfl (.c rfl .n))
  rintro ⟨v1, v2, v3⟩ u1 h ih1 hx1
  replace h : templ_eye_some_y2_s1 z many v1 v2 v3 = _ := h
  unfold templ_eye_some_y2_s1 at h
  refine .sq ?_
  refine .sq ?_
  refine .rg (u (mv (.t rfl)) <| u (mv (.t rfl)) <| u (bc (.t rfl) (.t rfl) rfl rfl) <| u (mv (.t rfl)) <| gd rfl rfl (fun hB => mv (.t rfl)) <| cg rfl rfl cf52 (fun hB => (templ_eye_fine_p_c v3)) (fun hB => .p (.m rfl hB) rfl rfl rfl <| .n) (.inr rfl) <| u (pka (.t rfl) (.t rfl)) <| .nil _) rfl ?_
  refine .bq h (.t rfl) (fun h => ?_) (fun h => ?_)
  · refine .skp ?_
    refine .sq ?_
    refine .bl ?_
    refine be h fun x4 hx4 h => ?_
    refine be h fun x5 hx5 h => ?_
    refine .rg (u (mv (.t rfl)) <| u (mv (.t rfl)) <| cvy 21000000 cf90 (AY.ly (fun i => bif Nat.beq i 9000 then 9000 else i) (templ_eye_read_1_y1_c hx4) rfl rfl rfl rfl rfl rfl rfl) (.t rfl) (.n) rfl (.c rfl <| .n) rfl <| bs (F := (ei .i64)) (l := [x4.1]) 21 pf22 (.c (.t rfl) rfl <| .n) rfl (fun _ _ => rfl) rfl rfl <| apo 22 pf22 (.t rfl) rfl (.t rfl) rfl hx5 rfl <| u (asg (.t rfl)) <| .nil _) rfl ?_
    refine .ib ?_
    refine .rg (u (mv (.t rfl)) <| u (bi (.t rfl) (.i rfl) rfl) <| u (asg (.t rfl)) <| .nil _) rfl ?_
    exact .ks (fun i => bif Nat.beq i 7 then 22 else i) (.il (ih1 (x5, (ar .add .i64 v2 1), x4.2) (nxi h))) (.c rfl (.c rfl (.c rfl (.c rfl (.c rfl .n))))) (.c rfl (.c rfl .n)) rfl
  · refine .xt rfl ?_
    replace h := mpR h hx1
    refine .sq ?_
    refine .rg (u (mv (.t rfl)) <| u (asg (.t rfl)) <| .nil _) rfl ?_
    refine .fz 7 rfl ?_
    obtain rfl := Option.some.inj h
    exact .rtx (o := [(9000, some (.box [.ro (.list 1 (List.map e8 v3.c.bytes)), .ro (.int .i64 v3.c.at_), .ro (.int .i64 v3.c.err)]))]) Try.func89 (.t rfl <| .n) (.c rfl .n) rfl rfl (.c rfl (.c rfl .n)) rfl

theorem templ_eye_diffs_y1_c {z : Option Nat} {box0 : templ_eye} {r : List Int × templ_eye} (h : templ_eye_diffs_y1 z box0 = some r) :
    AY Try.prog 91 [.ptr 9000 0] [(9000, [.list 1 (List.map e8 box0.c.bytes), .int .i64 box0.c.at_, .int .i64 box0.c.err])] [0] (.own 8000) [(8000, .arr 3 1 (List.map (ei .i64) r.1))] [(0, .ptr 9000 0)] [(9000, [.list 1 (List.map e8 r.2.c.bytes), .int .i64 r.2.c.at_, .int .i64 r.2.c.err])] := by
  refine AY.of Try.func91 rfl rfl fun w X M0 hM pv => ?_
  refine .kq (l := [(0, .ptr 9000 0)]) (o := [(9000, some (.box [.ro (.list 1 (List.map e8 box0.c.bytes)), .ro (.int .i64 box0.c.at_), .ro (.int .i64 box0.c.err)]))]) ?_ (.c rfl .n) (.c rfl .n)
  unfold templ_eye_diffs_y1 at h
  refine .sq ?_
  refine .rg (anm (ei .i64) 2 3 1 rfl rfl <| .nil _) rfl ?_
  refine .sq ?_
  refine .rg (anm (ei .i64) 3 3 1 rfl rfl <| .nil _) rfl ?_
  refine .sq ?_
  refine .bl ?_
  unfold templ_eye_diffs_y1_l1 at h
  refine .kq (.lo (fun (s : List Int × templ_eye) => ⟨[(0, .ptr 9000 0), (3, .own 3)], [(3, some (.arr 3 1 (List.map (ei .i64) s.1))), (9000, some (.box [.ro (.list 1 (List.map e8 s.2.c.bytes)), .ro (.int .i64 s.2.c.at_), .ro (.int .i64 s.2.c.err)]))]⟩) h ?_) (.c rfl (.c rfl .n)) (.c rfl (.c rfl .n))
  rintro ⟨v1, v2⟩ u1 h ih1 hx1
  replace h : templ_eye_diffs_y1_s1 z v1 v2 = _ := h
  unfold templ_eye_diffs_y1_s1 at h
  refine .sq ?_
  refine .sq ?_
  refine be h fun x3 hx3 h => ?_
  refine .rg (u (mv (.t rfl)) <| cly 6000000 cf87 (AY.ly (fun i => bif Nat.beq i 9000 then 9000 else i) (templ_eye_num_y1_c hx3) rfl rfl rfl rfl rfl rfl rfl)  (.c (.t rfl) <| .c (.i rfl) <| .n) rfl (.c rfl <| .n) rfl <| u (bc (.t rfl) (.i rfl) rfl rfl) <| u (mv (.t rfl)) <| gd rfl rfl (fun hB => mv (.t rfl)) <| cg rfl rfl cf52 (fun hB => (templ_eye_fine_p_c x3.2)) (fun hB => .p (.m rfl hB) rfl rfl rfl <| .n) (.inr rfl) <| u (pka (.t rfl) (.t rfl)) <| .nil _) rfl ?_
  refine .bq h (.t rfl) (fun h => ?_) (fun h => ?_)
  · refine .skp ?_
    refine .bl ?_
    refine .sq ?_
    refine be h fun x4 hx4 h => ?_
    refine .rg (u (mv (.t rfl)) <| u (mv (.t rfl)) <| u (lom sf22 (.t rfl) rfl) <| u (bc (.t rfl) (.i rfl) rfl rfl) <| cly 16000000 cf109 (AY.ly (fun i => bif Nat.beq i 9000 then 9000 else i) (templ_eye_need_y1_c hx4) rfl rfl rfl rfl rfl rfl rfl)  (.c (.t rfl) <| .c (.t rfl) <| .n) rfl (.c rfl <| .n) rfl <| .nil _) rfl ?_
    refine be h fun x5 hx5 h => ?_
    refine be h fun x6 hx6 h => ?_
    refine .rg (u (mv (.t rfl)) <| u (mv (.t rfl)) <| cly 19000000 cf87 (AY.ly (fun i => bif Nat.beq i 9000 then 9000 else i) (templ_eye_num_y1_c hx5) rfl rfl rfl rfl rfl rfl rfl)  (.c (.t rfl) <| .c (.i rfl) <| .n) rfl (.c rfl <| .n) rfl <| u (bi (.t rfl) (.i rfl) rfl) <| bs (F := (ei .i64)) (l := [(ar .add .i64 x5.1 1)]) 20 pf22 (.c (.t rfl) rfl <| .n) rfl (fun _ _ => rfl) rfl rfl <| apo 21 pf22 (.t rfl) rfl (.t rfl) rfl hx6 rfl <| u (asg (.t rfl)) <| .nil _) rfl ?_
    refine .ib ?_
    exact .ks (fun i => bif Nat.beq i 3 then 21 else i) (.il (ih1 (x6, x5.2) (nxi h))) (.c rfl (.c rfl .n)) (.c rfl (.c rfl .n)) rfl
  · refine .xt rfl ?_
    replace h := mpR h hx1
    refine .sq ?_
    refine .rg (u (mv (.t rfl)) <| u (asg (.t rfl)) <| .nil _) rfl ?_
    obtain rfl := Option.some.inj h
    refine .ks (l := [(2, .own 8000), (0, .ptr 9000 0)]) (o := [(9000, some (.box [.ro (.list 1 (List.map e8 x3.2.c.bytes)), .ro (.int .i64 x3.2.c.at_), .ro (.int .i64 x3.2.c.err)])), (8000, some (.arr 3 1 (List.map (ei .i64) v1)))]) (fun i => bif Nat.beq i 8000 then 3 else i) ?_ (.c rfl (.c rfl .n)) (.c rfl (.c rfl .n)) rfl
    exact .rtx (o := [(9000, some (.box [.ro (.list 1 (List.map e8 x3.2.c.bytes)), .ro (.int .i64 x3.2.c.at_), .ro (.int .i64 x3.2.c.err)])), (8000, some (.arr 3 1 (List.map (ei .i64) v1)))]) Try.func91 (.t rfl <| .n) (.c rfl (.c rfl .n)) rfl rfl (.c rfl .n) rfl

theorem templ_eye_diffs_y2_c {z : Option Nat} {box0 : templ_eye} {r : List Int × templ_eye} (h : templ_eye_diffs_y2 z box0 = some r) :
    AY Try.prog 91 [.ptr 9000 0] [(9000, [.list 1 (List.map e8 box0.c.bytes), .int .i64 box0.c.at_, .int .i64 box0.c.err])] [0] (.ro (.list 1 (List.map (ei .i64) r.1))) [] [(0, .ptr 9000 0)] [(9000, [.list 1 (List.map e8 r.2.c.bytes), .int .i64 r.2.c.at_, .int .i64 r.2.c.err])] := by
  refine AY.of Try.func91 rfl rfl fun w X M0 hM pv => ?_
  refine .kq (l := [(0, .ptr 9000 0)]) (o := [(9000, some (.box [.ro (.list 1 (List.map e8 box0.c.bytes)), .ro (.int .i64 box0.c.at_), .ro (.int .i64 box0.c.err)]))]) ?_ (.c rfl .n) (.c rfl .n)
  unfold templ_eye_diffs_y2 at h
  refine .sq ?_
  refine .rg (u (asg (.n (sz := 1) (F := (ei .i64)))) <| .nil _) rfl ?_
  refine .sq ?_
  refine .rg (anm (ei .i64) 3 3 1 rfl rfl <| .nil _) rfl ?_
  refine .sq ?_
  refine .bl ?_
  unfold templ_eye_diffs_y2_l1 at h
  refine .kq (.lo (fun (s : List Int × templ_eye) => ⟨[(0, .ptr 9000 0), (3, .own 3)], [(3, some (.arr 3 1 (List.map (ei .i64) s.1))), (9000, some (.box [.ro (.list 1 (List.map e8 s.2.c.bytes)), .ro (.int .i64 s.2.c.at_), .ro (.int .i64 s.2.c.err)]))]⟩) h ?_) (.c rfl (.c rfl .n)) (.c rfl (.c rfl .n))
  rintro ⟨v1, v2⟩ u1 h ih1 hx1
  replace h : templ_eye_diffs_y2_s1 z v1 v2 = _ := h
  unfold templ_eye_diffs_y2_s1 at h
  refine .sq ?_
  refine .sq ?_
  refine be h fun x3 hx3 h => ?_
  refine .rg (u (mv (.t rfl)) <| cly 6000000 cf87 (AY.ly (fun i => bif Nat.beq i 9000 then 9000 else i) (templ_eye_num_y1_c hx3) rfl rfl rfl rfl rfl rfl rfl)  (.c (.t rfl) <| .c (.i rfl) <| .n) rfl (.c rfl <| .n) rfl <| u (bc (.t rfl) (.i rfl) rfl rfl) <| u (mv (.t rfl)) <| gd rfl rfl (fun hB => mv (.t rfl)) <| cg rfl rfl cf52 (fun hB => (templ_eye_fine_p_c x3.2)) (fun hB => .p (.m rfl hB) rfl rfl rfl <| .n) (.inr rfl) <| u (pka (.t rfl) (.t rfl)) <| .nil _) rfl ?_
  refine .bq h (.t rfl) (fun h => ?_) (fun h => ?_)
  · refine .skp ?_
    refine .bl ?_
    refine .sq ?_
    refine be h fun x4 hx4 h => ?_
    refine .rg (u (mv (.t rfl)) <| u (mv (.t rfl)) <| u (lom sf22 (.t rfl) rfl) <| u (bc (.t rfl) (.i rfl) rfl rfl) <| cly 16000000 cf109 (AY.ly (fun i => bif Nat.beq i 9000 then 9000 else i) (templ_eye_need_y1_c hx4) rfl rfl rfl rfl rfl rfl rfl)  (.c (.t rfl) <| .c (.t rfl) <| .n) rfl (.c rfl <| .n) rfl <| .nil _) rfl ?_
    refine be h fun x5 hx5 h => ?_
    refine be h fun x6 hx6 h => ?_
    refine .rg (u (mv (.t rfl)) <| u (mv (.t rfl)) <| cly 19000000 cf87 (AY.ly (fun i => bif Nat.beq i 9000 then 9000 else i) (templ_eye_num_y1_c hx5) rfl rfl rfl rfl rfl rfl rfl)  (.c (.t rfl) <| .c (.i rfl) <| .n) rfl (.c rfl <| .n) rfl <| u (bi (.t rfl) (.i rfl) rfl) <| bs (F := (ei .i64)) (l := [(ar .add .i64 x5.1 1)]) 20 pf22 (.c (.t rfl) rfl <| .n) rfl (fun _ _ => rfl) rfl rfl <| apo 21 pf22 (.t rfl) rfl (.t rfl) rfl hx6 rfl <| u (asg (.t rfl)) <| .nil _) rfl ?_
    refine .ib ?_
    exact .ks (fun i => bif Nat.beq i 3 then 21 else i) (.il (ih1 (x6, x5.2) (nxi h))) (.c rfl (.c rfl .n)) (.c rfl (.c rfl .n)) rfl
  · refine .xt rfl ?_
    replace h := mpR h hx1
    refine .sq ?_
    refine .rg (u (mv (.t rfl)) <| u (asg (.t rfl)) <| .nil _) rfl ?_
    refine .fz 3 rfl ?_
    obtain rfl := Option.some.inj h
    exact .rtx (o := [(9000, some (.box [.ro (.list 1 (List.map e8 x3.2.c.bytes)), .ro (.int .i64 x3.2.c.at_), .ro (.int .i64 x3.2.c.err)]))]) Try.func91 (.t rfl <| .n) (.c rfl .n) rfl rfl (.c rfl .n) rfl

theorem templ_eye_ranged_y1_c {z : Option Nat} {many : Int} {box0 : templ_eye} {r : Int × templ_eye} (h : templ_eye_ranged_y1 z many box0 = some r) :
    AY Try.prog 92 [.ptr 9000 0, .ro (.int .i64 many)] [(9000, [.list 1 (List.map e8 box0.c.bytes), .int .i64 box0.c.at_, .int .i64 box0.c.err])] [0] (.ro (.int .i64 r.1)) [] [(0, .ptr 9000 0)] [(9000, [.list 1 (List.map e8 r.2.c.bytes), .int .i64 r.2.c.at_, .int .i64 r.2.c.err])] := by
  refine AY.of Try.func92 rfl rfl fun w X M0 hM pv => ?_
  refine .kq (l := [(0, .ptr 9000 0), (1, .ro (.int .i64 many))]) (o := [(9000, some (.box [.ro (.list 1 (List.map e8 box0.c.bytes)), .ro (.int .i64 box0.c.at_), .ro (.int .i64 box0.c.err)]))]) ?_ (.c rfl (.c rfl .n)) (.c rfl .n)
  unfold templ_eye_ranged_y1 at h
  refine .sq ?_
  refine .rg (u (asg (.i rfl)) <| .nil _) rfl ?_
  refine .sq ?_
  refine be h fun x1 hx1 h => ?_
  refine .rg (u (mv (.t rfl)) <| u (nkp (.t rfl)) <| u (fa ff96_0 (.t rfl)) <| u (ld tf32 (.t rfl) rfl rfl) <| u (mv (.t rfl)) <| u (cv cv3_50 (.t rfl)) <| cl [] cf110 (bits_Range_c hx1) (.c (.t rfl) <| .c (.t rfl) <| .n) (.inl rfl) <| u (mv (.t rfl)) <| u (ex (.t rfl) rfl rfl) <| u (ex (.t rfl) rfl rfl) <| al 5 zf32 rfl <| st tf32 (.t rfl) rfl (.t rfl) rfl rfl rfl <| u (asg (.t rfl)) <| .nil _) rfl ?_
  refine .sq ?_
  refine .rg (u (mv (.t rfl)) <| u (ld tf32 (.t rfl) rfl rfl) <| u (nkp (.t rfl)) <| u (fa ff96_0 (.t rfl)) <| st tf32 (.t rfl) rfl (.t rfl) rfl rfl rfl <| .nil _) rfl ?_
  refine .sq ?_
  refine .rg (u (mv (.t rfl)) <| u (cv cv50_3 (.t rfl)) <| u (asg (.t rfl)) <| .nil _) rfl ?_
  obtain rfl := Option.some.inj h
  exact .rtx (o := [(9000, some (.box [.ro (.list 1 (List.map e8 x1.1.bytes)), .ro (.int .i64 x1.1.at_), .ro (.int .i64 x1.1.err)]))]) Try.func92 (.t rfl <| .n) (.c rfl .n) rfl rfl (.c rfl .n) rfl

theorem templ_eye_read_3_y1_c {z : Option Nat} {box0 : templ_eye} {r : Int × templ_eye} (h : templ_eye_read_3_y1 z box0 = some r) :
    AY Try.prog 94 [.cptr [.ptr 9000 0]] [(9000, [.list 1 (List.map e8 box0.c.bytes), .int .i64 box0.c.at_, .int .i64 box0.c.err])] [0] (.ro (.int .i64 r.1)) [] [(0, .cptr [.ptr 9000 0])] [(9000, [.list 1 (List.map e8 r.2.c.bytes), .int .i64 r.2.c.at_, .int .i64 r.2.c.err])] := by
  refine AY.of Try.func94 rfl rfl fun w X M0 hM pv => ?_
  refine .kq (l := [(0, .cptr [.ptr 9000 0])]) (o := [(9000, some (.box [.ro (.list 1 (List.map e8 box0.c.bytes)), .ro (.int .i64 box0.c.at_), .ro (.int .i64 box0.c.err)]))]) ?_ (.c rfl .n) (.c rfl .n)
  unfold templ_eye_read_3_y1 at h
  refine .sq ?_
  refine .rg (u (asg (.i rfl)) <| .nil _) rfl ?_
  refine .sq ?_
  refine be h fun x1 hx1 h => ?_
  refine .rg (u (lc tf94 (.t rfl) rfl) <| cly 4000000 cf87 (AY.ly (fun i => bif Nat.beq i 9000 then 9000 else i) (templ_eye_num_y1_c hx1) rfl rfl rfl rfl rfl rfl rfl)  (.c (.t rfl) <| .c (.i rfl) <| .n) rfl (.c rfl <| .n) rfl <| u (asg (.t rfl)) <| .nil _) rfl ?_
  obtain rfl := Option.some.inj h
  exact .rtx (o := [(9000, some (.box [.ro (.list 1 (List.map e8 x1.2.c.bytes)), .ro (.int .i64 x1.2.c.at_), .ro (.int .i64 x1.2.c.err)]))]) Try.func94 (.t rfl <| .n) (.c rfl .n) rfl rfl (.c rfl .n) rfl

theorem templ_eye_some_y3_c {z : Option Nat} {many : Int} {box0 : templ_eye} {r : List Int × templ_eye} (h : templ_eye_some_y3 z many box0 = some r) :
    AY Try.prog 89 [.ptr 9000 0, .ro (.int .i64 many), .fn (.func 94) [] [.cptr [.ptr 9000 0]]] [(9000, [.list 1 (List.map e8 box0.c.bytes), .int .i64 box0.c.at_, .int .i64 box0.c.err])] [0, 2] (.own 8000) [(8000, .arr 3 1 (List.map (ei .i64) r.1))] [(0, .ptr 9000 0), (2, .fn (.func 94) [] [.cptr [.ptr 9000 0]])] [(9000, [.list 1 (List.map e8 r.2.c.bytes), .int .i64 r.2.c.at_, .int .i64 r.2.c.err])] := by
  refine AY.of Try.func89 rfl rfl fun w X M0 hM pv => ?_
  refine .kq (l := [(0, .ptr 9000 0), (1, .ro (.int .i64 many)), (2, .fn (.func 94) [] [.cptr [.ptr 9000 0]])]) (o := [(9000, some (.box [.ro (.list 1 (List.map e8 box0.c.bytes)), .ro (.int .i64 box0.c.at_), .ro (.int .i64 box0.c.err)]))]) ?_ (.c rfl (.c rfl (.c rfl .n))) (.c rfl .n)
  unfold templ_eye_some_y3 at h
  refine .sq ?_
  refine .rg (anm (ei .i64) 6 3 1 rfl rfl <| .nil _) rfl ?_
  refine .sq ?_
  refine .rg (anm (ei .i64) 7 3 1 rfl rfl <| .nil _) rfl ?_
  refine .sq ?_
  refine .sq ?_
  refine .rg (u (asg (.i rfl)) <| .nil _) rfl ?_
  refine .bl ?_
  unfold templ_eye_some_y3_l1 at h
  refine .kq (.lo (fun (s : List Int × Int × templ_eye) => ⟨[(0, .ptr 9000 0), (1, .ro (.int .i64 many)), (2, .fn (.func 94) [] [.cptr [.ptr 9000 0]]), (7, .own 7), (8, .ro (.int .i64 s.2.1))], [(7, some (.arr 3 1 (List.map (ei .i64) s.1))), (9000, some (.box [.ro (.list 1 (List.map e8 s.2.2.c.bytes)), .ro (.int .i64 s.2.2.c.at_), .ro (.int .i64 s.2.2.c.err)]))]⟩) h ?_) (.c rfl (.c rfl (.c rfl (.c rfl (.c rfl .n))))) (.c rfl (.c rfl .n))
  rintro ⟨v1, v2, v3⟩ u1 h ih1 hx1
  replace h : templ_eye_some_y3_s1 z many v1 v2 v3 = _ := h
  unfold templ_eye_some_y3_s1 at h
  refine .sq ?_
  refine .sq ?_
  refine .rg (u (mv (.t rfl)) <| u (mv (.t rfl)) <| u (bc (.t rfl) (.t rfl) rfl rfl) <| u (mv (.t rfl)) <| gd rfl rfl (fun hB => mv (.t rfl)) <| cg rfl rfl cf52 (fun hB => (templ_eye_fine_p_c v3)) (fun hB => .p (.m rfl hB) rfl rfl rfl <| .n) (.inr rfl) <| u (pka (.t rfl) (.t rfl)) <| .nil _) rfl ?_
  refine .bq h (.t rfl) (fun h => ?_) (fun h => ?_)
  · refine .skp ?_
    refine .sq ?_
    refine .bl ?_
    refine be h fun x4 hx4 h => ?_
    refine be h fun x5 hx5 h => ?_
    refine .rg (u (mv (.t rfl)) <| u (mv (.t rfl)) <| cvy 21000000 cf94 (AY.ly (fun i => bif Nat.beq i 9000 then 9000 else i) (templ_eye_read_3_y1_c hx4) rfl rfl rfl rfl rfl rfl rfl) (.t rfl) (.n) rfl (.c rfl <| .n) rfl <| bs (F := (ei .i64)) (l := [x4.1]) 21 pf22 (.c (.t rfl) rfl <| .n) rfl (fun _ _ => rfl) rfl rfl <| apo 22 pf22 (.t rfl) rfl (.t rfl) rfl hx5 rfl <| u (asg (.t rfl)) <| .nil _) rfl ?_
    refine .ib ?_
    refine .rg (u (mv (.t rfl)) <| u (bi (.t rfl) (.i rfl) rfl) <| u (asg (.t rfl)) <| .nil _) rfl ?_
    exact .ks (fun i => bif Nat.beq i 7 then 22 else i) (.il (ih1 (x5, (ar .add .i64 v2 1), x4.2) (nxi h))) (.c rfl (.c rfl (.c rfl (.c rfl (.c rfl .n))))) (.c rfl (.c rfl .n)) rfl
  · refine .xt rfl ?_
    replace h := mpR h hx1
    refine .sq ?_
    refine .rg (u (mv (.t rfl)) <| u (asg (.t rfl)) <| .nil _) rfl ?_
    obtain rfl := Option.some.inj h
    refine .ks (l := [(6, .own 8000), (0, .ptr 9000 0), (2, .fn (.func 94) [] [.cptr [.ptr 9000 0]])]) (o := [(9000, some (.box [.ro (.list 1 (List.map e8 v3.c.bytes)), .ro (.int .i64 v3.c.at_), .ro (.int .i64 v3.c.err)])), (8000, some (.arr 3 1 (List.map (ei .i64) v1)))]) (fun i => bif Nat.beq i 8000 then 7 else i) ?_ (.c rfl (.c rfl (.c rfl .n))) (.c rfl (.c rfl .n)) rfl
    exact .rtx (o := [(9000, some (.box [.ro (.list 1 (List.map e8 v3.c.bytes)), .ro (.int .i64 v3.c.at_), .ro (.int .i64 v3.c.err)])), (8000, some (.arr 3 1 (List.map (ei .i64) v1)))]) Try.func89 (.t rfl <| .n) (.c rfl (.c rfl .n)) rfl rfl (.c rfl (.c rfl .n)) rfl

theorem templ_eye_some_y4_c {z : Option Nat} {many : Int} {box0 : templ_eye} {r : List Int × templ_eye} (h : templ_eye_some_y4 z many box0 = some r) :
    AY Try.prog 89 [.ptr 9000 0, .ro (.int .i64 many), .fn (.func 94) [] [.cptr [.ptr 9000 0]]] [(9000, [.list 1 (List.map e8 box0.c.bytes), .int .i64 box0.c.at_, .int .i64 box0.c.err])] [0, 2] (.ro (.list 1 (List.map (ei .i64) r.1))) [] [(0, .ptr 9000 0), (2, .fn (.func 94) [] [.cptr [.ptr 9000 0]])] [(9000, [.list 1 (List.map e8 r.2.c.bytes), .int .i64 r.2.c.at_, .int .i64 r.2.c.err])] := by
  refine AY.of Try.func89 rfl rfl fun w X M0 hM pv => ?_
  refine .kq (l := [(0, .ptr 9000 0), (1, .ro (.int .i64 many)), (2, .fn (.func 94) [] [.cptr [.ptr 9000 0]])]) (o := [(9000, some (.box [.ro (.list 1 (List.map e8 box0.c.bytes)), .ro (.int .i64 box0.c.at_), .ro (.int .i64 box0.c.err)]))]) ?_ (.c rfl (.c rfl (.c rfl .n))) (.c rfl .n)
  unfold templ_eye_some_y4 at h
  refine .sq ?_
  refine .rg (u (asg (.n (sz := 1) (F := (ei .i64)))) <| .nil _) rfl ?_
  refine .sq ?_
  refine .rg (anm (ei .i64) 7 3 1 rfl rfl <| .nil _) rfl ?_
  refine .sq ?_
  refine .sq ?_
  refine .rg (u (asg (.i rfl)) <| .nil _) rfl ?_
  refine .bl ?_
  unfold templ_eye_some_y4_l1 at h
  refine .kq (.lo (fun (s : List Int × Int × templ_eye) => ⟨[(0, .ptr 9000 0), (1, .ro (.int .i64 many)), (2, .fn (.func 94) [] [.cptr [.ptr 9000 0]]), (7, .own 7), (8, .ro (.int .i64 s.2.1))], [(7, some (.arr 3 1 (List.map (ei .i64) s.1))), (9000, some (.box [.ro (.list 1 (List.map e8 s.2.2.c.bytes)), .ro (.int .i64 s.2.2.c.at_), .ro (.int .i64 s.2.2.c.err)]))]⟩) h ?_) (.c rfl (.c rfl (.c rfl (.c rfl (.c rfl .n))))) (.c rfl (.c rfl .n))
  rintro ⟨v1, v2, v3⟩ u1 h ih1 hx1
  replace h : templ_eye_some_y4_s1 z many v1 v2 v3 = _ := h
  unfold templ_eye_some_y4_s1 at h
  refine .sq ?_
  refine .sq ?_
  refine .rg (u (mv (.t rfl)) <| u (mv (.t rfl)) <| u (bc (.t rfl) (.t rfl) rfl rfl) <| u (mv (.t rfl)) <| gd rfl rfl (fun hB => mv (.t rfl)) <| cg rfl rfl cf52 (fun hB => (templ_eye_fine_p_c v3)) (fun hB => .p (.m rfl hB) rfl rfl rfl <| .n) (.inr rfl) <| u (pka (.t rfl) (.t rfl)) <| .nil _) rfl ?_
  refine .bq h (.t rfl) (fun h => ?_) (fun h => ?_)
  · refine .skp ?_
    refine .sq ?_
    refine .bl ?_
    refine be h fun x4 hx4 h => ?_
    refine be h fun x5 hx5 h => ?_
    refine .rg (u (mv (.t rfl)) <| u (mv (.t rfl)) <| cvy 21000000 cf94 (AY.ly (fun i => bif Nat.beq i 9000 then 9000 else i) (templ_eye_read_3_y1_c hx4) rfl rfl rfl rfl rfl rfl rfl) (.t rfl) (.n) rfl (.c rfl <| .n) rfl <| bs (F := (ei .i64)) (l := [x4.1]) 21 pf22 (.c (.t rfl) rfl <| .n) rfl (fun _ _ => rfl) rfl rfl <| apo 22 pf22 (.t rfl) rfl (.t rfl) rfl hx5 rfl <| u (asg (.t rfl)) <| .nil _) rfl ?_
    refine .ib ?_
    refine .rg (u (mv (.t rfl)) <| u (bi (.t rfl) (.i rfl) rfl) <| u (asg (.t rfl)) <| .nil _) rfl ?_
    exact .ks (fun i => bif Nat.beq i 7 then 22 else i) (.il (ih1 (x5, (ar .add .i64 v2 1), x4.2) (nxi h))) (.c rfl (.c rfl (.c rfl (.c rfl (.c rfl .n))))) (.c rfl (.c rfl .n)) rfl
  · refine .xt rfl ?_
    replace h := mpR h hx1
    refine .sq ?_
    refine .rg (u (mv (.t rfl)) <| u (asg (.t rfl)) <| .nil _) rfl ?_
    refine .fz 7 rfl ?_
    obtain rfl := Option.some.inj h
    exact .rtx (o := [(9000, some (.box [.ro (.list 1 (List.map e8 v3.c.bytes)), .ro (.int .i64 v3.c.at_), .ro (.int .i64 v3.c.err)]))]) Try.func89 (.t rfl <| .n) (.c rfl .n) rfl rfl (.c rfl (.c rfl .n)) rfl

theorem templ_eye_read_2_y1_c {z : Option Nat} {box0 : templ_eye} {box1 : Structure} {hq0 : Value} {hq1 : Value} {r : Int × templ_eye} (h : templ_eye_read_2_y1 z box0 box1 = some r) :
    AY Try.prog 93 [.cptr [.ptr 9000 0], .ptr 9001 0] [(9000, [.list 1 (List.map e8 box0.c.bytes), .int .i64 box0.c.at_, .int .i64 box0.c.err]), (9001, [.int .i64 box1.id_, .int .i64 box1.targets, .int .i64 box1.chains, .list 1 (List.map (ei .i64) box1.protect), .raw hq0, .raw hq1])] [0, 1] (.ro (.int .i64 r.1)) [] [(0, .cptr [.ptr 9000 0]), (1, .ptr 9001 0)] [(9000, [.list 1 (List.map e8 r.2.c.bytes), .int .i64 r.2.c.at_, .int .i64 r.2.c.err]), (9001, [.int .i64 box1.id_, .int .i64 box1.targets, .int .i64 box1.chains, .list 1 (List.map (ei .i64) box1.protect), .raw hq0, .raw hq1])] := by
  refine AY.of Try.func93 rfl rfl fun w X M0 hM pv => ?_
  refine .kq (l := [(0, .cptr [.ptr 9000 0]), (1, .ptr 9001 0)]) (o := [(9000, some (.box [.ro (.list 1 (List.map e8 box0.c.bytes)), .ro (.int .i64 box0.c.at_), .ro (.int .i64 box0.c.err)])), (9001, some (.box [.ro (.int .i64 box1.id_), .ro (.int .i64 box1.targets), .ro (.int .i64 box1.chains), .ro (.list 1 (List.map (ei .i64) box1.protect)), .ro (.raw hq0), .ro (.raw hq1)]))]) ?_ (.c rfl (.c rfl .n)) (.c rfl (.c rfl .n))
  unfold templ_eye_read_2_y1 at h
  refine .sq ?_
  refine .rg (u (asg (.i rfl)) <| .nil _) rfl ?_
  refine .sq ?_
  refine be h fun x1 hx1 h => ?_
  refine .rg (u (lc tf94 (.t rfl) rfl) <| u (fa ff26_2 (.t rfl)) <| u (ld tf3 (.t rfl) rfl rfl) <| cly 7000000 cf92 (AY.ly (fun i => bif Nat.beq i 9000 then 9000 else i) (templ_eye_ranged_y1_c hx1) rfl rfl rfl rfl rfl rfl rfl)  (.c (.t rfl) <| .c (.t rfl) <| .n) rfl (.c rfl <| .n) rfl <| u (asg (.t rfl)) <| .nil _) rfl ?_
  obtain rfl := Option.some.inj h
  exact .rtx (o := [(9000, some (.box [.ro (.list 1 (List.map e8 x1.2.c.bytes)), .ro (.int .i64 x1.2.c.at_), .ro (.int .i64 x1.2.c.err)])), (9001, some (.box [.ro (.int .i64 box1.id_), .ro (.int .i64 box1.targets), .ro (.int .i64 box1.chains), .ro (.list 1 (List.map (ei .i64) box1.protect)), .ro (.raw hq0), .ro (.raw hq1)]))]) Try.func93 (.t rfl <| .n) (.c rfl (.c rfl .n)) rfl rfl (.c rfl (.c rfl .n)) rfl

theorem templ_eye_some_y5_c {z : Option Nat} {many : Int} {box0 : templ_eye} {box1 : Structure} {hq0 : Value} {hq1 : Value} {r : List Int × templ_eye} (h : templ_eye_some_y5 z many box0 box1 = some r) :
    AY Try.prog 89 [.ptr 9000 0, .ro (.int .i64 many), .fn (.func 93) [] [.cptr [.ptr 9000 0], .ptr 9001 0]] [(9000, [.list 1 (List.map e8 box0.c.bytes), .int .i64 box0.c.at_, .int .i64 box0.c.err]), (9001, [.int .i64 box1.id_, .int .i64 box1.targets, .int .i64 box1.chains, .list 1 (List.map (ei .i64) box1.protect), .raw hq0, .raw hq1])] [0, 2] (.own 8000) [(8000, .arr 3 1 (List.map (ei .i64) r.1))] [(0, .ptr 9000 0), (2, .fn (.func 93) [] [.cptr [.ptr 9000 0], .ptr 9001 0])] [(9000, [.list 1 (List.map e8 r.2.c.bytes), .int .i64 r.2.c.at_, .int .i64 r.2.c.err]), (9001, [.int .i64 box1.id_, .int .i64 box1.targets, .int .i64 box1.chains, .list 1 (List.map (ei .i64) box1.protect), .raw hq0, .raw hq1])] := by
  refine AY.of Try.func89 rfl rfl fun w X M0 hM pv => ?_
  refine .kq (l := [(0, .ptr 9000 0), (1, .ro (.int .i64 many)), (2, .fn (.func 93) [] [.cptr [.ptr 9000 0], .ptr 9001 0])]) (o := [(9000, some (.box [.ro (.list 1 (List.map e8 box0.c.bytes)), .ro (.int .i64 box0.c.at_), .ro (.int .i64 box0.c.err)])), (9001, some (.box [.ro (.int .i64 box1.id_), .ro (.int .i64 box1.targets), .ro (.int .i64 box1.chains), .ro (.list 1 (List.map (ei .i64) box1.protect)), .ro (.raw hq0), .ro (.raw hq1)]))]) ?_ (.c rfl (.c rfl (.c rfl .n))) (.c rfl (.c rfl .n))
  unfold templ_eye_some_y5 at h
  refine .sq ?_
  refine .rg (anm (ei .i64) 6 3 1 rfl rfl <| .nil _) rfl ?_
  refine .sq ?_
  refine .rg (anm (ei .i64) 7 3 1 rfl rfl <| .nil _) rfl ?_
  refine .sq ?_
  refine .sq ?_
  refine .rg (u (asg (.i rfl)) <| .nil _) rfl ?_
  refine .bl ?_
  unfold templ_eye_some_y5_l1 at h
  refine .kq (.lo (fun (s : List Int × Int × templ_eye) => ⟨[(0, .ptr 9000 0), (1, .ro (.int .i64 many)), (2, .fn (.func 93) [] [.cptr [.ptr 9000 0], .ptr 9001 0]), (7, .own 7), (8, .ro (.int .i64 s.2.1))], [(7, some (.arr 3 1 (List.map (ei .i64) s.1))), (9000, some (.box [.ro (.list 1 (List.map e8 s.2.2.c.bytes)), .ro (.int .i64 s.2.2.c.at_), .ro (.int .i64 s.2.2.c.err)])), (9001, some (.box [.ro (.int .i64 box1.id_), .ro (.int .i64 box1.targets), .ro (.int .i64 box1.chains), .ro (.list 1 (List.map (ei .i64) box1.protect)), .ro (.raw hq0), .ro (.raw hq1)]))]⟩) h ?_) (.c rfl (.c rfl (.c rfl (.c rfl (.c rfl .n))))) (.c rfl (.c rfl (.c rfl .n)))
  rintro ⟨v1, v2, v3⟩ u1 h ih1 hx1
  replace h : templ_eye_some_y5_s1 z many box1 v1 v2 v3 = _ := h
  unfold templ_eye_some_y5_s1 at h
  refine .sq ?_
  refine .sq ?_
  refine .rg (u (mv (.t rfl)) <| u (mv (.t rfl)) <| u (bc (.t rfl) (.t rfl) rfl rfl) <| u (mv (.t rfl)) <| gd rfl rfl (fun hB => mv (.t rfl)) <| cg rfl rfl cf52 (fun hB => (templ_eye_fine_p_c v3)) (fun hB => .p (.m rfl hB) rfl rfl rfl <| .n) (.inr rfl) <| u (pka (.t rfl) (.t rfl)) <| .nil _) rfl ?_
  refine .bq h (.t rfl) (fun h => ?_) (fun h => ?_)
  · refine .skp ?_
    refine .sq ?_
    refine .bl ?_
    refine be h fun x4 hx4 h => ?_
    refine be h fun x5 hx5 h => ?_
    refine .rg (u (mv (.t rfl)) <| u (mv (.t rfl)) <| cvy 21000000 cf93 (AY.ly (fun i => bif Nat.beq i 9001 then 9001 else bif Nat.beq i 9000 then 9000 else i) (templ_eye_read_2_y1_c hx4) rfl rfl rfl rfl rfl rfl rfl) (.t rfl) (.n) rfl (.c rfl <| .c rfl <| .n) rfl <| bs (F := (ei .i64)) (l := [x4.1]) 21 pf22 (.c (.t rfl) rfl <| .n) rfl (fun _ _ => rfl) rfl rfl <| apo 22 pf22 (.t rfl) rfl (.t rfl) rfl hx5 rfl <| u (asg (.t rfl)) <| .nil _) rfl ?_
    refine .ib ?_
    refine .rg (u (mv (.t rfl)) <| u (bi (.t rfl) (.i rfl) rfl) <| u (asg (.t rfl)) <| .nil _) rfl ?_
    exact .ks (fun i => bif Nat.beq i 7 then 22 else i) (.il (ih1 (x5, (ar .add .i64 v2 1), x4.2) (nxi h))) (.c rfl (.c rfl (.c rfl (.c rfl (.c rfl .n))))) (.c rfl (.c rfl (.c rfl .n))) rfl
  · refine .xt rfl ?_
    replace h := mpR h hx1
    refine .sq ?_
    refine .rg (u (mv (.t rfl)) <| u (asg (.t rfl)) <| .nil _) rfl ?_
    obtain rfl := Option.some.inj h
    refine .ks (l := [(6, .own 8000), (0, .ptr 9000 0), (2, .fn (.func 93) [] [.cptr [.ptr 9000 0], .ptr 9001 0])]) (o := [(9000, some (.box [.ro (.list 1 (List.map e8 v3.c.bytes)), .ro (.int .i64 v3.c.at_), .ro (.int .i64 v3.c.err)])), (9001, some (.box [.ro (.int .i64 box1.id_), .ro (.int .i64 box1.targets), .ro (.int .i64 box1.chains), .ro (.list 1 (List.map (ei .i64) box1.protect)), .ro (.raw hq0), .ro (.raw hq1)])), (8000, some (.arr 3 1 (List.map (ei .i64) v1)))]) (fun i => bif Nat.beq i 8000 then 7 else i) ?_ (.c rfl (.c rfl (.c rfl .n))) (.c rfl (.c rfl (.c rfl .n))) rfl
    exact .rtx (o := [(9000, some (.box [.ro (.list 1 (List.map e8 v3.c.bytes)), .ro (.int .i64 v3.c.at_), .ro (.int .i64 v3.c.err)])), (9001, some (.box [.ro (.int .i64 box1.id_), .ro (.int .i64 box1.targets), .ro (.int .i64 box1.chains), .ro (.list 1 (List.map (ei .i64) box1.protect)), .ro (.raw hq0), .ro (.raw hq1)])), (8000, some (.arr 3 1 (List.map (ei .i64) v1)))]) Try.func89 (.t rfl <| .n) (.c rfl (.c rfl (.c rfl .n))) rfl rfl (.c rfl (.c rfl .n)) rfl

theorem templ_eye_read_y1_c {z : Option Nat} {box0 : templ_eye} {r : Structure × templ_eye} (h : templ_eye_read_y1 z box0 = some r) :
    AY Try.prog 51 [.ptr 9000 0] [(9000, [.list 1 (List.map e8 box0.c.bytes), .int .i64 box0.c.at_, .int .i64 box0.c.err])] [0] (.ro (enc_Structure r.1)) [] [(0, .ptr 9000 0)] [(9000, [.list 1 (List.map e8 r.2.c.bytes), .int .i64 r.2.c.at_, .int .i64 r.2.c.err])] := by
  refine AY.of Try.func51 rfl rfl fun w X M0 hM pv => ?_
  refine .kq (l := [(0, .ptr 9000 0)]) (o := [(9000, some (.box [.ro (.list 1 (List.map e8 box0.c.bytes)), .ro (.int .i64 box0.c.at_), .ro (.int .i64 box0.c.err)]))]) ?_ (.c rfl .n) (.c rfl .n)
  unfold templ_eye_read_y1 at h
  refine .sq ?_
  refine .rg (bx 1 (.t rfl) rfl rfl <| al 2 zf26 rfl <| .nil _) rfl ?_
  refine .fc 1 rfl ?_
  refine .sq ?_
  refine be h fun x1 hx1 h => ?_
  refine be h fun x2 hx2 h => ?_
  refine .rd mixed (u (lc tf94 (.t rfl) rfl) <| cly 9000000 cf87 (AY.ly (fun i => bif Nat.beq i 9000 then 9000 else i) (templ_eye_num_y1_c hx1) rfl rfl rfl rfl rfl rfl rfl)  (.c (.t rfl) <| .c (.i rfl) <| .n) rfl (.c rfl <| .n) rfl <| u (lc tf94 (.t rfl) rfl) <| cly 11000000 cf87 (AY.ly (fun i => bif Nat.beq i 9000 then 9000 else i) (templ_eye_num_y1_c hx2) rfl rfl rfl rfl rfl rfl rfl)  (.c (.t rfl) <| .c (.i rfl) <| .n) rfl (.c rfl <| .n) rfl <| u (bi (.t rfl) (.i rfl) rfl) <| u (bd bf26 zf26_4_5 (.c rfl (.t rfl) rfl rfl rfl <| .c rfl (.t rfl) rfl rfl rfl <| .n) rfl) <| al 3 zf26_4_5 rfl <| st tf26 (.t rfl) rfl (.t rfl) rfl rfl rfl <| .nil _) (by kernel_rfl) rfl ?_
  refine .th (F := cells_Template) 3 4 700304 56 5 rfl rfl rfl ?_
  refine .th (F := cells_Size) 3 5 700305 83 2 rfl rfl rfl ?_
  refine .sq ?_
  refine be h fun x3 hx3 h => ?_
  refine .rg (u (lc tf94 (.t rfl) rfl) <| cly 15000000 cf88 (AY.ly (fun i => bif Nat.beq i 9000 then 9000 else i) (templ_eye_layers_y1_c hx3) rfl rfl rfl rfl rfl rfl rfl)  (.c (.t rfl) <| .n) rfl (.c rfl <| .n) rfl <| u (fa ff26_4 (.t rfl)) <| st tf23 (.t rfl) rfl (.t rfl) rfl rfl rfl <| .nil _) rfl ?_
  refine .sq ?_
  refine .sq ?_
  refine .rg (u (fa ff26_4 (.t rfl)) <| u (ld tf23 (.t rfl) rfl rfl) <| u (lom sf23 (.t rfl) rfl) <| u (mv (.i rfl)) <| .nil _) rfl ?_
  refine .bl ?_
  unfold templ_eye_read_y1_l1 at h
  refine .ks (fun i => bif Nat.beq i 10130005 then 700305 else bif Nat.beq i 10130004 then 15008000 else i) (.lo (fun (s : Int × Structure × templ_eye) => ⟨[(0, .ptr 9000 0), (1, .cptr [.ptr 9000 0]), (2, .ptr 2 0), (3, .ptr 3 0), (18, .ro (.int .i64 (x3.1.length : Int))), (19, .ro (.int .i64 s.1))], [(2, some (.box [.ro (.int .i64 0), .ro (.int .i64 0), .ro (.int .i64 0), .ro (.list 1 (List.map (ei .i64) [])), .ro (.list 5 (List.map cells_Template [])), .ro (.list 2 (List.map cells_Size []))])), (3, some (.box [.ro (.int .i64 s.2.1.id_), .ro (.int .i64 s.2.1.targets), .ro (.int .i64 s.2.1.chains), .ro (.list 1 (List.map (ei .i64) s.2.1.protect)), .own 10130004, .own 10130005])), (9000, some (.box [.ro (.list 1 (List.map e8 s.2.2.c.bytes)), .ro (.int .i64 s.2.2.c.at_), .ro (.int .i64 s.2.2.c.err)])), (10130004, some (.arr 56 5 (List.map cells_Template s.2.1.templates))), (10130005, some (.arr 83 2 (List.map cells_Size s.2.1.sizes)))]⟩) h ?_) (.c rfl (.c rfl (.c rfl (.c rfl (.c rfl (.c rfl .n)))))) (.c rfl (.c rfl (.c rfl (.c rfl (.c rfl .n))))) rfl
  rintro ⟨v4, v5, v6⟩ u1 h ih1 hx1
  replace h : templ_eye_read_y1_s1 z x3 v4 v5 v6 = _ := h
  unfold templ_eye_read_y1_s1 at h
  refine .sq ?_
  refine .rg (u (bc (.t rfl) (.t rfl) rfl rfl) <| .nil _) rfl ?_
  refine .sq ?_
  refine .bq h (.t rfl) (fun h => ?_) (fun h => ?_)
  · refine .skp ?_
    refine .sq ?_
    refine .bl ?_
    refine .sq ?_
    refine .rg (u (mv (.t rfl)) <| u (asg (.t rfl)) <| .nil _) rfl ?_
    refine be h fun x7 hx7 h => ?_
    refine be h fun x8 hx8 h => ?_
    refine .rd mixed (u (fa ff26_4 (.t rfl)) <| u (ld tf23 (.t rfl) rfl rfl) <| u (mv (.t rfl)) <| u (lc tf94 (.t rfl) rfl) <| u (fa ff26_1 (.t rfl)) <| u (ld tf3 (.t rfl) rfl rfl) <| u (mfn (.c (.t rfl) <| .n)) <| cly 30000000 cf89 (AY.ly (fun i => bif Nat.beq i 9000 then 9000 else i) (templ_eye_some_y2_c hx7) rfl rfl rfl rfl rfl rfl rfl)  (.c (.t rfl) <| .c (.t rfl) <| .c (.t rfl) <| .n) rfl (.c rfl <| .n) rfl <| u (io sf23 (.t rfl) rfl (.t rfl) (ix_map cells_Template hx8)) <| u (fa ff56_2 (.t rfl)) <| sef (F := cells_Template) (q := { x8 with marks := x7.1 }) (ys := [.list 1 (List.map (ei .i64) x7.1)]) tf22 (.t rfl) rfl (ix_lt hx8).2.2 (.t rfl) rfl rfl rfl <| .nil _) (by kernel_rfl) rfl ?_
    refine .ib ?_
    refine .rg (u (bi (.t rfl) (.i rfl) rfl) <| u (mv (.t rfl)) <| .nil _) rfl ?_
    exact .kq (.il (ih1 ((ar .add .i64 v4 1), { v5 with templates := (List.set v5.templates (v4 : Int).toNat ({ x8 with marks := x7.1 })) }, x7.2) (nxi h))) (.c rfl (.c rfl (.c rfl (.c rfl (.c rfl (.c rfl .n)))))) (.c rfl (.c rfl (.c rfl (.c rfl (.c rfl .n)))))
  · refine .xt rfl ?_
    replace h := mpR h hx1
    refine .sq ?_
    refine .sq ?_
    refine .rg (u (fa ff26_4 (.t rfl)) <| u (ld tf23 (.t rfl) rfl rfl) <| u (lom sf23 (.t rfl) rfl) <| u (mv (.i rfl)) <| .nil _) rfl ?_
    refine .bl ?_
    unfold templ_eye_read_y1_l2 at h
    refine .kq (.lo (fun (s : Int × Structure × templ_eye) => ⟨[(0, .ptr 9000 0), (1, .cptr [.ptr 9000 0]), (2, .ptr 2 0), (3, .ptr 3 0), (35, .ro (.int .i64 (v5.templates.length : Int))), (36, .ro (.int .i64 s.1))], [(2, some (.box [.ro (.int .i64 0), .ro (.int .i64 0), .ro (.int .i64 0), .ro (.list 1 (List.map (ei .i64) [])), .ro (.list 5 (List.map cells_Template [])), .ro (.list 2 (List.map cells_Size []))])), (3, some (.box [.ro (.int .i64 s.2.1.id_), .ro (.int .i64 s.2.1.targets), .ro (.int .i64 s.2.1.chains), .ro (.list 1 (List.map (ei .i64) s.2.1.protect)), .own 10130004, .own 10130005])), (9000, some (.box [.ro (.list 1 (List.map e8 s.2.2.c.bytes)), .ro (.int .i64 s.2.2.c.at_), .ro (.int .i64 s.2.2.c.err)])), (10130004, some (.arr 56 5 (List.map cells_Template s.2.1.templates))), (10130005, some (.arr 83 2 (List.map cells_Size s.2.1.sizes)))]⟩) h ?_) (.c rfl (.c rfl (.c rfl (.c rfl (.c rfl (.c rfl .n)))))) (.c rfl (.c rfl (.c rfl (.c rfl (.c rfl .n)))))
    rintro ⟨v9, v10, v11⟩ u2 h ih2 hx2
    replace h : templ_eye_read_y1_s2 z v5 v9 v10 v11 = _ := h
    unfold templ_eye_read_y1_s2 at h
    refine .sq ?_
    refine .rg (u (bc (.t rfl) (.t rfl) rfl rfl) <| .nil _) rfl ?_
    refine .sq ?_
    refine .bq h (.t rfl) (fun h => ?_) (fun h => ?_)
    · refine .skp ?_
      refine .sq ?_
      refine .bl ?_
      refine .sq ?_
      refine .rg (u (mv (.t rfl)) <| u (asg (.t rfl)) <| .nil _) rfl ?_
      refine be h fun x12 hx12 h => ?_
      refine be h fun x13 hx13 h => ?_
      refine .rd mixed (u (fa ff26_4 (.t rfl)) <| u (ld tf23 (.t rfl) rfl rfl) <| u (mv (.t rfl)) <| u (lc tf94 (.t rfl) rfl) <| cly 44000000 cf91 (AY.ly (fun i => bif Nat.beq i 9000 then 9000 else i) (templ_eye_diffs_y2_c hx12) rfl rfl rfl rfl rfl rfl rfl)  (.c (.t rfl) <| .n) rfl (.c rfl <| .n) rfl <| u (io sf23 (.t rfl) rfl (.t rfl) (ix_map cells_Template hx13)) <| u (fa ff56_3 (.t rfl)) <| sef (F := cells_Template) (q := { x13 with diffs := x12.1 }) (ys := [.list 1 (List.map (ei .i64) x12.1)]) tf22 (.t rfl) rfl (ix_lt hx13).2.2 (.t rfl) rfl rfl rfl <| .nil _) (by kernel_rfl) rfl ?_
      refine .ib ?_
      refine .rg (u (bi (.t rfl) (.i rfl) rfl) <| u (mv (.t rfl)) <| .nil _) rfl ?_
      exact .kq (.il (ih2 ((ar .add .i64 v9 1), { v10 with templates := (List.set v10.templates (v9 : Int).toNat ({ x13 with diffs := x12.1 })) }, x12.2) (nxi h))) (.c rfl (.c rfl (.c rfl (.c rfl (.c rfl (.c rfl .n)))))) (.c rfl (.c rfl (.c rfl (.c rfl (.c rfl .n)))))
    · refine .xt rfl ?_
      replace h := mpR h hx2
      refine .sq ?_
      refine be h fun x14 hx14 h => ?_
      refine .rg (u (lc tf94 (.t rfl) rfl) <| u (fa ff26_1 (.t rfl)) <| u (ld tf3 (.t rfl) rfl rfl) <| u (bi (.t rfl) (.i rfl) rfl) <| cly 52000000 cf92 (AY.ly (fun i => bif Nat.beq i 9000 then 9000 else i) (templ_eye_ranged_y1_c hx14) rfl rfl rfl rfl rfl rfl rfl)  (.c (.t rfl) <| .c (.t rfl) <| .n) rfl (.c rfl <| .n) rfl <| u (fa ff26_2 (.t rfl)) <| st tf3 (.t rfl) rfl (.t rfl) rfl rfl rfl <| .nil _) rfl ?_
      refine .sq ?_
      refine .sq ?_
      refine .rg (u (fa ff26_2 (.t rfl)) <| u (ld tf3 (.t rfl) rfl rfl) <| u (bc (.t rfl) (.i rfl) rfl rfl) <| .nil _) rfl ?_
      refine .jq (t := some r) (fun (a : Structure × templ_eye) => ⟨[(0, .ptr 9000 0), (1, .cptr [.ptr 9000 0]), (2, .ptr 2 0), (3, .ptr 3 0)], [(2, some (.box [.ro (.int .i64 0), .ro (.int .i64 0), .ro (.int .i64 0), .ro (.list 1 (List.map (ei .i64) [])), .ro (.list 5 (List.map cells_Template [])), .ro (.list 2 (List.map cells_Size []))])), (3, some (.box [.ro (.int .i64 a.1.id_), .ro (.int .i64 a.1.targets), .ro (.int .i64 a.1.chains), .ro (.list 1 (List.map (ei .i64) a.1.protect)), .own 10130004, .own 10130005])), (9000, some (.box [.ro (.list 1 (List.map e8 a.2.c.bytes)), .ro (.int .i64 a.2.c.at_), .ro (.int .i64 a.2.c.err)])), (10130004, some (.arr 56 5 (List.map cells_Template a.1.templates))), (10130005, some (.arr 83 2 (List.map cells_Size a.1.sizes)))]⟩) (fun (a : Structure × templ_eye) => templ_eye_read_y1_j3 z a.1 a.2) ?_ (fun J3 => ?_)
      · rintro ⟨v15, v16⟩ h
        replace h : templ_eye_read_y1_j3 z v15 v16 = _ := h
        unfold templ_eye_read_y1_j3 at h
        refine .sq ?_
        refine .sq ?_
        refine .rg (u (fa ff26_4 (.t rfl)) <| u (ld tf23 (.t rfl) rfl rfl) <| u (lom sf23 (.t rfl) rfl) <| u (mv (.i rfl)) <| .nil _) rfl ?_
        refine .bl ?_
        unfold templ_eye_read_y1_l4 at h
        refine .kq (.lo (fun (s : Int × Structure × templ_eye) => ⟨[(0, .ptr 9000 0), (1, .cptr [.ptr 9000 0]), (2, .ptr 2 0), (3, .ptr 3 0), (64, .ro (.int .i64 (v15.templates.length : Int))), (65, .ro (.int .i64 s.1))], [(2, some (.box [.ro (.int .i64 0), .ro (.int .i64 0), .ro (.int .i64 0), .ro (.list 1 (List.map (ei .i64) [])), .ro (.list 5 (List.map cells_Template [])), .ro (.list 2 (List.map cells_Size []))])), (3, some (.box [.ro (.int .i64 s.2.1.id_), .ro (.int .i64 s.2.1.targets), .ro (.int .i64 s.2.1.chains), .ro (.list 1 (List.map (ei .i64) s.2.1.protect)), .own 10130004, .own 10130005])), (9000, some (.box [.ro (.list 1 (List.map e8 s.2.2.c.bytes)), .ro (.int .i64 s.2.2.c.at_), .ro (.int .i64 s.2.2.c.err)])), (10130004, some (.arr 56 5 (List.map cells_Template s.2.1.templates))), (10130005, some (.arr 83 2 (List.map cells_Size s.2.1.sizes)))]⟩) h ?_) (.c rfl (.c rfl (.c rfl (.c rfl (.c rfl (.c rfl .n)))))) (.c rfl (.c rfl (.c rfl (.c rfl (.c rfl .n)))))
        rintro ⟨v17, v18, v19⟩ u4 h ih4 hx4
        replace h : templ_eye_read_y1_s4 z v15 v17 v18 v19 = _ := h
        unfold templ_eye_read_y1_s4 at h
        refine .sq ?_
        refine .rg (u (bc (.t rfl) (.t rfl) rfl rfl) <| .nil _) rfl ?_
        refine .sq ?_
        refine .bq h (.t rfl) (fun h => ?_) (fun h => ?_)
        · refine .skp ?_
          refine .sq ?_
          refine .bl ?_
          refine .sq ?_
          refine .rg (u (mv (.t rfl)) <| u (asg (.t rfl)) <| .nil _) rfl ?_
          refine be h fun x20 hx20 h => ?_
          refine be h fun x21 hx21 h => ?_
          refine .rd mixed (u (fa ff26_4 (.t rfl)) <| u (ld tf23 (.t rfl) rfl rfl) <| u (mv (.t rfl)) <| u (lc tf94 (.t rfl) rfl) <| u (fa ff26_2 (.t rfl)) <| u (ld tf3 (.t rfl) rfl rfl) <| u (mfn (.c (.t rfl) <| .n)) <| cly 76000000 cf89 (AY.ly (fun i => bif Nat.beq i 9000 then 9000 else i) (templ_eye_some_y4_c hx20) rfl rfl rfl rfl rfl rfl rfl)  (.c (.t rfl) <| .c (.t rfl) <| .c (.t rfl) <| .n) rfl (.c rfl <| .n) rfl <| u (io sf23 (.t rfl) rfl (.t rfl) (ix_map cells_Template hx21)) <| u (fa ff56_4 (.t rfl)) <| sef (F := cells_Template) (q := { x21 with chains := x20.1 }) (ys := [.list 1 (List.map (ei .i64) x20.1)]) tf22 (.t rfl) rfl (ix_lt hx21).2.2 (.t rfl) rfl rfl rfl <| .nil _) (by kernel_rfl) rfl ?_
          refine .ib ?_
          refine .rg (u (bi (.t rfl) (.i rfl) rfl) <| u (mv (.t rfl)) <| .nil _) rfl ?_
          exact .kq (.il (ih4 ((ar .add .i64 v17 1), { v18 with templates := (List.set v18.templates (v17 : Int).toNat ({ x21 with chains := x20.1 })) }, x20.2) (nxi h))) (.c rfl (.c rfl (.c rfl (.c rfl (.c rfl (.c rfl .n)))))) (.c rfl (.c rfl (.c rfl (.c rfl (.c rfl .n)))))
        · refine .xt rfl ?_
          replace h := mpR h hx4
          refine .sq ?_
          refine .sq ?_
          refine be h fun x22 hx22 h => ?_
          refine .rg (u (lc tf94 (.t rfl) rfl) <| cly 81000000 cf87 (AY.ly (fun i => bif Nat.beq i 9000 then 9000 else i) (templ_eye_num_y1_c hx22) rfl rfl rfl rfl rfl rfl rfl)  (.c (.t rfl) <| .c (.i rfl) <| .n) rfl (.c rfl <| .n) rfl <| u (bc (.t rfl) (.i rfl) rfl rfl) <| .nil _) rfl ?_
          refine .bq h (.t rfl) (fun h => ?_) (fun h => ?_)
          · refine .sq ?_
            refine .rg (u (ld tf26 (.t rfl) rfl rfl) <| st tf26 (.t rfl) rfl (.t rfl) rfl rfl rfl <| .nil _) rfl ?_
            refine .fz 10130004 rfl ?_
            refine .fz 10130005 rfl ?_
            obtain rfl := Option.some.inj h
            exact .rtx (o := [(9000, some (.box [.ro (.list 1 (List.map e8 x22.2.c.bytes)), .ro (.int .i64 x22.2.c.at_), .ro (.int .i64 x22.2.c.err)]))]) Try.func51 (.c tf26 rfl rfl rfl <| .n) (.c rfl .n) rfl rfl (.c rfl .n) rfl
          · refine .skp ?_
            refine .sq ?_
            refine .sq ?_
            refine be h fun x23 hx23 h => ?_
            refine .rg (u (fa ff26_4 (.t rfl)) <| u (ld tf23 (.t rfl) rfl rfl) <| u (fa ff26_4 (.t rfl)) <| u (ld tf23 (.t rfl) rfl rfl) <| u (lom sf23 (.t rfl) rfl) <| u (bi (.t rfl) (.i rfl) rfl) <| u (io sf23 (.t rfl) rfl (.t rfl) (ix_map cells_Template hx23)) <| u (fa ff56_0 (.t rfl)) <| u (lef tf3 (.t rfl) rfl (ix_lt (ix_map cells_Template hx23)).2.2 rfl rfl) <| u (bi (.t rfl) (.i rfl) rfl) <| u (mv (.i rfl)) <| .nil _) rfl ?_
            refine .bl ?_
            unfold templ_eye_read_y1_l5 at h
            refine .kq (.lo (fun (s : Int × Structure × templ_eye) => ⟨[(0, .ptr 9000 0), (1, .cptr [.ptr 9000 0]), (2, .ptr 2 0), (3, .ptr 3 0), (92, .ro (.int .i64 (ar .add .i64 x23.sid 1))), (93, .ro (.int .i64 s.1))], [(2, some (.box [.ro (.int .i64 0), .ro (.int .i64 0), .ro (.int .i64 0), .ro (.list 1 (List.map (ei .i64) [])), .ro (.list 5 (List.map cells_Template [])), .ro (.list 2 (List.map cells_Size []))])), (3, some (.box [.ro (.int .i64 s.2.1.id_), .ro (.int .i64 s.2.1.targets), .ro (.int .i64 s.2.1.chains), .ro (.list 1 (List.map (ei .i64) s.2.1.protect)), .own 10130004, .own 10130005])), (9000, some (.box [.ro (.list 1 (List.map e8 s.2.2.c.bytes)), .ro (.int .i64 s.2.2.c.at_), .ro (.int .i64 s.2.2.c.err)])), (10130004, some (.arr 56 5 (List.map cells_Template s.2.1.templates))), (10130005, some (.arr 83 2 (List.map cells_Size s.2.1.sizes)))]⟩) h ?_) (.c rfl (.c rfl (.c rfl (.c rfl (.c rfl (.c rfl .n)))))) (.c rfl (.c rfl (.c rfl (.c rfl (.c rfl .n)))))
            rintro ⟨v24, v25, v26⟩ u5 h ih5 hx5
            replace h : templ_eye_read_y1_s5 z x23 v24 v25 v26 = _ := h
            unfold templ_eye_read_y1_s5 at h
            refine .sq ?_
            refine .rg (u (bc (.t rfl) (.t rfl) rfl rfl) <| .nil _) rfl ?_
            refine .sq ?_
            refine .bq h (.t rfl) (fun h => ?_) (fun h => ?_)
            · refine .skp ?_
              refine .sq ?_
              refine .bl ?_
              refine be h fun x27 hx27 h => ?_
              refine be h fun x28 hx28 h => ?_
              refine be h fun x29 hx29 h => ?_
              refine .rd mixed (u (fa ff26_5 (.t rfl)) <| u (ld tf24 (.t rfl) rfl rfl) <| u (lc tf94 (.t rfl) rfl) <| cly 99000000 cf87 (AY.ly (fun i => bif Nat.beq i 9000 then 9000 else i) (templ_eye_num_y1_c hx27) rfl rfl rfl rfl rfl rfl rfl)  (.c (.t rfl) <| .c (.i rfl) <| .n) rfl (.c rfl <| .n) rfl <| u (bi (.t rfl) (.i rfl) rfl) <| u (lc tf94 (.t rfl) rfl) <| cly 102000000 cf87 (AY.ly (fun i => bif Nat.beq i 9000 then 9000 else i) (templ_eye_num_y1_c hx28) rfl rfl rfl rfl rfl rfl rfl)  (.c (.t rfl) <| .c (.i rfl) <| .n) rfl (.c rfl <| .n) rfl <| u (bi (.t rfl) (.i rfl) rfl) <| u (bd bf83 zf83 (.c rfl (.t rfl) rfl rfl rfl <| .c rfl (.t rfl) rfl rfl rfl <| .n) rfl) <| bs (F := cells_Size) (l := [(Size.mk (ar .add .i64 x27.1 1) (ar .add .i64 x28.1 1))]) 104 pf24 (.c (.t rfl) rfl <| .n) rfl (fun _ _ => rfl) rfl rfl <| apo 105 pf24 (.t rfl) rfl (.t rfl) rfl hx29 rfl <| u (fa ff26_5 (.t rfl)) <| st tf24 (.t rfl) rfl (.t rfl) rfl rfl rfl <| .nil _) (by kernel_rfl) rfl ?_
              refine .ib ?_
              refine .rg (u (bi (.t rfl) (.i rfl) rfl) <| u (mv (.t rfl)) <| .nil _) rfl ?_
              exact .ks (fun i => bif Nat.beq i 10130005 then 105 else i) (.il (ih5 ((ar .add .i64 v24 1), { v25 with sizes := x29 }, x28.2) (nxi h))) (.c rfl (.c rfl (.c rfl (.c rfl (.c rfl (.c rfl .n)))))) (.c rfl (.c rfl (.c rfl (.c rfl (.c rfl .n))))) rfl
            · refine .xt rfl ?_
              replace h := mpR h hx5
              refine .sq ?_
              refine .rg (u (ld tf26 (.t rfl) rfl rfl) <| st tf26 (.t rfl) rfl (.t rfl) rfl rfl rfl <| .nil _) rfl ?_
              refine .fz 10130004 rfl ?_
              refine .fz 10130005 rfl ?_
              obtain rfl := Option.some.inj h
              exact .rtx (o := [(9000, some (.box [.ro (.list 1 (List.map e8 v26.c.bytes)), .ro (.int .i64 v26.c.at_), .ro (.int .i64 v26.c.err)]))]) Try.func51 (.c tf26 rfl rfl rfl <| .n) (.c rfl .n) rfl rfl (.c rfl .n) rfl
      refine .bq h (.t rfl) (fun h => ?_) (fun h => ?_)
      · refine be h fun x30 hx30 h => ?_
        refine .rg (u (lc tf94 (.t rfl) rfl) <| u (fa ff26_1 (.t rfl)) <| u (ld tf3 (.t rfl) rfl rfl) <| u (mfn (.c (.t rfl) <| .c (.t rfl) <| .n)) <| clz 61000000 cf89 (AY.lz (lz := [(9000, [.ro (.list 1 (List.map e8 x14.2.c.bytes)), .ro (.int .i64 x14.2.c.at_), .ro (.int .i64 x14.2.c.err)]), (9001, [.ro (.int .i64 v10.id_), .ro (.int .i64 v10.targets), .ro (.int .i64 x14.1), .ro (.list 1 (List.map (ei .i64) v10.protect)), .own 10130004, .own 10130005])]) (lz' := [(9000, [.ro (.list 1 (List.map e8 x30.2.c.bytes)), .ro (.int .i64 x30.2.c.at_), .ro (.int .i64 x30.2.c.err)]), (9001, [.ro (.int .i64 v10.id_), .ro (.int .i64 v10.targets), .ro (.int .i64 x14.1), .ro (.list 1 (List.map (ei .i64) v10.protect)), .own 10130004, .own 10130005])]) (js := [(10130004, .arr 56 5 (List.map cells_Template v10.templates)), (10130005, .arr 83 2 (List.map cells_Size v10.sizes))]) (fun i => bif Nat.beq i 9001 then 3 else bif Nat.beq i 9000 then 9000 else i) (fun ρ => templ_eye_some_y5_c (hq0 := ρ 10130004) (hq1 := ρ 10130005) hx30) rfl rfl rfl rfl rfl rfl rfl rfl rfl rfl) (.c (.t rfl) <| .c (.t rfl) <| .c (.t rfl) <| .n) rfl (.c rfl <| .c rfl <| .n) (.c rfl <| .c rfl <| .n) rfl <| u (fa ff26_3 (.t rfl)) <| st tf22 (.t rfl) rfl (.t rfl) rfl rfl rfl <| .nil _) rfl ?_
        refine .fz 61008000 rfl ?_
        exact .kq (J3 ({ v10 with chains := x14.1, protect := x30.1 }, x30.2) h) (.c rfl (.c rfl (.c rfl (.c rfl .n)))) (.c rfl (.c rfl (.c rfl (.c rfl (.c rfl .n)))))
      · refine .skp ?_
        exact .kq (J3 ({ v10 with chains := x14.1 }, x14.2) h) (.c rfl (.c rfl (.c rfl (.c rfl .n)))) (.c rfl (.c rfl (.c rfl (.c rfl (.c rfl .n)))))

theorem templ_Get_c {z : Option Nat} {c : GBits} {r : GBits × Structure} (h : templ_Get z c = some r) :
    AC Try.prog 16 [.ro (enc_GBits c)] (.ro (.tup [enc_GBits r.1, enc_Structure r.2])) [] := by
  refine AC.of Try.func16 rfl rfl fun w M0 hM => ?_
  unfold templ_Get at h
  refine .sq ?_
  refine .rg (bx 1 (.t rfl) rfl rfl <| al 2 zf32 rfl <| al 3 zf26 rfl <| .nil _) rfl ?_
  refine .sq ?_
  refine .rg (u (ld tf32 (.t rfl) rfl rfl) <| u (bd bf96 zf96 (.c rfl (.t rfl) rfl rfl rfl <| .n) rfl) <| bx 8 (.t rfl) rfl rfl <| u (asg (.t rfl)) <| .nil _) rfl ?_
  refine .sq ?_
  refine be h fun x1 hx1 h => ?_
  refine .rg (u (mv (.t rfl)) <| cly 11000000 cf51 (AY.ly (fun i => bif Nat.beq i 9000 then 8 else i) (templ_eye_read_y1_c hx1) rfl rfl rfl rfl rfl rfl rfl)  (.c (.t rfl) <| .n) rfl (.c rfl <| .n) rfl <| al 5 zf26 rfl <| st tf26 (.t rfl) rfl (.t rfl) rfl rfl rfl <| .nil _) rfl ?_
  refine .sq ?_
  refine .sq ?_
  refine .rg (u (mv (.t rfl)) <| cl [] cf52 (templ_eye_fine_p_c x1.2) (.p (.t rfl) rfl rfl rfl <| .n) (.inr rfl) <| u (no (.t rfl)) <| .nil _) rfl ?_
  refine .bq h (.t rfl) (fun h => ?_) (fun h => ?_)
  · refine .sq ?_
    refine .rg (u (mv (.t rfl)) <| u (nkp (.t rfl)) <| u (fa ff96_0 (.t rfl)) <| u (fa ff32_2 (.t rfl)) <| u (ld tf30 (.t rfl) rfl rfl) <| u (fa ff32_2 (.t rfl)) <| st tf30 (.t rfl) rfl (.t rfl) rfl rfl rfl <| .nil _) rfl ?_
    refine .sq ?_
    refine .rg (u (ld tf32 (.t rfl) rfl rfl) <| u (bd bf26 zf26 (.n) rfl) <| st tf32 (.t rfl) rfl (.t rfl) rfl rfl rfl <| st tf26 (.t rfl) rfl (.t rfl) rfl rfl rfl <| .nil _) rfl ?_
    obtain rfl := Option.some.inj h
    exact .rt Try.func16 (.c tf32 rfl rfl rfl <| .c tf26 rfl rfl rfl <| .n) .n rfl rfl
  · refine .skp ?_
    refine .sq ?_
    refine .rd mixed (u (mv (.t rfl)) <| u (nkp (.t rfl)) <| u (fa ff96_0 (.t rfl)) <| u (ld tf32 (.t rfl) rfl rfl) <| u (ld tf26 (.t rfl) rfl rfl) <| st tf32 (.t rfl) rfl (.t rfl) rfl rfl rfl <| st tf26 (.t rfl) rfl (.t rfl) rfl rfl rfl <| .nil _) (by kernel_rfl) rfl ?_
    obtain rfl := Option.some.inj h
    exact .rt Try.func16 (.c tf32 rfl rfl rfl <| .c tf26 rfl rfl rfl <| .n) .n rfl rfl

theorem templ_Reach_c {z : Option Nat} {p_s : Structure} {target : Int} {r : Int × Int × Int} (h : templ_Reach z p_s target = some r) :
    AC Try.prog 18 [.ro (enc_Structure p_s), .ro (.int .i64 target)] (.ro (.tup [.int .i64 r.1, .int .i64 r.2.1, .int .i64 r.2.2])) [] := by
  refine AC.of Try.func18 rfl rfl fun w M0 hM => ?_
  unfold templ_Reach at h
  refine .sq ?_
  refine .rg (bx 2 (.t rfl) rfl rfl <| u (asg (.i rfl)) <| u (asg (.i rfl)) <| u (asg (.i rfl)) <| .nil _) rfl ?_
  refine .sq ?_
  refine .sq ?_
  refine be h fun x1 hx1 h => ?_
  refine .rg (u (ld tf26 (.t rfl) rfl rfl) <| cl [] cf20 (templ_Right_c hx1) (.c (.t rfl) <| .n) (.inl rfl) <| u (no (.t rfl)) <| u (mv (.t rfl)) <| gd rfl rfl (fun hB => mv (.t rfl)) <| gd rfl rfl (fun hB => bc (.m rfl hB) (.i rfl) rfl rfl) <| u (pko (.t rfl) (.t rfl)) <| u (mv (.t rfl)) <| gd rfl rfl (fun hB => mv (.t rfl)) <| gd rfl rfl (fun hB => fa ff26_1 (.t rfl)) <| gd rfl rfl (fun hB => ld tf3 (.m rfl hB) rfl rfl) <| gd rfl rfl (fun hB => bc (.m rfl hB) (.m rfl hB) rfl rfl) <| u (pko (.t rfl) (.t rfl)) <| .nil _) rfl ?_
  refine .bq h (.t rfl) (fun h => ?_) (fun h => ?_)
  · refine .sq ?_
    refine .rg (u (asg (.i rfl)) <| u (asg (.i rfl)) <| u (asg (.i rfl)) <| .nil _) rfl ?_
    obtain rfl := Option.some.inj h
    exact .rt Try.func18 (.t rfl <| .t rfl <| .t rfl <| .n) .n rfl rfl
  · refine .skp ?_
    refine .sq ?_
    refine .rg (u (asg (.i rfl)) <| u (asg (.i rfl)) <| u (asg (.i rfl)) <| .nil _) rfl ?_
    refine .sq ?_
    refine .sq ?_
    refine .rg (u (fa ff26_4 (.t rfl)) <| u (ld tf23 (.t rfl) rfl rfl) <| u (lnm sf23 (.t rfl)) <| u (mv (.i rfl)) <| .nil _) rfl ?_
    refine .bl ?_
    unfold templ_Reach_l1 at h
    refine .kq (.lo (fun (s : Int × Int × Int × Int) => ⟨[(1, .ro (.int .i64 target)), (7, .ro (.int .i64 s.1)), (8, .ro (.int .i64 s.2.1)), (9, .ro (.int .i64 s.2.2.1)), (26, .ro (.list 5 (List.map cells_Template p_s.templates))), (27, .ro (.int .i64 (p_s.templates.length : Int))), (28, .ro (.int .i64 s.2.2.2))], []⟩) h ?_) (.c rfl (.c rfl (.c rfl (.c rfl (.c rfl (.c rfl (.c rfl .n))))))) .n
    rintro ⟨v2, v3, v4, v5⟩ u1 h ih1 hx1
    replace h : templ_Reach_s1 z p_s target v2 v3 v4 v5 = _ := h
    unfold templ_Reach_s1 at h
    refine .sq ?_
    refine .rg (u (bc (.t rfl) (.t rfl) rfl rfl) <| .nil _) rfl ?_
    refine .sq ?_
    refine .bq h (.t rfl) (fun h => ?_) (fun h => ?_)
    · refine .skp ?_
      refine .sq ?_
      refine .bl ?_
      refine .sq ?_
      refine be h fun x6 hx6 h => ?_
      refine .rg (u (ia sf23 (.t rfl) (.t rfl) (ix_map cells_Template hx6)) <| u (lr tf56 (.t rfl) rfl) <| al 11 zf56 rfl <| st tf56 (.t rfl) rfl (.t rfl) rfl rfl rfl <| .nil _) rfl ?_
      refine .sq ?_
      refine be h fun x7 hx7 h => ?_
      refine .rg (u (fa ff56_2 (.t rfl)) <| u (ld tf22 (.t rfl) rfl rfl) <| u (mv (.t rfl)) <| u (ia sf22 (.t rfl) (.t rfl) (ix_map (ei .i64) hx7)) <| u (lr tf3 (.t rfl) rfl) <| u (bc (.t rfl) (.i rfl) rfl rfl) <| .nil _) rfl ?_
      refine .jq (t := some u1) (fun (a : Int × Int × Int) => ⟨[(1, .ro (.int .i64 target)), (7, .ro (.int .i64 a.1)), (8, .ro (.int .i64 a.2.1)), (9, .ro (.int .i64 a.2.2)), (26, .ro (.list 5 (List.map cells_Template p_s.templates))), (27, .ro (.int .i64 (p_s.templates.length : Int))), (28, .ro (.int .i64 v5))], []⟩) (fun (a : Int × Int × Int) => templ_Reach_j2 z v5 a.1 a.2.1 a.2.2) ?_ (fun J2 => ?_)
      · rintro ⟨v8, v9, v10⟩ h
        replace h : templ_Reach_j2 z v5 v8 v9 v10 = _ := h
        unfold templ_Reach_j2 at h
        refine .ib ?_
        refine .rg (u (bi (.t rfl) (.i rfl) rfl) <| u (mv (.t rfl)) <| .nil _) rfl ?_
        exact .kq (.il (ih1 (v8, v9, v10, (ar .add .i64 v5 1)) (nxi h))) (.c rfl (.c rfl (.c rfl (.c rfl (.c rfl (.c rfl (.c rfl .n))))))) .n
      refine .bq h (.t rfl) (fun h => ?_) (fun h => ?_)
      · refine .rd mixed (u (mv (.t rfl)) <| u (fa ff56_0 (.t rfl)) <| u (ld tf3 (.t rfl) rfl rfl) <| u (mx (.t rfl) (.t rfl)) <| u (mv (.t rfl)) <| u (fa ff56_1 (.t rfl)) <| u (ld tf3 (.t rfl) rfl rfl) <| u (mx (.t rfl) (.t rfl)) <| u (asg (.t rfl)) <| u (asg (.t rfl)) <| u (asg (.i rfl)) <| .nil _) (by kernel_rfl) rfl ?_
        exact .kq (J2 ((imax v2 x6.sid), (imax v3 x6.tid), 0) h) (.c rfl (.c rfl (.c rfl (.c rfl (.c rfl (.c rfl (.c rfl .n))))))) .n
      · refine .skp ?_
        exact .kq (J2 (v2, v3, v4) h) (.c rfl (.c rfl (.c rfl (.c rfl (.c rfl (.c rfl (.c rfl .n))))))) .n
    · refine .xt rfl ?_
      replace h := mpR h hx1
      refine .sq ?_
      refine .rg (u (mv (.t rfl)) <| u (mv (.t rfl)) <| u (mv (.t rfl)) <| u (asg (.t rfl)) <| u (asg (.t rfl)) <| u (asg (.t rfl)) <| .nil _) rfl ?_
      obtain rfl := Option.some.inj h
      exact .rt Try.func18 (.t rfl <| .t rfl <| .t rfl <| .n) .n rfl rfl

theorem slices_Equal_int_c {z : Option Nat} {s1 : List Int} {s2 : List Int} {r : Bool} (h : slices_Equal_int z s1 s2 = some r) :
    AC Try.prog 60 [.ro (.list 1 (List.map (ei .i64) s1)), .ro (.list 1 (List.map (ei .i64) s2))] (.ro (.bool r)) [] := by
  refine AC.of Try.func60 rfl rfl fun w M0 hM => ?_
  unfold slices_Equal_int at h
  refine .sq ?_
  refine .rg (u (asg .b) <| .nil _) rfl ?_
  refine .sq ?_
  refine .sq ?_
  refine .rg (u (mv (.t rfl)) <| u (lnm sf22 (.t rfl)) <| u (mv (.t rfl)) <| u (lnm sf22 (.t rfl)) <| u (bc (.t rfl) (.t rfl) rfl rfl) <| .nil _) rfl ?_
  refine .bq h (.t rfl) (fun h => ?_) (fun h => ?_)
  · refine .sq ?_
    refine .rg (u (asg .b) <| .nil _) rfl ?_
    obtain rfl := Option.some.inj h
    exact .rt Try.func60 (.t rfl <| .n) .n rfl rfl
  · refine .skp ?_
    refine .sq ?_
    refine .sq ?_
    refine .rg (u (mv (.t rfl)) <| u (lnm sf22 (.t rfl)) <| u (mv (.i rfl)) <| .nil _) rfl ?_
    refine .bl ?_
    unfold slices_Equal_int_l1 at h
    refine .kq (.lo (fun (s : Int) => ⟨[(0, .ro (.list 1 (List.map (ei .i64) s1))), (1, .ro (.list 1 (List.map (ei .i64) s2))), (12, .ro (.int .i64 (s1.length : Int))), (13, .ro (.int .i64 s))], []⟩) h ?_) (.c rfl (.c rfl (.c rfl (.c rfl .n)))) .n
    intro v1 u1 h ih1 hx1
    replace h : slices_Equal_int_s1 z s1 s2 v1 = _ := h
    unfold slices_Equal_int_s1 at h
    refine .sq ?_
    refine .rg (u (bc (.t rfl) (.t rfl) rfl rfl) <| .nil _) rfl ?_
    refine .sq ?_
    refine .bq h (.t rfl) (fun h => ?_) (fun h => ?_)
    · refine .skp ?_
      refine .sq ?_
      refine .bl ?_
      refine .sq ?_
      refine .rg (u (mv (.t rfl)) <| u (asg (.t rfl)) <| .nil _) rfl ?_
      refine .sq ?_
      refine be h fun x2 hx2 h => ?_
      refine be h fun x3 hx3 h => ?_
      refine .rd mixed (u (mv (.t rfl)) <| u (mv (.t rfl)) <| u (ia sf22 (.t rfl) (.t rfl) (ix_map (ei .i64) hx2)) <| u (lr tf3 (.t rfl) rfl) <| u (mv (.t rfl)) <| u (mv (.t rfl)) <| u (ia sf22 (.t rfl) (.t rfl) (ix_map (ei .i64) hx3)) <| u (lr tf3 (.t rfl) rfl) <| u (bc (.t rfl) (.t rfl) rfl rfl) <| .nil _) (by kernel_rfl) rfl ?_
      refine .bq h (.t rfl) (fun h => ?_) (fun h => ?_)
      · refine .sq ?_
        refine .rg (u (asg .b) <| .nil _) rfl ?_
        replace h := mpR h hx1
        obtain rfl := Option.some.inj h
        exact .rt Try.func60 (.t rfl <| .n) .n rfl rfl
      · refine .skp ?_
        refine .ib ?_
        refine .rg (u (bi (.t rfl) (.i rfl) rfl) <| u (mv (.t rfl)) <| .nil _) rfl ?_
        exact .kq (.il (ih1 (ar .add .i64 v1 1) (nxi h))) (.c rfl (.c rfl (.c rfl (.c rfl .n)))) .n
    · refine .xt rfl ?_
      replace h := mpR h hx1
      refine .sq ?_
      refine .rg (u (asg .b) <| .nil _) rfl ?_
      obtain rfl := Option.some.inj h
      exact .rt Try.func60 (.t rfl <| .n) .n rfl rfl

theorem templ_Same_1_c {z : Option Nat} {x : Template} {y : Template} {r : Bool} (h : templ_Same_1 z x y = some r) :
    AC Try.prog 59 [.ro (enc_Template x), .ro (enc_Template y)] (.ro (.bool r)) [] := by
  refine AC.of Try.func59 rfl rfl fun w M0 hM => ?_
  unfold templ_Same_1 at h
  refine .sq ?_
  refine .rg (bx 2 (.t rfl) rfl rfl <| bx 3 (.t rfl) rfl rfl <| u (asg .b) <| .nil _) rfl ?_
  refine .sq ?_
  refine be h fun x1 hx1 h => ?_
  refine be h fun x2 hx2 h => ?_
  refine be h fun x3 hx3 h => ?_
  refine .rg (u (fa ff56_0 (.t rfl)) <| u (ld tf3 (.t rfl) rfl rfl) <| u (fa ff56_0 (.t rfl)) <| u (ld tf3 (.t rfl) rfl rfl) <| u (bc (.t rfl) (.t rfl) rfl rfl) <| u (mv (.t rfl)) <| gd rfl rfl (fun hB => fa ff56_1 (.t rfl)) <| gd rfl rfl (fun hB => ld tf3 (.m rfl hB) rfl rfl) <| gd rfl rfl (fun hB => fa ff56_1 (.t rfl)) <| gd rfl rfl (fun hB => ld tf3 (.m rfl hB) rfl rfl) <| gd rfl rfl (fun hB => bc (.m rfl hB) (.m rfl hB) rfl rfl) <| u (pka (.t rfl) (.t rfl)) <| u (mv (.t rfl)) <| gd rfl rfl (fun hB => fa ff56_2 (.t rfl)) <| gd rfl rfl (fun hB => ld tf22 (.m rfl hB) rfl rfl) <| gd rfl rfl (fun hB => fa ff56_2 (.t rfl)) <| gd rfl rfl (fun hB => ld tf22 (.m rfl hB) rfl rfl) <| cg rfl rfl cf60 (fun hB => (slices_Equal_int_c (gTt hx1 hB))) (fun hB => .c (.m rfl hB) <| .c (.m rfl hB) <| .n) (.inl rfl) <| u (pka (.t rfl) (.t rfl)) <| u (mv (.t rfl)) <| gd rfl rfl (fun hB => fa ff56_3 (.t rfl)) <| gd rfl rfl (fun hB => ld tf22 (.m rfl hB) rfl rfl) <| gd rfl rfl (fun hB => fa ff56_3 (.t rfl)) <| gd rfl rfl (fun hB => ld tf22 (.m rfl hB) rfl rfl) <| cg rfl rfl cf60 (fun hB => (slices_Equal_int_c (gTt hx2 hB))) (fun hB => .c (.m rfl hB) <| .c (.m rfl hB) <| .n) (.inl rfl) <| u (pka (.t rfl) (.t rfl)) <| u (mv (.t rfl)) <| gd rfl rfl (fun hB => fa ff56_4 (.t rfl)) <| gd rfl rfl (fun hB => ld tf22 (.m rfl hB) rfl rfl) <| gd rfl rfl (fun hB => fa ff56_4 (.t rfl)) <| gd rfl rfl (fun hB => ld tf22 (.m rfl hB) rfl rfl) <| cg rfl rfl cf60 (fun hB => (slices_Equal_int_c (gTt hx3 hB))) (fun hB => .c (.m rfl hB) <| .c (.m rfl hB) <| .n) (.inl rfl) <| u (pka (.t rfl) (.t rfl)) <| u (asg (.t rfl)) <| .nil _) rfl ?_
  obtain rfl := Option.some.inj h
  exact .rt Try.func59 (.t rfl <| .n) .n rfl rfl

theorem slices_Equal_Size_c {z : Option Nat} {s1 : List Size} {s2 : List Size} {r : Bool} (h : slices_Equal_Size z s1 s2 = some r) :
    AC Try.prog 61 [.ro (.list 2 (List.map cells_Size s1)), .ro (.list 2 (List.map cells_Size s2))] (.ro (.bool r)) [] := by
  refine AC.of Try.func61 rfl rfl fun w M0 hM => ?_
  unfold slices_Equal_Size at h
  refine .sq ?_
  refine .rg (u (asg .b) <| .nil _) rfl ?_
  refine .sq ?_
  refine .sq ?_
  refine .rg (u (mv (.t rfl)) <| u (lnm sf24 (.t rfl)) <| u (mv (.t rfl)) <| u (lnm sf24 (.t rfl)) <| u (bc (.t rfl) (.t rfl) rfl rfl) <| .nil _) rfl ?_
  refine .bq h (.t rfl) (fun h => ?_) (fun h => ?_)
  · refine .sq ?_
    refine .rg (u (asg .b) <| .nil _) rfl ?_
    obtain rfl := Option.some.inj h
    exact .rt Try.func61 (.t rfl <| .n) .n rfl rfl
  · refine .skp ?_
    refine .sq ?_
    refine .sq ?_
    refine .rg (u (mv (.t rfl)) <| u (lnm sf24 (.t rfl)) <| u (mv (.i rfl)) <| .nil _) rfl ?_
    refine .bl ?_
    unfold slices_Equal_Size_l1 at h
    refine .kq (.lo (fun (s : Int) => ⟨[(0, .ro (.list 2 (List.map cells_Size s1))), (1, .ro (.list 2 (List.map cells_Size s2))), (12, .ro (.int .i64 (s1.length : Int))), (13, .ro (.int .i64 s))], []⟩) h ?_) (.c rfl (.c rfl (.c rfl (.c rfl .n)))) .n
    intro v1 u1 h ih1 hx1
    replace h : slices_Equal_Size_s1 z s1 s2 v1 = _ := h
    unfold slices_Equal_Size_s1 at h
    refine .sq ?_
    refine .rg (u (bc (.t rfl) (.t rfl) rfl rfl) <| .nil _) rfl ?_
    refine .sq ?_
    refine .bq h (.t rfl) (fun h => ?_) (fun h => ?_)
    · refine .skp ?_
      refine .sq ?_
      refine .bl ?_
      refine .sq ?_
      refine .rg (u (mv (.t rfl)) <| u (asg (.t rfl)) <| .nil _) rfl ?_
      refine .sq ?_
      refine be h fun x2 hx2 h => ?_
      refine be h fun x3 hx3 h => ?_
      refine .rd mixed (u (mv (.t rfl)) <| u (mv (.t rfl)) <| u (ia sf24 (.t rfl) (.t rfl) (ix_map cells_Size hx2)) <| u (lr tf83 (.t rfl) rfl) <| u (mv (.t rfl)) <| u (mv (.t rfl)) <| u (ia sf24 (.t rfl) (.t rfl) (ix_map cells_Size hx3)) <| u (lr tf83 (.t rfl) rfl) <| u (eqs qf83 (.t rfl) (.t rfl) rfl rfl rfl rfl) <| .nil _) (by kernel_rfl) rfl ?_
      refine .bq h (.t rfl) (fun h => ?_) (fun h => ?_)
      · refine .sq ?_
        refine .rg (u (asg .b) <| .nil _) rfl ?_
        replace h := mpR h hx1
        obtain rfl := Option.some.inj h
        exact .rt Try.func61 (.t rfl <| .n) .n rfl rfl
      · refine .skp ?_
        refine .ib ?_
        refine .rg (u (bi (.t rfl) (.i rfl) rfl) <| u (mv (.t rfl)) <| .nil _) rfl ?_
        exact .kq (.il (ih1 (ar .add .i64 v1 1) (nxi h))) (.c rfl (.c rfl (.c rfl (.c rfl .n)))) .n
    · refine .xt rfl ?_
      replace h := mpR h hx1
      refine .sq ?_
      refine .rg (u (asg .b) <| .nil _) rfl ?_
      obtain rfl := Option.some.inj h
      exact .rt Try.func61 (.t rfl <| .n) .n rfl rfl

theorem slices_EqualFunc_f0_c {z : Option Nat} {s1 : List Template} {s2 : List Template} {r : Bool} (h : slices_EqualFunc_f0 z s1 s2 = some r) :
    AC Try.prog 62 [.ro (.list 5 (List.map cells_Template s1)), .ro (.list 5 (List.map cells_Template s2)), .fn (.func 59) [] []] (.ro (.bool r)) [] := by
  refine AC.of Try.func62 rfl rfl fun w M0 hM => ?_
  unfold slices_EqualFunc_f0 at h
  refine .sq ?_
  refine .rg (u (asg .b) <| .nil _) rfl ?_
  refine .sq ?_
  refine .sq ?_
  refine .rg (u (mv (.t rfl)) <| u (lnm sf23 (.t rfl)) <| u (mv (.t rfl)) <| u (lnm sf23 (.t rfl)) <| u (bc (.t rfl) (.t rfl) rfl rfl) <| .nil _) rfl ?_
  refine .bq h (.t rfl) (fun h => ?_) (fun h => ?_)
  · refine .sq ?_
    refine .rg (u (asg .b) <| .nil _) rfl ?_
    obtain rfl := Option.some.inj h
    exact .rt Try.func62 (.t rfl <| .n) .n rfl rfl
  · refine .skp ?_
    refine .sq ?_
    refine .sq ?_
    refine .rg (u (mv (.t rfl)) <| u (lnm sf23 (.t rfl)) <| u (mv (.i rfl)) <| .nil _) rfl ?_
    refine .bl ?_
    unfold slices_EqualFunc_f0_l1 at h
    refine .kq (.lo (fun (s : Int) => ⟨[(1, .ro (.list 5 (List.map cells_Template s2))), (2, .fn (.func 59) [] []), (15, .ro (.list 5 (List.map cells_Template s1))), (16, .ro (.int .i64 (s1.length : Int))), (17, .ro (.int .i64 s))], []⟩) h ?_) (.c rfl (.c rfl (.c rfl (.c rfl (.c rfl .n))))) .n
    intro v1 u1 h ih1 hx1
    replace h : slices_EqualFunc_f0_s1 z s1 s2 v1 = _ := h
    unfold slices_EqualFunc_f0_s1 at h
    refine .sq ?_
    refine .rg (u (bc (.t rfl) (.t rfl) rfl rfl) <| .nil _) rfl ?_
    refine .sq ?_
    refine .bq h (.t rfl) (fun h => ?_) (fun h => ?_)
    · refine .skp ?_
      refine .sq ?_
      refine .bl ?_
      refine .sq ?_
      refine be h fun x2 hx2 h => ?_
      refine .rg (u (mv (.t rfl)) <| u (ia sf23 (.t rfl) (.t rfl) (ix_map cells_Template hx2)) <| u (lr tf56 (.t rfl) rfl) <| al 8 zf56 rfl <| u (asg (.t rfl)) <| st tf56 (.t rfl) rfl (.t rfl) rfl rfl rfl <| .nil _) rfl ?_
      refine .sq ?_
      refine be h fun x3 hx3 h => ?_
      refine .rg (u (mv (.t rfl)) <| u (mv (.t rfl)) <| u (ia sf23 (.t rfl) (.t rfl) (ix_map cells_Template hx3)) <| u (lr tf56 (.t rfl) rfl) <| al 9 zf56 rfl <| st tf56 (.t rfl) rfl (.t rfl) rfl rfl rfl <| .nil _) rfl ?_
      refine .sq ?_
      refine be h fun x4 hx4 h => ?_
      refine .rg (u (mv (.t rfl)) <| u (ld tf56 (.t rfl) rfl rfl) <| u (ld tf56 (.t rfl) rfl rfl) <| clv [] cf59 (.t rfl) (templ_Same_1_c hx4) (.c (.t rfl) <| .c (.t rfl) <| .n) (.inl rfl) <| u (no (.t rfl)) <| .nil _) rfl ?_
      refine .bq h (.t rfl) (fun h => ?_) (fun h => ?_)
      · refine .sq ?_
        refine .rg (u (asg .b) <| .nil _) rfl ?_
        replace h := mpR h hx1
        obtain rfl := Option.some.inj h
        exact .rt Try.func62 (.t rfl <| .n) .n rfl rfl
      · refine .skp ?_
        refine .ib ?_
        refine .rg (u (bi (.t rfl) (.i rfl) rfl) <| u (mv (.t rfl)) <| .nil _) rfl ?_
        exact .kq (.il (ih1 (ar .add .i64 v1 1) (nxi h))) (.c rfl (.c rfl (.c rfl (.c rfl (.c rfl .n))))) .n
    · refine .xt rfl ?_
      replace h := mpR h hx1
      refine .sq ?_
      refine .rg (u (asg .b) <| .nil _) rfl ?_
      obtain rfl := Option.some.inj h
      exact .rt Try.func62 (.t rfl <| .n) .n rfl rfl

theorem templ_Same_c {z : Option Nat} {p_a : Structure} {b : Structure} {r : Bool} (h : templ_Same z p_a b = some r) :
    AC Try.prog 23 [.ro (enc_Structure p_a), .ro (enc_Structure b)] (.ro (.bool r)) [] := by
  refine AC.of Try.func23 rfl rfl fun w M0 hM => ?_
  unfold templ_Same at h
  refine .sq ?_
  refine .rg (bx 2 (.t rfl) rfl rfl <| bx 3 (.t rfl) rfl rfl <| u (asg .b) <| .nil _) rfl ?_
  refine .sq ?_
  refine .rg (u (asg .f) <| .nil _) rfl ?_
  refine .sq ?_
  refine .rg (u (fa ff26_0 (.t rfl)) <| u (ld tf3 (.t rfl) rfl rfl) <| u (fa ff26_0 (.t rfl)) <| u (ld tf3 (.t rfl) rfl rfl) <| u (bc (.t rfl) (.t rfl) rfl rfl) <| u (mv (.t rfl)) <| gd rfl rfl (fun hB => fa ff26_1 (.t rfl)) <| gd rfl rfl (fun hB => ld tf3 (.m rfl hB) rfl rfl) <| gd rfl rfl (fun hB => fa ff26_1 (.t rfl)) <| gd rfl rfl (fun hB => ld tf3 (.m rfl hB) rfl rfl) <| gd rfl rfl (fun hB => bc (.m rfl hB) (.m rfl hB) rfl rfl) <| u (pka (.t rfl) (.t rfl)) <| u (mv (.t rfl)) <| gd rfl rfl (fun hB => fa ff26_2 (.t rfl)) <| gd rfl rfl (fun hB => ld tf3 (.m rfl hB) rfl rfl) <| gd rfl rfl (fun hB => fa ff26_2 (.t rfl)) <| gd rfl rfl (fun hB => ld tf3 (.m rfl hB) rfl rfl) <| gd rfl rfl (fun hB => bc (.m rfl hB) (.m rfl hB) rfl rfl) <| u (pka (.t rfl) (.t rfl)) <| u (asg (.t rfl)) <| .nil _) rfl ?_
  refine .sq ?_
  refine be h fun x1 hx1 h => ?_
  refine be h fun x2 hx2 h => ?_
  refine be h fun x3 hx3 h => ?_
  refine .rg (u (mv (.t rfl)) <| u (mv (.t rfl)) <| gd rfl rfl (fun hB => fa ff26_3 (.t rfl)) <| gd rfl rfl (fun hB => ld tf22 (.m rfl hB) rfl rfl) <| gd rfl rfl (fun hB => fa ff26_3 (.t rfl)) <| gd rfl rfl (fun hB => ld tf22 (.m rfl hB) rfl rfl) <| cg rfl rfl cf60 (fun hB => (slices_Equal_int_c (gTt hx1 hB))) (fun hB => .c (.m rfl hB) <| .c (.m rfl hB) <| .n) (.inl rfl) <| u (pka (.t rfl) (.t rfl)) <| u (mv (.t rfl)) <| gd rfl rfl (fun hB => fa ff26_5 (.t rfl)) <| gd rfl rfl (fun hB => ld tf24 (.m rfl hB) rfl rfl) <| gd rfl rfl (fun hB => fa ff26_5 (.t rfl)) <| gd rfl rfl (fun hB => ld tf24 (.m rfl hB) rfl rfl) <| cg rfl rfl cf61 (fun hB => (slices_Equal_Size_c (gTt hx2 hB))) (fun hB => .c (.m rfl hB) <| .c (.m rfl hB) <| .n) (.inl rfl) <| u (pka (.t rfl) (.t rfl)) <| u (mv (.t rfl)) <| gd rfl rfl (fun hB => fa ff26_4 (.t rfl)) <| gd rfl rfl (fun hB => ld tf23 (.m rfl hB) rfl rfl) <| gd rfl rfl (fun hB => fa ff26_4 (.t rfl)) <| gd rfl rfl (fun hB => ld tf23 (.m rfl hB) rfl rfl) <| gd rfl rfl (fun hB => mv (.t rfl)) <| cg rfl rfl cf62 (fun hB => (slices_EqualFunc_f0_c (gTt hx3 hB))) (fun hB => .c (.m rfl hB) <| .c (.m rfl hB) <| .c (.m rfl hB) <| .n) (.inl rfl) <| u (pka (.t rfl) (.t rfl)) <| u (asg (.t rfl)) <| .nil _) rfl ?_
  obtain rfl := Option.some.inj h
  exact .rt Try.func23 (.t rfl <| .n) .n rfl rfl

theorem law26_awake_c {z : Option Nat}  {r : Bool} (h : law26_awake z = some r) :
    AC Try.prog 9 [] (.ro (.bool r)) [] := by
  refine AC.of Try.func9 rfl rfl fun w M0 hM => ?_
  unfold law26_awake at h
  refine .sq ?_
  refine .rg (u (asg .b) <| .nil _) rfl ?_
  refine .sq ?_
  refine .rg (nu (bsn (F := (ei .i64)) (l := [3]) pf22 (.c (.i rfl) rfl <| .n) rfl (fun _ _ => rfl) rfl) <| u (bd bf56 zf56 (.c rfl (.t rfl) rfl rfl rfl <| .n) rfl) <| nu (bsn (F := (ei .i64)) (l := [1]) pf22 (.c (.i rfl) rfl <| .n) rfl (fun _ _ => rfl) rfl) <| nu (bsn (F := (ei .i64)) (l := [2]) pf22 (.c (.i rfl) rfl <| .n) rfl (fun _ _ => rfl) rfl) <| u (bd bf56 zf56 (.c rfl (.i rfl) rfl rfl rfl <| .c rfl (.t rfl) rfl rfl rfl <| .c rfl (.t rfl) rfl rfl rfl <| .n) rfl) <| bs (F := cells_Template) (l := [(Template.mk 0 0 [3] [] []), (Template.mk 0 1 [1] [2] [])]) 16 pf23 (.c (.t rfl) rfl <| .c (.t rfl) rfl <| .n) rfl (fun _ _ => rfl) rfl rfl <| u (bd bf26 zf26 (.c rfl (.i rfl) rfl rfl rfl <| .c rfl (.t rfl) rfl rfl rfl <| .n) rfl) <| al 1 zf26 rfl <| st tf26 (.t rfl) rfl (.t rfl) rfl rfl rfl <| .nil _) rfl ?_
  refine .sq ?_
  refine .fz 16 rfl ?_
  refine be h fun x1 hx1 h => ?_
  refine .rg (u (bd bf29 zf29 (.n) rfl) <| u (ld tf26 (.t rfl) rfl rfl) <| cl [] cf12 (templ_Put_c hx1) (.c (.t rfl) <| .c (.t rfl) <| .n) (.inl rfl) <| u (mv (.t rfl)) <| u (ex (.t rfl) rfl rfl) <| u (ex (.t rfl) rfl rfl) <| al 2 zf29 rfl <| st tf29 (.t rfl) rfl (.t rfl) rfl rfl rfl <| u (asg (.t rfl)) <| .nil _) rfl ?_
  refine .sq ?_
  refine be h fun x2 hx2 h => ?_
  refine .rg (u (fa ff29_0 (.t rfl)) <| u (ld tf27 (.t rfl) rfl rfl) <| cl [] cf26 (bits_Start_c x1.1.bytes) (.c (.t rfl) <| .n) (.inl rfl) <| cl [] cf16 (templ_Get_c hx2) (.c (.t rfl) <| .n) (.inl rfl) <| u (mv (.t rfl)) <| u (ex (.t rfl) rfl rfl) <| u (ex (.t rfl) rfl rfl) <| al 4 zf32 rfl <| al 5 zf26 rfl <| st tf32 (.t rfl) rfl (.t rfl) rfl rfl rfl <| st tf26 (.t rfl) rfl (.t rfl) rfl rfl rfl <| .nil _) rfl ?_
  refine .sq ?_
  refine be h fun x3 hx3 h => ?_
  refine .rg (u (ld tf26 (.t rfl) rfl rfl) <| cl [] cf18 (templ_Reach_c hx3) (.c (.t rfl) <| .c (.i rfl) <| .n) (.inl rfl) <| u (mv (.t rfl)) <| u (ex (.t rfl) rfl rfl) <| u (ex (.t rfl) rfl rfl) <| u (ex (.t rfl) rfl rfl) <| u (asg (.t rfl)) <| u (asg (.t rfl)) <| u (asg (.t rfl)) <| .nil _) rfl ?_
  refine .sq ?_
  refine be h fun x4 hx4 h => ?_
  refine be h fun x5 hx5 h => ?_
  refine .rg (u (fa ff29_0 (.t rfl)) <| u (ld tf27 (.t rfl) rfl rfl) <| u (fa ff29_0 (.t rfl)) <| u (ld tf27 (.t rfl) rfl rfl) <| u (lnm sf27 (.t rfl)) <| u (mn (.t rfl) (.i rfl)) <| u (sl sf27 (.t rfl) .n (.s (.t rfl)) hx4) <| cl [] cf26 (bits_Start_c x4) (.c (.t rfl) <| .n) (.inl rfl) <| cl [] cf16 (templ_Get_c hx5) (.c (.t rfl) <| .n) (.inl rfl) <| u (mv (.t rfl)) <| u (ex (.t rfl) rfl rfl) <| u (ex (.t rfl) rfl rfl) <| al 9 zf32 rfl <| al 10 zf26 rfl <| st tf32 (.t rfl) rfl (.t rfl) rfl rfl rfl <| st tf26 (.t rfl) rfl (.t rfl) rfl rfl rfl <| .nil _) rfl ?_
  refine .sq ?_
  refine be h fun x6 hx6 h => ?_
  refine be h fun x7 hx7 h => ?_
  refine .rg (u (mv (.t rfl)) <| u (bc (.t rfl) (.i rfl) rfl rfl) <| u (mv (.t rfl)) <| gd rfl rfl (fun hB => mv (.t rfl)) <| gd rfl rfl (fun hB => bc (.m rfl hB) (.i rfl) rfl rfl) <| u (pka (.t rfl) (.t rfl)) <| u (mv (.t rfl)) <| gd rfl rfl (fun hB => fa ff32_2 (.t rfl)) <| gd rfl rfl (fun hB => ld tf30 (.m rfl hB) rfl rfl) <| gd rfl rfl (fun hB => bc (.m rfl hB) (.i rfl) rfl rfl) <| u (pka (.t rfl) (.t rfl)) <| u (mv (.t rfl)) <| gd rfl rfl (fun hB => fa ff32_2 (.t rfl)) <| gd rfl rfl (fun hB => ld tf30 (.m rfl hB) rfl rfl) <| gd rfl rfl (fun hB => bc (.m rfl hB) (.i rfl) rfl rfl) <| u (pka (.t rfl) (.t rfl)) <| u (mv (.t rfl)) <| gd rfl rfl (fun hB => fa ff32_1 (.t rfl)) <| gd rfl rfl (fun hB => ld tf3 (.m rfl hB) rfl rfl) <| gd rfl rfl (fun hB => bc (.m rfl hB) (.i rfl) rfl rfl) <| u (pka (.t rfl) (.t rfl)) <| u (mv (.t rfl)) <| gd rfl rfl (fun hB => fa ff29_1 (.t rfl)) <| gd rfl rfl (fun hB => ld tf3 (.m rfl hB) rfl rfl) <| gd rfl rfl (fun hB => bc (.m rfl hB) (.i rfl) rfl rfl) <| u (pka (.t rfl) (.t rfl)) <| u (mv (.t rfl)) <| gd rfl rfl (fun hB => fa ff32_1 (.t rfl)) <| gd rfl rfl (fun hB => ld tf3 (.m rfl hB) rfl rfl) <| gd rfl rfl (fun hB => bc (.m rfl hB) (.i rfl) rfl rfl) <| u (pka (.t rfl) (.t rfl)) <| u (mv (.t rfl)) <| gd rfl rfl (fun hB => fa ff29_0 (.t rfl)) <| gd rfl rfl (fun hB => ld tf27 (.m rfl hB) rfl rfl) <| gd rfl rfl (fun hB => bt bt27_9 (.m rfl hB)) <| gd rfl rfl (fun hB => sq (.m rfl hB) (.s rfl) rfl rfl) <| u (pka (.t rfl) (.t rfl)) <| u (mv (.t rfl)) <| gd rfl rfl (fun hB => ld tf26 (.t rfl) rfl rfl) <| gd rfl rfl (fun hB => ld tf26 (.t rfl) rfl rfl) <| cg rfl rfl cf23 (fun hB => (templ_Same_c (gTt hx6 hB))) (fun hB => .c (.m rfl hB) <| .c (.m rfl hB) <| .n) (.inl rfl) <| u (pka (.t rfl) (.t rfl)) <| u (mv (.t rfl)) <| gd rfl rfl (fun hB => mv (.t rfl)) <| gd rfl rfl (fun hB => bc (.m rfl hB) (.i rfl) rfl rfl) <| u (pka (.t rfl) (.t rfl)) <| u (mv (.t rfl)) <| gd rfl rfl (fun hB => mv (.t rfl)) <| gd rfl rfl (fun hB => bc (.m rfl hB) (.i rfl) rfl rfl) <| u (pka (.t rfl) (.t rfl)) <| u (mv (.t rfl)) <| gd rfl rfl (fun hB => ld tf26 (.t rfl) rfl rfl) <| cg rfl rfl cf20 (fun hB => (templ_Right_c (gTt hx7 hB))) (fun hB => .c (.m rfl hB) <| .n) (.inl rfl) <| u (pka (.t rfl) (.t rfl)) <| u (asg (.t rfl)) <| .nil _) rfl ?_
  obtain rfl := Option.some.inj h
  exact .rt Try.func9 (.t rfl <| .n) .n rfl rfl

theorem law26_awake_t : law26_awake (some 1000) = some true := by decide +kernel
theorem law26_awake_k : AC Try.prog 9 [] (.ro (.bool true)) [] := law26_awake_c law26_awake_t

theorem ref26_Short_c {z : Option Nat} {p_s : Structure} {r : Bool} (h : ref26_Short z p_s = some r) :
    AC Try.prog 10 [.ro (enc_Structure p_s)] (.ro (.bool r)) [] := by
  refine AC.of Try.func10 rfl rfl fun w M0 hM => ?_
  unfold ref26_Short at h
  refine .sq ?_
  refine .rg (bx 1 (.t rfl) rfl rfl <| u (asg .b) <| .nil _) rfl ?_
  refine .sq ?_
  refine .sq ?_
  refine .rg (u (asg (.i rfl)) <| .nil _) rfl ?_
  refine .bl ?_
  unfold ref26_Short_l1 at h
  refine .kq (.lo (fun (s : Int) => ⟨[(1, .ptr 1 0), (3, .ro (.int .i64 s))], [(1, some (.box [.ro (.int .i64 p_s.id_), .ro (.int .i64 p_s.targets), .ro (.int .i64 p_s.chains), .ro (.list 1 (List.map (ei .i64) p_s.protect)), .ro (.list 5 (List.map cells_Template p_s.templates)), .ro (.list 2 (List.map cells_Size p_s.sizes))]))]⟩) h ?_) (.c rfl (.c rfl .n)) (.c rfl .n)
  intro v1 u1 h ih1 hx1
  replace h : ref26_Short_s1 z p_s v1 = _ := h
  unfold ref26_Short_s1 at h
  refine .sq ?_
  refine .sq ?_
  refine .rg (u (mv (.t rfl)) <| u (fa ff26_4 (.t rfl)) <| u (ld tf23 (.t rfl) rfl rfl) <| u (lnm sf23 (.t rfl)) <| u (bc (.t rfl) (.t rfl) rfl rfl) <| u (mv (.t rfl)) <| gd rfl rfl (fun hB => mv (.t rfl)) <| gd rfl rfl (fun hB => bc (.m rfl hB) (.i rfl) rfl rfl) <| u (pka (.t rfl) (.t rfl)) <| .nil _) rfl ?_
  refine .bq h (.t rfl) (fun h => ?_) (fun h => ?_)
  · refine .skp ?_
    refine .sq ?_
    refine .bl ?_
    refine .sq ?_
    refine be h fun x2 hx2 h => ?_
    refine .rg (u (fa ff26_4 (.t rfl)) <| u (ld tf23 (.t rfl) rfl rfl) <| u (mv (.t rfl)) <| u (ia sf23 (.t rfl) (.t rfl) (ix_map cells_Template hx2)) <| u (lr tf56 (.t rfl) rfl) <| al 4 zf56 rfl <| st tf56 (.t rfl) rfl (.t rfl) rfl rfl rfl <| .nil _) rfl ?_
    refine .sq ?_
    refine .rg (u (fa ff56_2 (.t rfl)) <| u (ld tf22 (.t rfl) rfl rfl) <| u (lnm sf22 (.t rfl)) <| u (bc (.t rfl) (.i rfl) rfl rfl) <| u (mv (.t rfl)) <| gd rfl rfl (fun hB => fa ff56_3 (.t rfl)) <| gd rfl rfl (fun hB => ld tf22 (.m rfl hB) rfl rfl) <| gd rfl rfl (fun hB => lnm sf22 (.m rfl hB)) <| gd rfl rfl (fun hB => bc (.m rfl hB) (.i rfl) rfl rfl) <| u (pko (.t rfl) (.t rfl)) <| u (mv (.t rfl)) <| gd rfl rfl (fun hB => fa ff56_4 (.t rfl)) <| gd rfl rfl (fun hB => ld tf22 (.m rfl hB) rfl rfl) <| gd rfl rfl (fun hB => lnm sf22 (.m rfl hB)) <| gd rfl rfl (fun hB => bc (.m rfl hB) (.i rfl) rfl rfl) <| u (pko (.t rfl) (.t rfl)) <| .nil _) rfl ?_
    refine .bq h (.t rfl) (fun h => ?_) (fun h => ?_)
    · refine .sq ?_
      refine .rg (u (asg .b) <| .nil _) rfl ?_
      replace h := mpR h hx1
      obtain rfl := Option.some.inj h
      exact .rt Try.func10 (.t rfl <| .n) .n rfl rfl
    · refine .skp ?_
      refine .ib ?_
      refine .rg (u (mv (.t rfl)) <| u (bi (.t rfl) (.i rfl) rfl) <| u (asg (.t rfl)) <| .nil _) rfl ?_
      exact .kq (.il (ih1 (ar .add .i64 v1 1) (nxi h))) (.c rfl (.c rfl .n)) (.c rfl .n)
  · refine .xt rfl ?_
    replace h := mpR h hx1
    refine .sq ?_
    refine .rg (u (fa ff26_4 (.t rfl)) <| u (ld tf23 (.t rfl) rfl rfl) <| u (lnm sf23 (.t rfl)) <| u (bc (.t rfl) (.i rfl) rfl rfl) <| u (mv (.t rfl)) <| gd rfl rfl (fun hB => fa ff26_3 (.t rfl)) <| gd rfl rfl (fun hB => ld tf22 (.m rfl hB) rfl rfl) <| gd rfl rfl (fun hB => lnm sf22 (.m rfl hB)) <| gd rfl rfl (fun hB => bc (.m rfl hB) (.i rfl) rfl rfl) <| u (pka (.t rfl) (.t rfl)) <| u (mv (.t rfl)) <| gd rfl rfl (fun hB => fa ff26_5 (.t rfl)) <| gd rfl rfl (fun hB => ld tf24 (.m rfl hB) rfl rfl) <| gd rfl rfl (fun hB => lnm sf24 (.m rfl hB)) <| gd rfl rfl (fun hB => bc (.m rfl hB) (.i rfl) rfl rfl) <| u (pka (.t rfl) (.t rfl)) <| u (asg (.t rfl)) <| .nil _) rfl ?_
    obtain rfl := Option.some.inj h
    exact .rt Try.func10 (.t rfl <| .n) .n rfl rfl

theorem ref02_SameInk_c (p_a : Ink) (b : Ink) :
    AC Try.prog 14 [.ro (enc_Ink p_a), .ro (enc_Ink b)] (.ro (.bool (ref02_SameInk p_a b))) [] := by
  obtain ⟨r, h⟩ : ∃ r, ref02_SameInk p_a b = r := ⟨_, rfl⟩
  rw [h]
  refine AC.of Try.func14 rfl rfl fun w M0 hM => ?_
  unfold ref02_SameInk at h
  refine .sq ?_
  refine .rg (bx 2 (.t rfl) rfl rfl <| bx 3 (.t rfl) rfl rfl <| u (asg .b) <| .nil _) rfl ?_
  refine .sq ?_
  refine .rg (u (fa ff29_1 (.t rfl)) <| u (ld tf3 (.t rfl) rfl rfl) <| u (fa ff29_1 (.t rfl)) <| u (ld tf3 (.t rfl) rfl rfl) <| u (bc (.t rfl) (.t rfl) rfl rfl) <| u (mv (.t rfl)) <| gd rfl rfl (fun hB => fa ff29_0 (.t rfl)) <| gd rfl rfl (fun hB => ld tf27 (.m rfl hB) rfl rfl) <| gd rfl rfl (fun hB => bt bt27_9 (.m rfl hB)) <| gd rfl rfl (fun hB => fa ff29_0 (.t rfl)) <| gd rfl rfl (fun hB => ld tf27 (.m rfl hB) rfl rfl) <| gd rfl rfl (fun hB => bt bt27_9 (.m rfl hB)) <| gd rfl rfl (fun hB => sq (.m rfl hB) (.m rfl hB) rfl rfl) <| u (pka (.t rfl) (.t rfl)) <| u (asg (.t rfl)) <| .nil _) rfl ?_
  subst h
  exact .rt Try.func14 (.t rfl <| .n) .n rfl rfl

theorem law26_TemplBack_c {z : Option Nat} {p_s : Structure} {t : Structure} {ahead : Int} {more : List Int} {b : List Int} {r : Bool} (h : law26_TemplBack z p_s t ahead more b = some r) :
    AC Try.prog 4 [.ro (enc_Structure p_s), .ro (enc_Structure t), .ro (.int .u8 ahead), .ro (.list 1 (List.map e8 more)), .ro (.list 1 (List.map e8 b))] (.ro (.bool r)) [] := by
  refine AC.of Try.func4 rfl rfl fun w M0 hM => ?_
  unfold law26_TemplBack at h
  refine .sq ?_
  refine .rg (bx 5 (.t rfl) rfl rfl <| bx 6 (.t rfl) rfl rfl <| u (asg .b) <| .nil _) rfl ?_
  refine .sq ?_
  refine .sq ?_
  refine .rg (cl [] cf9 law26_awake_k (.n) (.inl rfl) <| u (no (.t rfl)) <| .nil _) rfl ?_
  refine .cf (.t rfl) rfl ?_
  refine .skp ?_
  refine .sq ?_
  refine .sq ?_
  refine be h fun x1 hx1 h => ?_
  refine be h fun x2 hx2 h => ?_
  refine .rg (u (ld tf26 (.t rfl) rfl rfl) <| cl [] cf10 (ref26_Short_c hx1) (.c (.t rfl) <| .n) (.inl rfl) <| u (no (.t rfl)) <| u (mv (.t rfl)) <| gd rfl rfl (fun hB => ld tf26 (.t rfl) rfl rfl) <| cg rfl rfl cf10 (fun hB => (ref26_Short_c (gTt hx2 (nt hB)))) (fun hB => .c (.m rfl hB) <| .n) (.inl rfl) <| gd rfl rfl (fun hB => no (.m rfl hB)) <| u (pko (.t rfl) (.t rfl)) <| u (mv (.t rfl)) <| gd rfl rfl (fun hB => mv (.t rfl)) <| gd rfl rfl (fun hB => lnm sf27 (.m rfl hB)) <| gd rfl rfl (fun hB => bc (.m rfl hB) (.i rfl) rfl rfl) <| u (pko (.t rfl) (.t rfl)) <| u (mv (.t rfl)) <| gd rfl rfl (fun hB => mv (.t rfl)) <| gd rfl rfl (fun hB => lnm sf27 (.m rfl hB)) <| gd rfl rfl (fun hB => bc (.m rfl hB) (.i rfl) rfl rfl) <| u (pko (.t rfl) (.t rfl)) <| .nil _) rfl ?_
  refine .bq h (.t rfl) (fun h => ?_) (fun h => ?_)
  · refine .sq ?_
    refine .rg (u (asg .b) <| .nil _) rfl ?_
    obtain rfl := Option.some.inj h
    exact .rt Try.func4 (.t rfl <| .n) .n rfl rfl
  · refine .skp ?_
    refine .sq ?_
    refine be h fun x3 hx3 h => ?_
    refine .rg (u (bd bf29 zf29 (.n) rfl) <| u (mv (.t rfl)) <| u (cv cv5_3 (.t rfl)) <| u (di (.t rfl) (.i rfl) rfl (by decide)) <| u (bi (.t rfl) (.i rfl) rfl) <| cl [] cf24 (bits_Add_c hx3) (.c (.t rfl) <| .c (.i rfl) <| .c (.t rfl) <| .n) (.inl rfl) <| u (mv (.t rfl)) <| u (ex (.t rfl) rfl rfl) <| u (ex (.t rfl) rfl rfl) <| al 11 zf29 rfl <| st tf29 (.t rfl) rfl (.t rfl) rfl rfl rfl <| u (asg (.t rfl)) <| .nil _) rfl ?_
    refine .sq ?_
    refine be h fun x4 hx4 h => ?_
    refine .rg (u (ld tf29 (.t rfl) rfl rfl) <| u (ld tf26 (.t rfl) rfl rfl) <| cl [] cf12 (templ_Put_c hx4) (.c (.t rfl) <| .c (.t rfl) <| .n) (.inl rfl) <| u (mv (.t rfl)) <| u (ex (.t rfl) rfl rfl) <| u (ex (.t rfl) rfl rfl) <| al 13 zf29 rfl <| st tf29 (.t rfl) rfl (.t rfl) rfl rfl rfl <| u (asg (.t rfl)) <| .nil _) rfl ?_
    refine .sq ?_
    refine be h fun x5 hx5 h => ?_
    refine .rg (u (ld tf29 (.t rfl) rfl rfl) <| u (ld tf26 (.t rfl) rfl rfl) <| cl [] cf12 (templ_Put_c hx5) (.c (.t rfl) <| .c (.t rfl) <| .n) (.inl rfl) <| u (mv (.t rfl)) <| u (ex (.t rfl) rfl rfl) <| u (ex (.t rfl) rfl rfl) <| al 15 zf29 rfl <| st tf29 (.t rfl) rfl (.t rfl) rfl rfl rfl <| u (asg (.t rfl)) <| .nil _) rfl ?_
    refine .sq ?_
    refine .sq ?_
    refine .rg (u (mv (.t rfl)) <| u (bc (.t rfl) (.i rfl) rfl rfl) <| .nil _) rfl ?_
    refine .bq h (.t rfl) (fun h => ?_) (fun h => ?_)
    · refine .sq ?_
      refine .rg (u (asg .b) <| .nil _) rfl ?_
      obtain rfl := Option.some.inj h
      exact .rt Try.func4 (.t rfl <| .n) .n rfl rfl
    · refine .skp ?_
      refine .sq ?_
      refine .sq ?_
      refine .rg (u (mv (.t rfl)) <| u (bc (.t rfl) (.i rfl) rfl rfl) <| .nil _) rfl ?_
      refine .jq (t := some r) (fun (a : Unit) => ⟨[(4, .ro (.list 1 (List.map e8 b)))], []⟩) (fun (a : Unit) => law26_TemplBack_j1 z b) ?_ (fun J1 => ?_)
      · intro _ h
        replace h : law26_TemplBack_j1 z b = _ := h
        unfold law26_TemplBack_j1 at h
        refine .sq ?_
        refine be h fun x6 hx6 h => ?_
        refine .rg (u (mv (.t rfl)) <| cl [] cf26 (bits_Start_c b) (.c (.t rfl) <| .n) (.inl rfl) <| cl [] cf16 (templ_Get_c hx6) (.c (.t rfl) <| .n) (.inl rfl) <| u (mv (.t rfl)) <| u (ex (.t rfl) rfl rfl) <| u (ex (.t rfl) rfl rfl) <| al 21 zf32 rfl <| al 22 zf26 rfl <| st tf32 (.t rfl) rfl (.t rfl) rfl rfl rfl <| st tf26 (.t rfl) rfl (.t rfl) rfl rfl rfl <| .nil _) rfl ?_
        refine .sq ?_
        refine .sq ?_
        refine .rg (u (fa ff32_2 (.t rfl)) <| u (ld tf30 (.t rfl) rfl rfl) <| u (bc (.t rfl) (.i rfl) rfl rfl) <| .nil _) rfl ?_
        refine .bq h (.t rfl) (fun h => ?_) (fun h => ?_)
        · refine .sq ?_
          refine be h fun x7 hx7 h => ?_
          refine .rg (u (fa ff32_1 (.t rfl)) <| u (ld tf3 (.t rfl) rfl rfl) <| u (bc (.t rfl) (.i rfl) rfl rfl) <| u (mv (.t rfl)) <| gd rfl rfl (fun hB => ld tf26 (.t rfl) rfl rfl) <| gd rfl rfl (fun hB => bd bf26 zf26 (.n) rfl) <| cg rfl rfl cf23 (fun hB => (templ_Same_c (gTt hx7 hB))) (fun hB => .c (.m rfl hB) <| .c (.m rfl hB) <| .n) (.inl rfl) <| u (pka (.t rfl) (.t rfl)) <| u (asg (.t rfl)) <| .nil _) rfl ?_
          obtain rfl := Option.some.inj h
          exact .rt Try.func4 (.t rfl <| .n) .n rfl rfl
        · refine .skp ?_
          refine .sq ?_
          refine be h fun x8 hx8 h => ?_
          refine .rg (u (bd bf29 zf29 (.n) rfl) <| u (ld tf26 (.t rfl) rfl rfl) <| cl [] cf12 (templ_Put_c hx8) (.c (.t rfl) <| .c (.t rfl) <| .n) (.inl rfl) <| u (mv (.t rfl)) <| u (ex (.t rfl) rfl rfl) <| u (ex (.t rfl) rfl rfl) <| al 23 zf29 rfl <| st tf29 (.t rfl) rfl (.t rfl) rfl rfl rfl <| u (asg (.t rfl)) <| .nil _) rfl ?_
          refine .sq ?_
          refine .sq ?_
          refine be h fun x9 hx9 h => ?_
          refine .rg (u (mv (.t rfl)) <| u (bc (.t rfl) (.i rfl) rfl rfl) <| u (mv (.t rfl)) <| gd rfl rfl (fun hB => ld tf26 (.t rfl) rfl rfl) <| cg rfl rfl cf20 (fun hB => (templ_Right_c (gTt hx9 (nt hB)))) (fun hB => .c (.m rfl hB) <| .n) (.inl rfl) <| gd rfl rfl (fun hB => no (.m rfl hB)) <| u (pko (.t rfl) (.t rfl)) <| u (mv (.t rfl)) <| gd rfl rfl (fun hB => fa ff29_1 (.t rfl)) <| gd rfl rfl (fun hB => ld tf3 (.m rfl hB) rfl rfl) <| gd rfl rfl (fun hB => fa ff32_1 (.t rfl)) <| gd rfl rfl (fun hB => ld tf3 (.m rfl hB) rfl rfl) <| gd rfl rfl (fun hB => bc (.m rfl hB) (.m rfl hB) rfl rfl) <| u (pko (.t rfl) (.t rfl)) <| .nil _) rfl ?_
          refine .bq h (.t rfl) (fun h => ?_) (fun h => ?_)
          · refine .sq ?_
            refine .rg (u (asg .b) <| .nil _) rfl ?_
            obtain rfl := Option.some.inj h
            exact .rt Try.func4 (.t rfl <| .n) .n rfl rfl
          · refine .skp ?_
            refine .sq ?_
            refine .sq ?_
            refine .rg (u (asg (.i rfl)) <| .nil _) rfl ?_
            refine .bl ?_
            unfold law26_TemplBack_l2 at h
            refine .kq (.lo (fun (s : Int) => ⟨[(4, .ro (.list 1 (List.map e8 b))), (23, .ptr 23 0), (25, .ro (.int .i64 s))], [(23, some (.box [.ro (.list 1 (List.map e8 x8.1.bytes)), .ro (.int .i64 x8.1.many)]))]⟩) h ?_) (.c rfl (.c rfl (.c rfl .n))) (.c rfl .n)
            intro v10 u2 h ih2 hx2
            replace h : law26_TemplBack_s2 z b x8 v10 = _ := h
            unfold law26_TemplBack_s2 at h
            refine .sq ?_
            refine .sq ?_
            refine .rg (u (mv (.t rfl)) <| u (fa ff29_1 (.t rfl)) <| u (ld tf3 (.t rfl) rfl rfl) <| u (bc (.t rfl) (.t rfl) rfl rfl) <| .nil _) rfl ?_
            refine .bq h (.t rfl) (fun h => ?_) (fun h => ?_)
            · refine .skp ?_
              refine .sq ?_
              refine .bl ?_
              refine .sq ?_
              refine be h fun x11 hx11 h => ?_
              refine .rg (u (fa ff29_0 (.t rfl)) <| u (ld tf27 (.t rfl) rfl rfl) <| u (mv (.t rfl)) <| u (bd bf32 zf32 (.c rfl (.t rfl) rfl rfl rfl <| .c rfl (.t rfl) rfl rfl rfl <| .n) rfl) <| cl [] cf25 (bits_Get_c hx11) (.c (.t rfl) <| .c (.i rfl) <| .n) (.inl rfl) <| u (mv (.t rfl)) <| u (ex (.t rfl) rfl rfl) <| u (ex (.t rfl) rfl rfl) <| al 26 zf32 rfl <| st tf32 (.t rfl) rfl (.t rfl) rfl rfl rfl <| u (asg (.t rfl)) <| .nil _) rfl ?_
              refine .sq ?_
              refine be h fun x12 hx12 h => ?_
              refine .rg (u (mv (.t rfl)) <| u (mv (.t rfl)) <| u (bd bf32 zf32 (.c rfl (.t rfl) rfl rfl rfl <| .c rfl (.t rfl) rfl rfl rfl <| .n) rfl) <| cl [] cf25 (bits_Get_c hx12) (.c (.t rfl) <| .c (.i rfl) <| .n) (.inl rfl) <| u (mv (.t rfl)) <| u (ex (.t rfl) rfl rfl) <| u (ex (.t rfl) rfl rfl) <| al 28 zf32 rfl <| st tf32 (.t rfl) rfl (.t rfl) rfl rfl rfl <| u (asg (.t rfl)) <| .nil _) rfl ?_
              refine .sq ?_
              refine .rg (u (fa ff32_2 (.t rfl)) <| u (ld tf30 (.t rfl) rfl rfl) <| u (bc (.t rfl) (.i rfl) rfl rfl) <| u (mv (.t rfl)) <| gd rfl rfl (fun hB => fa ff32_2 (.t rfl)) <| gd rfl rfl (fun hB => ld tf30 (.m rfl hB) rfl rfl) <| gd rfl rfl (fun hB => bc (.m rfl hB) (.i rfl) rfl rfl) <| u (pko (.t rfl) (.t rfl)) <| u (mv (.t rfl)) <| gd rfl rfl (fun hB => mv (.t rfl)) <| gd rfl rfl (fun hB => mv (.t rfl)) <| gd rfl rfl (fun hB => bc (.m rfl hB) (.m rfl hB) rfl rfl) <| u (pko (.t rfl) (.t rfl)) <| .nil _) rfl ?_
              refine .bq h (.t rfl) (fun h => ?_) (fun h => ?_)
              · refine .sq ?_
                refine .rg (u (asg .b) <| .nil _) rfl ?_
                replace h := mpR h hx2
                obtain rfl := Option.some.inj h
                exact .rt Try.func4 (.t rfl <| .n) .n rfl rfl
              · refine .skp ?_
                refine .ib ?_
                refine .rg (u (mv (.t rfl)) <| u (bi (.t rfl) (.i rfl) rfl) <| u (asg (.t rfl)) <| .nil _) rfl ?_
                exact .kq (.il (ih2 (ar .add .i64 v10 1) (nxi h))) (.c rfl (.c rfl (.c rfl .n))) (.c rfl .n)
            · refine .xt rfl ?_
              replace h := mpR h hx2
              refine .sq ?_
              refine .rg (u (asg .b) <| .nil _) rfl ?_
              obtain rfl := Option.some.inj h
              exact .rt Try.func4 (.t rfl <| .n) .n rfl rfl
      refine .bq h (.t rfl) (fun h => ?_) (fun h => ?_)
      · refine .sq ?_
        refine be h fun x13 hx13 h => ?_
        refine be h fun x14 hx14 h => ?_
        refine be h fun x15 hx15 h => ?_
        refine .rd mixed (bs (F := e8) (l := ([] : List Int)) 76 pf27 (.n) rfl (fun _ _ => rfl) rfl rfl <| u (fa ff29_0 (.t rfl)) <| u (ld tf27 (.t rfl) rfl rfl) <| ap 79 pf27 (.t rfl) rfl (.t rfl) hx13 rfl <| u (mv (.t rfl)) <| ap 81 pf27 (.t rfl) rfl (.t rfl) hx14 rfl <| cl [81] cf26 (bits_Start_c x14) (.b (.t rfl) rfl <| .n) (.inl rfl) <| u (fa ff29_1 (.t rfl)) <| u (ld tf3 (.t rfl) rfl rfl) <| cl [] cf25 (bits_Get_c hx15) (.c (.t rfl) <| .c (.t rfl) <| .n) (.inl rfl) <| u (mv (.t rfl)) <| u (ex (.t rfl) rfl rfl) <| u (ex (.t rfl) rfl rfl) <| al 17 zf32 rfl <| st tf32 (.t rfl) rfl (.t rfl) rfl rfl rfl <| u (asg (.t rfl)) <| .nil _) (by kernel_rfl) rfl ?_
        refine .sq ?_
        refine be h fun x16 hx16 h => ?_
        refine .rg (u (ld tf32 (.t rfl) rfl rfl) <| cl [] cf16 (templ_Get_c hx16) (.c (.t rfl) <| .n) (.inl rfl) <| u (mv (.t rfl)) <| u (ex (.t rfl) rfl rfl) <| u (ex (.t rfl) rfl rfl) <| al 19 zf32 rfl <| al 20 zf26 rfl <| st tf32 (.t rfl) rfl (.t rfl) rfl rfl rfl <| st tf26 (.t rfl) rfl (.t rfl) rfl rfl rfl <| .nil _) rfl ?_
        refine .sq ?_
        refine be h fun x17 hx17 h => ?_
        refine be h fun x18 hx18 h => ?_
        refine .rd mixed (u (fa ff32_2 (.t rfl)) <| u (ld tf30 (.t rfl) rfl rfl) <| u (bc (.t rfl) (.i rfl) rfl rfl) <| u (mv (.t rfl)) <| gd rfl rfl (fun hB => fa ff32_1 (.t rfl)) <| gd rfl rfl (fun hB => ld tf3 (.m rfl hB) rfl rfl) <| gd rfl rfl (fun hB => fa ff29_1 (.t rfl)) <| gd rfl rfl (fun hB => ld tf3 (.m rfl hB) rfl rfl) <| gd rfl rfl (fun hB => bc (.m rfl hB) (.m rfl hB) rfl rfl) <| u (pko (.t rfl) (.t rfl)) <| u (mv (.t rfl)) <| gd rfl rfl (fun hB => ld tf26 (.t rfl) rfl rfl) <| gd rfl rfl (fun hB => ld tf26 (.t rfl) rfl rfl) <| cg rfl rfl cf23 (fun hB => (templ_Same_c (gTt hx17 (nt hB)))) (fun hB => .c (.m rfl hB) <| .c (.m rfl hB) <| .n) (.inl rfl) <| gd rfl rfl (fun hB => no (.m rfl hB)) <| u (pko (.t rfl) (.t rfl)) <| u (mv (.t rfl)) <| gd rfl rfl (fun hB => mv (.t rfl)) <| gd rfl rfl (fun hB => bc (.m rfl hB) (.i rfl) rfl rfl) <| gd rfl rfl (fun hB => mv (.m rfl hB)) <| gm rfl rfl (fun hB => ld tf29 (.t rfl) rfl rfl) <| gm rfl rfl (fun hB => ld tf29 (.t rfl) rfl rfl) <| cgm rfl rfl cf14 (fun hB => (ref02_SameInk_c x4.1 x5.1)) (fun hB => .c (.m rfl hB) <| .c (.m rfl hB) <| .n) (.inl rfl) <| gm rfl rfl (fun hB => ld tf26 (.t rfl) rfl rfl) <| gm rfl rfl (fun hB => ld tf26 (.t rfl) rfl rfl) <| cgm rfl rfl cf23 (fun hB => (templ_Same_c (gTt hx18 (an2 (nt hB.1) hB.2)))) (fun hB => .c (.m rfl hB) <| .c (.m rfl hB) <| .n) (.inl rfl) <| gm rfl rfl (fun hB => be2 ub4 (.m rfl hB) (.m rfl hB) rfl) <| gd rfl rfl (fun hB => pkam (.m rfl hB) (.t rfl) hB) <| u (pko (.t rfl) (.t rfl)) <| .nil _) (by kernel_rfl) rfl ?_
        refine .bq h (.t rfl) (fun h => ?_) (fun h => ?_)
        · refine .sq ?_
          refine .rg (u (asg .b) <| .nil _) rfl ?_
          obtain rfl := Option.some.inj h
          exact .rt Try.func4 (.t rfl <| .n) .n rfl rfl
        · refine .skp ?_
          exact .kq (J1 () h) (.c rfl .n) .n
      · refine .sq ?_
        refine be h fun x19 hx19 h => ?_
        refine .rg (u (ld tf26 (.t rfl) rfl rfl) <| cl [] cf20 (templ_Right_c hx19) (.c (.t rfl) <| .n) (.inl rfl) <| .nil _) rfl ?_
        refine .bq h (.t rfl) (fun h => ?_) (fun h => ?_)
        · refine .sq ?_
          refine .rg (u (asg .b) <| .nil _) rfl ?_
          obtain rfl := Option.some.inj h
          exact .rt Try.func4 (.t rfl <| .n) .n rfl rfl
        · refine .skp ?_
          exact .kq (J1 () h) (.c rfl .n) .n

end Xb
