/- Own text: KElem1. -/
import Derived.Test.YtcdhafhamjinlaaKPad4
import Derived.Test.YtcdhafhamjinlaaKB2s
import Derived.Test.YtcdhafhamjinlaaKWf
set_option linter.all false
set_option linter.unusedVariables false
set_option linter.unusedSimpArgs false
set_option linter.unnecessarySimpa false
set_option linter.deprecated false
namespace Xb
open Go

def oct (l : List Int) : Prop := ∀ x, x ∈ l → 0 ≤ x ∧ x ≤ 255
def FitE (e : Elem) : Prop := 1 ≤ e.id_ ∧ e.id_ ≤ 255 ∧ e.data.length ≤ 255
instance (e : Elem) : Decidable (FitE e) := inferInstanceAs (Decidable (_ ∧ _))
def RightL (l : List Elem) : Prop := (∀ e, e ∈ l → FitE e) ∧ (l.map (·.id_)).Nodup
instance (l : List Elem) : Decidable (RightL l) := inferInstanceAs (Decidable (_ ∧ _))

theorem mlook_ids {l : List Elem} {k : Int} : mgetD (l.reverse.map fun e => (e.id_, true)) k false = decide (k ∈ l.map (·.id_)) := by
  have key : ∀ (m : List Elem), mgetD (m.map fun e => (e.id_, true)) k false = decide (k ∈ m.map (·.id_)) := by
    intro m
    unfold mgetD
    induction m with
    | nil => simp [mlook]
    | cons a m ih =>
      simp only [List.map_cons, mlook]
      by_cases h : a.id_ = k
      · rw [if_pos h]; simp [h]
      · rw [if_neg h, ih]
        simp [Ne.symm h]
  rw [key]
  simp

theorem right_step {l : List Elem} {i : Nat} (hl : l.length ≤ 1000000) (hi : i < l.length) :
    elem_Right_s1 none l ((l.take i).reverse.map fun e => (e.id_, true)) (i : Int) =
      if FitE l[i] ∧ l[i].id_ ∉ (l.take i).map (·.id_) then some (.inl ((l.take (i + 1)).reverse.map (fun e => (e.id_, true)), ((i + 1 : Nat) : Int))) else some (.inr false) := by
  unfold elem_Right_s1
  rw [if_pos (by rw [cm_lss]; simpa using hi), bnd (ix_some (n := i) rfl hi), mlook_ids]
  by_cases h : FitE l[i] ∧ l[i].id_ ∉ (l.take i).map (·.id_)
  · have h1 := h.1
    unfold FitE at h1
    rw [if_pos h, if_neg (by rw [decide_eq_false h.2, cm_lss, cm_gtr, cm_gtr]; simp; omega)]
    have hp : mputO ((l.take i).reverse.map fun e => (e.id_, true)) l[i].id_ true = some ((l.take (i + 1)).reverse.map fun e => (e.id_, true)) := by
      unfold mputO
      have e : l.take (i + 1) = l.take i ++ [l[i]] := by rw [List.take_add_one, List.getElem?_eq_getElem hi]; rfl
      rw [if_pos (by simp; omega), e, List.reverse_append, List.reverse_singleton, List.singleton_append, List.map_cons]
    rw [bnd hp, ar_add, w_i64 (by omega) (by omega)]
    rfl
  · rw [if_neg h, if_pos (by
      by_cases h2 : l[i].id_ ∈ (l.take i).map (·.id_)
      · rw [decide_eq_true h2, Bool.or_true]
      · have h1 : ¬ FitE l[i] := fun h1 => h ⟨h1, h2⟩
        unfold FitE at h1
        rw [decide_eq_false h2, cm_lss, cm_gtr, cm_gtr]
        simp only [Bool.or_false, Bool.or_eq_true, decide_eq_true_eq]
        omega)]
    rfl

theorem nodup_snoc {l : List Int} {x : Int} : (l ++ [x]).Nodup ↔ l.Nodup ∧ x ∉ l := by
  rw [List.nodup_append]
  constructor
  · rintro ⟨h1, _, h3⟩; exact ⟨h1, fun hx => h3 x hx x (by simp) rfl⟩
  · rintro ⟨h1, h2⟩; exact ⟨h1, by simp, fun a ha b hb e => by simp at hb; subst hb; exact h2 (e ▸ ha)⟩

theorem right_take {l : List Elem} {i : Nat} (hi : i < l.length) : RightL (l.take (i + 1)) ↔ RightL (l.take i) ∧ FitE l[i] ∧ l[i].id_ ∉ (l.take i).map (·.id_) := by
  have e : l.take (i + 1) = l.take i ++ [l[i]] := by rw [List.take_add_one, List.getElem?_eq_getElem hi]; rfl
  unfold RightL
  rw [e, List.map_append, List.map_singleton, nodup_snoc]
  constructor
  · rintro ⟨h1, h2, h3⟩; exact ⟨⟨fun e he => h1 e (List.mem_append_left _ he), h2⟩, h1 _ (List.mem_append_right _ (List.mem_singleton.2 rfl)), h3⟩
  · rintro ⟨⟨h1, h2⟩, h3, h4⟩
    refine ⟨fun e he => ?_, h2, h4⟩
    rcases List.mem_append.1 he with he | he
    · exact h1 e he
    · rw [List.mem_singleton.1 he]; exact h3
theorem right_mono {l : List Elem} {i : Nat} (h : RightL l) : RightL (l.take i) := by
  refine ⟨fun e he => h.1 e (List.mem_of_mem_take he), ?_⟩
  rw [List.map_take]
  exact List.Sublist.nodup (List.take_sublist _ _) h.2

theorem eright_eq {l : List Elem} (hl : l.length ≤ 1000000) : elem_Right none l = some (decide (RightL l)) := by
  unfold elem_Right elem_Right_l1
  have key : ∀ m i, i + m = l.length → RightL (l.take i) → loopG none (fun (s : (List (Int × Bool)) × Int) => elem_Right_s1 none l s.1 s.2) ((l.take i).reverse.map (fun e => (e.id_, true)), (i : Int)) = some (decide (RightL l)) := by
    intro m
    induction m with
    | zero =>
      intro i hi hr
      have e : i = l.length := by omega
      subst e
      rw [List.take_length] at hr ⊢
      rw [loopG_eq]
      have : elem_Right_s1 none l (l.reverse.map fun e => (e.id_, true)) (l.length : Int) = some (.inr true) := by
        unfold elem_Right_s1
        rw [if_neg (by rw [cm_lss]; simp)]; rfl
      simp only [this, decide_eq_true hr]
    | succ m ih =>
      intro i hi hr
      have hil : i < l.length := by omega
      have hs := right_step (l := l) (i := i) hl hil
      by_cases h : FitE l[i] ∧ l[i].id_ ∉ (l.take i).map (·.id_)
      · rw [if_pos h] at hs
        rw [loop_inl hs]
        exact ih (i + 1) (by omega) ((right_take hil).2 ⟨hr, h⟩)
      · rw [if_neg h] at hs
        rw [loop_inr hs]
        have : ¬ RightL l := fun hr2 => h ((right_take hil).1 (right_mono (i := i + 1) hr2)).2
        rw [decide_eq_false this]
  have := key l.length 0 (by omega) ⟨by simp, by simp⟩
  simpa using this
end Xb
