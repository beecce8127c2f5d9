/- Own text: LCont. -/
import Derived.Test.YtiomfajkappjhaaLElem3
set_option linter.all false
set_option linter.unusedVariables false
set_option linter.unusedSimpArgs false
set_option linter.unnecessarySimpa false
set_option linter.deprecated false
namespace Xb
open Go

theorem IndexFunc_eq {l : List Int} {f : Int → Option Bool} {p : Int → Bool} (hl : l.length ≤ 100000000) (h : ∀ x, x ∈ l → f x = some (p x)) :
    slices_IndexFunc_int none l f = some (match l.findIdx? p with | some i => (i : Int) | none => -1) := by
  unfold slices_IndexFunc_int slices_IndexFunc_int_l1
  exact find_loop (step := fun (s : Int) => slices_IndexFunc_int_s1 none l f s) (p := p) (hit := fun i => (i : Int)) (miss := -1) (by
    simp only [slices_IndexFunc_int_s1, cm_lss, decide_eq_true_eq]
    rw [if_neg (by omega)]; rfl) (fun i hi => by
    simp only [slices_IndexFunc_int_s1, cm_lss, decide_eq_true_eq]
    rw [if_pos (by omega), bnd (ix_some rfl hi), bnd (h _ (List.getElem_mem hi))]
    by_cases hp : p l[i] = true
    · rw [if_pos hp, if_pos hp]; rfl
    · rw [if_neg hp, if_neg hp, ar_add, w_i64 (by omega) (by omega)]; rfl)
theorem ContainsFunc_eq {l : List Int} {f : Int → Option Bool} {p : Int → Bool} (hl : l.length ≤ 100000000) (h : ∀ x, x ∈ l → f x = some (p x)) :
    slices_ContainsFunc_int none l f = some (l.any p) := by
  unfold slices_ContainsFunc_int
  rw [bnd (IndexFunc_eq hl h), cm_geq]
  congr 1
  cases hf : l.findIdx? p with
  | none =>
    rw [List.findIdx?_eq_none_iff] at hf
    have : l.any p = false := by simpa using hf
    rw [this]; decide
  | some i =>
    rw [List.findIdx?_eq_some_iff_getElem] at hf
    obtain ⟨hi, hp, _⟩ := hf
    have : l.any p = true := List.any_eq_true.2 ⟨l[i], List.getElem_mem hi, hp⟩
    rw [this]; simp
theorem Contains_eq {l : List Int} {v : Int} (hl : l.length ≤ 100000000) : slices_Contains none l v = some (decide (v ∈ l)) := by
  unfold slices_Contains slices_Index slices_Index_l1
  have h := find_loop (l := l) (step := fun (s : Int) => slices_Index_s1 none l v s) (p := fun x => decide (v = x)) (hit := fun i => (i : Int)) (miss := -1) (by
    simp only [slices_Index_s1, cm_lss, decide_eq_true_eq]
    rw [if_neg (by omega)]; rfl) (fun i hi => by
    simp only [slices_Index_s1, cm_lss, decide_eq_true_eq]
    rw [if_pos (by omega), bnd (ix_some rfl hi), cm_eql]
    by_cases hp : v = l[i]
    · rw [if_pos (by simpa using hp), if_pos hp]; rfl
    · rw [if_neg (by simpa using hp), if_neg hp, ar_add, w_i64 (by omega) (by omega)]; rfl)
  rw [bnd h, cm_geq]
  congr 1
  cases hf : l.findIdx? (fun x => decide (v = x)) with
  | none =>
    rw [List.findIdx?_eq_none_iff] at hf
    have : ¬ v ∈ l := fun hm => by simpa using hf v hm
    simp [this]
  | some i =>
    rw [List.findIdx?_eq_some_iff_getElem] at hf
    obtain ⟨hi, hp, _⟩ := hf
    have : v ∈ l := by simp only [decide_eq_true_eq] at hp; rw [hp]; exact List.getElem_mem hi
    simp [this]
theorem takeWhile_findIdx {p : Int → Bool} : ∀ l : List Int, (l.takeWhile fun x => !p x).length = (l.findIdx? p).getD l.length
  | [] => rfl
  | x :: l => by
    rw [List.findIdx?_cons]
    by_cases h : p x = true
    · simp [List.takeWhile_cons, h]
    · have ih := takeWhile_findIdx (p := p) l
      simp only [Bool.not_eq_true] at h
      simp only [List.takeWhile_cons, h, Bool.not_false, if_true, List.length_cons, ih]
      cases List.findIdx? p l <;> simp

end Xb
