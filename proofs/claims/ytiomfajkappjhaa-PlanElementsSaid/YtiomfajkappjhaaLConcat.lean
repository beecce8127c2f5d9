/- Own text: LConcat. -/
import Derived.Test.YtiomfajkappjhaaLPlan4
set_option linter.all false
set_option linter.unusedVariables false
set_option linter.unusedSimpArgs false
set_option linter.unnecessarySimpa false
set_option linter.deprecated false
namespace Xb
open Go

theorem concatI_eq {ss : List (List Int)} (h1 : ss.length ≤ 1000) (h2 : ss.flatten.length ≤ 100000000) : slices_Concat_int none ss = some ss.flatten := by
  have hle : ∀ i, (ss.take i).flatten.length ≤ ss.flatten.length := fun i => by
    have : ss.flatten = (ss.take i).flatten ++ (ss.drop i).flatten := by rw [← List.flatten_append, List.take_append_drop]
    rw [this]; simp
  have hsucc : ∀ i (h : i < ss.length), (ss.take (i + 1)).flatten = (ss.take i).flatten ++ ss[i] := fun i h => by
    rw [List.take_add_one, List.getElem?_eq_getElem h]
    simp only [Option.toList_some, List.flatten_append, List.flatten_cons, List.flatten_nil, List.append_nil]
  unfold slices_Concat_int slices_Concat_int_l1
  have := loop_seq (step := fun (s : Int × Int) => slices_Concat_int_s1 none ss s.1 s.2) (r := ss.flatten) (fun i => (((ss.take i).flatten.length : Int), (i : Int))) ss.length (fun i hi => by
    have a := hle (i + 1)
    have b := hsucc i hi
    rw [b] at a
    simp only [List.length_append] at a
    have c := congrArg List.length b
    simp only [List.length_append] at c
    simp only [slices_Concat_int_s1, slices_Concat_int_j2, cm_lss, decide_eq_true_eq]
    rw [if_pos (by omega), bnd (ix_some rfl hi), ar_add, w_i64 (by omega) (by omega), if_neg (by omega), ar_add, w_i64 (by omega) (by omega), c]
    simp) (by
    simp only [slices_Concat_int_s1, cm_lss, decide_eq_true_eq]
    have hg : growL (((ss.take ss.length).flatten.length : Nat) : Int) = some () := by
      have := hle ss.length
      simp only [growL]
      rw [if_pos (by omega)]
    rw [if_neg (by omega), bnd hg]
    unfold slices_Concat_int_l3
    have := loop_seq (step := fun (s : List Int × Int) => slices_Concat_int_s3 none ss s.1 s.2) (r := ss.flatten) (fun i => ((ss.take i).flatten, (i : Int))) ss.length (fun i hi => by
      have a := hle (i + 1)
      have b := hsucc i hi
      rw [b] at a
      simp only [List.length_append] at a
      simp only [slices_Concat_int_s3, cm_lss, decide_eq_true_eq]
      rw [if_pos (by omega), bnd (ix_some rfl hi), bnd (app_some (by omega)), ar_add, w_i64 (by omega) (by omega), b]
      simp) (by
      simp only [slices_Concat_int_s3, cm_lss, decide_eq_true_eq]
      rw [if_neg (by omega)]
      simp)
    have h0 : (ss.take 0).flatten = ([] : List Int) := by simp
    rw [h0] at this
    have this' : loopG none (fun (s : List Int × Int) => slices_Concat_int_s3 none ss s.1 s.2) (([] : List Int), (0 : Int)) = some ss.flatten := this
    rw [this']; rfl)
  simpa using this

end Xb
