/- Own text: KPad4. -/
import Derived.Test.YtcdhafhamjinlaaKPad2
set_option linter.all false
set_option linter.unusedVariables false
set_option linter.unusedSimpArgs false
set_option linter.unnecessarySimpa false
set_option linter.deprecated false
namespace Xb
open Go
theorem refFill_eq {b : List Int} (h : b.length ≤ 1000000) : ref03_Fill none b = some (b ++ List.replicate (fillN b.length) 0) := by
  unfold ref03_Fill ref03_Fill_l1
  rw [bnd (app_some (l := []) (m := b) (by simp; omega)), List.nil_append]
  have hf : fillN b.length ≤ 3 ∧ (b.length + fillN b.length) % 4 = 0 ∧ ∀ i, i < fillN b.length → (b.length + i) % 4 ≠ 0 := by
    unfold fillN
    exact ⟨by omega, by omega, fun i hi => by omega⟩
  have := loop_seq (step := fun (s : List Int) => ref03_Fill_s1 none s) (r := b ++ List.replicate (fillN b.length) 0) (fun i => b ++ List.replicate i 0) (fillN b.length) (fun i hi => by
    have h1 := hf.2.2 i hi
    simp only [ref03_Fill_s1]
    have hl : (b ++ List.replicate i (0 : Int)).length = b.length + i := by simp
    rw [hl, dv_rem (by omega), cm_neq, if_pos (by simp; omega), bnd (app_some (by rw [hl]; simp; omega)), List.append_assoc, ← List.replicate_succ']) (by
    simp only [ref03_Fill_s1]
    have hl : (b ++ List.replicate (fillN b.length) (0 : Int)).length = b.length + fillN b.length := by simp
    rw [hl, dv_rem (by omega), cm_neq, if_neg (by simp; omega)]
    rfl)
  simpa using this

end Xb
