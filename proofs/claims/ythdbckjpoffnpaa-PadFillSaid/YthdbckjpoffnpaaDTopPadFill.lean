/-
  PROVED: the statement PadFillSaid of this seat: whatever the arguments, the law returns true and leaves them as they were. No condition.
-/
import Derived.Test.YthdbckjpoffnpaaDRd
import Derived.Test.YthdbckjpoffnpaaDTruePadFill
import Derived.Test.YthdbckjpoffnpaaRows
set_option linter.all false
set_option linter.unusedVariables false
set_option linter.unusedSimpArgs false
set_option linter.unnecessarySimpa false
set_option linter.deprecated false
namespace Go.Proofs.Ythdbckjpoffnpaa
open Xb Go.ChangeShapes Go.WideShapes Go.ChangeAt Go.RowKit

theorem padFill_ac (y : (List Int) × Unit) (hy : (fun l : List Int => l.length ≤ maxLen ∧ ∀ x, x ∈ l → (inK .u8) x) (y.1) ∧ True) :
    AC Try.prog 7 [.ro (.list 1 (List.map e8 y.1))] (.ro (.bool true)) [] :=
  law03_PadFill_c (Xb.padFill_true hy.1)

set_option maxRecDepth 100000 in
theorem padFill_lifted (os : Os) (started : os.Started) (H : Type) (enc : TypeId × Value → H) :
    ReturnsInHanded {} Try.checked os 7 .any (Rows.padFillSpec.pre6 enc Try.prog Try.f7 Rows.padFillRow.domain false) (Rows.padFillSpec.post enc Try.prog Try.f7 false true false false) := by
  refine returnsInHanded_of_change (C := Try.checked) Down started (by kernel_rfl) Try.func7
    (ChangeSpec.witness6 (enc := enc) (C := Try.checked) false ⟨#[], #[.slice none 0 0], []⟩ 8 (by kernel_rfl) (by kernel_rfl) (by kernel_rfl) (by kernel_rfl)) ?_
  intro W base args ds gs before hval hW _ _
  exact law_contract (s := Rows.padFillSpec) DlaidOut rfl rfl rfl (by kernel_rfl) rfl (fun H ds h => match ds, h with | [_], _ => rfl)
    (.one rfl rd37 <| .n) padFill_ac H enc W base args ds gs before hval hW

theorem padFill_proved : Rows.PadFillSaid :=
  OpenClaim.holds_of_wide 7 Try.f7 rfl rfl rfl rfl rfl rfl rfl ⟨rfl, rfl, rfl, rfl, rfl⟩ rfl rfl rfl rfl rfl (by kernel_rfl) Try.func7 (by kernel_rfl)
    (of_decide_eq_true (by kernel_rfl)) (by unfold Func.isWrapper; first | (rw [if_pos (by decide +kernel)]; kernel_rfl) | (rw [if_neg (by decide +kernel)]; exact ⟨rfl, rfl⟩))
    (fun os started H enc _ => padFill_lifted os started H enc)

end Go.Proofs.Ythdbckjpoffnpaa
