/-
  PROVED: the statement PadRightSaid of this seat: whatever the arguments, the law returns true and leaves them as they were. No condition.
-/
import Derived.Test.YthdbckjpoffnpaaDRd
import Derived.Test.YthdbckjpoffnpaaDTruePadRight
import Derived.Test.YthdbckjpoffnpaaRows
set_option linter.all false
set_option linter.unusedVariables false
set_option linter.unusedSimpArgs false
set_option linter.unnecessarySimpa false
set_option linter.deprecated false
namespace Go.Proofs.Ythdbckjpoffnpaa
open Xb Go.ChangeShapes Go.WideShapes Go.ChangeAt Go.RowKit

theorem padRight_ac (y : (List Int) × Int × Unit) (hy : (fun l : List Int => l.length ≤ maxLen ∧ ∀ x, x ∈ l → (inK .u8) x) (y.1) ∧ (inK .i64) (y.2.1) ∧ True) :
    AC Try.prog 5 [.ro (.list 1 (List.map e8 y.1)), .ro (.int .i64 y.2.1)] (.ro (.bool true)) [] :=
  law03_PadRight_c (Xb.padRight_true hy.1 hy.2.1)

set_option maxRecDepth 100000 in
theorem padRight_lifted (os : Os) (started : os.Started) (H : Type) (enc : TypeId × Value → H) :
    ReturnsInHanded {} Try.checked os 5 .any (Rows.padRightSpec.pre6 enc Try.prog Try.f5 Rows.padRightRow.domain false) (Rows.padRightSpec.post enc Try.prog Try.f5 false true false false) := by
  refine returnsInHanded_of_change (C := Try.checked) Down started (by kernel_rfl) Try.func5
    (ChangeSpec.witness6 (enc := enc) (C := Try.checked) false ⟨#[], #[.slice none 0 0, .int .i64 0], []⟩ 8 (by kernel_rfl) (by kernel_rfl) (by kernel_rfl) (by kernel_rfl)) ?_
  intro W base args ds gs before hval hW _ _
  exact law_contract (s := Rows.padRightSpec) DlaidOut rfl rfl rfl (by kernel_rfl) rfl (fun H ds h => match ds, h with | [_, _], _ => rfl)
    (.one rfl rd37 <| .one rfl rd3 <| .n) padRight_ac H enc W base args ds gs before hval hW

theorem padRight_proved : Rows.PadRightSaid :=
  OpenClaim.holds_of_wide 5 Try.f5 rfl rfl rfl rfl rfl rfl rfl ⟨rfl, rfl, rfl, rfl, rfl⟩ rfl rfl rfl rfl rfl (by kernel_rfl) Try.func5 (by kernel_rfl)
    (of_decide_eq_true (by kernel_rfl)) (by unfold Func.isWrapper; first | (rw [if_pos (by decide +kernel)]; kernel_rfl) | (rw [if_neg (by decide +kernel)]; exact ⟨rfl, rfl⟩))
    (fun os started H enc _ => padRight_lifted os started H enc)

end Go.Proofs.Ythdbckjpoffnpaa
