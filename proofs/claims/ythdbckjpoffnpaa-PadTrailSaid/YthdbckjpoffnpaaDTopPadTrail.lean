/-
  PROVED: the statement PadTrailSaid of this seat: whatever the arguments, the law returns true and leaves them as they were. No condition.
-/
import Derived.Test.YthdbckjpoffnpaaDRd
import Derived.Test.YthdbckjpoffnpaaDTruePadTrail
import Derived.Test.YthdbckjpoffnpaaRows
set_option linter.all false
set_option linter.unusedVariables false
set_option linter.unusedSimpArgs false
set_option linter.unnecessarySimpa false
set_option linter.deprecated false
namespace Go.Proofs.Ythdbckjpoffnpaa
open Xb Go.ChangeShapes Go.WideShapes Go.ChangeAt Go.RowKit

theorem padTrail_ac (y : (List Int) × Int × Int × Int × Unit) (hy : (fun l : List Int => l.length ≤ maxLen ∧ ∀ x, x ∈ l → (inK .u8) x) (y.1) ∧ (inK .u8) (y.2.1) ∧ (inK .u16) (y.2.2.1) ∧ (inK .u8) (y.2.2.2.1) ∧ True) :
    AC Try.prog 6 [.ro (.list 1 (List.map e8 y.1)), .ro (.int .u8 y.2.1), .ro (.int .u16 y.2.2.1), .ro (.int .u8 y.2.2.2.1)] (.ro (.bool true)) [] :=
  law03_PadTrail_c (Xb.padTrail_true hy.1 hy.2.1 hy.2.2.1 hy.2.2.2.1)

set_option maxRecDepth 100000 in
theorem padTrail_lifted (os : Os) (started : os.Started) (H : Type) (enc : TypeId × Value → H) :
    ReturnsInHanded {} Try.checked os 6 .any (Rows.padTrailSpec.pre6 enc Try.prog Try.f6 Rows.padTrailRow.domain false) (Rows.padTrailSpec.post enc Try.prog Try.f6 false true false false) := by
  refine returnsInHanded_of_change (C := Try.checked) Down started (by kernel_rfl) Try.func6
    (ChangeSpec.witness6 (enc := enc) (C := Try.checked) false ⟨#[], #[.slice none 0 0, .int .u8 0, .int .u16 0, .int .u8 0], []⟩ 8 (by kernel_rfl) (by kernel_rfl) (by kernel_rfl) (by kernel_rfl)) ?_
  intro W base args ds gs before hval hW _ _
  exact law_contract (s := Rows.padTrailSpec) DlaidOut rfl rfl rfl (by kernel_rfl) rfl (fun H ds h => match ds, h with | [_, _, _, _], _ => rfl)
    (.one rfl rd37 <| .one rfl rd5 <| .one rfl rd35 <| .one rfl rd5 <| .n) padTrail_ac H enc W base args ds gs before hval hW

theorem padTrail_proved : Rows.PadTrailSaid :=
  OpenClaim.holds_of_wide 6 Try.f6 rfl rfl rfl rfl rfl rfl rfl ⟨rfl, rfl, rfl, rfl, rfl⟩ rfl rfl rfl rfl rfl (by kernel_rfl) Try.func6 (by kernel_rfl)
    (of_decide_eq_true (by kernel_rfl)) (by unfold Func.isWrapper; first | (rw [if_pos (by decide +kernel)]; kernel_rfl) | (rw [if_neg (by decide +kernel)]; exact ⟨rfl, rfl⟩))
    (fun os started H enc _ => padTrail_lifted os started H enc)

end Go.Proofs.Ythdbckjpoffnpaa
