/-
  PROVED: the statement ArriveRightSaid of this seat: whatever the arguments, the law returns true and leaves them as they were. No condition.
-/
import Derived.Test.YtjfacnghojgkeaaJRd
import Derived.Test.YtjfacnghojgkeaaJTrueArriveRight
import Derived.Test.YtjfacnghojgkeaaRows
set_option linter.all false
set_option linter.unusedVariables false
set_option linter.unusedSimpArgs false
set_option linter.unnecessarySimpa false
set_option linter.deprecated false
namespace Go.Proofs.Ytjfacnghojgkeaa
open Xb Go.ChangeShapes Go.WideShapes Go.ChangeAt Go.RowKit
set_option maxRecDepth 100000

theorem arriveRight_ac (y : Arrive × (List Int) × Int × Unit) (hy : (wf_Arrive) (y.1) ∧ (fun l : List Int => l.length ≤ maxLen ∧ ∀ x, x ∈ l → (inK .u8) x) (y.2.1) ∧ (inK .i64) (y.2.2.1) ∧ True) :
    AC Try.prog 3 [.ro (enc_Arrive y.1), .ro (.list 1 (List.map e8 y.2.1)), .ro (.int .i64 y.2.2.1)] (.ro (.bool true)) [] :=
  law19_ArriveRight_c (Xb.arriveRight_true hy.1 hy.2.1 hy.2.2.1)

set_option maxRecDepth 100000 in
theorem arriveRight_lifted (os : Os) (started : os.Started) (H : Type) (enc : TypeId × Value → H) :
    ReturnsInHanded {} Try.checked os 3 .any (Rows.arriveRightSpec.pre6 enc Try.prog Try.f3 Rows.arriveRightRow.domain false) (Rows.arriveRightSpec.post enc Try.prog Try.f3 false true false false) := by
  refine returnsInHanded_of_change (C := Try.checked) Jown started (by kernel_rfl) Try.func3
    (ChangeSpec.witness6 (enc := enc) (C := Try.checked) false ⟨#[], #[.agg #[.int .u16 0, .int .i64 0, .int .u8 0, .slice none 0 0], .slice none 0 0, .int .i64 0], []⟩ 8 (by kernel_rfl) (by kernel_rfl) (by kernel_rfl) (by kernel_rfl)) ?_
  intro W base args ds gs before hval hW _ _
  exact law_contract (s := Rows.arriveRightSpec) JlaidOut rfl rfl rfl (by kernel_rfl) rfl (fun H ds h => match ds, h with | [_, _, _], _ => rfl)
    (.str rfl rd25 <| .one rfl rd26 <| .one rfl rd3 <| .n) arriveRight_ac H enc W base args ds gs before hval hW

theorem arriveRight_proved : Rows.ArriveRightSaid :=
  OpenClaim.holds_of_wide 3 Try.f3 rfl rfl rfl rfl rfl rfl rfl ⟨rfl, rfl, rfl, rfl, rfl⟩ rfl rfl rfl rfl rfl (by kernel_rfl) Try.func3 (by kernel_rfl)
    (of_decide_eq_true (by kernel_rfl)) (by unfold Func.isWrapper; first | (rw [if_pos (by decide +kernel)]; kernel_rfl) | (rw [if_neg (by decide +kernel)]; exact ⟨rfl, rfl⟩))
    (fun os started H enc _ => arriveRight_lifted os started H enc)

end Go.Proofs.Ytjfacnghojgkeaa
