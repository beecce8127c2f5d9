/-
  PROVED: the statement ArriveWhenSaid of this seat: whatever the arguments, the law returns true and leaves them as they were. No condition.
-/
import Derived.Test.YtjfacnghojgkeaaJRd
import Derived.Test.YtjfacnghojgkeaaJTrueArriveWhen
import Derived.Test.YtjfacnghojgkeaaRows
set_option linter.all false
set_option linter.unusedVariables false
set_option linter.unusedSimpArgs false
set_option linter.unnecessarySimpa false
set_option linter.deprecated false
namespace Go.Proofs.Ytjfacnghojgkeaa
open Xb Go.ChangeShapes Go.WideShapes Go.ChangeAt Go.RowKit
set_option maxRecDepth 100000

theorem arriveWhen_ac (y : Arrive × Int × Unit) (hy : (wf_Arrive) (y.1) ∧ (inK .u16) (y.2.1) ∧ True) :
    AC Try.prog 5 [.ro (enc_Arrive y.1), .ro (.int .u16 y.2.1)] (.ro (.bool true)) [] :=
  law19_ArriveWhen_c (Xb.arriveWhen_true hy.1 hy.2.1)

set_option maxRecDepth 100000 in
theorem arriveWhen_lifted (os : Os) (started : os.Started) (H : Type) (enc : TypeId × Value → H) :
    ReturnsInHanded {} Try.checked os 5 .any (Rows.arriveWhenSpec.pre6 enc Try.prog Try.f5 Rows.arriveWhenRow.domain false) (Rows.arriveWhenSpec.post enc Try.prog Try.f5 false true false false) := by
  refine returnsInHanded_of_change (C := Try.checked) Jown started (by kernel_rfl) Try.func5
    (ChangeSpec.witness6 (enc := enc) (C := Try.checked) false ⟨#[], #[.agg #[.int .u16 0, .int .i64 0, .int .u8 0, .slice none 0 0], .int .u16 0], []⟩ 8 (by kernel_rfl) (by kernel_rfl) (by kernel_rfl) (by kernel_rfl)) ?_
  intro W base args ds gs before hval hW _ _
  exact law_contract (s := Rows.arriveWhenSpec) JlaidOut rfl rfl rfl (by kernel_rfl) rfl (fun H ds h => match ds, h with | [_, _], _ => rfl)
    (.str rfl rd25 <| .one rfl rd22 <| .n) arriveWhen_ac H enc W base args ds gs before hval hW

theorem arriveWhen_proved : Rows.ArriveWhenSaid :=
  OpenClaim.holds_of_wide 5 Try.f5 rfl rfl rfl rfl rfl rfl rfl ⟨rfl, rfl, rfl, rfl, rfl⟩ rfl rfl rfl rfl rfl (by kernel_rfl) Try.func5 (by kernel_rfl)
    (of_decide_eq_true (by kernel_rfl)) (by unfold Func.isWrapper; first | (rw [if_pos (by decide +kernel)]; kernel_rfl) | (rw [if_neg (by decide +kernel)]; exact ⟨rfl, rfl⟩))
    (fun os started H enc _ => arriveWhen_lifted os started H enc)

end Go.Proofs.Ytjfacnghojgkeaa
