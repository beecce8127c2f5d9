/-
  PROVED: the statement FeedKindsSaid of this seat: whatever the arguments, the law returns true and leaves them as they were. No condition.
-/
import Derived.Test.YtpehlandaemcmaaRRd
import Derived.Test.YtpehlandaemcmaaRTrueFeedKinds
import Derived.Test.YtpehlandaemcmaaRows
set_option linter.all false
set_option linter.unusedVariables false
set_option linter.unusedSimpArgs false
set_option linter.unnecessarySimpa false
set_option linter.deprecated false
namespace Go.Proofs.Ytpehlandaemcmaa
open Xb Go.ChangeShapes Go.WideShapes Go.ChangeAt Go.RowKit
set_option maxRecDepth 100000

theorem feedKinds_ac (y : Int × Int × Unit) (hy : (inK .i64) (y.1) ∧ (inK .i64) (y.2.1) ∧ True) :
    AC Try.prog 3 [.ro (.int .i64 y.1), .ro (.int .i64 y.2.1)] (.ro (.bool true)) [] :=
  law20_FeedKinds_c (Xb.feedKinds_true hy.1 hy.2.1)

set_option maxRecDepth 100000 in
theorem feedKinds_lifted (os : Os) (started : os.Started) (H : Type) (enc : TypeId × Value → H) :
    ReturnsInHanded {} Try.checked os 3 .any (Rows.feedKindsSpec.pre6 enc Try.prog Try.f3 Rows.feedKindsRow.domain false) (Rows.feedKindsSpec.post enc Try.prog Try.f3 false true false false) := by
  refine returnsInHanded_of_change (C := Try.checked) Rown started (by kernel_rfl) Try.func3
    (ChangeSpec.witness6 (enc := enc) (C := Try.checked) false ⟨#[], #[.int .i64 0, .int .i64 0], []⟩ 8 (by kernel_rfl) (by kernel_rfl) (by kernel_rfl) (by kernel_rfl)) ?_
  intro W base args ds gs before hval hW _ _
  exact law_contract (s := Rows.feedKindsSpec) RlaidOut rfl rfl rfl (by kernel_rfl) rfl (fun H ds h => match ds, h with | [_, _], _ => rfl)
    (.one rfl rd3 <| .one rfl rd3 <| .n) feedKinds_ac H enc W base args ds gs before hval hW

theorem feedKinds_proved : Rows.FeedKindsSaid :=
  OpenClaim.holds_of_wide 3 Try.f3 rfl rfl rfl rfl rfl rfl rfl ⟨rfl, rfl, rfl, rfl, rfl⟩ rfl rfl rfl rfl rfl (by kernel_rfl) Try.func3 (by kernel_rfl)
    (of_decide_eq_true (by kernel_rfl)) (by unfold Func.isWrapper; first | (rw [if_pos (by decide +kernel)]; kernel_rfl) | (rw [if_neg (by decide +kernel)]; exact ⟨rfl, rfl⟩))
    (fun os started H enc _ => feedKinds_lifted os started H enc)

end Go.Proofs.Ytpehlandaemcmaa
