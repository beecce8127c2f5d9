/-
  PROVED: the statement PlanTwiceSaid of this seat: whatever the arguments, the law returns true and leaves them as they were. No condition.
-/
import Derived.Test.YtiomfajkappjhaaLRd
import Derived.Test.YtiomfajkappjhaaLTruePlanTwice
import Derived.Test.YtiomfajkappjhaaRows
set_option linter.all false
set_option linter.unusedVariables false
set_option linter.unusedSimpArgs false
set_option linter.unnecessarySimpa false
set_option linter.deprecated false
namespace Go.Proofs.Ytiomfajkappjhaa
open Xb Go.ChangeShapes Go.WideShapes Go.ChangeAt Go.RowKit
set_option maxRecDepth 100000

theorem planTwice_ac (y : Packet × Plan × Int × Unit) (hy : (wf_Packet) (y.1) ∧ (wf_Plan) (y.2.1) ∧ (inK .u8) (y.2.2.1) ∧ True) :
    AC Try.prog 4 [.ro (enc_Packet y.1), .ro (enc_Plan y.2.1), .ro (.int .u8 y.2.2.1)] (.ro (.bool true)) [] :=
  law29_PlanTwice_c (Xb.planTwice_true hy.1 hy.2.1 hy.2.2.1)

set_option maxRecDepth 100000 in
theorem planTwice_lifted (os : Os) (started : os.Started) (H : Type) (enc : TypeId × Value → H) :
    ReturnsInHanded {} Try.checked os 4 .any (Rows.planTwiceSpec.pre6 enc Try.prog Try.f4 Rows.planTwiceRow.domain false) (Rows.planTwiceSpec.post enc Try.prog Try.f4 false true false false) := by
  refine returnsInHanded_of_change (C := Try.checked) Lown started (by kernel_rfl) Try.func4
    (ChangeSpec.witness6 (enc := enc) (C := Try.checked) false ⟨#[], #[.agg #[.bool false, .bool false, .bool false, .int .i64 0, .int .u16 0, .int .u32 0, .int .u32 0, .slice none 0 0, .int .u16 0, .slice none 0 0, .slice none 0 0, .int .i64 0], .agg #[.bool false, .bool false, .bool false, .int .i64 0, .bool false, .int .u16 0, .bool false, .int .u32 0, .bool false, .int .u32 0, .slice none 0 0, .slice none 0 0, .slice none 0 0, .slice none 0 0, .bool false], .int .u8 0], []⟩ 8 (by kernel_rfl) (by kernel_rfl) (by kernel_rfl) (by kernel_rfl)) ?_
  intro W base args ds gs before hval hW _ _
  exact law_contract (s := Rows.planTwiceSpec) LlaidOut rfl rfl rfl (by kernel_rfl) rfl (fun H ds h => match ds, h with | [_, _, _], _ => rfl)
    (.str rfl rd34 <| .str rfl rd28 <| .one rfl rd5 <| .n) planTwice_ac H enc W base args ds gs before hval hW

theorem planTwice_proved : Rows.PlanTwiceSaid :=
  OpenClaim.holds_of_wide 4 Try.f4 rfl rfl rfl rfl rfl rfl rfl ⟨rfl, rfl, rfl, rfl, rfl⟩ rfl rfl rfl rfl rfl (by kernel_rfl) Try.func4 (by kernel_rfl)
    (of_decide_eq_true (by kernel_rfl)) (by unfold Func.isWrapper; first | (rw [if_pos (by decide +kernel)]; kernel_rfl) | (rw [if_neg (by decide +kernel)]; exact ⟨rfl, rfl⟩))
    (fun os started H enc _ => planTwice_lifted os started H enc)

end Go.Proofs.Ytiomfajkappjhaa
