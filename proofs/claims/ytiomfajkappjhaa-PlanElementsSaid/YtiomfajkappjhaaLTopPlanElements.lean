/-
  PROVED: the statement PlanElementsSaid of this seat: whatever the arguments, the law returns true and leaves them as they were. No condition.
-/
import Derived.Test.YtiomfajkappjhaaLRd
import Derived.Test.YtiomfajkappjhaaLTruePlanElements
import Derived.Test.YtiomfajkappjhaaRows
set_option linter.all false
set_option linter.unusedVariables false
set_option linter.unusedSimpArgs false
set_option linter.unnecessarySimpa false
set_option linter.deprecated false
namespace Go.Proofs.Ytiomfajkappjhaa
open Xb Go.ChangeShapes Go.WideShapes Go.ChangeAt Go.RowKit
set_option maxRecDepth 100000

theorem planElements_ac (y : Plan × Packet × Unit) (hy : (wf_Plan) (y.1) ∧ (wf_Packet) (y.2.1) ∧ True) :
    AC Try.prog 3 [.ro (enc_Plan y.1), .ro (enc_Packet y.2.1)] (.ro (.bool true)) [] :=
  law29_PlanElements_c (Xb.planElements_true hy.1 hy.2.1)

set_option maxRecDepth 100000 in
theorem planElements_lifted (os : Os) (started : os.Started) (H : Type) (enc : TypeId × Value → H) :
    ReturnsInHanded {} Try.checked os 3 .any (Rows.planElementsSpec.pre6 enc Try.prog Try.f3 Rows.planElementsRow.domain false) (Rows.planElementsSpec.post enc Try.prog Try.f3 false true false false) := by
  refine returnsInHanded_of_change (C := Try.checked) Lown started (by kernel_rfl) Try.func3
    (ChangeSpec.witness6 (enc := enc) (C := Try.checked) false ⟨#[], #[.agg #[.bool false, .bool false, .bool false, .int .i64 0, .bool false, .int .u16 0, .bool false, .int .u32 0, .bool false, .int .u32 0, .slice none 0 0, .slice none 0 0, .slice none 0 0, .slice none 0 0, .bool false], .agg #[.bool false, .bool false, .bool false, .int .i64 0, .int .u16 0, .int .u32 0, .int .u32 0, .slice none 0 0, .int .u16 0, .slice none 0 0, .slice none 0 0, .int .i64 0]], []⟩ 8 (by kernel_rfl) (by kernel_rfl) (by kernel_rfl) (by kernel_rfl)) ?_
  intro W base args ds gs before hval hW _ _
  exact law_contract (s := Rows.planElementsSpec) LlaidOut rfl rfl rfl (by kernel_rfl) rfl (fun H ds h => match ds, h with | [_, _], _ => rfl)
    (.str rfl rd28 <| .str rfl rd34 <| .n) planElements_ac H enc W base args ds gs before hval hW

theorem planElements_proved : Rows.PlanElementsSaid :=
  OpenClaim.holds_of_wide 3 Try.f3 rfl rfl rfl rfl rfl rfl rfl ⟨rfl, rfl, rfl, rfl, rfl⟩ rfl rfl rfl rfl rfl (by kernel_rfl) Try.func3 (by kernel_rfl)
    (of_decide_eq_true (by kernel_rfl)) (by unfold Func.isWrapper; first | (rw [if_pos (by decide +kernel)]; kernel_rfl) | (rw [if_neg (by decide +kernel)]; exact ⟨rfl, rfl⟩))
    (fun os started H enc _ => planElements_lifted os started H enc)

end Go.Proofs.Ytiomfajkappjhaa
