/-
  PROVED: the statement Vp9RightSaid of this seat: whatever the arguments, the law returns true and leaves them as they were. No condition.
-/
import Derived.Test.YtecbnklmjehofaaVRd
import Derived.Test.YtecbnklmjehofaaMathB
import Derived.Test.YtecbnklmjehofaaRows
set_option linter.all false
set_option linter.unusedVariables false
set_option linter.unusedSimpArgs false
set_option linter.unnecessarySimpa false
set_option linter.deprecated false
namespace Go.Proofs.Ytecbnklmjehofaa
open Xb Go.ChangeShapes Go.WideShapes Go.ChangeAt Go.RowKit
set_option maxRecDepth 100000

theorem vp9Right_ac (y : Vp9 × (List Int) × Int × Int × Unit) (hy : (wf_Vp9) (y.1) ∧ (fun l : List Int => l.length ≤ maxLen ∧ ∀ x, x ∈ l → (inK .u8) x) (y.2.1) ∧ (inK .i64) (y.2.2.1) ∧ (inK .i64) (y.2.2.2.1) ∧ True) :
    AC Try.prog 6 [.ro (enc_Vp9 y.1), .ro (.list 1 (List.map e8 y.2.1)), .ro (.int .i64 y.2.2.1), .ro (.int .i64 y.2.2.2.1)] (.ro (.bool true)) [] :=
  law24_Vp9Right_c (Xb.vp9Right_true hy.1 hy.2.1 hy.2.2.1 hy.2.2.2.1)

set_option maxRecDepth 100000 in
theorem vp9Right_lifted (os : Os) (started : os.Started) (H : Type) (enc : TypeId × Value → H) :
    ReturnsInHanded {} Try.checked os 6 .any (Rows.vp9RightSpec.pre6 enc Try.prog Try.f6 Rows.vp9RightRow.domain false) (Rows.vp9RightSpec.post enc Try.prog Try.f6 false true false false) := by
  refine returnsInHanded_of_change (C := Try.checked) Vown started (by kernel_rfl) Try.func6
    (ChangeSpec.witness6 (enc := enc) (C := Try.checked) false ⟨#[], #[.agg #[.bool false, .bool false, .int .i64 0, .bool false, .bool false, .int .i64 0, .int .i64 0, .bool false, .bool false, .bool false, .int .i64 0, .slice none 0 0, .bool false, .bool false, .bool false, .int .i64 0, .bool false, .slice none 0 0, .bool false, .slice none 0 0, .bool false], .slice none 0 0, .int .i64 0, .int .i64 0], []⟩ 8 (by kernel_rfl) (by kernel_rfl) (by kernel_rfl) (by kernel_rfl)) ?_
  intro W base args ds gs before hval hW _ _
  exact law_contract (s := Rows.vp9RightSpec) VlaidOut rfl rfl rfl (by kernel_rfl) rfl (fun H ds h => match ds, h with | [_, _, _, _], _ => rfl)
    (.str rfl rd62 <| .one rfl rd27 <| .one rfl rd3 <| .one rfl rd3 <| .n) vp9Right_ac H enc W base args ds gs before hval hW

theorem vp9Right_proved : Rows.Vp9RightSaid :=
  OpenClaim.holds_of_wide 6 Try.f6 rfl rfl rfl rfl rfl rfl rfl ⟨rfl, rfl, rfl, rfl, rfl⟩ rfl rfl rfl rfl rfl (by kernel_rfl) Try.func6 (by kernel_rfl)
    (of_decide_eq_true (by kernel_rfl)) (by unfold Func.isWrapper; first | (rw [if_pos (by decide +kernel)]; kernel_rfl) | (rw [if_neg (by decide +kernel)]; exact ⟨rfl, rfl⟩))
    (fun os started H enc _ => vp9Right_lifted os started H enc)

end Go.Proofs.Ytecbnklmjehofaa
