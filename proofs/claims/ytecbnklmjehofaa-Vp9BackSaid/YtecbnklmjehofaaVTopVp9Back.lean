/-
  PROVED: the statement Vp9BackSaid of this seat: whatever the arguments, the law returns true and leaves them as they were. No condition.
-/
import Derived.Test.YtecbnklmjehofaaVRd
import Derived.Test.YtecbnklmjehofaaMathA
import Derived.Test.YtecbnklmjehofaaRows
set_option linter.all false
set_option linter.unusedVariables false
set_option linter.unusedSimpArgs false
set_option linter.unnecessarySimpa false
set_option linter.deprecated false
namespace Go.Proofs.Ytecbnklmjehofaa
open Xb Go.ChangeShapes Go.WideShapes Go.ChangeAt Go.RowKit
set_option maxRecDepth 100000

theorem vp9Back_ac (y : Vp9 × Vp9 × (List Int) × Int × Unit) (hy : (wf_Vp9) (y.1) ∧ (wf_Vp9) (y.2.1) ∧ (fun l : List Int => l.length ≤ maxLen ∧ ∀ x, x ∈ l → (inK .u8) x) (y.2.2.1) ∧ (inK .u16) (y.2.2.2.1) ∧ True) :
    AC Try.prog 7 [.ro (enc_Vp9 y.1), .ro (enc_Vp9 y.2.1), .ro (.list 1 (List.map e8 y.2.2.1)), .ro (.int .u16 y.2.2.2.1)] (.ro (.bool true)) [] :=
  law24_Vp9Back_c (Xb.vp9Back_true hy.1 hy.2.1 hy.2.2.1 hy.2.2.2.1)

set_option maxRecDepth 100000 in
theorem vp9Back_lifted (os : Os) (started : os.Started) (H : Type) (enc : TypeId × Value → H) :
    ReturnsInHanded {} Try.checked os 7 .any (Rows.vp9BackSpec.pre6 enc Try.prog Try.f7 Rows.vp9BackRow.domain false) (Rows.vp9BackSpec.post enc Try.prog Try.f7 false true false false) := by
  refine returnsInHanded_of_change (C := Try.checked) Vown started (by kernel_rfl) Try.func7
    (ChangeSpec.witness6 (enc := enc) (C := Try.checked) false ⟨#[], #[.agg #[.bool false, .bool false, .int .i64 0, .bool false, .bool false, .int .i64 0, .int .i64 0, .bool false, .bool false, .bool false, .int .i64 0, .slice none 0 0, .bool false, .bool false, .bool false, .int .i64 0, .bool false, .slice none 0 0, .bool false, .slice none 0 0, .bool false], .agg #[.bool false, .bool false, .int .i64 0, .bool false, .bool false, .int .i64 0, .int .i64 0, .bool false, .bool false, .bool false, .int .i64 0, .slice none 0 0, .bool false, .bool false, .bool false, .int .i64 0, .bool false, .slice none 0 0, .bool false, .slice none 0 0, .bool false], .slice none 0 0, .int .u16 0], []⟩ 8 (by kernel_rfl) (by kernel_rfl) (by kernel_rfl) (by kernel_rfl)) ?_
  intro W base args ds gs before hval hW _ _
  exact law_contract (s := Rows.vp9BackSpec) VlaidOut rfl rfl rfl (by kernel_rfl) rfl (fun H ds h => match ds, h with | [_, _, _, _], _ => rfl)
    (.str rfl rd62 <| .str rfl rd62 <| .one rfl rd27 <| .one rfl rd78 <| .n) vp9Back_ac H enc W base args ds gs before hval hW

theorem vp9Back_proved : Rows.Vp9BackSaid :=
  OpenClaim.holds_of_wide 7 Try.f7 rfl rfl rfl rfl rfl rfl rfl ⟨rfl, rfl, rfl, rfl, rfl⟩ rfl rfl rfl rfl rfl (by kernel_rfl) Try.func7 (by kernel_rfl)
    (of_decide_eq_true (by kernel_rfl)) (by unfold Func.isWrapper; first | (rw [if_pos (by decide +kernel)]; kernel_rfl) | (rw [if_neg (by decide +kernel)]; exact ⟨rfl, rfl⟩))
    (fun os started H enc _ => vp9Back_lifted os started H enc)

end Go.Proofs.Ytecbnklmjehofaa
