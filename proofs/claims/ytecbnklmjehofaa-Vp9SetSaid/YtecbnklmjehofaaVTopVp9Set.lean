/-
  PROVED: the statement Vp9SetSaid of this seat: whatever the arguments, the law returns true and leaves them as they were. No condition.
-/
import Derived.Test.YtecbnklmjehofaaVRd
import Derived.Test.YtecbnklmjehofaaMathA
import Derived.Test.YtecbnklmjehofaaRows
set_option linter.all false
set_option linter.unusedVariables false
set_option linter.unusedSimpArgs false
set_option linter.unnecessarySimpa false
set_option linter.deprecated false
namespace Go.Proofs.Ytecbnklmjehofaa
open Xb Go.ChangeShapes Go.WideShapes Go.ChangeAt Go.RowKit
set_option maxRecDepth 100000

theorem vp9Set_ac (y : (List Int) × Int × Int × Unit) (hy : (fun l : List Int => l.length ≤ maxLen ∧ ∀ x, x ∈ l → (inK .u8) x) (y.1) ∧ (inK .i64) (y.2.1) ∧ (inK .i64) (y.2.2.1) ∧ True) :
    AC Try.prog 8 [.ro (.list 1 (List.map e8 y.1)), .ro (.int .i64 y.2.1), .ro (.int .i64 y.2.2.1)] (.ro (.bool true)) [] :=
  law24_Vp9Set_c (Xb.vp9Set_true hy.1 hy.2.1 hy.2.2.1)

set_option maxRecDepth 100000 in
theorem vp9Set_lifted (os : Os) (started : os.Started) (H : Type) (enc : TypeId × Value → H) :
    ReturnsInHanded {} Try.checked os 8 .any (Rows.vp9SetSpec.pre6 enc Try.prog Try.f8 Rows.vp9SetRow.domain false) (Rows.vp9SetSpec.post enc Try.prog Try.f8 false true false false) := by
  refine returnsInHanded_of_change (C := Try.checked) Vown started (by kernel_rfl) Try.func8
    (ChangeSpec.witness6 (enc := enc) (C := Try.checked) false ⟨#[], #[.slice none 0 0, .int .i64 0, .int .i64 0], []⟩ 8 (by kernel_rfl) (by kernel_rfl) (by kernel_rfl) (by kernel_rfl)) ?_
  intro W base args ds gs before hval hW _ _
  exact law_contract (s := Rows.vp9SetSpec) VlaidOut rfl rfl rfl (by kernel_rfl) rfl (fun H ds h => match ds, h with | [_, _, _], _ => rfl)
    (.one rfl rd27 <| .one rfl rd3 <| .one rfl rd3 <| .n) vp9Set_ac H enc W base args ds gs before hval hW

theorem vp9Set_proved : Rows.Vp9SetSaid :=
  OpenClaim.holds_of_wide 8 Try.f8 rfl rfl rfl rfl rfl rfl rfl ⟨rfl, rfl, rfl, rfl, rfl⟩ rfl rfl rfl rfl rfl (by kernel_rfl) Try.func8 (by kernel_rfl)
    (of_decide_eq_true (by kernel_rfl)) (by unfold Func.isWrapper; first | (rw [if_pos (by decide +kernel)]; kernel_rfl) | (rw [if_neg (by decide +kernel)]; exact ⟨rfl, rfl⟩))
    (fun os started H enc _ => vp9Set_lifted os started H enc)

end Go.Proofs.Ytecbnklmjehofaa
