/-
  PROVED: the statement Av1BackSaid of this seat: whatever the arguments, the law returns true and leaves them as they were. No condition.
-/
import Derived.Test.YtjjaohddaclafaaQRd
import Derived.Test.YtjjaohddaclafaaMathB
import Derived.Test.YtjjaohddaclafaaRows
set_option linter.all false
set_option linter.unusedVariables false
set_option linter.unusedSimpArgs false
set_option linter.unnecessarySimpa false
set_option linter.deprecated false
namespace Go.Proofs.Ytjjaohddaclafaa
open Xb Go.ChangeShapes Go.WideShapes Go.ChangeAt Go.RowKit
set_option maxRecDepth 100000

theorem av1Back_ac (y : Xb.Frame × Xb.Frame × Structure × (List Int) × Int × Unit) (hy : (wf_Frame) (y.1) ∧ (wf_Frame) (y.2.1) ∧ (wf_Structure) (y.2.2.1) ∧ (fun l : List Int => l.length ≤ maxLen ∧ ∀ x, x ∈ l → (inK .u8) x) (y.2.2.2.1) ∧ (inK .u8) (y.2.2.2.2.1) ∧ True) :
    AC Try.prog 3 [.ro (enc_Frame y.1), .ro (enc_Frame y.2.1), .ro (enc_Structure y.2.2.1), .ro (.list 1 (List.map e8 y.2.2.2.1)), .ro (.int .u8 y.2.2.2.2.1)] (.ro (.bool true)) [] :=
  law27_Av1Back_c (Xb.av1Back_true hy.1 hy.2.1 hy.2.2.1 hy.2.2.2.1 hy.2.2.2.2.1)

set_option maxRecDepth 100000 in
theorem av1Back_lifted (os : Os) (started : os.Started) (H : Type) (enc : TypeId × Value → H) :
    ReturnsInHanded {} Try.checked os 3 .any (Rows.av1BackSpec.pre6 enc Try.prog Try.f3 Rows.av1BackRow.domain false) (Rows.av1BackSpec.post enc Try.prog Try.f3 false true false false) := by
  refine returnsInHanded_of_change (C := Try.checked) Qown started (by kernel_rfl) Try.func3
    (ChangeSpec.witness6 (enc := enc) (C := Try.checked) false ⟨#[], #[.agg #[.bool false, .bool false, .int .i64 0, .int .i64 0, .bool false, .int .i64 0, .int .i64 0, .int .i64 0, .slice none 0 0, .slice none 0 0, .slice none 0 0, .bool false, .int .u32 0, .bool false, .slice none 0 0, .bool false, .slice none 0 0, .bool false, .slice none 0 0], .agg #[.bool false, .bool false, .int .i64 0, .int .i64 0, .bool false, .int .i64 0, .int .i64 0, .int .i64 0, .slice none 0 0, .slice none 0 0, .slice none 0 0, .bool false, .int .u32 0, .bool false, .slice none 0 0, .bool false, .slice none 0 0, .bool false, .slice none 0 0], .agg #[.int .i64 0, .int .i64 0, .int .i64 0, .slice none 0 0, .slice none 0 0, .slice none 0 0], .slice none 0 0, .int .u8 0], []⟩ 8 (by kernel_rfl) (by kernel_rfl) (by kernel_rfl) (by kernel_rfl)) ?_
  intro W base args ds gs before hval hW _ _
  exact law_contract (s := Rows.av1BackSpec) QlaidOut rfl rfl rfl (by kernel_rfl) rfl (fun H ds h => match ds, h with | [_, _, _, _, _], _ => rfl)
    (.str rfl rd29 <| .str rfl rd29 <| .str rfl rd26 <| .one rfl rd30 <| .one rfl rd5 <| .n) av1Back_ac H enc W base args ds gs before hval hW

theorem av1Back_proved : Rows.Av1BackSaid :=
  OpenClaim.holds_of_wide 3 Try.f3 rfl rfl rfl rfl rfl rfl rfl ⟨rfl, rfl, rfl, rfl, rfl⟩ rfl rfl rfl rfl rfl (by kernel_rfl) Try.func3 (by kernel_rfl)
    (of_decide_eq_true (by kernel_rfl)) (by unfold Func.isWrapper; first | (rw [if_pos (by decide +kernel)]; kernel_rfl) | (rw [if_neg (by decide +kernel)]; exact ⟨rfl, rfl⟩))
    (fun os started H enc _ => av1Back_lifted os started H enc)

end Go.Proofs.Ytjjaohddaclafaa
