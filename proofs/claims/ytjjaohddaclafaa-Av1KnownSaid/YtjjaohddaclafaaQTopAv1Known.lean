/-
  PROVED: the statement Av1KnownSaid of this seat: whatever the arguments, the law returns true and leaves them as they were. No condition.
-/
import Derived.Test.YtjjaohddaclafaaQRd
import Derived.Test.YtjjaohddaclafaaMathB
import Derived.Test.YtjjaohddaclafaaRows
set_option linter.all false
set_option linter.unusedVariables false
set_option linter.unusedSimpArgs false
set_option linter.unnecessarySimpa false
set_option linter.deprecated false
namespace Go.Proofs.Ytjjaohddaclafaa
open Xb Go.ChangeShapes Go.WideShapes Go.ChangeAt Go.RowKit
set_option maxRecDepth 100000

theorem av1Known_ac (y : Xb.Frame × Structure × Unit) (hy : (wf_Frame) (y.1) ∧ (wf_Structure) (y.2.1) ∧ True) :
    AC Try.prog 4 [.ro (enc_Frame y.1), .ro (enc_Structure y.2.1)] (.ro (.bool true)) [] :=
  law27_Av1Known_c (Xb.av1Known_true hy.1 hy.2.1)

set_option maxRecDepth 100000 in
theorem av1Known_lifted (os : Os) (started : os.Started) (H : Type) (enc : TypeId × Value → H) :
    ReturnsInHanded {} Try.checked os 4 .any (Rows.av1KnownSpec.pre6 enc Try.prog Try.f4 Rows.av1KnownRow.domain false) (Rows.av1KnownSpec.post enc Try.prog Try.f4 false true false false) := by
  refine returnsInHanded_of_change (C := Try.checked) Qown started (by kernel_rfl) Try.func4
    (ChangeSpec.witness6 (enc := enc) (C := Try.checked) false ⟨#[], #[.agg #[.bool false, .bool false, .int .i64 0, .int .i64 0, .bool false, .int .i64 0, .int .i64 0, .int .i64 0, .slice none 0 0, .slice none 0 0, .slice none 0 0, .bool false, .int .u32 0, .bool false, .slice none 0 0, .bool false, .slice none 0 0, .bool false, .slice none 0 0], .agg #[.int .i64 0, .int .i64 0, .int .i64 0, .slice none 0 0, .slice none 0 0, .slice none 0 0]], []⟩ 8 (by kernel_rfl) (by kernel_rfl) (by kernel_rfl) (by kernel_rfl)) ?_
  intro W base args ds gs before hval hW _ _
  exact law_contract (s := Rows.av1KnownSpec) QlaidOut rfl rfl rfl (by kernel_rfl) rfl (fun H ds h => match ds, h with | [_, _], _ => rfl)
    (.str rfl rd29 <| .str rfl rd26 <| .n) av1Known_ac H enc W base args ds gs before hval hW

theorem av1Known_proved : Rows.Av1KnownSaid :=
  OpenClaim.holds_of_wide 4 Try.f4 rfl rfl rfl rfl rfl rfl rfl ⟨rfl, rfl, rfl, rfl, rfl⟩ rfl rfl rfl rfl rfl (by kernel_rfl) Try.func4 (by kernel_rfl)
    (of_decide_eq_true (by kernel_rfl)) (by unfold Func.isWrapper; first | (rw [if_pos (by decide +kernel)]; kernel_rfl) | (rw [if_neg (by decide +kernel)]; exact ⟨rfl, rfl⟩))
    (fun os started H enc _ => av1Known_lifted os started H enc)

end Go.Proofs.Ytjjaohddaclafaa
