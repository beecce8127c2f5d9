/-
  PROVED: the statement TemplBackSaid of this seat: whatever the arguments, the law returns true and leaves them as they were. No condition.
-/
import Derived.Test.YtecbnklmjehofaaNRd
import Derived.Test.YtecbnklmjehofaaMathA
import Derived.Test.YtecbnklmjehofaaRows
set_option linter.all false
set_option linter.unusedVariables false
set_option linter.unusedSimpArgs false
set_option linter.unnecessarySimpa false
set_option linter.deprecated false
namespace Go.Proofs.Ytecbnklmjehofaa
open Xb Go.ChangeShapes Go.WideShapes Go.ChangeAt Go.RowKit
set_option maxRecDepth 100000

theorem templBack_ac (y : Structure × Structure × Int × (List Int) × (List Int) × Unit) (hy : (wf_Structure) (y.1) ∧ (wf_Structure) (y.2.1) ∧ (inK .u8) (y.2.2.1) ∧ (fun l : List Int => l.length ≤ maxLen ∧ ∀ x, x ∈ l → (inK .u8) x) (y.2.2.2.1) ∧ (fun l : List Int => l.length ≤ maxLen ∧ ∀ x, x ∈ l → (inK .u8) x) (y.2.2.2.2.1) ∧ True) :
    AC Try.prog 4 [.ro (enc_Structure y.1), .ro (enc_Structure y.2.1), .ro (.int .u8 y.2.2.1), .ro (.list 1 (List.map e8 y.2.2.2.1)), .ro (.list 1 (List.map e8 y.2.2.2.2.1))] (.ro (.bool true)) [] :=
  law26_TemplBack_c (Xb.templBack_true hy.1 hy.2.1 hy.2.2.1 hy.2.2.2.1 hy.2.2.2.2.1)

set_option maxRecDepth 100000 in
theorem templBack_lifted (os : Os) (started : os.Started) (H : Type) (enc : TypeId × Value → H) :
    ReturnsInHanded {} Try.checked os 4 .any (Rows.templBackSpec.pre6 enc Try.prog Try.f4 Rows.templBackRow.domain false) (Rows.templBackSpec.post enc Try.prog Try.f4 false true false false) := by
  refine returnsInHanded_of_change (C := Try.checked) Nown started (by kernel_rfl) Try.func4
    (ChangeSpec.witness6 (enc := enc) (C := Try.checked) false ⟨#[], #[.agg #[.int .i64 0, .int .i64 0, .int .i64 0, .slice none 0 0, .slice none 0 0, .slice none 0 0], .agg #[.int .i64 0, .int .i64 0, .int .i64 0, .slice none 0 0, .slice none 0 0, .slice none 0 0], .int .u8 0, .slice none 0 0, .slice none 0 0], []⟩ 8 (by kernel_rfl) (by kernel_rfl) (by kernel_rfl) (by kernel_rfl)) ?_
  intro W base args ds gs before hval hW _ _
  exact law_contract (s := Rows.templBackSpec) NlaidOut rfl rfl rfl (by kernel_rfl) rfl (fun H ds h => match ds, h with | [_, _, _, _, _], _ => rfl)
    (.str rfl rd26 <| .str rfl rd26 <| .one rfl rd5 <| .one rfl rd27 <| .one rfl rd27 <| .n) templBack_ac H enc W base args ds gs before hval hW

theorem templBack_proved : Rows.TemplBackSaid :=
  OpenClaim.holds_of_wide 4 Try.f4 rfl rfl rfl rfl rfl rfl rfl ⟨rfl, rfl, rfl, rfl, rfl⟩ rfl rfl rfl rfl rfl (by kernel_rfl) Try.func4 (by kernel_rfl)
    (of_decide_eq_true (by kernel_rfl)) (by unfold Func.isWrapper; first | (rw [if_pos (by decide +kernel)]; kernel_rfl) | (rw [if_neg (by decide +kernel)]; exact ⟨rfl, rfl⟩))
    (fun os started H enc _ => templBack_lifted os started H enc)

end Go.Proofs.Ytecbnklmjehofaa
