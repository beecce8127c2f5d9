/-
  PROVED: the statement FreshBackSaid of this seat: whatever the arguments, the law returns true and leaves them as they were. No condition.
-/
import Derived.Test.YthdbckjpoffnpaaGRd
import Derived.Test.YthdbckjpoffnpaaGTrueFreshBack
import Derived.Test.YthdbckjpoffnpaaRows
set_option linter.all false
set_option linter.unusedVariables false
set_option linter.unusedSimpArgs false
set_option linter.unnecessarySimpa false
set_option linter.deprecated false
namespace Go.Proofs.Ythdbckjpoffnpaa
open Xb Go.ChangeShapes Go.WideShapes Go.ChangeAt Go.RowKit

theorem freshBack_ac (y : (List Entry) × (List Int) × Int × Unit) (hy : (fun l : List Entry => l.length ≤ maxLen ∧ ∀ x, x ∈ l → (wf_Entry) x) (y.1) ∧ (fun l : List Int => l.length ≤ maxLen ∧ ∀ x, x ∈ l → (inK .u8) x) (y.2.1) ∧ (inK .u16) (y.2.2.1) ∧ True) :
    AC Try.prog 8 [.ro (.list 2 (List.map cells_Entry y.1)), .ro (.list 1 (List.map e8 y.2.1)), .ro (.int .u16 y.2.2.1)] (.ro (.bool true)) [] :=
  law16_FreshBack_c (Xb.freshBack_true hy.1 hy.2.1 hy.2.2.1)

set_option maxRecDepth 100000 in
theorem freshBack_lifted (os : Os) (started : os.Started) (H : Type) (enc : TypeId × Value → H) :
    ReturnsInHanded {} Try.checked os 8 .any (Rows.freshBackSpec.pre6 enc Try.prog Try.f8 Rows.freshBackRow.domain false) (Rows.freshBackSpec.post enc Try.prog Try.f8 false true false false) := by
  refine returnsInHanded_of_change (C := Try.checked) Gown started (by kernel_rfl) Try.func8
    (ChangeSpec.witness6 (enc := enc) (C := Try.checked) false ⟨#[], #[.slice none 0 0, .slice none 0 0, .int .u16 0], []⟩ 8 (by kernel_rfl) (by kernel_rfl) (by kernel_rfl) (by kernel_rfl)) ?_
  intro W base args ds gs before hval hW _ _
  exact law_contract (s := Rows.freshBackSpec) GlaidOut rfl rfl rfl (by kernel_rfl) rfl (fun H ds h => match ds, h with | [_, _, _], _ => rfl)
    (.one rfl rd49 <| .one rfl rd37 <| .one rfl rd35 <| .n) freshBack_ac H enc W base args ds gs before hval hW

theorem freshBack_proved : Rows.FreshBackSaid :=
  OpenClaim.holds_of_wide 8 Try.f8 rfl rfl rfl rfl rfl rfl rfl ⟨rfl, rfl, rfl, rfl, rfl⟩ rfl rfl rfl rfl rfl (by kernel_rfl) Try.func8 (by kernel_rfl)
    (of_decide_eq_true (by kernel_rfl)) (by unfold Func.isWrapper; first | (rw [if_pos (by decide +kernel)]; kernel_rfl) | (rw [if_neg (by decide +kernel)]; exact ⟨rfl, rfl⟩))
    (fun os started H enc _ => freshBack_lifted os started H enc)

end Go.Proofs.Ythdbckjpoffnpaa
