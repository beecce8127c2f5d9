/-
  PROVED: the statement ElemPadsSaid of this seat: whatever the arguments, the law returns true and leaves them as they were. No condition.
-/
import Derived.Test.YtcdhafhamjinlaaKRd
import Derived.Test.YtcdhafhamjinlaaKTrueElemPads
import Derived.Test.YtcdhafhamjinlaaRows
set_option linter.all false
set_option linter.unusedVariables false
set_option linter.unusedSimpArgs false
set_option linter.unnecessarySimpa false
set_option linter.deprecated false
namespace Go.Proofs.Ytcdhafhamjinlaa
open Xb Go.ChangeShapes Go.WideShapes Go.ChangeAt Go.RowKit
set_option maxRecDepth 100000

theorem elemPads_ac (y : (List Elem) × (List Int) × Int × (List Int) × Unit) (hy : (fun l : List Elem => l.length ≤ maxLen ∧ ∀ x, x ∈ l → (wf_Elem) x) (y.1) ∧ (fun l : List Int => l.length ≤ maxLen ∧ ∀ x, x ∈ l → (inK .u8) x) (y.2.1) ∧ (inK .u8) (y.2.2.1) ∧ (fun l : List Int => l.length ≤ maxLen ∧ ∀ x, x ∈ l → (inK .u8) x) (y.2.2.2.1) ∧ True) :
    AC Try.prog 5 [.ro (.list 2 (List.map cells_Elem y.1)), .ro (.list 1 (List.map e8 y.2.1)), .ro (.int .u8 y.2.2.1), .ro (.list 1 (List.map e8 y.2.2.2.1))] (.ro (.bool true)) [] :=
  law08_ElemPads_c (Xb.elemPads_true hy.1 hy.2.1 hy.2.2.1 hy.2.2.2.1)

set_option maxRecDepth 100000 in
theorem elemPads_lifted (os : Os) (started : os.Started) (H : Type) (enc : TypeId × Value → H) :
    ReturnsInHanded {} Try.checked os 5 .any (Rows.elemPadsSpec.pre6 enc Try.prog Try.f5 Rows.elemPadsRow.domain false) (Rows.elemPadsSpec.post enc Try.prog Try.f5 false true false false) := by
  refine returnsInHanded_of_change (C := Try.checked) Kown started (by kernel_rfl) Try.func5
    (ChangeSpec.witness6 (enc := enc) (C := Try.checked) false ⟨#[], #[.slice none 0 0, .slice none 0 0, .int .u8 0, .slice none 0 0], []⟩ 8 (by kernel_rfl) (by kernel_rfl) (by kernel_rfl) (by kernel_rfl)) ?_
  intro W base args ds gs before hval hW _ _
  exact law_contract (s := Rows.elemPadsSpec) KlaidOut rfl rfl rfl (by kernel_rfl) rfl (fun H ds h => match ds, h with | [_, _, _, _], _ => rfl)
    (.one rfl rd22 <| .one rfl rd24 <| .one rfl rd5 <| .one rfl rd24 <| .n) elemPads_ac H enc W base args ds gs before hval hW

theorem elemPads_proved : Rows.ElemPadsSaid :=
  OpenClaim.holds_of_wide 5 Try.f5 rfl rfl rfl rfl rfl rfl rfl ⟨rfl, rfl, rfl, rfl, rfl⟩ rfl rfl rfl rfl rfl (by kernel_rfl) Try.func5 (by kernel_rfl)
    (of_decide_eq_true (by kernel_rfl)) (by unfold Func.isWrapper; first | (rw [if_pos (by decide +kernel)]; kernel_rfl) | (rw [if_neg (by decide +kernel)]; exact ⟨rfl, rfl⟩))
    (fun os started H enc _ => elemPads_lifted os started H enc)

end Go.Proofs.Ytcdhafhamjinlaa
