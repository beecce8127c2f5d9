/-
  PROVED: the statement BitsBackSaid of this seat: whatever the arguments, the law returns true and leaves them as they were. No condition.
-/
import Derived.Test.YtffmagkhoepfnaaBRd
import Derived.Test.YtffmagkhoepfnaaBTrueBitsBack
import Derived.Test.YtffmagkhoepfnaaRows
set_option linter.all false
set_option linter.unusedVariables false
set_option linter.unusedSimpArgs false
set_option linter.unnecessarySimpa false
set_option linter.deprecated false
namespace Go.Proofs.Ytffmagkhoepfnaa
open Xb Go.ChangeShapes Go.WideShapes Go.ChangeAt Go.RowKit

theorem bitsBack_ac (y : (List Int) × (List Int) × (List Bool) × Unit) (hy : (fun l : List Int => l.length ≤ maxLen ∧ ∀ x, x ∈ l → (inK .u64) x) (y.1) ∧ (fun l : List Int => l.length ≤ maxLen ∧ ∀ x, x ∈ l → (inK .u8) x) (y.2.1) ∧ (fun l : List Bool => l.length ≤ maxLen ∧ ∀ x, x ∈ l → (fun _ : Bool => True) x) (y.2.2.1) ∧ True) :
    AC Try.prog 4 [.ro (.list 1 (List.map (ei .u64) y.1)), .ro (.list 1 (List.map e8 y.2.1)), .ro (.list 1 (List.map eb y.2.2.1))] (.ro (.bool true)) [] :=
  law02_BitsBack_c (Xb.bitsBack_true hy.1 hy.2.1 hy.2.2.1)

set_option maxRecDepth 100000 in
theorem bitsBack_lifted (os : Os) (started : os.Started) (H : Type) (enc : TypeId × Value → H) :
    ReturnsInHanded {} Try.checked os 4 .any (Rows.bitsBackSpec.pre6 enc Try.prog Try.f4 Rows.bitsBackRow.domain false) (Rows.bitsBackSpec.post enc Try.prog Try.f4 false true false false) := by
  refine returnsInHanded_of_change (C := Try.checked) Bown started (by kernel_rfl) Try.func4
    (ChangeSpec.witness6 (enc := enc) (C := Try.checked) false ⟨#[], #[.slice none 0 0, .slice none 0 0, .slice none 0 0], []⟩ 8 (by kernel_rfl) (by kernel_rfl) (by kernel_rfl) (by kernel_rfl)) ?_
  intro W base args ds gs before hval hW _ _
  exact law_contract (s := Rows.bitsBackSpec) BlaidOut rfl rfl rfl (by kernel_rfl) rfl (fun H ds h => match ds, h with | [_, _, _], _ => rfl)
    (.one rfl rd45 <| .one rfl rd22 <| .one rfl rd46 <| .n) bitsBack_ac H enc W base args ds gs before hval hW

theorem bitsBack_proved : Rows.BitsBackSaid :=
  OpenClaim.holds_of_wide 4 Try.f4 rfl rfl rfl rfl rfl rfl rfl ⟨rfl, rfl, rfl, rfl, rfl⟩ rfl rfl rfl rfl rfl (by kernel_rfl) Try.func4 (by kernel_rfl)
    (of_decide_eq_true (by kernel_rfl)) (by unfold Func.isWrapper; first | (rw [if_pos (by decide +kernel)]; kernel_rfl) | (rw [if_neg (by decide +kernel)]; exact ⟨rfl, rfl⟩))
    (fun os started H enc _ => bitsBack_lifted os started H enc)

end Go.Proofs.Ytffmagkhoepfnaa
