/-
  PROVED: the statement ChunkBackSaid of this seat: whatever the arguments, the law returns true and leaves them as they were. No condition.
-/
import Derived.Test.YthdbckjpoffnpaaERd
import Derived.Test.YthdbckjpoffnpaaETrueChunkBack
import Derived.Test.YthdbckjpoffnpaaRows
set_option linter.all false
set_option linter.unusedVariables false
set_option linter.unusedSimpArgs false
set_option linter.unnecessarySimpa false
set_option linter.deprecated false
namespace Go.Proofs.Ythdbckjpoffnpaa
open Xb Go.ChangeShapes Go.WideShapes Go.ChangeAt Go.RowKit

theorem chunkBack_ac (y : (List Int) × (List Int) × Int × (List Int) × Unit) (hy : (fun l : List Int => l.length ≤ maxLen ∧ ∀ x, x ∈ l → (inK .i64) x) (y.1) ∧ (fun l : List Int => l.length ≤ maxLen ∧ ∀ x, x ∈ l → (inK .u16) x) (y.2.1) ∧ (inK .i64) (y.2.2.1) ∧ (fun l : List Int => l.length ≤ maxLen ∧ ∀ x, x ∈ l → (inK .u16) x) (y.2.2.2.1) ∧ True) :
    AC Try.prog 3 [.ro (.list 1 (List.map (ei .i64) y.1)), .ro (.list 1 (List.map (ei .u16) y.2.1)), .ro (.int .i64 y.2.2.1), .ro (.list 1 (List.map (ei .u16) y.2.2.2.1))] (.ro (.bool true)) [] :=
  law18_ChunkBack_c (Xb.chunkBack_true hy.1 hy.2.1 hy.2.2.1 hy.2.2.2.1)

set_option maxRecDepth 100000 in
theorem chunkBack_lifted (os : Os) (started : os.Started) (H : Type) (enc : TypeId × Value → H) :
    ReturnsInHanded {} Try.checked os 3 .any (Rows.chunkBackSpec.pre6 enc Try.prog Try.f3 Rows.chunkBackRow.domain false) (Rows.chunkBackSpec.post enc Try.prog Try.f3 false true false false) := by
  refine returnsInHanded_of_change (C := Try.checked) Eown started (by kernel_rfl) Try.func3
    (ChangeSpec.witness6 (enc := enc) (C := Try.checked) false ⟨#[], #[.slice none 0 0, .slice none 0 0, .int .i64 0, .slice none 0 0], []⟩ 8 (by kernel_rfl) (by kernel_rfl) (by kernel_rfl) (by kernel_rfl)) ?_
  intro W base args ds gs before hval hW _ _
  exact law_contract (s := Rows.chunkBackSpec) ElaidOut rfl rfl rfl (by kernel_rfl) rfl (fun H ds h => match ds, h with | [_, _, _, _], _ => rfl)
    (.one rfl rd22 <| .one rfl rd23 <| .one rfl rd3 <| .one rfl rd23 <| .n) chunkBack_ac H enc W base args ds gs before hval hW

theorem chunkBack_proved : Rows.ChunkBackSaid :=
  OpenClaim.holds_of_wide 3 Try.f3 rfl rfl rfl rfl rfl rfl rfl ⟨rfl, rfl, rfl, rfl, rfl⟩ rfl rfl rfl rfl rfl (by kernel_rfl) Try.func3 (by kernel_rfl)
    (of_decide_eq_true (by kernel_rfl)) (by unfold Func.isWrapper; first | (rw [if_pos (by decide +kernel)]; kernel_rfl) | (rw [if_neg (by decide +kernel)]; exact ⟨rfl, rfl⟩))
    (fun os started H enc _ => chunkBack_lifted os started H enc)

end Go.Proofs.Ythdbckjpoffnpaa
