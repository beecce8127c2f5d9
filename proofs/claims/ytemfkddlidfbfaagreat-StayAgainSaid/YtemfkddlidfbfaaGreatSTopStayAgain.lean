/-
  PROVED: the statement StayAgainSaid of this seat: whatever the arguments, the law returns true and leaves them as they were. No condition.
-/
import Derived.Test.YtemfkddlidfbfaaGreatSRd
import Derived.Test.YtemfkddlidfbfaaGreatMathA
import Derived.Test.YtemfkddlidfbfaaGreatRows
set_option linter.all false
set_option linter.unusedVariables false
set_option linter.unusedSimpArgs false
set_option linter.unnecessarySimpa false
set_option linter.deprecated false
namespace Go.Proofs.YtemfkddlidfbfaaGreat
open Xb Go.ChangeShapes Go.WideShapes Go.ChangeAt Go.RowKit
set_option maxRecDepth 100000

theorem stayAgain_ac (y : Plan × (List Int) × Int × Unit) (hy : (wf_Plan) (y.1) ∧ (fun l : List Int => l.length ≤ maxLen ∧ ∀ x, x ∈ l → (inK .u8) x) (y.2.1) ∧ (inK .i64) (y.2.2.1) ∧ True) :
    AC Tryz.prog 5 [.ro (enc_Plan y.1), .ro (.list 1 (List.map e8 y.2.1)), .ro (.int .i64 y.2.2.1)] (.ro (.bool true)) [] :=
  law31_StayAgain_c (Xb.stayAgain_true hy.1 hy.2.1 hy.2.2.1)

set_option maxRecDepth 100000 in
theorem stayAgain_lifted (os : Os) (started : os.Started) (H : Type) (enc : TypeId × Value → H) :
    ReturnsInHanded {} Tryz.checked os 5 .any (Rows.stayAgainSpec.pre6 enc Tryz.prog Tryz.f5 Rows.stayAgainRow.domain false) (Rows.stayAgainSpec.post enc Tryz.prog Tryz.f5 false true false false) := by
  refine returnsInHanded_of_change (C := Tryz.checked) Sown started (by kernel_rfl) Tryz.func5
    (ChangeSpec.witness6 (enc := enc) (C := Tryz.checked) false ⟨#[], #[.agg #[.bool false, .bool false, .bool false, .int .i64 0, .bool false, .int .u16 0, .bool false, .int .u32 0, .bool false, .int .u32 0, .slice none 0 0, .slice none 0 0, .slice none 0 0, .slice none 0 0, .bool false], .slice none 0 0, .int .i64 0], []⟩ 8 (by kernel_rfl) (by kernel_rfl) (by kernel_rfl) (by kernel_rfl)) ?_
  intro W base args ds gs before hval hW _ _
  exact law_contract (s := Rows.stayAgainSpec) SlaidOut rfl rfl rfl (by kernel_rfl) rfl (fun H ds h => match ds, h with | [_, _, _], _ => rfl)
    (.str rfl rd28 <| .one rfl rd29 <| .one rfl rd3 <| .n) stayAgain_ac H enc W base args ds gs before hval hW

theorem stayAgain_proved : Rows.StayAgainSaid :=
  OpenClaim.holds_of_wide 5 Tryz.f5 rfl rfl rfl rfl rfl rfl rfl ⟨rfl, rfl, rfl, rfl, rfl⟩ rfl rfl rfl rfl rfl (by kernel_rfl) Tryz.func5 (by kernel_rfl)
    (of_decide_eq_true (by kernel_rfl)) (by unfold Func.isWrapper; first | (rw [if_pos (by decide +kernel)]; kernel_rfl) | (rw [if_neg (by decide +kernel)]; exact ⟨rfl, rfl⟩))
    (fun os started H enc _ => stayAgain_lifted os started H enc)

end Go.Proofs.YtemfkddlidfbfaaGreat
