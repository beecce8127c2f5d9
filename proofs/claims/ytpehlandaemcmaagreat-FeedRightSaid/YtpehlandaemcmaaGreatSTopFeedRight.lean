/-
  PROVED: the statement FeedRightSaid of this seat: whatever the arguments, the law returns true and leaves them as they were. No condition.
-/
import Derived.Test.YtpehlandaemcmaaGreatSRd
import Derived.Test.YtpehlandaemcmaaGreatSTrueFeedRight
import Derived.Test.YtpehlandaemcmaaGreatRows
set_option linter.all false
set_option linter.unusedVariables false
set_option linter.unusedSimpArgs false
set_option linter.unnecessarySimpa false
set_option linter.deprecated false
namespace Go.Proofs.YtpehlandaemcmaaGreat
open Xb Go.ChangeShapes Go.WideShapes Go.ChangeAt Go.RowKit
set_option maxRecDepth 100000

theorem feedRight_ac (y : Feed × Int × Int × (List Int) × Unit) (hy : (wf_Feed) (y.1) ∧ (inK .i64) (y.2.1) ∧ (inK .i64) (y.2.2.1) ∧ (fun l : List Int => l.length ≤ maxLen ∧ ∀ x, x ∈ l → (inK .u8) x) (y.2.2.2.1) ∧ True) :
    AC Tryz.prog 3 [.ro (enc_Feed y.1), .ro (.int .i64 y.2.1), .ro (.int .i64 y.2.2.1), .ro (.list 1 (List.map e8 y.2.2.2.1))] (.ro (.bool true)) [] :=
  law20_FeedRight_c (Xb.feedRight_true hy.1 hy.2.1 hy.2.2.1 hy.2.2.2.1)

set_option maxRecDepth 100000 in
theorem feedRight_lifted (os : Os) (started : os.Started) (H : Type) (enc : TypeId × Value → H) :
    ReturnsInHanded {} Tryz.checked os 3 .any (Rows.feedRightSpec.pre6 enc Tryz.prog Tryz.f3 Rows.feedRightRow.domain false) (Rows.feedRightSpec.post enc Tryz.prog Tryz.f3 false true false false) := by
  refine returnsInHanded_of_change (C := Tryz.checked) Sown started (by kernel_rfl) Tryz.func3
    (ChangeSpec.witness6 (enc := enc) (C := Tryz.checked) false ⟨#[], #[.agg #[.int .i64 0, .int .u32 0, .int .u32 0, .slice none 0 0, .int .u16 0, .int .i64 0, .int .u8 0, .slice none 0 0, .slice none 0 0, .int .i64 0, .int .u32 0, .slice none 0 0], .int .i64 0, .int .i64 0, .slice none 0 0], []⟩ 8 (by kernel_rfl) (by kernel_rfl) (by kernel_rfl) (by kernel_rfl)) ?_
  intro W base args ds gs before hval hW _ _
  exact law_contract (s := Rows.feedRightSpec) SlaidOut rfl rfl rfl (by kernel_rfl) rfl (fun H ds h => match ds, h with | [_, _, _, _], _ => rfl)
    (.str rfl rd33 <| .one rfl rd3 <| .one rfl rd3 <| .one rfl rd34 <| .n) feedRight_ac H enc W base args ds gs before hval hW

theorem feedRight_proved : Rows.FeedRightSaid :=
  OpenClaim.holds_of_wide 3 Tryz.f3 rfl rfl rfl rfl rfl rfl rfl ⟨rfl, rfl, rfl, rfl, rfl⟩ rfl rfl rfl rfl rfl (by kernel_rfl) Tryz.func3 (by kernel_rfl)
    (of_decide_eq_true (by kernel_rfl)) (by unfold Func.isWrapper; first | (rw [if_pos (by decide +kernel)]; kernel_rfl) | (rw [if_neg (by decide +kernel)]; exact ⟨rfl, rfl⟩))
    (fun os started H enc _ => feedRight_lifted os started H enc)

end Go.Proofs.YtpehlandaemcmaaGreat
