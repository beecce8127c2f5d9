/-
  PROVED: the statement FeedBackSaid of this seat: whatever the arguments, the law returns true and leaves them as they were. No condition.
-/
import Derived.Test.YtpehlandaemcmaaGreatSRd
import Derived.Test.YtpehlandaemcmaaGreatSTrueFeedBack
import Derived.Test.YtpehlandaemcmaaGreatRows
set_option linter.all false
set_option linter.unusedVariables false
set_option linter.unusedSimpArgs false
set_option linter.unnecessarySimpa false
set_option linter.deprecated false
namespace Go.Proofs.YtpehlandaemcmaaGreat
open Xb Go.ChangeShapes Go.WideShapes Go.ChangeAt Go.RowKit
set_option maxRecDepth 100000

theorem feedBack_ac (y : Feed × Feed × Int × (List Int) × Unit) (hy : (wf_Feed) (y.1) ∧ (wf_Feed) (y.2.1) ∧ (inK .i64) (y.2.2.1) ∧ (fun l : List Int => l.length ≤ maxLen ∧ ∀ x, x ∈ l → (inK .u8) x) (y.2.2.2.1) ∧ True) :
    AC Tryz.prog 4 [.ro (enc_Feed y.1), .ro (enc_Feed y.2.1), .ro (.int .i64 y.2.2.1), .ro (.list 1 (List.map e8 y.2.2.2.1))] (.ro (.bool true)) [] :=
  law20_FeedBack_c (Xb.feedBack_true hy.1 hy.2.1 hy.2.2.1 hy.2.2.2.1)

set_option maxRecDepth 100000 in
theorem feedBack_lifted (os : Os) (started : os.Started) (H : Type) (enc : TypeId × Value → H) :
    ReturnsInHanded {} Tryz.checked os 4 .any (Rows.feedBackSpec.pre6 enc Tryz.prog Tryz.f4 Rows.feedBackRow.domain false) (Rows.feedBackSpec.post enc Tryz.prog Tryz.f4 false true false false) := by
  refine returnsInHanded_of_change (C := Tryz.checked) Sown started (by kernel_rfl) Tryz.func4
    (ChangeSpec.witness6 (enc := enc) (C := Tryz.checked) false ⟨#[], #[.agg #[.int .i64 0, .int .u32 0, .int .u32 0, .slice none 0 0, .int .u16 0, .int .i64 0, .int .u8 0, .slice none 0 0, .slice none 0 0, .int .i64 0, .int .u32 0, .slice none 0 0], .agg #[.int .i64 0, .int .u32 0, .int .u32 0, .slice none 0 0, .int .u16 0, .int .i64 0, .int .u8 0, .slice none 0 0, .slice none 0 0, .int .i64 0, .int .u32 0, .slice none 0 0], .int .i64 0, .slice none 0 0], []⟩ 8 (by kernel_rfl) (by kernel_rfl) (by kernel_rfl) (by kernel_rfl)) ?_
  intro W base args ds gs before hval hW _ _
  exact law_contract (s := Rows.feedBackSpec) SlaidOut rfl rfl rfl (by kernel_rfl) rfl (fun H ds h => match ds, h with | [_, _, _, _], _ => rfl)
    (.str rfl rd33 <| .str rfl rd33 <| .one rfl rd3 <| .one rfl rd34 <| .n) feedBack_ac H enc W base args ds gs before hval hW

theorem feedBack_proved : Rows.FeedBackSaid :=
  OpenClaim.holds_of_wide 4 Tryz.f4 rfl rfl rfl rfl rfl rfl rfl ⟨rfl, rfl, rfl, rfl, rfl⟩ rfl rfl rfl rfl rfl (by kernel_rfl) Tryz.func4 (by kernel_rfl)
    (of_decide_eq_true (by kernel_rfl)) (by unfold Func.isWrapper; first | (rw [if_pos (by decide +kernel)]; kernel_rfl) | (rw [if_neg (by decide +kernel)]; exact ⟨rfl, rfl⟩))
    (fun os started H enc _ => feedBack_lifted os started H enc)

end Go.Proofs.YtpehlandaemcmaaGreat
