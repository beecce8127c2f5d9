/-
  PROVED: the statement BitsRightSaid of this seat: whatever the arguments, the law returns true and leaves them as they were. No condition.
-/
import Derived.Test.YtffmagkhoepfnaaBRd
import Derived.Test.YtffmagkhoepfnaaBTrueBitsRight
import Derived.Test.YtffmagkhoepfnaaRows
set_option linter.all false
set_option linter.unusedVariables false
set_option linter.unusedSimpArgs false
set_option linter.unnecessarySimpa false
set_option linter.deprecated false
namespace Go.Proofs.Ytffmagkhoepfnaa
open Xb Go.ChangeShapes Go.WideShapes Go.ChangeAt Go.RowKit

theorem bitsRight_ac (y : GBits × Ink × Int × Int × Int × Unit) (hy : (wf_GBits) (y.1) ∧ (wf_Ink) (y.2.1) ∧ (inK .i64) (y.2.2.1) ∧ (inK .u64) (y.2.2.2.1) ∧ (inK .u64) (y.2.2.2.2.1) ∧ True) :
    AC Try.prog 3 [.ro (enc_GBits y.1), .ro (enc_Ink y.2.1), .ro (.int .i64 y.2.2.1), .ro (.int .u64 y.2.2.2.1), .ro (.int .u64 y.2.2.2.2.1)] (.ro (.bool true)) [] :=
  law02_BitsRight_c (Xb.bitsRight_true hy.1 hy.2.1 hy.2.2.1 hy.2.2.2.1 hy.2.2.2.2.1)

set_option maxRecDepth 100000 in
theorem bitsRight_lifted (os : Os) (started : os.Started) (H : Type) (enc : TypeId × Value → H) :
    ReturnsInHanded {} Try.checked os 3 .any (Rows.bitsRightSpec.pre6 enc Try.prog Try.f3 Rows.bitsRightRow.domain false) (Rows.bitsRightSpec.post enc Try.prog Try.f3 false true false false) := by
  refine returnsInHanded_of_change (C := Try.checked) Bown started (by kernel_rfl) Try.func3
    (ChangeSpec.witness6 (enc := enc) (C := Try.checked) false ⟨#[], #[.agg #[.slice none 0 0, .int .i64 0, .int .i64 0], .agg #[.slice none 0 0, .int .i64 0], .int .i64 0, .int .u64 0, .int .u64 0], []⟩ 8 (by kernel_rfl) (by kernel_rfl) (by kernel_rfl) (by kernel_rfl)) ?_
  intro W base args ds gs before hval hW _ _
  exact law_contract (s := Rows.bitsRightSpec) BlaidOut rfl rfl rfl (by kernel_rfl) rfl (fun H ds h => match ds, h with | [_, _, _, _, _], _ => rfl)
    (.str rfl rd25 <| .str rfl rd27 <| .one rfl rd3 <| .one rfl rd28 <| .one rfl rd28 <| .n) bitsRight_ac H enc W base args ds gs before hval hW

theorem bitsRight_proved : Rows.BitsRightSaid :=
  OpenClaim.holds_of_wide 3 Try.f3 rfl rfl rfl rfl rfl rfl rfl ⟨rfl, rfl, rfl, rfl, rfl⟩ rfl rfl rfl rfl rfl (by kernel_rfl) Try.func3 (by kernel_rfl)
    (of_decide_eq_true (by kernel_rfl)) (by unfold Func.isWrapper; first | (rw [if_pos (by decide +kernel)]; kernel_rfl) | (rw [if_neg (by decide +kernel)]; exact ⟨rfl, rfl⟩))
    (fun os started H enc _ => bitsRight_lifted os started H enc)

end Go.Proofs.Ytffmagkhoepfnaa
