/-
  PROVED: the statement BitsPartsSaid of this seat: whatever the arguments, the law returns true and leaves them as they were. No condition.
-/
import Derived.Test.YtffmagkhoepfnaaBRd
import Derived.Test.YtffmagkhoepfnaaBTrueBitsParts
import Derived.Test.YtffmagkhoepfnaaRows
set_option linter.all false
set_option linter.unusedVariables false
set_option linter.unusedSimpArgs false
set_option linter.unnecessarySimpa false
set_option linter.deprecated false
namespace Go.Proofs.Ytffmagkhoepfnaa
open Xb Go.ChangeShapes Go.WideShapes Go.ChangeAt Go.RowKit

theorem bitsParts_ac (y : GBits × Ink × Int × Int × Int × Unit) (hy : (wf_GBits) (y.1) ∧ (wf_Ink) (y.2.1) ∧ (inK .u8) (y.2.2.1) ∧ (inK .u8) (y.2.2.2.1) ∧ (inK .u64) (y.2.2.2.2.1) ∧ True) :
    AC Try.prog 5 [.ro (enc_GBits y.1), .ro (enc_Ink y.2.1), .ro (.int .u8 y.2.2.1), .ro (.int .u8 y.2.2.2.1), .ro (.int .u64 y.2.2.2.2.1)] (.ro (.bool true)) [] :=
  law02_BitsParts_c (Xb.bitsParts_true hy.1 hy.2.1 hy.2.2.1 hy.2.2.2.1 hy.2.2.2.2.1)

set_option maxRecDepth 100000 in
theorem bitsParts_lifted (os : Os) (started : os.Started) (H : Type) (enc : TypeId × Value → H) :
    ReturnsInHanded {} Try.checked os 5 .any (Rows.bitsPartsSpec.pre6 enc Try.prog Try.f5 Rows.bitsPartsRow.domain false) (Rows.bitsPartsSpec.post enc Try.prog Try.f5 false true false false) := by
  refine returnsInHanded_of_change (C := Try.checked) Bown started (by kernel_rfl) Try.func5
    (ChangeSpec.witness6 (enc := enc) (C := Try.checked) false ⟨#[], #[.agg #[.slice none 0 0, .int .i64 0, .int .i64 0], .agg #[.slice none 0 0, .int .i64 0], .int .u8 0, .int .u8 0, .int .u64 0], []⟩ 8 (by kernel_rfl) (by kernel_rfl) (by kernel_rfl) (by kernel_rfl)) ?_
  intro W base args ds gs before hval hW _ _
  exact law_contract (s := Rows.bitsPartsSpec) BlaidOut rfl rfl rfl (by kernel_rfl) rfl (fun H ds h => match ds, h with | [_, _, _, _, _], _ => rfl)
    (.str rfl rd25 <| .str rfl rd27 <| .one rfl rd5 <| .one rfl rd5 <| .one rfl rd28 <| .n) bitsParts_ac H enc W base args ds gs before hval hW

theorem bitsParts_proved : Rows.BitsPartsSaid :=
  OpenClaim.holds_of_wide 5 Try.f5 rfl rfl rfl rfl rfl rfl rfl ⟨rfl, rfl, rfl, rfl, rfl⟩ rfl rfl rfl rfl rfl (by kernel_rfl) Try.func5 (by kernel_rfl)
    (of_decide_eq_true (by kernel_rfl)) (by unfold Func.isWrapper; first | (rw [if_pos (by decide +kernel)]; kernel_rfl) | (rw [if_neg (by decide +kernel)]; exact ⟨rfl, rfl⟩))
    (fun os started H enc _ => bitsParts_lifted os started H enc)

end Go.Proofs.Ytffmagkhoepfnaa
