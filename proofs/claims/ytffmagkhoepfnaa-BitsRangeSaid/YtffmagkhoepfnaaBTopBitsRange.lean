/-
  PROVED: the statement BitsRangeSaid of this seat: whatever the arguments, the law returns true and leaves them as they were. No condition.
-/
import Derived.Test.YtffmagkhoepfnaaBRd
import Derived.Test.YtffmagkhoepfnaaBTrueBitsRange
import Derived.Test.YtffmagkhoepfnaaRows
set_option linter.all false
set_option linter.unusedVariables false
set_option linter.unusedSimpArgs false
set_option linter.unnecessarySimpa false
set_option linter.deprecated false
namespace Go.Proofs.Ytffmagkhoepfnaa
open Xb Go.ChangeShapes Go.WideShapes Go.ChangeAt Go.RowKit

theorem bitsRange_ac (y : Int × Unit) (hy : (inK .u8) (y.1) ∧ True) :
    AC Try.prog 6 [.ro (.int .u8 y.1)] (.ro (.bool true)) [] :=
  law02_BitsRange_c (Xb.bitsRange_true hy.1)

set_option maxRecDepth 100000 in
theorem bitsRange_lifted (os : Os) (started : os.Started) (H : Type) (enc : TypeId × Value → H) :
    ReturnsInHanded {} Try.checked os 6 .any (Rows.bitsRangeSpec.pre6 enc Try.prog Try.f6 Rows.bitsRangeRow.domain false) (Rows.bitsRangeSpec.post enc Try.prog Try.f6 false true false false) := by
  refine returnsInHanded_of_change (C := Try.checked) Bown started (by kernel_rfl) Try.func6
    (ChangeSpec.witness6 (enc := enc) (C := Try.checked) false ⟨#[], #[.int .u8 0], []⟩ 8 (by kernel_rfl) (by kernel_rfl) (by kernel_rfl) (by kernel_rfl)) ?_
  intro W base args ds gs before hval hW _ _
  exact law_contract (s := Rows.bitsRangeSpec) BlaidOut rfl rfl rfl (by kernel_rfl) rfl (fun H ds h => match ds, h with | [_], _ => rfl)
    (.one rfl rd5 <| .n) bitsRange_ac H enc W base args ds gs before hval hW

theorem bitsRange_proved : Rows.BitsRangeSaid :=
  OpenClaim.holds_of_wide 6 Try.f6 rfl rfl rfl rfl rfl rfl rfl ⟨rfl, rfl, rfl, rfl, rfl⟩ rfl rfl rfl rfl rfl (by kernel_rfl) Try.func6 (by kernel_rfl)
    (of_decide_eq_true (by kernel_rfl)) (by unfold Func.isWrapper; first | (rw [if_pos (by decide +kernel)]; kernel_rfl) | (rw [if_neg (by decide +kernel)]; exact ⟨rfl, rfl⟩))
    (fun os started H enc _ => bitsRange_lifted os started H enc)

end Go.Proofs.Ytffmagkhoepfnaa
