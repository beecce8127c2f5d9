/-
  PROVED: the statement PacketCutSaid of this seat: whatever the arguments, the law returns true and leaves them as they were. No condition.
-/
import Derived.Test.YtbbjigdfgildeaaHRd
import Derived.Test.YtbbjigdfgildeaaHTruePacketCut
import Derived.Test.YtbbjigdfgildeaaRows
set_option linter.all false
set_option linter.unusedVariables false
set_option linter.unusedSimpArgs false
set_option linter.unnecessarySimpa false
set_option linter.deprecated false
namespace Go.Proofs.Ytbbjigdfgildeaa
open Xb Go.ChangeShapes Go.WideShapes Go.ChangeAt Go.RowKit
set_option maxRecDepth 100000

theorem packetCut_ac (y : Packet × Int × (List Int) × Unit) (hy : (wf_Packet) (y.1) ∧ (inK .u16) (y.2.1) ∧ (fun l : List Int => l.length ≤ maxLen ∧ ∀ x, x ∈ l → (inK .u8) x) (y.2.2.1) ∧ True) :
    AC Try.prog 5 [.ro (enc_Packet y.1), .ro (.int .u16 y.2.1), .ro (.list 1 (List.map e8 y.2.2.1))] (.ro (.bool true)) [] :=
  law06_PacketCut_c (Xb.packetCut_true hy.1 hy.2.1 hy.2.2.1)

set_option maxRecDepth 100000 in
theorem packetCut_lifted (os : Os) (started : os.Started) (H : Type) (enc : TypeId × Value → H) :
    ReturnsInHanded {} Try.checked os 5 .any (Rows.packetCutSpec.pre6 enc Try.prog Try.f5 Rows.packetCutRow.domain false) (Rows.packetCutSpec.post enc Try.prog Try.f5 false true false false) := by
  refine returnsInHanded_of_change (C := Try.checked) Hown started (by kernel_rfl) Try.func5
    (ChangeSpec.witness6 (enc := enc) (C := Try.checked) false ⟨#[], #[.agg #[.bool false, .bool false, .bool false, .int .i64 0, .int .u16 0, .int .u32 0, .int .u32 0, .slice none 0 0, .int .u16 0, .slice none 0 0, .slice none 0 0, .int .i64 0], .int .u16 0, .slice none 0 0], []⟩ 8 (by kernel_rfl) (by kernel_rfl) (by kernel_rfl) (by kernel_rfl)) ?_
  intro W base args ds gs before hval hW _ _
  exact law_contract (s := Rows.packetCutSpec) HlaidOut rfl rfl rfl (by kernel_rfl) rfl (fun H ds h => match ds, h with | [_, _, _], _ => rfl)
    (.str rfl rd29 <| .one rfl rd22 <| .one rfl rd27 <| .n) packetCut_ac H enc W base args ds gs before hval hW

theorem packetCut_proved : Rows.PacketCutSaid :=
  OpenClaim.holds_of_wide 5 Try.f5 rfl rfl rfl rfl rfl rfl rfl ⟨rfl, rfl, rfl, rfl, rfl⟩ rfl rfl rfl rfl rfl (by kernel_rfl) Try.func5 (by kernel_rfl)
    (of_decide_eq_true (by kernel_rfl)) (by unfold Func.isWrapper; first | (rw [if_pos (by decide +kernel)]; kernel_rfl) | (rw [if_neg (by decide +kernel)]; exact ⟨rfl, rfl⟩))
    (fun os started H enc _ => packetCut_lifted os started H enc)

end Go.Proofs.Ytbbjigdfgildeaa
