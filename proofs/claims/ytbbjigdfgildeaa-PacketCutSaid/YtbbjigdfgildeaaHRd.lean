/- Own text: HRd. -/
import Derived.Test.YtbbjigdfgildeaaHWalks
import Derived.Test.YtbbjigdfgildeaaHWf
set_option linter.all false
set_option linter.unusedVariables false
set_option linter.unusedSimpArgs false
set_option linter.unnecessarySimpa false
set_option linter.deprecated false
namespace Xb
open Go Go.Proofs
set_option maxRecDepth 100000

theorem Hown : ownKnob Try.prog.godebug = none := by kernel_rfl
theorem HlaidOut : laidOutB Try.prog = true := by kernel_rfl
theorem rd4 : Rd Try.prog 4 1 eb (fun _ => True) := rd_bool rfl rfl
theorem rd3 : Rd Try.prog 3 1 (ei .i64) (inK .i64) := rd_int rfl rfl
theorem rd22 : Rd Try.prog 22 1 (ei .u16) (inK .u16) := rd_int rfl rfl
theorem rd23 : Rd Try.prog 23 1 (ei .u32) (inK .u32) := rd_int rfl rfl
theorem rd24 : Rd Try.prog 24 1 (fun l : List Int => [.list 1 (l.map (ei .u32))]) (fun l : List Int => l.length ≤ maxLen ∧ ∀ x, x ∈ l → (inK .u32) x) := rd_list rfl rfl rd23 (by decide)
theorem rd26 : Rd Try.prog 26 8 cells_Head wf_Head := by
  have h := rd_struct (P := Try.prog) (t := 26) rfl (.c rfl rd4 <| .c rfl rd4 <| .c rfl rd4 <| .c rfl rd3 <| .c rfl rd22 <| .c rfl rd23 <| .c rfl rd23 <| .c rfl rd24 <| .n) rfl
  exact h.map (fun p => Head.mk p.1 p.2.1 p.2.2.1 p.2.2.2.1 p.2.2.2.2.1 p.2.2.2.2.2.1 p.2.2.2.2.2.2.1 p.2.2.2.2.2.2.2.1) (fun _ => rfl) (fun _ h => ⟨h.1, h.2.1, h.2.2.1, h.2.2.2.1, h.2.2.2.2.1, h.2.2.2.2.2.1, h.2.2.2.2.2.2.1, h.2.2.2.2.2.2.2.1⟩) (fun _ => rfl)
theorem rd5 : Rd Try.prog 5 1 e8 (inK .u8) := rd_u8 rfl rfl
theorem rd27 : Rd Try.prog 27 1 (fun l : List Int => [.list 1 (l.map e8)]) (fun l : List Int => l.length ≤ maxLen ∧ ∀ x, x ∈ l → (inK .u8) x) := rd_list rfl rfl rd5 (by decide)
theorem rd29 : Rd Try.prog 29 12 cells_Packet wf_Packet := by
  have h := rd_struct (P := Try.prog) (t := 29) rfl (.c rfl rd26 <| .c rfl rd22 <| .c rfl rd27 <| .c rfl rd27 <| .c rfl rd3 <| .n) rfl
  exact h.map (fun p => Packet.mk p.1 p.2.1 p.2.2.1 p.2.2.2.1 p.2.2.2.2.1) (fun _ => rfl) (fun _ h => ⟨h.1, h.2.1, h.2.2.1, h.2.2.2.1, h.2.2.2.2.1⟩) (fun _ => rfl)

end Xb
