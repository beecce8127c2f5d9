/- Own text: QRd. -/
import Derived.Test.YtjjaohddaclafaaQWalks
import Derived.Test.YtjjaohddaclafaaQWf
set_option linter.all false
set_option linter.unusedVariables false
set_option linter.unusedSimpArgs false
set_option linter.unnecessarySimpa false
set_option linter.deprecated false
namespace Xb
open Go Go.Proofs
set_option maxRecDepth 100000

theorem Qown : ownKnob Try.prog.godebug = none := by kernel_rfl
theorem QlaidOut : laidOutB Try.prog = true := by kernel_rfl
theorem rd4 : Rd Try.prog 4 1 eb (fun _ => True) := rd_bool rfl rfl
theorem rd3 : Rd Try.prog 3 1 (ei .i64) (inK .i64) := rd_int rfl rfl
theorem rd22 : Rd Try.prog 22 1 (fun l : List Int => [.list 1 (l.map (ei .i64))]) (fun l : List Int => l.length ≤ maxLen ∧ ∀ x, x ∈ l → (inK .i64) x) := rd_list rfl rfl rd3 (by decide)
theorem rd46 : Rd Try.prog 46 5 cells_Template wf_Template := by
  have h := rd_struct (P := Try.prog) (t := 46) rfl (.c rfl rd3 <| .c rfl rd3 <| .c rfl rd22 <| .c rfl rd22 <| .c rfl rd22 <| .n) rfl
  exact h.map (fun p => Template.mk p.1 p.2.1 p.2.2.1 p.2.2.2.1 p.2.2.2.2.1) (fun _ => rfl) (fun _ h => ⟨h.1, h.2.1, h.2.2.1, h.2.2.2.1, h.2.2.2.2.1⟩) (fun _ => rfl)
theorem rd23 : Rd Try.prog 23 1 (fun l : List Template => [.list 5 (l.map cells_Template)]) (fun l : List Template => l.length ≤ maxLen ∧ ∀ x, x ∈ l → (wf_Template) x) := rd_list rfl rfl rd46 (by decide)
theorem rd74 : Rd Try.prog 74 2 cells_Size wf_Size := by
  have h := rd_struct (P := Try.prog) (t := 74) rfl (.c rfl rd3 <| .c rfl rd3 <| .n) rfl
  exact h.map (fun p => Size.mk p.1 p.2.1) (fun _ => rfl) (fun _ h => ⟨h.1, h.2.1⟩) (fun _ => rfl)
theorem rd24 : Rd Try.prog 24 1 (fun l : List Size => [.list 2 (l.map cells_Size)]) (fun l : List Size => l.length ≤ maxLen ∧ ∀ x, x ∈ l → (wf_Size) x) := rd_list rfl rfl rd74 (by decide)
theorem rd26 : Rd Try.prog 26 6 cells_Structure wf_Structure := by
  have h := rd_struct (P := Try.prog) (t := 26) rfl (.c rfl rd3 <| .c rfl rd3 <| .c rfl rd3 <| .c rfl rd22 <| .c rfl rd23 <| .c rfl rd24 <| .n) rfl
  exact h.map (fun p => Structure.mk p.1 p.2.1 p.2.2.1 p.2.2.2.1 p.2.2.2.2.1 p.2.2.2.2.2.1) (fun _ => rfl) (fun _ h => ⟨h.1, h.2.1, h.2.2.1, h.2.2.2.1, h.2.2.2.2.1, h.2.2.2.2.2.1⟩) (fun _ => rfl)
theorem rd27 : Rd Try.prog 27 1 (ei .u32) (inK .u32) := rd_int rfl rfl
theorem rd29 : Rd Try.prog 29 19 cells_Frame wf_Frame := by
  have h := rd_struct (P := Try.prog) (t := 29) rfl (.c rfl rd4 <| .c rfl rd4 <| .c rfl rd3 <| .c rfl rd3 <| .c rfl rd4 <| .c rfl rd26 <| .c rfl rd4 <| .c rfl rd27 <| .c rfl rd4 <| .c rfl rd22 <| .c rfl rd4 <| .c rfl rd22 <| .c rfl rd4 <| .c rfl rd22 <| .n) rfl
  exact h.map (fun p => Frame.mk p.1 p.2.1 p.2.2.1 p.2.2.2.1 p.2.2.2.2.1 p.2.2.2.2.2.1 p.2.2.2.2.2.2.1 p.2.2.2.2.2.2.2.1 p.2.2.2.2.2.2.2.2.1 p.2.2.2.2.2.2.2.2.2.1 p.2.2.2.2.2.2.2.2.2.2.1 p.2.2.2.2.2.2.2.2.2.2.2.1 p.2.2.2.2.2.2.2.2.2.2.2.2.1 p.2.2.2.2.2.2.2.2.2.2.2.2.2.1) (fun _ => rfl) (fun _ h => ⟨h.1, h.2.1, h.2.2.1, h.2.2.2.1, h.2.2.2.2.1, h.2.2.2.2.2.1, h.2.2.2.2.2.2.1, h.2.2.2.2.2.2.2.1, h.2.2.2.2.2.2.2.2.1, h.2.2.2.2.2.2.2.2.2.1, h.2.2.2.2.2.2.2.2.2.2.1, h.2.2.2.2.2.2.2.2.2.2.2.1, h.2.2.2.2.2.2.2.2.2.2.2.2.1, h.2.2.2.2.2.2.2.2.2.2.2.2.2.1⟩) (fun _ => rfl)
theorem rd5 : Rd Try.prog 5 1 e8 (inK .u8) := rd_u8 rfl rfl
theorem rd30 : Rd Try.prog 30 1 (fun l : List Int => [.list 1 (l.map e8)]) (fun l : List Int => l.length ≤ maxLen ∧ ∀ x, x ∈ l → (inK .u8) x) := rd_list rfl rfl rd5 (by decide)

end Xb
