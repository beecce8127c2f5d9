/- Own text: GRd. -/
import Derived.Test.YthdbckjpoffnpaaGWalks
import Derived.Test.YthdbckjpoffnpaaGWf
set_option linter.all false
set_option linter.unusedVariables false
set_option linter.unusedSimpArgs false
set_option linter.unnecessarySimpa false
set_option linter.deprecated false
namespace Xb
open Go Go.Proofs

theorem Gown : ownKnob Try.prog.godebug = none := by kernel_rfl
theorem GlaidOut : laidOutB Try.prog = true := by kernel_rfl
theorem rd64 : Rd Try.prog 64 1 (ei .u32) (inK .u32) := rd_int rfl rfl
theorem rd5 : Rd Try.prog 5 1 e8 (inK .u8) := rd_u8 rfl rfl
theorem rd66 : Rd Try.prog 66 2 cells_Entry wf_Entry := by
  have h := rd_struct (P := Try.prog) (t := 66) rfl (.c rfl rd64 <| .c rfl rd5 <| .n) rfl
  exact h.map (fun p => Entry.mk p.1 p.2.1) (fun _ => rfl) (fun _ h => ⟨h.1, h.2.1⟩) (fun _ => rfl)
theorem rd49 : Rd Try.prog 49 1 (fun l : List Entry => [.list 2 (l.map cells_Entry)]) (fun l : List Entry => l.length ≤ maxLen ∧ ∀ x, x ∈ l → (wf_Entry) x) := rd_list rfl rfl rd66 (by decide)
theorem rd37 : Rd Try.prog 37 1 (fun l : List Int => [.list 1 (l.map e8)]) (fun l : List Int => l.length ≤ maxLen ∧ ∀ x, x ∈ l → (inK .u8) x) := rd_list rfl rfl rd5 (by decide)
theorem rd35 : Rd Try.prog 35 1 (ei .u16) (inK .u16) := rd_int rfl rfl

end Xb
