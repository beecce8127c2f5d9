/- Own text: JRd. -/
import Derived.Test.YtjfacnghojgkeaaJWalks
import Derived.Test.YtjfacnghojgkeaaJWf
set_option linter.all false
set_option linter.unusedVariables false
set_option linter.unusedSimpArgs false
set_option linter.unnecessarySimpa false
set_option linter.deprecated false
namespace Xb
open Go Go.Proofs
set_option maxRecDepth 100000

theorem Jown : ownKnob Try.prog.godebug = none := by kernel_rfl
theorem JlaidOut : laidOutB Try.prog = true := by kernel_rfl
theorem rd22 : Rd Try.prog 22 1 (ei .u16) (inK .u16) := rd_int rfl rfl
theorem rd3 : Rd Try.prog 3 1 (ei .i64) (inK .i64) := rd_int rfl rfl
theorem rd5 : Rd Try.prog 5 1 e8 (inK .u8) := rd_u8 rfl rfl
theorem rd46 : Rd Try.prog 46 2 cells_Seen wf_Seen := by
  have h := rd_struct (P := Try.prog) (t := 46) rfl (.c rfl rd3 <| .c rfl rd3 <| .n) rfl
  exact h.map (fun p => Seen.mk p.1 p.2.1) (fun _ => rfl) (fun _ h => ⟨h.1, h.2.1⟩) (fun _ => rfl)
theorem rd23 : Rd Try.prog 23 1 (fun l : List Seen => [.list 2 (l.map cells_Seen)]) (fun l : List Seen => l.length ≤ maxLen ∧ ∀ x, x ∈ l → (wf_Seen) x) := rd_list rfl rfl rd46 (by decide)
theorem rd25 : Rd Try.prog 25 4 cells_Arrive wf_Arrive := by
  have h := rd_struct (P := Try.prog) (t := 25) rfl (.c rfl rd22 <| .c rfl rd3 <| .c rfl rd5 <| .c rfl rd23 <| .n) rfl
  exact h.map (fun p => Arrive.mk p.1 p.2.1 p.2.2.1 p.2.2.2.1) (fun _ => rfl) (fun _ h => ⟨h.1, h.2.1, h.2.2.1, h.2.2.2.1⟩) (fun _ => rfl)
theorem rd26 : Rd Try.prog 26 1 (fun l : List Int => [.list 1 (l.map e8)]) (fun l : List Int => l.length ≤ maxLen ∧ ∀ x, x ∈ l → (inK .u8) x) := rd_list rfl rfl rd5 (by decide)

end Xb
