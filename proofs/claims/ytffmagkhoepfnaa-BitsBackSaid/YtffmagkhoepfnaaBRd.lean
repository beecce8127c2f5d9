/- Own text: BRd. -/
import Derived.Test.YtffmagkhoepfnaaBWalks
import Derived.Test.YtffmagkhoepfnaaBWf
set_option linter.all false
set_option linter.unusedVariables false
set_option linter.unusedSimpArgs false
set_option linter.unnecessarySimpa false
set_option linter.deprecated false
namespace Xb
open Go Go.Proofs

theorem Bown : ownKnob Try.prog.godebug = none := by kernel_rfl
theorem BlaidOut : laidOutB Try.prog = true := by kernel_rfl
theorem rd5 : Rd Try.prog 5 1 e8 (inK .u8) := rd_u8 rfl rfl
theorem rd22 : Rd Try.prog 22 1 (fun l : List Int => [.list 1 (l.map e8)]) (fun l : List Int => l.length ≤ maxLen ∧ ∀ x, x ∈ l → (inK .u8) x) := rd_list rfl rfl rd5 (by decide)
theorem rd3 : Rd Try.prog 3 1 (ei .i64) (inK .i64) := rd_int rfl rfl
theorem rd23 : Rd Try.prog 23 1 (ei .i64) (inK .i64) := rd_int rfl rfl
theorem rd25 : Rd Try.prog 25 3 cells_GBits wf_GBits := by
  have h := rd_struct (P := Try.prog) (t := 25) rfl (.c rfl rd22 <| .c rfl rd3 <| .c rfl rd23 <| .n) rfl
  exact h.map (fun p => GBits.mk p.1 p.2.1 p.2.2.1) (fun _ => rfl) (fun _ h => ⟨h.1, h.2.1, h.2.2.1⟩) (fun _ => rfl)
theorem rd27 : Rd Try.prog 27 2 cells_Ink wf_Ink := by
  have h := rd_struct (P := Try.prog) (t := 27) rfl (.c rfl rd22 <| .c rfl rd3 <| .n) rfl
  exact h.map (fun p => Ink.mk p.1 p.2.1) (fun _ => rfl) (fun _ h => ⟨h.1, h.2.1⟩) (fun _ => rfl)
theorem rd28 : Rd Try.prog 28 1 (ei .u64) (inK .u64) := rd_int rfl rfl
theorem rd45 : Rd Try.prog 45 1 (fun l : List Int => [.list 1 (l.map (ei .u64))]) (fun l : List Int => l.length ≤ maxLen ∧ ∀ x, x ∈ l → (inK .u64) x) := rd_list rfl rfl rd28 (by decide)
theorem rd4 : Rd Try.prog 4 1 eb (fun _ => True) := rd_bool rfl rfl
theorem rd46 : Rd Try.prog 46 1 (fun l : List Bool => [.list 1 (l.map eb)]) (fun l : List Bool => l.length ≤ maxLen ∧ ∀ x, x ∈ l → (fun _ : Bool => True) x) := rd_list rfl rfl rd4 (by decide)

end Xb
