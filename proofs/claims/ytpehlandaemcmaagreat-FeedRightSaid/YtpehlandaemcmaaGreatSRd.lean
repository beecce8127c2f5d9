/- Own text: SRd. -/
import Derived.Test.YtpehlandaemcmaaGreatSWalks
import Derived.Test.YtpehlandaemcmaaGreatSWf
set_option linter.all false
set_option linter.unusedVariables false
set_option linter.unusedSimpArgs false
set_option linter.unnecessarySimpa false
set_option linter.deprecated false
namespace Xb
open Go Go.Proofs
set_option maxRecDepth 100000

theorem Sown : ownKnob Tryz.prog.godebug = none := by kernel_rfl
theorem SlaidOut : laidOutB Tryz.prog = true := by kernel_rfl
theorem rd3 : Rd Tryz.prog 3 1 (ei .i64) (inK .i64) := rd_int rfl rfl
theorem rd22 : Rd Tryz.prog 22 1 (ei .u32) (inK .u32) := rd_int rfl rfl
theorem rd24 : Rd Tryz.prog 24 1 (ei .u16) (inK .u16) := rd_int rfl rfl
theorem rd55 : Rd Tryz.prog 55 2 cells_Pair wf_Pair := by
  have h := rd_struct (P := Tryz.prog) (t := 55) rfl (.c rfl rd24 <| .c rfl rd24 <| .n) rfl
  exact h.map (fun p => Pair.mk p.1 p.2.1) (fun _ => rfl) (fun _ h => ⟨h.1, h.2.1⟩) (fun _ => rfl)
theorem rd23 : Rd Tryz.prog 23 1 (fun l : List Pair => [.list 2 (l.map cells_Pair)]) (fun l : List Pair => l.length ≤ maxLen ∧ ∀ x, x ∈ l → (wf_Pair) x) := rd_list rfl rfl rd55 (by decide)
theorem rd5 : Rd Tryz.prog 5 1 e8 (inK .u8) := rd_u8 rfl rfl
theorem rd90 : Rd Tryz.prog 90 2 cells_Seen wf_Seen := by
  have h := rd_struct (P := Tryz.prog) (t := 90) rfl (.c rfl rd3 <| .c rfl rd3 <| .n) rfl
  exact h.map (fun p => Seen.mk p.1 p.2.1) (fun _ => rfl) (fun _ h => ⟨h.1, h.2.1⟩) (fun _ => rfl)
theorem rd25 : Rd Tryz.prog 25 1 (fun l : List Seen => [.list 2 (l.map cells_Seen)]) (fun l : List Seen => l.length ≤ maxLen ∧ ∀ x, x ∈ l → (wf_Seen) x) := rd_list rfl rfl rd90 (by decide)
theorem rd27 : Rd Tryz.prog 27 4 cells_Arrive wf_Arrive := by
  have h := rd_struct (P := Tryz.prog) (t := 27) rfl (.c rfl rd24 <| .c rfl rd3 <| .c rfl rd5 <| .c rfl rd25 <| .n) rfl
  exact h.map (fun p => Arrive.mk p.1 p.2.1 p.2.2.1 p.2.2.2.1) (fun _ => rfl) (fun _ h => ⟨h.1, h.2.1, h.2.2.1, h.2.2.2.1⟩) (fun _ => rfl)
theorem rd104 : Rd Tryz.prog 104 2 cells_Entry wf_Entry := by
  have h := rd_struct (P := Tryz.prog) (t := 104) rfl (.c rfl rd22 <| .c rfl rd5 <| .n) rfl
  exact h.map (fun p => Entry.mk p.1 p.2.1) (fun _ => rfl) (fun _ h => ⟨h.1, h.2.1⟩) (fun _ => rfl)
theorem rd28 : Rd Tryz.prog 28 1 (fun l : List Entry => [.list 2 (l.map cells_Entry)]) (fun l : List Entry => l.length ≤ maxLen ∧ ∀ x, x ∈ l → (wf_Entry) x) := rd_list rfl rfl rd104 (by decide)
theorem rd29 : Rd Tryz.prog 29 1 (fun l : List Int => [.list 1 (l.map (ei .u32))]) (fun l : List Int => l.length ≤ maxLen ∧ ∀ x, x ∈ l → (inK .u32) x) := rd_list rfl rfl rd22 (by decide)
theorem rd31 : Rd Tryz.prog 31 3 cells_Rate wf_Rate := by
  have h := rd_struct (P := Tryz.prog) (t := 31) rfl (.c rfl rd3 <| .c rfl rd22 <| .c rfl rd29 <| .n) rfl
  exact h.map (fun p => Rate.mk p.1 p.2.1 p.2.2.1) (fun _ => rfl) (fun _ h => ⟨h.1, h.2.1, h.2.2.1⟩) (fun _ => rfl)
theorem rd33 : Rd Tryz.prog 33 12 cells_Feed wf_Feed := by
  have h := rd_struct (P := Tryz.prog) (t := 33) rfl (.c rfl rd3 <| .c rfl rd22 <| .c rfl rd22 <| .c rfl rd23 <| .c rfl rd27 <| .c rfl rd28 <| .c rfl rd31 <| .n) rfl
  exact h.map (fun p => Feed.mk p.1 p.2.1 p.2.2.1 p.2.2.2.1 p.2.2.2.2.1 p.2.2.2.2.2.1 p.2.2.2.2.2.2.1) (fun _ => rfl) (fun _ h => ⟨h.1, h.2.1, h.2.2.1, h.2.2.2.1, h.2.2.2.2.1, h.2.2.2.2.2.1, h.2.2.2.2.2.2.1⟩) (fun _ => rfl)
theorem rd34 : Rd Tryz.prog 34 1 (fun l : List Int => [.list 1 (l.map e8)]) (fun l : List Int => l.length ≤ maxLen ∧ ∀ x, x ∈ l → (inK .u8) x) := rd_list rfl rfl rd5 (by decide)

end Xb
