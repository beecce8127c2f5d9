/- Own text: SRd. -/
import Derived.Test.YtemfkddlidfbfaaGreatSWalks
import Derived.Test.YtemfkddlidfbfaaGreatSWf
set_option linter.all false
set_option linter.unusedVariables false
set_option linter.unusedSimpArgs false
set_option linter.unnecessarySimpa false
set_option linter.deprecated false
namespace Xb
open Go Go.Proofs
set_option maxRecDepth 100000

theorem Sown : ownKnob Tryz.prog.godebug = none := by kernel_rfl
theorem SlaidOut : laidOutB Tryz.prog = true := by kernel_rfl
theorem rd4 : Rd Tryz.prog 4 1 eb (fun _ => True) := rd_bool rfl rfl
theorem rd3 : Rd Tryz.prog 3 1 (ei .i64) (inK .i64) := rd_int rfl rfl
theorem rd22 : Rd Tryz.prog 22 1 (ei .u16) (inK .u16) := rd_int rfl rfl
theorem rd23 : Rd Tryz.prog 23 1 (ei .u32) (inK .u32) := rd_int rfl rfl
theorem rd64 : Rd Tryz.prog 64 2 cells_GMap wf_GMap := by
  have h := rd_struct (P := Tryz.prog) (t := 64) rfl (.c rfl rd3 <| .c rfl rd3 <| .n) rfl
  exact h.map (fun p => GMap.mk p.1 p.2.1) (fun _ => rfl) (fun _ h => ⟨h.1, h.2.1⟩) (fun _ => rfl)
theorem rd24 : Rd Tryz.prog 24 1 (fun l : List GMap => [.list 2 (l.map cells_GMap)]) (fun l : List GMap => l.length ≤ maxLen ∧ ∀ x, x ∈ l → (wf_GMap) x) := rd_list rfl rfl rd64 (by decide)
theorem rd5 : Rd Tryz.prog 5 1 e8 (inK .u8) := rd_u8 rfl rfl
theorem rd29 : Rd Tryz.prog 29 1 (fun l : List Int => [.list 1 (l.map e8)]) (fun l : List Int => l.length ≤ maxLen ∧ ∀ x, x ∈ l → (inK .u8) x) := rd_list rfl rfl rd5 (by decide)
theorem rd66 : Rd Tryz.prog 66 2 cells_Elem wf_Elem := by
  have h := rd_struct (P := Tryz.prog) (t := 66) rfl (.c rfl rd3 <| .c rfl rd29 <| .n) rfl
  exact h.map (fun p => Elem.mk p.1 p.2.1) (fun _ => rfl) (fun _ h => ⟨h.1, h.2.1⟩) (fun _ => rfl)
theorem rd25 : Rd Tryz.prog 25 1 (fun l : List Elem => [.list 2 (l.map cells_Elem)]) (fun l : List Elem => l.length ≤ maxLen ∧ ∀ x, x ∈ l → (wf_Elem) x) := rd_list rfl rfl rd66 (by decide)
theorem rd26 : Rd Tryz.prog 26 1 (fun l : List Int => [.list 1 (l.map (ei .i64))]) (fun l : List Int => l.length ≤ maxLen ∧ ∀ x, x ∈ l → (inK .i64) x) := rd_list rfl rfl rd3 (by decide)
theorem rd28 : Rd Tryz.prog 28 15 cells_Plan wf_Plan := by
  have h := rd_struct (P := Tryz.prog) (t := 28) rfl (.c rfl rd4 <| .c rfl rd4 <| .c rfl rd4 <| .c rfl rd3 <| .c rfl rd4 <| .c rfl rd22 <| .c rfl rd4 <| .c rfl rd23 <| .c rfl rd4 <| .c rfl rd23 <| .c rfl rd24 <| .c rfl rd25 <| .c rfl rd26 <| .c rfl rd25 <| .c rfl rd4 <| .n) rfl
  exact h.map (fun p => Plan.mk p.1 p.2.1 p.2.2.1 p.2.2.2.1 p.2.2.2.2.1 p.2.2.2.2.2.1 p.2.2.2.2.2.2.1 p.2.2.2.2.2.2.2.1 p.2.2.2.2.2.2.2.2.1 p.2.2.2.2.2.2.2.2.2.1 p.2.2.2.2.2.2.2.2.2.2.1 p.2.2.2.2.2.2.2.2.2.2.2.1 p.2.2.2.2.2.2.2.2.2.2.2.2.1 p.2.2.2.2.2.2.2.2.2.2.2.2.2.1 p.2.2.2.2.2.2.2.2.2.2.2.2.2.2.1) (fun _ => rfl) (fun _ h => ⟨h.1, h.2.1, h.2.2.1, h.2.2.2.1, h.2.2.2.2.1, h.2.2.2.2.2.1, h.2.2.2.2.2.2.1, h.2.2.2.2.2.2.2.1, h.2.2.2.2.2.2.2.2.1, h.2.2.2.2.2.2.2.2.2.1, h.2.2.2.2.2.2.2.2.2.2.1, h.2.2.2.2.2.2.2.2.2.2.2.1, h.2.2.2.2.2.2.2.2.2.2.2.2.1, h.2.2.2.2.2.2.2.2.2.2.2.2.2.1, h.2.2.2.2.2.2.2.2.2.2.2.2.2.2.1⟩) (fun _ => rfl)

end Xb
