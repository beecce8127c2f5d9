/- Own text: VRd. -/
import Derived.Test.YtecbnklmjehofaaVWalks
import Derived.Test.YtecbnklmjehofaaVWf
set_option linter.all false
set_option linter.unusedVariables false
set_option linter.unusedSimpArgs false
set_option linter.unnecessarySimpa false
set_option linter.deprecated false
namespace Xb
open Go Go.Proofs
set_option maxRecDepth 100000

theorem Vown : ownKnob Try.prog.godebug = none := by kernel_rfl
theorem VlaidOut : laidOutB Try.prog = true := by kernel_rfl
theorem rd4 : Rd Try.prog 4 1 eb (fun _ => True) := rd_bool rfl rfl
theorem rd3 : Rd Try.prog 3 1 (ei .i64) (inK .i64) := rd_int rfl rfl
theorem rd22 : Rd Try.prog 22 1 (fun l : List Int => [.list 1 (l.map (ei .i64))]) (fun l : List Int => l.length ≤ maxLen ∧ ∀ x, x ∈ l → (inK .i64) x) := rd_list rfl rfl rd3 (by decide)
theorem rd83 : Rd Try.prog 83 2 cells_Size wf_Size := by
  have h := rd_struct (P := Try.prog) (t := 83) rfl (.c rfl rd3 <| .c rfl rd3 <| .n) rfl
  exact h.map (fun p => Size.mk p.1 p.2.1) (fun _ => rfl) (fun _ h => ⟨h.1, h.2.1⟩) (fun _ => rfl)
theorem rd24 : Rd Try.prog 24 1 (fun l : List Size => [.list 2 (l.map cells_Size)]) (fun l : List Size => l.length ≤ maxLen ∧ ∀ x, x ∈ l → (wf_Size) x) := rd_list rfl rfl rd83 (by decide)
theorem rd113 : Rd Try.prog 113 3 cells_Group wf_Group := by
  have h := rd_struct (P := Try.prog) (t := 113) rfl (.c rfl rd3 <| .c rfl rd4 <| .c rfl rd22 <| .n) rfl
  exact h.map (fun p => Group.mk p.1 p.2.1 p.2.2.1) (fun _ => rfl) (fun _ h => ⟨h.1, h.2.1, h.2.2.1⟩) (fun _ => rfl)
theorem rd58 : Rd Try.prog 58 1 (fun l : List Group => [.list 3 (l.map cells_Group)]) (fun l : List Group => l.length ≤ maxLen ∧ ∀ x, x ∈ l → (wf_Group) x) := rd_list rfl rfl rd113 (by decide)
theorem rd60 : Rd Try.prog 60 5 cells_Scale wf_Scale := by
  have h := rd_struct (P := Try.prog) (t := 60) rfl (.c rfl rd3 <| .c rfl rd4 <| .c rfl rd24 <| .c rfl rd4 <| .c rfl rd58 <| .n) rfl
  exact h.map (fun p => Scale.mk p.1 p.2.1 p.2.2.1 p.2.2.2.1 p.2.2.2.2.1) (fun _ => rfl) (fun _ h => ⟨h.1, h.2.1, h.2.2.1, h.2.2.2.1, h.2.2.2.2.1⟩) (fun _ => rfl)
theorem rd62 : Rd Try.prog 62 21 cells_Vp9 wf_Vp9 := by
  have h := rd_struct (P := Try.prog) (t := 62) rfl (.c rfl rd4 <| .c rfl rd4 <| .c rfl rd3 <| .c rfl rd4 <| .c rfl rd4 <| .c rfl rd3 <| .c rfl rd3 <| .c rfl rd4 <| .c rfl rd4 <| .c rfl rd4 <| .c rfl rd3 <| .c rfl rd22 <| .c rfl rd4 <| .c rfl rd4 <| .c rfl rd4 <| .c rfl rd60 <| .c rfl rd4 <| .n) rfl
  exact h.map (fun p => Vp9.mk p.1 p.2.1 p.2.2.1 p.2.2.2.1 p.2.2.2.2.1 p.2.2.2.2.2.1 p.2.2.2.2.2.2.1 p.2.2.2.2.2.2.2.1 p.2.2.2.2.2.2.2.2.1 p.2.2.2.2.2.2.2.2.2.1 p.2.2.2.2.2.2.2.2.2.2.1 p.2.2.2.2.2.2.2.2.2.2.2.1 p.2.2.2.2.2.2.2.2.2.2.2.2.1 p.2.2.2.2.2.2.2.2.2.2.2.2.2.1 p.2.2.2.2.2.2.2.2.2.2.2.2.2.2.1 p.2.2.2.2.2.2.2.2.2.2.2.2.2.2.2.1 p.2.2.2.2.2.2.2.2.2.2.2.2.2.2.2.2.1) (fun _ => rfl) (fun _ h => ⟨h.1, h.2.1, h.2.2.1, h.2.2.2.1, h.2.2.2.2.1, h.2.2.2.2.2.1, h.2.2.2.2.2.2.1, h.2.2.2.2.2.2.2.1, h.2.2.2.2.2.2.2.2.1, h.2.2.2.2.2.2.2.2.2.1, h.2.2.2.2.2.2.2.2.2.2.1, h.2.2.2.2.2.2.2.2.2.2.2.1, h.2.2.2.2.2.2.2.2.2.2.2.2.1, h.2.2.2.2.2.2.2.2.2.2.2.2.2.1, h.2.2.2.2.2.2.2.2.2.2.2.2.2.2.1, h.2.2.2.2.2.2.2.2.2.2.2.2.2.2.2.1, h.2.2.2.2.2.2.2.2.2.2.2.2.2.2.2.2.1⟩) (fun _ => rfl)
theorem rd5 : Rd Try.prog 5 1 e8 (inK .u8) := rd_u8 rfl rfl
theorem rd27 : Rd Try.prog 27 1 (fun l : List Int => [.list 1 (l.map e8)]) (fun l : List Int => l.length ≤ maxLen ∧ ∀ x, x ∈ l → (inK .u8) x) := rd_list rfl rfl rd5 (by decide)

end Xb
