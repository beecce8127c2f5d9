/- Own text: KRd. -/
import Derived.Test.YtcdhafhamjinlaaKWalks
import Derived.Test.YtcdhafhamjinlaaKWf
set_option linter.all false
set_option linter.unusedVariables false
set_option linter.unusedSimpArgs false
set_option linter.unnecessarySimpa false
set_option linter.deprecated false
namespace Xb
open Go Go.Proofs
set_option maxRecDepth 100000

theorem Kown : ownKnob Try.prog.godebug = none := by kernel_rfl
theorem KlaidOut : laidOutB Try.prog = true := by kernel_rfl
theorem rd3 : Rd Try.prog 3 1 (ei .i64) (inK .i64) := rd_int rfl rfl
theorem rd5 : Rd Try.prog 5 1 e8 (inK .u8) := rd_u8 rfl rfl
theorem rd24 : Rd Try.prog 24 1 (fun l : List Int => [.list 1 (l.map e8)]) (fun l : List Int => l.length ≤ maxLen ∧ ∀ x, x ∈ l → (inK .u8) x) := rd_list rfl rfl rd5 (by decide)
theorem rd49 : Rd Try.prog 49 2 cells_Elem wf_Elem := by
  have h := rd_struct (P := Try.prog) (t := 49) rfl (.c rfl rd3 <| .c rfl rd24 <| .n) rfl
  exact h.map (fun p => Elem.mk p.1 p.2.1) (fun _ => rfl) (fun _ h => ⟨h.1, h.2.1⟩) (fun _ => rfl)
theorem rd22 : Rd Try.prog 22 1 (fun l : List Elem => [.list 2 (l.map cells_Elem)]) (fun l : List Elem => l.length ≤ maxLen ∧ ∀ x, x ∈ l → (wf_Elem) x) := rd_list rfl rfl rd49 (by decide)
theorem rd23 : Rd Try.prog 23 1 (ei .u16) (inK .u16) := rd_int rfl rfl

end Xb
