/- Own text: DRd. -/
import Derived.Test.YthdbckjpoffnpaaDWalks
import Derived.Test.YthdbckjpoffnpaaDWf
set_option linter.all false
set_option linter.unusedVariables false
set_option linter.unusedSimpArgs false
set_option linter.unnecessarySimpa false
set_option linter.deprecated false
namespace Xb
open Go Go.Proofs

theorem Down : ownKnob Try.prog.godebug = none := by kernel_rfl
theorem DlaidOut : laidOutB Try.prog = true := by kernel_rfl
theorem rd5 : Rd Try.prog 5 1 e8 (inK .u8) := rd_u8 rfl rfl
theorem rd37 : Rd Try.prog 37 1 (fun l : List Int => [.list 1 (l.map e8)]) (fun l : List Int => l.length ≤ maxLen ∧ ∀ x, x ∈ l → (inK .u8) x) := rd_list rfl rfl rd5 (by decide)
theorem rd3 : Rd Try.prog 3 1 (ei .i64) (inK .i64) := rd_int rfl rfl
theorem rd35 : Rd Try.prog 35 1 (ei .u16) (inK .u16) := rd_int rfl rfl

end Xb
