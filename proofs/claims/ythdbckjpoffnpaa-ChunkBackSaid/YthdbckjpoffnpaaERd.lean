/- Own text: ERd. -/
import Derived.Test.YthdbckjpoffnpaaEWalks
import Derived.Test.YthdbckjpoffnpaaEWf
set_option linter.all false
set_option linter.unusedVariables false
set_option linter.unusedSimpArgs false
set_option linter.unnecessarySimpa false
set_option linter.deprecated false
namespace Xb
open Go Go.Proofs

theorem Eown : ownKnob Try.prog.godebug = none := by kernel_rfl
theorem ElaidOut : laidOutB Try.prog = true := by kernel_rfl
theorem rd3 : Rd Try.prog 3 1 (ei .i64) (inK .i64) := rd_int rfl rfl
theorem rd22 : Rd Try.prog 22 1 (fun l : List Int => [.list 1 (l.map (ei .i64))]) (fun l : List Int => l.length ≤ maxLen ∧ ∀ x, x ∈ l → (inK .i64) x) := rd_list rfl rfl rd3 (by decide)
theorem rd35 : Rd Try.prog 35 1 (ei .u16) (inK .u16) := rd_int rfl rfl
theorem rd23 : Rd Try.prog 23 1 (fun l : List Int => [.list 1 (l.map (ei .u16))]) (fun l : List Int => l.length ≤ maxLen ∧ ∀ x, x ∈ l → (inK .u16) x) := rd_list rfl rfl rd35 (by decide)
theorem rd5 : Rd Try.prog 5 1 e8 (inK .u8) := rd_u8 rfl rfl

end Xb
