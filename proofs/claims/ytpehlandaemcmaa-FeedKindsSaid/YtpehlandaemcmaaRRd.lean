/- Own text: RRd. -/
import Derived.Test.YtpehlandaemcmaaRWalks
import Derived.Test.YtpehlandaemcmaaRWf
set_option linter.all false
set_option linter.unusedVariables false
set_option linter.unusedSimpArgs false
set_option linter.unnecessarySimpa false
set_option linter.deprecated false
namespace Xb
open Go Go.Proofs
set_option maxRecDepth 100000

theorem Rown : ownKnob Try.prog.godebug = none := by kernel_rfl
theorem RlaidOut : laidOutB Try.prog = true := by kernel_rfl
theorem rd3 : Rd Try.prog 3 1 (ei .i64) (inK .i64) := rd_int rfl rfl

end Xb
