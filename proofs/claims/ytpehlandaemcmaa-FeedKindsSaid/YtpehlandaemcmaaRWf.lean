/- Own text: RWf. -/
import Derived.Test.YtpehlandaemcmaaRTypes
import Derived.Test.YtpehlandaemcmaaCore16
set_option linter.all false
set_option linter.unusedVariables false
set_option linter.unusedSimpArgs false
set_option linter.unnecessarySimpa false
set_option linter.deprecated false
namespace Xb
open Go



end Xb
