/- Own text: EWf. -/
import Derived.Test.YthdbckjpoffnpaaETypes
import Derived.Test.YthdbckjpoffnpaaCore16
set_option linter.all false
set_option linter.unusedVariables false
set_option linter.unusedSimpArgs false
set_option linter.unnecessarySimpa false
set_option linter.deprecated false
namespace Xb
open Go



end Xb
