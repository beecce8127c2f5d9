/- Own text: ETypes. -/
import Derived.Test.YthdbckjpoffnpaaCore23
set_option linter.all false
set_option linter.unusedVariables false
set_option linter.unusedSimpArgs false
set_option linter.unnecessarySimpa false
set_option linter.deprecated false
namespace Xb
open Go



end Xb
