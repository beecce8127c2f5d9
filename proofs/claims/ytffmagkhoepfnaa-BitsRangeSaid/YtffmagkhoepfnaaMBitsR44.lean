/- Own text: MBitsR44. -/
import Derived.Test.YtffmagkhoepfnaaBModels
set_option linter.all false
set_option linter.unusedVariables false
set_option linter.unusedSimpArgs false
set_option linter.unnecessarySimpa false
set_option linter.deprecated false
namespace Xb
theorem bitsRange_44 : ∀ i : Fin 8, law02_BitsRange (some 70) (44 + (i.1 : Int)) = some true := by decide +kernel
end Xb
