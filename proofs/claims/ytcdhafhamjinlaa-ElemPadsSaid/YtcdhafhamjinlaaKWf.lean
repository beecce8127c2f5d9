/- Own text: KWf. -/
import Derived.Test.YtcdhafhamjinlaaKTypes
import Derived.Test.YtcdhafhamjinlaaCore16
set_option linter.all false
set_option linter.unusedVariables false
set_option linter.unusedSimpArgs false
set_option linter.unnecessarySimpa false
set_option linter.deprecated false
namespace Xb
open Go

def wf_Elem (x : Elem) : Prop := (inK .i64) x.id_ ∧ (fun l : List Int => l.length ≤ maxLen ∧ ∀ x, x ∈ l → (inK .u8) x) x.data

end Xb
