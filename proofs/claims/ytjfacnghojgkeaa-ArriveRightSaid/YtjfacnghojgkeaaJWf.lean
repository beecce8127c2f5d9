/- Own text: JWf. -/
import Derived.Test.YtjfacnghojgkeaaJTypes
import Derived.Test.YtjfacnghojgkeaaCore16
set_option linter.all false
set_option linter.unusedVariables false
set_option linter.unusedSimpArgs false
set_option linter.unnecessarySimpa false
set_option linter.deprecated false
namespace Xb
open Go

def wf_Seen (x : Seen) : Prop := (inK .i64) x.what ∧ (inK .i64) x.delta
def wf_Arrive (x : Arrive) : Prop := (inK .u16) x.base ∧ (inK .i64) x.time ∧ (inK .u8) x.count ∧ (fun l : List Seen => l.length ≤ maxLen ∧ ∀ x, x ∈ l → (wf_Seen) x) x.seen

end Xb
