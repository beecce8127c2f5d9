/- Own text: BWf. -/
import Derived.Test.YtffmagkhoepfnaaBTypes
import Derived.Test.YtffmagkhoepfnaaCore16
set_option linter.all false
set_option linter.unusedVariables false
set_option linter.unusedSimpArgs false
set_option linter.unnecessarySimpa false
set_option linter.deprecated false
namespace Xb
open Go

def wf_GBits (x : GBits) : Prop := (fun l : List Int => l.length ≤ maxLen ∧ ∀ x, x ∈ l → (inK .u8) x) x.bytes ∧ (inK .i64) x.at_ ∧ (inK .i64) x.err
def wf_Ink (x : Ink) : Prop := (fun l : List Int => l.length ≤ maxLen ∧ ∀ x, x ∈ l → (inK .u8) x) x.bytes ∧ (inK .i64) x.many

end Xb
