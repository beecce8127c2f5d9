/- Own text: GWf. -/
import Derived.Test.YthdbckjpoffnpaaGTypes
import Derived.Test.YthdbckjpoffnpaaCore16
set_option linter.all false
set_option linter.unusedVariables false
set_option linter.unusedSimpArgs false
set_option linter.unnecessarySimpa false
set_option linter.deprecated false
namespace Xb
open Go

def wf_Entry (x : Entry) : Prop := (inK .u32) x.ssrc ∧ (inK .u8) x.seq

end Xb
