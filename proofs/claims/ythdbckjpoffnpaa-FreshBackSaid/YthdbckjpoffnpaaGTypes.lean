/- Own text: GTypes. -/
import Derived.Test.YthdbckjpoffnpaaCore26
set_option linter.all false
set_option linter.unusedVariables false
set_option linter.unusedSimpArgs false
set_option linter.unnecessarySimpa false
set_option linter.deprecated false
namespace Xb
open Go

structure Entry where
  ssrc : Int
  seq : Int
  deriving Inhabited, DecidableEq

def cells_Entry (x : Entry) : List A := [.int .u32 x.ssrc, .int .u8 x.seq]
def enc_Entry (x : Entry) : A := .agg (cells_Entry x)

end Xb
