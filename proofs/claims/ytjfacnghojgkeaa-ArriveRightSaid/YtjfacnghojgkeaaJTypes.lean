/- Own text: JTypes. -/
import Derived.Test.YtjfacnghojgkeaaCore27
set_option linter.all false
set_option linter.unusedVariables false
set_option linter.unusedSimpArgs false
set_option linter.unnecessarySimpa false
set_option linter.deprecated false
namespace Xb
open Go

structure Seen where
  what : Int
  delta : Int
  deriving Inhabited, DecidableEq

def cells_Seen (x : Seen) : List A := [.int .i64 x.what, .int .i64 x.delta]
def enc_Seen (x : Seen) : A := .agg (cells_Seen x)

structure Arrive where
  base : Int
  time : Int
  count : Int
  seen : List Seen
  deriving Inhabited, DecidableEq

def cells_Arrive (x : Arrive) : List A := [.int .u16 x.base, .int .i64 x.time, .int .u8 x.count, .list 2 (List.map cells_Seen x.seen)]
def enc_Arrive (x : Arrive) : A := .agg (cells_Arrive x)

end Xb
