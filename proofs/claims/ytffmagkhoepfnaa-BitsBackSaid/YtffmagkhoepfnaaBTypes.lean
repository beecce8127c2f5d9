/- Own text: BTypes. -/
import Derived.Test.YtffmagkhoepfnaaCore15
set_option linter.all false
set_option linter.unusedVariables false
set_option linter.unusedSimpArgs false
set_option linter.unnecessarySimpa false
set_option linter.deprecated false
namespace Xb
open Go

structure Ink where
  bytes : List Int
  many : Int
  deriving Inhabited, DecidableEq

def cells_Ink (x : Ink) : List A := [.list 1 (List.map e8 x.bytes), .int .i64 x.many]
def enc_Ink (x : Ink) : A := .agg (cells_Ink x)

structure GBits where
  bytes : List Int
  at_ : Int
  err : Int
  deriving Inhabited, DecidableEq

def cells_GBits (x : GBits) : List A := [.list 1 (List.map e8 x.bytes), .int .i64 x.at_, .int .i64 x.err]
def enc_GBits (x : GBits) : A := .agg (cells_GBits x)

end Xb
