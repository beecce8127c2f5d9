/- Own text: HTypes. -/
import Derived.Test.YtbbjigdfgildeaaCore27
set_option linter.all false
set_option linter.unusedVariables false
set_option linter.unusedSimpArgs false
set_option linter.unnecessarySimpa false
set_option linter.deprecated false
namespace Xb
open Go

structure Head where
  hasPad : Bool
  hasExt : Bool
  marker : Bool
  type : Int
  seq : Int
  time : Int
  ssrc : Int
  csrc : List Int
  deriving Inhabited, DecidableEq

def cells_Head (x : Head) : List A := [.bool x.hasPad, .bool x.hasExt, .bool x.marker, .int .i64 x.type, .int .u16 x.seq, .int .u32 x.time, .int .u32 x.ssrc, .list 1 (List.map (ei .u32) x.csrc)]
def enc_Head (x : Head) : A := .agg (cells_Head x)

structure Packet where
  head : Head
  profile : Int
  ext : List Int
  payload : List Int
  pad : Int
  deriving Inhabited, DecidableEq

def cells_Packet (x : Packet) : List A := [.bool x.head.hasPad, .bool x.head.hasExt, .bool x.head.marker, .int .i64 x.head.type, .int .u16 x.head.seq, .int .u32 x.head.time, .int .u32 x.head.ssrc, .list 1 (List.map (ei .u32) x.head.csrc), .int .u16 x.profile, .list 1 (List.map e8 x.ext), .list 1 (List.map e8 x.payload), .int .i64 x.pad]
def enc_Packet (x : Packet) : A := .agg (cells_Packet x)

end Xb
