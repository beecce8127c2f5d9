/- Own text: LTypes. -/
import Derived.Test.YtiomfajkappjhaaCore33
set_option linter.all false
set_option linter.unusedVariables false
set_option linter.unusedSimpArgs false
set_option linter.unnecessarySimpa false
set_option linter.deprecated false
namespace Xb
open Go

structure Head where
  hasPad : Bool
  hasExt : Bool
  marker : Bool
  type : Int
  seq : Int
  time : Int
  ssrc : Int
  csrc : List Int
  deriving Inhabited, DecidableEq

def cells_Head (x : Head) : List A := [.bool x.hasPad, .bool x.hasExt, .bool x.marker, .int .i64 x.type, .int .u16 x.seq, .int .u32 x.time, .int .u32 x.ssrc, .list 1 (List.map (ei .u32) x.csrc)]
def enc_Head (x : Head) : A := .agg (cells_Head x)

structure Packet where
  head : Head
  profile : Int
  ext : List Int
  payload : List Int
  pad : Int
  deriving Inhabited, DecidableEq

def cells_Packet (x : Packet) : List A := [.bool x.head.hasPad, .bool x.head.hasExt, .bool x.head.marker, .int .i64 x.head.type, .int .u16 x.head.seq, .int .u32 x.head.time, .int .u32 x.head.ssrc, .list 1 (List.map (ei .u32) x.head.csrc), .int .u16 x.profile, .list 1 (List.map e8 x.ext), .list 1 (List.map e8 x.payload), .int .i64 x.pad]
def enc_Packet (x : Packet) : A := .agg (cells_Packet x)

structure GMap where
  from_ : Int
  to : Int
  deriving Inhabited, DecidableEq

def cells_GMap (x : GMap) : List A := [.int .i64 x.from_, .int .i64 x.to]
def enc_GMap (x : GMap) : A := .agg (cells_GMap x)

structure Elem where
  id_ : Int
  data : List Int
  deriving Inhabited, DecidableEq

def cells_Elem (x : Elem) : List A := [.int .i64 x.id_, .list 1 (List.map e8 x.data)]
def enc_Elem (x : Elem) : A := .agg (cells_Elem x)

structure Plan where
  setMarker : Bool
  marker : Bool
  setType : Bool
  type : Int
  setSeq : Bool
  seq : Int
  setTime : Bool
  time : Int
  setSsrc : Bool
  ssrc : Int
  maps : List GMap
  over : List Elem
  drops : List Int
  adds : List Elem
  noPad : Bool
  deriving Inhabited, DecidableEq

def cells_Plan (x : Plan) : List A := [.bool x.setMarker, .bool x.marker, .bool x.setType, .int .i64 x.type, .bool x.setSeq, .int .u16 x.seq, .bool x.setTime, .int .u32 x.time, .bool x.setSsrc, .int .u32 x.ssrc, .list 2 (List.map cells_GMap x.maps), .list 2 (List.map cells_Elem x.over), .list 1 (List.map (ei .i64) x.drops), .list 2 (List.map cells_Elem x.adds), .bool x.noPad]
def enc_Plan (x : Plan) : A := .agg (cells_Plan x)

structure elem_low where
  deriving Inhabited, DecidableEq

def cells_elem_low (x : elem_low) : List A := []
def enc_elem_low (x : elem_low) : A := .agg (cells_elem_low x)

structure elem_high where
  deriving Inhabited, DecidableEq

def cells_elem_high (x : elem_high) : List A := []
def enc_elem_high (x : elem_high) : A := .agg (cells_elem_high x)

structure Spot where
  id_ : Int
  at_ : Int
  size : Int
  deriving Inhabited, DecidableEq

def cells_Spot (x : Spot) : List A := [.int .i64 x.id_, .int .i64 x.at_, .int .i64 x.size]
def enc_Spot (x : Spot) : A := .agg (cells_Spot x)

inductive I_elem_walker where
  | nil
  | c102 (x : elem_low)
  | c103 (x : elem_high)
  deriving Inhabited, DecidableEq
def enc_I_elem_walker : I_elem_walker → A
  | .nil => .raw .nilIface
  | .c102 x => .ifc 102 (enc_elem_low x)
  | .c103 x => .ifc 103 (enc_elem_high x)
def I_elem_walker.isnil : I_elem_walker → Bool
  | .nil => true
  | .c102 _ => false
  | .c103 _ => false
theorem nil_I_elem_walker (w : I_elem_walker) : nilA (enc_I_elem_walker w) = some w.isnil := by cases w <;> rfl

end Xb
