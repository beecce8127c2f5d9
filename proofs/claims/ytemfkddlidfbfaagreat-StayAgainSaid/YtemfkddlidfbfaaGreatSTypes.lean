/- Own text: STypes. -/
import Derived.Test.YtemfkddlidfbfaaGreatCore37
set_option linter.all false
set_option linter.unusedVariables false
set_option linter.unusedSimpArgs false
set_option linter.unnecessarySimpa false
set_option linter.deprecated false
namespace Xb
open Go

structure Head where
  hasPad : Bool
  hasExt : Bool
  marker : Bool
  type : Int
  seq : Int
  time : Int
  ssrc : Int
  csrc : List Int
  deriving Inhabited, DecidableEq

def cells_Head (x : Head) : List A := [.bool x.hasPad, .bool x.hasExt, .bool x.marker, .int .i64 x.type, .int .u16 x.seq, .int .u32 x.time, .int .u32 x.ssrc, .list 1 (List.map (ei .u32) x.csrc)]
def enc_Head (x : Head) : A := .agg (cells_Head x)

structure Packet where
  head : Head
  profile : Int
  ext : List Int
  payload : List Int
  pad : Int
  deriving Inhabited, DecidableEq

def cells_Packet (x : Packet) : List A := [.bool x.head.hasPad, .bool x.head.hasExt, .bool x.head.marker, .int .i64 x.head.type, .int .u16 x.head.seq, .int .u32 x.head.time, .int .u32 x.head.ssrc, .list 1 (List.map (ei .u32) x.head.csrc), .int .u16 x.profile, .list 1 (List.map e8 x.ext), .list 1 (List.map e8 x.payload), .int .i64 x.pad]
def enc_Packet (x : Packet) : A := .agg (cells_Packet x)

structure GMap where
  from_ : Int
  to : Int
  deriving Inhabited, DecidableEq

def cells_GMap (x : GMap) : List A := [.int .i64 x.from_, .int .i64 x.to]
def enc_GMap (x : GMap) : A := .agg (cells_GMap x)

structure Elem where
  id_ : Int
  data : List Int
  deriving Inhabited, DecidableEq

def cells_Elem (x : Elem) : List A := [.int .i64 x.id_, .list 1 (List.map e8 x.data)]
def enc_Elem (x : Elem) : A := .agg (cells_Elem x)

structure Plan where
  setMarker : Bool
  marker : Bool
  setType : Bool
  type : Int
  setSeq : Bool
  seq : Int
  setTime : Bool
  time : Int
  setSsrc : Bool
  ssrc : Int
  maps : List GMap
  over : List Elem
  drops : List Int
  adds : List Elem
  noPad : Bool
  deriving Inhabited, DecidableEq

def cells_Plan (x : Plan) : List A := [.bool x.setMarker, .bool x.marker, .bool x.setType, .int .i64 x.type, .bool x.setSeq, .int .u16 x.seq, .bool x.setTime, .int .u32 x.time, .bool x.setSsrc, .int .u32 x.ssrc, .list 2 (List.map cells_GMap x.maps), .list 2 (List.map cells_Elem x.over), .list 1 (List.map (ei .i64) x.drops), .list 2 (List.map cells_Elem x.adds), .bool x.noPad]
def enc_Plan (x : Plan) : A := .agg (cells_Plan x)

structure elem_low where
  deriving Inhabited, DecidableEq

def cells_elem_low (x : elem_low) : List A := []
def enc_elem_low (x : elem_low) : A := .agg (cells_elem_low x)

structure elem_high where
  deriving Inhabited, DecidableEq

def cells_elem_high (x : elem_high) : List A := []
def enc_elem_high (x : elem_high) : A := .agg (cells_elem_high x)

structure Spot where
  id_ : Int
  at_ : Int
  size : Int
  deriving Inhabited, DecidableEq

def cells_Spot (x : Spot) : List A := [.int .i64 x.id_, .int .i64 x.at_, .int .i64 x.size]
def enc_Spot (x : Spot) : A := .agg (cells_Spot x)

structure Place where
  field : Int
  at_ : Int
  size : Int
  deriving Inhabited, DecidableEq

def cells_Place (x : Place) : List A := [.int .i64 x.field, .int .i64 x.at_, .int .i64 x.size]
def enc_Place (x : Place) : A := .agg (cells_Place x)

structure place_row where
  l : List Place
  at_ : Int
  deriving Inhabited, DecidableEq

def cells_place_row (x : place_row) : List A := [.list 3 (List.map cells_Place x.l), .int .i64 x.at_]
def enc_place_row (x : place_row) : A := .agg (cells_place_row x)

structure stay_stroke where
  place : Place
  bytes : List Int
  deriving Inhabited, DecidableEq

def cells_stay_stroke (x : stay_stroke) : List A := [.int .i64 x.place.field, .int .i64 x.place.at_, .int .i64 x.place.size, .list 1 (List.map e8 x.bytes)]
def enc_stay_stroke (x : stay_stroke) : A := .agg (cells_stay_stroke x)

structure stay_sheet where
  b : List Int
  places : List Place
  strokes : List stay_stroke
  deriving Inhabited, DecidableEq

def cells_stay_sheet (x : stay_sheet) : List A := [.list 1 (List.map e8 x.b), .list 3 (List.map cells_Place x.places), .list 4 (List.map cells_stay_stroke x.strokes)]
def enc_stay_sheet (x : stay_sheet) : A := .agg (cells_stay_sheet x)

inductive I_elem_walker where
  | nil
  | c197 (x : elem_low)
  | c198 (x : elem_high)
  deriving Inhabited, DecidableEq
def enc_I_elem_walker : I_elem_walker → A
  | .nil => .raw .nilIface
  | .c197 x => .ifc 197 (enc_elem_low x)
  | .c198 x => .ifc 198 (enc_elem_high x)
def I_elem_walker.isnil : I_elem_walker → Bool
  | .nil => true
  | .c197 _ => false
  | .c198 _ => false
theorem nil_I_elem_walker (w : I_elem_walker) : nilA (enc_I_elem_walker w) = some w.isnil := by cases w <;> rfl

end Xb
