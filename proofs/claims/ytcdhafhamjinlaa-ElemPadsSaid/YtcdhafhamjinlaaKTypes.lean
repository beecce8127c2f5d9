/- Own text: KTypes. -/
import Derived.Test.YtcdhafhamjinlaaCore29
set_option linter.all false
set_option linter.unusedVariables false
set_option linter.unusedSimpArgs false
set_option linter.unnecessarySimpa false
set_option linter.deprecated false
namespace Xb
open Go

structure Elem where
  id_ : Int
  data : List Int
  deriving Inhabited, DecidableEq

def cells_Elem (x : Elem) : List A := [.int .i64 x.id_, .list 1 (List.map e8 x.data)]
def enc_Elem (x : Elem) : A := .agg (cells_Elem x)

structure elem_low where
  deriving Inhabited, DecidableEq

def cells_elem_low (x : elem_low) : List A := []
def enc_elem_low (x : elem_low) : A := .agg (cells_elem_low x)

structure elem_high where
  deriving Inhabited, DecidableEq

def cells_elem_high (x : elem_high) : List A := []
def enc_elem_high (x : elem_high) : A := .agg (cells_elem_high x)

structure Spot where
  id_ : Int
  at_ : Int
  size : Int
  deriving Inhabited, DecidableEq

def cells_Spot (x : Spot) : List A := [.int .i64 x.id_, .int .i64 x.at_, .int .i64 x.size]
def enc_Spot (x : Spot) : A := .agg (cells_Spot x)

inductive I_elem_walker where
  | nil
  | c61 (x : elem_low)
  | c66 (x : elem_high)
  deriving Inhabited, DecidableEq
def enc_I_elem_walker : I_elem_walker → A
  | .nil => .raw .nilIface
  | .c61 x => .ifc 61 (enc_elem_low x)
  | .c66 x => .ifc 66 (enc_elem_high x)
def I_elem_walker.isnil : I_elem_walker → Bool
  | .nil => true
  | .c61 _ => false
  | .c66 _ => false
theorem nil_I_elem_walker (w : I_elem_walker) : nilA (enc_I_elem_walker w) = some w.isnil := by cases w <;> rfl
def I_elem_walker.as61 : I_elem_walker → elem_low × Bool
  | .c61 x => (x, true)
  | _ => ((elem_low.mk ), false)
theorem as61_I_elem_walker (w : I_elem_walker) : tasA 61 (enc_elem_low (elem_low.mk )) (enc_I_elem_walker w) = some (enc_elem_low ((w.as61).1), (w.as61).2) := by cases w <;> rfl

end Xb
