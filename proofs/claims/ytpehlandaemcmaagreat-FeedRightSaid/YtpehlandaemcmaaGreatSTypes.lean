/- Own text: STypes. -/
import Derived.Test.YtpehlandaemcmaaGreatCore33
set_option linter.all false
set_option linter.unusedVariables false
set_option linter.unusedSimpArgs false
set_option linter.unnecessarySimpa false
set_option linter.deprecated false
namespace Xb
open Go

structure Pair where
  pid : Int
  mask : Int
  deriving Inhabited, DecidableEq

def cells_Pair (x : Pair) : List A := [.int .u16 x.pid, .int .u16 x.mask]
def enc_Pair (x : Pair) : A := .agg (cells_Pair x)

structure Seen where
  what : Int
  delta : Int
  deriving Inhabited, DecidableEq

def cells_Seen (x : Seen) : List A := [.int .i64 x.what, .int .i64 x.delta]
def enc_Seen (x : Seen) : A := .agg (cells_Seen x)

structure Arrive where
  base : Int
  time : Int
  count : Int
  seen : List Seen
  deriving Inhabited, DecidableEq

def cells_Arrive (x : Arrive) : List A := [.int .u16 x.base, .int .i64 x.time, .int .u8 x.count, .list 2 (List.map cells_Seen x.seen)]
def enc_Arrive (x : Arrive) : A := .agg (cells_Arrive x)

structure Entry where
  ssrc : Int
  seq : Int
  deriving Inhabited, DecidableEq

def cells_Entry (x : Entry) : List A := [.int .u32 x.ssrc, .int .u8 x.seq]
def enc_Entry (x : Entry) : A := .agg (cells_Entry x)

structure Rate where
  exp : Int
  mant : Int
  srcs : List Int
  deriving Inhabited, DecidableEq

def cells_Rate (x : Rate) : List A := [.int .i64 x.exp, .int .u32 x.mant, .list 1 (List.map (ei .u32) x.srcs)]
def enc_Rate (x : Rate) : A := .agg (cells_Rate x)

structure Feed where
  kind : Int
  from_ : Int
  of : Int
  pairs : List Pair
  arrive : Arrive
  entries : List Entry
  rate : Rate
  deriving Inhabited, DecidableEq

def cells_Feed (x : Feed) : List A := [.int .i64 x.kind, .int .u32 x.from_, .int .u32 x.of, .list 2 (List.map cells_Pair x.pairs), .int .u16 x.arrive.base, .int .i64 x.arrive.time, .int .u8 x.arrive.count, .list 2 (List.map cells_Seen x.arrive.seen), .list 2 (List.map cells_Entry x.entries), .int .i64 x.rate.exp, .int .u32 x.rate.mant, .list 1 (List.map (ei .u32) x.rate.srcs)]
def enc_Feed (x : Feed) : A := .agg (cells_Feed x)

structure feed_arrivals where
  arrive : Arrive
  deriving Inhabited, DecidableEq

def cells_feed_arrivals (x : feed_arrivals) : List A := [.int .u16 x.arrive.base, .int .i64 x.arrive.time, .int .u8 x.arrive.count, .list 2 (List.map cells_Seen x.arrive.seen)]
def enc_feed_arrivals (x : feed_arrivals) : A := .agg (cells_feed_arrivals x)

structure feed_rate where
  rate : Rate
  deriving Inhabited, DecidableEq

def cells_feed_rate (x : feed_rate) : List A := [.int .i64 x.rate.exp, .int .u32 x.rate.mant, .list 1 (List.map (ei .u32) x.rate.srcs)]
def enc_feed_rate (x : feed_rate) : A := .agg (cells_feed_rate x)

structure feed_loss where
  deriving Inhabited, DecidableEq

def cells_feed_loss (x : feed_loss) : List A := []
def enc_feed_loss (x : feed_loss) : A := .agg (cells_feed_loss x)

inductive I_feed_message where
  | nil
  | c107 (x : List Pair)
  | c111 (x : feed_arrivals)
  | c114 (x : List Entry)
  | c118 (x : feed_rate)
  | c120 (x : feed_loss)
  deriving Inhabited, DecidableEq
def enc_I_feed_message : I_feed_message → A
  | .nil => .raw .nilIface
  | .c107 x => .ifc 107 (.list 2 (List.map cells_Pair x))
  | .c111 x => .ifc 111 (enc_feed_arrivals x)
  | .c114 x => .ifc 114 (.list 2 (List.map cells_Entry x))
  | .c118 x => .ifc 118 (enc_feed_rate x)
  | .c120 x => .ifc 120 (enc_feed_loss x)
def I_feed_message.isnil : I_feed_message → Bool
  | .nil => true
  | .c107 _ => false
  | .c111 _ => false
  | .c114 _ => false
  | .c118 _ => false
  | .c120 _ => false
theorem nil_I_feed_message (w : I_feed_message) : nilA (enc_I_feed_message w) = some w.isnil := by cases w <;> rfl
def I_feed_message.as107 : I_feed_message → List Pair × Bool
  | .c107 x => (x, true)
  | _ => ([], false)
theorem as107_I_feed_message (w : I_feed_message) : tasA 107 (.list 2 (List.map cells_Pair [])) (enc_I_feed_message w) = some (.list 2 (List.map cells_Pair ((w.as107).1)), (w.as107).2) := by cases w <;> rfl
def I_feed_message.as111 : I_feed_message → feed_arrivals × Bool
  | .c111 x => (x, true)
  | _ => ((feed_arrivals.mk (Arrive.mk 0 0 0 [])), false)
theorem as111_I_feed_message (w : I_feed_message) : tasA 111 (enc_feed_arrivals (feed_arrivals.mk (Arrive.mk 0 0 0 []))) (enc_I_feed_message w) = some (enc_feed_arrivals ((w.as111).1), (w.as111).2) := by cases w <;> rfl
def I_feed_message.as114 : I_feed_message → List Entry × Bool
  | .c114 x => (x, true)
  | _ => ([], false)
theorem as114_I_feed_message (w : I_feed_message) : tasA 114 (.list 2 (List.map cells_Entry [])) (enc_I_feed_message w) = some (.list 2 (List.map cells_Entry ((w.as114).1)), (w.as114).2) := by cases w <;> rfl
def I_feed_message.as118 : I_feed_message → feed_rate × Bool
  | .c118 x => (x, true)
  | _ => ((feed_rate.mk (Rate.mk 0 0 [])), false)
theorem as118_I_feed_message (w : I_feed_message) : tasA 118 (enc_feed_rate (feed_rate.mk (Rate.mk 0 0 []))) (enc_I_feed_message w) = some (enc_feed_rate ((w.as118).1), (w.as118).2) := by cases w <;> rfl

end Xb
