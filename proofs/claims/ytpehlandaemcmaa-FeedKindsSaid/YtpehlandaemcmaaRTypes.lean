/- Own text: RTypes. -/
import Derived.Test.YtpehlandaemcmaaCore32
set_option linter.all false
set_option linter.unusedVariables false
set_option linter.unusedSimpArgs false
set_option linter.unnecessarySimpa false
set_option linter.deprecated false
namespace Xb
open Go

structure Pair where
  pid : Int
  mask : Int
  deriving Inhabited, DecidableEq

def cells_Pair (x : Pair) : List A := [.int .u16 x.pid, .int .u16 x.mask]
def enc_Pair (x : Pair) : A := .agg (cells_Pair x)

structure Seen where
  what : Int
  delta : Int
  deriving Inhabited, DecidableEq

def cells_Seen (x : Seen) : List A := [.int .i64 x.what, .int .i64 x.delta]
def enc_Seen (x : Seen) : A := .agg (cells_Seen x)

structure Arrive where
  base : Int
  time : Int
  count : Int
  seen : List Seen
  deriving Inhabited, DecidableEq

def cells_Arrive (x : Arrive) : List A := [.int .u16 x.base, .int .i64 x.time, .int .u8 x.count, .list 2 (List.map cells_Seen x.seen)]
def enc_Arrive (x : Arrive) : A := .agg (cells_Arrive x)

structure Entry where
  ssrc : Int
  seq : Int
  deriving Inhabited, DecidableEq

def cells_Entry (x : Entry) : List A := [.int .u32 x.ssrc, .int .u8 x.seq]
def enc_Entry (x : Entry) : A := .agg (cells_Entry x)

structure Rate where
  exp : Int
  mant : Int
  srcs : List Int
  deriving Inhabited, DecidableEq

def cells_Rate (x : Rate) : List A := [.int .i64 x.exp, .int .u32 x.mant, .list 1 (List.map (ei .u32) x.srcs)]
def enc_Rate (x : Rate) : A := .agg (cells_Rate x)

structure Feed where
  kind : Int
  from_ : Int
  of : Int
  pairs : List Pair
  arrive : Arrive
  entries : List Entry
  rate : Rate
  deriving Inhabited, DecidableEq

def cells_Feed (x : Feed) : List A := [.int .i64 x.kind, .int .u32 x.from_, .int .u32 x.of, .list 2 (List.map cells_Pair x.pairs), .int .u16 x.arrive.base, .int .i64 x.arrive.time, .int .u8 x.arrive.count, .list 2 (List.map cells_Seen x.arrive.seen), .list 2 (List.map cells_Entry x.entries), .int .i64 x.rate.exp, .int .u32 x.rate.mant, .list 1 (List.map (ei .u32) x.rate.srcs)]
def enc_Feed (x : Feed) : A := .agg (cells_Feed x)

structure feed_arrivals where
  arrive : Arrive
  deriving Inhabited, DecidableEq

def cells_feed_arrivals (x : feed_arrivals) : List A := [.int .u16 x.arrive.base, .int .i64 x.arrive.time, .int .u8 x.arrive.count, .list 2 (List.map cells_Seen x.arrive.seen)]
def enc_feed_arrivals (x : feed_arrivals) : A := .agg (cells_feed_arrivals x)

structure feed_rate where
  rate : Rate
  deriving Inhabited, DecidableEq

def cells_feed_rate (x : feed_rate) : List A := [.int .i64 x.rate.exp, .int .u32 x.rate.mant, .list 1 (List.map (ei .u32) x.rate.srcs)]
def enc_feed_rate (x : feed_rate) : A := .agg (cells_feed_rate x)

structure feed_loss where
  deriving Inhabited, DecidableEq

def cells_feed_loss (x : feed_loss) : List A := []
def enc_feed_loss (x : feed_loss) : A := .agg (cells_feed_loss x)

inductive I_feed_message where
  | nil
  | c68 (x : List Pair)
  | c72 (x : feed_arrivals)
  | c75 (x : List Entry)
  | c79 (x : feed_rate)
  | c81 (x : feed_loss)
  deriving Inhabited, DecidableEq
def enc_I_feed_message : I_feed_message → A
  | .nil => .raw .nilIface
  | .c68 x => .ifc 68 (.list 2 (List.map cells_Pair x))
  | .c72 x => .ifc 72 (enc_feed_arrivals x)
  | .c75 x => .ifc 75 (.list 2 (List.map cells_Entry x))
  | .c79 x => .ifc 79 (enc_feed_rate x)
  | .c81 x => .ifc 81 (enc_feed_loss x)
def I_feed_message.isnil : I_feed_message → Bool
  | .nil => true
  | .c68 _ => false
  | .c72 _ => false
  | .c75 _ => false
  | .c79 _ => false
  | .c81 _ => false
theorem nil_I_feed_message (w : I_feed_message) : nilA (enc_I_feed_message w) = some w.isnil := by cases w <;> rfl
def I_feed_message.as68 : I_feed_message → List Pair × Bool
  | .c68 x => (x, true)
  | _ => ([], false)
theorem as68_I_feed_message (w : I_feed_message) : tasA 68 (.list 2 (List.map cells_Pair [])) (enc_I_feed_message w) = some (.list 2 (List.map cells_Pair ((w.as68).1)), (w.as68).2) := by cases w <;> rfl
def I_feed_message.as72 : I_feed_message → feed_arrivals × Bool
  | .c72 x => (x, true)
  | _ => ((feed_arrivals.mk (Arrive.mk 0 0 0 [])), false)
theorem as72_I_feed_message (w : I_feed_message) : tasA 72 (enc_feed_arrivals (feed_arrivals.mk (Arrive.mk 0 0 0 []))) (enc_I_feed_message w) = some (enc_feed_arrivals ((w.as72).1), (w.as72).2) := by cases w <;> rfl
def I_feed_message.as75 : I_feed_message → List Entry × Bool
  | .c75 x => (x, true)
  | _ => ([], false)
theorem as75_I_feed_message (w : I_feed_message) : tasA 75 (.list 2 (List.map cells_Entry [])) (enc_I_feed_message w) = some (.list 2 (List.map cells_Entry ((w.as75).1)), (w.as75).2) := by cases w <;> rfl
def I_feed_message.as79 : I_feed_message → feed_rate × Bool
  | .c79 x => (x, true)
  | _ => ((feed_rate.mk (Rate.mk 0 0 [])), false)
theorem as79_I_feed_message (w : I_feed_message) : tasA 79 (enc_feed_rate (feed_rate.mk (Rate.mk 0 0 []))) (enc_I_feed_message w) = some (enc_feed_rate ((w.as79).1), (w.as79).2) := by cases w <;> rfl

end Xb
