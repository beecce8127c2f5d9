/- Own text: VTypes. -/
import Derived.Test.YtecbnklmjehofaaCore36
set_option linter.all false
set_option linter.unusedVariables false
set_option linter.unusedSimpArgs false
set_option linter.unnecessarySimpa false
set_option linter.deprecated false
namespace Xb
open Go

structure Size where
  wide : Int
  high : Int
  deriving Inhabited, DecidableEq

def cells_Size (x : Size) : List A := [.int .i64 x.wide, .int .i64 x.high]
def enc_Size (x : Size) : A := .agg (cells_Size x)

structure Group where
  tid : Int
  up : Bool
  refs : List Int
  deriving Inhabited, DecidableEq

def cells_Group (x : Group) : List A := [.int .i64 x.tid, .bool x.up, .list 1 (List.map (ei .i64) x.refs)]
def enc_Group (x : Group) : A := .agg (cells_Group x)

structure Scale where
  layers : Int
  hasSizes : Bool
  sizes : List Size
  hasPics : Bool
  pics : List Group
  deriving Inhabited, DecidableEq

def cells_Scale (x : Scale) : List A := [.int .i64 x.layers, .bool x.hasSizes, .list 2 (List.map cells_Size x.sizes), .bool x.hasPics, .list 3 (List.map cells_Group x.pics)]
def enc_Scale (x : Scale) : A := .agg (cells_Scale x)

structure Vp9 where
  hasPic : Bool
  wide : Bool
  pic : Int
  inter : Bool
  hasLayer : Bool
  tid : Int
  sid : Int
  up : Bool
  depends : Bool
  flexible : Bool
  level : Int
  refs : List Int
  begin : Bool
  end_ : Bool
  hasScale : Bool
  scale : Scale
  notRef : Bool
  deriving Inhabited, DecidableEq

def cells_Vp9 (x : Vp9) : List A := [.bool x.hasPic, .bool x.wide, .int .i64 x.pic, .bool x.inter, .bool x.hasLayer, .int .i64 x.tid, .int .i64 x.sid, .bool x.up, .bool x.depends, .bool x.flexible, .int .i64 x.level, .list 1 (List.map (ei .i64) x.refs), .bool x.begin, .bool x.end_, .bool x.hasScale, .int .i64 x.scale.layers, .bool x.scale.hasSizes, .list 2 (List.map cells_Size x.scale.sizes), .bool x.scale.hasPics, .list 3 (List.map cells_Group x.scale.pics), .bool x.notRef]
def enc_Vp9 (x : Vp9) : A := .agg (cells_Vp9 x)

structure Ink where
  bytes : List Int
  many : Int
  deriving Inhabited, DecidableEq

def cells_Ink (x : Ink) : List A := [.list 1 (List.map e8 x.bytes), .int .i64 x.many]
def enc_Ink (x : Ink) : A := .agg (cells_Ink x)

structure GBits where
  bytes : List Int
  at_ : Int
  err : Int
  deriving Inhabited, DecidableEq

def cells_GBits (x : GBits) : List A := [.list 1 (List.map e8 x.bytes), .int .i64 x.at_, .int .i64 x.err]
def enc_GBits (x : GBits) : A := .agg (cells_GBits x)

structure vp9_writer where
  k : Ink
  deriving Inhabited, DecidableEq

def cells_vp9_writer (x : vp9_writer) : List A := [.list 1 (List.map e8 x.k.bytes), .int .i64 x.k.many]
def enc_vp9_writer (x : vp9_writer) : A := .agg (cells_vp9_writer x)

structure vp9_reader where
  c : GBits
  deriving Inhabited, DecidableEq

def cells_vp9_reader (x : vp9_reader) : List A := [.list 1 (List.map e8 x.c.bytes), .int .i64 x.c.at_, .int .i64 x.c.err]
def enc_vp9_reader (x : vp9_reader) : A := .agg (cells_vp9_reader x)

structure crossbarref24_Eye where
  b : List Int
  at_ : Int
  e : Int
  deriving Inhabited, DecidableEq

def cells_crossbarref24_Eye (x : crossbarref24_Eye) : List A := [.list 1 (List.map e8 x.b), .int .i64 x.at_, .int .i64 x.e]
def enc_crossbarref24_Eye (x : crossbarref24_Eye) : A := .agg (cells_crossbarref24_Eye x)

end Xb
