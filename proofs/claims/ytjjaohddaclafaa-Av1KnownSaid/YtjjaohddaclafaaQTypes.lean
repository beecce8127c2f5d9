/- Own text: QTypes. -/
import Derived.Test.YtjjaohddaclafaaCore36
set_option linter.all false
set_option linter.unusedVariables false
set_option linter.unusedSimpArgs false
set_option linter.unnecessarySimpa false
set_option linter.deprecated false
namespace Xb
open Go

structure Template where
  sid : Int
  tid : Int
  marks : List Int
  diffs : List Int
  chains : List Int
  deriving Inhabited, DecidableEq

def cells_Template (x : Template) : List A := [.int .i64 x.sid, .int .i64 x.tid, .list 1 (List.map (ei .i64) x.marks), .list 1 (List.map (ei .i64) x.diffs), .list 1 (List.map (ei .i64) x.chains)]
def enc_Template (x : Template) : A := .agg (cells_Template x)

structure Size where
  wide : Int
  high : Int
  deriving Inhabited, DecidableEq

def cells_Size (x : Size) : List A := [.int .i64 x.wide, .int .i64 x.high]
def enc_Size (x : Size) : A := .agg (cells_Size x)

structure Structure where
  id_ : Int
  targets : Int
  chains : Int
  protect : List Int
  templates : List Template
  sizes : List Size
  deriving Inhabited, DecidableEq

def cells_Structure (x : Structure) : List A := [.int .i64 x.id_, .int .i64 x.targets, .int .i64 x.chains, .list 1 (List.map (ei .i64) x.protect), .list 5 (List.map cells_Template x.templates), .list 2 (List.map cells_Size x.sizes)]
def enc_Structure (x : Structure) : A := .agg (cells_Structure x)

structure Frame where
  start : Bool
  end_ : Bool
  template : Int
  number : Int
  hasStructure : Bool
  structure_ : Structure
  hasActive : Bool
  active : Int
  ownMarks : Bool
  marks : List Int
  ownDiffs : Bool
  diffs : List Int
  ownChains : Bool
  chains : List Int
  deriving Inhabited, DecidableEq

def cells_Frame (x : Frame) : List A := [.bool x.start, .bool x.end_, .int .i64 x.template, .int .i64 x.number, .bool x.hasStructure, .int .i64 x.structure_.id_, .int .i64 x.structure_.targets, .int .i64 x.structure_.chains, .list 1 (List.map (ei .i64) x.structure_.protect), .list 5 (List.map cells_Template x.structure_.templates), .list 2 (List.map cells_Size x.structure_.sizes), .bool x.hasActive, .int .u32 x.active, .bool x.ownMarks, .list 1 (List.map (ei .i64) x.marks), .bool x.ownDiffs, .list 1 (List.map (ei .i64) x.diffs), .bool x.ownChains, .list 1 (List.map (ei .i64) x.chains)]
def enc_Frame (x : Frame) : A := .agg (cells_Frame x)

structure Ink where
  bytes : List Int
  many : Int
  deriving Inhabited, DecidableEq

def cells_Ink (x : Ink) : List A := [.list 1 (List.map e8 x.bytes), .int .i64 x.many]
def enc_Ink (x : Ink) : A := .agg (cells_Ink x)

structure templ_pen where
  k : Ink
  deriving Inhabited, DecidableEq

def cells_templ_pen (x : templ_pen) : List A := [.list 1 (List.map e8 x.k.bytes), .int .i64 x.k.many]
def enc_templ_pen (x : templ_pen) : A := .agg (cells_templ_pen x)

structure av1_pen where
  k : Ink
  deriving Inhabited, DecidableEq

def cells_av1_pen (x : av1_pen) : List A := [.list 1 (List.map e8 x.k.bytes), .int .i64 x.k.many]
def enc_av1_pen (x : av1_pen) : A := .agg (cells_av1_pen x)

structure GBits where
  bytes : List Int
  at_ : Int
  err : Int
  deriving Inhabited, DecidableEq

def cells_GBits (x : GBits) : List A := [.list 1 (List.map e8 x.bytes), .int .i64 x.at_, .int .i64 x.err]
def enc_GBits (x : GBits) : A := .agg (cells_GBits x)

structure templ_eye where
  c : GBits
  deriving Inhabited, DecidableEq

def cells_templ_eye (x : templ_eye) : List A := [.list 1 (List.map e8 x.c.bytes), .int .i64 x.c.at_, .int .i64 x.c.err]
def enc_templ_eye (x : templ_eye) : A := .agg (cells_templ_eye x)

structure av1_eye where
  c : GBits
  deriving Inhabited, DecidableEq

def cells_av1_eye (x : av1_eye) : List A := [.list 1 (List.map e8 x.c.bytes), .int .i64 x.c.at_, .int .i64 x.c.err]
def enc_av1_eye (x : av1_eye) : A := .agg (cells_av1_eye x)

end Xb
