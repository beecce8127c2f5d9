/- Own text: KModels. -/
import Derived.Test.YtcdhafhamjinlaaKTypes
set_option linter.all false
set_option linter.unusedVariables false
set_option linter.unusedSimpArgs false
set_option linter.unnecessarySimpa false
set_option linter.deprecated false
namespace Xb
open Go
set_option linter.unusedVariables false

noncomputable def elem_Right_s1 (z : Option Nat) (l : List Elem) (v1 : List (Int × Bool)) (v2 : Int) : Option ((((List (Int × Bool)) × Int) ⊕ (Bool))) :=
  if (cm .lss v2 (l.length : Int)) then
  Option.bind (ix l v2) fun x3 =>
    if ((((cm .lss x3.id_ 1) || (cm .gtr x3.id_ 255)) || (cm .gtr (x3.data.length : Int) 255)) || (mgetD v1 x3.id_ false)) then
    Option.map Sum.inr (some false)
  else
    Option.bind (mputO v1 x3.id_ true) fun x4 =>
      some (Sum.inl (x4, (ar .add .i64 v2 1)))
else
  Option.map Sum.inr (some true)

noncomputable def elem_Right_l1 (z : Option Nat) (l : List Elem) (v1 : List (Int × Bool)) (v2 : Int) : Option (Bool) :=
  loopG z (fun (s : (List (Int × Bool)) × Int) => elem_Right_s1 z l s.1 s.2) (v1, v2)

noncomputable def elem_Right (z : Option Nat) (l : List Elem) : Option (Bool) :=
  elem_Right_l1 z l ([] : List (Int × Bool)) 0

def elem_narrow_1 (x : Elem) : Bool :=
  (((cm .gtr x.id_ 14) || (cm .lss (x.data.length : Int) 1)) || (cm .gtr (x.data.length : Int) 16))

noncomputable def slices_IndexFunc_Elem_s1 (z : Option Nat) (p_s : List Elem) (f : (Elem → Option Bool)) (v1 : Int) : Option (((Int) ⊕ (Int))) :=
  if (cm .lss v1 (p_s.length : Int)) then
  Option.bind (ix p_s v1) fun x2 =>
    Option.bind (f x2) fun x3 =>
    if x3 then
    Option.map Sum.inr (some v1)
  else
    some (Sum.inl (ar .add .i64 v1 1))
else
  Option.map Sum.inr (some (-1))

noncomputable def slices_IndexFunc_Elem_l1 (z : Option Nat) (p_s : List Elem) (f : (Elem → Option Bool)) (v1 : Int) : Option (Int) :=
  loopG z (fun (s : Int) => slices_IndexFunc_Elem_s1 z p_s f s) (v1)

noncomputable def slices_IndexFunc_Elem (z : Option Nat) (p_s : List Elem) (f : (Elem → Option Bool)) : Option (Int) :=
  slices_IndexFunc_Elem_l1 z p_s f 0

noncomputable def slices_ContainsFunc_Elem (z : Option Nat) (p_s : List Elem) (f : (Elem → Option Bool)) : Option (Bool) :=
  Option.bind (slices_IndexFunc_Elem z p_s f) fun x1 =>
  some (cm .geq x1 0)

noncomputable def elem_narrow (z : Option Nat) (l : List Elem) : Option (Bool) :=
  Option.bind (slices_ContainsFunc_Elem z l (fun (y0 : Elem) => some (elem_narrow_1 y0))) fun x1 =>
  some (!x1)

noncomputable def elem_Profile (z : Option Nat) (l : List Elem) : Option (Int) :=
  Option.bind (elem_Right z l) fun x1 =>
  if (!x1) then
  some 0
else
  Option.bind (elem_narrow z l) fun x2 =>
    if x2 then
    some 48862
  else
    some 4096

def pad_zeros (n : Int) : Option (List Int) :=
  Option.bind (mkL (0 : Int) n n) fun x1 =>
  some x1

noncomputable def slices_Concat_j2 (z : Option Nat) (v1 : Int) (v2 : Int) (x3 : List Int) : Option (((Int × Int) ⊕ (List Int))) :=
  some (Sum.inl ((ar .add .i64 v1 (x3.length : Int)), (ar .add .i64 v2 1)))

noncomputable def slices_Concat_s3 (z : Option Nat) (slices : List (List Int)) (v5 : List Int) (v6 : Int) : Option (((List Int × Int) ⊕ (List Int))) :=
  if (cm .lss v6 (slices.length : Int)) then
  Option.bind (ix slices v6) fun x7 =>
    Option.bind (app v5 x7) fun x8 =>
    some (Sum.inl (x8, (ar .add .i64 v6 1)))
else
  Option.map Sum.inr (some v5)

noncomputable def slices_Concat_l3 (z : Option Nat) (slices : List (List Int)) (v5 : List Int) (v6 : Int) : Option (List Int) :=
  loopG z (fun (s : List Int × Int) => slices_Concat_s3 z slices s.1 s.2) (v5, v6)

noncomputable def slices_Concat_s1 (z : Option Nat) (slices : List (List Int)) (v1 : Int) (v2 : Int) : Option (((Int × Int) ⊕ (List Int))) :=
  if (cm .lss v2 (slices.length : Int)) then
  Option.bind (ix slices v2) fun x3 =>
    if (cm .lss (ar .add .i64 v1 (x3.length : Int)) 0) then
    none
  else
    slices_Concat_j2 z v1 v2 x3
else
  Option.map Sum.inr (Option.bind (growL v1) fun x4 =>
    slices_Concat_l3 z slices ([] : List Int) 0)

noncomputable def slices_Concat_l1 (z : Option Nat) (slices : List (List Int)) (v1 : Int) (v2 : Int) : Option (List Int) :=
  loopG z (fun (s : Int × Int) => slices_Concat_s1 z slices s.1 s.2) (v1, v2)

noncomputable def slices_Concat (z : Option Nat) (slices : List (List Int)) : Option (List Int) :=
  slices_Concat_l1 z slices 0 0

noncomputable def pad_Fill (z : Option Nat) (b : List Int) : Option (List Int) :=
  Option.bind (pad_zeros (dv .rem .i64 (ar .sub .i64 4 (dv .rem .i64 (b.length : Int) 4)) 4)) fun x1 =>
  Option.bind (slices_Concat z [b, x1]) fun x2 =>
  some x2

noncomputable def elem_Write_j2 (z : Option Nat) (v3 : Int) (x4 : Elem) (v5 : List Int) : Option (((List Int × Int) ⊕ (Int × List Int × Int))) :=
  Option.bind (app v5 x4.data) fun x6 =>
  some (Sum.inl (x6, (ar .add .i64 v3 1)))

noncomputable def elem_Write_s1 (z : Option Nat) (l : List Elem) (x1 : Int) (v2 : List Int) (v3 : Int) : Option (((List Int × Int) ⊕ (Int × List Int × Int))) :=
  if (cm .lss v3 (l.length : Int)) then
  Option.bind (ix l v3) fun x4 =>
    if (cm .eql x1 48862) then
    Option.bind (app v2 [(IntKind.u8.wrap (ar .or .i64 (sf .shl .i64 x4.id_ 4) (ar .sub .i64 (x4.data.length : Int) 1)))]) fun x7 =>
      elem_Write_j2 z v3 x4 x7
  else
    Option.bind (app v2 [(IntKind.u8.wrap x4.id_), (IntKind.u8.wrap (x4.data.length : Int))]) fun x8 =>
      elem_Write_j2 z v3 x4 x8
else
  Option.map Sum.inr (Option.bind (pad_Fill z v2) fun x9 =>
    some (x1, x9, 0))

noncomputable def elem_Write_l1 (z : Option Nat) (l : List Elem) (x1 : Int) (v2 : List Int) (v3 : Int) : Option (Int × List Int × Int) :=
  loopG z (fun (s : List Int × Int) => elem_Write_s1 z l x1 s.1 s.2) (v2, v3)

noncomputable def elem_Write (z : Option Nat) (l : List Elem) : Option (Int × List Int × Int) :=
  Option.bind (elem_Profile z l) fun x1 =>
  if (cm .eql x1 0) then
  some (0, [], 1)
else
  elem_Write_l1 z l x1 [] 0

def elem_walk (profile : Int) : I_elem_walker :=
  if (cm .eql profile 48862) then
  (I_elem_walker.c61 (elem_low.mk ))
else
  if (cm .eql (ar .andNot .u16 profile 15) 4096) then
    (I_elem_walker.c66 (elem_high.mk ))
  else
    I_elem_walker.nil

def elem_low_next (p0 : elem_low) (b : List Int) (at_ : Int) : Option (Spot × Bool) :=
  Option.bind (ix b at_) fun x1 =>
  Option.bind (ix b at_) fun x2 =>
  some ((Spot.mk (IntKind.i64.wrap (sf .shr .u8 x1 4)) (ar .add .i64 at_ 1) (ar .add .i64 (IntKind.i64.wrap (ar .and .u8 x2 15)) 1)), ((cm .neq (IntKind.i64.wrap (sf .shr .u8 x1 4)) 0) && (cm .neq (IntKind.i64.wrap (sf .shr .u8 x1 4)) 15)))

def elem_high_next_j1 (v2 : Spot) : Option (Spot × Bool) :=
  some (v2, true)

def elem_high_next (p0 : elem_high) (b : List Int) (at_ : Int) : Option (Spot × Bool) :=
  Option.bind (ix b at_) fun x1 =>
  if (cm .lss (ar .add .i64 at_ 1) (b.length : Int)) then
  Option.bind (ix b (ar .add .i64 at_ 1)) fun x3 =>
    elem_high_next_j1 (Spot.mk (IntKind.i64.wrap x1) (ar .add .i64 at_ 2) (IntKind.i64.wrap x3))
else
  elem_high_next_j1 (Spot.mk (IntKind.i64.wrap x1) (ar .add .i64 at_ 2) 256)

def elem_Spots_1 (x : Spot) (cap0 : Spot) : Bool :=
  (cm .eql x.id_ cap0.id_)

noncomputable def slices_IndexFunc_Spot_s1 (z : Option Nat) (p_s : List Spot) (f : (Spot → Option Bool)) (v1 : Int) : Option (((Int) ⊕ (Int))) :=
  if (cm .lss v1 (p_s.length : Int)) then
  Option.bind (ix p_s v1) fun x2 =>
    Option.bind (f x2) fun x3 =>
    if x3 then
    Option.map Sum.inr (some v1)
  else
    some (Sum.inl (ar .add .i64 v1 1))
else
  Option.map Sum.inr (some (-1))

noncomputable def slices_IndexFunc_Spot_l1 (z : Option Nat) (p_s : List Spot) (f : (Spot → Option Bool)) (v1 : Int) : Option (Int) :=
  loopG z (fun (s : Int) => slices_IndexFunc_Spot_s1 z p_s f s) (v1)

noncomputable def slices_IndexFunc_Spot (z : Option Nat) (p_s : List Spot) (f : (Spot → Option Bool)) : Option (Int) :=
  slices_IndexFunc_Spot_l1 z p_s f 0

noncomputable def slices_ContainsFunc_Spot (z : Option Nat) (p_s : List Spot) (f : (Spot → Option Bool)) : Option (Bool) :=
  Option.bind (slices_IndexFunc_Spot z p_s f) fun x1 =>
  some (cm .geq x1 0)

def I_elem_walker_next (w : I_elem_walker) (a0 : List Int) (a1 : Int) : Option (Spot × Bool) :=
  match w with
  | .nil => none
  | .c61 x => elem_low_next x a0 a1
  | .c66 x => elem_high_next x a0 a1

noncomputable def elem_Spots_j1 (z : Option Nat) (v1 : List Spot) : Option (List Spot × Int) :=
  some (v1, 0)

noncomputable def elem_Spots_s2 (z : Option Nat) (profile : Int) (data : List Int) (v2 : List Spot) (v3 : Int) : Option (((List Spot × Int) ⊕ (List Spot × Int))) :=
  if (cm .lss v3 (data.length : Int)) then
  Option.bind (ix data v3) fun x4 =>
    if (cm .eql x4 0) then
    some (Sum.inl (v2, (ar .add .i64 v3 1)))
  else
    Option.bind (I_elem_walker_next (elem_walk profile) data v3) fun x5 =>
      if (!x5.2) then
      Option.map Sum.inr (elem_Spots_j1 z v2)
    else
      if ((cm .gtr x5.1.at_ (data.length : Int)) || (cm .gtr x5.1.size (ar .sub .i64 (data.length : Int) x5.1.at_))) then
        Option.map Sum.inr (some ([], 4))
      else
        Option.bind (slices_ContainsFunc_Spot z v2 (fun (y0 : Spot) => some (elem_Spots_1 y0 x5.1))) fun x6 =>
          if x6 then
          Option.map Sum.inr (some ([], 6))
        else
          Option.bind (app v2 [x5.1]) fun x7 =>
            some (Sum.inl (x7, (ar .add .i64 x5.1.at_ x5.1.size)))
else
  Option.map Sum.inr (elem_Spots_j1 z v2)

noncomputable def elem_Spots_l2 (z : Option Nat) (profile : Int) (data : List Int) (v2 : List Spot) (v3 : Int) : Option (List Spot × Int) :=
  loopG z (fun (s : List Spot × Int) => elem_Spots_s2 z profile data s.1 s.2) (v2, v3)

noncomputable def elem_Spots (z : Option Nat) (profile : Int) (data : List Int) : Option (List Spot × Int) :=
  if (I_elem_walker.isnil (elem_walk profile)) then
  some ([], 6)
else
  elem_Spots_l2 z profile data [] 0

def slices_Clone (l : List Int) : Option (List Int) := app [] l

noncomputable def elem_Read_s1 (z : Option Nat) (data : List Int) (x1 : List Spot × Int) (v2 : List Elem) (v3 : Int) : Option (((List Elem × Int) ⊕ (List Elem × Int))) :=
  if (cm .lss v3 (x1.1.length : Int)) then
  Option.bind (ix x1.1 v3) fun x4 =>
    Option.bind (sub data x4.at_ (ar .add .i64 x4.at_ x4.size)) fun x5 =>
    Option.bind (slices_Clone x5) fun x6 =>
    Option.bind (app v2 [{ x4 with data := x6 }]) fun x7 =>
    some (Sum.inl (x7, (ar .add .i64 v3 1)))
else
  Option.map Sum.inr (some (v2, 0))

noncomputable def elem_Read_l1 (z : Option Nat) (data : List Int) (x1 : List Spot × Int) (v2 : List Elem) (v3 : Int) : Option (List Elem × Int) :=
  loopG z (fun (s : List Elem × Int) => elem_Read_s1 z data x1 s.1 s.2) (v2, v3)

noncomputable def elem_Read (z : Option Nat) (profile : Int) (data : List Int) : Option (List Elem × Int) :=
  Option.bind (elem_Spots z profile data) fun x1 =>
  if (cm .neq x1.2 0) then
  some ([], x1.2)
else
  elem_Read_l1 z data x1 [] 0

def bytes_Equal (p_a : List Int) (b : List Int) : Bool :=
  (sc .eql (b2s p_a) (b2s b))

def internal_bytealg_Cutover (n : Int) : Int :=
  (dv .quo .i64 (ar .add .i64 n 16) 8)

noncomputable def internal_bytealg_hashStr_j3 (z : Option Nat) (v5 : Int) (v6 : Int) (v7 : Int) : Option (((Int × Int × Int) ⊕ (Int × Int))) :=
  some (Sum.inl (v7, (ar .mul .u32 v5 v5), (sf .shr .i64 v6 1)))

noncomputable def internal_bytealg_hashStr_s2 (z : Option Nat) (v1 : Int) (v4 : Int) (v5 : Int) (v6 : Int) : Option (((Int × Int × Int) ⊕ (Int × Int))) :=
  if (cm .gtr v6 0) then
  if (cm .neq (ar .and .i64 v6 1) 0) then
    internal_bytealg_hashStr_j3 z v5 v6 (ar .mul .u32 v4 v5)
  else
    internal_bytealg_hashStr_j3 z v5 v6 v4
else
  Option.map Sum.inr (some (v1, v4))

noncomputable def internal_bytealg_hashStr_l2 (z : Option Nat) (v1 : Int) (v4 : Int) (v5 : Int) (v6 : Int) : Option (Int × Int) :=
  loopG z (fun (s : Int × Int × Int) => internal_bytealg_hashStr_s2 z v1 s.1 s.2.1 s.2.2) (v4, v5, v6)

noncomputable def internal_bytealg_hashStr_s1 (z : Option Nat) (sep : List Int) (v1 : Int) (v2 : Int) : Option (((Int × Int) ⊕ (Int × Int))) :=
  if (cm .lss v2 (sep.length : Int)) then
  Option.bind (ix sep v2) fun x3 =>
    some (Sum.inl ((ar .add .u32 (ar .mul .u32 v1 16777619) (IntKind.u32.wrap x3)), (ar .add .i64 v2 1)))
else
  Option.map Sum.inr (internal_bytealg_hashStr_l2 z v1 1 16777619 (sep.length : Int))

noncomputable def internal_bytealg_hashStr_l1 (z : Option Nat) (sep : List Int) (v1 : Int) (v2 : Int) : Option (Int × Int) :=
  loopG z (fun (s : Int × Int) => internal_bytealg_hashStr_s1 z sep s.1 s.2) (v1, v2)

noncomputable def internal_bytealg_hashStr (z : Option Nat) (sep : List Int) : Option (Int × Int) :=
  internal_bytealg_hashStr_l1 z sep 0 0

noncomputable def internal_bytealg_IndexRabinKarp_s2 (z : Option Nat) (p_s : List Int) (sep : List Int) (x1 : Int × Int) (v6 : Int) (v7 : Int) : Option (((Int × Int) ⊕ (Int))) :=
  if (cm .lss v7 (p_s.length : Int)) then
  Option.bind (ix p_s v7) fun x8 =>
    Option.bind (ix p_s (ar .sub .i64 v7 (sep.length : Int))) fun x9 =>
    Option.bind (gT (cm .eql (ar .sub .u32 (ar .add .u32 (ar .mul .u32 v6 16777619) (IntKind.u32.wrap x8)) (ar .mul .u32 x1.2 (IntKind.u32.wrap x9))) x1.1) (sub p_s (ar .sub .i64 (ar .add .i64 v7 1) (sep.length : Int)) (ar .add .i64 v7 1))) fun x10 =>
    if ((cm .eql (ar .sub .u32 (ar .add .u32 (ar .mul .u32 v6 16777619) (IntKind.u32.wrap x8)) (ar .mul .u32 x1.2 (IntKind.u32.wrap x9))) x1.1) && (sc .eql (b2s x10) (b2s sep))) then
    Option.map Sum.inr (some (ar .sub .i64 (ar .add .i64 v7 1) (sep.length : Int)))
  else
    some (Sum.inl ((ar .sub .u32 (ar .add .u32 (ar .mul .u32 v6 16777619) (IntKind.u32.wrap x8)) (ar .mul .u32 x1.2 (IntKind.u32.wrap x9))), (ar .add .i64 v7 1)))
else
  Option.map Sum.inr (some (-1))

noncomputable def internal_bytealg_IndexRabinKarp_l2 (z : Option Nat) (p_s : List Int) (sep : List Int) (x1 : Int × Int) (v6 : Int) (v7 : Int) : Option (Int) :=
  loopG z (fun (s : Int × Int) => internal_bytealg_IndexRabinKarp_s2 z p_s sep x1 s.1 s.2) (v6, v7)

noncomputable def internal_bytealg_IndexRabinKarp_s1 (z : Option Nat) (p_s : List Int) (sep : List Int) (x1 : Int × Int) (v2 : Int) (v3 : Int) : Option (((Int × Int) ⊕ (Int))) :=
  if (cm .lss v3 (sep.length : Int)) then
  Option.bind (ix p_s v3) fun x4 =>
    some (Sum.inl ((ar .add .u32 (ar .mul .u32 v2 16777619) (IntKind.u32.wrap x4)), (ar .add .i64 v3 1)))
else
  Option.map Sum.inr (Option.bind (gT (cm .eql v2 x1.1) (sub p_s 0 (sep.length : Int))) fun x5 =>
    if ((cm .eql v2 x1.1) && (sc .eql (b2s x5) (b2s sep))) then
    some 0
  else
    internal_bytealg_IndexRabinKarp_l2 z p_s sep x1 v2 (sep.length : Int))

noncomputable def internal_bytealg_IndexRabinKarp_l1 (z : Option Nat) (p_s : List Int) (sep : List Int) (x1 : Int × Int) (v2 : Int) (v3 : Int) : Option (Int) :=
  loopG z (fun (s : Int × Int) => internal_bytealg_IndexRabinKarp_s1 z p_s sep x1 s.1 s.2) (v2, v3)

noncomputable def internal_bytealg_IndexRabinKarp (z : Option Nat) (p_s : List Int) (sep : List Int) : Option (Int) :=
  Option.bind (internal_bytealg_hashStr z sep) fun x1 =>
  internal_bytealg_IndexRabinKarp_l1 z p_s sep x1 0 0

noncomputable def bytes_Count_s1 (z : Option Nat) (v2 : List Int) (v3 : Int) : Option (((List Int × Int) ⊕ (Int))) :=
  none

noncomputable def bytes_Count_l1 (z : Option Nat) (v2 : List Int) (v3 : Int) : Option (Int) :=
  loopG z (fun (s : List Int × Int) => bytes_Count_s1 z s.1 s.2) (v2, v3)

noncomputable def bytes_Count (z : Option Nat) (p_s : List Int) (sep : List Int) : Option (Int) :=
  if (cm .eql (sep.length : Int) 0) then
  none
else
  if (cm .eql (sep.length : Int) 1) then
    Option.bind (ix sep 0) fun x1 =>
      some (countB p_s x1)
  else
    bytes_Count_l1 z p_s 0

noncomputable def pad_Zero (z : Option Nat) (b : List Int) : Option (Bool) :=
  Option.bind (bytes_Count z b [0]) fun x1 =>
  some (cm .eql x1 (b.length : Int))

noncomputable def elem_Canon_s2 (z : Option Nat) (profile : Int) (data : List Int) (x1 : List Spot × Int) (v2 : Int) (v3 : Int) (v4 : Bool) (v5 : Int) : Option (((Int × Bool × Int) ⊕ (Bool))) :=
  if (cm .lss v5 (x1.1.length : Int)) then
  Option.bind (ix x1.1 v5) fun x6 =>
    if (cm .neq x6.at_ (ar .add .i64 v3 v2)) then
    Option.map Sum.inr (some false)
  else
    some (Sum.inl ((ar .add .i64 x6.at_ x6.size), (((v4 && (cm .leq x6.id_ 14)) && (cm .geq x6.size 1)) && (cm .leq x6.size 16)), (ar .add .i64 v5 1)))
else
  Option.map Sum.inr (Option.bind (gT ((bq .eql v4 ((I_elem_walker.as61 (elem_walk profile)).2)) && (cm .lss (ar .sub .i64 (data.length : Int) v3) 4)) (sub data v3 (data.length : Int))) fun x7 =>
    Option.bind (gT ((bq .eql v4 ((I_elem_walker.as61 (elem_walk profile)).2)) && (cm .lss (ar .sub .i64 (data.length : Int) v3) 4)) (pad_Zero z x7)) fun x8 =>
    some (((bq .eql v4 ((I_elem_walker.as61 (elem_walk profile)).2)) && (cm .lss (ar .sub .i64 (data.length : Int) v3) 4)) && x8))

noncomputable def elem_Canon_l2 (z : Option Nat) (profile : Int) (data : List Int) (x1 : List Spot × Int) (v2 : Int) (v3 : Int) (v4 : Bool) (v5 : Int) : Option (Bool) :=
  loopG z (fun (s : Int × Bool × Int) => elem_Canon_s2 z profile data x1 v2 s.1 s.2.1 s.2.2) (v3, v4, v5)

noncomputable def elem_Canon_j1 (z : Option Nat) (profile : Int) (data : List Int) (x1 : List Spot × Int) (v2 : Int) : Option (Bool) :=
  elem_Canon_l2 z profile data x1 v2 0 true 0

noncomputable def elem_Canon (z : Option Nat) (profile : Int) (data : List Int) : Option (Bool) :=
  Option.bind (elem_Spots z profile data) fun x1 =>
  if (((cm .neq x1.2 0) || ((cm .neq profile 48862) && (cm .neq profile 4096))) || (cm .gtr (dv .rem .i64 (data.length : Int) 4) 0)) then
  some false
else
  if (I_elem_walker.as61 (elem_walk profile)).2 then
    elem_Canon_j1 z profile data x1 1
  else
    elem_Canon_j1 z profile data x1 2

noncomputable def law08_awake (z : Option Nat)  : Option (Bool) :=
  Option.bind (elem_Write z ([(Elem.mk 1 [7, 8])])) fun x1 =>
  Option.bind (elem_Read z 4099 [0, 200, 0, 5, 1, 9, 0, 0]) fun x2 =>
  Option.bind (elem_Spots z 48862 [16, 7, 240, 1]) fun x3 =>
  Option.bind (gT (((((cm .eql x1.1 48862) && (sc .eql (b2s x1.2.1) ([17, 7, 8, 0] : List UInt8))) && (cm .eql x1.2.2 0)) && (cm .eql x2.2 0)) && (cm .eql (x2.1.length : Int) 2)) (ix x2.1 0)) fun x4 =>
  Option.bind (gT ((((((cm .eql x1.1 48862) && (sc .eql (b2s x1.2.1) ([17, 7, 8, 0] : List UInt8))) && (cm .eql x1.2.2 0)) && (cm .eql x2.2 0)) && (cm .eql (x2.1.length : Int) 2)) && (cm .eql x4.id_ 200)) (ix x2.1 0)) fun x5 =>
  Option.bind (gT (((((((cm .eql x1.1 48862) && (sc .eql (b2s x1.2.1) ([17, 7, 8, 0] : List UInt8))) && (cm .eql x1.2.2 0)) && (cm .eql x2.2 0)) && (cm .eql (x2.1.length : Int) 2)) && (cm .eql x4.id_ 200)) && (cm .eql (x5.data.length : Int) 0)) (ix x2.1 1)) fun x6 =>
  Option.bind (gT ((((((((((cm .eql x1.1 48862) && (sc .eql (b2s x1.2.1) ([17, 7, 8, 0] : List UInt8))) && (cm .eql x1.2.2 0)) && (cm .eql x2.2 0)) && (cm .eql (x2.1.length : Int) 2)) && (cm .eql x4.id_ 200)) && (cm .eql (x5.data.length : Int) 0)) && (sc .eql (b2s x6.data) ([9] : List UInt8))) && (cm .eql x3.2 0)) && (cm .eql (x3.1.length : Int) 1)) (ix x3.1 0)) fun x7 =>
  Option.bind (gT (((((((((((cm .eql x1.1 48862) && (sc .eql (b2s x1.2.1) ([17, 7, 8, 0] : List UInt8))) && (cm .eql x1.2.2 0)) && (cm .eql x2.2 0)) && (cm .eql (x2.1.length : Int) 2)) && (cm .eql x4.id_ 200)) && (cm .eql (x5.data.length : Int) 0)) && (sc .eql (b2s x6.data) ([9] : List UInt8))) && (cm .eql x3.2 0)) && (cm .eql (x3.1.length : Int) 1)) && (x7.id_ == 1 && (x7.at_ == 1 && (x7.size == 1 && true)))) (elem_Canon z x1.1 x1.2.1)) fun x8 =>
  Option.bind (gT ((((((((((((cm .eql x1.1 48862) && (sc .eql (b2s x1.2.1) ([17, 7, 8, 0] : List UInt8))) && (cm .eql x1.2.2 0)) && (cm .eql x2.2 0)) && (cm .eql (x2.1.length : Int) 2)) && (cm .eql x4.id_ 200)) && (cm .eql (x5.data.length : Int) 0)) && (sc .eql (b2s x6.data) ([9] : List UInt8))) && (cm .eql x3.2 0)) && (cm .eql (x3.1.length : Int) 1)) && (x7.id_ == 1 && (x7.at_ == 1 && (x7.size == 1 && true)))) && x8) (elem_Canon z 4096 x1.2.1)) fun x9 =>
  Option.bind (gT (((((((((((((cm .eql x1.1 48862) && (sc .eql (b2s x1.2.1) ([17, 7, 8, 0] : List UInt8))) && (cm .eql x1.2.2 0)) && (cm .eql x2.2 0)) && (cm .eql (x2.1.length : Int) 2)) && (cm .eql x4.id_ 200)) && (cm .eql (x5.data.length : Int) 0)) && (sc .eql (b2s x6.data) ([9] : List UInt8))) && (cm .eql x3.2 0)) && (cm .eql (x3.1.length : Int) 1)) && (x7.id_ == 1 && (x7.at_ == 1 && (x7.size == 1 && true)))) && x8) && (!x9)) (elem_Right z x2.1)) fun x10 =>
  some ((((((((((((((cm .eql x1.1 48862) && (sc .eql (b2s x1.2.1) ([17, 7, 8, 0] : List UInt8))) && (cm .eql x1.2.2 0)) && (cm .eql x2.2 0)) && (cm .eql (x2.1.length : Int) 2)) && (cm .eql x4.id_ 200)) && (cm .eql (x5.data.length : Int) 0)) && (sc .eql (b2s x6.data) ([9] : List UInt8))) && (cm .eql x3.2 0)) && (cm .eql (x3.1.length : Int) 1)) && (x7.id_ == 1 && (x7.at_ == 1 && (x7.size == 1 && true)))) && x8) && (!x9)) && x10)

noncomputable def ref08_Short_s1 (z : Option Nat) (l : List Elem) (v1 : Int) : Option (((Int) ⊕ (Bool))) :=
  if (cm .lss v1 (l.length : Int)) then
  Option.bind (ix l v1) fun x2 =>
    if (cm .gtr (x2.data.length : Int) 400) then
    Option.map Sum.inr (some false)
  else
    some (Sum.inl (ar .add .i64 v1 1))
else
  Option.map Sum.inr (some (cm .leq (l.length : Int) 300))

noncomputable def ref08_Short_l1 (z : Option Nat) (l : List Elem) (v1 : Int) : Option (Bool) :=
  loopG z (fun (s : Int) => ref08_Short_s1 z l s) (v1)

noncomputable def ref08_Short (z : Option Nat) (l : List Elem) : Option (Bool) :=
  ref08_Short_l1 z l 0

noncomputable def ref08_Right_s2 (z : Option Nat) (l : List Elem) (v1 : Int) (v5 : Int) : Option (((Int) ⊕ (((Int) ⊕ (Bool))))) :=
  if (cm .lss v5 v1) then
  Option.bind (ix l v5) fun x6 =>
    Option.bind (ix l v1) fun x7 =>
    if (cm .eql x6.id_ x7.id_) then
    Option.map Sum.inr (Option.map Sum.inr (some false))
  else
    some (Sum.inl (ar .add .i64 v5 1))
else
  Option.map Sum.inr (some (Sum.inl (ar .add .i64 v1 1)))

noncomputable def ref08_Right_l2 (z : Option Nat) (l : List Elem) (v1 : Int) (v5 : Int) : Option (((Int) ⊕ (Bool))) :=
  loopG z (fun (s : Int) => ref08_Right_s2 z l v1 s) (v5)

noncomputable def ref08_Right_s1 (z : Option Nat) (l : List Elem) (v1 : Int) : Option (((Int) ⊕ (Bool))) :=
  if (cm .lss v1 (l.length : Int)) then
  Option.bind (ix l v1) fun x2 =>
    Option.bind (gT (!(cm .lss x2.id_ 1)) (ix l v1)) fun x3 =>
    Option.bind (gT (!((cm .lss x2.id_ 1) || (cm .gtr x3.id_ 255))) (ix l v1)) fun x4 =>
    if (((cm .lss x2.id_ 1) || (cm .gtr x3.id_ 255)) || (cm .gtr (x4.data.length : Int) 255)) then
    Option.map Sum.inr (some false)
  else
    ref08_Right_l2 z l v1 0
else
  Option.map Sum.inr (some true)

noncomputable def ref08_Right_l1 (z : Option Nat) (l : List Elem) (v1 : Int) : Option (Bool) :=
  loopG z (fun (s : Int) => ref08_Right_s1 z l s) (v1)

noncomputable def ref08_Right (z : Option Nat) (l : List Elem) : Option (Bool) :=
  ref08_Right_l1 z l 0

noncomputable def ref08_Profile_s1 (z : Option Nat) (l : List Elem) (v2 : Int) : Option (((Int) ⊕ (Int))) :=
  if (cm .lss v2 (l.length : Int)) then
  Option.bind (ix l v2) fun x3 =>
    Option.bind (gT (!(cm .gtr x3.id_ 14)) (ix l v2)) fun x4 =>
    Option.bind (gT (!((cm .gtr x3.id_ 14) || (cm .eql (x4.data.length : Int) 0))) (ix l v2)) fun x5 =>
    if (((cm .gtr x3.id_ 14) || (cm .eql (x4.data.length : Int) 0)) || (cm .gtr (x5.data.length : Int) 16)) then
    Option.map Sum.inr (some 4096)
  else
    some (Sum.inl (ar .add .i64 v2 1))
else
  Option.map Sum.inr (some 48862)

noncomputable def ref08_Profile_l1 (z : Option Nat) (l : List Elem) (v2 : Int) : Option (Int) :=
  loopG z (fun (s : Int) => ref08_Profile_s1 z l s) (v2)

noncomputable def ref08_Profile (z : Option Nat) (l : List Elem) : Option (Int) :=
  Option.bind (ref08_Right z l) fun x1 =>
  if (!x1) then
  some 0
else
  ref08_Profile_l1 z l 0

noncomputable def ref03_Fill_s1 (z : Option Nat) (v2 : List Int) : Option (((List Int) ⊕ (List Int))) :=
  if (cm .neq (dv .rem .i64 (v2.length : Int) 4) 0) then
  Option.bind (app v2 [0]) fun x3 =>
    some (Sum.inl x3)
else
  Option.map Sum.inr (some v2)

noncomputable def ref03_Fill_l1 (z : Option Nat) (v2 : List Int) : Option (List Int) :=
  loopG z (fun (s : List Int) => ref03_Fill_s1 z s) (v2)

noncomputable def ref03_Fill (z : Option Nat) (b : List Int) : Option (List Int) :=
  Option.bind (app ([] : List Int) b) fun x1 =>
  ref03_Fill_l1 z x1

noncomputable def ref08_Write_j2 (z : Option Nat) (l : List Elem) (v2 : Int) (v5 : List Int) : Option (((List Int × Int) ⊕ (List Int))) :=
  Option.bind (ix l v2) fun x6 =>
  Option.bind (app v5 x6.data) fun x7 =>
  some (Sum.inl (x7, (ar .add .i64 v2 1)))

noncomputable def ref08_Write_s1 (z : Option Nat) (l : List Elem) (v1 : List Int) (v2 : Int) : Option (((List Int × Int) ⊕ (List Int))) :=
  if (cm .lss v2 (l.length : Int)) then
  Option.bind (ix l v2) fun x3 =>
    Option.bind (ref08_Profile z l) fun x4 =>
    if (cm .eql x4 48862) then
    Option.bind (ix l v2) fun x8 =>
      Option.bind (app v1 [(IntKind.u8.wrap (ar .sub .i64 (ar .add .i64 (ar .mul .i64 16 x8.id_) (x3.data.length : Int)) 1))]) fun x9 =>
      ref08_Write_j2 z l v2 x9
  else
    Option.bind (ix l v2) fun x10 =>
      Option.bind (app v1 [(IntKind.u8.wrap x10.id_), (IntKind.u8.wrap (x3.data.length : Int))]) fun x11 =>
      ref08_Write_j2 z l v2 x11
else
  Option.map Sum.inr (Option.bind (ref03_Fill z v1) fun x12 =>
    some x12)

noncomputable def ref08_Write_l1 (z : Option Nat) (l : List Elem) (v1 : List Int) (v2 : Int) : Option (List Int) :=
  loopG z (fun (s : List Int × Int) => ref08_Write_s1 z l s.1 s.2) (v1, v2)

noncomputable def ref08_Write (z : Option Nat) (l : List Elem) : Option (List Int) :=
  ref08_Write_l1 z l [] 0

noncomputable def ref08_Spots_s3 (z : Option Nat) (v1 : List Spot) (v4 : Spot) (v5 : Int) : Option (((Int) ⊕ (((List Spot × Int) ⊕ (List Spot × Int))))) :=
  if (cm .lss v5 (v1.length : Int)) then
  Option.bind (ix v1 v5) fun x6 =>
    if (cm .eql x6.id_ v4.id_) then
    Option.map Sum.inr (Option.map Sum.inr (some ([], 6)))
  else
    some (Sum.inl (ar .add .i64 v5 1))
else
  Option.map Sum.inr (Option.bind (app v1 [v4]) fun x7 =>
    some (Sum.inl (x7, (ar .add .i64 v4.at_ v4.size))))

noncomputable def ref08_Spots_l3 (z : Option Nat) (v1 : List Spot) (v4 : Spot) (v5 : Int) : Option (((List Spot × Int) ⊕ (List Spot × Int))) :=
  loopG z (fun (s : Int) => ref08_Spots_s3 z v1 v4 s) (v5)

noncomputable def ref08_Spots_j2 (z : Option Nat) (data : List Int) (v1 : List Spot) (v4 : Spot) : Option (((List Spot × Int) ⊕ (List Spot × Int))) :=
  if (cm .gtr (ar .add .i64 v4.at_ v4.size) (data.length : Int)) then
  Option.map Sum.inr (some ([], 4))
else
  ref08_Spots_l3 z v1 v4 0

noncomputable def ref08_Spots_s1 (z : Option Nat) (profile : Int) (data : List Int) (v1 : List Spot) (v2 : Int) : Option (((List Spot × Int) ⊕ (List Spot × Int))) :=
  if (cm .lss v2 (data.length : Int)) then
  Option.bind (ix data v2) fun x3 =>
    if (cm .eql (IntKind.i64.wrap x3) 0) then
    some (Sum.inl (v1, (ar .add .i64 v2 1)))
  else
    if (cm .eql profile 48862) then
      if ((cm .eql (dv .quo .i64 (IntKind.i64.wrap x3) 16) 0) || (cm .eql (dv .quo .i64 (IntKind.i64.wrap x3) 16) 15)) then
        Option.map Sum.inr (some (v1, 0))
      else
        ref08_Spots_j2 z data v1 (Spot.mk (dv .quo .i64 (IntKind.i64.wrap x3) 16) (ar .add .i64 v2 1) (ar .add .i64 (dv .rem .i64 (IntKind.i64.wrap x3) 16) 1))
    else
      if (cm .geq (ar .add .i64 v2 1) (data.length : Int)) then
        Option.map Sum.inr (some ([], 4))
      else
        Option.bind (ix data (ar .add .i64 v2 1)) fun x8 =>
          ref08_Spots_j2 z data v1 (Spot.mk (IntKind.i64.wrap x3) (ar .add .i64 v2 2) (IntKind.i64.wrap x8))
else
  Option.map Sum.inr (some (v1, 0))

noncomputable def ref08_Spots_l1 (z : Option Nat) (profile : Int) (data : List Int) (v1 : List Spot) (v2 : Int) : Option (List Spot × Int) :=
  loopG z (fun (s : List Spot × Int) => ref08_Spots_s1 z profile data s.1 s.2) (v1, v2)

noncomputable def ref08_Spots (z : Option Nat) (profile : Int) (data : List Int) : Option (List Spot × Int) :=
  if ((!(cm .eql profile 48862)) && (cm .neq (dv .quo .u16 profile 16) 256)) then
  some ([], 6)
else
  ref08_Spots_l1 z profile data [] 0

noncomputable def ref08_Read_s1 (z : Option Nat) (data : List Int) (x1 : List Spot × Int) (v2 : List Elem) (v3 : Int) : Option (((List Elem × Int) ⊕ (List Elem × Int))) :=
  if (cm .lss v3 (x1.1.length : Int)) then
  Option.bind (ix x1.1 v3) fun x4 =>
    Option.bind (ix x1.1 v3) fun x5 =>
    Option.bind (ix x1.1 v3) fun x6 =>
    Option.bind (ix x1.1 v3) fun x7 =>
    Option.bind (sub data x5.at_ (ar .add .i64 x6.at_ x7.size)) fun x8 =>
    Option.bind (app ([] : List Int) x8) fun x9 =>
    Option.bind (app v2 [{ x4 with data := x9 }]) fun x10 =>
    some (Sum.inl (x10, (ar .add .i64 v3 1)))
else
  Option.map Sum.inr (some (v2, x1.2))

noncomputable def ref08_Read_l1 (z : Option Nat) (data : List Int) (x1 : List Spot × Int) (v2 : List Elem) (v3 : Int) : Option (List Elem × Int) :=
  loopG z (fun (s : List Elem × Int) => ref08_Read_s1 z data x1 s.1 s.2) (v2, v3)

noncomputable def ref08_Read (z : Option Nat) (profile : Int) (data : List Int) : Option (List Elem × Int) :=
  Option.bind (ref08_Spots z profile data) fun x1 =>
  ref08_Read_l1 z data x1 [] 0

noncomputable def ref08_Same_s1 (z : Option Nat) (p_a : List Elem) (b : List Elem) (v1 : Int) : Option (((Int) ⊕ (Bool))) :=
  if (cm .lss v1 (p_a.length : Int)) then
  Option.bind (ix p_a v1) fun x2 =>
    Option.bind (ix b v1) fun x3 =>
    Option.bind (gT (!(cm .neq x2.id_ x3.id_)) (ix p_a v1)) fun x4 =>
    Option.bind (gT (!(cm .neq x2.id_ x3.id_)) (ix b v1)) fun x5 =>
    if ((cm .neq x2.id_ x3.id_) || (sc .neq (b2s x4.data) (b2s x5.data))) then
    Option.map Sum.inr (some false)
  else
    some (Sum.inl (ar .add .i64 v1 1))
else
  Option.map Sum.inr (some true)

noncomputable def ref08_Same_l1 (z : Option Nat) (p_a : List Elem) (b : List Elem) (v1 : Int) : Option (Bool) :=
  loopG z (fun (s : Int) => ref08_Same_s1 z p_a b s) (v1)

noncomputable def ref08_Same (z : Option Nat) (p_a : List Elem) (b : List Elem) : Option (Bool) :=
  if (cm .neq (p_a.length : Int) (b.length : Int)) then
  some false
else
  ref08_Same_l1 z p_a b 0

noncomputable def ref08_Canon (z : Option Nat) (profile : Int) (data : List Int) : Option (Bool) :=
  Option.bind (ref08_Read z profile data) fun x1 =>
  Option.bind (gT (cm .eql x1.2 0) (ref08_Profile z x1.1)) fun x2 =>
  Option.bind (gT ((cm .eql x1.2 0) && (cm .eql x2 profile)) (ref08_Write z x1.1)) fun x3 =>
  some (((cm .eql x1.2 0) && (cm .eql x2 profile)) && (sc .eql (b2s x3) (b2s data)))

noncomputable def law08_ElemRight_s2 (z : Option Nat) (l : List Elem) (profile : Int) (data : List Int) (x6 : List Spot × Int) (x7 : List Spot × Int) (v9 : Int) : Option (((Int) ⊕ (Bool))) :=
  if (cm .lss v9 (x6.1.length : Int)) then
  Option.bind (ix x6.1 v9) fun x10 =>
    Option.bind (ix x7.1 v9) fun x11 =>
    if (!(x10.id_ == x11.id_ && (x10.at_ == x11.at_ && (x10.size == x11.size && true)))) then
    Option.map Sum.inr (some false)
  else
    some (Sum.inl (ar .add .i64 v9 1))
else
  Option.map Sum.inr (Option.bind (elem_Right z l) fun x12 =>
    Option.bind (ref08_Right z l) fun x13 =>
    Option.bind (gT (bq .eql x12 x13) (elem_Profile z l)) fun x14 =>
    Option.bind (gT (bq .eql x12 x13) (ref08_Profile z l)) fun x15 =>
    Option.bind (gT ((bq .eql x12 x13) && (cm .eql x14 x15)) (elem_Canon z profile data)) fun x16 =>
    Option.bind (gT ((bq .eql x12 x13) && (cm .eql x14 x15)) (ref08_Canon z profile data)) fun x17 =>
    some (((bq .eql x12 x13) && (cm .eql x14 x15)) && (bq .eql x16 x17)))

noncomputable def law08_ElemRight_l2 (z : Option Nat) (l : List Elem) (profile : Int) (data : List Int) (x6 : List Spot × Int) (x7 : List Spot × Int) (v9 : Int) : Option (Bool) :=
  loopG z (fun (s : Int) => law08_ElemRight_s2 z l profile data x6 x7 s) (v9)

noncomputable def law08_ElemRight_j1 (z : Option Nat) (l : List Elem) (profile : Int) (data : List Int) : Option (Bool) :=
  Option.bind (elem_Read z profile data) fun x4 =>
  Option.bind (ref08_Read z profile data) fun x5 =>
  Option.bind (elem_Spots z profile data) fun x6 =>
  Option.bind (ref08_Spots z profile data) fun x7 =>
  Option.bind (gT (!(cm .neq x4.2 x5.2)) (ref08_Same z x4.1 x5.1)) fun x8 =>
  if ((((cm .neq x4.2 x5.2) || (!x8)) || (cm .neq x6.2 x7.2)) || (cm .neq (x6.1.length : Int) (x7.1.length : Int))) then
  some false
else
  law08_ElemRight_l2 z l profile data x6 x7 0

noncomputable def law08_ElemRight (z : Option Nat) (l : List Elem) (profile : Int) (data : List Int) : Option (Bool) :=
  Option.bind (ref08_Short z l) fun x1 =>
  if ((!x1) || (cm .gtr (data.length : Int) 3000)) then
  some true
else
  Option.bind (elem_Write z l) fun x2 =>
    Option.bind (ref08_Right z l) fun x3 =>
    if x3 then
    Option.bind (gT (!(cm .neq x2.2.2 0)) (ref08_Profile z l)) fun x18 =>
      Option.bind (gT (!((cm .neq x2.2.2 0) || (cm .neq x2.1 x18))) (ref08_Write z l)) fun x19 =>
      if (((cm .neq x2.2.2 0) || (cm .neq x2.1 x18)) || (sc .neq (b2s x2.2.1) (b2s x19))) then
      some false
    else
      law08_ElemRight_j1 z l profile data
  else
    if (((cm .neq x2.2.2 1) || (cm .neq x2.1 0)) || (cm .neq (x2.2.1.length : Int) 0)) then
      some false
    else
      law08_ElemRight_j1 z l profile data

noncomputable def law08_ElemBack_j1 (z : Option Nat) (profile : Int) (data : List Int) : Option (Bool) :=
  Option.bind (elem_Read z profile data) fun x5 =>
  if (cm .neq x5.2 0) then
  Option.bind (gT (cm .eql (x5.1.length : Int) 0) (elem_Canon z profile data)) fun x6 =>
    some ((cm .eql (x5.1.length : Int) 0) && (!x6))
else
  Option.bind (elem_Write z x5.1) fun x7 =>
    Option.bind (elem_Read z x7.1 x7.2.1) fun x8 =>
    Option.bind (gT ((cm .eql x7.2.2 0) && (cm .eql x8.2 0)) (elem_Right z x5.1)) fun x9 =>
    Option.bind (gT (((cm .eql x7.2.2 0) && (cm .eql x8.2 0)) && x9) (ref08_Same z x5.1 x8.1)) fun x10 =>
    Option.bind (gT ((((cm .eql x7.2.2 0) && (cm .eql x8.2 0)) && x9) && x10) (elem_Canon z profile data)) fun x11 =>
    some (((((cm .eql x7.2.2 0) && (cm .eql x8.2 0)) && x9) && x10) && (bq .eql x11 ((cm .eql x7.1 profile) && (sc .eql (b2s x7.2.1) (b2s data)))))

noncomputable def law08_ElemBack (z : Option Nat) (l : List Elem) (m : List Elem) (profile : Int) (data : List Int) : Option (Bool) :=
  Option.bind (ref08_Short z l) fun x1 =>
  Option.bind (gT (!(!x1)) (ref08_Short z m)) fun x2 =>
  if (((!x1) || (!x2)) || (cm .gtr (data.length : Int) 3000)) then
  some true
else
  Option.bind (elem_Write z l) fun x3 =>
    Option.bind (elem_Write z m) fun x4 =>
    if (cm .eql x3.2.2 0) then
    Option.bind (elem_Read z x3.1 x3.2.1) fun x12 =>
      Option.bind (gT (!(cm .neq x12.2 0)) (ref08_Same z x12.1 l)) fun x13 =>
      Option.bind (gT (!((cm .neq x12.2 0) || (!x13))) (elem_Canon z x3.1 x3.2.1)) fun x14 =>
      if ((((cm .neq x12.2 0) || (!x13)) || (!x14)) || (cm .neq (dv .rem .i64 (x3.2.1.length : Int) 4) 0)) then
      some false
    else
      Option.bind (gT (cm .eql x4.2.2 0) (ref08_Same z l m)) fun x15 =>
        if ((cm .eql x4.2.2 0) && (bq .neq ((cm .eql x3.1 x4.1) && (sc .eql (b2s x3.2.1) (b2s x4.2.1))) x15)) then
        some false
      else
        law08_ElemBack_j1 z profile data
  else
    law08_ElemBack_j1 z profile data

noncomputable def law08_ElemPads_j3 (z : Option Nat) (x2 : Int × List Int × Int) (x3 : List Spot × Int) (v4 : Int) (v6 : Int) (v7 : List Int) : Option (((List Int × Int) ⊕ (Bool))) :=
  Option.bind (ix x3.1 v6) fun x8 =>
  Option.bind (gT (!(cm .lss x8.at_ v4)) (ix x3.1 v6)) fun x9 =>
  Option.bind (gT (!((cm .lss x8.at_ v4) || (cm .lss x9.size 0))) (ix x3.1 v6)) fun x10 =>
  Option.bind (gT (!(((cm .lss x8.at_ v4) || (cm .lss x9.size 0)) || (cm .gtr x10.size (x2.2.1.length : Int)))) (ix x3.1 v6)) fun x11 =>
  Option.bind (gT (!(((cm .lss x8.at_ v4) || (cm .lss x9.size 0)) || (cm .gtr x10.size (x2.2.1.length : Int)))) (ix x3.1 v6)) fun x12 =>
  if ((((cm .lss x8.at_ v4) || (cm .lss x9.size 0)) || (cm .gtr x10.size (x2.2.1.length : Int))) || (cm .gtr x11.at_ (ar .sub .i64 (x2.2.1.length : Int) x12.size))) then
  Option.map Sum.inr (some false)
else
  Option.bind (ix x3.1 v6) fun x13 =>
    Option.bind (ix x3.1 v6) fun x14 =>
    Option.bind (ix x3.1 v6) fun x15 =>
    Option.bind (sub x2.2.1 (ar .sub .i64 x13.at_ v4) (ar .add .i64 x14.at_ x15.size)) fun x16 =>
    Option.bind (app v7 x16) fun x17 =>
    some (Sum.inl (x17, (ar .add .i64 v6 1)))

noncomputable def law08_ElemPads_j4 (z : Option Nat) (l : List Elem) (x2 : Int × List Int × Int) (v21 : List Int) (v22 : Int) : Option (Bool) :=
  Option.bind (elem_Read z v22 v21) fun x23 =>
  Option.bind (gT (cm .eql x23.2 0) (ref08_Same z x23.1 l)) fun x24 =>
  Option.bind (gT (((cm .eql x23.2 0) && x24) && (!(cm .eql x2.1 4096))) (elem_Canon z v22 v21)) fun x25 =>
  some (((cm .eql x23.2 0) && x24) && ((cm .eql x2.1 4096) || (!x25)))

noncomputable def law08_ElemPads_s2 (z : Option Nat) (l : List Elem) (pads : List Int) (low : Int) (more : List Int) (x2 : Int × List Int × Int) (x3 : List Spot × Int) (v4 : Int) (v5 : List Int) (v6 : Int) : Option (((List Int × Int) ⊕ (Bool))) :=
  if (cm .lss v6 (l.length : Int)) then
  if (cm .lss v6 (pads.length : Int)) then
    Option.bind (ix pads v6) fun x18 =>
      Option.bind (appZ (0 : Int) v5 (dv .rem .i64 (IntKind.i64.wrap x18) 9)) fun x19 =>
      law08_ElemPads_j3 z x2 x3 v4 v6 x19
  else
    law08_ElemPads_j3 z x2 x3 v4 v6 v5
else
  Option.map Sum.inr (Option.bind (appZ (0 : Int) v5 (dv .quo .i64 (IntKind.i64.wrap low) 16)) fun x20 =>
    if (cm .eql x2.1 4096) then
    law08_ElemPads_j4 z l x2 x20 (ar .add .u16 x2.1 (IntKind.u16.wrap (dv .rem .u8 low 16)))
  else
    Option.bind (app x20 [(ar .add .u8 240 (dv .rem .u8 low 16))]) fun x26 =>
      Option.bind (app x26 more) fun x27 =>
      law08_ElemPads_j4 z l x2 x27 x2.1)

noncomputable def law08_ElemPads_l2 (z : Option Nat) (l : List Elem) (pads : List Int) (low : Int) (more : List Int) (x2 : Int × List Int × Int) (x3 : List Spot × Int) (v4 : Int) (v5 : List Int) (v6 : Int) : Option (Bool) :=
  loopG z (fun (s : List Int × Int) => law08_ElemPads_s2 z l pads low more x2 x3 v4 s.1 s.2) (v5, v6)

noncomputable def law08_ElemPads_j1 (z : Option Nat) (l : List Elem) (pads : List Int) (low : Int) (more : List Int) (x2 : Int × List Int × Int) (x3 : List Spot × Int) (v4 : Int) : Option (Bool) :=
  law08_ElemPads_l2 z l pads low more x2 x3 v4 [] 0

noncomputable def law08_ElemPads (z : Option Nat) (l : List Elem) (pads : List Int) (low : Int) (more : List Int) : Option (Bool) :=
  Option.bind (ref08_Short z l) fun x1 =>
  if (((!x1) || (cm .gtr (l.length : Int) 100)) || (cm .gtr (more.length : Int) 300)) then
  some true
else
  Option.bind (elem_Write z l) fun x2 =>
    Option.bind (elem_Spots z x2.1 x2.2.1) fun x3 =>
    if (((cm .neq x2.2.2 0) || (cm .neq x3.2 0)) || (cm .neq (x3.1.length : Int) (l.length : Int))) then
    some (cm .neq x2.2.2 0)
  else
    if (cm .eql x2.1 48862) then
      law08_ElemPads_j1 z l pads low more x2 x3 1
    else
      law08_ElemPads_j1 z l pads low more x2 x3 2

end Xb
