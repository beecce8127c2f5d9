/- Own text: DModels. -/
import Derived.Test.YthdbckjpoffnpaaDTypes
set_option linter.all false
set_option linter.unusedVariables false
set_option linter.unusedSimpArgs false
set_option linter.unnecessarySimpa false
set_option linter.deprecated false
namespace Xb
open Go
set_option linter.unusedVariables false

def pad_zeros (n : Int) : Option (List Int) :=
  Option.bind (mkL (0 : Int) n n) fun x1 =>
  some x1

noncomputable def slices_Concat_j2 (z : Option Nat) (v1 : Int) (v2 : Int) (x3 : List Int) : Option (((Int × Int) ⊕ (List Int))) :=
  some (Sum.inl ((ar .add .i64 v1 (x3.length : Int)), (ar .add .i64 v2 1)))

noncomputable def slices_Concat_s3 (z : Option Nat) (slices : List (List Int)) (v5 : List Int) (v6 : Int) : Option (((List Int × Int) ⊕ (List Int))) :=
  if (cm .lss v6 (slices.length : Int)) then
  Option.bind (ix slices v6) fun x7 =>
    Option.bind (app v5 x7) fun x8 =>
    some (Sum.inl (x8, (ar .add .i64 v6 1)))
else
  Option.map Sum.inr (some v5)

noncomputable def slices_Concat_l3 (z : Option Nat) (slices : List (List Int)) (v5 : List Int) (v6 : Int) : Option (List Int) :=
  loopG z (fun (s : List Int × Int) => slices_Concat_s3 z slices s.1 s.2) (v5, v6)

noncomputable def slices_Concat_s1 (z : Option Nat) (slices : List (List Int)) (v1 : Int) (v2 : Int) : Option (((Int × Int) ⊕ (List Int))) :=
  if (cm .lss v2 (slices.length : Int)) then
  Option.bind (ix slices v2) fun x3 =>
    if (cm .lss (ar .add .i64 v1 (x3.length : Int)) 0) then
    none
  else
    slices_Concat_j2 z v1 v2 x3
else
  Option.map Sum.inr (Option.bind (growL v1) fun x4 =>
    slices_Concat_l3 z slices ([] : List Int) 0)

noncomputable def slices_Concat_l1 (z : Option Nat) (slices : List (List Int)) (v1 : Int) (v2 : Int) : Option (List Int) :=
  loopG z (fun (s : Int × Int) => slices_Concat_s1 z slices s.1 s.2) (v1, v2)

noncomputable def slices_Concat (z : Option Nat) (slices : List (List Int)) : Option (List Int) :=
  slices_Concat_l1 z slices 0 0

noncomputable def pad_Add (z : Option Nat) (b : List Int) (n : Int) : Option (List Int × Int) :=
  if ((cm .lss n 1) || (cm .gtr n 255)) then
  some ([], 1)
else
  Option.bind (pad_zeros (ar .sub .i64 n 1)) fun x1 =>
    Option.bind (slices_Concat z ([b, x1, [(IntKind.u8.wrap n)]])) fun x2 =>
    some (x2, 0)

def pad_Trail (b : List Int) : Option (Int × Int) :=
  if (cm .eql (b.length : Int) 0) then
  some (0, 5)
else
  Option.bind (ix b (ar .sub .i64 (b.length : Int) 1)) fun x1 =>
    if ((cm .eql (IntKind.i64.wrap x1) 0) || (cm .gtr (IntKind.i64.wrap x1) (b.length : Int))) then
    some (0, 5)
  else
    some ((IntKind.i64.wrap x1), 0)

def bytes_Equal (p_a : List Int) (b : List Int) : Bool :=
  (sc .eql (b2s p_a) (b2s b))

def internal_bytealg_Cutover (n : Int) : Int :=
  (dv .quo .i64 (ar .add .i64 n 16) 8)

noncomputable def internal_bytealg_hashStr_j3 (z : Option Nat) (v5 : Int) (v6 : Int) (v7 : Int) : Option (((Int × Int × Int) ⊕ (Int × Int))) :=
  some (Sum.inl (v7, (ar .mul .u32 v5 v5), (sf .shr .i64 v6 1)))

noncomputable def internal_bytealg_hashStr_s2 (z : Option Nat) (v1 : Int) (v4 : Int) (v5 : Int) (v6 : Int) : Option (((Int × Int × Int) ⊕ (Int × Int))) :=
  if (cm .gtr v6 0) then
  if (cm .neq (ar .and .i64 v6 1) 0) then
    internal_bytealg_hashStr_j3 z v5 v6 (ar .mul .u32 v4 v5)
  else
    internal_bytealg_hashStr_j3 z v5 v6 v4
else
  Option.map Sum.inr (some (v1, v4))

noncomputable def internal_bytealg_hashStr_l2 (z : Option Nat) (v1 : Int) (v4 : Int) (v5 : Int) (v6 : Int) : Option (Int × Int) :=
  loopG z (fun (s : Int × Int × Int) => internal_bytealg_hashStr_s2 z v1 s.1 s.2.1 s.2.2) (v4, v5, v6)

noncomputable def internal_bytealg_hashStr_s1 (z : Option Nat) (sep : List Int) (v1 : Int) (v2 : Int) : Option (((Int × Int) ⊕ (Int × Int))) :=
  if (cm .lss v2 (sep.length : Int)) then
  Option.bind (ix sep v2) fun x3 =>
    some (Sum.inl ((ar .add .u32 (ar .mul .u32 v1 16777619) (IntKind.u32.wrap x3)), (ar .add .i64 v2 1)))
else
  Option.map Sum.inr (internal_bytealg_hashStr_l2 z v1 1 16777619 (sep.length : Int))

noncomputable def internal_bytealg_hashStr_l1 (z : Option Nat) (sep : List Int) (v1 : Int) (v2 : Int) : Option (Int × Int) :=
  loopG z (fun (s : Int × Int) => internal_bytealg_hashStr_s1 z sep s.1 s.2) (v1, v2)

noncomputable def internal_bytealg_hashStr (z : Option Nat) (sep : List Int) : Option (Int × Int) :=
  internal_bytealg_hashStr_l1 z sep 0 0

noncomputable def internal_bytealg_IndexRabinKarp_s2 (z : Option Nat) (p_s : List Int) (sep : List Int) (x1 : Int × Int) (v6 : Int) (v7 : Int) : Option (((Int × Int) ⊕ (Int))) :=
  if (cm .lss v7 (p_s.length : Int)) then
  Option.bind (ix p_s v7) fun x8 =>
    Option.bind (ix p_s (ar .sub .i64 v7 (sep.length : Int))) fun x9 =>
    Option.bind (gT (cm .eql (ar .sub .u32 (ar .add .u32 (ar .mul .u32 v6 16777619) (IntKind.u32.wrap x8)) (ar .mul .u32 x1.2 (IntKind.u32.wrap x9))) x1.1) (sub p_s (ar .sub .i64 (ar .add .i64 v7 1) (sep.length : Int)) (ar .add .i64 v7 1))) fun x10 =>
    if ((cm .eql (ar .sub .u32 (ar .add .u32 (ar .mul .u32 v6 16777619) (IntKind.u32.wrap x8)) (ar .mul .u32 x1.2 (IntKind.u32.wrap x9))) x1.1) && (sc .eql (b2s x10) (b2s sep))) then
    Option.map Sum.inr (some (ar .sub .i64 (ar .add .i64 v7 1) (sep.length : Int)))
  else
    some (Sum.inl ((ar .sub .u32 (ar .add .u32 (ar .mul .u32 v6 16777619) (IntKind.u32.wrap x8)) (ar .mul .u32 x1.2 (IntKind.u32.wrap x9))), (ar .add .i64 v7 1)))
else
  Option.map Sum.inr (some (-1))

noncomputable def internal_bytealg_IndexRabinKarp_l2 (z : Option Nat) (p_s : List Int) (sep : List Int) (x1 : Int × Int) (v6 : Int) (v7 : Int) : Option (Int) :=
  loopG z (fun (s : Int × Int) => internal_bytealg_IndexRabinKarp_s2 z p_s sep x1 s.1 s.2) (v6, v7)

noncomputable def internal_bytealg_IndexRabinKarp_s1 (z : Option Nat) (p_s : List Int) (sep : List Int) (x1 : Int × Int) (v2 : Int) (v3 : Int) : Option (((Int × Int) ⊕ (Int))) :=
  if (cm .lss v3 (sep.length : Int)) then
  Option.bind (ix p_s v3) fun x4 =>
    some (Sum.inl ((ar .add .u32 (ar .mul .u32 v2 16777619) (IntKind.u32.wrap x4)), (ar .add .i64 v3 1)))
else
  Option.map Sum.inr (Option.bind (gT (cm .eql v2 x1.1) (sub p_s 0 (sep.length : Int))) fun x5 =>
    if ((cm .eql v2 x1.1) && (sc .eql (b2s x5) (b2s sep))) then
    some 0
  else
    internal_bytealg_IndexRabinKarp_l2 z p_s sep x1 v2 (sep.length : Int))

noncomputable def internal_bytealg_IndexRabinKarp_l1 (z : Option Nat) (p_s : List Int) (sep : List Int) (x1 : Int × Int) (v2 : Int) (v3 : Int) : Option (Int) :=
  loopG z (fun (s : Int × Int) => internal_bytealg_IndexRabinKarp_s1 z p_s sep x1 s.1 s.2) (v2, v3)

noncomputable def internal_bytealg_IndexRabinKarp (z : Option Nat) (p_s : List Int) (sep : List Int) : Option (Int) :=
  Option.bind (internal_bytealg_hashStr z sep) fun x1 =>
  internal_bytealg_IndexRabinKarp_l1 z p_s sep x1 0 0

noncomputable def bytes_Count_s1 (z : Option Nat) (v2 : List Int) (v3 : Int) : Option (((List Int × Int) ⊕ (Int))) :=
  none

noncomputable def bytes_Count_l1 (z : Option Nat) (v2 : List Int) (v3 : Int) : Option (Int) :=
  loopG z (fun (s : List Int × Int) => bytes_Count_s1 z s.1 s.2) (v2, v3)

noncomputable def bytes_Count (z : Option Nat) (p_s : List Int) (sep : List Int) : Option (Int) :=
  if (cm .eql (sep.length : Int) 0) then
  none
else
  if (cm .eql (sep.length : Int) 1) then
    Option.bind (ix sep 0) fun x1 =>
      some (countB p_s x1)
  else
    bytes_Count_l1 z p_s 0

noncomputable def pad_Zero (z : Option Nat) (b : List Int) : Option (Bool) :=
  Option.bind (bytes_Count z b [0]) fun x1 =>
  some (cm .eql x1 (b.length : Int))

noncomputable def pad_Clean (z : Option Nat) (b : List Int) : Option (Bool) :=
  Option.bind (pad_Trail b) fun x1 =>
  Option.bind (gT (cm .eql x1.2 0) (sub b (ar .sub .i64 (b.length : Int) x1.1) (ar .sub .i64 (b.length : Int) 1))) fun x2 =>
  Option.bind (gT (cm .eql x1.2 0) (pad_Zero z x2)) fun x3 =>
  some ((cm .eql x1.2 0) && x3)

def pad_Round (n : Int) : Int :=
  if ((cm .lss n 0) || (cm .gtr n 2147483648)) then
  0
else
  (ar .mul .i64 (dv .quo .i64 (ar .sub .i64 (ar .add .i64 n 4) 1) 4) 4)

noncomputable def pad_Fill (z : Option Nat) (b : List Int) : Option (List Int) :=
  Option.bind (pad_zeros (dv .rem .i64 (ar .sub .i64 4 (dv .rem .i64 (b.length : Int) 4)) 4)) fun x1 =>
  Option.bind (slices_Concat z [b, x1]) fun x2 =>
  some x2

noncomputable def law03_awake (z : Option Nat)  : Option (Bool) :=
  Option.bind (pad_Add z [7, 8] 3) fun x1 =>
  Option.bind (pad_Trail x1.1) fun x2 =>
  Option.bind (gT ((((cm .eql x1.2 0) && (cm .eql x2.2 0)) && (cm .eql x2.1 3)) && (sc .eql (b2s x1.1) ([7, 8, 0, 0, 3] : List UInt8))) (pad_Clean z x1.1)) fun x3 =>
  Option.bind (gT ((((((cm .eql x1.2 0) && (cm .eql x2.2 0)) && (cm .eql x2.1 3)) && (sc .eql (b2s x1.1) ([7, 8, 0, 0, 3] : List UInt8))) && x3) && (cm .eql (pad_Round 5) 8)) (sub x1.1 0 1)) fun x4 =>
  Option.bind (gT ((((((cm .eql x1.2 0) && (cm .eql x2.2 0)) && (cm .eql x2.1 3)) && (sc .eql (b2s x1.1) ([7, 8, 0, 0, 3] : List UInt8))) && x3) && (cm .eql (pad_Round 5) 8)) (pad_Fill z x4)) fun x5 =>
  Option.bind (gT (((((((cm .eql x1.2 0) && (cm .eql x2.2 0)) && (cm .eql x2.1 3)) && (sc .eql (b2s x1.1) ([7, 8, 0, 0, 3] : List UInt8))) && x3) && (cm .eql (pad_Round 5) 8)) && (sc .eql (b2s x5) ([7, 0, 0, 0] : List UInt8))) (sub x1.1 2 4)) fun x6 =>
  Option.bind (gT (((((((cm .eql x1.2 0) && (cm .eql x2.2 0)) && (cm .eql x2.1 3)) && (sc .eql (b2s x1.1) ([7, 8, 0, 0, 3] : List UInt8))) && x3) && (cm .eql (pad_Round 5) 8)) && (sc .eql (b2s x5) ([7, 0, 0, 0] : List UInt8))) (pad_Zero z x6)) fun x7 =>
  some ((((((((cm .eql x1.2 0) && (cm .eql x2.2 0)) && (cm .eql x2.1 3)) && (sc .eql (b2s x1.1) ([7, 8, 0, 0, 3] : List UInt8))) && x3) && (cm .eql (pad_Round 5) 8)) && (sc .eql (b2s x5) ([7, 0, 0, 0] : List UInt8))) && x7)

noncomputable def ref03_Round_s1 (z : Option Nat) (v1 : Int) : Option (((Int) ⊕ (Int))) :=
  if (cm .neq (dv .rem .i64 v1 4) 0) then
  some (Sum.inl (ar .add .i64 v1 1))
else
  Option.map Sum.inr (some v1)

noncomputable def ref03_Round_l1 (z : Option Nat) (v1 : Int) : Option (Int) :=
  loopG z (fun (s : Int) => ref03_Round_s1 z s) (v1)

noncomputable def ref03_Round (z : Option Nat) (n : Int) : Option (Int) :=
  if ((cm .lss n 0) || (cm .gtr n 2147483648)) then
  some 0
else
  ref03_Round_l1 z n

noncomputable def ref03_Fill_s1 (z : Option Nat) (v2 : List Int) : Option (((List Int) ⊕ (List Int))) :=
  if (cm .neq (dv .rem .i64 (v2.length : Int) 4) 0) then
  Option.bind (app v2 [0]) fun x3 =>
    some (Sum.inl x3)
else
  Option.map Sum.inr (some v2)

noncomputable def ref03_Fill_l1 (z : Option Nat) (v2 : List Int) : Option (List Int) :=
  loopG z (fun (s : List Int) => ref03_Fill_s1 z s) (v2)

noncomputable def ref03_Fill (z : Option Nat) (b : List Int) : Option (List Int) :=
  Option.bind (app ([] : List Int) b) fun x1 =>
  ref03_Fill_l1 z x1

noncomputable def ref03_Zero_s1 (z : Option Nat) (b : List Int) (v1 : Int) : Option (((Int) ⊕ (Bool))) :=
  if (cm .lss v1 (b.length : Int)) then
  Option.bind (ix b v1) fun x2 =>
    if (cm .neq x2 0) then
    Option.map Sum.inr (some false)
  else
    some (Sum.inl (ar .add .i64 v1 1))
else
  Option.map Sum.inr (some true)

noncomputable def ref03_Zero_l1 (z : Option Nat) (b : List Int) (v1 : Int) : Option (Bool) :=
  loopG z (fun (s : Int) => ref03_Zero_s1 z b s) (v1)

noncomputable def ref03_Zero (z : Option Nat) (b : List Int) : Option (Bool) :=
  ref03_Zero_l1 z b 0

def ref03_Trail (b : List Int) : Option (Int) :=
  if (cm .eql (b.length : Int) 0) then
  some 0
else
  Option.bind (ix b (ar .sub .i64 (b.length : Int) 1)) fun x1 =>
    if (cm .gtr (IntKind.i64.wrap x1) (b.length : Int)) then
    some 0
  else
    some (IntKind.i64.wrap x1)

noncomputable def ref03_Clean (z : Option Nat) (b : List Int) : Option (Bool) :=
  Option.bind (ref03_Trail b) fun x1 =>
  Option.bind (gT (cm .gtr x1 0) (sub b (ar .sub .i64 (b.length : Int) x1) (ar .sub .i64 (b.length : Int) 1))) fun x2 =>
  Option.bind (gT (cm .gtr x1 0) (ref03_Zero z x2)) fun x3 =>
  some ((cm .gtr x1 0) && x3)

noncomputable def ref03_Add_s1 (z : Option Nat) (n : Int) (v2 : List Int) (v3 : Int) : Option (((List Int × Int) ⊕ (List Int))) :=
  if (cm .lss v3 n) then
  Option.bind (app v2 [0]) fun x4 =>
    some (Sum.inl (x4, (ar .add .i64 v3 1)))
else
  Option.map Sum.inr (Option.bind (app v2 [(IntKind.u8.wrap n)]) fun x5 =>
    some x5)

noncomputable def ref03_Add_l1 (z : Option Nat) (n : Int) (v2 : List Int) (v3 : Int) : Option (List Int) :=
  loopG z (fun (s : List Int × Int) => ref03_Add_s1 z n s.1 s.2) (v2, v3)

noncomputable def ref03_Add (z : Option Nat) (b : List Int) (n : Int) : Option (List Int) :=
  Option.bind (app ([] : List Int) b) fun x1 =>
  ref03_Add_l1 z n x1 1

noncomputable def law03_PadRight (z : Option Nat) (b : List Int) (n : Int) : Option (Bool) :=
  if (cm .gtr (b.length : Int) 3000) then
  some true
else
  Option.bind (ref03_Round z n) fun x1 =>
    Option.bind (gT (!(cm .neq (pad_Round n) x1)) (pad_Fill z b)) fun x2 =>
    Option.bind (gT (!(cm .neq (pad_Round n) x1)) (ref03_Fill z b)) fun x3 =>
    Option.bind (gT (!((cm .neq (pad_Round n) x1) || (sc .neq (b2s x2) (b2s x3)))) (pad_Zero z b)) fun x4 =>
    Option.bind (gT (!((cm .neq (pad_Round n) x1) || (sc .neq (b2s x2) (b2s x3)))) (ref03_Zero z b)) fun x5 =>
    Option.bind (gT (!(((cm .neq (pad_Round n) x1) || (sc .neq (b2s x2) (b2s x3))) || (bq .neq x4 x5))) (pad_Clean z b)) fun x6 =>
    Option.bind (gT (!(((cm .neq (pad_Round n) x1) || (sc .neq (b2s x2) (b2s x3))) || (bq .neq x4 x5))) (ref03_Clean z b)) fun x7 =>
    if ((((cm .neq (pad_Round n) x1) || (sc .neq (b2s x2) (b2s x3))) || (bq .neq x4 x5)) || (bq .neq x6 x7)) then
    some false
  else
    Option.bind (pad_Trail b) fun x8 =>
      Option.bind (ref03_Trail b) fun x9 =>
      if (((cm .neq x8.1 x9) || (bq .neq (cm .eql x8.2 0) (cm .gtr x9 0))) || ((cm .neq x8.2 0) && (cm .neq x8.2 5))) then
      some false
    else
      Option.bind (pad_Add z b n) fun x10 =>
        if ((cm .lss n 1) || (cm .gtr n 255)) then
        some ((cm .eql x10.2 1) && (cm .eql (x10.1.length : Int) 0))
      else
        Option.bind (gT (cm .eql x10.2 0) (ref03_Add z b n)) fun x11 =>
          some ((cm .eql x10.2 0) && (sc .eql (b2s x10.1) (b2s x11)))

noncomputable def law03_PadFill (z : Option Nat) (b : List Int) : Option (Bool) :=
  if (cm .gtr (b.length : Int) 3000) then
  some true
else
  Option.bind (pad_Fill z b) fun x1 =>
    Option.bind (gT ((((cm .eql (dv .rem .i64 (x1.length : Int) 4) 0) && (cm .geq (x1.length : Int) (b.length : Int))) && (cm .lss (ar .sub .i64 (x1.length : Int) (b.length : Int)) 4)) && (cm .eql (x1.length : Int) (pad_Round (b.length : Int)))) (sub x1 0 (b.length : Int))) fun x2 =>
    Option.bind (gT (((((cm .eql (dv .rem .i64 (x1.length : Int) 4) 0) && (cm .geq (x1.length : Int) (b.length : Int))) && (cm .lss (ar .sub .i64 (x1.length : Int) (b.length : Int)) 4)) && (cm .eql (x1.length : Int) (pad_Round (b.length : Int)))) && (sc .eql (b2s x2) (b2s b))) (sub x1 (b.length : Int) (x1.length : Int))) fun x3 =>
    Option.bind (gT (((((cm .eql (dv .rem .i64 (x1.length : Int) 4) 0) && (cm .geq (x1.length : Int) (b.length : Int))) && (cm .lss (ar .sub .i64 (x1.length : Int) (b.length : Int)) 4)) && (cm .eql (x1.length : Int) (pad_Round (b.length : Int)))) && (sc .eql (b2s x2) (b2s b))) (pad_Zero z x3)) fun x4 =>
    Option.bind (gT ((((((cm .eql (dv .rem .i64 (x1.length : Int) 4) 0) && (cm .geq (x1.length : Int) (b.length : Int))) && (cm .lss (ar .sub .i64 (x1.length : Int) (b.length : Int)) 4)) && (cm .eql (x1.length : Int) (pad_Round (b.length : Int)))) && (sc .eql (b2s x2) (b2s b))) && x4) (pad_Fill z x1)) fun x5 =>
    some (((((((cm .eql (dv .rem .i64 (x1.length : Int) 4) 0) && (cm .geq (x1.length : Int) (b.length : Int))) && (cm .lss (ar .sub .i64 (x1.length : Int) (b.length : Int)) 4)) && (cm .eql (x1.length : Int) (pad_Round (b.length : Int)))) && (sc .eql (b2s x2) (b2s b))) && x4) && (sc .eql (b2s x5) (b2s x1)))

noncomputable def law03_PadTrail (z : Option Nat) (b : List Int) (n : Int) (at_ : Int) (by_ : Int) : Option (Bool) :=
  if (cm .gtr (b.length : Int) 3000) then
  some true
else
  Option.bind (pad_Add z b (IntKind.i64.wrap n)) fun x1 =>
    if (cm .eql n 0) then
    some (cm .eql x1.2 1)
  else
    Option.bind (pad_Trail x1.1) fun x2 =>
      Option.bind (gT (!((((cm .neq x1.2 0) || (cm .neq x2.2 0)) || (cm .neq x2.1 (IntKind.i64.wrap n))) || (cm .neq (x1.1.length : Int) (ar .add .i64 (b.length : Int) x2.1)))) (sub x1.1 0 (b.length : Int))) fun x3 =>
      Option.bind (gT (!(((((cm .neq x1.2 0) || (cm .neq x2.2 0)) || (cm .neq x2.1 (IntKind.i64.wrap n))) || (cm .neq (x1.1.length : Int) (ar .add .i64 (b.length : Int) x2.1))) || (sc .neq (b2s x3) (b2s b)))) (pad_Clean z x1.1)) fun x4 =>
      if ((((((cm .neq x1.2 0) || (cm .neq x2.2 0)) || (cm .neq x2.1 (IntKind.i64.wrap n))) || (cm .neq (x1.1.length : Int) (ar .add .i64 (b.length : Int) x2.1))) || (sc .neq (b2s x3) (b2s b))) || (!x4)) then
      some false
    else
      if ((cm .eql n 1) || (cm .eql by_ 0)) then
        some true
      else
        Option.bind (dvO .rem .i64 (IntKind.i64.wrap at_) (ar .sub .i64 x2.1 1)) fun x5 =>
          Option.bind (ix x1.1 (ar .add .i64 (b.length : Int) x5)) fun x6 =>
          Option.bind (pad_Trail (List.set x1.1 ((ar .add .i64 (b.length : Int) x5)).toNat by_)) fun x7 =>
          Option.bind (gT ((cm .eql x7.2 0) && (cm .eql x7.1 (IntKind.i64.wrap n))) (pad_Clean z (List.set x1.1 ((ar .add .i64 (b.length : Int) x5)).toNat by_))) fun x8 =>
          some (((cm .eql x7.2 0) && (cm .eql x7.1 (IntKind.i64.wrap n))) && (!x8))

end Xb
