/- Own text: GModels. -/
import Derived.Test.YthdbckjpoffnpaaGTypes
set_option linter.all false
set_option linter.unusedVariables false
set_option linter.unusedSimpArgs false
set_option linter.unnecessarySimpa false
set_option linter.deprecated false
namespace Xb
open Go
set_option linter.unusedVariables false

def octet_sized (n : Int) : Bool :=
  ((cm .geq n 1) && (cm .leq n 8))

def octet_Put_s1 (y1 : Nat) (v4 : Int) (v5 : List Int) : Option (((Int × List Int) ⊕ (List Int × Int))) :=
  Option.bind (ix v5 (y1 : Int)) fun x6 =>
  some (Sum.inl ((sf .shr .u64 v4 8), (List.set v5 ((y1 : Int) : Int).toNat (IntKind.u8.wrap v4))))

def octet_Put_d1 (v4 : Int) (v5 : List Int) : Option (List Int × Int) :=
  some (v5, 0)

def octet_Put_l1 (x2 : List Int) (v4 : Int) (v5 : List Int) : Option (List Int × Int) :=
  foldX (fun (y1 : Nat) (s : Int × List Int) => octet_Put_s1 y1 s.1 s.2) (fun (s : Int × List Int) => octet_Put_d1 s.1 s.2) (List.range x2.length).reverse (v4, v5)

def octet_Put (v : Int) (n : Int) : Option (List Int × Int) :=
  if (!(octet_sized n)) then
  some ([], 1)
else
  Option.bind (gT (cm .lss n 8) (sfO .shr .u64 v (ar .mul .i64 8 n))) fun x1 =>
    if ((cm .lss n 8) && (cm .gtr x1 0)) then
    some ([], 6)
  else
    Option.bind (mkL (0 : Int) n n) fun x2 =>
      Option.bind (lnO x2) fun x3 =>
      octet_Put_l1 x2 v x2

def pad_zeros (n : Int) : Option (List Int) :=
  Option.bind (mkL (0 : Int) n n) fun x1 =>
  some x1

noncomputable def slices_Concat_j2 (z : Option Nat) (v1 : Int) (v2 : Int) (x3 : List Int) : Option (((Int × Int) ⊕ (List Int))) :=
  some (Sum.inl ((ar .add .i64 v1 (x3.length : Int)), (ar .add .i64 v2 1)))

noncomputable def slices_Concat_s3 (z : Option Nat) (slices : List (List Int)) (v5 : List Int) (v6 : Int) : Option (((List Int × Int) ⊕ (List Int))) :=
  if (cm .lss v6 (slices.length : Int)) then
  Option.bind (ix slices v6) fun x7 =>
    Option.bind (app v5 x7) fun x8 =>
    some (Sum.inl (x8, (ar .add .i64 v6 1)))
else
  Option.map Sum.inr (some v5)

noncomputable def slices_Concat_l3 (z : Option Nat) (slices : List (List Int)) (v5 : List Int) (v6 : Int) : Option (List Int) :=
  loopG z (fun (s : List Int × Int) => slices_Concat_s3 z slices s.1 s.2) (v5, v6)

noncomputable def slices_Concat_s1 (z : Option Nat) (slices : List (List Int)) (v1 : Int) (v2 : Int) : Option (((Int × Int) ⊕ (List Int))) :=
  if (cm .lss v2 (slices.length : Int)) then
  Option.bind (ix slices v2) fun x3 =>
    if (cm .lss (ar .add .i64 v1 (x3.length : Int)) 0) then
    none
  else
    slices_Concat_j2 z v1 v2 x3
else
  Option.map Sum.inr (Option.bind (growL v1) fun x4 =>
    slices_Concat_l3 z slices ([] : List Int) 0)

noncomputable def slices_Concat_l1 (z : Option Nat) (slices : List (List Int)) (v1 : Int) (v2 : Int) : Option (List Int) :=
  loopG z (fun (s : Int × Int) => slices_Concat_s1 z slices s.1 s.2) (v1, v2)

noncomputable def slices_Concat (z : Option Nat) (slices : List (List Int)) : Option (List Int) :=
  slices_Concat_l1 z slices 0 0

noncomputable def pad_Fill (z : Option Nat) (b : List Int) : Option (List Int) :=
  Option.bind (pad_zeros (dv .rem .i64 (ar .sub .i64 4 (dv .rem .i64 (b.length : Int) 4)) 4)) fun x1 =>
  Option.bind (slices_Concat z [b, x1]) fun x2 =>
  some x2

noncomputable def fresh_Write_s1 (z : Option Nat) (l : List Entry) (v1 : List Int) (v2 : Int) : Option (((List Int × Int) ⊕ (List Int × Int))) :=
  if (cm .lss v2 (l.length : Int)) then
  Option.bind (ix l v2) fun x3 =>
    Option.bind (octet_Put (IntKind.u64.wrap x3.ssrc) 4) fun x4 =>
    Option.bind (app x4.1 [x3.seq]) fun x5 =>
    Option.bind (pad_Fill z x5) fun x6 =>
    Option.bind (app v1 x6) fun x7 =>
    some (Sum.inl (x7, (ar .add .i64 v2 1)))
else
  Option.map Sum.inr (some (v1, 0))

noncomputable def fresh_Write_l1 (z : Option Nat) (l : List Entry) (v1 : List Int) (v2 : Int) : Option (List Int × Int) :=
  loopG z (fun (s : List Int × Int) => fresh_Write_s1 z l s.1 s.2) (v1, v2)

noncomputable def fresh_Write (z : Option Nat) (l : List Entry) : Option (List Int × Int) :=
  if ((cm .lss (l.length : Int) 1) || (cm .gtr (l.length : Int) 8190)) then
  some (([] : List Int), 1)
else
  fresh_Write_l1 z l [] 0

def octet_there (b : List Int) (at_ : Int) (n : Int) : Bool :=
  ((cm .leq at_ (b.length : Int)) && (cm .leq n (ar .sub .i64 (b.length : Int) at_)))

noncomputable def octet_Get_s2 (z : Option Nat) (x2 : List Int) (v3 : Int) (v4 : Int) : Option (((Int × Int) ⊕ (Int × Int))) :=
  if (cm .lss v4 (x2.length : Int)) then
  Option.bind (ix x2 v4) fun x5 =>
    some (Sum.inl ((ar .or .u64 (sf .shl .u64 v3 8) (IntKind.u64.wrap x5)), (ar .add .i64 v4 1)))
else
  Option.map Sum.inr (some (v3, 0))

noncomputable def octet_Get_l2 (z : Option Nat) (x2 : List Int) (v3 : Int) (v4 : Int) : Option (Int × Int) :=
  loopG z (fun (s : Int × Int) => octet_Get_s2 z x2 s.1 s.2) (v3, v4)

noncomputable def octet_Get_j1 (z : Option Nat) (b : List Int) (at_ : Int) (n : Int) (v1 : Bool) : Option (Int × Int) :=
  if v1 then
  some (0, 1)
else
  if (!(octet_there b at_ n)) then
    some (0, 2)
  else
    Option.bind (sub b at_ (ar .add .i64 at_ n)) fun x2 =>
      octet_Get_l2 z x2 0 0

noncomputable def octet_Get (z : Option Nat) (b : List Int) (at_ : Int) (n : Int) : Option (Int × Int) :=
  if (!(octet_sized n)) then
  octet_Get_j1 z b at_ n (!(octet_sized n))
else
  octet_Get_j1 z b at_ n (cm .lss at_ 0)

noncomputable def fresh_Read_s2 (z : Option Nat) (y2 : List Int) (v3 : List Entry) : Option (((List Entry) ⊕ (List Entry × Int))) :=
  Option.bind (octet_Get z y2 0 4) fun x4 =>
  Option.bind (ix y2 4) fun x5 =>
  Option.bind (app v3 [(Entry.mk (IntKind.u32.wrap x4.1) x5)]) fun x6 =>
  some (Sum.inl x6)

noncomputable def fresh_Read_d2 (z : Option Nat) (v3 : List Entry) : Option (List Entry × Int) :=
  some (v3, 0)

noncomputable def fresh_Read_l2 (z : Option Nat) (body : List Int) (v3 : List Entry) : Option (List Entry × Int) :=
  foldX (fun (y2 : List Int) (s : List Entry) => fresh_Read_s2 z y2 s) (fun (s : List Entry) => fresh_Read_d2 z s) (chunksL 8 body) (v3)

noncomputable def fresh_Read_j1 (z : Option Nat) (body : List Int) (v1 : Bool) : Option (List Entry × Int) :=
  if v1 then
  some (([] : List Entry), 4)
else
  if (cm .eql (body.length : Int) 0) then
    some (([] : List Entry), 2)
  else
    Option.bind (lnO body) fun x2 =>
      fresh_Read_l2 z body ([] : List Entry)

noncomputable def fresh_Read (z : Option Nat) (body : List Int) : Option (List Entry × Int) :=
  if (cm .gtr (body.length : Int) 65520) then
  fresh_Read_j1 z body (cm .gtr (body.length : Int) 65520)
else
  fresh_Read_j1 z body (cm .gtr (dv .rem .i64 (body.length : Int) 8) 0)

noncomputable def fresh_Anew_j3 (z : Option Nat) (v5 : List (Int × Int)) (v7 : Int) (x8 : Entry) (v9 : List Entry) : Option ((((List (Int × Int)) × List Entry × Int) ⊕ (List Entry))) :=
  Option.bind (mputO v5 x8.ssrc x8.seq) fun x10 =>
  some (Sum.inl (x10, v9, (ar .add .i64 v7 1)))

noncomputable def fresh_Anew_s2 (z : Option Nat) (l : List Entry) (v5 : List (Int × Int)) (v6 : List Entry) (v7 : Int) : Option ((((List (Int × Int)) × List Entry × Int) ⊕ (List Entry))) :=
  if (cm .lss v7 (l.length : Int)) then
  Option.bind (ix l v7) fun x8 =>
    if ((!(mhas v5 x8.ssrc)) || (cm .neq (mgetD v5 x8.ssrc 0) x8.seq)) then
    Option.bind (app v6 [x8]) fun x11 =>
      fresh_Anew_j3 z v5 v7 x8 x11
  else
    fresh_Anew_j3 z v5 v7 x8 v6
else
  Option.map Sum.inr (some v6)

noncomputable def fresh_Anew_l2 (z : Option Nat) (l : List Entry) (v5 : List (Int × Int)) (v6 : List Entry) (v7 : Int) : Option (List Entry) :=
  loopG z (fun (s : (List (Int × Int)) × List Entry × Int) => fresh_Anew_s2 z l s.1 s.2.1 s.2.2) (v5, v6, v7)

noncomputable def fresh_Anew_s1 (z : Option Nat) (was : List Entry) (l : List Entry) (v1 : List (Int × Int)) (v2 : Int) : Option ((((List (Int × Int)) × Int) ⊕ (List Entry))) :=
  if (cm .lss v2 (was.length : Int)) then
  Option.bind (ix was v2) fun x3 =>
    Option.bind (mputO v1 x3.ssrc x3.seq) fun x4 =>
    some (Sum.inl (x4, (ar .add .i64 v2 1)))
else
  Option.map Sum.inr (fresh_Anew_l2 z l v1 [] 0)

noncomputable def fresh_Anew_l1 (z : Option Nat) (was : List Entry) (l : List Entry) (v1 : List (Int × Int)) (v2 : Int) : Option (List Entry) :=
  loopG z (fun (s : (List (Int × Int)) × Int) => fresh_Anew_s1 z was l s.1 s.2) (v1, v2)

noncomputable def fresh_Anew (z : Option Nat) (was : List Entry) (l : List Entry) : Option (List Entry) :=
  fresh_Anew_l1 z was l ([] : List (Int × Int)) 0

noncomputable def ref16_Same_s1 (z : Option Nat) (p_a : List Entry) (b : List Entry) (v1 : Int) : Option (((Int) ⊕ (Bool))) :=
  if (cm .lss v1 (p_a.length : Int)) then
  Option.bind (ix p_a v1) fun x2 =>
    Option.bind (ix b v1) fun x3 =>
    if (!(x2.ssrc == x3.ssrc && (x2.seq == x3.seq && true))) then
    Option.map Sum.inr (some false)
  else
    some (Sum.inl (ar .add .i64 v1 1))
else
  Option.map Sum.inr (some true)

noncomputable def ref16_Same_l1 (z : Option Nat) (p_a : List Entry) (b : List Entry) (v1 : Int) : Option (Bool) :=
  loopG z (fun (s : Int) => ref16_Same_s1 z p_a b s) (v1)

noncomputable def ref16_Same (z : Option Nat) (p_a : List Entry) (b : List Entry) : Option (Bool) :=
  if (cm .neq (p_a.length : Int) (b.length : Int)) then
  some false
else
  ref16_Same_l1 z p_a b 0

def bytes_Equal (p_a : List Int) (b : List Int) : Bool :=
  (sc .eql (b2s p_a) (b2s b))

def internal_bytealg_Cutover (n : Int) : Int :=
  (dv .quo .i64 (ar .add .i64 n 16) 8)

noncomputable def internal_bytealg_hashStr_j3 (z : Option Nat) (v5 : Int) (v6 : Int) (v7 : Int) : Option (((Int × Int × Int) ⊕ (Int × Int))) :=
  some (Sum.inl (v7, (ar .mul .u32 v5 v5), (sf .shr .i64 v6 1)))

noncomputable def internal_bytealg_hashStr_s2 (z : Option Nat) (v1 : Int) (v4 : Int) (v5 : Int) (v6 : Int) : Option (((Int × Int × Int) ⊕ (Int × Int))) :=
  if (cm .gtr v6 0) then
  if (cm .neq (ar .and .i64 v6 1) 0) then
    internal_bytealg_hashStr_j3 z v5 v6 (ar .mul .u32 v4 v5)
  else
    internal_bytealg_hashStr_j3 z v5 v6 v4
else
  Option.map Sum.inr (some (v1, v4))

noncomputable def internal_bytealg_hashStr_l2 (z : Option Nat) (v1 : Int) (v4 : Int) (v5 : Int) (v6 : Int) : Option (Int × Int) :=
  loopG z (fun (s : Int × Int × Int) => internal_bytealg_hashStr_s2 z v1 s.1 s.2.1 s.2.2) (v4, v5, v6)

noncomputable def internal_bytealg_hashStr_s1 (z : Option Nat) (sep : List Int) (v1 : Int) (v2 : Int) : Option (((Int × Int) ⊕ (Int × Int))) :=
  if (cm .lss v2 (sep.length : Int)) then
  Option.bind (ix sep v2) fun x3 =>
    some (Sum.inl ((ar .add .u32 (ar .mul .u32 v1 16777619) (IntKind.u32.wrap x3)), (ar .add .i64 v2 1)))
else
  Option.map Sum.inr (internal_bytealg_hashStr_l2 z v1 1 16777619 (sep.length : Int))

noncomputable def internal_bytealg_hashStr_l1 (z : Option Nat) (sep : List Int) (v1 : Int) (v2 : Int) : Option (Int × Int) :=
  loopG z (fun (s : Int × Int) => internal_bytealg_hashStr_s1 z sep s.1 s.2) (v1, v2)

noncomputable def internal_bytealg_hashStr (z : Option Nat) (sep : List Int) : Option (Int × Int) :=
  internal_bytealg_hashStr_l1 z sep 0 0

noncomputable def internal_bytealg_IndexRabinKarp_s2 (z : Option Nat) (p_s : List Int) (sep : List Int) (x1 : Int × Int) (v6 : Int) (v7 : Int) : Option (((Int × Int) ⊕ (Int))) :=
  if (cm .lss v7 (p_s.length : Int)) then
  Option.bind (ix p_s v7) fun x8 =>
    Option.bind (ix p_s (ar .sub .i64 v7 (sep.length : Int))) fun x9 =>
    Option.bind (gT (cm .eql (ar .sub .u32 (ar .add .u32 (ar .mul .u32 v6 16777619) (IntKind.u32.wrap x8)) (ar .mul .u32 x1.2 (IntKind.u32.wrap x9))) x1.1) (sub p_s (ar .sub .i64 (ar .add .i64 v7 1) (sep.length : Int)) (ar .add .i64 v7 1))) fun x10 =>
    if ((cm .eql (ar .sub .u32 (ar .add .u32 (ar .mul .u32 v6 16777619) (IntKind.u32.wrap x8)) (ar .mul .u32 x1.2 (IntKind.u32.wrap x9))) x1.1) && (sc .eql (b2s x10) (b2s sep))) then
    Option.map Sum.inr (some (ar .sub .i64 (ar .add .i64 v7 1) (sep.length : Int)))
  else
    some (Sum.inl ((ar .sub .u32 (ar .add .u32 (ar .mul .u32 v6 16777619) (IntKind.u32.wrap x8)) (ar .mul .u32 x1.2 (IntKind.u32.wrap x9))), (ar .add .i64 v7 1)))
else
  Option.map Sum.inr (some (-1))

noncomputable def internal_bytealg_IndexRabinKarp_l2 (z : Option Nat) (p_s : List Int) (sep : List Int) (x1 : Int × Int) (v6 : Int) (v7 : Int) : Option (Int) :=
  loopG z (fun (s : Int × Int) => internal_bytealg_IndexRabinKarp_s2 z p_s sep x1 s.1 s.2) (v6, v7)

noncomputable def internal_bytealg_IndexRabinKarp_s1 (z : Option Nat) (p_s : List Int) (sep : List Int) (x1 : Int × Int) (v2 : Int) (v3 : Int) : Option (((Int × Int) ⊕ (Int))) :=
  if (cm .lss v3 (sep.length : Int)) then
  Option.bind (ix p_s v3) fun x4 =>
    some (Sum.inl ((ar .add .u32 (ar .mul .u32 v2 16777619) (IntKind.u32.wrap x4)), (ar .add .i64 v3 1)))
else
  Option.map Sum.inr (Option.bind (gT (cm .eql v2 x1.1) (sub p_s 0 (sep.length : Int))) fun x5 =>
    if ((cm .eql v2 x1.1) && (sc .eql (b2s x5) (b2s sep))) then
    some 0
  else
    internal_bytealg_IndexRabinKarp_l2 z p_s sep x1 v2 (sep.length : Int))

noncomputable def internal_bytealg_IndexRabinKarp_l1 (z : Option Nat) (p_s : List Int) (sep : List Int) (x1 : Int × Int) (v2 : Int) (v3 : Int) : Option (Int) :=
  loopG z (fun (s : Int × Int) => internal_bytealg_IndexRabinKarp_s1 z p_s sep x1 s.1 s.2) (v2, v3)

noncomputable def internal_bytealg_IndexRabinKarp (z : Option Nat) (p_s : List Int) (sep : List Int) : Option (Int) :=
  Option.bind (internal_bytealg_hashStr z sep) fun x1 =>
  internal_bytealg_IndexRabinKarp_l1 z p_s sep x1 0 0

noncomputable def bytes_Count_s1 (z : Option Nat) (v2 : List Int) (v3 : Int) : Option (((List Int × Int) ⊕ (Int))) :=
  none

noncomputable def bytes_Count_l1 (z : Option Nat) (v2 : List Int) (v3 : Int) : Option (Int) :=
  loopG z (fun (s : List Int × Int) => bytes_Count_s1 z s.1 s.2) (v2, v3)

noncomputable def bytes_Count (z : Option Nat) (p_s : List Int) (sep : List Int) : Option (Int) :=
  if (cm .eql (sep.length : Int) 0) then
  none
else
  if (cm .eql (sep.length : Int) 1) then
    Option.bind (ix sep 0) fun x1 =>
      some (countB p_s x1)
  else
    bytes_Count_l1 z p_s 0

noncomputable def pad_Zero (z : Option Nat) (b : List Int) : Option (Bool) :=
  Option.bind (bytes_Count z b [0]) fun x1 =>
  some (cm .eql x1 (b.length : Int))

noncomputable def fresh_Canon_s1 (z : Option Nat) (x1 : List Entry × Int) (y1 : List Int) (v3 : Bool) : Option (((Bool) ⊕ (Bool))) :=
  Option.bind (gT (cm .eql x1.2 0) (sub y1 5 (y1.length : Int))) fun x4 =>
  Option.bind (gT (cm .eql x1.2 0) (pad_Zero z x4)) fun x5 =>
  if ((cm .eql x1.2 0) && (!x5)) then
  Option.map Sum.inr (some false)
else
  some (Sum.inl v3)

noncomputable def fresh_Canon_d1 (z : Option Nat) (x1 : List Entry × Int) (v3 : Bool) : Option (Bool) :=
  some (cm .eql x1.2 0)

noncomputable def fresh_Canon_l1 (z : Option Nat) (body : List Int) (x1 : List Entry × Int) (v3 : Bool) : Option (Bool) :=
  foldX (fun (y1 : List Int) (s : Bool) => fresh_Canon_s1 z x1 y1 s) (fun (s : Bool) => fresh_Canon_d1 z x1 s) (chunksL 8 body) (v3)

noncomputable def fresh_Canon (z : Option Nat) (body : List Int) : Option (Bool) :=
  Option.bind (fresh_Read z body) fun x1 =>
  Option.bind (lnO body) fun x2 =>
  fresh_Canon_l1 z body x1 false

noncomputable def law16_awake (z : Option Nat)  : Option (Bool) :=
  Option.bind (fresh_Write z [(Entry.mk 5 1), (Entry.mk 5 2), (Entry.mk 5 2), (Entry.mk 6 0)]) fun x1 =>
  Option.bind (fresh_Read z x1.1) fun x2 =>
  Option.bind (sub [(Entry.mk 5 1), (Entry.mk 5 2), (Entry.mk 5 2), (Entry.mk 6 0)] 0 1) fun x3 =>
  Option.bind (fresh_Anew z x3 [(Entry.mk 5 1), (Entry.mk 5 2), (Entry.mk 5 2), (Entry.mk 6 0)]) fun x4 =>
  if (cm .neq (x1.1.length : Int) 32) then
  some false
else
  Option.bind (app ([] : List Int) x1.1) fun x5 =>
    Option.bind (ix x5 7) fun x6 =>
    Option.bind (fresh_Read z (List.set x5 (7 : Int).toNat 1)) fun x7 =>
    Option.bind (gT (((cm .eql x1.2 0) && (cm .eql x2.2 0)) && (cm .eql x7.2 0)) (ix x1.1 4)) fun x8 =>
    Option.bind (gT ((((cm .eql x1.2 0) && (cm .eql x2.2 0)) && (cm .eql x7.2 0)) && (cm .eql x8 1)) (ref16_Same z [(Entry.mk 5 1), (Entry.mk 5 2), (Entry.mk 5 2), (Entry.mk 6 0)] x2.1)) fun x9 =>
    Option.bind (gT ((((((cm .eql x1.2 0) && (cm .eql x2.2 0)) && (cm .eql x7.2 0)) && (cm .eql x8 1)) && x9) && (cm .eql (x4.length : Int) 2)) (ix x4 0)) fun x10 =>
    Option.bind (gT ((((((cm .eql x1.2 0) && (cm .eql x2.2 0)) && (cm .eql x7.2 0)) && (cm .eql x8 1)) && x9) && (cm .eql (x4.length : Int) 2)) (ix [(Entry.mk 5 1), (Entry.mk 5 2), (Entry.mk 5 2), (Entry.mk 6 0)] 1)) fun x11 =>
    Option.bind (gT (((((((cm .eql x1.2 0) && (cm .eql x2.2 0)) && (cm .eql x7.2 0)) && (cm .eql x8 1)) && x9) && (cm .eql (x4.length : Int) 2)) && (x10.ssrc == x11.ssrc && (x10.seq == x11.seq && true))) (ix x4 1)) fun x12 =>
    Option.bind (gT (((((((cm .eql x1.2 0) && (cm .eql x2.2 0)) && (cm .eql x7.2 0)) && (cm .eql x8 1)) && x9) && (cm .eql (x4.length : Int) 2)) && (x10.ssrc == x11.ssrc && (x10.seq == x11.seq && true))) (ix [(Entry.mk 5 1), (Entry.mk 5 2), (Entry.mk 5 2), (Entry.mk 6 0)] 3)) fun x13 =>
    Option.bind (gT ((((((((cm .eql x1.2 0) && (cm .eql x2.2 0)) && (cm .eql x7.2 0)) && (cm .eql x8 1)) && x9) && (cm .eql (x4.length : Int) 2)) && (x10.ssrc == x11.ssrc && (x10.seq == x11.seq && true))) && (x12.ssrc == x13.ssrc && (x12.seq == x13.seq && true))) (fresh_Canon z x1.1)) fun x14 =>
    Option.bind (gT (((((((((cm .eql x1.2 0) && (cm .eql x2.2 0)) && (cm .eql x7.2 0)) && (cm .eql x8 1)) && x9) && (cm .eql (x4.length : Int) 2)) && (x10.ssrc == x11.ssrc && (x10.seq == x11.seq && true))) && (x12.ssrc == x13.ssrc && (x12.seq == x13.seq && true))) && x14) (fresh_Canon z (List.set x5 (7 : Int).toNat 1))) fun x15 =>
    some ((((((((((cm .eql x1.2 0) && (cm .eql x2.2 0)) && (cm .eql x7.2 0)) && (cm .eql x8 1)) && x9) && (cm .eql (x4.length : Int) 2)) && (x10.ssrc == x11.ssrc && (x10.seq == x11.seq && true))) && (x12.ssrc == x13.ssrc && (x12.seq == x13.seq && true))) && x14) && (!x15))

noncomputable def law16_FreshBack_j1 (z : Option Nat) (b : List Int) (more : Int) : Option (Bool) :=
  Option.bind (mkL ((Entry.mk 0 0) : Entry) (ar .add .i64 8100 (dv .rem .i64 (IntKind.i64.wrap more) 100)) (ar .add .i64 8100 (dv .rem .i64 (IntKind.i64.wrap more) 100))) fun x2 =>
  Option.bind (fresh_Write z x2) fun x3 =>
  if (bq .neq (cm .eql x3.2 0) (cm .leq (ar .add .i64 8100 (dv .rem .i64 (IntKind.i64.wrap more) 100)) 8190)) then
  some false
else
  Option.bind (fresh_Read z b) fun x4 =>
    if (cm .neq x4.2 0) then
    Option.bind (gT (cm .eql (x4.1.length : Int) 0) (fresh_Canon z b)) fun x5 =>
      some ((cm .eql (x4.1.length : Int) 0) && (!x5))
  else
    Option.bind (fresh_Write z x4.1) fun x6 =>
      Option.bind (gT ((cm .eql x6.2 0) && (cm .eql (x6.1.length : Int) (b.length : Int))) (fresh_Canon z b)) fun x7 =>
      some (((cm .eql x6.2 0) && (cm .eql (x6.1.length : Int) (b.length : Int))) && (bq .eql x7 (sc .eql (b2s x6.1) (b2s b))))

noncomputable def law16_FreshBack (z : Option Nat) (l : List Entry) (b : List Int) (more : Int) : Option (Bool) :=
  if ((cm .gtr (l.length : Int) 300) || (cm .gtr (b.length : Int) 70000)) then
  some true
else
  Option.bind (fresh_Write z l) fun x1 =>
    if (bq .neq (cm .eql x1.2 0) (cm .gtr (l.length : Int) 0)) then
    some false
  else
    if (cm .eql x1.2 0) then
      Option.bind (fresh_Read z x1.1) fun x8 =>
        Option.bind (gT (!(cm .neq x8.2 0)) (ref16_Same z x8.1 l)) fun x9 =>
        Option.bind (gT (!((cm .neq x8.2 0) || (!x9))) (fresh_Canon z x1.1)) fun x10 =>
        if ((((cm .neq x8.2 0) || (!x9)) || (!x10)) || (cm .neq (x1.1.length : Int) (ar .mul .i64 8 (l.length : Int)))) then
        some false
      else
        law16_FreshBack_j1 z b more
    else
      law16_FreshBack_j1 z b more

end Xb
