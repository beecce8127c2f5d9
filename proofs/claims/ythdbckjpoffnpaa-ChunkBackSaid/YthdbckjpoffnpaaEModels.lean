/- Own text: EModels. -/
import Derived.Test.YthdbckjpoffnpaaETypes
set_option linter.all false
set_option linter.unusedVariables false
set_option linter.unusedSimpArgs false
set_option linter.unnecessarySimpa false
set_option linter.deprecated false
namespace Xb
open Go
set_option linter.unusedVariables false

noncomputable def slices_IndexFunc_s1 (z : Option Nat) (p_s : List Int) (f : (Int → Option Bool)) (v1 : Int) : Option (((Int) ⊕ (Int))) :=
  if (cm .lss v1 (p_s.length : Int)) then
  Option.bind (ix p_s v1) fun x2 =>
    Option.bind (f x2) fun x3 =>
    if x3 then
    Option.map Sum.inr (some v1)
  else
    some (Sum.inl (ar .add .i64 v1 1))
else
  Option.map Sum.inr (some (-1))

noncomputable def slices_IndexFunc_l1 (z : Option Nat) (p_s : List Int) (f : (Int → Option Bool)) (v1 : Int) : Option (Int) :=
  loopG z (fun (s : Int) => slices_IndexFunc_s1 z p_s f s) (v1)

noncomputable def slices_IndexFunc (z : Option Nat) (p_s : List Int) (f : (Int → Option Bool)) : Option (Int) :=
  slices_IndexFunc_l1 z p_s f 0

noncomputable def slices_ContainsFunc (z : Option Nat) (p_s : List Int) (f : (Int → Option Bool)) : Option (Bool) :=
  Option.bind (slices_IndexFunc z p_s f) fun x1 =>
  some (cm .geq x1 0)

def chunk_Write_1 (x : Int) : Bool :=
  ((cm .lss x 0) || (cm .gtr x 2))

def chunk_run_1 (x : Int) (cap0 : List Int) : Option (Bool) :=
  Option.bind (ix cap0 0) fun x1 =>
  some (cm .neq x x1)

noncomputable def chunk_run (z : Option Nat) (l : List Int) : Option (Int) :=
  Option.bind (slices_IndexFunc z l (fun (y0 : Int) => chunk_run_1 y0 l)) fun x1 =>
  if (cm .geq x1 0) then
  some x1
else
  some (l.length : Int)

noncomputable def slices_Index_s1 (z : Option Nat) (p_s : List Int) (v : Int) (v1 : Int) : Option (((Int) ⊕ (Int))) :=
  if (cm .lss v1 (p_s.length : Int)) then
  Option.bind (ix p_s v1) fun x2 =>
    if (cm .eql v x2) then
    Option.map Sum.inr (some v1)
  else
    some (Sum.inl (ar .add .i64 v1 1))
else
  Option.map Sum.inr (some (-1))

noncomputable def slices_Index_l1 (z : Option Nat) (p_s : List Int) (v : Int) (v1 : Int) : Option (Int) :=
  loopG z (fun (s : Int) => slices_Index_s1 z p_s v s) (v1)

noncomputable def slices_Index (z : Option Nat) (p_s : List Int) (v : Int) : Option (Int) :=
  slices_Index_l1 z p_s v 0

noncomputable def slices_Contains (z : Option Nat) (p_s : List Int) (v : Int) : Option (Bool) :=
  Option.bind (slices_Index z p_s v) fun x1 =>
  some (cm .geq x1 0)

noncomputable def chunk_pack_j2 (z : Option Nat) (v2 : Int) (v4 : Int) : Option (((Int × Int) ⊕ (Int))) :=
  some (Sum.inl (v4, (ar .add .i64 v2 1)))

noncomputable def chunk_pack_s1 (z : Option Nat) (l : List Int) (bits : Int) (many : Int) (v1 : Int) (v2 : Int) : Option (((Int × Int) ⊕ (Int))) :=
  if (cm .lss v2 many) then
  Option.bind (sfO .shl .i64 v1 bits) fun x3 =>
    if (cm .lss v2 (l.length : Int)) then
    Option.bind (ix l v2) fun x5 =>
      chunk_pack_j2 z v2 (ar .or .i64 x3 x5)
  else
    chunk_pack_j2 z v2 x3
else
  Option.map Sum.inr (some (IntKind.u16.wrap v1))

noncomputable def chunk_pack_l1 (z : Option Nat) (l : List Int) (bits : Int) (many : Int) (v1 : Int) (v2 : Int) : Option (Int) :=
  loopG z (fun (s : Int × Int) => chunk_pack_s1 z l bits many s.1 s.2) (v1, v2)

noncomputable def chunk_pack (z : Option Nat) (l : List Int) (bits : Int) (many : Int) : Option (Int) :=
  chunk_pack_l1 z l bits many 0 0

noncomputable def chunk_first (z : Option Nat) (l : List Int) : Option (Int × Int) :=
  Option.bind (chunk_run z l) fun x1 =>
  if ((cm .geq x1 14) || (cm .eql x1 (l.length : Int))) then
  Option.bind (ix l 0) fun x2 =>
    some ((IntKind.u16.wrap (ar .or .i64 (sf .shl .i64 x2 13) (imin x1 8191))), (imin x1 8191))
else
  Option.bind (sub l 0 (imin (l.length : Int) 14)) fun x3 =>
    Option.bind (slices_Contains z x3 2) fun x4 =>
    if (!x4) then
    Option.bind (sub l 0 (imin (l.length : Int) 14)) fun x5 =>
      Option.bind (chunk_pack z x5 1 14) fun x6 =>
      some ((ar .or .u16 32768 x6), (imin (l.length : Int) 14))
  else
    Option.bind (sub l 0 (imin (l.length : Int) 7)) fun x7 =>
      Option.bind (chunk_pack z x7 2 7) fun x8 =>
      some ((ar .or .u16 49152 x8), (imin (l.length : Int) 7))

noncomputable def chunk_Write_s1 (z : Option Nat) (v2 : List Int) (v3 : List Int) : Option (((List Int × List Int) ⊕ (List Int × Int))) :=
  if (cm .gtr (v2.length : Int) 0) then
  Option.bind (chunk_first z v2) fun x4 =>
    Option.bind (app v3 [x4.1]) fun x5 =>
    Option.bind (sub v2 x4.2 (v2.length : Int)) fun x6 =>
    some (Sum.inl (x6, x5))
else
  Option.map Sum.inr (some (v3, 0))

noncomputable def chunk_Write_l1 (z : Option Nat) (v2 : List Int) (v3 : List Int) : Option (List Int × Int) :=
  loopG z (fun (s : List Int × List Int) => chunk_Write_s1 z s.1 s.2) (v2, v3)

noncomputable def chunk_Write (z : Option Nat) (l : List Int) : Option (List Int × Int) :=
  Option.bind (slices_ContainsFunc z l (fun (y0 : Int) => some (chunk_Write_1 y0))) fun x1 =>
  if x1 then
  some (([] : List Int), 1)
else
  chunk_Write_l1 z l []

def math_bits_Mul32 (x : Int) (y : Int) : Int × Int :=
  ((IntKind.u32.wrap (sf .shr .u64 (ar .mul .u64 (IntKind.u64.wrap x) (IntKind.u64.wrap y)) 32)), (IntKind.u32.wrap (ar .mul .u64 (IntKind.u64.wrap x) (IntKind.u64.wrap y))))

def math_bits_Mul64 (x : Int) (y : Int) : Int × Int :=
  ((ar .add .u64 (ar .add .u64 (ar .mul .u64 (sf .shr .u64 x 32) (sf .shr .u64 y 32)) (sf .shr .u64 (ar .add .u64 (ar .mul .u64 (sf .shr .u64 x 32) (ar .and .u64 y 4294967295)) (sf .shr .u64 (ar .mul .u64 (ar .and .u64 x 4294967295) (ar .and .u64 y 4294967295)) 32)) 32)) (sf .shr .u64 (ar .add .u64 (ar .and .u64 (ar .add .u64 (ar .mul .u64 (sf .shr .u64 x 32) (ar .and .u64 y 4294967295)) (sf .shr .u64 (ar .mul .u64 (ar .and .u64 x 4294967295) (ar .and .u64 y 4294967295)) 32)) 4294967295) (ar .mul .u64 (ar .and .u64 x 4294967295) (sf .shr .u64 y 32))) 32)), (ar .mul .u64 x y))

def math_bits_Mul (x : Int) (y : Int) : Int × Int :=
  ((math_bits_Mul64 x y).1, (math_bits_Mul64 x y).2)

noncomputable def slices_Repeat_s3 (z : Option Nat) (v2 : List Int) (v3 : Int) : Option (((List Int × Int) ⊕ (List Int))) :=
  if (cm .lss v3 (v2.length : Int)) then
  Option.bind (sub v2 v3 (v2.length : Int)) fun x4 =>
    Option.bind (sub v2 0 v3) fun x5 =>
    some (Sum.inl ((cpy v2 v3 (v2.length : Int) x5), (ar .add .i64 v3 (cpn v3 (v2.length : Int) x5))))
else
  Option.map Sum.inr (some v2)

noncomputable def slices_Repeat_l3 (z : Option Nat) (v2 : List Int) (v3 : Int) : Option (List Int) :=
  loopG z (fun (s : List Int × Int) => slices_Repeat_s3 z s.1 s.2) (v2, v3)

noncomputable def slices_Repeat_j2 (z : Option Nat) (x : List Int) (count : Int) : Option (List Int) :=
  Option.bind (mkL (0 : Int) (IntKind.i64.wrap ((math_bits_Mul (IntKind.u64.wrap (x.length : Int)) (IntKind.u64.wrap count)).2)) (IntKind.i64.wrap ((math_bits_Mul (IntKind.u64.wrap (x.length : Int)) (IntKind.u64.wrap count)).2))) fun x1 =>
  slices_Repeat_l3 z (cpy x1 0 (x1.length : Int) x) (cpn 0 (x1.length : Int) x)

noncomputable def slices_Repeat_j1 (z : Option Nat) (x : List Int) (count : Int) : Option (List Int) :=
  if ((cm .gtr ((math_bits_Mul (IntKind.u64.wrap (x.length : Int)) (IntKind.u64.wrap count)).1) 0) || (cm .gtr ((math_bits_Mul (IntKind.u64.wrap (x.length : Int)) (IntKind.u64.wrap count)).2) 9223372036854775807)) then
  none
else
  slices_Repeat_j2 z x count

noncomputable def slices_Repeat (z : Option Nat) (x : List Int) (count : Int) : Option (List Int) :=
  if (cm .lss count 0) then
  none
else
  slices_Repeat_j1 z x count

noncomputable def chunk_told_s2 (z : Option Nat) (c : Int) (most : Int) (v2 : Int) (v3 : Int) (v4 : List Int) (v5 : Int) : Option (((List Int × Int) ⊕ (List Int))) :=
  if (cm .lss v5 (imin v3 most)) then
  Option.bind (sfO .shr .u16 c (ar .mul .i64 v2 (ar .sub .i64 (ar .sub .i64 v3 1) v5))) fun x6 =>
    Option.bind (sfO .shl .i64 1 v2) fun x7 =>
    Option.bind (app v4 [(ar .and .i64 (IntKind.i64.wrap x6) (ar .sub .i64 x7 1))]) fun x8 =>
    some (Sum.inl (x8, (ar .add .i64 v5 1)))
else
  Option.map Sum.inr (some v4)

noncomputable def chunk_told_l2 (z : Option Nat) (c : Int) (most : Int) (v2 : Int) (v3 : Int) (v4 : List Int) (v5 : Int) : Option (List Int) :=
  loopG z (fun (s : List Int × Int) => chunk_told_s2 z c most v2 v3 s.1 s.2) (v4, v5)

noncomputable def chunk_told_j1 (z : Option Nat) (c : Int) (most : Int) (v2 : Int) (v3 : Int) : Option (List Int) :=
  chunk_told_l2 z c most v2 v3 [] 0

noncomputable def chunk_told (z : Option Nat) (c : Int) (most : Int) : Option (List Int) :=
  if (cm .eql (ar .and .u16 c 32768) 0) then
  Option.bind (slices_Repeat z [(IntKind.i64.wrap (sf .shr .u16 c 13))] (imin (IntKind.i64.wrap (ar .and .u16 c 8191)) most)) fun x1 =>
    some x1
else
  if (cm .gtr (ar .and .u16 c 16384) 0) then
    chunk_told_j1 z c most 2 7
  else
    chunk_told_j1 z c most 1 14

noncomputable def chunk_Read_s1 (z : Option Nat) (chunks : List Int) (count : Int) (v1 : List Int) (v2 : Int) : Option (((List Int × Int) ⊕ (List Int × Int × Int))) :=
  if (cm .lss (v1.length : Int) count) then
  if (cm .eql v2 (chunks.length : Int)) then
    Option.map Sum.inr (some (([] : List Int), 0, 2))
  else
    Option.bind (ix chunks v2) fun x3 =>
      Option.bind (chunk_told z x3 (ar .sub .i64 count (v1.length : Int))) fun x4 =>
      Option.bind (slices_Contains z x4 3) fun x5 =>
      if x5 then
      Option.map Sum.inr (some (([] : List Int), 0, 6))
    else
      Option.bind (app v1 x4) fun x6 =>
        if (cm .eql (x6.length : Int) count) then
        Option.map Sum.inr (some (x6, (ar .add .i64 v2 1), 0))
      else
        some (Sum.inl (x6, (ar .add .i64 v2 1)))
else
  Option.map Sum.inr (some (v1, 0, 0))

noncomputable def chunk_Read_l1 (z : Option Nat) (chunks : List Int) (count : Int) (v1 : List Int) (v2 : Int) : Option (List Int × Int × Int) :=
  loopG z (fun (s : List Int × Int) => chunk_Read_s1 z chunks count s.1 s.2) (v1, v2)

noncomputable def chunk_Read (z : Option Nat) (chunks : List Int) (count : Int) : Option (List Int × Int × Int) :=
  if ((cm .lss count 0) || (cm .gtr count 4000)) then
  some (([] : List Int), 0, 1)
else
  chunk_Read_l1 z chunks count [] 0

noncomputable def ref18_Ints_s1 (z : Option Nat) (p_a : List Int) (b : List Int) (v1 : Int) : Option (((Int) ⊕ (Bool))) :=
  if (cm .lss v1 (p_a.length : Int)) then
  Option.bind (ix p_a v1) fun x2 =>
    Option.bind (ix b v1) fun x3 =>
    if (cm .neq x2 x3) then
    Option.map Sum.inr (some false)
  else
    some (Sum.inl (ar .add .i64 v1 1))
else
  Option.map Sum.inr (some true)

noncomputable def ref18_Ints_l1 (z : Option Nat) (p_a : List Int) (b : List Int) (v1 : Int) : Option (Bool) :=
  loopG z (fun (s : Int) => ref18_Ints_s1 z p_a b s) (v1)

noncomputable def ref18_Ints (z : Option Nat) (p_a : List Int) (b : List Int) : Option (Bool) :=
  if (cm .neq (p_a.length : Int) (b.length : Int)) then
  some false
else
  ref18_Ints_l1 z p_a b 0

noncomputable def chunk_Canon_s1 (z : Option Nat) (chunks : List Int) (v2 : List Int) (v3 : Int) : Option (((List Int × Int) ⊕ (Bool))) :=
  if (cm .lss v3 (chunks.length : Int)) then
  Option.bind (ix chunks v3) fun x4 =>
    if (cm .eql (v2.length : Int) 0) then
    Option.map Sum.inr (some false)
  else
    Option.bind (chunk_first z v2) fun x5 =>
      if (cm .neq x5.1 x4) then
      Option.map Sum.inr (some false)
    else
      Option.bind (sub v2 x5.2 (v2.length : Int)) fun x6 =>
        some (Sum.inl (x6, (ar .add .i64 v3 1)))
else
  Option.map Sum.inr (some (cm .eql (v2.length : Int) 0))

noncomputable def chunk_Canon_l1 (z : Option Nat) (chunks : List Int) (v2 : List Int) (v3 : Int) : Option (Bool) :=
  loopG z (fun (s : List Int × Int) => chunk_Canon_s1 z chunks s.1 s.2) (v2, v3)

noncomputable def chunk_Canon (z : Option Nat) (chunks : List Int) (count : Int) : Option (Bool) :=
  Option.bind (chunk_Read z chunks count) fun x1 =>
  if (cm .neq x1.2.2 0) then
  some false
else
  chunk_Canon_l1 z chunks x1.1 0

noncomputable def law18_awake (z : Option Nat)  : Option (Bool) :=
  Option.bind (chunk_Write z [1, 0, 2]) fun x1 =>
  Option.bind (chunk_Write z [1, 1, 1, 0]) fun x2 =>
  Option.bind (chunk_Read z [8195, 53760, 9] 5) fun x3 =>
  Option.bind (chunk_Read z [24577] 1) fun x4 =>
  Option.bind (gT (((((cm .eql x1.2 0) && (cm .eql x2.2 0)) && (cm .eql x3.2.2 0)) && (cm .eql x4.2.2 6)) && (cm .eql (x1.1.length : Int) 1)) (ix x1.1 0)) fun x5 =>
  Option.bind (gT (((((((cm .eql x1.2 0) && (cm .eql x2.2 0)) && (cm .eql x3.2.2 0)) && (cm .eql x4.2.2 6)) && (cm .eql (x1.1.length : Int) 1)) && (cm .eql x5 53760)) && (cm .eql (x2.1.length : Int) 1)) (ix x2.1 0)) fun x6 =>
  Option.bind (gT (((((((((cm .eql x1.2 0) && (cm .eql x2.2 0)) && (cm .eql x3.2.2 0)) && (cm .eql x4.2.2 6)) && (cm .eql (x1.1.length : Int) 1)) && (cm .eql x5 53760)) && (cm .eql (x2.1.length : Int) 1)) && (cm .eql x6 47104)) && (cm .eql x3.2.1 2)) (ref18_Ints z x3.1 [1, 1, 1, 1, 0])) fun x7 =>
  Option.bind (gT ((((((((((cm .eql x1.2 0) && (cm .eql x2.2 0)) && (cm .eql x3.2.2 0)) && (cm .eql x4.2.2 6)) && (cm .eql (x1.1.length : Int) 1)) && (cm .eql x5 53760)) && (cm .eql (x2.1.length : Int) 1)) && (cm .eql x6 47104)) && (cm .eql x3.2.1 2)) && x7) (chunk_Canon z x1.1 3)) fun x8 =>
  Option.bind (gT (((((((((((cm .eql x1.2 0) && (cm .eql x2.2 0)) && (cm .eql x3.2.2 0)) && (cm .eql x4.2.2 6)) && (cm .eql (x1.1.length : Int) 1)) && (cm .eql x5 53760)) && (cm .eql (x2.1.length : Int) 1)) && (cm .eql x6 47104)) && (cm .eql x3.2.1 2)) && x7) && x8) (chunk_Canon z x1.1 2)) fun x9 =>
  some ((((((((((((cm .eql x1.2 0) && (cm .eql x2.2 0)) && (cm .eql x3.2.2 0)) && (cm .eql x4.2.2 6)) && (cm .eql (x1.1.length : Int) 1)) && (cm .eql x5 53760)) && (cm .eql (x2.1.length : Int) 1)) && (cm .eql x6 47104)) && (cm .eql x3.2.1 2)) && x7) && x8) && (!x9))

def law18_overlap (x : List Int) (p_a : Int) (b : Int) : Option (Bool) :=
  Option.bind (gT (cm .gtr (x.length : Int) 0) (ix x (ar .sub .i64 (x.length : Int) 1))) fun x1 =>
  some ((((cm .gtr (x.length : Int) 0) && (cm .geq x1 32768)) && (cm .lss (ar .sub .i64 p_a b) 14)) && (cm .lss (ar .sub .i64 b p_a) 14))

noncomputable def ref18_Same_s1 (z : Option Nat) (p_a : List Int) (b : List Int) (v1 : Int) : Option (((Int) ⊕ (Bool))) :=
  if (cm .lss v1 (p_a.length : Int)) then
  Option.bind (ix p_a v1) fun x2 =>
    Option.bind (ix b v1) fun x3 =>
    if (cm .neq x2 x3) then
    Option.map Sum.inr (some false)
  else
    some (Sum.inl (ar .add .i64 v1 1))
else
  Option.map Sum.inr (some true)

noncomputable def ref18_Same_l1 (z : Option Nat) (p_a : List Int) (b : List Int) (v1 : Int) : Option (Bool) :=
  loopG z (fun (s : Int) => ref18_Same_s1 z p_a b s) (v1)

noncomputable def ref18_Same (z : Option Nat) (p_a : List Int) (b : List Int) : Option (Bool) :=
  if (cm .neq (p_a.length : Int) (b.length : Int)) then
  some false
else
  ref18_Same_l1 z p_a b 0

noncomputable def law18_ChunkBack_j1 (z : Option Nat) (c : List Int) (count : Int) : Option (Bool) :=
  Option.bind (chunk_Read z c count) fun x2 =>
  if (cm .neq x2.2.2 0) then
  Option.bind (gT ((cm .eql (x2.1.length : Int) 0) && (cm .eql x2.2.1 0)) (chunk_Canon z c count)) fun x3 =>
    some (((cm .eql (x2.1.length : Int) 0) && (cm .eql x2.2.1 0)) && (!x3))
else
  Option.bind (chunk_Write z x2.1) fun x4 =>
    Option.bind (chunk_Read z x4.1 count) fun x5 =>
    Option.bind (gT (((((cm .eql x4.2 0) && (cm .eql x5.2.2 0)) && (cm .eql (x2.1.length : Int) count)) && (cm .geq x2.2.1 0)) && (cm .leq x2.2.1 (c.length : Int))) (ref18_Ints z x2.1 x5.1)) fun x6 =>
    Option.bind (gT ((((((cm .eql x4.2 0) && (cm .eql x5.2.2 0)) && (cm .eql (x2.1.length : Int) count)) && (cm .geq x2.2.1 0)) && (cm .leq x2.2.1 (c.length : Int))) && x6) (chunk_Canon z c count)) fun x7 =>
    Option.bind (gT ((((((cm .eql x4.2 0) && (cm .eql x5.2.2 0)) && (cm .eql (x2.1.length : Int) count)) && (cm .geq x2.2.1 0)) && (cm .leq x2.2.1 (c.length : Int))) && x6) (ref18_Same z x4.1 c)) fun x8 =>
    some (((((((cm .eql x4.2 0) && (cm .eql x5.2.2 0)) && (cm .eql (x2.1.length : Int) count)) && (cm .geq x2.2.1 0)) && (cm .leq x2.2.1 (c.length : Int))) && x6) && (bq .eql x7 x8))

noncomputable def law18_ChunkBack (z : Option Nat) (l : List Int) (c : List Int) (count : Int) (more : List Int) : Option (Bool) :=
  if (((cm .gtr (l.length : Int) 4000) || (cm .gtr (c.length : Int) 3000)) || (cm .gtr (more.length : Int) 30)) then
  some true
else
  Option.bind (chunk_Write z l) fun x1 =>
    if (cm .eql x1.2 0) then
    Option.bind (chunk_Read z x1.1 (l.length : Int)) fun x9 =>
      Option.bind (app ([] : List Int) x1.1) fun x10 =>
      Option.bind (app x10 more) fun x11 =>
      Option.bind (chunk_Read z x11 (l.length : Int)) fun x12 =>
      Option.bind (gT (!((((cm .neq x9.2.2 0) || (cm .neq x12.2.2 0)) || (cm .neq x9.2.1 (x1.1.length : Int))) || (cm .neq x12.2.1 (x1.1.length : Int)))) (ref18_Ints z x9.1 l)) fun x13 =>
      Option.bind (gT (!(((((cm .neq x9.2.2 0) || (cm .neq x12.2.2 0)) || (cm .neq x9.2.1 (x1.1.length : Int))) || (cm .neq x12.2.1 (x1.1.length : Int))) || (!x13))) (ref18_Ints z x12.1 l)) fun x14 =>
      Option.bind (gT (!((((((cm .neq x9.2.2 0) || (cm .neq x12.2.2 0)) || (cm .neq x9.2.1 (x1.1.length : Int))) || (cm .neq x12.2.1 (x1.1.length : Int))) || (!x13)) || (!x14))) (chunk_Canon z x1.1 (l.length : Int))) fun x15 =>
      if (((((((cm .neq x9.2.2 0) || (cm .neq x12.2.2 0)) || (cm .neq x9.2.1 (x1.1.length : Int))) || (cm .neq x12.2.1 (x1.1.length : Int))) || (!x13)) || (!x14)) || (!x15)) then
      some false
    else
      Option.bind (chunk_Canon z x1.1 count) fun x16 =>
        if (x16 && (cm .neq count (l.length : Int))) then
        Option.bind (law18_overlap x1.1 count (l.length : Int)) fun x17 =>
          some x17
      else
        if (cm .gtr (x1.1.length : Int) 0) then
          Option.bind (sub x1.1 0 (ar .sub .i64 (x1.1.length : Int) 1)) fun x18 =>
            Option.bind (chunk_Read z x18 (l.length : Int)) fun x19 =>
            if (cm .neq x19.2.2 2) then
            some false
          else
            law18_ChunkBack_j1 z c count
        else
          law18_ChunkBack_j1 z c count
  else
    law18_ChunkBack_j1 z c count

noncomputable def law18_ChunkFew_s1 (z : Option Nat) (what : Int) (many : Int) (v3 : List Int) (v4 : Int) : Option (((List Int × Int) ⊕ (Bool))) :=
  if (cm .lss v4 (dv .rem .i64 (IntKind.i64.wrap many) 20000)) then
  Option.bind (ix v3 v4) fun x5 =>
    some (Sum.inl ((List.set v3 (v4).toNat (dv .rem .i64 (IntKind.i64.wrap what) 3)), (ar .add .i64 v4 1)))
else
  Option.map Sum.inr (Option.bind (chunk_Write z v3) fun x6 =>
    some ((cm .eql x6.2 0) && (cm .eql (x6.1.length : Int) (dv .quo .i64 (ar .add .i64 (dv .rem .i64 (IntKind.i64.wrap many) 20000) 8190) 8191))))

noncomputable def law18_ChunkFew_l1 (z : Option Nat) (what : Int) (many : Int) (v3 : List Int) (v4 : Int) : Option (Bool) :=
  loopG z (fun (s : List Int × Int) => law18_ChunkFew_s1 z what many s.1 s.2) (v3, v4)

noncomputable def law18_ChunkFew (z : Option Nat) (l : List Int) (what : Int) (many : Int) : Option (Bool) :=
  if (cm .gtr (l.length : Int) 9000) then
  some true
else
  Option.bind (chunk_Write z l) fun x1 =>
    if ((cm .eql x1.2 0) && ((cm .gtr (x1.1.length : Int) (dv .quo .i64 (ar .add .i64 (l.length : Int) 6) 7)) || (bq .neq (cm .eql (x1.1.length : Int) 0) (cm .eql (l.length : Int) 0)))) then
    some false
  else
    Option.bind (mkL (0 : Int) (dv .rem .i64 (IntKind.i64.wrap many) 20000) (dv .rem .i64 (IntKind.i64.wrap many) 20000)) fun x2 =>
      law18_ChunkFew_l1 z what many x2 0

end Xb
