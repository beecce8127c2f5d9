/- Own text: VModels. -/
import Derived.Test.YtecbnklmjehofaaVTypes
set_option linter.all false
set_option linter.unusedVariables false
set_option linter.unusedSimpArgs false
set_option linter.unnecessarySimpa false
set_option linter.deprecated false
namespace Xb
open Go
set_option linter.unusedVariables false

def vp9_most (p_d : Vp9) : Int :=
  if (!p_d.hasPic) then
  0
else
  if p_d.wide then
    32767
  else
    127

def vp9_in (n : Int) (least : Int) (most : Int) : Bool :=
  ((cm .geq n least) && (cm .leq n most))

def vp9_layered (p_d : Vp9) : Bool :=
  if (!p_d.hasLayer) then
  (((((cm .eql p_d.tid 0) && (cm .eql p_d.sid 0)) && (!p_d.up)) && (!p_d.depends)) && (cm .eql p_d.level 0))
else
  ((((vp9_in p_d.tid 0 7) && (vp9_in p_d.sid 0 7)) && (vp9_in p_d.level 0 255)) && ((!p_d.flexible) || (cm .eql p_d.level 0)))

def vp9_referring_1 (n : Int) : Bool :=
  (!(vp9_in n 1 127))

noncomputable def slices_IndexFunc_int_s1 (z : Option Nat) (p_s : List Int) (f : (Int → Option Bool)) (v1 : Int) : Option (((Int) ⊕ (Int))) :=
  if (cm .lss v1 (p_s.length : Int)) then
  Option.bind (ix p_s v1) fun x2 =>
    Option.bind (f x2) fun x3 =>
    if x3 then
    Option.map Sum.inr (some v1)
  else
    some (Sum.inl (ar .add .i64 v1 1))
else
  Option.map Sum.inr (some (-1))

noncomputable def slices_IndexFunc_int_l1 (z : Option Nat) (p_s : List Int) (f : (Int → Option Bool)) (v1 : Int) : Option (Int) :=
  loopG z (fun (s : Int) => slices_IndexFunc_int_s1 z p_s f s) (v1)

noncomputable def slices_IndexFunc_int (z : Option Nat) (p_s : List Int) (f : (Int → Option Bool)) : Option (Int) :=
  slices_IndexFunc_int_l1 z p_s f 0

noncomputable def slices_ContainsFunc_int (z : Option Nat) (p_s : List Int) (f : (Int → Option Bool)) : Option (Bool) :=
  Option.bind (slices_IndexFunc_int z p_s f) fun x1 =>
  some (cm .geq x1 0)

noncomputable def vp9_referring (z : Option Nat) (p_d : Vp9) : Option (Bool) :=
  if ((!p_d.flexible) || (!p_d.inter)) then
  some (cm .eql (p_d.refs.length : Int) 0)
else
  Option.bind (gT (vp9_in (p_d.refs.length : Int) 1 3) (slices_ContainsFunc_int z p_d.refs (fun (y0 : Int) => some (vp9_referring_1 y0)))) fun x1 =>
    some ((vp9_in (p_d.refs.length : Int) 1 3) && (!x1))

def vp9_RightScale_1 (x : Size) : Bool :=
  ((!(vp9_in x.wide 0 65535)) || (!(vp9_in x.high 0 65535)))

noncomputable def slices_IndexFunc_Size_s1 (z : Option Nat) (p_s : List Size) (f : (Size → Option Bool)) (v1 : Int) : Option (((Int) ⊕ (Int))) :=
  if (cm .lss v1 (p_s.length : Int)) then
  Option.bind (ix p_s v1) fun x2 =>
    Option.bind (f x2) fun x3 =>
    if x3 then
    Option.map Sum.inr (some v1)
  else
    some (Sum.inl (ar .add .i64 v1 1))
else
  Option.map Sum.inr (some (-1))

noncomputable def slices_IndexFunc_Size_l1 (z : Option Nat) (p_s : List Size) (f : (Size → Option Bool)) (v1 : Int) : Option (Int) :=
  loopG z (fun (s : Int) => slices_IndexFunc_Size_s1 z p_s f s) (v1)

noncomputable def slices_IndexFunc_Size (z : Option Nat) (p_s : List Size) (f : (Size → Option Bool)) : Option (Int) :=
  slices_IndexFunc_Size_l1 z p_s f 0

noncomputable def slices_ContainsFunc_Size (z : Option Nat) (p_s : List Size) (f : (Size → Option Bool)) : Option (Bool) :=
  Option.bind (slices_IndexFunc_Size z p_s f) fun x1 =>
  some (cm .geq x1 0)

noncomputable def slices_IndexFunc_Group_s1 (z : Option Nat) (p_s : List Group) (f : (Group → Option Bool)) (v1 : Int) : Option (((Int) ⊕ (Int))) :=
  if (cm .lss v1 (p_s.length : Int)) then
  Option.bind (ix p_s v1) fun x2 =>
    Option.bind (f x2) fun x3 =>
    if x3 then
    Option.map Sum.inr (some v1)
  else
    some (Sum.inl (ar .add .i64 v1 1))
else
  Option.map Sum.inr (some (-1))

noncomputable def slices_IndexFunc_Group_l1 (z : Option Nat) (p_s : List Group) (f : (Group → Option Bool)) (v1 : Int) : Option (Int) :=
  loopG z (fun (s : Int) => slices_IndexFunc_Group_s1 z p_s f s) (v1)

noncomputable def slices_IndexFunc_Group (z : Option Nat) (p_s : List Group) (f : (Group → Option Bool)) : Option (Int) :=
  slices_IndexFunc_Group_l1 z p_s f 0

noncomputable def slices_ContainsFunc_Group (z : Option Nat) (p_s : List Group) (f : (Group → Option Bool)) : Option (Bool) :=
  Option.bind (slices_IndexFunc_Group z p_s f) fun x1 =>
  some (cm .geq x1 0)

def vp9_group_1 (n : Int) : Bool :=
  (!(vp9_in n 0 255))

noncomputable def vp9_group (z : Option Nat) (g : Group) : Option (Bool) :=
  Option.bind (gT ((vp9_in g.tid 0 7) && (cm .leq (g.refs.length : Int) 3)) (slices_ContainsFunc_int z g.refs (fun (y0 : Int) => some (vp9_group_1 y0)))) fun x1 =>
  some (((vp9_in g.tid 0 7) && (cm .leq (g.refs.length : Int) 3)) && (!x1))

noncomputable def vp9_RightScale_2 (z : Option Nat) (g : Group) : Option (Bool) :=
  Option.bind (vp9_group z g) fun x1 =>
  some (!x1)

noncomputable def vp9_RightScale_j2 (z : Option Nat) (p_s : Scale) (v1 : Int) (v2 : Int) : Option (Bool) :=
  if (((!(vp9_in p_s.layers 1 8)) || (cm .neq (p_s.sizes.length : Int) v1)) || (cm .gtr (p_s.pics.length : Int) v2)) then
  some false
else
  Option.bind (slices_ContainsFunc_Size z p_s.sizes (fun (y0 : Size) => some (vp9_RightScale_1 y0))) fun x3 =>
    Option.bind (gT (!x3) (slices_ContainsFunc_Group z p_s.pics (fun (y0 : Group) => vp9_RightScale_2 z y0))) fun x4 =>
    some ((!x3) && (!x4))

noncomputable def vp9_RightScale_j1 (z : Option Nat) (p_s : Scale) (v1 : Int) : Option (Bool) :=
  if p_s.hasPics then
  vp9_RightScale_j2 z p_s v1 255
else
  vp9_RightScale_j2 z p_s v1 0

noncomputable def vp9_RightScale (z : Option Nat) (p_s : Scale) : Option (Bool) :=
  if p_s.hasSizes then
  vp9_RightScale_j1 z p_s p_s.layers
else
  vp9_RightScale_j1 z p_s 0

noncomputable def vp9_Right (z : Option Nat) (p_d : Vp9) : Option (Bool) :=
  Option.bind (gT (!(((!(vp9_in p_d.pic 0 (vp9_most p_d))) || ((!p_d.hasPic) && p_d.wide)) || (!(vp9_layered p_d)))) (vp9_referring z p_d)) fun x1 =>
  if ((((!(vp9_in p_d.pic 0 (vp9_most p_d))) || ((!p_d.hasPic) && p_d.wide)) || (!(vp9_layered p_d))) || (!x1)) then
  some false
else
  if (!p_d.hasScale) then
    some (((((cm .eql p_d.scale.layers 0) && (!p_d.scale.hasSizes)) && (!p_d.scale.hasPics)) && (cm .eql (p_d.scale.sizes.length : Int) 0)) && (cm .eql (p_d.scale.pics.length : Int) 0))
  else
    Option.bind (vp9_RightScale z p_d.scale) fun x2 =>
      some x2

def bits_Right (k : Ink) : Option (Bool) :=
  if ((cm .lss k.many 0) || (cm .neq (k.bytes.length : Int) (ar .add .i64 (dv .quo .i64 k.many 8) (imin (dv .rem .i64 k.many 8) 1)))) then
  some false
else
  Option.bind (gT (!(cm .eql (ar .sub .i64 (ar .mul .i64 8 (k.bytes.length : Int)) k.many) 0)) (ix k.bytes (ar .sub .i64 (k.bytes.length : Int) 1))) fun x1 =>
    Option.bind (gT (!(cm .eql (ar .sub .i64 (ar .mul .i64 8 (k.bytes.length : Int)) k.many) 0)) (sfO .shl .u8 1 (ar .sub .i64 (ar .mul .i64 8 (k.bytes.length : Int)) k.many))) fun x2 =>
    some ((cm .eql (ar .sub .i64 (ar .mul .i64 8 (k.bytes.length : Int)) k.many) 0) || (cm .eql (ar .and .u8 x1 (ar .sub .u8 x2 1)) 0))

def math_bits_Len64_j3 (v5 : Int) (v6 : Int) : Option (Int) :=
  Option.bind (ix ([0, 1, 2, 2, 3, 3, 3, 3, 4, 4, 4, 4, 4, 4, 4, 4, 5, 5, 5, 5, 5, 5, 5, 5, 5, 5, 5, 5, 5, 5, 5, 5, 6, 6, 6, 6, 6, 6, 6, 6, 6, 6, 6, 6, 6, 6, 6, 6, 6, 6, 6, 6, 6, 6, 6, 6, 6, 6, 6, 6, 6, 6, 6, 6, 7, 7, 7, 7, 7, 7, 7, 7, 7, 7, 7, 7, 7, 7, 7, 7, 7, 7, 7, 7, 7, 7, 7, 7, 7, 7, 7, 7, 7, 7, 7, 7, 7, 7, 7, 7, 7, 7, 7, 7, 7, 7, 7, 7, 7, 7, 7, 7, 7, 7, 7, 7, 7, 7, 7, 7, 7, 7, 7, 7, 7, 7, 7, 7, 8, 8, 8, 8, 8, 8, 8, 8, 8, 8, 8, 8, 8, 8, 8, 8, 8, 8, 8, 8, 8, 8, 8, 8, 8, 8, 8, 8, 8, 8, 8, 8, 8, 8, 8, 8, 8, 8, 8, 8, 8, 8, 8, 8, 8, 8, 8, 8, 8, 8, 8, 8, 8, 8, 8, 8, 8, 8, 8, 8, 8, 8, 8, 8, 8, 8, 8, 8, 8, 8, 8, 8, 8, 8, 8, 8, 8, 8, 8, 8, 8, 8, 8, 8, 8, 8, 8, 8, 8, 8, 8, 8, 8, 8, 8, 8, 8, 8, 8, 8, 8, 8, 8, 8, 8, 8, 8, 8, 8, 8, 8, 8, 8, 8, 8, 8, 8, 8, 8, 8, 8, 8, 8, 8, 8, 8, 8, 8] : List UInt8) (IntKind.u8.wrap v5)) fun x7 =>
  some (ar .add .i64 v6 (IntKind.i64.wrap (x7.toNat : Int)))

def math_bits_Len64_j2 (v3 : Int) (v4 : Int) : Option (Int) :=
  if (cm .geq v3 256) then
  math_bits_Len64_j3 (sf .shr .u64 v3 8) (ar .add .i64 v4 8)
else
  math_bits_Len64_j3 v3 v4

def math_bits_Len64_j1 (v1 : Int) (v2 : Int) : Option (Int) :=
  if (cm .geq v1 65536) then
  math_bits_Len64_j2 (sf .shr .u64 v1 16) (ar .add .i64 v2 16)
else
  math_bits_Len64_j2 v1 v2

def math_bits_Len64 (x : Int) : Option (Int) :=
  if (cm .geq x 4294967296) then
  math_bits_Len64_j1 (sf .shr .u64 x 32) 32
else
  math_bits_Len64_j1 x 0

def slices_Clone (l : List Int) : Option (List Int) := app [] l

noncomputable def bits_Add_j3 (z : Option Nat) (v : Int) (v5 : Int) (v7 : Ink) (v8 : List Int) (v9 : Int) : Option (((Int × List Int × Ink) ⊕ (Ink × Int))) :=
  Option.bind (ix v8 (ar .sub .i64 (v8.length : Int) 1)) fun x10 =>
  Option.bind (sfO .shr .u64 v (ar .sub .i64 v5 (imin v9 v5))) fun x11 =>
  Option.bind (sfO .shl .u64 1 (imin v9 v5)) fun x12 =>
  Option.bind (sfO .shl .u8 (IntKind.u8.wrap (ar .and .u64 x11 (ar .sub .u64 x12 1))) (ar .sub .i64 v9 (imin v9 v5))) fun x13 =>
  Option.bind (ix v8 (ar .sub .i64 (v8.length : Int) 1)) fun x14 =>
  some (Sum.inl ((ar .sub .i64 v5 (imin v9 v5)), (List.set v8 ((ar .sub .i64 (v8.length : Int) 1) : Int).toNat (ar .or .u8 x10 x13)), { v7 with many := (ar .add .i64 v7.many (imin v9 v5)) }))

noncomputable def bits_Add_s2 (z : Option Nat) (v : Int) (v5 : Int) (v6 : List Int) (v7 : Ink) : Option (((Int × List Int × Ink) ⊕ (Ink × Int))) :=
  if (cm .gtr v5 0) then
  if (cm .eql (ar .sub .i64 (ar .mul .i64 8 (v6.length : Int)) v7.many) 0) then
    Option.bind (app v6 [0]) fun x15 =>
      bits_Add_j3 z v v5 v7 x15 8
  else
    bits_Add_j3 z v v5 v7 v6 (ar .sub .i64 (ar .mul .i64 8 (v6.length : Int)) v7.many)
else
  Option.map Sum.inr (some ({ v7 with bytes := v6 }, 0))

noncomputable def bits_Add_l2 (z : Option Nat) (v : Int) (v5 : Int) (v6 : List Int) (v7 : Ink) : Option (Ink × Int) :=
  loopG z (fun (s : Int × List Int × Ink) => bits_Add_s2 z v s.1 s.2.1 s.2.2) (v5, v6, v7)

noncomputable def bits_Add_j1 (z : Option Nat) (k : Ink) (v : Int) (n : Int) (v2 : Bool) : Option (Ink × Int) :=
  if v2 then
  some (k, 1)
else
  Option.bind (math_bits_Len64 v) fun x3 =>
    if (cm .gtr x3 n) then
    some (k, 6)
  else
    Option.bind (slices_Clone k.bytes) fun x4 =>
      bits_Add_l2 z v n x4 k

noncomputable def bits_Add (z : Option Nat) (k : Ink) (v : Int) (n : Int) : Option (Ink × Int) :=
  Option.bind (bits_Right k) fun x1 =>
  if (!x1) then
  bits_Add_j1 z k v n (!x1)
else
  if (cm .lss n 0) then
    bits_Add_j1 z k v n (cm .lss n 0)
  else
    bits_Add_j1 z k v n (cm .gtr n 64)

def bits_right (c : GBits) : Bool :=
  (((cm .eql c.err 0) && (cm .geq c.at_ 0)) && (cm .leq c.at_ (ar .mul .i64 8 (c.bytes.length : Int))))

def bits_fail_j1 (v1 : GBits) : GBits × Int :=
  (v1, 0)

def bits_fail (c : GBits) (p_e : Int) : GBits × Int :=
  if (cm .eql c.err 0) then
  bits_fail_j1 ({ c with err := p_e })
else
  bits_fail_j1 c

def bits_Left (c : GBits) : Int :=
  if (!(bits_right c)) then
  0
else
  (ar .sub .i64 (ar .mul .i64 8 (c.bytes.length : Int)) c.at_)

noncomputable def bits_Get_s2 (z : Option Nat) (v2 : Int) (v3 : Int) (v4 : GBits) : Option (((Int × Int × GBits) ⊕ (GBits × Int))) :=
  if (cm .gtr v2 0) then
  Option.bind (ix v4.bytes (dv .quo .i64 v4.at_ 8)) fun x5 =>
    Option.bind (sfO .shr .u8 x5 (ar .sub .i64 (ar .sub .i64 8 (dv .rem .i64 v4.at_ 8)) (imin (ar .sub .i64 8 (dv .rem .i64 v4.at_ 8)) v2))) fun x6 =>
    Option.bind (sfO .shl .u8 1 (imin (ar .sub .i64 8 (dv .rem .i64 v4.at_ 8)) v2)) fun x7 =>
    Option.bind (sfO .shl .u64 v3 (imin (ar .sub .i64 8 (dv .rem .i64 v4.at_ 8)) v2)) fun x8 =>
    some (Sum.inl ((ar .sub .i64 v2 (imin (ar .sub .i64 8 (dv .rem .i64 v4.at_ 8)) v2)), (ar .or .u64 x8 (IntKind.u64.wrap (ar .and .u8 x6 (ar .sub .u8 x7 1)))), { v4 with at_ := (ar .add .i64 v4.at_ (imin (ar .sub .i64 8 (dv .rem .i64 v4.at_ 8)) v2)) }))
else
  Option.map Sum.inr (some (v4, v3))

noncomputable def bits_Get_l2 (z : Option Nat) (v2 : Int) (v3 : Int) (v4 : GBits) : Option (GBits × Int) :=
  loopG z (fun (s : Int × Int × GBits) => bits_Get_s2 z s.1 s.2.1 s.2.2) (v2, v3, v4)

noncomputable def bits_Get_j1 (z : Option Nat) (c : GBits) (n : Int) (v1 : Bool) : Option (GBits × Int) :=
  if v1 then
  some ((bits_fail c 1).1, (bits_fail c 1).2)
else
  if (cm .gtr n (bits_Left c)) then
    some ((bits_fail c 2).1, (bits_fail c 2).2)
  else
    bits_Get_l2 z n 0 c

noncomputable def bits_Get (z : Option Nat) (c : GBits) (n : Int) : Option (GBits × Int) :=
  if (!(bits_right c)) then
  bits_Get_j1 z c n (!(bits_right c))
else
  if (cm .lss n 0) then
    bits_Get_j1 z c n (cm .lss n 0)
  else
    bits_Get_j1 z c n (cm .gtr n 64)

noncomputable def vp9_writer_num_y1 (z : Option Nat) (n : Int) (width : Int) (box0 : vp9_writer) : Option (Int × vp9_writer) :=
  Option.bind (bits_Add z box0.k (IntKind.u64.wrap n) width) fun x1 =>
  some (n, (vp9_writer.mk x1.1))

noncomputable def vp9_truth_y1_j1 (z : Option Nat) (box0 : vp9_writer) (v1 : Int) : Option (Bool × vp9_writer) :=
  Option.bind (vp9_writer_num_y1 z v1 1 box0) fun x2 =>
  some ((cm .eql x2.1 1), x2.2)

noncomputable def vp9_truth_y1 (z : Option Nat) (is_ : Bool) (box0 : vp9_writer) : Option (Bool × vp9_writer) :=
  if is_ then
  vp9_truth_y1_j1 z box0 1
else
  vp9_truth_y1_j1 z box0 0

noncomputable def vp9_writer_failed_y1 (z : Option Nat) (box0 : vp9_writer) : Option (Bool × vp9_writer) :=
  some (false, box0)

noncomputable def vp9_picture_1_y1 (z : Option Nat) (n : Int) (box0 : vp9_writer) : Option (Int × vp9_writer) :=
  Option.bind (vp9_writer_num_y1 z n 8 box0) fun x1 =>
  some (x1.1, x1.2)

noncomputable def vp9_gone_int_y1_j2 (z : Option Nat) (v1 : List Int) (v2 : Int) (x4 : Bool × vp9_writer) (v5 : Int) : Option (((List Int × Int × vp9_writer) ⊕ (List Int × vp9_writer))) :=
  Option.bind (vp9_picture_1_y1 z v5 x4.2) fun x6 =>
  Option.bind (app v1 [x6.1]) fun x7 =>
  some (Sum.inl (x7, (ar .add .i64 v2 1), x6.2))

noncomputable def vp9_gone_int_y1_s1 (z : Option Nat) (l : List Int) (many : Int) (v1 : List Int) (v2 : Int) (v3 : vp9_writer) : Option (((List Int × Int × vp9_writer) ⊕ (List Int × vp9_writer))) :=
  if (cm .lss v2 many) then
  Option.bind (vp9_writer_failed_y1 z v3) fun x4 =>
    if (!x4.1) then
    if (cm .lss v2 (l.length : Int)) then
      Option.bind (ix l v2) fun x8 =>
        vp9_gone_int_y1_j2 z v1 v2 x4 x8
    else
      vp9_gone_int_y1_j2 z v1 v2 x4 0
  else
    Option.map Sum.inr (some (v1, x4.2))
else
  Option.map Sum.inr (some (v1, v3))

noncomputable def vp9_gone_int_y1_l1 (z : Option Nat) (l : List Int) (many : Int) (v1 : List Int) (v2 : Int) (v3 : vp9_writer) : Option (List Int × vp9_writer) :=
  loopG z (fun (s : List Int × Int × vp9_writer) => vp9_gone_int_y1_s1 z l many s.1 s.2.1 s.2.2) (v1, v2, v3)

noncomputable def vp9_gone_int_y1 (z : Option Nat) (l : List Int) (many : Int) (box0 : vp9_writer) : Option (List Int × vp9_writer) :=
  vp9_gone_int_y1_l1 z l many [] 0 box0

noncomputable def vp9_picture_y1 (z : Option Nat) (g : Group) (box0 : vp9_writer) : Option (Group × vp9_writer) :=
  Option.bind (vp9_writer_num_y1 z g.tid 3 box0) fun x1 =>
  Option.bind (vp9_truth_y1 z g.up x1.2) fun x2 =>
  Option.bind (vp9_writer_num_y1 z (g.refs.length : Int) 2 x2.2) fun x3 =>
  Option.bind (vp9_writer_num_y1 z 0 2 x3.2) fun x4 =>
  Option.bind (vp9_gone_int_y1 z g.refs x3.1 x4.2) fun x5 =>
  some ((Group.mk x1.1 x2.1 x5.1), x5.2)

noncomputable def vp9_scale_2_y1 (z : Option Nat) (g : Group) (box0 : vp9_writer) : Option (Group × vp9_writer) :=
  Option.bind (vp9_picture_y1 z g box0) fun x1 =>
  some (x1.1, x1.2)

noncomputable def vp9_gone_Group_y1_j2 (z : Option Nat) (v1 : List Group) (v2 : Int) (x4 : Bool × vp9_writer) (v5 : Group) : Option (((List Group × Int × vp9_writer) ⊕ (List Group × vp9_writer))) :=
  Option.bind (vp9_scale_2_y1 z v5 x4.2) fun x6 =>
  Option.bind (app v1 [x6.1]) fun x7 =>
  some (Sum.inl (x7, (ar .add .i64 v2 1), x6.2))

noncomputable def vp9_gone_Group_y1_s1 (z : Option Nat) (l : List Group) (many : Int) (v1 : List Group) (v2 : Int) (v3 : vp9_writer) : Option (((List Group × Int × vp9_writer) ⊕ (List Group × vp9_writer))) :=
  if (cm .lss v2 many) then
  Option.bind (vp9_writer_failed_y1 z v3) fun x4 =>
    if (!x4.1) then
    if (cm .lss v2 (l.length : Int)) then
      Option.bind (ix l v2) fun x8 =>
        vp9_gone_Group_y1_j2 z v1 v2 x4 x8
    else
      vp9_gone_Group_y1_j2 z v1 v2 x4 (Group.mk 0 false [])
  else
    Option.map Sum.inr (some (v1, x4.2))
else
  Option.map Sum.inr (some (v1, v3))

noncomputable def vp9_gone_Group_y1_l1 (z : Option Nat) (l : List Group) (many : Int) (v1 : List Group) (v2 : Int) (v3 : vp9_writer) : Option (List Group × vp9_writer) :=
  loopG z (fun (s : List Group × Int × vp9_writer) => vp9_gone_Group_y1_s1 z l many s.1 s.2.1 s.2.2) (v1, v2, v3)

noncomputable def vp9_gone_Group_y1 (z : Option Nat) (l : List Group) (many : Int) (box0 : vp9_writer) : Option (List Group × vp9_writer) :=
  vp9_gone_Group_y1_l1 z l many [] 0 box0

noncomputable def vp9_scale_1_y1 (z : Option Nat) (p_z : Size) (box0 : vp9_writer) : Option (Size × vp9_writer) :=
  Option.bind (vp9_writer_num_y1 z p_z.wide 16 box0) fun x1 =>
  Option.bind (vp9_writer_num_y1 z p_z.high 16 x1.2) fun x2 =>
  some ((Size.mk x1.1 x2.1), x2.2)

noncomputable def vp9_gone_Size_y1_j2 (z : Option Nat) (v1 : List Size) (v2 : Int) (x4 : Bool × vp9_writer) (v5 : Size) : Option (((List Size × Int × vp9_writer) ⊕ (List Size × vp9_writer))) :=
  Option.bind (vp9_scale_1_y1 z v5 x4.2) fun x6 =>
  Option.bind (app v1 [x6.1]) fun x7 =>
  some (Sum.inl (x7, (ar .add .i64 v2 1), x6.2))

noncomputable def vp9_gone_Size_y1_s1 (z : Option Nat) (l : List Size) (many : Int) (v1 : List Size) (v2 : Int) (v3 : vp9_writer) : Option (((List Size × Int × vp9_writer) ⊕ (List Size × vp9_writer))) :=
  if (cm .lss v2 many) then
  Option.bind (vp9_writer_failed_y1 z v3) fun x4 =>
    if (!x4.1) then
    if (cm .lss v2 (l.length : Int)) then
      Option.bind (ix l v2) fun x8 =>
        vp9_gone_Size_y1_j2 z v1 v2 x4 x8
    else
      vp9_gone_Size_y1_j2 z v1 v2 x4 (Size.mk 0 0)
  else
    Option.map Sum.inr (some (v1, x4.2))
else
  Option.map Sum.inr (some (v1, v3))

noncomputable def vp9_gone_Size_y1_l1 (z : Option Nat) (l : List Size) (many : Int) (v1 : List Size) (v2 : Int) (v3 : vp9_writer) : Option (List Size × vp9_writer) :=
  loopG z (fun (s : List Size × Int × vp9_writer) => vp9_gone_Size_y1_s1 z l many s.1 s.2.1 s.2.2) (v1, v2, v3)

noncomputable def vp9_gone_Size_y1 (z : Option Nat) (l : List Size) (many : Int) (box0 : vp9_writer) : Option (List Size × vp9_writer) :=
  vp9_gone_Size_y1_l1 z l many [] 0 box0

noncomputable def vp9_scale_y1_j2 (z : Option Nat) (v7 : Scale) (v8 : vp9_writer) : Option (Scale × vp9_writer) :=
  some (v7, v8)

noncomputable def vp9_scale_y1_j1 (z : Option Nat) (v5 : Scale) (v6 : vp9_writer) : Option (Scale × vp9_writer) :=
  if v5.hasPics then
  Option.bind (vp9_writer_num_y1 z (v5.pics.length : Int) 8 v6) fun x9 =>
    Option.bind (vp9_gone_Group_y1 z v5.pics x9.1 x9.2) fun x10 =>
    vp9_scale_y1_j2 z ({ v5 with pics := x10.1 }) x10.2
else
  vp9_scale_y1_j2 z v5 v6

noncomputable def vp9_scale_y1 (z : Option Nat) (p_s : Scale) (box0 : vp9_writer) : Option (Scale × vp9_writer) :=
  Option.bind (vp9_writer_num_y1 z (ar .sub .i64 p_s.layers 1) 3 box0) fun x1 =>
  Option.bind (vp9_truth_y1 z p_s.hasSizes x1.2) fun x2 =>
  Option.bind (vp9_truth_y1 z p_s.hasPics x2.2) fun x3 =>
  Option.bind (vp9_writer_num_y1 z 0 3 x3.2) fun x4 =>
  if x2.1 then
  Option.bind (vp9_gone_Size_y1 z p_s.sizes (ar .add .i64 x1.1 1) x4.2) fun x11 =>
    vp9_scale_y1_j1 z (Scale.mk (ar .add .i64 x1.1 1) x2.1 x11.1 x3.1 p_s.pics) x11.2
else
  vp9_scale_y1_j1 z (Scale.mk (ar .add .i64 x1.1 1) x2.1 p_s.sizes x3.1 p_s.pics) x4.2

noncomputable def vp9_writer_bad_y1 (z : Option Nat) (box0 : vp9_writer) : Option (vp9_writer) :=
  some box0

noncomputable def vp9_references_y1_j2 (z : Option Nat) (l : List Int) (v1 : List Int) (x4 : Bool × vp9_writer) (v5 : Int) : Option (((List Int × Bool × vp9_writer) ⊕ (List Int × vp9_writer))) :=
  Option.bind (vp9_writer_num_y1 z v5 7 x4.2) fun x6 =>
  Option.bind (app v1 [x6.1]) fun x7 =>
  Option.bind (vp9_truth_y1 z (cm .lss (x7.length : Int) (l.length : Int)) x6.2) fun x8 =>
  Option.bind (ix x7 (ar .sub .i64 (x7.length : Int) 1)) fun x9 =>
  if ((cm .eql x9 0) || (x8.1 && (cm .eql (x7.length : Int) 3))) then
  Option.bind (vp9_writer_bad_y1 z x8.2) fun x10 =>
    some (Sum.inl (x7, x8.1, x10))
else
  some (Sum.inl (x7, x8.1, x8.2))

noncomputable def vp9_references_y1_s1 (z : Option Nat) (l : List Int) (v1 : List Int) (v2 : Bool) (v3 : vp9_writer) : Option (((List Int × Bool × vp9_writer) ⊕ (List Int × vp9_writer))) :=
  if v2 then
  Option.bind (vp9_writer_failed_y1 z v3) fun x4 =>
    if (!x4.1) then
    if (cm .lss (v1.length : Int) (l.length : Int)) then
      Option.bind (ix l (v1.length : Int)) fun x11 =>
        vp9_references_y1_j2 z l v1 x4 x11
    else
      vp9_references_y1_j2 z l v1 x4 0
  else
    Option.map Sum.inr (some (v1, x4.2))
else
  Option.map Sum.inr (some (v1, v3))

noncomputable def vp9_references_y1_l1 (z : Option Nat) (l : List Int) (v1 : List Int) (v2 : Bool) (v3 : vp9_writer) : Option (List Int × vp9_writer) :=
  loopG z (fun (s : List Int × Bool × vp9_writer) => vp9_references_y1_s1 z l s.1 s.2.1 s.2.2) (v1, v2, v3)

noncomputable def vp9_references_y1 (z : Option Nat) (l : List Int) (box0 : vp9_writer) : Option (List Int × vp9_writer) :=
  vp9_references_y1_l1 z l [] true box0

noncomputable def vp9_layers_y1 (z : Option Nat) (box0 : vp9_writer) (box1 : Vp9) : Option (vp9_writer × Vp9) :=
  Option.bind (vp9_writer_num_y1 z box1.tid 3 box0) fun x1 =>
  Option.bind (vp9_truth_y1 z box1.up x1.2) fun x2 =>
  Option.bind (vp9_writer_num_y1 z box1.sid 3 x2.2) fun x3 =>
  Option.bind (vp9_truth_y1 z box1.depends x3.2) fun x4 =>
  if (!box1.flexible) then
  Option.bind (vp9_writer_num_y1 z box1.level 8 x4.2) fun x5 =>
    some (x5.2, { box1 with tid := x1.1, sid := x3.1, up := x2.1, depends := x4.1, level := x5.1 })
else
  some (x4.2, { box1 with tid := x1.1, sid := x3.1, up := x2.1, depends := x4.1 })

noncomputable def vp9_through_y1_j4 (z : Option Nat) (v15 : Vp9) (v16 : vp9_writer) : Option (Vp9 × vp9_writer) :=
  some (v15, v16)

noncomputable def vp9_through_y1_j3 (z : Option Nat) (v13 : Vp9) (v14 : vp9_writer) : Option (Vp9 × vp9_writer) :=
  if v13.hasScale then
  Option.bind (vp9_scale_y1 z v13.scale v14) fun x17 =>
    vp9_through_y1_j4 z ({ v13 with scale := x17.1 }) x17.2
else
  vp9_through_y1_j4 z v13 v14

noncomputable def vp9_through_y1_j2 (z : Option Nat) (v11 : Vp9) (v12 : vp9_writer) : Option (Vp9 × vp9_writer) :=
  if (v11.flexible && v11.inter) then
  Option.bind (vp9_references_y1 z v11.refs v12) fun x18 =>
    vp9_through_y1_j3 z ({ v11 with refs := x18.1 }) x18.2
else
  vp9_through_y1_j3 z v11 v12

noncomputable def vp9_through_y1_j1 (z : Option Nat) (v9 : Vp9) (v10 : vp9_writer) : Option (Vp9 × vp9_writer) :=
  if v9.hasLayer then
  Option.bind (vp9_layers_y1 z v10 v9) fun x19 =>
    vp9_through_y1_j2 z x19.2 x19.1
else
  vp9_through_y1_j2 z v9 v10

noncomputable def vp9_through_y1_j5 (z : Option Nat) (p_d : Vp9) (x1 : Bool × vp9_writer) (x2 : Bool × vp9_writer) (x3 : Bool × vp9_writer) (x4 : Bool × vp9_writer) (x5 : Bool × vp9_writer) (x6 : Bool × vp9_writer) (x7 : Bool × vp9_writer) (x8 : Bool × vp9_writer) (x20 : Bool × vp9_writer) (v21 : Int) : Option (Vp9 × vp9_writer) :=
  Option.bind (vp9_writer_num_y1 z p_d.pic v21 x20.2) fun x22 =>
  vp9_through_y1_j1 z (Vp9.mk x1.1 x20.1 x22.1 x2.1 x3.1 p_d.tid p_d.sid p_d.up p_d.depends x4.1 p_d.level p_d.refs x5.1 x6.1 x7.1 p_d.scale x8.1) x22.2

noncomputable def vp9_through_y1 (z : Option Nat) (p_d : Vp9) (box0 : vp9_writer) : Option (Vp9 × vp9_writer) :=
  Option.bind (vp9_truth_y1 z p_d.hasPic box0) fun x1 =>
  Option.bind (vp9_truth_y1 z p_d.inter x1.2) fun x2 =>
  Option.bind (vp9_truth_y1 z p_d.hasLayer x2.2) fun x3 =>
  Option.bind (vp9_truth_y1 z p_d.flexible x3.2) fun x4 =>
  Option.bind (vp9_truth_y1 z p_d.begin x4.2) fun x5 =>
  Option.bind (vp9_truth_y1 z p_d.end_ x5.2) fun x6 =>
  Option.bind (vp9_truth_y1 z p_d.hasScale x6.2) fun x7 =>
  Option.bind (vp9_truth_y1 z p_d.notRef x7.2) fun x8 =>
  if x1.1 then
  Option.bind (vp9_truth_y1 z p_d.wide x8.2) fun x20 =>
    if x20.1 then
    vp9_through_y1_j5 z p_d x1 x2 x3 x4 x5 x6 x7 x8 x20 15
  else
    vp9_through_y1_j5 z p_d x1 x2 x3 x4 x5 x6 x7 x8 x20 7
else
  vp9_through_y1_j1 z ({ p_d with hasPic := x1.1, inter := x2.1, hasLayer := x3.1, flexible := x4.1, begin := x5.1, end_ := x6.1, hasScale := x7.1, notRef := x8.1 }) x8.2

noncomputable def vp9_Write (z : Option Nat) (p_d : Vp9) : Option (List Int × Int) :=
  Option.bind (vp9_Right z p_d) fun x1 =>
  if (!x1) then
  some (([] : List Int), 1)
else
  Option.bind (vp9_through_y1 z p_d (vp9_writer.mk (Ink.mk [] 0))) fun x2 =>
    some (x2.2.k.bytes, 0)

def bits_Start (b : List Int) : GBits :=
  (GBits.mk b 0 0)

noncomputable def vp9_reader_num_y1 (z : Option Nat) (p1 : Int) (width : Int) (box0 : vp9_reader) : Option (Int × vp9_reader) :=
  Option.bind (bits_Get z box0.c width) fun x1 =>
  some ((IntKind.i64.wrap x1.2), (vp9_reader.mk x1.1))

noncomputable def vp9_truth_y2_j1 (z : Option Nat) (box0 : vp9_reader) (v1 : Int) : Option (Bool × vp9_reader) :=
  Option.bind (vp9_reader_num_y1 z v1 1 box0) fun x2 =>
  some ((cm .eql x2.1 1), x2.2)

noncomputable def vp9_truth_y2 (z : Option Nat) (is_ : Bool) (box0 : vp9_reader) : Option (Bool × vp9_reader) :=
  if is_ then
  vp9_truth_y2_j1 z box0 1
else
  vp9_truth_y2_j1 z box0 0

noncomputable def vp9_reader_failed_y1 (z : Option Nat) (box0 : vp9_reader) : Option (Bool × vp9_reader) :=
  some ((cm .neq box0.c.err 0), box0)

noncomputable def vp9_picture_1_y2 (z : Option Nat) (n : Int) (box0 : vp9_reader) : Option (Int × vp9_reader) :=
  Option.bind (vp9_reader_num_y1 z n 8 box0) fun x1 =>
  some (x1.1, x1.2)

noncomputable def vp9_gone_int_y2_j2 (z : Option Nat) (v1 : List Int) (v2 : Int) (x4 : Bool × vp9_reader) (v5 : Int) : Option (((List Int × Int × vp9_reader) ⊕ (List Int × vp9_reader))) :=
  Option.bind (vp9_picture_1_y2 z v5 x4.2) fun x6 =>
  Option.bind (app v1 [x6.1]) fun x7 =>
  some (Sum.inl (x7, (ar .add .i64 v2 1), x6.2))

noncomputable def vp9_gone_int_y2_s1 (z : Option Nat) (l : List Int) (many : Int) (v1 : List Int) (v2 : Int) (v3 : vp9_reader) : Option (((List Int × Int × vp9_reader) ⊕ (List Int × vp9_reader))) :=
  if (cm .lss v2 many) then
  Option.bind (vp9_reader_failed_y1 z v3) fun x4 =>
    if (!x4.1) then
    if (cm .lss v2 (l.length : Int)) then
      Option.bind (ix l v2) fun x8 =>
        vp9_gone_int_y2_j2 z v1 v2 x4 x8
    else
      vp9_gone_int_y2_j2 z v1 v2 x4 0
  else
    Option.map Sum.inr (some (v1, x4.2))
else
  Option.map Sum.inr (some (v1, v3))

noncomputable def vp9_gone_int_y2_l1 (z : Option Nat) (l : List Int) (many : Int) (v1 : List Int) (v2 : Int) (v3 : vp9_reader) : Option (List Int × vp9_reader) :=
  loopG z (fun (s : List Int × Int × vp9_reader) => vp9_gone_int_y2_s1 z l many s.1 s.2.1 s.2.2) (v1, v2, v3)

noncomputable def vp9_gone_int_y2 (z : Option Nat) (l : List Int) (many : Int) (box0 : vp9_reader) : Option (List Int × vp9_reader) :=
  vp9_gone_int_y2_l1 z l many [] 0 box0

noncomputable def vp9_picture_y2 (z : Option Nat) (g : Group) (box0 : vp9_reader) : Option (Group × vp9_reader) :=
  Option.bind (vp9_reader_num_y1 z g.tid 3 box0) fun x1 =>
  Option.bind (vp9_truth_y2 z g.up x1.2) fun x2 =>
  Option.bind (vp9_reader_num_y1 z (g.refs.length : Int) 2 x2.2) fun x3 =>
  Option.bind (vp9_reader_num_y1 z 0 2 x3.2) fun x4 =>
  Option.bind (vp9_gone_int_y2 z g.refs x3.1 x4.2) fun x5 =>
  some ((Group.mk x1.1 x2.1 x5.1), x5.2)

noncomputable def vp9_scale_2_y2 (z : Option Nat) (g : Group) (box0 : vp9_reader) : Option (Group × vp9_reader) :=
  Option.bind (vp9_picture_y2 z g box0) fun x1 =>
  some (x1.1, x1.2)

noncomputable def vp9_gone_Group_y2_j2 (z : Option Nat) (v1 : List Group) (v2 : Int) (x4 : Bool × vp9_reader) (v5 : Group) : Option (((List Group × Int × vp9_reader) ⊕ (List Group × vp9_reader))) :=
  Option.bind (vp9_scale_2_y2 z v5 x4.2) fun x6 =>
  Option.bind (app v1 [x6.1]) fun x7 =>
  some (Sum.inl (x7, (ar .add .i64 v2 1), x6.2))

noncomputable def vp9_gone_Group_y2_s1 (z : Option Nat) (l : List Group) (many : Int) (v1 : List Group) (v2 : Int) (v3 : vp9_reader) : Option (((List Group × Int × vp9_reader) ⊕ (List Group × vp9_reader))) :=
  if (cm .lss v2 many) then
  Option.bind (vp9_reader_failed_y1 z v3) fun x4 =>
    if (!x4.1) then
    if (cm .lss v2 (l.length : Int)) then
      Option.bind (ix l v2) fun x8 =>
        vp9_gone_Group_y2_j2 z v1 v2 x4 x8
    else
      vp9_gone_Group_y2_j2 z v1 v2 x4 (Group.mk 0 false [])
  else
    Option.map Sum.inr (some (v1, x4.2))
else
  Option.map Sum.inr (some (v1, v3))

noncomputable def vp9_gone_Group_y2_l1 (z : Option Nat) (l : List Group) (many : Int) (v1 : List Group) (v2 : Int) (v3 : vp9_reader) : Option (List Group × vp9_reader) :=
  loopG z (fun (s : List Group × Int × vp9_reader) => vp9_gone_Group_y2_s1 z l many s.1 s.2.1 s.2.2) (v1, v2, v3)

noncomputable def vp9_gone_Group_y2 (z : Option Nat) (l : List Group) (many : Int) (box0 : vp9_reader) : Option (List Group × vp9_reader) :=
  vp9_gone_Group_y2_l1 z l many [] 0 box0

noncomputable def vp9_scale_1_y2 (z : Option Nat) (p_z : Size) (box0 : vp9_reader) : Option (Size × vp9_reader) :=
  Option.bind (vp9_reader_num_y1 z p_z.wide 16 box0) fun x1 =>
  Option.bind (vp9_reader_num_y1 z p_z.high 16 x1.2) fun x2 =>
  some ((Size.mk x1.1 x2.1), x2.2)

noncomputable def vp9_gone_Size_y2_j2 (z : Option Nat) (v1 : List Size) (v2 : Int) (x4 : Bool × vp9_reader) (v5 : Size) : Option (((List Size × Int × vp9_reader) ⊕ (List Size × vp9_reader))) :=
  Option.bind (vp9_scale_1_y2 z v5 x4.2) fun x6 =>
  Option.bind (app v1 [x6.1]) fun x7 =>
  some (Sum.inl (x7, (ar .add .i64 v2 1), x6.2))

noncomputable def vp9_gone_Size_y2_s1 (z : Option Nat) (l : List Size) (many : Int) (v1 : List Size) (v2 : Int) (v3 : vp9_reader) : Option (((List Size × Int × vp9_reader) ⊕ (List Size × vp9_reader))) :=
  if (cm .lss v2 many) then
  Option.bind (vp9_reader_failed_y1 z v3) fun x4 =>
    if (!x4.1) then
    if (cm .lss v2 (l.length : Int)) then
      Option.bind (ix l v2) fun x8 =>
        vp9_gone_Size_y2_j2 z v1 v2 x4 x8
    else
      vp9_gone_Size_y2_j2 z v1 v2 x4 (Size.mk 0 0)
  else
    Option.map Sum.inr (some (v1, x4.2))
else
  Option.map Sum.inr (some (v1, v3))

noncomputable def vp9_gone_Size_y2_l1 (z : Option Nat) (l : List Size) (many : Int) (v1 : List Size) (v2 : Int) (v3 : vp9_reader) : Option (List Size × vp9_reader) :=
  loopG z (fun (s : List Size × Int × vp9_reader) => vp9_gone_Size_y2_s1 z l many s.1 s.2.1 s.2.2) (v1, v2, v3)

noncomputable def vp9_gone_Size_y2 (z : Option Nat) (l : List Size) (many : Int) (box0 : vp9_reader) : Option (List Size × vp9_reader) :=
  vp9_gone_Size_y2_l1 z l many [] 0 box0

noncomputable def vp9_scale_y2_j2 (z : Option Nat) (v7 : Scale) (v8 : vp9_reader) : Option (Scale × vp9_reader) :=
  some (v7, v8)

noncomputable def vp9_scale_y2_j1 (z : Option Nat) (v5 : Scale) (v6 : vp9_reader) : Option (Scale × vp9_reader) :=
  if v5.hasPics then
  Option.bind (vp9_reader_num_y1 z (v5.pics.length : Int) 8 v6) fun x9 =>
    Option.bind (vp9_gone_Group_y2 z v5.pics x9.1 x9.2) fun x10 =>
    vp9_scale_y2_j2 z ({ v5 with pics := x10.1 }) x10.2
else
  vp9_scale_y2_j2 z v5 v6

noncomputable def vp9_scale_y2 (z : Option Nat) (p_s : Scale) (box0 : vp9_reader) : Option (Scale × vp9_reader) :=
  Option.bind (vp9_reader_num_y1 z (ar .sub .i64 p_s.layers 1) 3 box0) fun x1 =>
  Option.bind (vp9_truth_y2 z p_s.hasSizes x1.2) fun x2 =>
  Option.bind (vp9_truth_y2 z p_s.hasPics x2.2) fun x3 =>
  Option.bind (vp9_reader_num_y1 z 0 3 x3.2) fun x4 =>
  if x2.1 then
  Option.bind (vp9_gone_Size_y2 z p_s.sizes (ar .add .i64 x1.1 1) x4.2) fun x11 =>
    vp9_scale_y2_j1 z (Scale.mk (ar .add .i64 x1.1 1) x2.1 x11.1 x3.1 p_s.pics) x11.2
else
  vp9_scale_y2_j1 z (Scale.mk (ar .add .i64 x1.1 1) x2.1 p_s.sizes x3.1 p_s.pics) x4.2

noncomputable def vp9_reader_bad_y1 (z : Option Nat) (box0 : vp9_reader) : Option (vp9_reader) :=
  if (cm .eql box0.c.err 0) then
  some (vp9_reader.mk ({ box0.c with err := 6 }))
else
  some box0

noncomputable def vp9_references_y2_j2 (z : Option Nat) (l : List Int) (v1 : List Int) (x4 : Bool × vp9_reader) (v5 : Int) : Option (((List Int × Bool × vp9_reader) ⊕ (List Int × vp9_reader))) :=
  Option.bind (vp9_reader_num_y1 z v5 7 x4.2) fun x6 =>
  Option.bind (app v1 [x6.1]) fun x7 =>
  Option.bind (vp9_truth_y2 z (cm .lss (x7.length : Int) (l.length : Int)) x6.2) fun x8 =>
  Option.bind (ix x7 (ar .sub .i64 (x7.length : Int) 1)) fun x9 =>
  if ((cm .eql x9 0) || (x8.1 && (cm .eql (x7.length : Int) 3))) then
  Option.bind (vp9_reader_bad_y1 z x8.2) fun x10 =>
    some (Sum.inl (x7, x8.1, x10))
else
  some (Sum.inl (x7, x8.1, x8.2))

noncomputable def vp9_references_y2_s1 (z : Option Nat) (l : List Int) (v1 : List Int) (v2 : Bool) (v3 : vp9_reader) : Option (((List Int × Bool × vp9_reader) ⊕ (List Int × vp9_reader))) :=
  if v2 then
  Option.bind (vp9_reader_failed_y1 z v3) fun x4 =>
    if (!x4.1) then
    if (cm .lss (v1.length : Int) (l.length : Int)) then
      Option.bind (ix l (v1.length : Int)) fun x11 =>
        vp9_references_y2_j2 z l v1 x4 x11
    else
      vp9_references_y2_j2 z l v1 x4 0
  else
    Option.map Sum.inr (some (v1, x4.2))
else
  Option.map Sum.inr (some (v1, v3))

noncomputable def vp9_references_y2_l1 (z : Option Nat) (l : List Int) (v1 : List Int) (v2 : Bool) (v3 : vp9_reader) : Option (List Int × vp9_reader) :=
  loopG z (fun (s : List Int × Bool × vp9_reader) => vp9_references_y2_s1 z l s.1 s.2.1 s.2.2) (v1, v2, v3)

noncomputable def vp9_references_y2 (z : Option Nat) (l : List Int) (box0 : vp9_reader) : Option (List Int × vp9_reader) :=
  vp9_references_y2_l1 z l [] true box0

noncomputable def vp9_layers_y2 (z : Option Nat) (box0 : vp9_reader) (box1 : Vp9) : Option (vp9_reader × Vp9) :=
  Option.bind (vp9_reader_num_y1 z box1.tid 3 box0) fun x1 =>
  Option.bind (vp9_truth_y2 z box1.up x1.2) fun x2 =>
  Option.bind (vp9_reader_num_y1 z box1.sid 3 x2.2) fun x3 =>
  Option.bind (vp9_truth_y2 z box1.depends x3.2) fun x4 =>
  if (!box1.flexible) then
  Option.bind (vp9_reader_num_y1 z box1.level 8 x4.2) fun x5 =>
    some (x5.2, { box1 with tid := x1.1, sid := x3.1, up := x2.1, depends := x4.1, level := x5.1 })
else
  some (x4.2, { box1 with tid := x1.1, sid := x3.1, up := x2.1, depends := x4.1 })

noncomputable def vp9_through_y2_j4 (z : Option Nat) (v15 : Vp9) (v16 : vp9_reader) : Option (Vp9 × vp9_reader) :=
  some (v15, v16)

noncomputable def vp9_through_y2_j3 (z : Option Nat) (v13 : Vp9) (v14 : vp9_reader) : Option (Vp9 × vp9_reader) :=
  if v13.hasScale then
  Option.bind (vp9_scale_y2 z v13.scale v14) fun x17 =>
    vp9_through_y2_j4 z ({ v13 with scale := x17.1 }) x17.2
else
  vp9_through_y2_j4 z v13 v14

noncomputable def vp9_through_y2_j2 (z : Option Nat) (v11 : Vp9) (v12 : vp9_reader) : Option (Vp9 × vp9_reader) :=
  if (v11.flexible && v11.inter) then
  Option.bind (vp9_references_y2 z v11.refs v12) fun x18 =>
    vp9_through_y2_j3 z ({ v11 with refs := x18.1 }) x18.2
else
  vp9_through_y2_j3 z v11 v12

noncomputable def vp9_through_y2_j1 (z : Option Nat) (v9 : Vp9) (v10 : vp9_reader) : Option (Vp9 × vp9_reader) :=
  if v9.hasLayer then
  Option.bind (vp9_layers_y2 z v10 v9) fun x19 =>
    vp9_through_y2_j2 z x19.2 x19.1
else
  vp9_through_y2_j2 z v9 v10

noncomputable def vp9_through_y2_j5 (z : Option Nat) (p_d : Vp9) (x1 : Bool × vp9_reader) (x2 : Bool × vp9_reader) (x3 : Bool × vp9_reader) (x4 : Bool × vp9_reader) (x5 : Bool × vp9_reader) (x6 : Bool × vp9_reader) (x7 : Bool × vp9_reader) (x8 : Bool × vp9_reader) (x20 : Bool × vp9_reader) (v21 : Int) : Option (Vp9 × vp9_reader) :=
  Option.bind (vp9_reader_num_y1 z p_d.pic v21 x20.2) fun x22 =>
  vp9_through_y2_j1 z (Vp9.mk x1.1 x20.1 x22.1 x2.1 x3.1 p_d.tid p_d.sid p_d.up p_d.depends x4.1 p_d.level p_d.refs x5.1 x6.1 x7.1 p_d.scale x8.1) x22.2

noncomputable def vp9_through_y2 (z : Option Nat) (p_d : Vp9) (box0 : vp9_reader) : Option (Vp9 × vp9_reader) :=
  Option.bind (vp9_truth_y2 z p_d.hasPic box0) fun x1 =>
  Option.bind (vp9_truth_y2 z p_d.inter x1.2) fun x2 =>
  Option.bind (vp9_truth_y2 z p_d.hasLayer x2.2) fun x3 =>
  Option.bind (vp9_truth_y2 z p_d.flexible x3.2) fun x4 =>
  Option.bind (vp9_truth_y2 z p_d.begin x4.2) fun x5 =>
  Option.bind (vp9_truth_y2 z p_d.end_ x5.2) fun x6 =>
  Option.bind (vp9_truth_y2 z p_d.hasScale x6.2) fun x7 =>
  Option.bind (vp9_truth_y2 z p_d.notRef x7.2) fun x8 =>
  if x1.1 then
  Option.bind (vp9_truth_y2 z p_d.wide x8.2) fun x20 =>
    if x20.1 then
    vp9_through_y2_j5 z p_d x1 x2 x3 x4 x5 x6 x7 x8 x20 15
  else
    vp9_through_y2_j5 z p_d x1 x2 x3 x4 x5 x6 x7 x8 x20 7
else
  vp9_through_y2_j1 z ({ p_d with hasPic := x1.1, inter := x2.1, hasLayer := x3.1, flexible := x4.1, begin := x5.1, end_ := x6.1, hasScale := x7.1, notRef := x8.1 }) x8.2

noncomputable def vp9_Read (z : Option Nat) (b : List Int) : Option (Vp9 × Int × Int) :=
  Option.bind (vp9_through_y2 z (Vp9.mk false false 0 false false 0 0 false false false 0 [] false false false (Scale.mk 0 false [] false []) false) (vp9_reader.mk (bits_Start b))) fun x1 =>
  if (cm .neq x1.2.c.err 0) then
  some ((Vp9.mk false false 0 false false 0 0 false false false 0 [] false false false (Scale.mk 0 false [] false []) false), 0, x1.2.c.err)
else
  some (x1.1, (dv .quo .i64 x1.2.c.at_ 8), 0)

noncomputable def vp9_Set_j2 (z : Option Nat) (v5 : List Int) : Option (List Int × Int) :=
  some (v5, 0)

noncomputable def vp9_Set_j1 (z : Option Nat) (level : Int) (x1 : Vp9 × Int × Int) (v3 : List Int) (v4 : Int) : Option (List Int × Int) :=
  if ((x1.1.hasLayer && (!x1.1.flexible)) && (cm .neq level (-1))) then
  Option.bind (ix v3 (ar .add .i64 v4 1)) fun x6 =>
    vp9_Set_j2 z (List.set v3 ((ar .add .i64 v4 1) : Int).toNat (IntKind.u8.wrap level))
else
  vp9_Set_j2 z v3

noncomputable def vp9_Set_j5 (z : Option Nat) (level : Int) (x1 : Vp9 × Int × Int) (v7 : Int) (v9 : List Int) : Option (List Int × Int) :=
  vp9_Set_j1 z level x1 v9 (ar .add .i64 v7 1)

noncomputable def vp9_Set_j4 (z : Option Nat) (pic : Int) (level : Int) (x1 : Vp9 × Int × Int) (v7 : Int) (v8 : List Int) : Option (List Int × Int) :=
  if (x1.1.hasPic && (cm .neq pic (-1))) then
  Option.bind (ix v8 v7) fun x10 =>
    vp9_Set_j5 z level x1 v7 (List.set v8 (v7 : Int).toNat (IntKind.u8.wrap pic))
else
  vp9_Set_j5 z level x1 v7 v8

noncomputable def vp9_Set_j3 (z : Option Nat) (pic : Int) (level : Int) (x1 : Vp9 × Int × Int) (x2 : List Int) (v7 : Int) : Option (List Int × Int) :=
  if ((x1.1.hasPic && (cm .neq pic (-1))) && x1.1.wide) then
  Option.bind (ix x2 (ar .sub .i64 v7 1)) fun x11 =>
    vp9_Set_j4 z pic level x1 v7 (List.set x2 ((ar .sub .i64 v7 1) : Int).toNat (IntKind.u8.wrap (ar .or .i64 128 (sf .shr .i64 pic 8))))
else
  vp9_Set_j4 z pic level x1 v7 x2

noncomputable def vp9_Set (z : Option Nat) (b : List Int) (pic : Int) (level : Int) : Option (List Int × Int) :=
  Option.bind (vp9_Read z b) fun x1 =>
  if (cm .neq x1.2.2 0) then
  some ([], x1.2.2)
else
  if (((x1.1.hasPic && (cm .neq pic (-1))) && (!(vp9_in pic 0 (vp9_most x1.1)))) || (((x1.1.hasLayer && (!x1.1.flexible)) && (cm .neq level (-1))) && (!(vp9_in level 0 255)))) then
    some ([], 6)
  else
    Option.bind (slices_Clone b) fun x2 =>
      if x1.1.hasPic then
      if x1.1.wide then
        vp9_Set_j3 z pic level x1 x2 (ar .add .i64 1 1)
      else
        vp9_Set_j3 z pic level x1 x2 1
    else
      vp9_Set_j1 z level x1 x2 1

noncomputable def ref24_Ints_s1 (z : Option Nat) (p_a : List Int) (b : List Int) (v1 : Int) : Option (((Int) ⊕ (Bool))) :=
  if (cm .lss v1 (p_a.length : Int)) then
  Option.bind (ix p_a v1) fun x2 =>
    Option.bind (ix b v1) fun x3 =>
    if (cm .neq x2 x3) then
    Option.map Sum.inr (some false)
  else
    some (Sum.inl (ar .add .i64 v1 1))
else
  Option.map Sum.inr (some true)

noncomputable def ref24_Ints_l1 (z : Option Nat) (p_a : List Int) (b : List Int) (v1 : Int) : Option (Bool) :=
  loopG z (fun (s : Int) => ref24_Ints_s1 z p_a b s) (v1)

noncomputable def ref24_Ints (z : Option Nat) (p_a : List Int) (b : List Int) : Option (Bool) :=
  if (cm .neq (p_a.length : Int) (b.length : Int)) then
  some false
else
  ref24_Ints_l1 z p_a b 0

noncomputable def ref24_SameScale_s2 (z : Option Nat) (v4 : Int) (v5 : Scale) (v6 : Scale) : Option (((Int × Scale × Scale) ⊕ (Bool))) :=
  if (cm .lss v4 (v5.pics.length : Int)) then
  Option.bind (ix v5.pics v4) fun x7 =>
    Option.bind (ix v6.pics v4) fun x8 =>
    Option.bind (gT (!(cm .neq x7.tid x8.tid)) (ix v5.pics v4)) fun x9 =>
    Option.bind (gT (!(cm .neq x7.tid x8.tid)) (ix v6.pics v4)) fun x10 =>
    Option.bind (gT (!((cm .neq x7.tid x8.tid) || (bq .neq x9.up x10.up))) (ix v5.pics v4)) fun x11 =>
    Option.bind (gT (!((cm .neq x7.tid x8.tid) || (bq .neq x9.up x10.up))) (ix v6.pics v4)) fun x12 =>
    Option.bind (gT (!((cm .neq x7.tid x8.tid) || (bq .neq x9.up x10.up))) (ref24_Ints z x11.refs x12.refs)) fun x13 =>
    if (((cm .neq x7.tid x8.tid) || (bq .neq x9.up x10.up)) || (!x13)) then
    Option.map Sum.inr (some false)
  else
    some (Sum.inl ((ar .add .i64 v4 1), v5, v6))
else
  Option.map Sum.inr (some true)

noncomputable def ref24_SameScale_l2 (z : Option Nat) (v4 : Int) (v5 : Scale) (v6 : Scale) : Option (Bool) :=
  loopG z (fun (s : Int × Scale × Scale) => ref24_SameScale_s2 z s.1 s.2.1 s.2.2) (v4, v5, v6)

noncomputable def ref24_SameScale_s1 (z : Option Nat) (p_a : Scale) (b : Scale) (v1 : Int) : Option (((Int) ⊕ (Bool))) :=
  if (cm .lss v1 (p_a.sizes.length : Int)) then
  Option.bind (ix p_a.sizes v1) fun x2 =>
    Option.bind (ix b.sizes v1) fun x3 =>
    if (!(x2.wide == x3.wide && (x2.high == x3.high && true))) then
    Option.map Sum.inr (some false)
  else
    some (Sum.inl (ar .add .i64 v1 1))
else
  Option.map Sum.inr (ref24_SameScale_l2 z 0 p_a b)

noncomputable def ref24_SameScale_l1 (z : Option Nat) (p_a : Scale) (b : Scale) (v1 : Int) : Option (Bool) :=
  loopG z (fun (s : Int) => ref24_SameScale_s1 z p_a b s) (v1)

noncomputable def ref24_SameScale (z : Option Nat) (p_a : Scale) (b : Scale) : Option (Bool) :=
  if (((((cm .neq p_a.layers b.layers) || (bq .neq p_a.hasSizes b.hasSizes)) || (bq .neq p_a.hasPics b.hasPics)) || (cm .neq (p_a.sizes.length : Int) (b.sizes.length : Int))) || (cm .neq (p_a.pics.length : Int) (b.pics.length : Int))) then
  some false
else
  ref24_SameScale_l1 z p_a b 0

noncomputable def ref24_Same (z : Option Nat) (p_a : Vp9) (b : Vp9) : Option (Bool) :=
  if (((((((((bq .neq p_a.hasPic b.hasPic) || (bq .neq p_a.wide b.wide)) || (cm .neq p_a.pic b.pic)) || (bq .neq p_a.inter b.inter)) || (bq .neq p_a.hasLayer b.hasLayer)) || (cm .neq p_a.tid b.tid)) || (cm .neq p_a.sid b.sid)) || (bq .neq p_a.up b.up)) || (bq .neq p_a.depends b.depends)) then
  some false
else
  if ((((((bq .neq p_a.flexible b.flexible) || (cm .neq p_a.level b.level)) || (bq .neq p_a.begin b.begin)) || (bq .neq p_a.end_ b.end_)) || (bq .neq p_a.hasScale b.hasScale)) || (bq .neq p_a.notRef b.notRef)) then
    some false
  else
    Option.bind (ref24_Ints z p_a.refs b.refs) fun x1 =>
      Option.bind (gT x1 (ref24_SameScale z p_a.scale b.scale)) fun x2 =>
      some (x1 && x2)

noncomputable def slices_Equal_byte_s1 (z : Option Nat) (s1 : List Int) (s2 : List Int) (v1 : Int) : Option (((Int) ⊕ (Bool))) :=
  if (cm .lss v1 (s1.length : Int)) then
  Option.bind (ix s1 v1) fun x2 =>
    Option.bind (ix s2 v1) fun x3 =>
    if (cm .neq x2 x3) then
    Option.map Sum.inr (some false)
  else
    some (Sum.inl (ar .add .i64 v1 1))
else
  Option.map Sum.inr (some true)

noncomputable def slices_Equal_byte_l1 (z : Option Nat) (s1 : List Int) (s2 : List Int) (v1 : Int) : Option (Bool) :=
  loopG z (fun (s : Int) => slices_Equal_byte_s1 z s1 s2 s) (v1)

noncomputable def slices_Equal_byte (z : Option Nat) (s1 : List Int) (s2 : List Int) : Option (Bool) :=
  if (cm .neq (s1.length : Int) (s2.length : Int)) then
  some false
else
  slices_Equal_byte_l1 z s1 s2 0

noncomputable def vp9_Canon (z : Option Nat) (b : List Int) : Option (Bool) :=
  Option.bind (vp9_Read z b) fun x1 =>
  if (cm .neq x1.2.2 0) then
  some false
else
  Option.bind (vp9_Write z x1.1) fun x2 =>
    Option.bind (sub b 0 x1.2.1) fun x3 =>
    Option.bind (slices_Equal_byte z x2.1 x3) fun x4 =>
    some x4

noncomputable def law24_awake (z : Option Nat)  : Option (Bool) :=
  Option.bind (vp9_Write z (Vp9.mk true false 5 true false 0 0 false false true 0 [1, 2] true false true (Scale.mk 1 false [] true ([(Group.mk 1 true [9])])) false)) fun x1 =>
  Option.bind (app ([] : List Int) x1.1) fun x2 =>
  Option.bind (app x2 [9]) fun x3 =>
  Option.bind (vp9_Read z x3) fun x4 =>
  Option.bind (vp9_Set z x1.1 6 200) fun x5 =>
  Option.bind (vp9_Read z [80, 0]) fun x6 =>
  Option.bind (gT ((((((cm .eql x1.2 0) && (cm .eql x4.2.2 0)) && (cm .eql x5.2 0)) && (cm .eql x6.2.2 6)) && (cm .eql x4.2.1 8)) && (sc .eql (b2s x1.1) ([218, 5, 3, 4, 8, 1, 52, 9] : List UInt8))) (ref24_Same z x4.1 (Vp9.mk true false 5 true false 0 0 false false true 0 [1, 2] true false true (Scale.mk 1 false [] true ([(Group.mk 1 true [9])])) false))) fun x7 =>
  Option.bind (gT ((((((((cm .eql x1.2 0) && (cm .eql x4.2.2 0)) && (cm .eql x5.2 0)) && (cm .eql x6.2.2 6)) && (cm .eql x4.2.1 8)) && (sc .eql (b2s x1.1) ([218, 5, 3, 4, 8, 1, 52, 9] : List UInt8))) && x7) && (sc .eql (b2s x5.1) ([218, 6, 3, 4, 8, 1, 52, 9] : List UInt8))) (vp9_Canon z x1.1)) fun x8 =>
  Option.bind (gT (((((((((cm .eql x1.2 0) && (cm .eql x4.2.2 0)) && (cm .eql x5.2 0)) && (cm .eql x6.2.2 6)) && (cm .eql x4.2.1 8)) && (sc .eql (b2s x1.1) ([218, 5, 3, 4, 8, 1, 52, 9] : List UInt8))) && x7) && (sc .eql (b2s x5.1) ([218, 6, 3, 4, 8, 1, 52, 9] : List UInt8))) && x8) (vp9_Right z (Vp9.mk true false 5 true false 0 0 false false true 0 [1, 2] true false true (Scale.mk 1 false [] true ([(Group.mk 1 true [9])])) false))) fun x9 =>
  Option.bind (gT ((((((((((cm .eql x1.2 0) && (cm .eql x4.2.2 0)) && (cm .eql x5.2 0)) && (cm .eql x6.2.2 6)) && (cm .eql x4.2.1 8)) && (sc .eql (b2s x1.1) ([218, 5, 3, 4, 8, 1, 52, 9] : List UInt8))) && x7) && (sc .eql (b2s x5.1) ([218, 6, 3, 4, 8, 1, 52, 9] : List UInt8))) && x8) && x9) (vp9_RightScale z (Scale.mk 1 false [] true ([(Group.mk 1 true [9])])))) fun x10 =>
  some (((((((((((cm .eql x1.2 0) && (cm .eql x4.2.2 0)) && (cm .eql x5.2 0)) && (cm .eql x6.2.2 6)) && (cm .eql x4.2.1 8)) && (sc .eql (b2s x1.1) ([218, 5, 3, 4, 8, 1, 52, 9] : List UInt8))) && x7) && (sc .eql (b2s x5.1) ([218, 6, 3, 4, 8, 1, 52, 9] : List UInt8))) && x8) && x9) && x10)

noncomputable def ref24_Short_s1 (z : Option Nat) (p_d : Vp9) (v1 : Int) : Option (((Int) ⊕ (Bool))) :=
  if ((cm .lss v1 (p_d.scale.pics.length : Int)) && (cm .lss v1 400)) then
  Option.bind (ix p_d.scale.pics v1) fun x2 =>
    if (cm .gtr (x2.refs.length : Int) 99) then
    Option.map Sum.inr (some false)
  else
    some (Sum.inl (ar .add .i64 v1 1))
else
  Option.map Sum.inr (some (((cm .leq (p_d.refs.length : Int) 99) && (cm .leq (p_d.scale.sizes.length : Int) 99)) && (cm .leq (p_d.scale.pics.length : Int) 400)))

noncomputable def ref24_Short_l1 (z : Option Nat) (p_d : Vp9) (v1 : Int) : Option (Bool) :=
  loopG z (fun (s : Int) => ref24_Short_s1 z p_d s) (v1)

noncomputable def ref24_Short (z : Option Nat) (p_d : Vp9) : Option (Bool) :=
  ref24_Short_l1 z p_d 0

def ref24_in (n : Int) (least : Int) (most : Int) : Bool :=
  ((cm .geq n least) && (cm .leq n most))

noncomputable def ref24_RightScale_s3 (z : Option Nat) (v5 : Int) (v9 : Int) (v10 : Scale) : Option (((Int × Scale) ⊕ (((Int × Scale) ⊕ (Bool))))) :=
  Option.bind (ix v10.pics v5) fun x11 =>
  if (cm .lss v9 (x11.refs.length : Int)) then
  Option.bind (ix v10.pics v5) fun x12 =>
    Option.bind (ix x12.refs v9) fun x13 =>
    if (!(ref24_in x13 0 255)) then
    Option.map Sum.inr (Option.map Sum.inr (some false))
  else
    some (Sum.inl ((ar .add .i64 v9 1), v10))
else
  Option.map Sum.inr (some (Sum.inl ((ar .add .i64 v5 1), v10)))

noncomputable def ref24_RightScale_l3 (z : Option Nat) (v5 : Int) (v9 : Int) (v10 : Scale) : Option (((Int × Scale) ⊕ (Bool))) :=
  loopG z (fun (s : Int × Scale) => ref24_RightScale_s3 z v5 s.1 s.2) (v9, v10)

noncomputable def ref24_RightScale_s2 (z : Option Nat) (v5 : Int) (v6 : Scale) : Option (((Int × Scale) ⊕ (Bool))) :=
  if (cm .lss v5 (v6.pics.length : Int)) then
  Option.bind (ix v6.pics v5) fun x7 =>
    Option.bind (gT (!(!(ref24_in x7.tid 0 7))) (ix v6.pics v5)) fun x8 =>
    if ((!(ref24_in x7.tid 0 7)) || (cm .gtr (x8.refs.length : Int) 3)) then
    Option.map Sum.inr (some false)
  else
    ref24_RightScale_l3 z v5 0 v6
else
  Option.map Sum.inr (some true)

noncomputable def ref24_RightScale_l2 (z : Option Nat) (v5 : Int) (v6 : Scale) : Option (Bool) :=
  loopG z (fun (s : Int × Scale) => ref24_RightScale_s2 z s.1 s.2) (v5, v6)

noncomputable def ref24_RightScale_s1 (z : Option Nat) (v1 : Int) (v2 : Scale) : Option (((Int × Scale) ⊕ (Bool))) :=
  if (cm .lss v1 (v2.sizes.length : Int)) then
  Option.bind (ix v2.sizes v1) fun x3 =>
    Option.bind (gT (!(!(ref24_in x3.wide 0 65535))) (ix v2.sizes v1)) fun x4 =>
    if ((!(ref24_in x3.wide 0 65535)) || (!(ref24_in x4.high 0 65535))) then
    Option.map Sum.inr (some false)
  else
    some (Sum.inl ((ar .add .i64 v1 1), v2))
else
  Option.map Sum.inr (ref24_RightScale_l2 z 0 v2)

noncomputable def ref24_RightScale_l1 (z : Option Nat) (v1 : Int) (v2 : Scale) : Option (Bool) :=
  loopG z (fun (s : Int × Scale) => ref24_RightScale_s1 z s.1 s.2) (v1, v2)

noncomputable def ref24_RightScale (z : Option Nat) (p_s : Scale) : Option (Bool) :=
  if ((((cm .lss p_s.layers 1) || (cm .gtr p_s.layers 8)) || (cm .gtr (p_s.pics.length : Int) 255)) || ((cm .gtr (p_s.pics.length : Int) 0) && (!p_s.hasPics))) then
  some false
else
  if ((p_s.hasSizes && (cm .neq (p_s.sizes.length : Int) p_s.layers)) || ((!p_s.hasSizes) && (cm .gtr (p_s.sizes.length : Int) 0))) then
    some false
  else
    ref24_RightScale_l1 z 0 p_s

noncomputable def ref24_Right_j1 (z : Option Nat) (v1 : Vp9) : Option (Bool) :=
  if v1.hasScale then
  Option.bind (ref24_RightScale z v1.scale) fun x2 =>
    some x2
else
  Option.bind (ref24_SameScale z v1.scale (Scale.mk 0 false [] false [])) fun x3 =>
    some x3

noncomputable def ref24_Right_s2 (z : Option Nat) (v4 : Int) (v5 : Vp9) : Option (((Int × Vp9) ⊕ (Bool))) :=
  if (cm .lss v4 (v5.refs.length : Int)) then
  Option.bind (ix v5.refs v4) fun x6 =>
    if (!(ref24_in x6 1 127)) then
    Option.map Sum.inr (some false)
  else
    some (Sum.inl ((ar .add .i64 v4 1), v5))
else
  Option.map Sum.inr (ref24_Right_j1 z v5)

noncomputable def ref24_Right_l2 (z : Option Nat) (v4 : Int) (v5 : Vp9) : Option (Bool) :=
  loopG z (fun (s : Int × Vp9) => ref24_Right_s2 z s.1 s.2) (v4, v5)

noncomputable def ref24_Right (z : Option Nat) (p_d : Vp9) : Option (Bool) :=
  if (((((!p_d.hasPic) && (p_d.wide || (cm .neq p_d.pic 0))) || (cm .lss p_d.pic 0)) || (cm .gtr p_d.pic 32767)) || ((cm .gtr p_d.pic 127) && (!p_d.wide))) then
  some false
else
  if ((((!(ref24_in p_d.tid 0 7)) || (!(ref24_in p_d.sid 0 7))) || (!(ref24_in p_d.level 0 255))) || (p_d.flexible && (cm .neq p_d.level 0))) then
    some false
  else
    if ((!p_d.hasLayer) && (((((cm .neq p_d.tid 0) || (cm .neq p_d.sid 0)) || (cm .neq p_d.level 0)) || p_d.up) || p_d.depends)) then
      some false
    else
      if (p_d.flexible && p_d.inter) then
        if ((cm .lss (p_d.refs.length : Int) 1) || (cm .gtr (p_d.refs.length : Int) 3)) then
          some false
        else
          ref24_Right_l2 z 0 p_d
      else
        if (cm .gtr (p_d.refs.length : Int) 0) then
          some false
        else
          ref24_Right_j1 z p_d

def ref24_put (is_ : Bool) (n : Int) : Int :=
  if is_ then
  n
else
  0

noncomputable def ref24_Write_s7 (z : Option Nat) (v15 : Int) (x16 : Group) (v18 : List Int) (v19 : Int) : Option (((List Int × Int) ⊕ (((List Int × Int) ⊕ (List Int))))) :=
  if (cm .lss v19 (x16.refs.length : Int)) then
  Option.bind (ix x16.refs v19) fun x20 =>
    Option.bind (app v18 [(IntKind.u8.wrap x20)]) fun x21 =>
    some (Sum.inl (x21, (ar .add .i64 v19 1)))
else
  Option.map Sum.inr (some (Sum.inl (v18, (ar .add .i64 v15 1))))

noncomputable def ref24_Write_l7 (z : Option Nat) (v15 : Int) (x16 : Group) (v18 : List Int) (v19 : Int) : Option (((List Int × Int) ⊕ (List Int))) :=
  loopG z (fun (s : List Int × Int) => ref24_Write_s7 z v15 x16 s.1 s.2) (v18, v19)

noncomputable def ref24_Write_s6 (z : Option Nat) (v3 : Vp9) (v14 : List Int) (v15 : Int) : Option (((List Int × Int) ⊕ (List Int))) :=
  if (cm .lss v15 (v3.scale.pics.length : Int)) then
  Option.bind (ix v3.scale.pics v15) fun x16 =>
    Option.bind (app v14 [(IntKind.u8.wrap (ar .add .i64 (ar .add .i64 (ar .mul .i64 32 x16.tid) (ref24_put x16.up 16)) (ar .mul .i64 4 (x16.refs.length : Int))))]) fun x17 =>
    ref24_Write_l7 z v15 x16 x17 0
else
  Option.map Sum.inr (some v14)

noncomputable def ref24_Write_l6 (z : Option Nat) (v3 : Vp9) (v14 : List Int) (v15 : Int) : Option (List Int) :=
  loopG z (fun (s : List Int × Int) => ref24_Write_s6 z v3 s.1 s.2) (v14, v15)

noncomputable def ref24_Write_j5 (z : Option Nat) (v3 : Vp9) (v13 : List Int) : Option (List Int) :=
  ref24_Write_l6 z v3 v13 0

noncomputable def ref24_Write_s4 (z : Option Nat) (v3 : Vp9) (v9 : List Int) (v10 : Int) : Option (((List Int × Int) ⊕ (List Int))) :=
  if (cm .lss v10 (v3.scale.sizes.length : Int)) then
  Option.bind (ix v3.scale.sizes v10) fun x11 =>
    Option.bind (app v9 [(IntKind.u8.wrap (dv .quo .i64 x11.wide 256)), (IntKind.u8.wrap (dv .rem .i64 x11.wide 256)), (IntKind.u8.wrap (dv .quo .i64 x11.high 256)), (IntKind.u8.wrap (dv .rem .i64 x11.high 256))]) fun x12 =>
    some (Sum.inl (x12, (ar .add .i64 v10 1)))
else
  Option.map Sum.inr (if v3.scale.hasPics then
    Option.bind (app v9 [(IntKind.u8.wrap (v3.scale.pics.length : Int))]) fun x22 =>
      ref24_Write_j5 z v3 x22
  else
    ref24_Write_j5 z v3 v9)

noncomputable def ref24_Write_l4 (z : Option Nat) (v3 : Vp9) (v9 : List Int) (v10 : Int) : Option (List Int) :=
  loopG z (fun (s : List Int × Int) => ref24_Write_s4 z v3 s.1 s.2) (v9, v10)

noncomputable def ref24_Write_s3 (z : Option Nat) (v3 : Vp9) (v4 : List Int) (v5 : Int) : Option (((List Int × Int) ⊕ (List Int))) :=
  if (cm .lss v5 (v3.refs.length : Int)) then
  Option.bind (ix v3.refs v5) fun x6 =>
    Option.bind (app v4 [(IntKind.u8.wrap (ar .add .i64 (ar .mul .i64 2 x6) (ref24_put (cm .lss (ar .add .i64 v5 1) (v3.refs.length : Int)) 1)))]) fun x7 =>
    some (Sum.inl (x7, (ar .add .i64 v5 1)))
else
  Option.map Sum.inr (if (!v3.hasScale) then
    some v4
  else
    Option.bind (app v4 [(IntKind.u8.wrap (ar .add .i64 (ar .add .i64 (ar .mul .i64 32 (ar .sub .i64 v3.scale.layers 1)) (ref24_put v3.scale.hasSizes 16)) (ref24_put v3.scale.hasPics 8)))]) fun x8 =>
      ref24_Write_l4 z v3 x8 0)

noncomputable def ref24_Write_l3 (z : Option Nat) (v3 : Vp9) (v4 : List Int) (v5 : Int) : Option (List Int) :=
  loopG z (fun (s : List Int × Int) => ref24_Write_s3 z v3 s.1 s.2) (v4, v5)

noncomputable def ref24_Write_j2 (z : Option Nat) (v2 : List Int) (v3 : Vp9) : Option (List Int) :=
  ref24_Write_l3 z v3 v2 0

noncomputable def ref24_Write_j1 (z : Option Nat) (p_d : Vp9) (v1 : List Int) : Option (List Int) :=
  if p_d.hasLayer then
  Option.bind (app v1 [(IntKind.u8.wrap (ar .add .i64 (ar .add .i64 (ar .add .i64 (ar .mul .i64 32 p_d.tid) (ref24_put p_d.up 16)) (ar .mul .i64 2 p_d.sid)) (ref24_put p_d.depends 1)))]) fun x23 =>
    if (!p_d.flexible) then
    Option.bind (app x23 [(IntKind.u8.wrap p_d.level)]) fun x24 =>
      ref24_Write_j2 z x24 p_d
  else
    ref24_Write_j2 z x23 p_d
else
  ref24_Write_j2 z v1 p_d

noncomputable def ref24_Write (z : Option Nat) (p_d : Vp9) : Option (List Int) :=
  if (p_d.hasPic && p_d.wide) then
  Option.bind (app [(IntKind.u8.wrap (ar .add .i64 (ar .add .i64 (ar .add .i64 (ar .add .i64 (ar .add .i64 (ar .add .i64 (ar .add .i64 (ref24_put p_d.hasPic 128) (ref24_put p_d.inter 64)) (ref24_put p_d.hasLayer 32)) (ref24_put p_d.flexible 16)) (ref24_put p_d.begin 8)) (ref24_put p_d.end_ 4)) (ref24_put p_d.hasScale 2)) (ref24_put p_d.notRef 1)))] [(IntKind.u8.wrap (ar .add .i64 128 (dv .quo .i64 p_d.pic 256))), (IntKind.u8.wrap (dv .rem .i64 p_d.pic 256))]) fun x25 =>
    ref24_Write_j1 z p_d x25
else
  if p_d.hasPic then
    Option.bind (app [(IntKind.u8.wrap (ar .add .i64 (ar .add .i64 (ar .add .i64 (ar .add .i64 (ar .add .i64 (ar .add .i64 (ar .add .i64 (ref24_put p_d.hasPic 128) (ref24_put p_d.inter 64)) (ref24_put p_d.hasLayer 32)) (ref24_put p_d.flexible 16)) (ref24_put p_d.begin 8)) (ref24_put p_d.end_ 4)) (ref24_put p_d.hasScale 2)) (ref24_put p_d.notRef 1)))] [(IntKind.u8.wrap p_d.pic)]) fun x26 =>
      ref24_Write_j1 z p_d x26
  else
    ref24_Write_j1 z p_d [(IntKind.u8.wrap (ar .add .i64 (ar .add .i64 (ar .add .i64 (ar .add .i64 (ar .add .i64 (ar .add .i64 (ar .add .i64 (ref24_put p_d.hasPic 128) (ref24_put p_d.inter 64)) (ref24_put p_d.hasLayer 32)) (ref24_put p_d.flexible 16)) (ref24_put p_d.begin 8)) (ref24_put p_d.end_ 4)) (ref24_put p_d.hasScale 2)) (ref24_put p_d.notRef 1)))]

noncomputable def ref24_Eye_byte_y1_j1 (z : Option Nat) (v1 : crossbarref24_Eye) : Option (Int × crossbarref24_Eye) :=
  some (0, v1)

noncomputable def ref24_Eye_byte_y1 (z : Option Nat) (box0 : crossbarref24_Eye) : Option (Int × crossbarref24_Eye) :=
  if ((cm .neq box0.e 0) || (cm .geq box0.at_ (box0.b.length : Int))) then
  if (cm .eql box0.e 0) then
    ref24_Eye_byte_y1_j1 z ({ box0 with e := 2 })
  else
    ref24_Eye_byte_y1_j1 z box0
else
  Option.bind (ix box0.b (ar .sub .i64 (ar .add .i64 box0.at_ 1) 1)) fun x2 =>
    some ((IntKind.i64.wrap x2), { box0 with at_ := (ar .add .i64 box0.at_ 1) })

noncomputable def ref24_Eye_scale_y1_s3 (z : Option Nat) (v11 : Int) (v12 : Scale) (x14 : Int × crossbarref24_Eye) (v15 : Int) (v16 : Group) (v17 : crossbarref24_Eye) : Option (((Int × Group × crossbarref24_Eye) ⊕ (((Int × Scale × crossbarref24_Eye) ⊕ (Scale × crossbarref24_Eye))))) :=
  if (cm .lss v15 (dv .rem .i64 (dv .quo .i64 x14.1 4) 4)) then
  Option.bind (ref24_Eye_byte_y1 z v17) fun x18 =>
    Option.bind (app v16.refs [x18.1]) fun x19 =>
    some (Sum.inl ((ar .add .i64 v15 1), { v16 with refs := x19 }, x18.2))
else
  Option.map Sum.inr (Option.bind (app v12.pics [v16]) fun x20 =>
    some (Sum.inl ((ar .add .i64 v11 1), { v12 with pics := x20 }, v17)))

noncomputable def ref24_Eye_scale_y1_l3 (z : Option Nat) (v11 : Int) (v12 : Scale) (x14 : Int × crossbarref24_Eye) (v15 : Int) (v16 : Group) (v17 : crossbarref24_Eye) : Option (((Int × Scale × crossbarref24_Eye) ⊕ (Scale × crossbarref24_Eye))) :=
  loopG z (fun (s : Int × Group × crossbarref24_Eye) => ref24_Eye_scale_y1_s3 z v11 v12 x14 s.1 s.2.1 s.2.2) (v15, v16, v17)

noncomputable def ref24_Eye_scale_y1_s2 (z : Option Nat) (x10 : Int × crossbarref24_Eye) (v11 : Int) (v12 : Scale) (v13 : crossbarref24_Eye) : Option (((Int × Scale × crossbarref24_Eye) ⊕ (Scale × crossbarref24_Eye))) :=
  if ((cm .lss v11 x10.1) && (cm .eql v13.e 0)) then
  Option.bind (ref24_Eye_byte_y1 z v13) fun x14 =>
    ref24_Eye_scale_y1_l3 z v11 v12 x14 0 (Group.mk (dv .quo .i64 x14.1 32) (cm .eql (dv .rem .i64 (dv .quo .i64 x14.1 16) 2) 1) ([] : List Int)) x14.2
else
  Option.map Sum.inr (some (v12, v13))

noncomputable def ref24_Eye_scale_y1_l2 (z : Option Nat) (x10 : Int × crossbarref24_Eye) (v11 : Int) (v12 : Scale) (v13 : crossbarref24_Eye) : Option (Scale × crossbarref24_Eye) :=
  loopG z (fun (s : Int × Scale × crossbarref24_Eye) => ref24_Eye_scale_y1_s2 z x10 s.1 s.2.1 s.2.2) (v11, v12, v13)

noncomputable def ref24_Eye_scale_y1_s1 (z : Option Nat) (v2 : Int) (v3 : Scale) (v4 : crossbarref24_Eye) : Option (((Int × Scale × crossbarref24_Eye) ⊕ (Scale × crossbarref24_Eye))) :=
  if (v3.hasSizes && (cm .lss v2 v3.layers)) then
  Option.bind (ref24_Eye_byte_y1 z v4) fun x5 =>
    Option.bind (ref24_Eye_byte_y1 z x5.2) fun x6 =>
    Option.bind (ref24_Eye_byte_y1 z x6.2) fun x7 =>
    Option.bind (ref24_Eye_byte_y1 z x7.2) fun x8 =>
    Option.bind (app v3.sizes [(Size.mk (ar .add .i64 (ar .mul .i64 256 x5.1) x6.1) (ar .add .i64 (ar .mul .i64 256 x7.1) x8.1))]) fun x9 =>
    some (Sum.inl ((ar .add .i64 v2 1), { v3 with sizes := x9 }, x8.2))
else
  Option.map Sum.inr (if (!v3.hasPics) then
    some (v3, v4)
  else
    Option.bind (ref24_Eye_byte_y1 z v4) fun x10 =>
      ref24_Eye_scale_y1_l2 z x10 0 v3 x10.2)

noncomputable def ref24_Eye_scale_y1_l1 (z : Option Nat) (v2 : Int) (v3 : Scale) (v4 : crossbarref24_Eye) : Option (Scale × crossbarref24_Eye) :=
  loopG z (fun (s : Int × Scale × crossbarref24_Eye) => ref24_Eye_scale_y1_s1 z s.1 s.2.1 s.2.2) (v2, v3, v4)

noncomputable def ref24_Eye_scale_y1 (z : Option Nat) (box0 : crossbarref24_Eye) : Option (Scale × crossbarref24_Eye) :=
  Option.bind (ref24_Eye_byte_y1 z box0) fun x1 =>
  ref24_Eye_scale_y1_l1 z 0 (Scale.mk (ar .add .i64 (dv .quo .i64 x1.1 32) 1) (cm .eql (dv .rem .i64 (dv .quo .i64 x1.1 16) 2) 1) ([] : List Size) (cm .eql (dv .rem .i64 (dv .quo .i64 x1.1 8) 2) 1) ([] : List Group)) x1.2

noncomputable def ref24_Read_j4 (z : Option Nat) (v8 : Vp9) (v9 : crossbarref24_Eye) : Option (Vp9 × Int × Int) :=
  if (cm .neq v9.e 0) then
  some ((Vp9.mk false false 0 false false 0 0 false false false 0 [] false false false (Scale.mk 0 false [] false []) false), 0, v9.e)
else
  some (v8, v9.at_, 0)

noncomputable def ref24_Read_j3 (z : Option Nat) (v6 : Vp9) (v7 : crossbarref24_Eye) : Option (Vp9 × Int × Int) :=
  if v6.hasScale then
  Option.bind (ref24_Eye_scale_y1 z v7) fun x10 =>
    ref24_Read_j4 z ({ v6 with scale := x10.1 }) x10.2
else
  ref24_Read_j4 z v6 v7

noncomputable def ref24_Read_j6 (z : Option Nat) (v11 : Vp9) (x13 : Int × crossbarref24_Eye) (x14 : List Int) (v15 : crossbarref24_Eye) : Option (((Vp9 × crossbarref24_Eye) ⊕ (Vp9 × Int × Int))) :=
  if ((cm .eql (dv .rem .i64 x13.1 2) 0) || (cm .neq v15.e 0)) then
  Option.map Sum.inr (ref24_Read_j3 z ({ v11 with refs := x14 }) v15)
else
  some (Sum.inl ({ v11 with refs := x14 }, v15))

noncomputable def ref24_Read_s5 (z : Option Nat) (v11 : Vp9) (v12 : crossbarref24_Eye) : Option (((Vp9 × crossbarref24_Eye) ⊕ (Vp9 × Int × Int))) :=
  Option.bind (ref24_Eye_byte_y1 z v12) fun x13 =>
  if (cm .neq x13.2.e 0) then
  Option.map Sum.inr (ref24_Read_j3 z v11 x13.2)
else
  Option.bind (app v11.refs [(dv .quo .i64 x13.1 2)]) fun x14 =>
    if ((cm .eql (dv .quo .i64 x13.1 2) 0) || ((cm .eql (dv .rem .i64 x13.1 2) 1) && (cm .eql (x14.length : Int) 3))) then
    ref24_Read_j6 z v11 x13 x14 ({ x13.2 with e := 6 })
  else
    ref24_Read_j6 z v11 x13 x14 x13.2

noncomputable def ref24_Read_l5 (z : Option Nat) (v11 : Vp9) (v12 : crossbarref24_Eye) : Option (Vp9 × Int × Int) :=
  loopG z (fun (s : Vp9 × crossbarref24_Eye) => ref24_Read_s5 z s.1 s.2) (v11, v12)

noncomputable def ref24_Read_j2 (z : Option Nat) (v4 : Vp9) (v5 : crossbarref24_Eye) : Option (Vp9 × Int × Int) :=
  if (v4.flexible && v4.inter) then
  ref24_Read_l5 z (Vp9.mk v4.hasPic v4.wide v4.pic v4.inter v4.hasLayer v4.tid v4.sid v4.up v4.depends v4.flexible v4.level v4.refs v4.begin v4.end_ v4.hasScale v4.scale v4.notRef) v5
else
  ref24_Read_j3 z v4 v5

noncomputable def ref24_Read_j1 (z : Option Nat) (v2 : Vp9) (v3 : crossbarref24_Eye) : Option (Vp9 × Int × Int) :=
  if v2.hasLayer then
  Option.bind (ref24_Eye_byte_y1 z v3) fun x16 =>
    if (!v2.flexible) then
    Option.bind (ref24_Eye_byte_y1 z x16.2) fun x17 =>
      ref24_Read_j2 z ({ v2 with tid := (dv .quo .i64 x16.1 32), sid := (dv .rem .i64 (dv .quo .i64 x16.1 2) 8), up := (cm .eql (dv .rem .i64 (dv .quo .i64 x16.1 16) 2) 1), depends := (cm .eql (dv .rem .i64 x16.1 2) 1), level := x17.1 }) x17.2
  else
    ref24_Read_j2 z ({ v2 with tid := (dv .quo .i64 x16.1 32), sid := (dv .rem .i64 (dv .quo .i64 x16.1 2) 8), up := (cm .eql (dv .rem .i64 (dv .quo .i64 x16.1 16) 2) 1), depends := (cm .eql (dv .rem .i64 x16.1 2) 1) }) x16.2
else
  ref24_Read_j2 z v2 v3

noncomputable def ref24_Read (z : Option Nat) (b : List Int) : Option (Vp9 × Int × Int) :=
  Option.bind (ref24_Eye_byte_y1 z (crossbarref24_Eye.mk b 0 0)) fun x1 =>
  if (cm .eql (dv .quo .i64 x1.1 128) 1) then
  Option.bind (ref24_Eye_byte_y1 z x1.2) fun x18 =>
    if (cm .geq x18.1 128) then
    Option.bind (ref24_Eye_byte_y1 z x18.2) fun x19 =>
      ref24_Read_j1 z (Vp9.mk (cm .eql (dv .quo .i64 x1.1 128) 1) true (ar .add .i64 (ar .mul .i64 256 (ar .sub .i64 x18.1 128)) x19.1) (cm .eql (dv .rem .i64 (dv .quo .i64 x1.1 64) 2) 1) (cm .eql (dv .rem .i64 (dv .quo .i64 x1.1 32) 2) 1) 0 0 false false (cm .eql (dv .rem .i64 (dv .quo .i64 x1.1 16) 2) 1) 0 ([] : List Int) (cm .eql (dv .rem .i64 (dv .quo .i64 x1.1 8) 2) 1) (cm .eql (dv .rem .i64 (dv .quo .i64 x1.1 4) 2) 1) (cm .eql (dv .rem .i64 (dv .quo .i64 x1.1 2) 2) 1) (Scale.mk 0 false [] false []) (cm .eql (dv .rem .i64 x1.1 2) 1)) x19.2
  else
    ref24_Read_j1 z (Vp9.mk (cm .eql (dv .quo .i64 x1.1 128) 1) false x18.1 (cm .eql (dv .rem .i64 (dv .quo .i64 x1.1 64) 2) 1) (cm .eql (dv .rem .i64 (dv .quo .i64 x1.1 32) 2) 1) 0 0 false false (cm .eql (dv .rem .i64 (dv .quo .i64 x1.1 16) 2) 1) 0 ([] : List Int) (cm .eql (dv .rem .i64 (dv .quo .i64 x1.1 8) 2) 1) (cm .eql (dv .rem .i64 (dv .quo .i64 x1.1 4) 2) 1) (cm .eql (dv .rem .i64 (dv .quo .i64 x1.1 2) 2) 1) (Scale.mk 0 false [] false []) (cm .eql (dv .rem .i64 x1.1 2) 1)) x18.2
else
  ref24_Read_j1 z (Vp9.mk (cm .eql (dv .quo .i64 x1.1 128) 1) false 0 (cm .eql (dv .rem .i64 (dv .quo .i64 x1.1 64) 2) 1) (cm .eql (dv .rem .i64 (dv .quo .i64 x1.1 32) 2) 1) 0 0 false false (cm .eql (dv .rem .i64 (dv .quo .i64 x1.1 16) 2) 1) 0 ([] : List Int) (cm .eql (dv .rem .i64 (dv .quo .i64 x1.1 8) 2) 1) (cm .eql (dv .rem .i64 (dv .quo .i64 x1.1 4) 2) 1) (cm .eql (dv .rem .i64 (dv .quo .i64 x1.1 2) 2) 1) (Scale.mk 0 false [] false []) (cm .eql (dv .rem .i64 x1.1 2) 1)) x1.2

noncomputable def ref24_Set_j4 (z : Option Nat) (v9 : Int) (v12 : List Int) : Option (((List Int × Int) ⊕ (List Int × Int))) :=
  some (Sum.inl (v12, (ar .add .i64 v9 1)))

noncomputable def ref24_Set_s3 (z : Option Nat) (x5 : List Int) (x6 : List Int) (v8 : List Int) (v9 : Int) : Option (((List Int × Int) ⊕ (List Int × Int))) :=
  if ((cm .lss v9 5) && (cm .lss v9 (x5.length : Int))) then
  Option.bind (ix x5 v9) fun x10 =>
    Option.bind (ix x6 v9) fun x11 =>
    if (cm .neq x10 x11) then
    Option.bind (ix x6 v9) fun x13 =>
      Option.bind (ix v8 v9) fun x14 =>
      ref24_Set_j4 z v9 (List.set v8 (v9 : Int).toNat x13)
  else
    ref24_Set_j4 z v9 v8
else
  Option.map Sum.inr (some (v8, 0))

noncomputable def ref24_Set_l3 (z : Option Nat) (x5 : List Int) (x6 : List Int) (v8 : List Int) (v9 : Int) : Option (List Int × Int) :=
  loopG z (fun (s : List Int × Int) => ref24_Set_s3 z x5 x6 s.1 s.2) (v8, v9)

noncomputable def ref24_Set_j2 (z : Option Nat) (b : List Int) (x1 : Vp9 × Int × Int) (v3 : Vp9) : Option (List Int × Int) :=
  Option.bind (ref24_Right z v3) fun x4 =>
  if (!x4) then
  some ([], 6)
else
  Option.bind (ref24_Write z x1.1) fun x5 =>
    Option.bind (ref24_Write z v3) fun x6 =>
    Option.bind (app ([] : List Int) b) fun x7 =>
    ref24_Set_l3 z x5 x6 x7 0

noncomputable def ref24_Set_j1 (z : Option Nat) (b : List Int) (level : Int) (x1 : Vp9 × Int × Int) (v2 : Vp9) : Option (List Int × Int) :=
  if ((x1.1.hasLayer && (!x1.1.flexible)) && (cm .neq level (-1))) then
  ref24_Set_j2 z b x1 ({ v2 with level := level })
else
  ref24_Set_j2 z b x1 v2

noncomputable def ref24_Set (z : Option Nat) (b : List Int) (pic : Int) (level : Int) : Option (List Int × Int) :=
  Option.bind (ref24_Read z b) fun x1 =>
  if (cm .neq x1.2.2 0) then
  some ([], x1.2.2)
else
  if (x1.1.hasPic && (cm .neq pic (-1))) then
    ref24_Set_j1 z b level x1 ({ x1.1 with pic := pic })
  else
    ref24_Set_j1 z b level x1 x1.1

noncomputable def ref24_Canon (z : Option Nat) (b : List Int) : Option (Bool) :=
  Option.bind (ref24_Read z b) fun x1 =>
  Option.bind (gT (cm .eql x1.2.2 0) (ref24_Write z x1.1)) fun x2 =>
  Option.bind (gT (cm .eql x1.2.2 0) (sub b 0 x1.2.1)) fun x3 =>
  some ((cm .eql x1.2.2 0) && (sc .eql (b2s x2) (b2s x3)))

noncomputable def law24_Vp9Right_j1 (z : Option Nat) (b : List Int) (pic : Int) (level : Int) (x2 : Bool) (v4 : Vp9) : Option (Bool) :=
  Option.bind (vp9_Read z b) fun x5 =>
  Option.bind (ref24_Read z b) fun x6 =>
  Option.bind (gT (!((cm .neq x5.2.2 x6.2.2) || (cm .neq x5.2.1 x6.2.1))) (ref24_Same z x5.1 x6.1)) fun x7 =>
  Option.bind (gT (!(((cm .neq x5.2.2 x6.2.2) || (cm .neq x5.2.1 x6.2.1)) || (!x7))) (vp9_RightScale z v4.scale)) fun x8 =>
  Option.bind (gT (!(((cm .neq x5.2.2 x6.2.2) || (cm .neq x5.2.1 x6.2.1)) || (!x7))) (ref24_RightScale z v4.scale)) fun x9 =>
  if ((((cm .neq x5.2.2 x6.2.2) || (cm .neq x5.2.1 x6.2.1)) || (!x7)) || (bq .neq x8 x9)) then
  some false
else
  Option.bind (vp9_Set z b pic level) fun x10 =>
    Option.bind (ref24_Set z b pic level) fun x11 =>
    Option.bind (vp9_Right z v4) fun x12 =>
    Option.bind (gT (bq .eql x12 x2) (vp9_Canon z b)) fun x13 =>
    Option.bind (gT (bq .eql x12 x2) (ref24_Canon z b)) fun x14 =>
    some ((((bq .eql x12 x2) && (bq .eql x13 x14)) && (cm .eql x10.2 x11.2)) && (sc .eql (b2s x10.1) (b2s x11.1)))

noncomputable def law24_Vp9Right (z : Option Nat) (p_d : Vp9) (b : List Int) (pic : Int) (level : Int) : Option (Bool) :=
  Option.bind (ref24_Short z p_d) fun x1 =>
  if ((!x1) || (cm .gtr (b.length : Int) 3000)) then
  some true
else
  Option.bind (ref24_Right z p_d) fun x2 =>
    Option.bind (vp9_Write z p_d) fun x3 =>
    if x2 then
    Option.bind (gT (!(cm .neq x3.2 0)) (ref24_Write z p_d)) fun x15 =>
      if ((cm .neq x3.2 0) || (sc .neq (b2s x3.1) (b2s x15))) then
      some false
    else
      law24_Vp9Right_j1 z b pic level x2 p_d
  else
    if ((cm .neq x3.2 1) || (cm .neq (x3.1.length : Int) 0)) then
      some false
    else
      law24_Vp9Right_j1 z b pic level x2 p_d

end Xb
