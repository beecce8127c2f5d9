/- Own text: BModels. -/
import Derived.Test.YtffmagkhoepfnaaBTypes
set_option linter.all false
set_option linter.unusedVariables false
set_option linter.unusedSimpArgs false
set_option linter.unnecessarySimpa false
set_option linter.deprecated false
namespace Xb
open Go
set_option linter.unusedVariables false

def bits_Right (k : Ink) : Option (Bool) :=
  if ((cm .lss k.many 0) || (cm .neq (k.bytes.length : Int) (ar .add .i64 (dv .quo .i64 k.many 8) (imin (dv .rem .i64 k.many 8) 1)))) then
  some false
else
  Option.bind (gT (!(cm .eql (ar .sub .i64 (ar .mul .i64 8 (k.bytes.length : Int)) k.many) 0)) (ix k.bytes (ar .sub .i64 (k.bytes.length : Int) 1))) fun x1 =>
    Option.bind (gT (!(cm .eql (ar .sub .i64 (ar .mul .i64 8 (k.bytes.length : Int)) k.many) 0)) (sfO .shl .u8 1 (ar .sub .i64 (ar .mul .i64 8 (k.bytes.length : Int)) k.many))) fun x2 =>
    some ((cm .eql (ar .sub .i64 (ar .mul .i64 8 (k.bytes.length : Int)) k.many) 0) || (cm .eql (ar .and .u8 x1 (ar .sub .u8 x2 1)) 0))

def math_bits_Len64_j3 (v5 : Int) (v6 : Int) : Option (Int) :=
  Option.bind (ix ([0, 1, 2, 2, 3, 3, 3, 3, 4, 4, 4, 4, 4, 4, 4, 4, 5, 5, 5, 5, 5, 5, 5, 5, 5, 5, 5, 5, 5, 5, 5, 5, 6, 6, 6, 6, 6, 6, 6, 6, 6, 6, 6, 6, 6, 6, 6, 6, 6, 6, 6, 6, 6, 6, 6, 6, 6, 6, 6, 6, 6, 6, 6, 6, 7, 7, 7, 7, 7, 7, 7, 7, 7, 7, 7, 7, 7, 7, 7, 7, 7, 7, 7, 7, 7, 7, 7, 7, 7, 7, 7, 7, 7, 7, 7, 7, 7, 7, 7, 7, 7, 7, 7, 7, 7, 7, 7, 7, 7, 7, 7, 7, 7, 7, 7, 7, 7, 7, 7, 7, 7, 7, 7, 7, 7, 7, 7, 7, 8, 8, 8, 8, 8, 8, 8, 8, 8, 8, 8, 8, 8, 8, 8, 8, 8, 8, 8, 8, 8, 8, 8, 8, 8, 8, 8, 8, 8, 8, 8, 8, 8, 8, 8, 8, 8, 8, 8, 8, 8, 8, 8, 8, 8, 8, 8, 8, 8, 8, 8, 8, 8, 8, 8, 8, 8, 8, 8, 8, 8, 8, 8, 8, 8, 8, 8, 8, 8, 8, 8, 8, 8, 8, 8, 8, 8, 8, 8, 8, 8, 8, 8, 8, 8, 8, 8, 8, 8, 8, 8, 8, 8, 8, 8, 8, 8, 8, 8, 8, 8, 8, 8, 8, 8, 8, 8, 8, 8, 8, 8, 8, 8, 8, 8, 8, 8, 8, 8, 8, 8, 8, 8, 8, 8, 8, 8, 8] : List UInt8) (IntKind.u8.wrap v5)) fun x7 =>
  some (ar .add .i64 v6 (IntKind.i64.wrap (x7.toNat : Int)))

def math_bits_Len64_j2 (v3 : Int) (v4 : Int) : Option (Int) :=
  if (cm .geq v3 256) then
  math_bits_Len64_j3 (sf .shr .u64 v3 8) (ar .add .i64 v4 8)
else
  math_bits_Len64_j3 v3 v4

def math_bits_Len64_j1 (v1 : Int) (v2 : Int) : Option (Int) :=
  if (cm .geq v1 65536) then
  math_bits_Len64_j2 (sf .shr .u64 v1 16) (ar .add .i64 v2 16)
else
  math_bits_Len64_j2 v1 v2

def math_bits_Len64 (x : Int) : Option (Int) :=
  if (cm .geq x 4294967296) then
  math_bits_Len64_j1 (sf .shr .u64 x 32) 32
else
  math_bits_Len64_j1 x 0

def slices_Clone (l : List Int) : Option (List Int) := app [] l

noncomputable def bits_Add_j3 (z : Option Nat) (v : Int) (v5 : Int) (v7 : Ink) (v8 : List Int) (v9 : Int) : Option (((Int × List Int × Ink) ⊕ (Ink × Int))) :=
  Option.bind (ix v8 (ar .sub .i64 (v8.length : Int) 1)) fun x10 =>
  Option.bind (sfO .shr .u64 v (ar .sub .i64 v5 (imin v9 v5))) fun x11 =>
  Option.bind (sfO .shl .u64 1 (imin v9 v5)) fun x12 =>
  Option.bind (sfO .shl .u8 (IntKind.u8.wrap (ar .and .u64 x11 (ar .sub .u64 x12 1))) (ar .sub .i64 v9 (imin v9 v5))) fun x13 =>
  Option.bind (ix v8 (ar .sub .i64 (v8.length : Int) 1)) fun x14 =>
  some (Sum.inl ((ar .sub .i64 v5 (imin v9 v5)), (List.set v8 ((ar .sub .i64 (v8.length : Int) 1)).toNat (ar .or .u8 x10 x13)), { v7 with many := (ar .add .i64 v7.many (imin v9 v5)) }))

noncomputable def bits_Add_s2 (z : Option Nat) (v : Int) (v5 : Int) (v6 : List Int) (v7 : Ink) : Option (((Int × List Int × Ink) ⊕ (Ink × Int))) :=
  if (cm .gtr v5 0) then
  if (cm .eql (ar .sub .i64 (ar .mul .i64 8 (v6.length : Int)) v7.many) 0) then
    Option.bind (app v6 [0]) fun x15 =>
      bits_Add_j3 z v v5 v7 x15 8
  else
    bits_Add_j3 z v v5 v7 v6 (ar .sub .i64 (ar .mul .i64 8 (v6.length : Int)) v7.many)
else
  Option.map Sum.inr (some ({ v7 with bytes := v6 }, 0))

noncomputable def bits_Add_l2 (z : Option Nat) (v : Int) (v5 : Int) (v6 : List Int) (v7 : Ink) : Option (Ink × Int) :=
  loopG z (fun (s : Int × List Int × Ink) => bits_Add_s2 z v s.1 s.2.1 s.2.2) (v5, v6, v7)

noncomputable def bits_Add_j1 (z : Option Nat) (k : Ink) (v : Int) (n : Int) (v2 : Bool) : Option (Ink × Int) :=
  if v2 then
  some (k, 1)
else
  Option.bind (math_bits_Len64 v) fun x3 =>
    if (cm .gtr x3 n) then
    some (k, 6)
  else
    Option.bind (slices_Clone k.bytes) fun x4 =>
      bits_Add_l2 z v n x4 k

noncomputable def bits_Add (z : Option Nat) (k : Ink) (v : Int) (n : Int) : Option (Ink × Int) :=
  Option.bind (bits_Right k) fun x1 =>
  if (!x1) then
  bits_Add_j1 z k v n (!x1)
else
  if (cm .lss n 0) then
    bits_Add_j1 z k v n (cm .lss n 0)
  else
    bits_Add_j1 z k v n (cm .gtr n 64)

def bits_spread (n : Int) : Option (Int × Int) :=
  Option.bind (math_bits_Len64 n) fun x1 =>
  Option.bind (sfO .shl .u64 1 x1) fun x2 =>
  some (x1, (ar .sub .u64 x2 n))

noncomputable def bits_AddRange_j1 (z : Option Nat) (k : Ink) (v : Int) (n : Int) (v2 : Bool) : Option (Ink × Int) :=
  if v2 then
  some (k, 1)
else
  if (cm .geq v n) then
    some (k, 6)
  else
    Option.bind (bits_spread n) fun x3 =>
      if (cm .lss v x3.2) then
      Option.bind (bits_Add z k v (ar .sub .i64 x3.1 1)) fun x4 =>
        some (x4.1, x4.2)
    else
      Option.bind (bits_Add z k (ar .add .u64 v x3.2) x3.1) fun x5 =>
        some (x5.1, x5.2)

noncomputable def bits_AddRange (z : Option Nat) (k : Ink) (v : Int) (n : Int) : Option (Ink × Int) :=
  Option.bind (bits_Right k) fun x1 =>
  if (!x1) then
  bits_AddRange_j1 z k v n (!x1)
else
  if (cm .lss n 1) then
    bits_AddRange_j1 z k v n (cm .lss n 1)
  else
    bits_AddRange_j1 z k v n (cm .gtr n 4294967296)

def bits_Start (b : List Int) : GBits :=
  (GBits.mk b 0 0)

def bits_right (c : GBits) : Bool :=
  (((cm .eql c.err 0) && (cm .geq c.at_ 0)) && (cm .leq c.at_ (ar .mul .i64 8 (c.bytes.length : Int))))

def bits_fail_j1 (v1 : GBits) : GBits × Int :=
  (v1, 0)

def bits_fail (c : GBits) (e : Int) : GBits × Int :=
  if (cm .eql c.err 0) then
  bits_fail_j1 ({ c with err := e })
else
  bits_fail_j1 c

def bits_Left (c : GBits) : Int :=
  if (!(bits_right c)) then
  0
else
  (ar .sub .i64 (ar .mul .i64 8 (c.bytes.length : Int)) c.at_)

noncomputable def bits_Get_s2 (z : Option Nat) (v2 : Int) (v3 : Int) (v4 : GBits) : Option (((Int × Int × GBits) ⊕ (GBits × Int))) :=
  if (cm .gtr v2 0) then
  Option.bind (ix v4.bytes (dv .quo .i64 v4.at_ 8)) fun x5 =>
    Option.bind (sfO .shr .u8 x5 (ar .sub .i64 (ar .sub .i64 8 (dv .rem .i64 v4.at_ 8)) (imin (ar .sub .i64 8 (dv .rem .i64 v4.at_ 8)) v2))) fun x6 =>
    Option.bind (sfO .shl .u8 1 (imin (ar .sub .i64 8 (dv .rem .i64 v4.at_ 8)) v2)) fun x7 =>
    Option.bind (sfO .shl .u64 v3 (imin (ar .sub .i64 8 (dv .rem .i64 v4.at_ 8)) v2)) fun x8 =>
    some (Sum.inl ((ar .sub .i64 v2 (imin (ar .sub .i64 8 (dv .rem .i64 v4.at_ 8)) v2)), (ar .or .u64 x8 (IntKind.u64.wrap (ar .and .u8 x6 (ar .sub .u8 x7 1)))), { v4 with at_ := (ar .add .i64 v4.at_ (imin (ar .sub .i64 8 (dv .rem .i64 v4.at_ 8)) v2)) }))
else
  Option.map Sum.inr (some (v4, v3))

noncomputable def bits_Get_l2 (z : Option Nat) (v2 : Int) (v3 : Int) (v4 : GBits) : Option (GBits × Int) :=
  loopG z (fun (s : Int × Int × GBits) => bits_Get_s2 z s.1 s.2.1 s.2.2) (v2, v3, v4)

noncomputable def bits_Get_j1 (z : Option Nat) (c : GBits) (n : Int) (v1 : Bool) : Option (GBits × Int) :=
  if v1 then
  some ((bits_fail c 1).1, (bits_fail c 1).2)
else
  if (cm .gtr n (bits_Left c)) then
    some ((bits_fail c 2).1, (bits_fail c 2).2)
  else
    bits_Get_l2 z n 0 c

noncomputable def bits_Get (z : Option Nat) (c : GBits) (n : Int) : Option (GBits × Int) :=
  if (!(bits_right c)) then
  bits_Get_j1 z c n (!(bits_right c))
else
  if (cm .lss n 0) then
    bits_Get_j1 z c n (cm .lss n 0)
  else
    bits_Get_j1 z c n (cm .gtr n 64)

noncomputable def bits_Range_j1 (z : Option Nat) (c : GBits) (v3 : Int) (v4 : GBits) : Option (GBits × Int) :=
  if (cm .neq v4.err 0) then
  some ((bits_fail c v4.err).1, (bits_fail c v4.err).2)
else
  some (v4, v3)

noncomputable def bits_Range (z : Option Nat) (c : GBits) (n : Int) : Option (GBits × Int) :=
  if (((!(bits_right c)) || (cm .lss n 1)) || (cm .gtr n 4294967296)) then
  some ((bits_fail c 1).1, (bits_fail c 1).2)
else
  Option.bind (bits_spread n) fun x1 =>
    Option.bind (bits_Get z c (ar .sub .i64 x1.1 1)) fun x2 =>
    if ((cm .eql x2.1.err 0) && (cm .geq x2.2 x1.2)) then
    Option.bind (bits_Get z x2.1 1) fun x5 =>
      bits_Range_j1 z c (ar .sub .u64 (ar .add .u64 (sf .shl .u64 x2.2 1) x5.2) x1.2) x5.1
  else
    bits_Range_j1 z c x2.2 x2.1

noncomputable def law02_awake (z : Option Nat)  : Option (Bool) :=
  Option.bind (bits_Add z (Ink.mk [] 0) 5 3) fun x1 =>
  Option.bind (bits_AddRange z x1.1 3 5) fun x2 =>
  Option.bind (bits_Add z x2.1 257 9) fun x3 =>
  Option.bind (bits_Get z (bits_Start x3.1.bytes) 3) fun x4 =>
  Option.bind (bits_Range z x4.1 5) fun x5 =>
  Option.bind (bits_Get z x5.1 9) fun x6 =>
  Option.bind (bits_Get z x6.1 9) fun x7 =>
  Option.bind (gT ((((((((cm .eql x1.2 0) && (cm .eql x2.2 0)) && (cm .eql x3.2 0)) && (cm .eql x4.2 5)) && (cm .eql x5.2 3)) && (cm .eql x6.2 257)) && (cm .eql x6.1.at_ 15)) && (cm .eql x3.1.many 15)) (bits_Right x3.1)) fun x8 =>
  some ((((((((((((cm .eql x1.2 0) && (cm .eql x2.2 0)) && (cm .eql x3.2 0)) && (cm .eql x4.2 5)) && (cm .eql x5.2 3)) && (cm .eql x6.2 257)) && (cm .eql x6.1.at_ 15)) && (cm .eql x3.1.many 15)) && x8) && (cm .eql (bits_Left x6.1) 1)) && (cm .eql x7.1.err 2)) && (sc .eql (b2s x3.1.bytes) ([186, 2] : List UInt8)))

def ref02_Right (c : GBits) : Bool :=
  ((((cm .eql c.err 0) && (cm .geq c.at_ 0)) && (cm .leq (dv .quo .i64 c.at_ 8) (c.bytes.length : Int))) && (cm .leq c.at_ (ar .mul .i64 8 (c.bytes.length : Int))))

def ref02_stays_j1 (v1 : GBits) : GBits × Int :=
  (v1, 0)

def ref02_stays (c : GBits) (e : Int) : GBits × Int :=
  if (cm .eql c.err 0) then
  ref02_stays_j1 ({ c with err := e })
else
  ref02_stays_j1 c

noncomputable def ref02_bit_s1 (z : Option Nat) (at_ : Int) (v2 : Int) (v3 : Int) : Option (((Int × Int) ⊕ (Int))) :=
  if (cm .lss v3 (ar .sub .i64 7 (dv .rem .i64 at_ 8))) then
  some (Sum.inl ((dv .quo .u8 v2 2), (ar .add .i64 v3 1)))
else
  Option.map Sum.inr (some (IntKind.u64.wrap (dv .rem .u8 v2 2)))

noncomputable def ref02_bit_l1 (z : Option Nat) (at_ : Int) (v2 : Int) (v3 : Int) : Option (Int) :=
  loopG z (fun (s : Int × Int) => ref02_bit_s1 z at_ s.1 s.2) (v2, v3)

noncomputable def ref02_bit (z : Option Nat) (b : List Int) (at_ : Int) : Option (Int) :=
  Option.bind (ix b (dv .quo .i64 at_ 8)) fun x1 =>
  ref02_bit_l1 z at_ x1 0

noncomputable def ref02_Get_s1 (z : Option Nat) (c : GBits) (n : Int) (v1 : Int) (v2 : Int) : Option (((Int × Int) ⊕ (GBits × Int))) :=
  if (cm .lss v2 n) then
  Option.bind (ref02_bit z c.bytes (ar .add .i64 c.at_ v2)) fun x3 =>
    some (Sum.inl ((ar .add .u64 (ar .mul .u64 2 v1) x3), (ar .add .i64 v2 1)))
else
  Option.map Sum.inr (some ({ c with at_ := (ar .add .i64 c.at_ n) }, v1))

noncomputable def ref02_Get_l1 (z : Option Nat) (c : GBits) (n : Int) (v1 : Int) (v2 : Int) : Option (GBits × Int) :=
  loopG z (fun (s : Int × Int) => ref02_Get_s1 z c n s.1 s.2) (v1, v2)

noncomputable def ref02_Get (z : Option Nat) (c : GBits) (n : Int) : Option (GBits × Int) :=
  if (((!(ref02_Right c)) || (cm .lss n 0)) || (cm .gtr n 64)) then
  some ((ref02_stays c 1).1, (ref02_stays c 1).2)
else
  if (cm .gtr n (ar .sub .i64 (ar .mul .i64 8 (c.bytes.length : Int)) c.at_)) then
    some ((ref02_stays c 2).1, (ref02_stays c 2).2)
  else
    ref02_Get_l1 z c n 0 0

def ref02_Same (a : GBits) (b : GBits) : Bool :=
  (((cm .eql a.at_ b.at_) && (cm .eql a.err b.err)) && (sc .eql (b2s a.bytes) (b2s b.bytes)))

noncomputable def ref02_Spread_s1 (z : Option Nat) (n : Int) (v1 : Int) (v2 : Int) : Option (((Int × Int) ⊕ (Int × Int))) :=
  if (cm .leq v2 n) then
  some (Sum.inl ((ar .add .i64 v1 1), (ar .mul .u64 2 v2)))
else
  Option.map Sum.inr (some (v1, (ar .sub .u64 v2 n)))

noncomputable def ref02_Spread_l1 (z : Option Nat) (n : Int) (v1 : Int) (v2 : Int) : Option (Int × Int) :=
  loopG z (fun (s : Int × Int) => ref02_Spread_s1 z n s.1 s.2) (v1, v2)

noncomputable def ref02_Spread (z : Option Nat) (n : Int) : Option (Int × Int) :=
  ref02_Spread_l1 z n 0 1

noncomputable def ref02_Range (z : Option Nat) (c : GBits) (n : Int) : Option (GBits × Int) :=
  if (((!(ref02_Right c)) || (cm .lss n 1)) || (cm .gtr n 4294967296)) then
  some ((ref02_stays c 1).1, (ref02_stays c 1).2)
else
  Option.bind (ref02_Spread z n) fun x1 =>
    Option.bind (ref02_Get z c (ar .sub .i64 x1.1 1)) fun x2 =>
    if (cm .neq x2.1.err 0) then
    some ((ref02_stays c x2.1.err).1, (ref02_stays c x2.1.err).2)
  else
    if (cm .lss x2.2 x1.2) then
      some (x2.1, x2.2)
    else
      Option.bind (ref02_Get z c x1.1) fun x3 =>
        if (cm .neq x3.1.err 0) then
        some ((ref02_stays c x3.1.err).1, (ref02_stays c x3.1.err).2)
      else
        some (x3.1, (ar .sub .u64 x3.2 x1.2))

noncomputable def ref02_Ink_s1 (z : Option Nat) (k : Ink) (v1 : Int) : Option (((Int) ⊕ (Bool))) :=
  if (cm .lss v1 (ar .mul .i64 8 (k.bytes.length : Int))) then
  Option.bind (ref02_bit z k.bytes v1) fun x2 =>
    if (cm .eql x2 1) then
    Option.map Sum.inr (some false)
  else
    some (Sum.inl (ar .add .i64 v1 1))
else
  Option.map Sum.inr (some true)

noncomputable def ref02_Ink_l1 (z : Option Nat) (k : Ink) (v1 : Int) : Option (Bool) :=
  loopG z (fun (s : Int) => ref02_Ink_s1 z k s) (v1)

noncomputable def ref02_Ink (z : Option Nat) (k : Ink) : Option (Bool) :=
  if (((cm .lss k.many 0) || (cm .gtr k.many (ar .mul .i64 8 (k.bytes.length : Int)))) || (cm .gtr (ar .sub .i64 (ar .mul .i64 8 (k.bytes.length : Int)) k.many) 7)) then
  some false
else
  ref02_Ink_l1 z k k.many

noncomputable def ref02_Add_s4 (z : Option Nat) (v7 : Int) (v9 : Ink) (v11 : Int) (v12 : Int) : Option (((Int × Int) ⊕ (((Int × Ink) ⊕ (Ink × Int))))) :=
  if (cm .lss v12 (ar .sub .i64 7 (dv .rem .i64 v9.many 8))) then
  some (Sum.inl ((ar .mul .u8 2 v11), (ar .add .i64 v12 1)))
else
  Option.map Sum.inr (Option.bind (ix v9.bytes (ar .sub .i64 (v9.bytes.length : Int) 1)) fun x13 =>
    Option.bind (ix v9.bytes (ar .sub .i64 (v9.bytes.length : Int) 1)) fun x14 =>
    some (Sum.inl ((ar .sub .i64 v7 1), (Ink.mk (List.set v9.bytes ((ar .sub .i64 (v9.bytes.length : Int) 1)).toNat (ar .add .u8 x13 v11)) (ar .add .i64 v9.many 1)))))

noncomputable def ref02_Add_l4 (z : Option Nat) (v7 : Int) (v9 : Ink) (v11 : Int) (v12 : Int) : Option (((Int × Ink) ⊕ (Ink × Int))) :=
  loopG z (fun (s : Int × Int) => ref02_Add_s4 z v7 v9 s.1 s.2) (v11, v12)

noncomputable def ref02_Add_j3 (z : Option Nat) (v3 : List Int) (v7 : Int) (v9 : Ink) : Option (((Int × Ink) ⊕ (Ink × Int))) :=
  Option.bind (ix v3 v7) fun x10 =>
  ref02_Add_l4 z v7 v9 x10 0

noncomputable def ref02_Add_s2 (z : Option Nat) (v3 : List Int) (v7 : Int) (v8 : Ink) : Option (((Int × Ink) ⊕ (Ink × Int))) :=
  if (cm .geq v7 0) then
  if (cm .eql (dv .rem .i64 v8.many 8) 0) then
    Option.bind (app v8.bytes [0]) fun x15 =>
      ref02_Add_j3 z v3 v7 ({ v8 with bytes := x15 })
  else
    ref02_Add_j3 z v3 v7 v8
else
  Option.map Sum.inr (some (v8, 0))

noncomputable def ref02_Add_l2 (z : Option Nat) (v3 : List Int) (v7 : Int) (v8 : Ink) : Option (Ink × Int) :=
  loopG z (fun (s : Int × Ink) => ref02_Add_s2 z v3 s.1 s.2) (v7, v8)

noncomputable def ref02_Add_s1 (z : Option Nat) (k : Ink) (n : Int) (v2 : Int) (v3 : List Int) (v4 : Int) : Option (((Int × List Int × Int) ⊕ (Ink × Int))) :=
  if (cm .lss v4 n) then
  Option.bind (app v3 [(IntKind.u8.wrap (dv .rem .u64 v2 2))]) fun x5 =>
    some (Sum.inl ((dv .quo .u64 v2 2), x5, (ar .add .i64 v4 1)))
else
  Option.map Sum.inr (if (cm .gtr v2 0) then
    some (k, 6)
  else
    Option.bind (app ([] : List Int) k.bytes) fun x6 =>
      ref02_Add_l2 z v3 (ar .sub .i64 n 1) ({ k with bytes := x6 }))

noncomputable def ref02_Add_l1 (z : Option Nat) (k : Ink) (n : Int) (v2 : Int) (v3 : List Int) (v4 : Int) : Option (Ink × Int) :=
  loopG z (fun (s : Int × List Int × Int) => ref02_Add_s1 z k n s.1 s.2.1 s.2.2) (v2, v3, v4)

noncomputable def ref02_Add (z : Option Nat) (k : Ink) (v : Int) (n : Int) : Option (Ink × Int) :=
  Option.bind (ref02_Ink z k) fun x1 =>
  if (((!x1) || (cm .lss n 0)) || (cm .gtr n 64)) then
  some (k, 1)
else
  ref02_Add_l1 z k n v [] 0

def ref02_SameInk (a : Ink) (b : Ink) : Bool :=
  ((cm .eql a.many b.many) && (sc .eql (b2s a.bytes) (b2s b.bytes)))

noncomputable def ref02_AddRange (z : Option Nat) (k : Ink) (v : Int) (n : Int) : Option (Ink × Int) :=
  Option.bind (ref02_Ink z k) fun x1 =>
  if (((!x1) || (cm .lss n 1)) || (cm .gtr n 4294967296)) then
  some (k, 1)
else
  if (cm .geq v n) then
    some (k, 6)
  else
    Option.bind (ref02_Spread z n) fun x2 =>
      if (cm .lss v x2.2) then
      Option.bind (ref02_Add z k v (ar .sub .i64 x2.1 1)) fun x3 =>
        some (x3.1, x3.2)
    else
      Option.bind (ref02_Add z k (ar .add .u64 v x2.2) x2.1) fun x4 =>
        some (x4.1, x4.2)

noncomputable def law02_BitsRight_j1 (z : Option Nat) (c : GBits) (k : Ink) (n : Int) (v : Int) (of : Int) (v1 : Int) : Option (Bool) :=
  Option.bind (bits_Get z c n) fun x2 =>
  Option.bind (ref02_Get z c n) fun x3 =>
  if (((cm .neq (bits_Left c) v1) || (cm .neq x2.2 x3.2)) || (!(ref02_Same x2.1 x3.1))) then
  some false
else
  Option.bind (bits_Range z c of) fun x4 =>
    Option.bind (ref02_Range z c of) fun x5 =>
    if ((cm .neq x4.2 x5.2) || (!(ref02_Same x4.1 x5.1))) then
    some false
  else
    Option.bind (bits_Add z k v n) fun x6 =>
      Option.bind (ref02_Add z k v n) fun x7 =>
      Option.bind (bits_Right k) fun x8 =>
      Option.bind (ref02_Ink z k) fun x9 =>
      if (((bq .neq x8 x9) || (cm .neq x6.2 x7.2)) || (!(ref02_SameInk x6.1 x7.1))) then
      some false
    else
      Option.bind (bits_AddRange z k v of) fun x10 =>
        Option.bind (ref02_AddRange z k v of) fun x11 =>
        some ((cm .eql x10.2 x11.2) && (ref02_SameInk x10.1 x11.1))

noncomputable def law02_BitsRight (z : Option Nat) (c : GBits) (k : Ink) (n : Int) (v : Int) (of : Int) : Option (Bool) :=
  if ((cm .gtr (c.bytes.length : Int) 3000) || (cm .gtr (k.bytes.length : Int) 3000)) then
  some true
else
  if (ref02_Right c) then
    law02_BitsRight_j1 z c k n v of (ar .sub .i64 (ar .mul .i64 8 (c.bytes.length : Int)) c.at_)
  else
    law02_BitsRight_j1 z c k n v of 0

noncomputable def law02_read_j3 (z : Option Nat) (v1 : Int) (v7 : GBits) : Option (((Int × GBits) ⊕ (GBits))) :=
  some (Sum.inl ((ar .add .i64 v1 1), v7))

noncomputable def law02_read_j2 (z : Option Nat) (put : List Int) (v1 : Int) (v4 : Int) (v5 : GBits) : Option (((Int × GBits) ⊕ (GBits))) :=
  Option.bind (gT (cm .eql v5.err 0) (ix put v1)) fun x6 =>
  if ((cm .eql v5.err 0) && (cm .neq v4 x6)) then
  law02_read_j3 z v1 ({ v5 with err := 6 })
else
  law02_read_j3 z v1 v5

noncomputable def law02_read_s1 (z : Option Nat) (put : List Int) (widths : List Int) (ranges : List Bool) (v1 : Int) (v2 : GBits) : Option (((Int × GBits) ⊕ (GBits))) :=
  if ((cm .lss v1 (put.length : Int)) && (cm .eql v2.err 0)) then
  Option.bind (ix ranges v1) fun x3 =>
    if x3 then
    Option.bind (ix widths v1) fun x8 =>
      Option.bind (bits_Range z v2 (ar .add .u64 (IntKind.u64.wrap x8) 1)) fun x9 =>
      law02_read_j2 z put v1 x9.2 x9.1
  else
    Option.bind (ix widths v1) fun x10 =>
      Option.bind (bits_Get z v2 (dv .rem .i64 (IntKind.i64.wrap x10) 65)) fun x11 =>
      law02_read_j2 z put v1 x11.2 x11.1
else
  Option.map Sum.inr (some v2)

noncomputable def law02_read_l1 (z : Option Nat) (put : List Int) (widths : List Int) (ranges : List Bool) (v1 : Int) (v2 : GBits) : Option (GBits) :=
  loopG z (fun (s : Int × GBits) => law02_read_s1 z put widths ranges s.1 s.2) (v1, v2)

noncomputable def law02_read (z : Option Nat) (c : GBits) (put : List Int) (widths : List Int) (ranges : List Bool) : Option (GBits) :=
  law02_read_l1 z put widths ranges 0 c

noncomputable def law02_BitsBack_j3 (z : Option Nat) (v1 : List Int) (v2 : Int) (v8 : Int) (v9 : Int) (v10 : Ink) : Option (((List Int × Int × Ink) ⊕ (Bool))) :=
  Option.bind (gT (!(cm .neq v9 0)) (bits_Right v10)) fun x11 =>
  if ((cm .neq v9 0) || (!x11)) then
  Option.map Sum.inr (some false)
else
  Option.bind (app v1 [v8]) fun x12 =>
    some (Sum.inl (x12, (ar .add .i64 v2 1), v10))

noncomputable def law02_BitsBack_j2 (z : Option Nat) (l : List Int) (widths : List Int) (ranges : List Bool) (v1 : List Int) (v2 : Int) (v3 : Ink) (x4 : Int) (v6 : Int) : Option (((List Int × Int × Ink) ⊕ (Bool))) :=
  Option.bind (ix ranges v2) fun x7 =>
  if x7 then
  Option.bind (ix l v2) fun x13 =>
    Option.bind (ix widths v2) fun x14 =>
    Option.bind (dvO .rem .u64 x13 (ar .add .u64 (IntKind.u64.wrap x14) 1)) fun x15 =>
    Option.bind (ix widths v2) fun x16 =>
    Option.bind (bits_AddRange z v3 x15 (ar .add .u64 (IntKind.u64.wrap x16) 1)) fun x17 =>
    law02_BitsBack_j3 z v1 v2 x15 x17.2 x17.1
else
  Option.bind (bits_Add z v3 v6 (dv .rem .i64 (IntKind.i64.wrap x4) 65)) fun x18 =>
    law02_BitsBack_j3 z v1 v2 v6 x18.2 x18.1

noncomputable def law02_BitsBack_s1 (z : Option Nat) (l : List Int) (widths : List Int) (ranges : List Bool) (v1 : List Int) (v2 : Int) (v3 : Ink) : Option (((List Int × Int × Ink) ⊕ (Bool))) :=
  if (cm .lss v2 (l.length : Int)) then
  Option.bind (ix widths v2) fun x4 =>
    Option.bind (ix l v2) fun x5 =>
    if (cm .lss (dv .rem .i64 (IntKind.i64.wrap x4) 65) 64) then
    Option.bind (sfO .shl .u64 1 (dv .rem .i64 (IntKind.i64.wrap x4) 65)) fun x19 =>
      law02_BitsBack_j2 z l widths ranges v1 v2 v3 x4 (ar .and .u64 x5 (ar .sub .u64 x19 1))
  else
    law02_BitsBack_j2 z l widths ranges v1 v2 v3 x4 x5
else
  Option.map Sum.inr (Option.bind (law02_read z (bits_Start v3.bytes) v1 widths ranges) fun x20 =>
    if (((cm .neq x20.err 0) || (cm .neq x20.at_ v3.many)) || (cm .geq (bits_Left x20) 8)) then
    some false
  else
    if (cm .eql (v3.bytes.length : Int) 0) then
      some true
    else
      Option.bind (sub v3.bytes 0 (ar .sub .i64 (v3.bytes.length : Int) 1)) fun x21 =>
        Option.bind (law02_read z (bits_Start x21) v1 widths ranges) fun x22 =>
        some (cm .eql x22.err 2))

noncomputable def law02_BitsBack_l1 (z : Option Nat) (l : List Int) (widths : List Int) (ranges : List Bool) (v1 : List Int) (v2 : Int) (v3 : Ink) : Option (Bool) :=
  loopG z (fun (s : List Int × Int × Ink) => law02_BitsBack_s1 z l widths ranges s.1 s.2.1 s.2.2) (v1, v2, v3)

noncomputable def law02_BitsBack (z : Option Nat) (l : List Int) (widths : List Int) (ranges : List Bool) : Option (Bool) :=
  if (((cm .gtr (l.length : Int) 60) || (cm .lss (widths.length : Int) (l.length : Int))) || (cm .lss (ranges.length : Int) (l.length : Int))) then
  some true
else
  law02_BitsBack_l1 z l widths ranges [] 0 (Ink.mk [] 0)

noncomputable def law02_BitsParts_j1 (z : Option Nat) (k : Ink) (m : Int) (n : Int) (v : Int) : Option (Bool) :=
  Option.bind (sfO .shl .u64 1 (ar .add .i64 (dv .rem .i64 (IntKind.i64.wrap m) 33) (dv .rem .i64 (IntKind.i64.wrap n) 32))) fun x4 =>
  Option.bind (sfO .shr .u64 (ar .and .u64 v (ar .sub .u64 x4 1)) (dv .rem .i64 (IntKind.i64.wrap n) 32)) fun x5 =>
  Option.bind (bits_Add z k x5 (dv .rem .i64 (IntKind.i64.wrap m) 33)) fun x6 =>
  Option.bind (sfO .shl .u64 1 (dv .rem .i64 (IntKind.i64.wrap n) 32)) fun x7 =>
  Option.bind (bits_Add z x6.1 (ar .and .u64 (ar .and .u64 v (ar .sub .u64 x4 1)) (ar .sub .u64 x7 1)) (dv .rem .i64 (IntKind.i64.wrap n) 32)) fun x8 =>
  Option.bind (bits_Add z k (ar .and .u64 v (ar .sub .u64 x4 1)) (ar .add .i64 (dv .rem .i64 (IntKind.i64.wrap m) 33) (dv .rem .i64 (IntKind.i64.wrap n) 32))) fun x9 =>
  some (((cm .eql x6.2 x8.2) && (cm .eql x8.2 x9.2)) && (ref02_SameInk x8.1 x9.1))

noncomputable def law02_BitsParts (z : Option Nat) (c : GBits) (k : Ink) (m : Int) (n : Int) (v : Int) : Option (Bool) :=
  if ((cm .gtr (c.bytes.length : Int) 3000) || (cm .gtr (k.bytes.length : Int) 3000)) then
  some true
else
  Option.bind (bits_Get z c (dv .rem .i64 (IntKind.i64.wrap m) 33)) fun x1 =>
    Option.bind (bits_Get z x1.1 (dv .rem .i64 (IntKind.i64.wrap n) 32)) fun x2 =>
    Option.bind (bits_Get z c (ar .add .i64 (dv .rem .i64 (IntKind.i64.wrap m) 33) (dv .rem .i64 (IntKind.i64.wrap n) 32))) fun x3 =>
    if (cm .eql x2.1.err 0) then
    Option.bind (gT (!((cm .neq x3.1.err 0) || (cm .neq x3.1.at_ x2.1.at_))) (sfO .shl .u64 x1.2 (dv .rem .i64 (IntKind.i64.wrap n) 32))) fun x10 =>
      if (((cm .neq x3.1.err 0) || (cm .neq x3.1.at_ x2.1.at_)) || (cm .neq x3.2 (ar .add .u64 x10 x2.2))) then
      some false
    else
      law02_BitsParts_j1 z k m n v
  else
    if (cm .eql x3.1.err 0) then
      some false
    else
      law02_BitsParts_j1 z k m n v

noncomputable def law02_BitsRange_s4 (z : Option Nat) (n : Int) (v3 : List (List UInt8)) (v4 : Int) (v9 : List UInt8) (v14 : Int) : Option (((Int) ⊕ (((List (List UInt8) × Int) ⊕ (Bool))))) :=
  if (cm .lss v14 (v3.length : Int)) then
  Option.bind (ix v3 v14) fun x15 =>
    Option.bind (gT (cm .leq (x15.length : Int) (v9.length : Int)) (ix v3 v14)) fun x16 =>
    Option.bind (gT (cm .leq (x15.length : Int) (v9.length : Int)) (ix v3 v14)) fun x17 =>
    Option.bind (gT (cm .leq (x15.length : Int) (v9.length : Int)) (sub v9 0 (x17.length : Int))) fun x18 =>
    Option.bind (gT (!((cm .leq (x15.length : Int) (v9.length : Int)) && (sc .eql x16 x18))) (ix v3 v14)) fun x19 =>
    Option.bind (gT ((!((cm .leq (x15.length : Int) (v9.length : Int)) && (sc .eql x16 x18))) && (cm .lss (v9.length : Int) (x19.length : Int))) (ix v3 v14)) fun x20 =>
    Option.bind (gT ((!((cm .leq (x15.length : Int) (v9.length : Int)) && (sc .eql x16 x18))) && (cm .lss (v9.length : Int) (x19.length : Int))) (sub x20 0 (v9.length : Int))) fun x21 =>
    if (((cm .leq (x15.length : Int) (v9.length : Int)) && (sc .eql x16 x18)) || ((cm .lss (v9.length : Int) (x19.length : Int)) && (sc .eql v9 x21))) then
    Option.map Sum.inr (Option.map Sum.inr (some (cm .eql (ar .add .u64 (dv .rem .u64 (IntKind.u64.wrap n) 64) 1) 1)))
  else
    some (Sum.inl (ar .add .i64 v14 1))
else
  Option.map Sum.inr (Option.bind (app v3 [v9]) fun x22 =>
    some (Sum.inl (x22, (ar .add .u64 v4 1))))

noncomputable def law02_BitsRange_l4 (z : Option Nat) (n : Int) (v3 : List (List UInt8)) (v4 : Int) (v9 : List UInt8) (v14 : Int) : Option (((List (List UInt8) × Int) ⊕ (Bool))) :=
  loopG z (fun (s : Int) => law02_BitsRange_s4 z n v3 v4 v9 s) (v14)

noncomputable def law02_BitsRange_s3 (z : Option Nat) (n : Int) (v3 : List (List UInt8)) (v4 : Int) (x5 : Ink × Int) (v9 : List UInt8) (v10 : Int) (v11 : GBits) : Option (((List UInt8 × Int × GBits) ⊕ (((List (List UInt8) × Int) ⊕ (Bool))))) :=
  if (cm .lss v10 x5.1.many) then
  Option.bind (bits_Get z v11 1) fun x12 =>
    Option.bind (cat v9 (b2s [(ar .add .u8 48 (IntKind.u8.wrap x12.2))])) fun x13 =>
    some (Sum.inl (x13, (ar .add .i64 v10 1), x12.1))
else
  Option.map Sum.inr (law02_BitsRange_l4 z n v3 v4 v9 0)

noncomputable def law02_BitsRange_l3 (z : Option Nat) (n : Int) (v3 : List (List UInt8)) (v4 : Int) (x5 : Ink × Int) (v9 : List UInt8) (v10 : Int) (v11 : GBits) : Option (((List (List UInt8) × Int) ⊕ (Bool))) :=
  loopG z (fun (s : List UInt8 × Int × GBits) => law02_BitsRange_s3 z n v3 v4 x5 s.1 s.2.1 s.2.2) (v9, v10, v11)

noncomputable def law02_BitsRange_s2 (z : Option Nat) (n : Int) (v1 : Int) (v3 : List (List UInt8)) (v4 : Int) : Option (((List (List UInt8) × Int) ⊕ (Bool))) :=
  if (cm .lss v4 (ar .add .u64 (dv .rem .u64 (IntKind.u64.wrap n) 64) 1)) then
  Option.bind (bits_AddRange z (Ink.mk [] 0) v4 (ar .add .u64 (dv .rem .u64 (IntKind.u64.wrap n) 64) 1)) fun x5 =>
    Option.bind (app ([] : List Int) x5.1.bytes) fun x6 =>
    Option.bind (app x6 [255]) fun x7 =>
    Option.bind (bits_Range z (bits_Start x7) (ar .add .u64 (dv .rem .u64 (IntKind.u64.wrap n) 64) 1)) fun x8 =>
    if (((((cm .neq x5.2 0) || (cm .neq x8.1.err 0)) || (cm .neq x8.2 v4)) || (cm .neq x8.1.at_ x5.1.many)) || ((cm .neq x5.1.many v1) && (cm .neq x5.1.many (ar .sub .i64 v1 1)))) then
    Option.map Sum.inr (some false)
  else
    law02_BitsRange_l3 z n v3 v4 x5 ([] : List UInt8) 0 (bits_Start x5.1.bytes)
else
  Option.map Sum.inr (some true)

noncomputable def law02_BitsRange_l2 (z : Option Nat) (n : Int) (v1 : Int) (v3 : List (List UInt8)) (v4 : Int) : Option (Bool) :=
  loopG z (fun (s : List (List UInt8) × Int) => law02_BitsRange_s2 z n v1 s.1 s.2) (v3, v4)

noncomputable def law02_BitsRange_s1 (z : Option Nat) (n : Int) (v1 : Int) : Option (((Int) ⊕ (Bool))) :=
  Option.bind (sfO .shr .u64 (ar .add .u64 (dv .rem .u64 (IntKind.u64.wrap n) 64) 1) v1) fun x2 =>
  if (cm .gtr x2 0) then
  some (Sum.inl (ar .add .i64 v1 1))
else
  Option.map Sum.inr (law02_BitsRange_l2 z n v1 [] 0)

noncomputable def law02_BitsRange_l1 (z : Option Nat) (n : Int) (v1 : Int) : Option (Bool) :=
  loopG z (fun (s : Int) => law02_BitsRange_s1 z n s) (v1)

noncomputable def law02_BitsRange (z : Option Nat) (n : Int) : Option (Bool) :=
  law02_BitsRange_l1 z n 0

end Xb
