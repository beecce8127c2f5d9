/- Own text: QModels. -/
import Derived.Test.YtjjaohddaclafaaQTypes
set_option linter.all false
set_option linter.unusedVariables false
set_option linter.unusedSimpArgs false
set_option linter.unnecessarySimpa false
set_option linter.deprecated false
namespace Xb
open Go
set_option linter.unusedVariables false

def av1_structure (f : Frame) (known : Structure) : Structure :=
  if f.hasStructure then
  f.structure_
else
  known

def templ_within_1 (n : Int) (cap0 : Int) (cap1 : Int) : Bool :=
  ((cm .lss n cap0) || (cm .gtr n cap1))

noncomputable def slices_IndexFunc_s1 (z : Option Nat) (p_s : List Int) (f : (Int → Option Bool)) (v1 : Int) : Option (((Int) ⊕ (Int))) :=
  if (cm .lss v1 (p_s.length : Int)) then
  Option.bind (ix p_s v1) fun x2 =>
    Option.bind (f x2) fun x3 =>
    if x3 then
    Option.map Sum.inr (some v1)
  else
    some (Sum.inl (ar .add .i64 v1 1))
else
  Option.map Sum.inr (some (-1))

noncomputable def slices_IndexFunc_l1 (z : Option Nat) (p_s : List Int) (f : (Int → Option Bool)) (v1 : Int) : Option (Int) :=
  loopG z (fun (s : Int) => slices_IndexFunc_s1 z p_s f s) (v1)

noncomputable def slices_IndexFunc (z : Option Nat) (p_s : List Int) (f : (Int → Option Bool)) : Option (Int) :=
  slices_IndexFunc_l1 z p_s f 0

noncomputable def slices_ContainsFunc (z : Option Nat) (p_s : List Int) (f : (Int → Option Bool)) : Option (Bool) :=
  Option.bind (slices_IndexFunc z p_s f) fun x1 =>
  some (cm .geq x1 0)

noncomputable def templ_within (z : Option Nat) (l : List Int) (least : Int) (most : Int) : Option (Bool) :=
  Option.bind (slices_ContainsFunc z l (fun (y0 : Int) => some (templ_within_1 y0 least most))) fun x1 =>
  some (!x1)

noncomputable def templ_protected (z : Option Nat) (p_s : Structure) : Option (Bool) :=
  if (cm .eql p_s.chains 0) then
  some (cm .eql (p_s.protect.length : Int) 0)
else
  Option.bind (gT (cm .eql (p_s.protect.length : Int) p_s.targets) (templ_within z p_s.protect 0 (ar .sub .i64 p_s.chains 1))) fun x1 =>
    some ((cm .eql (p_s.protect.length : Int) p_s.targets) && x1)

noncomputable def templ_template (z : Option Nat) (p_s : Structure) (t : Template) : Option (Bool) :=
  Option.bind (gT (cm .eql (t.marks.length : Int) p_s.targets) (templ_within z t.marks 0 3)) fun x1 =>
  Option.bind (gT (((cm .eql (t.marks.length : Int) p_s.targets) && x1) && (cm .leq (t.diffs.length : Int) 16)) (templ_within z t.diffs 1 16)) fun x2 =>
  Option.bind (gT (((((cm .eql (t.marks.length : Int) p_s.targets) && x1) && (cm .leq (t.diffs.length : Int) 16)) && x2) && (cm .eql (t.chains.length : Int) p_s.chains)) (templ_within z t.chains 0 15)) fun x3 =>
  some ((((((cm .eql (t.marks.length : Int) p_s.targets) && x1) && (cm .leq (t.diffs.length : Int) 16)) && x2) && (cm .eql (t.chains.length : Int) p_s.chains)) && x3)

def templ_follows (p_a : Template) (b : Template) : Int :=
  if ((cm .eql b.sid p_a.sid) && (cm .eql b.tid p_a.tid)) then
  0
else
  if (((cm .eql b.sid p_a.sid) && (cm .eql (ar .sub .i64 b.tid 1) p_a.tid)) && (cm .leq b.tid 7)) then
    1
  else
    if (((cm .eql (ar .sub .i64 b.sid 1) p_a.sid) && (cm .leq b.sid 3)) && (cm .eql b.tid 0)) then
      2
    else
      3

noncomputable def templ_Right_s2 (z : Option Nat) (v6 : Structure) (v7 : Template) (v10 : Int) : Option (((Int) ⊕ (Bool))) :=
  if (cm .lss v10 (v6.sizes.length : Int)) then
  Option.bind (ix v6.sizes v10) fun x11 =>
    Option.bind (templ_within z [x11.wide, x11.high] 1 65536) fun x12 =>
    if (!x12) then
    Option.map Sum.inr (some false)
  else
    some (Sum.inl (ar .add .i64 v10 1))
else
  Option.map Sum.inr (some ((cm .eql (v6.sizes.length : Int) 0) || (cm .eql (v6.sizes.length : Int) (ar .add .i64 v7.sid 1))))

noncomputable def templ_Right_l2 (z : Option Nat) (v6 : Structure) (v7 : Template) (v10 : Int) : Option (Bool) :=
  loopG z (fun (s : Int) => templ_Right_s2 z v6 v7 s) (v10)

noncomputable def templ_Right_s1 (z : Option Nat) (p_s : Structure) (v5 : Int) (v6 : Structure) (v7 : Template) : Option (((Int × Structure × Template) ⊕ (Bool))) :=
  if (cm .lss v5 (p_s.templates.length : Int)) then
  Option.bind (ix p_s.templates v5) fun x8 =>
    Option.bind (templ_template z v6 x8) fun x9 =>
    if (((!x9) || (cm .eql (templ_follows v7 x8) 3)) || ((cm .eql v5 0) && (cm .neq (templ_follows v7 x8) 0))) then
    Option.map Sum.inr (some false)
  else
    some (Sum.inl ((ar .add .i64 v5 1), v6, x8))
else
  Option.map Sum.inr (templ_Right_l2 z v6 v7 0)

noncomputable def templ_Right_l1 (z : Option Nat) (p_s : Structure) (v5 : Int) (v6 : Structure) (v7 : Template) : Option (Bool) :=
  loopG z (fun (s : Int × Structure × Template) => templ_Right_s1 z p_s s.1 s.2.1 s.2.2) (v5, v6, v7)

noncomputable def templ_Right (z : Option Nat) (p_s : Structure) : Option (Bool) :=
  Option.bind (templ_within z [p_s.id_] 0 63) fun x1 =>
  Option.bind (gT x1 (templ_within z [p_s.targets] 1 32)) fun x2 =>
  Option.bind (gT (x1 && x2) (templ_within z [p_s.chains] 0 p_s.targets)) fun x3 =>
  Option.bind (gT (!(!((x1 && x2) && x3))) (templ_protected z p_s)) fun x4 =>
  if ((((!((x1 && x2) && x3)) || (!x4)) || (cm .lss (p_s.templates.length : Int) 1)) || (cm .gtr (p_s.templates.length : Int) 64)) then
  some false
else
  templ_Right_l1 z p_s 0 p_s (Template.mk 0 0 [] [] [])

noncomputable def slices_Equal_int_s1 (z : Option Nat) (s1 : List Int) (s2 : List Int) (v1 : Int) : Option (((Int) ⊕ (Bool))) :=
  if (cm .lss v1 (s1.length : Int)) then
  Option.bind (ix s1 v1) fun x2 =>
    Option.bind (ix s2 v1) fun x3 =>
    if (cm .neq x2 x3) then
    Option.map Sum.inr (some false)
  else
    some (Sum.inl (ar .add .i64 v1 1))
else
  Option.map Sum.inr (some true)

noncomputable def slices_Equal_int_l1 (z : Option Nat) (s1 : List Int) (s2 : List Int) (v1 : Int) : Option (Bool) :=
  loopG z (fun (s : Int) => slices_Equal_int_s1 z s1 s2 s) (v1)

noncomputable def slices_Equal_int (z : Option Nat) (s1 : List Int) (s2 : List Int) : Option (Bool) :=
  if (cm .neq (s1.length : Int) (s2.length : Int)) then
  some false
else
  slices_Equal_int_l1 z s1 s2 0

noncomputable def templ_Same_1 (z : Option Nat) (x : Template) (y : Template) : Option (Bool) :=
  Option.bind (gT ((cm .eql x.sid y.sid) && (cm .eql x.tid y.tid)) (slices_Equal_int z x.marks y.marks)) fun x1 =>
  Option.bind (gT (((cm .eql x.sid y.sid) && (cm .eql x.tid y.tid)) && x1) (slices_Equal_int z x.diffs y.diffs)) fun x2 =>
  Option.bind (gT ((((cm .eql x.sid y.sid) && (cm .eql x.tid y.tid)) && x1) && x2) (slices_Equal_int z x.chains y.chains)) fun x3 =>
  some (((((cm .eql x.sid y.sid) && (cm .eql x.tid y.tid)) && x1) && x2) && x3)

noncomputable def slices_Equal_Size_s1 (z : Option Nat) (s1 : List Size) (s2 : List Size) (v1 : Int) : Option (((Int) ⊕ (Bool))) :=
  if (cm .lss v1 (s1.length : Int)) then
  Option.bind (ix s1 v1) fun x2 =>
    Option.bind (ix s2 v1) fun x3 =>
    if (!(x2.wide == x3.wide && (x2.high == x3.high && true))) then
    Option.map Sum.inr (some false)
  else
    some (Sum.inl (ar .add .i64 v1 1))
else
  Option.map Sum.inr (some true)

noncomputable def slices_Equal_Size_l1 (z : Option Nat) (s1 : List Size) (s2 : List Size) (v1 : Int) : Option (Bool) :=
  loopG z (fun (s : Int) => slices_Equal_Size_s1 z s1 s2 s) (v1)

noncomputable def slices_Equal_Size (z : Option Nat) (s1 : List Size) (s2 : List Size) : Option (Bool) :=
  if (cm .neq (s1.length : Int) (s2.length : Int)) then
  some false
else
  slices_Equal_Size_l1 z s1 s2 0

noncomputable def slices_EqualFunc_f0_s1 (z : Option Nat) (s1 : List Template) (s2 : List Template) (v1 : Int) : Option (((Int) ⊕ (Bool))) :=
  if (cm .lss v1 (s1.length : Int)) then
  Option.bind (ix s1 v1) fun x2 =>
    Option.bind (ix s2 v1) fun x3 =>
    Option.bind (templ_Same_1 z x2 x3 ) fun x4 =>
    if (!x4) then
    Option.map Sum.inr (some false)
  else
    some (Sum.inl (ar .add .i64 v1 1))
else
  Option.map Sum.inr (some true)

noncomputable def slices_EqualFunc_f0_l1 (z : Option Nat) (s1 : List Template) (s2 : List Template) (v1 : Int) : Option (Bool) :=
  loopG z (fun (s : Int) => slices_EqualFunc_f0_s1 z s1 s2 s) (v1)

noncomputable def slices_EqualFunc_f0 (z : Option Nat) (s1 : List Template) (s2 : List Template) : Option (Bool) :=
  if (cm .neq (s1.length : Int) (s2.length : Int)) then
  some false
else
  slices_EqualFunc_f0_l1 z s1 s2 0

noncomputable def templ_Same (z : Option Nat) (p_a : Structure) (b : Structure) : Option (Bool) :=
  Option.bind (gT (((cm .eql p_a.id_ b.id_) && (cm .eql p_a.targets b.targets)) && (cm .eql p_a.chains b.chains)) (slices_Equal_int z p_a.protect b.protect)) fun x1 =>
  Option.bind (gT ((((cm .eql p_a.id_ b.id_) && (cm .eql p_a.targets b.targets)) && (cm .eql p_a.chains b.chains)) && x1) (slices_Equal_Size z p_a.sizes b.sizes)) fun x2 =>
  Option.bind (gT (((((cm .eql p_a.id_ b.id_) && (cm .eql p_a.targets b.targets)) && (cm .eql p_a.chains b.chains)) && x1) && x2) (slices_EqualFunc_f0 z p_a.templates b.templates)) fun x3 =>
  some ((((((cm .eql p_a.id_ b.id_) && (cm .eql p_a.targets b.targets)) && (cm .eql p_a.chains b.chains)) && x1) && x2) && x3)

noncomputable def av1_may (z : Option Nat) (known : Structure) : Option (Bool) :=
  Option.bind (templ_Right z known) fun x1 =>
  Option.bind (gT (!x1) (templ_Same z known (Structure.mk 0 0 0 [] [] []))) fun x2 =>
  some (x1 || x2)

def av1_numbered (f : Frame) (p_s : Structure) : Option (Bool) :=
  Option.bind (sfO .shr .u64 (IntKind.u64.wrap f.active) p_s.targets) fun x1 =>
  some (((((cm .geq f.template 0) && (cm .lss f.template 64)) && (cm .geq f.number 0)) && (cm .leq f.number 65535)) && ((cm .eql x1 0) && (f.hasActive || (cm .eql f.active 0))))

def av1_place (f : Frame) (p_s : Structure) : Int :=
  if (cm .geq (dv .rem .i64 (ar .add .i64 (ar .sub .i64 f.template p_s.id_) 64) 64) (p_s.templates.length : Int)) then
  (-1)
else
  (dv .rem .i64 (ar .add .i64 (ar .sub .i64 f.template p_s.id_) 64) 64)

def av1_own_1 (n : Int) (cap0 : Int) (cap1 : Int) : Bool :=
  ((cm .lss n cap0) || (cm .gtr n cap1))

noncomputable def av1_own (z : Option Nat) (is_ : Bool) (l : List Int) (fewest : Int) (many : Int) (least : Int) (most : Int) : Option (Bool) :=
  if (!is_) then
  some (cm .eql (l.length : Int) 0)
else
  Option.bind (gT ((cm .geq (l.length : Int) fewest) && (cm .leq (l.length : Int) many)) (slices_ContainsFunc z l (fun (y0 : Int) => some (av1_own_1 y0 least most)))) fun x1 =>
    some (((cm .geq (l.length : Int) fewest) && (cm .leq (l.length : Int) many)) && (!x1))

noncomputable def av1_Right (z : Option Nat) (f : Frame) (known : Structure) : Option (Bool) :=
  Option.bind (av1_may z known) fun x1 =>
  Option.bind (gT (!(!x1)) (templ_Right z (av1_structure f known))) fun x2 =>
  Option.bind (gT ((!((!x1) || (!x2))) && (!f.hasStructure)) (templ_Same z f.structure_ (Structure.mk 0 0 0 [] [] []))) fun x3 =>
  if (((!x1) || (!x2)) || ((!f.hasStructure) && (!x3))) then
  some false
else
  Option.bind (av1_numbered f (av1_structure f known)) fun x4 =>
    if ((!x4) || (cm .eql (av1_place f (av1_structure f known)) (-1))) then
    some false
  else
    Option.bind (av1_own z f.ownMarks f.marks ((av1_structure f known).targets) ((av1_structure f known).targets) 0 3) fun x5 =>
      Option.bind (gT x5 (av1_own z f.ownDiffs f.diffs 0 16 1 4096)) fun x6 =>
      Option.bind (gT (x5 && x6) (av1_own z f.ownChains f.chains ((av1_structure f known).chains) ((av1_structure f known).chains) 0 255)) fun x7 =>
      some ((x5 && x6) && x7)

def bits_Right (k : Ink) : Option (Bool) :=
  if ((cm .lss k.many 0) || (cm .neq (k.bytes.length : Int) (ar .add .i64 (dv .quo .i64 k.many 8) (imin (dv .rem .i64 k.many 8) 1)))) then
  some false
else
  Option.bind (gT (!(cm .eql (ar .sub .i64 (ar .mul .i64 8 (k.bytes.length : Int)) k.many) 0)) (ix k.bytes (ar .sub .i64 (k.bytes.length : Int) 1))) fun x1 =>
    Option.bind (gT (!(cm .eql (ar .sub .i64 (ar .mul .i64 8 (k.bytes.length : Int)) k.many) 0)) (sfO .shl .u8 1 (ar .sub .i64 (ar .mul .i64 8 (k.bytes.length : Int)) k.many))) fun x2 =>
    some ((cm .eql (ar .sub .i64 (ar .mul .i64 8 (k.bytes.length : Int)) k.many) 0) || (cm .eql (ar .and .u8 x1 (ar .sub .u8 x2 1)) 0))

def math_bits_Len64_j3 (v5 : Int) (v6 : Int) : Option (Int) :=
  Option.bind (ix ([0, 1, 2, 2, 3, 3, 3, 3, 4, 4, 4, 4, 4, 4, 4, 4, 5, 5, 5, 5, 5, 5, 5, 5, 5, 5, 5, 5, 5, 5, 5, 5, 6, 6, 6, 6, 6, 6, 6, 6, 6, 6, 6, 6, 6, 6, 6, 6, 6, 6, 6, 6, 6, 6, 6, 6, 6, 6, 6, 6, 6, 6, 6, 6, 7, 7, 7, 7, 7, 7, 7, 7, 7, 7, 7, 7, 7, 7, 7, 7, 7, 7, 7, 7, 7, 7, 7, 7, 7, 7, 7, 7, 7, 7, 7, 7, 7, 7, 7, 7, 7, 7, 7, 7, 7, 7, 7, 7, 7, 7, 7, 7, 7, 7, 7, 7, 7, 7, 7, 7, 7, 7, 7, 7, 7, 7, 7, 7, 8, 8, 8, 8, 8, 8, 8, 8, 8, 8, 8, 8, 8, 8, 8, 8, 8, 8, 8, 8, 8, 8, 8, 8, 8, 8, 8, 8, 8, 8, 8, 8, 8, 8, 8, 8, 8, 8, 8, 8, 8, 8, 8, 8, 8, 8, 8, 8, 8, 8, 8, 8, 8, 8, 8, 8, 8, 8, 8, 8, 8, 8, 8, 8, 8, 8, 8, 8, 8, 8, 8, 8, 8, 8, 8, 8, 8, 8, 8, 8, 8, 8, 8, 8, 8, 8, 8, 8, 8, 8, 8, 8, 8, 8, 8, 8, 8, 8, 8, 8, 8, 8, 8, 8, 8, 8, 8, 8, 8, 8, 8, 8, 8, 8, 8, 8, 8, 8, 8, 8, 8, 8, 8, 8, 8, 8, 8, 8] : List UInt8) (IntKind.u8.wrap v5)) fun x7 =>
  some (ar .add .i64 v6 (IntKind.i64.wrap (x7.toNat : Int)))

def math_bits_Len64_j2 (v3 : Int) (v4 : Int) : Option (Int) :=
  if (cm .geq v3 256) then
  math_bits_Len64_j3 (sf .shr .u64 v3 8) (ar .add .i64 v4 8)
else
  math_bits_Len64_j3 v3 v4

def math_bits_Len64_j1 (v1 : Int) (v2 : Int) : Option (Int) :=
  if (cm .geq v1 65536) then
  math_bits_Len64_j2 (sf .shr .u64 v1 16) (ar .add .i64 v2 16)
else
  math_bits_Len64_j2 v1 v2

def math_bits_Len64 (x : Int) : Option (Int) :=
  if (cm .geq x 4294967296) then
  math_bits_Len64_j1 (sf .shr .u64 x 32) 32
else
  math_bits_Len64_j1 x 0

def slices_Clone (l : List Int) : Option (List Int) := app [] l

noncomputable def bits_Add_j3 (z : Option Nat) (v : Int) (v5 : Int) (v7 : Ink) (v8 : List Int) (v9 : Int) : Option (((Int × List Int × Ink) ⊕ (Ink × Int))) :=
  Option.bind (ix v8 (ar .sub .i64 (v8.length : Int) 1)) fun x10 =>
  Option.bind (sfO .shr .u64 v (ar .sub .i64 v5 (imin v9 v5))) fun x11 =>
  Option.bind (sfO .shl .u64 1 (imin v9 v5)) fun x12 =>
  Option.bind (sfO .shl .u8 (IntKind.u8.wrap (ar .and .u64 x11 (ar .sub .u64 x12 1))) (ar .sub .i64 v9 (imin v9 v5))) fun x13 =>
  Option.bind (ix v8 (ar .sub .i64 (v8.length : Int) 1)) fun x14 =>
  some (Sum.inl ((ar .sub .i64 v5 (imin v9 v5)), (List.set v8 ((ar .sub .i64 (v8.length : Int) 1) : Int).toNat (ar .or .u8 x10 x13)), { v7 with many := (ar .add .i64 v7.many (imin v9 v5)) }))

noncomputable def bits_Add_s2 (z : Option Nat) (v : Int) (v5 : Int) (v6 : List Int) (v7 : Ink) : Option (((Int × List Int × Ink) ⊕ (Ink × Int))) :=
  if (cm .gtr v5 0) then
  if (cm .eql (ar .sub .i64 (ar .mul .i64 8 (v6.length : Int)) v7.many) 0) then
    Option.bind (app v6 [0]) fun x15 =>
      bits_Add_j3 z v v5 v7 x15 8
  else
    bits_Add_j3 z v v5 v7 v6 (ar .sub .i64 (ar .mul .i64 8 (v6.length : Int)) v7.many)
else
  Option.map Sum.inr (some ({ v7 with bytes := v6 }, 0))

noncomputable def bits_Add_l2 (z : Option Nat) (v : Int) (v5 : Int) (v6 : List Int) (v7 : Ink) : Option (Ink × Int) :=
  loopG z (fun (s : Int × List Int × Ink) => bits_Add_s2 z v s.1 s.2.1 s.2.2) (v5, v6, v7)

noncomputable def bits_Add_j1 (z : Option Nat) (k : Ink) (v : Int) (n : Int) (v2 : Bool) : Option (Ink × Int) :=
  if v2 then
  some (k, 1)
else
  Option.bind (math_bits_Len64 v) fun x3 =>
    if (cm .gtr x3 n) then
    some (k, 6)
  else
    Option.bind (slices_Clone k.bytes) fun x4 =>
      bits_Add_l2 z v n x4 k

noncomputable def bits_Add (z : Option Nat) (k : Ink) (v : Int) (n : Int) : Option (Ink × Int) :=
  Option.bind (bits_Right k) fun x1 =>
  if (!x1) then
  bits_Add_j1 z k v n (!x1)
else
  if (cm .lss n 0) then
    bits_Add_j1 z k v n (cm .lss n 0)
  else
    bits_Add_j1 z k v n (cm .gtr n 64)

def bits_spread (n : Int) : Option (Int × Int) :=
  Option.bind (math_bits_Len64 n) fun x1 =>
  Option.bind (sfO .shl .u64 1 x1) fun x2 =>
  some (x1, (ar .sub .u64 x2 n))

noncomputable def bits_AddRange_j1 (z : Option Nat) (k : Ink) (v : Int) (n : Int) (v2 : Bool) : Option (Ink × Int) :=
  if v2 then
  some (k, 1)
else
  if (cm .geq v n) then
    some (k, 6)
  else
    Option.bind (bits_spread n) fun x3 =>
      if (cm .lss v x3.2) then
      Option.bind (bits_Add z k v (ar .sub .i64 x3.1 1)) fun x4 =>
        some (x4.1, x4.2)
    else
      Option.bind (bits_Add z k (ar .add .u64 v x3.2) x3.1) fun x5 =>
        some (x5.1, x5.2)

noncomputable def bits_AddRange (z : Option Nat) (k : Ink) (v : Int) (n : Int) : Option (Ink × Int) :=
  Option.bind (bits_Right k) fun x1 =>
  if (!x1) then
  bits_AddRange_j1 z k v n (!x1)
else
  if (cm .lss n 1) then
    bits_AddRange_j1 z k v n (cm .lss n 1)
  else
    bits_AddRange_j1 z k v n (cm .gtr n 4294967296)

noncomputable def templ_pen_num_y1 (z : Option Nat) (n : Int) (width : Int) (box0 : templ_pen) : Option (templ_pen) :=
  Option.bind (bits_Add z box0.k (IntKind.u64.wrap n) width) fun x1 =>
  some (templ_pen.mk x1.1)

noncomputable def templ_pen_layers_y1_j2 (z : Option Nat) (v1 : Int) (v2 : templ_pen) (v4 : Int) : Option (((Int × templ_pen) ⊕ (templ_pen))) :=
  Option.bind (templ_pen_num_y1 z v4 2 v2) fun x5 =>
  some (Sum.inl ((ar .add .i64 v1 1), x5))

noncomputable def templ_pen_layers_y1_s1 (z : Option Nat) (l : List Template) (v1 : Int) (v2 : templ_pen) : Option (((Int × templ_pen) ⊕ (templ_pen))) :=
  if (cm .lss v1 (l.length : Int)) then
  Option.bind (ix l v1) fun x3 =>
    if (cm .lss (ar .add .i64 v1 1) (l.length : Int)) then
    Option.bind (ix l (ar .add .i64 v1 1)) fun x6 =>
      templ_pen_layers_y1_j2 z v1 v2 (templ_follows x3 x6)
  else
    templ_pen_layers_y1_j2 z v1 v2 3
else
  Option.map Sum.inr (some v2)

noncomputable def templ_pen_layers_y1_l1 (z : Option Nat) (l : List Template) (v1 : Int) (v2 : templ_pen) : Option (templ_pen) :=
  loopG z (fun (s : Int × templ_pen) => templ_pen_layers_y1_s1 z l s.1 s.2) (v1, v2)

noncomputable def templ_pen_layers_y1 (z : Option Nat) (l : List Template) (box0 : templ_pen) : Option (templ_pen) :=
  templ_pen_layers_y1_l1 z l 0 box0

noncomputable def templ_pen_lists_y1_s2 (z : Option Nat) (v1 : Int) (x3 : Template) (v4 : Int) (v5 : templ_pen) : Option (((Int × templ_pen) ⊕ (((Int × templ_pen) ⊕ (templ_pen))))) :=
  if (cm .lss v4 (x3.marks.length : Int)) then
  Option.bind (ix x3.marks v4) fun x6 =>
    Option.bind (templ_pen_num_y1 z x6 2 v5) fun x7 =>
    some (Sum.inl ((ar .add .i64 v4 1), x7))
else
  Option.map Sum.inr (some (Sum.inl ((ar .add .i64 v1 1), v5)))

noncomputable def templ_pen_lists_y1_l2 (z : Option Nat) (v1 : Int) (x3 : Template) (v4 : Int) (v5 : templ_pen) : Option (((Int × templ_pen) ⊕ (templ_pen))) :=
  loopG z (fun (s : Int × templ_pen) => templ_pen_lists_y1_s2 z v1 x3 s.1 s.2) (v4, v5)

noncomputable def templ_pen_lists_y1_s4 (z : Option Nat) (v8 : Int) (x10 : Template) (v11 : Int) (v12 : templ_pen) : Option (((Int × templ_pen) ⊕ (((Int × templ_pen) ⊕ (templ_pen))))) :=
  if (cm .lss v11 (x10.diffs.length : Int)) then
  Option.bind (ix x10.diffs v11) fun x13 =>
    Option.bind (templ_pen_num_y1 z 1 1 v12) fun x14 =>
    Option.bind (templ_pen_num_y1 z (ar .sub .i64 x13 1) 4 x14) fun x15 =>
    some (Sum.inl ((ar .add .i64 v11 1), x15))
else
  Option.map Sum.inr (Option.bind (templ_pen_num_y1 z 0 1 v12) fun x16 =>
    some (Sum.inl ((ar .add .i64 v8 1), x16)))

noncomputable def templ_pen_lists_y1_l4 (z : Option Nat) (v8 : Int) (x10 : Template) (v11 : Int) (v12 : templ_pen) : Option (((Int × templ_pen) ⊕ (templ_pen))) :=
  loopG z (fun (s : Int × templ_pen) => templ_pen_lists_y1_s4 z v8 x10 s.1 s.2) (v11, v12)

noncomputable def templ_pen_lists_y1_s3 (z : Option Nat) (l : List Template) (v8 : Int) (v9 : templ_pen) : Option (((Int × templ_pen) ⊕ (templ_pen))) :=
  if (cm .lss v8 (l.length : Int)) then
  Option.bind (ix l v8) fun x10 =>
    templ_pen_lists_y1_l4 z v8 x10 0 v9
else
  Option.map Sum.inr (some v9)

noncomputable def templ_pen_lists_y1_l3 (z : Option Nat) (l : List Template) (v8 : Int) (v9 : templ_pen) : Option (templ_pen) :=
  loopG z (fun (s : Int × templ_pen) => templ_pen_lists_y1_s3 z l s.1 s.2) (v8, v9)

noncomputable def templ_pen_lists_y1_s1 (z : Option Nat) (l : List Template) (v1 : Int) (v2 : templ_pen) : Option (((Int × templ_pen) ⊕ (templ_pen))) :=
  if (cm .lss v1 (l.length : Int)) then
  Option.bind (ix l v1) fun x3 =>
    templ_pen_lists_y1_l2 z v1 x3 0 v2
else
  Option.map Sum.inr (templ_pen_lists_y1_l3 z l 0 v2)

noncomputable def templ_pen_lists_y1_l1 (z : Option Nat) (l : List Template) (v1 : Int) (v2 : templ_pen) : Option (templ_pen) :=
  loopG z (fun (s : Int × templ_pen) => templ_pen_lists_y1_s1 z l s.1 s.2) (v1, v2)

noncomputable def templ_pen_lists_y1 (z : Option Nat) (l : List Template) (box0 : templ_pen) : Option (templ_pen) :=
  templ_pen_lists_y1_l1 z l 0 box0

noncomputable def templ_pen_ranged_y1 (z : Option Nat) (n : Int) (many : Int) (box0 : templ_pen) : Option (templ_pen) :=
  Option.bind (bits_AddRange z box0.k (IntKind.u64.wrap n) (IntKind.u64.wrap many)) fun x1 =>
  some (templ_pen.mk x1.1)

noncomputable def templ_pen_chains_y1_s3 (z : Option Nat) (v7 : Int) (x9 : Template) (v10 : Int) (v11 : templ_pen) : Option (((Int × templ_pen) ⊕ (((Int × templ_pen) ⊕ (templ_pen))))) :=
  if (cm .lss v10 (x9.chains.length : Int)) then
  Option.bind (ix x9.chains v10) fun x12 =>
    Option.bind (templ_pen_num_y1 z x12 4 v11) fun x13 =>
    some (Sum.inl ((ar .add .i64 v10 1), x13))
else
  Option.map Sum.inr (some (Sum.inl ((ar .add .i64 v7 1), v11)))

noncomputable def templ_pen_chains_y1_l3 (z : Option Nat) (v7 : Int) (x9 : Template) (v10 : Int) (v11 : templ_pen) : Option (((Int × templ_pen) ⊕ (templ_pen))) :=
  loopG z (fun (s : Int × templ_pen) => templ_pen_chains_y1_s3 z v7 x9 s.1 s.2) (v10, v11)

noncomputable def templ_pen_chains_y1_s2 (z : Option Nat) (v3 : Structure) (v7 : Int) (v8 : templ_pen) : Option (((Int × templ_pen) ⊕ (templ_pen))) :=
  if (cm .lss v7 (v3.templates.length : Int)) then
  Option.bind (ix v3.templates v7) fun x9 =>
    templ_pen_chains_y1_l3 z v7 x9 0 v8
else
  Option.map Sum.inr (some v8)

noncomputable def templ_pen_chains_y1_l2 (z : Option Nat) (v3 : Structure) (v7 : Int) (v8 : templ_pen) : Option (templ_pen) :=
  loopG z (fun (s : Int × templ_pen) => templ_pen_chains_y1_s2 z v3 s.1 s.2) (v7, v8)

noncomputable def templ_pen_chains_y1_s1 (z : Option Nat) (p_s : Structure) (v2 : Int) (v3 : Structure) (v4 : templ_pen) : Option (((Int × Structure × templ_pen) ⊕ (templ_pen))) :=
  if (cm .lss v2 (p_s.protect.length : Int)) then
  Option.bind (ix p_s.protect v2) fun x5 =>
    Option.bind (templ_pen_ranged_y1 z x5 v3.chains v4) fun x6 =>
    some (Sum.inl ((ar .add .i64 v2 1), v3, x6))
else
  Option.map Sum.inr (templ_pen_chains_y1_l2 z v3 0 v4)

noncomputable def templ_pen_chains_y1_l1 (z : Option Nat) (p_s : Structure) (v2 : Int) (v3 : Structure) (v4 : templ_pen) : Option (templ_pen) :=
  loopG z (fun (s : Int × Structure × templ_pen) => templ_pen_chains_y1_s1 z p_s s.1 s.2.1 s.2.2) (v2, v3, v4)

noncomputable def templ_pen_chains_y1 (z : Option Nat) (p_s : Structure) (box0 : templ_pen) : Option (templ_pen) :=
  Option.bind (templ_pen_ranged_y1 z p_s.chains (ar .add .i64 p_s.targets 1) box0) fun x1 =>
  templ_pen_chains_y1_l1 z p_s 0 p_s x1

noncomputable def templ_Put_s1 (z : Option Nat) (k : Ink) (p_s : Structure) (v9 : Int) (v10 : templ_pen) : Option (((Int × templ_pen) ⊕ (Ink × Int))) :=
  if (cm .lss v9 (p_s.sizes.length : Int)) then
  Option.bind (ix p_s.sizes v9) fun x11 =>
    Option.bind (templ_pen_num_y1 z (ar .sub .i64 x11.wide 1) 16 v10) fun x12 =>
    Option.bind (templ_pen_num_y1 z (ar .sub .i64 x11.high 1) 16 x12) fun x13 =>
    some (Sum.inl ((ar .add .i64 v9 1), x13))
else
  Option.map Sum.inr (some (v10.k, 0))

noncomputable def templ_Put_l1 (z : Option Nat) (k : Ink) (p_s : Structure) (v9 : Int) (v10 : templ_pen) : Option (Ink × Int) :=
  loopG z (fun (s : Int × templ_pen) => templ_Put_s1 z k p_s s.1 s.2) (v9, v10)

noncomputable def templ_Put (z : Option Nat) (k : Ink) (p_s : Structure) : Option (Ink × Int) :=
  Option.bind (bits_Right k) fun x1 =>
  Option.bind (gT (!(!x1)) (templ_Right z p_s)) fun x2 =>
  if ((!x1) || (!x2)) then
  some (k, 1)
else
  Option.bind (templ_pen_num_y1 z p_s.id_ 6 (templ_pen.mk k)) fun x3 =>
    Option.bind (templ_pen_num_y1 z (ar .sub .i64 p_s.targets 1) 5 x3) fun x4 =>
    Option.bind (templ_pen_layers_y1 z p_s.templates x4) fun x5 =>
    Option.bind (templ_pen_lists_y1 z p_s.templates x5) fun x6 =>
    Option.bind (templ_pen_chains_y1 z p_s x6) fun x7 =>
    Option.bind (templ_pen_num_y1 z (imin (p_s.sizes.length : Int) 1) 1 x7) fun x8 =>
    templ_Put_l1 z k p_s 0 x8

noncomputable def av1_groups_s1 (z : Option Nat) (n : Int) (v1 : Int) : Option (((Int) ⊕ (Int))) :=
  Option.bind (sfO .shr .i64 (ar .sub .i64 n 1) (ar .mul .i64 4 v1)) fun x2 =>
  if (cm .gtr x2 0) then
  some (Sum.inl (ar .add .i64 v1 1))
else
  Option.map Sum.inr (some v1)

noncomputable def av1_groups_l1 (z : Option Nat) (n : Int) (v1 : Int) : Option (Int) :=
  loopG z (fun (s : Int) => av1_groups_s1 z n s) (v1)

noncomputable def av1_groups (z : Option Nat) (n : Int) : Option (Int) :=
  av1_groups_l1 z n 1

noncomputable def av1_pen_num_y1 (z : Option Nat) (n : Int) (width : Int) (box0 : av1_pen) : Option (av1_pen) :=
  Option.bind (bits_Add z box0.k (IntKind.u64.wrap n) width) fun x1 =>
  some (av1_pen.mk x1.1)

noncomputable def av1_pen_truths_y1_j2 (z : Option Nat) (v1 : Int) (v2 : av1_pen) (v4 : Int) : Option (((Int × av1_pen) ⊕ (av1_pen))) :=
  Option.bind (av1_pen_num_y1 z v4 1 v2) fun x5 =>
  some (Sum.inl ((ar .add .i64 v1 1), x5))

noncomputable def av1_pen_truths_y1_s1 (z : Option Nat) (l : List Bool) (v1 : Int) (v2 : av1_pen) : Option (((Int × av1_pen) ⊕ (av1_pen))) :=
  if (cm .lss v1 (l.length : Int)) then
  Option.bind (ix l v1) fun x3 =>
    if x3 then
    av1_pen_truths_y1_j2 z v1 v2 1
  else
    av1_pen_truths_y1_j2 z v1 v2 0
else
  Option.map Sum.inr (some v2)

noncomputable def av1_pen_truths_y1_l1 (z : Option Nat) (l : List Bool) (v1 : Int) (v2 : av1_pen) : Option (av1_pen) :=
  loopG z (fun (s : Int × av1_pen) => av1_pen_truths_y1_s1 z l s.1 s.2) (v1, v2)

noncomputable def av1_pen_truths_y1 (z : Option Nat) (l : List Bool) (box0 : av1_pen) : Option (av1_pen) :=
  av1_pen_truths_y1_l1 z l 0 box0

noncomputable def av1_pen_more_y1_s6 (z : Option Nat) (v2 : Frame) (v16 : Int) (v17 : av1_pen) : Option (((Int × av1_pen) ⊕ (av1_pen))) :=
  if (cm .lss v16 (v2.chains.length : Int)) then
  Option.bind (ix v2.chains v16) fun x18 =>
    Option.bind (av1_pen_num_y1 z x18 8 v17) fun x19 =>
    some (Sum.inl ((ar .add .i64 v16 1), x19))
else
  Option.map Sum.inr (some v17)

noncomputable def av1_pen_more_y1_l6 (z : Option Nat) (v2 : Frame) (v16 : Int) (v17 : av1_pen) : Option (av1_pen) :=
  loopG z (fun (s : Int × av1_pen) => av1_pen_more_y1_s6 z v2 s.1 s.2) (v16, v17)

noncomputable def av1_pen_more_y1_j5 (z : Option Nat) (v2 : Frame) (v15 : av1_pen) : Option (av1_pen) :=
  av1_pen_more_y1_l6 z v2 0 v15

noncomputable def av1_pen_more_y1_s4 (z : Option Nat) (v2 : Frame) (v9 : Int) (v10 : av1_pen) : Option (((Int × av1_pen) ⊕ (av1_pen))) :=
  if (cm .lss v9 (v2.diffs.length : Int)) then
  Option.bind (ix v2.diffs v9) fun x11 =>
    Option.bind (av1_groups z x11) fun x12 =>
    Option.bind (av1_pen_num_y1 z x12 2 v10) fun x13 =>
    Option.bind (av1_pen_num_y1 z (ar .sub .i64 x11 1) (ar .mul .i64 4 x12) x13) fun x14 =>
    some (Sum.inl ((ar .add .i64 v9 1), x14))
else
  Option.map Sum.inr (if v2.ownDiffs then
    Option.bind (av1_pen_num_y1 z 0 2 v10) fun x20 =>
      av1_pen_more_y1_j5 z v2 x20
  else
    av1_pen_more_y1_j5 z v2 v10)

noncomputable def av1_pen_more_y1_l4 (z : Option Nat) (v2 : Frame) (v9 : Int) (v10 : av1_pen) : Option (av1_pen) :=
  loopG z (fun (s : Int × av1_pen) => av1_pen_more_y1_s4 z v2 s.1 s.2) (v9, v10)

noncomputable def av1_pen_more_y1_s3 (z : Option Nat) (v2 : Frame) (v5 : Int) (v6 : av1_pen) : Option (((Int × av1_pen) ⊕ (av1_pen))) :=
  if (cm .lss v5 (v2.marks.length : Int)) then
  Option.bind (ix v2.marks v5) fun x7 =>
    Option.bind (av1_pen_num_y1 z x7 2 v6) fun x8 =>
    some (Sum.inl ((ar .add .i64 v5 1), x8))
else
  Option.map Sum.inr (av1_pen_more_y1_l4 z v2 0 v6)

noncomputable def av1_pen_more_y1_l3 (z : Option Nat) (v2 : Frame) (v5 : Int) (v6 : av1_pen) : Option (av1_pen) :=
  loopG z (fun (s : Int × av1_pen) => av1_pen_more_y1_s3 z v2 s.1 s.2) (v5, v6)

noncomputable def av1_pen_more_y1_j2 (z : Option Nat) (v2 : Frame) (v4 : av1_pen) : Option (av1_pen) :=
  av1_pen_more_y1_l3 z v2 0 v4

noncomputable def av1_pen_more_y1_j1 (z : Option Nat) (p_s : Structure) (v2 : Frame) (v3 : av1_pen) : Option (av1_pen) :=
  if v2.hasActive then
  Option.bind (av1_pen_num_y1 z (IntKind.i64.wrap v2.active) p_s.targets v3) fun x21 =>
    av1_pen_more_y1_j2 z v2 x21
else
  av1_pen_more_y1_j2 z v2 v3

noncomputable def av1_pen_more_y1 (z : Option Nat) (f : Frame) (p_s : Structure) (box0 : av1_pen) : Option (av1_pen) :=
  Option.bind (av1_pen_truths_y1 z [f.hasStructure, f.hasActive, f.ownMarks, f.ownDiffs, f.ownChains] box0) fun x1 =>
  if f.hasStructure then
  Option.bind (templ_Put z x1.k f.structure_) fun x22 =>
    av1_pen_more_y1_j1 z p_s f (av1_pen.mk x22.1)
else
  av1_pen_more_y1_j1 z p_s f x1

noncomputable def av1_Write_j1 (z : Option Nat) (v5 : av1_pen) : Option (List Int × Int) :=
  some (v5.k.bytes, 0)

noncomputable def av1_Write (z : Option Nat) (f : Frame) (known : Structure) : Option (List Int × Int) :=
  Option.bind (av1_Right z f known) fun x1 =>
  if (!x1) then
  some (([] : List Int), 1)
else
  Option.bind (av1_pen_truths_y1 z [f.start, f.end_] (av1_pen.mk (Ink.mk [] 0))) fun x2 =>
    Option.bind (av1_pen_num_y1 z f.template 6 x2) fun x3 =>
    Option.bind (av1_pen_num_y1 z f.number 16 x3) fun x4 =>
    if ((((f.hasStructure || f.hasActive) || f.ownMarks) || f.ownDiffs) || f.ownChains) then
    Option.bind (av1_pen_more_y1 z f (av1_structure f known) x4) fun x6 =>
      av1_Write_j1 z x6
  else
    av1_Write_j1 z x4

def bits_Start (b : List Int) : GBits :=
  (GBits.mk b 0 0)

def bits_right (c : GBits) : Bool :=
  (((cm .eql c.err 0) && (cm .geq c.at_ 0)) && (cm .leq c.at_ (ar .mul .i64 8 (c.bytes.length : Int))))

def bits_fail_j1 (v1 : GBits) : GBits × Int :=
  (v1, 0)

def bits_fail (c : GBits) (p_e : Int) : GBits × Int :=
  if (cm .eql c.err 0) then
  bits_fail_j1 ({ c with err := p_e })
else
  bits_fail_j1 c

def bits_Left (c : GBits) : Int :=
  if (!(bits_right c)) then
  0
else
  (ar .sub .i64 (ar .mul .i64 8 (c.bytes.length : Int)) c.at_)

noncomputable def bits_Get_s2 (z : Option Nat) (v2 : Int) (v3 : Int) (v4 : GBits) : Option (((Int × Int × GBits) ⊕ (GBits × Int))) :=
  if (cm .gtr v2 0) then
  Option.bind (ix v4.bytes (dv .quo .i64 v4.at_ 8)) fun x5 =>
    Option.bind (sfO .shr .u8 x5 (ar .sub .i64 (ar .sub .i64 8 (dv .rem .i64 v4.at_ 8)) (imin (ar .sub .i64 8 (dv .rem .i64 v4.at_ 8)) v2))) fun x6 =>
    Option.bind (sfO .shl .u8 1 (imin (ar .sub .i64 8 (dv .rem .i64 v4.at_ 8)) v2)) fun x7 =>
    Option.bind (sfO .shl .u64 v3 (imin (ar .sub .i64 8 (dv .rem .i64 v4.at_ 8)) v2)) fun x8 =>
    some (Sum.inl ((ar .sub .i64 v2 (imin (ar .sub .i64 8 (dv .rem .i64 v4.at_ 8)) v2)), (ar .or .u64 x8 (IntKind.u64.wrap (ar .and .u8 x6 (ar .sub .u8 x7 1)))), { v4 with at_ := (ar .add .i64 v4.at_ (imin (ar .sub .i64 8 (dv .rem .i64 v4.at_ 8)) v2)) }))
else
  Option.map Sum.inr (some (v4, v3))

noncomputable def bits_Get_l2 (z : Option Nat) (v2 : Int) (v3 : Int) (v4 : GBits) : Option (GBits × Int) :=
  loopG z (fun (s : Int × Int × GBits) => bits_Get_s2 z s.1 s.2.1 s.2.2) (v2, v3, v4)

noncomputable def bits_Get_j1 (z : Option Nat) (c : GBits) (n : Int) (v1 : Bool) : Option (GBits × Int) :=
  if v1 then
  some ((bits_fail c 1).1, (bits_fail c 1).2)
else
  if (cm .gtr n (bits_Left c)) then
    some ((bits_fail c 2).1, (bits_fail c 2).2)
  else
    bits_Get_l2 z n 0 c

noncomputable def bits_Get (z : Option Nat) (c : GBits) (n : Int) : Option (GBits × Int) :=
  if (!(bits_right c)) then
  bits_Get_j1 z c n (!(bits_right c))
else
  if (cm .lss n 0) then
    bits_Get_j1 z c n (cm .lss n 0)
  else
    bits_Get_j1 z c n (cm .gtr n 64)

noncomputable def bits_Range_j1 (z : Option Nat) (c : GBits) (v3 : Int) (v4 : GBits) : Option (GBits × Int) :=
  if (cm .neq v4.err 0) then
  some ((bits_fail c v4.err).1, (bits_fail c v4.err).2)
else
  some (v4, v3)

noncomputable def bits_Range (z : Option Nat) (c : GBits) (n : Int) : Option (GBits × Int) :=
  if (((!(bits_right c)) || (cm .lss n 1)) || (cm .gtr n 4294967296)) then
  some ((bits_fail c 1).1, (bits_fail c 1).2)
else
  Option.bind (bits_spread n) fun x1 =>
    Option.bind (bits_Get z c (ar .sub .i64 x1.1 1)) fun x2 =>
    if ((cm .eql x2.1.err 0) && (cm .geq x2.2 x1.2)) then
    Option.bind (bits_Get z x2.1 1) fun x5 =>
      bits_Range_j1 z c (ar .sub .u64 (ar .add .u64 (sf .shl .u64 x2.2 1) x5.2) x1.2) x5.1
  else
    bits_Range_j1 z c x2.2 x2.1

noncomputable def templ_eye_num_y1 (z : Option Nat) (width : Int) (box0 : templ_eye) : Option (Int × templ_eye) :=
  Option.bind (bits_Get z box0.c width) fun x1 =>
  some ((IntKind.i64.wrap x1.2), (templ_eye.mk x1.1))

def templ_eye_fine_p (y : templ_eye) : Bool :=
  (cm .eql y.c.err 0)

noncomputable def templ_eye_need_y1 (z : Option Nat) (ok : Bool) (box0 : templ_eye) : Option (templ_eye) :=
  if ((templ_eye_fine_p box0) && (!ok)) then
  some (templ_eye.mk ({ box0.c with err := 6 }))
else
  some box0

noncomputable def templ_eye_layers_y1_j2 (z : Option Nat) (v1 : List Template) (x4 : Int × templ_eye) (v5 : Template) : Option (((List Template × templ_eye) ⊕ (List Template × templ_eye))) :=
  Option.bind (templ_eye_need_y1 z (((cm .leq v5.tid 7) && (cm .leq v5.sid 3)) && (cm .lss (v1.length : Int) 64)) x4.2) fun x6 =>
  Option.bind (app v1 [v5]) fun x7 =>
  some (Sum.inl (x7, x6))

noncomputable def templ_eye_layers_y1_s1 (z : Option Nat) (v1 : List Template) (v2 : templ_eye) : Option (((List Template × templ_eye) ⊕ (List Template × templ_eye))) :=
  if (templ_eye_fine_p v2) then
  Option.bind (ix v1 (ar .sub .i64 (v1.length : Int) 1)) fun x3 =>
    Option.bind (templ_eye_num_y1 z 2 v2) fun x4 =>
    if (cm .eql x4.1 1) then
    templ_eye_layers_y1_j2 z v1 x4 ({ x3 with tid := (ar .add .i64 x3.tid 1) })
  else
    if (cm .eql x4.1 2) then
      templ_eye_layers_y1_j2 z v1 x4 ({ x3 with sid := (ar .add .i64 x3.sid 1), tid := 0 })
    else
      if (cm .eql x4.1 3) then
        Option.map Sum.inr (some (v1, x4.2))
      else
        templ_eye_layers_y1_j2 z v1 x4 x3
else
  Option.map Sum.inr (some (v1, v2))

noncomputable def templ_eye_layers_y1_l1 (z : Option Nat) (v1 : List Template) (v2 : templ_eye) : Option (List Template × templ_eye) :=
  loopG z (fun (s : List Template × templ_eye) => templ_eye_layers_y1_s1 z s.1 s.2) (v1, v2)

noncomputable def templ_eye_layers_y1 (z : Option Nat) (box0 : templ_eye) : Option (List Template × templ_eye) :=
  templ_eye_layers_y1_l1 z ([(Template.mk 0 0 [] [] [])]) box0

noncomputable def templ_eye_read_1_y1 (z : Option Nat) (box0 : templ_eye) : Option (Int × templ_eye) :=
  Option.bind (templ_eye_num_y1 z 2 box0) fun x1 =>
  some (x1.1, x1.2)

noncomputable def templ_eye_some_y1_s1 (z : Option Nat) (many : Int) (v1 : List Int) (v2 : Int) (v3 : templ_eye) : Option (((List Int × Int × templ_eye) ⊕ (List Int × templ_eye))) :=
  if ((cm .lss v2 many) && (templ_eye_fine_p v3)) then
  Option.bind (templ_eye_read_1_y1 z v3) fun x4 =>
    Option.bind (app v1 [x4.1]) fun x5 =>
    some (Sum.inl (x5, (ar .add .i64 v2 1), x4.2))
else
  Option.map Sum.inr (some (v1, v3))

noncomputable def templ_eye_some_y1_l1 (z : Option Nat) (many : Int) (v1 : List Int) (v2 : Int) (v3 : templ_eye) : Option (List Int × templ_eye) :=
  loopG z (fun (s : List Int × Int × templ_eye) => templ_eye_some_y1_s1 z many s.1 s.2.1 s.2.2) (v1, v2, v3)

noncomputable def templ_eye_some_y1 (z : Option Nat) (many : Int) (box0 : templ_eye) : Option (List Int × templ_eye) :=
  templ_eye_some_y1_l1 z many [] 0 box0

noncomputable def templ_eye_some_y2_s1 (z : Option Nat) (many : Int) (v1 : List Int) (v2 : Int) (v3 : templ_eye) : Option (((List Int × Int × templ_eye) ⊕ (List Int × templ_eye))) :=
  if ((cm .lss v2 many) && (templ_eye_fine_p v3)) then
  Option.bind (templ_eye_read_1_y1 z v3) fun x4 =>
    Option.bind (app v1 [x4.1]) fun x5 =>
    some (Sum.inl (x5, (ar .add .i64 v2 1), x4.2))
else
  Option.map Sum.inr (some (v1, v3))

noncomputable def templ_eye_some_y2_l1 (z : Option Nat) (many : Int) (v1 : List Int) (v2 : Int) (v3 : templ_eye) : Option (List Int × templ_eye) :=
  loopG z (fun (s : List Int × Int × templ_eye) => templ_eye_some_y2_s1 z many s.1 s.2.1 s.2.2) (v1, v2, v3)

noncomputable def templ_eye_some_y2 (z : Option Nat) (many : Int) (box0 : templ_eye) : Option (List Int × templ_eye) :=
  templ_eye_some_y2_l1 z many [] 0 box0

noncomputable def templ_eye_diffs_y1_s1 (z : Option Nat) (v1 : List Int) (v2 : templ_eye) : Option (((List Int × templ_eye) ⊕ (List Int × templ_eye))) :=
  Option.bind (templ_eye_num_y1 z 1 v2) fun x3 =>
  if ((cm .eql x3.1 1) && (templ_eye_fine_p x3.2)) then
  Option.bind (templ_eye_need_y1 z (cm .lss (v1.length : Int) 16) x3.2) fun x4 =>
    Option.bind (templ_eye_num_y1 z 4 x4) fun x5 =>
    Option.bind (app v1 [(ar .add .i64 x5.1 1)]) fun x6 =>
    some (Sum.inl (x6, x5.2))
else
  Option.map Sum.inr (some (v1, x3.2))

noncomputable def templ_eye_diffs_y1_l1 (z : Option Nat) (v1 : List Int) (v2 : templ_eye) : Option (List Int × templ_eye) :=
  loopG z (fun (s : List Int × templ_eye) => templ_eye_diffs_y1_s1 z s.1 s.2) (v1, v2)

noncomputable def templ_eye_diffs_y1 (z : Option Nat) (box0 : templ_eye) : Option (List Int × templ_eye) :=
  templ_eye_diffs_y1_l1 z [] box0

noncomputable def templ_eye_diffs_y2_s1 (z : Option Nat) (v1 : List Int) (v2 : templ_eye) : Option (((List Int × templ_eye) ⊕ (List Int × templ_eye))) :=
  Option.bind (templ_eye_num_y1 z 1 v2) fun x3 =>
  if ((cm .eql x3.1 1) && (templ_eye_fine_p x3.2)) then
  Option.bind (templ_eye_need_y1 z (cm .lss (v1.length : Int) 16) x3.2) fun x4 =>
    Option.bind (templ_eye_num_y1 z 4 x4) fun x5 =>
    Option.bind (app v1 [(ar .add .i64 x5.1 1)]) fun x6 =>
    some (Sum.inl (x6, x5.2))
else
  Option.map Sum.inr (some (v1, x3.2))

noncomputable def templ_eye_diffs_y2_l1 (z : Option Nat) (v1 : List Int) (v2 : templ_eye) : Option (List Int × templ_eye) :=
  loopG z (fun (s : List Int × templ_eye) => templ_eye_diffs_y2_s1 z s.1 s.2) (v1, v2)

noncomputable def templ_eye_diffs_y2 (z : Option Nat) (box0 : templ_eye) : Option (List Int × templ_eye) :=
  templ_eye_diffs_y2_l1 z [] box0

noncomputable def templ_eye_ranged_y1 (z : Option Nat) (many : Int) (box0 : templ_eye) : Option (Int × templ_eye) :=
  Option.bind (bits_Range z box0.c (IntKind.u64.wrap many)) fun x1 =>
  some ((IntKind.i64.wrap x1.2), (templ_eye.mk x1.1))

noncomputable def templ_eye_read_3_y1 (z : Option Nat) (box0 : templ_eye) : Option (Int × templ_eye) :=
  Option.bind (templ_eye_num_y1 z 4 box0) fun x1 =>
  some (x1.1, x1.2)

noncomputable def templ_eye_some_y3_s1 (z : Option Nat) (many : Int) (v1 : List Int) (v2 : Int) (v3 : templ_eye) : Option (((List Int × Int × templ_eye) ⊕ (List Int × templ_eye))) :=
  if ((cm .lss v2 many) && (templ_eye_fine_p v3)) then
  Option.bind (templ_eye_read_3_y1 z v3) fun x4 =>
    Option.bind (app v1 [x4.1]) fun x5 =>
    some (Sum.inl (x5, (ar .add .i64 v2 1), x4.2))
else
  Option.map Sum.inr (some (v1, v3))

noncomputable def templ_eye_some_y3_l1 (z : Option Nat) (many : Int) (v1 : List Int) (v2 : Int) (v3 : templ_eye) : Option (List Int × templ_eye) :=
  loopG z (fun (s : List Int × Int × templ_eye) => templ_eye_some_y3_s1 z many s.1 s.2.1 s.2.2) (v1, v2, v3)

noncomputable def templ_eye_some_y3 (z : Option Nat) (many : Int) (box0 : templ_eye) : Option (List Int × templ_eye) :=
  templ_eye_some_y3_l1 z many [] 0 box0

noncomputable def templ_eye_some_y4_s1 (z : Option Nat) (many : Int) (v1 : List Int) (v2 : Int) (v3 : templ_eye) : Option (((List Int × Int × templ_eye) ⊕ (List Int × templ_eye))) :=
  if ((cm .lss v2 many) && (templ_eye_fine_p v3)) then
  Option.bind (templ_eye_read_3_y1 z v3) fun x4 =>
    Option.bind (app v1 [x4.1]) fun x5 =>
    some (Sum.inl (x5, (ar .add .i64 v2 1), x4.2))
else
  Option.map Sum.inr (some (v1, v3))

noncomputable def templ_eye_some_y4_l1 (z : Option Nat) (many : Int) (v1 : List Int) (v2 : Int) (v3 : templ_eye) : Option (List Int × templ_eye) :=
  loopG z (fun (s : List Int × Int × templ_eye) => templ_eye_some_y4_s1 z many s.1 s.2.1 s.2.2) (v1, v2, v3)

noncomputable def templ_eye_some_y4 (z : Option Nat) (many : Int) (box0 : templ_eye) : Option (List Int × templ_eye) :=
  templ_eye_some_y4_l1 z many [] 0 box0

noncomputable def templ_eye_read_2_y1 (z : Option Nat) (box0 : templ_eye) (box1 : Structure) : Option (Int × templ_eye) :=
  Option.bind (templ_eye_ranged_y1 z box1.chains box0) fun x1 =>
  some (x1.1, x1.2)

noncomputable def templ_eye_some_y5_s1 (z : Option Nat) (many : Int) (box1 : Structure) (v1 : List Int) (v2 : Int) (v3 : templ_eye) : Option (((List Int × Int × templ_eye) ⊕ (List Int × templ_eye))) :=
  if ((cm .lss v2 many) && (templ_eye_fine_p v3)) then
  Option.bind (templ_eye_read_2_y1 z v3 box1) fun x4 =>
    Option.bind (app v1 [x4.1]) fun x5 =>
    some (Sum.inl (x5, (ar .add .i64 v2 1), x4.2))
else
  Option.map Sum.inr (some (v1, v3))

noncomputable def templ_eye_some_y5_l1 (z : Option Nat) (many : Int) (box1 : Structure) (v1 : List Int) (v2 : Int) (v3 : templ_eye) : Option (List Int × templ_eye) :=
  loopG z (fun (s : List Int × Int × templ_eye) => templ_eye_some_y5_s1 z many box1 s.1 s.2.1 s.2.2) (v1, v2, v3)

noncomputable def templ_eye_some_y5 (z : Option Nat) (many : Int) (box0 : templ_eye) (box1 : Structure) : Option (List Int × templ_eye) :=
  templ_eye_some_y5_l1 z many box1 [] 0 box0

noncomputable def templ_eye_read_y1_s5 (z : Option Nat) (x23 : Template) (v24 : Int) (v25 : Structure) (v26 : templ_eye) : Option (((Int × Structure × templ_eye) ⊕ (Structure × templ_eye))) :=
  if (cm .lss v24 (ar .add .i64 x23.sid 1)) then
  Option.bind (templ_eye_num_y1 z 16 v26) fun x27 =>
    Option.bind (templ_eye_num_y1 z 16 x27.2) fun x28 =>
    Option.bind (app v25.sizes [(Size.mk (ar .add .i64 x27.1 1) (ar .add .i64 x28.1 1))]) fun x29 =>
    some (Sum.inl ((ar .add .i64 v24 1), { v25 with sizes := x29 }, x28.2))
else
  Option.map Sum.inr (some (v25, v26))

noncomputable def templ_eye_read_y1_l5 (z : Option Nat) (x23 : Template) (v24 : Int) (v25 : Structure) (v26 : templ_eye) : Option (Structure × templ_eye) :=
  loopG z (fun (s : Int × Structure × templ_eye) => templ_eye_read_y1_s5 z x23 s.1 s.2.1 s.2.2) (v24, v25, v26)

noncomputable def templ_eye_read_y1_s4 (z : Option Nat) (v15 : Structure) (v17 : Int) (v18 : Structure) (v19 : templ_eye) : Option (((Int × Structure × templ_eye) ⊕ (Structure × templ_eye))) :=
  if (cm .lss v17 (v15.templates.length : Int)) then
  Option.bind (templ_eye_some_y4 z v18.chains v19) fun x20 =>
    Option.bind (ix v18.templates v17) fun x21 =>
    some (Sum.inl ((ar .add .i64 v17 1), { v18 with templates := (List.set v18.templates (v17 : Int).toNat ({ x21 with chains := x20.1 })) }, x20.2))
else
  Option.map Sum.inr (Option.bind (templ_eye_num_y1 z 1 v19) fun x22 =>
    if (cm .eql x22.1 0) then
    some (v18, x22.2)
  else
    Option.bind (ix v18.templates (ar .sub .i64 (v18.templates.length : Int) 1)) fun x23 =>
      templ_eye_read_y1_l5 z x23 0 v18 x22.2)

noncomputable def templ_eye_read_y1_l4 (z : Option Nat) (v15 : Structure) (v17 : Int) (v18 : Structure) (v19 : templ_eye) : Option (Structure × templ_eye) :=
  loopG z (fun (s : Int × Structure × templ_eye) => templ_eye_read_y1_s4 z v15 s.1 s.2.1 s.2.2) (v17, v18, v19)

noncomputable def templ_eye_read_y1_j3 (z : Option Nat) (v15 : Structure) (v16 : templ_eye) : Option (Structure × templ_eye) :=
  templ_eye_read_y1_l4 z v15 0 v15 v16

noncomputable def templ_eye_read_y1_s2 (z : Option Nat) (v5 : Structure) (v9 : Int) (v10 : Structure) (v11 : templ_eye) : Option (((Int × Structure × templ_eye) ⊕ (Structure × templ_eye))) :=
  if (cm .lss v9 (v5.templates.length : Int)) then
  Option.bind (templ_eye_diffs_y2 z v11) fun x12 =>
    Option.bind (ix v10.templates v9) fun x13 =>
    some (Sum.inl ((ar .add .i64 v9 1), { v10 with templates := (List.set v10.templates (v9 : Int).toNat ({ x13 with diffs := x12.1 })) }, x12.2))
else
  Option.map Sum.inr (Option.bind (templ_eye_ranged_y1 z (ar .add .i64 v10.targets 1) v11) fun x14 =>
    if (cm .gtr x14.1 0) then
    Option.bind (templ_eye_some_y5 z v10.targets x14.2 ({ v10 with chains := x14.1 })) fun x30 =>
      templ_eye_read_y1_j3 z ({ v10 with chains := x14.1, protect := x30.1 }) x30.2
  else
    templ_eye_read_y1_j3 z ({ v10 with chains := x14.1 }) x14.2)

noncomputable def templ_eye_read_y1_l2 (z : Option Nat) (v5 : Structure) (v9 : Int) (v10 : Structure) (v11 : templ_eye) : Option (Structure × templ_eye) :=
  loopG z (fun (s : Int × Structure × templ_eye) => templ_eye_read_y1_s2 z v5 s.1 s.2.1 s.2.2) (v9, v10, v11)

noncomputable def templ_eye_read_y1_s1 (z : Option Nat) (x3 : List Template × templ_eye) (v4 : Int) (v5 : Structure) (v6 : templ_eye) : Option (((Int × Structure × templ_eye) ⊕ (Structure × templ_eye))) :=
  if (cm .lss v4 (x3.1.length : Int)) then
  Option.bind (templ_eye_some_y2 z v5.targets v6) fun x7 =>
    Option.bind (ix v5.templates v4) fun x8 =>
    some (Sum.inl ((ar .add .i64 v4 1), { v5 with templates := (List.set v5.templates (v4 : Int).toNat ({ x8 with marks := x7.1 })) }, x7.2))
else
  Option.map Sum.inr (templ_eye_read_y1_l2 z v5 0 v5 v6)

noncomputable def templ_eye_read_y1_l1 (z : Option Nat) (x3 : List Template × templ_eye) (v4 : Int) (v5 : Structure) (v6 : templ_eye) : Option (Structure × templ_eye) :=
  loopG z (fun (s : Int × Structure × templ_eye) => templ_eye_read_y1_s1 z x3 s.1 s.2.1 s.2.2) (v4, v5, v6)

noncomputable def templ_eye_read_y1 (z : Option Nat) (box0 : templ_eye) : Option (Structure × templ_eye) :=
  Option.bind (templ_eye_num_y1 z 6 box0) fun x1 =>
  Option.bind (templ_eye_num_y1 z 5 x1.2) fun x2 =>
  Option.bind (templ_eye_layers_y1 z x2.2) fun x3 =>
  templ_eye_read_y1_l1 z x3 0 (Structure.mk x1.1 (ar .add .i64 x2.1 1) 0 [] x3.1 ([] : List Size)) x3.2

noncomputable def templ_Get (z : Option Nat) (c : GBits) : Option (GBits × Structure) :=
  Option.bind (templ_eye_read_y1 z (templ_eye.mk c)) fun x1 =>
  if (!(templ_eye_fine_p x1.2)) then
  some ({ c with err := x1.2.c.err }, (Structure.mk 0 0 0 [] [] []))
else
  some (x1.2.c, x1.1)

noncomputable def av1_eye_num_y1 (z : Option Nat) (width : Int) (box0 : av1_eye) : Option (Int × av1_eye) :=
  Option.bind (bits_Get z box0.c width) fun x1 =>
  some ((IntKind.i64.wrap x1.2), (av1_eye.mk x1.1))

noncomputable def av1_eye_truth_y1 (z : Option Nat) (box0 : av1_eye) : Option (Bool × av1_eye) :=
  Option.bind (av1_eye_num_y1 z 1 box0) fun x1 =>
  some ((cm .eql x1.1 1), x1.2)

def av1_eye_fine_p (y : av1_eye) : Bool :=
  (cm .eql y.c.err 0)

noncomputable def av1_eye_need_y1 (z : Option Nat) (ok : Bool) (p_e : Int) (box0 : av1_eye) : Option (av1_eye) :=
  if ((av1_eye_fine_p box0) && (!ok)) then
  some (av1_eye.mk ({ box0.c with err := p_e }))
else
  some box0

noncomputable def av1_eye_some_y1_s1 (z : Option Nat) (many : Int) (width : Int) (v1 : List Int) (v2 : Int) (v3 : av1_eye) : Option (((List Int × Int × av1_eye) ⊕ (List Int × av1_eye))) :=
  if ((cm .lss v2 many) && (av1_eye_fine_p v3)) then
  Option.bind (av1_eye_num_y1 z width v3) fun x4 =>
    Option.bind (app v1 [x4.1]) fun x5 =>
    some (Sum.inl (x5, (ar .add .i64 v2 1), x4.2))
else
  Option.map Sum.inr (some (v1, v3))

noncomputable def av1_eye_some_y1_l1 (z : Option Nat) (many : Int) (width : Int) (v1 : List Int) (v2 : Int) (v3 : av1_eye) : Option (List Int × av1_eye) :=
  loopG z (fun (s : List Int × Int × av1_eye) => av1_eye_some_y1_s1 z many width s.1 s.2.1 s.2.2) (v1, v2, v3)

noncomputable def av1_eye_some_y1 (z : Option Nat) (many : Int) (width : Int) (box0 : av1_eye) : Option (List Int × av1_eye) :=
  av1_eye_some_y1_l1 z many width [] 0 box0

noncomputable def av1_eye_diffs_y1_s1 (z : Option Nat) (v2 : List Int) (v3 : Int) (v4 : av1_eye) : Option (((List Int × Int × av1_eye) ⊕ (List Int × av1_eye))) :=
  if ((cm .gtr v3 0) && (av1_eye_fine_p v4)) then
  Option.bind (av1_eye_need_y1 z (cm .lss (v2.length : Int) 16) 6 v4) fun x5 =>
    Option.bind (av1_eye_num_y1 z (ar .mul .i64 4 v3) x5) fun x6 =>
    Option.bind (app v2 [(ar .add .i64 x6.1 1)]) fun x7 =>
    Option.bind (av1_eye_num_y1 z 2 x6.2) fun x8 =>
    some (Sum.inl (x7, x8.1, x8.2))
else
  Option.map Sum.inr (some (v2, v4))

noncomputable def av1_eye_diffs_y1_l1 (z : Option Nat) (v2 : List Int) (v3 : Int) (v4 : av1_eye) : Option (List Int × av1_eye) :=
  loopG z (fun (s : List Int × Int × av1_eye) => av1_eye_diffs_y1_s1 z s.1 s.2.1 s.2.2) (v2, v3, v4)

noncomputable def av1_eye_diffs_y1 (z : Option Nat) (box0 : av1_eye) : Option (List Int × av1_eye) :=
  Option.bind (av1_eye_num_y1 z 2 box0) fun x1 =>
  av1_eye_diffs_y1_l1 z [] x1.1 x1.2

noncomputable def av1_eye_rest_y1_j3 (z : Option Nat) (v4 : Structure) (v7 : av1_eye) (v8 : Frame) : Option (av1_eye × Frame) :=
  if v8.ownChains then
  Option.bind (av1_eye_some_y1 z v4.chains 8 v7) fun x9 =>
    some (x9.2, { v8 with chains := x9.1 })
else
  some (v7, v8)

noncomputable def av1_eye_rest_y1_j2 (z : Option Nat) (v4 : Structure) (v5 : av1_eye) (v6 : Frame) : Option (av1_eye × Frame) :=
  if v6.ownDiffs then
  Option.bind (av1_eye_diffs_y1 z v5) fun x10 =>
    av1_eye_rest_y1_j3 z v4 x10.2 ({ v6 with diffs := x10.1 })
else
  av1_eye_rest_y1_j3 z v4 v5 v6

noncomputable def av1_eye_rest_y1_j1 (z : Option Nat) (v1 : Structure) (v2 : av1_eye) (v3 : Frame) : Option (av1_eye × Frame) :=
  if v3.ownMarks then
  Option.bind (av1_eye_some_y1 z v1.targets 2 v2) fun x11 =>
    av1_eye_rest_y1_j2 z v1 x11.2 ({ v3 with marks := x11.1 })
else
  av1_eye_rest_y1_j2 z v1 v2 v3

noncomputable def av1_eye_rest_y1 (z : Option Nat) (p_s : Structure) (box0 : av1_eye) (box1 : Frame) : Option (av1_eye × Frame) :=
  if box1.hasActive then
  Option.bind (av1_eye_num_y1 z p_s.targets box0) fun x12 =>
    av1_eye_rest_y1_j1 z p_s x12.2 ({ box1 with active := (IntKind.u32.wrap x12.1) })
else
  av1_eye_rest_y1_j1 z p_s box0 box1

noncomputable def av1_eye_flags_y1 (z : Option Nat) (box0 : av1_eye) (box1 : Frame) : Option (av1_eye × Frame) :=
  Option.bind (av1_eye_truth_y1 z box0) fun x1 =>
  Option.bind (av1_eye_truth_y1 z x1.2) fun x2 =>
  Option.bind (av1_eye_truth_y1 z x2.2) fun x3 =>
  Option.bind (av1_eye_truth_y1 z x3.2) fun x4 =>
  Option.bind (av1_eye_truth_y1 z x4.2) fun x5 =>
  if x1.1 then
  Option.bind (templ_Get z x5.2.c) fun x6 =>
    some ((av1_eye.mk x6.1), { box1 with hasStructure := x1.1, structure_ := x6.2, hasActive := x2.1, ownMarks := x3.1, ownDiffs := x4.1, ownChains := x5.1 })
else
  some (x5.2, { box1 with hasStructure := x1.1, hasActive := x2.1, ownMarks := x3.1, ownDiffs := x4.1, ownChains := x5.1 })

noncomputable def av1_eye_read_y1_j1 (z : Option Nat) (known : Structure) (v5 : Frame) (v6 : av1_eye) : Option (Frame × av1_eye) :=
  Option.bind (av1_eye_need_y1 z (cm .gtr (((av1_structure v5 known).templates).length : Int) 0) 8 v6) fun x7 =>
  Option.bind (av1_eye_need_y1 z (cm .neq (av1_place v5 (av1_structure v5 known)) (-1)) 6 x7) fun x8 =>
  Option.bind (av1_eye_rest_y1 z (av1_structure v5 known) x8 v5) fun x9 =>
  some (x9.2, x9.1)

noncomputable def av1_eye_read_y1 (z : Option Nat) (known : Structure) (more : Bool) (box0 : av1_eye) : Option (Frame × av1_eye) :=
  Option.bind (av1_eye_truth_y1 z box0) fun x1 =>
  Option.bind (av1_eye_truth_y1 z x1.2) fun x2 =>
  Option.bind (av1_eye_num_y1 z 6 x2.2) fun x3 =>
  Option.bind (av1_eye_num_y1 z 16 x3.2) fun x4 =>
  if more then
  Option.bind (av1_eye_flags_y1 z x4.2 (Frame.mk x1.1 x2.1 x3.1 x4.1 false (Structure.mk 0 0 0 [] [] []) false 0 false [] false [] false [])) fun x10 =>
    av1_eye_read_y1_j1 z known x10.2 x10.1
else
  av1_eye_read_y1_j1 z known (Frame.mk x1.1 x2.1 x3.1 x4.1 false (Structure.mk 0 0 0 [] [] []) false 0 false [] false [] false []) x4.2

noncomputable def av1_Read (z : Option Nat) (b : List Int) (known : Structure) : Option (Frame × Int) :=
  Option.bind (av1_may z known) fun x1 =>
  if (!x1) then
  some ((Frame.mk false false 0 0 false (Structure.mk 0 0 0 [] [] []) false 0 false [] false [] false []), 1)
else
  if (cm .lss (b.length : Int) 3) then
    some ((Frame.mk false false 0 0 false (Structure.mk 0 0 0 [] [] []) false 0 false [] false [] false []), 2)
  else
    Option.bind (av1_eye_read_y1 z known (cm .gtr (b.length : Int) 3) (av1_eye.mk (bits_Start b))) fun x2 =>
      Option.bind (av1_eye_need_y1 z (cm .lss (bits_Left x2.2.c) 8) 4 x2.2) fun x3 =>
      if (!(av1_eye_fine_p x3)) then
      some ((Frame.mk false false 0 0 false (Structure.mk 0 0 0 [] [] []) false 0 false [] false [] false []), x3.c.err)
    else
      some (x2.1, 0)

def slices_Clone2 (l : List Int) : Option (List Int) := app [] l

def av1_Whole_1 (own : Bool) (mine : List Int) (its : List Int) : Option (List Int) :=
  if own then
  Option.bind (slices_Clone2 mine) fun x1 =>
    some x1
else
  Option.bind (slices_Clone2 its) fun x2 =>
    some x2

noncomputable def av1_Whole (z : Option Nat) (f : Frame) (known : Structure) : Option (Template × Int) :=
  Option.bind (av1_Right z f known) fun x1 =>
  if (!x1) then
  some ((Template.mk 0 0 [] [] []), 1)
else
  Option.bind (ix ((av1_structure f known).templates) (av1_place f (av1_structure f known))) fun x2 =>
    Option.bind (av1_Whole_1 f.ownMarks f.marks x2.marks ) fun x3 =>
    Option.bind (av1_Whole_1 f.ownDiffs f.diffs x2.diffs ) fun x4 =>
    Option.bind (av1_Whole_1 f.ownChains f.chains x2.chains ) fun x5 =>
    some ((Template.mk x2.sid x2.tid x3 x4 x5), 0)

noncomputable def ref24_Ints_s1 (z : Option Nat) (p_a : List Int) (b : List Int) (v1 : Int) : Option (((Int) ⊕ (Bool))) :=
  if (cm .lss v1 (p_a.length : Int)) then
  Option.bind (ix p_a v1) fun x2 =>
    Option.bind (ix b v1) fun x3 =>
    if (cm .neq x2 x3) then
    Option.map Sum.inr (some false)
  else
    some (Sum.inl (ar .add .i64 v1 1))
else
  Option.map Sum.inr (some true)

noncomputable def ref24_Ints_l1 (z : Option Nat) (p_a : List Int) (b : List Int) (v1 : Int) : Option (Bool) :=
  loopG z (fun (s : Int) => ref24_Ints_s1 z p_a b s) (v1)

noncomputable def ref24_Ints (z : Option Nat) (p_a : List Int) (b : List Int) : Option (Bool) :=
  if (cm .neq (p_a.length : Int) (b.length : Int)) then
  some false
else
  ref24_Ints_l1 z p_a b 0

noncomputable def ref26_Same_s2 (z : Option Nat) (p_a : Structure) (b : Structure) (v5 : Int) : Option (((Int) ⊕ (Bool))) :=
  if (cm .lss v5 (p_a.templates.length : Int)) then
  Option.bind (ix p_a.templates v5) fun x6 =>
    Option.bind (ix b.templates v5) fun x7 =>
    Option.bind (gT (!((cm .neq x6.sid x7.sid) || (cm .neq x6.tid x7.tid))) (ref24_Ints z x6.marks x7.marks)) fun x8 =>
    Option.bind (gT (!(((cm .neq x6.sid x7.sid) || (cm .neq x6.tid x7.tid)) || (!x8))) (ref24_Ints z x6.diffs x7.diffs)) fun x9 =>
    Option.bind (gT (!((((cm .neq x6.sid x7.sid) || (cm .neq x6.tid x7.tid)) || (!x8)) || (!x9))) (ref24_Ints z x6.chains x7.chains)) fun x10 =>
    if (((((cm .neq x6.sid x7.sid) || (cm .neq x6.tid x7.tid)) || (!x8)) || (!x9)) || (!x10)) then
    Option.map Sum.inr (some false)
  else
    some (Sum.inl (ar .add .i64 v5 1))
else
  Option.map Sum.inr (some true)

noncomputable def ref26_Same_l2 (z : Option Nat) (p_a : Structure) (b : Structure) (v5 : Int) : Option (Bool) :=
  loopG z (fun (s : Int) => ref26_Same_s2 z p_a b s) (v5)

noncomputable def ref26_Same_s1 (z : Option Nat) (p_a : Structure) (b : Structure) (v2 : Int) : Option (((Int) ⊕ (Bool))) :=
  if (cm .lss v2 (p_a.sizes.length : Int)) then
  Option.bind (ix p_a.sizes v2) fun x3 =>
    Option.bind (ix b.sizes v2) fun x4 =>
    if (!(x3.wide == x4.wide && (x3.high == x4.high && true))) then
    Option.map Sum.inr (some false)
  else
    some (Sum.inl (ar .add .i64 v2 1))
else
  Option.map Sum.inr (ref26_Same_l2 z p_a b 0)

noncomputable def ref26_Same_l1 (z : Option Nat) (p_a : Structure) (b : Structure) (v2 : Int) : Option (Bool) :=
  loopG z (fun (s : Int) => ref26_Same_s1 z p_a b s) (v2)

noncomputable def ref26_Same (z : Option Nat) (p_a : Structure) (b : Structure) : Option (Bool) :=
  Option.bind (gT (!(((cm .neq p_a.id_ b.id_) || (cm .neq p_a.targets b.targets)) || (cm .neq p_a.chains b.chains))) (ref24_Ints z p_a.protect b.protect)) fun x1 =>
  if ((((((cm .neq p_a.id_ b.id_) || (cm .neq p_a.targets b.targets)) || (cm .neq p_a.chains b.chains)) || (!x1)) || (cm .neq (p_a.templates.length : Int) (b.templates.length : Int))) || (cm .neq (p_a.sizes.length : Int) (b.sizes.length : Int))) then
  some false
else
  ref26_Same_l1 z p_a b 0

noncomputable def ref27_Same (z : Option Nat) (p_a : Frame) (b : Frame) : Option (Bool) :=
  if (((((((bq .neq p_a.start b.start) || (bq .neq p_a.end_ b.end_)) || (cm .neq p_a.template b.template)) || (cm .neq p_a.number b.number)) || (bq .neq p_a.hasStructure b.hasStructure)) || (bq .neq p_a.hasActive b.hasActive)) || (cm .neq p_a.active b.active)) then
  some false
else
  Option.bind (gT (!(((bq .neq p_a.ownMarks b.ownMarks) || (bq .neq p_a.ownDiffs b.ownDiffs)) || (bq .neq p_a.ownChains b.ownChains))) (ref26_Same z p_a.structure_ b.structure_)) fun x1 =>
    if ((((bq .neq p_a.ownMarks b.ownMarks) || (bq .neq p_a.ownDiffs b.ownDiffs)) || (bq .neq p_a.ownChains b.ownChains)) || (!x1)) then
    some false
  else
    Option.bind (ref24_Ints z p_a.marks b.marks) fun x2 =>
      Option.bind (gT x2 (ref24_Ints z p_a.diffs b.diffs)) fun x3 =>
      Option.bind (gT (x2 && x3) (ref24_Ints z p_a.chains b.chains)) fun x4 =>
      some ((x2 && x3) && x4)

noncomputable def slices_Equal_byte_s1 (z : Option Nat) (s1 : List Int) (s2 : List Int) (v1 : Int) : Option (((Int) ⊕ (Bool))) :=
  if (cm .lss v1 (s1.length : Int)) then
  Option.bind (ix s1 v1) fun x2 =>
    Option.bind (ix s2 v1) fun x3 =>
    if (cm .neq x2 x3) then
    Option.map Sum.inr (some false)
  else
    some (Sum.inl (ar .add .i64 v1 1))
else
  Option.map Sum.inr (some true)

noncomputable def slices_Equal_byte_l1 (z : Option Nat) (s1 : List Int) (s2 : List Int) (v1 : Int) : Option (Bool) :=
  loopG z (fun (s : Int) => slices_Equal_byte_s1 z s1 s2 s) (v1)

noncomputable def slices_Equal_byte (z : Option Nat) (s1 : List Int) (s2 : List Int) : Option (Bool) :=
  if (cm .neq (s1.length : Int) (s2.length : Int)) then
  some false
else
  slices_Equal_byte_l1 z s1 s2 0

noncomputable def av1_Canon (z : Option Nat) (b : List Int) (known : Structure) : Option (Bool) :=
  Option.bind (av1_Read z b known) fun x1 =>
  if (cm .neq x1.2 0) then
  some false
else
  Option.bind (av1_Write z x1.1 known) fun x2 =>
    Option.bind (gT (cm .eql x2.2 0) (slices_Equal_byte z x2.1 b)) fun x3 =>
    some ((cm .eql x2.2 0) && x3)

noncomputable def av1_Known (z : Option Nat) (f : Frame) (known : Structure) : Option (Structure) :=
  Option.bind (av1_Right z f known) fun x1 =>
  if (!x1) then
  some known
else
  some (av1_structure f known)

noncomputable def law27_awake (z : Option Nat)  : Option (Bool) :=
  Option.bind (av1_Write z (Frame.mk true false 6 258 false (Structure.mk 0 0 0 [] [] []) false 0 false [] true [17] false []) (Structure.mk 5 1 0 [] ([(Template.mk 0 0 [3] [] []), (Template.mk 0 0 [1] [2] [])]) [])) fun x1 =>
  Option.bind (av1_Read z x1.1 (Structure.mk 5 1 0 [] ([(Template.mk 0 0 [3] [] []), (Template.mk 0 0 [1] [2] [])]) [])) fun x2 =>
  Option.bind (av1_Whole z x2.1 (Structure.mk 5 1 0 [] ([(Template.mk 0 0 [3] [] []), (Template.mk 0 0 [1] [2] [])]) [])) fun x3 =>
  Option.bind (av1_Read z [7, 0, 0] (Structure.mk 5 1 0 [] ([(Template.mk 0 0 [3] [] []), (Template.mk 0 0 [1] [2] [])]) [])) fun x4 =>
  Option.bind (av1_Read z [5, 0, 0] (Structure.mk 0 0 0 [] [] [])) fun x5 =>
  Option.bind (gT ((((((cm .eql x1.2 0) && (cm .eql x2.2 0)) && (cm .eql x3.2 0)) && (cm .eql x4.2 6)) && (cm .eql x5.2 8)) && (sc .eql (b2s x1.1) ([134, 1, 2, 20, 32, 0] : List UInt8))) (ref27_Same z (Frame.mk true false 6 258 false (Structure.mk 0 0 0 [] [] []) false 0 false [] true [17] false []) x2.1)) fun x6 =>
  Option.bind (gT ((((((((cm .eql x1.2 0) && (cm .eql x2.2 0)) && (cm .eql x3.2 0)) && (cm .eql x4.2 6)) && (cm .eql x5.2 8)) && (sc .eql (b2s x1.1) ([134, 1, 2, 20, 32, 0] : List UInt8))) && x6) && (cm .eql (x3.1.marks.length : Int) 1)) (ix x3.1.marks 0)) fun x7 =>
  Option.bind (gT ((((((((((cm .eql x1.2 0) && (cm .eql x2.2 0)) && (cm .eql x3.2 0)) && (cm .eql x4.2 6)) && (cm .eql x5.2 8)) && (sc .eql (b2s x1.1) ([134, 1, 2, 20, 32, 0] : List UInt8))) && x6) && (cm .eql (x3.1.marks.length : Int) 1)) && (cm .eql x7 1)) && (cm .eql (x3.1.diffs.length : Int) 1)) (ix x3.1.diffs 0)) fun x8 =>
  Option.bind (gT (((((((((((cm .eql x1.2 0) && (cm .eql x2.2 0)) && (cm .eql x3.2 0)) && (cm .eql x4.2 6)) && (cm .eql x5.2 8)) && (sc .eql (b2s x1.1) ([134, 1, 2, 20, 32, 0] : List UInt8))) && x6) && (cm .eql (x3.1.marks.length : Int) 1)) && (cm .eql x7 1)) && (cm .eql (x3.1.diffs.length : Int) 1)) && (cm .eql x8 17)) (av1_Canon z x1.1 (Structure.mk 5 1 0 [] ([(Template.mk 0 0 [3] [] []), (Template.mk 0 0 [1] [2] [])]) []))) fun x9 =>
  Option.bind (gT ((((((((((((cm .eql x1.2 0) && (cm .eql x2.2 0)) && (cm .eql x3.2 0)) && (cm .eql x4.2 6)) && (cm .eql x5.2 8)) && (sc .eql (b2s x1.1) ([134, 1, 2, 20, 32, 0] : List UInt8))) && x6) && (cm .eql (x3.1.marks.length : Int) 1)) && (cm .eql x7 1)) && (cm .eql (x3.1.diffs.length : Int) 1)) && (cm .eql x8 17)) && x9) (av1_Right z (Frame.mk true false 6 258 false (Structure.mk 0 0 0 [] [] []) false 0 false [] true [17] false []) (Structure.mk 5 1 0 [] ([(Template.mk 0 0 [3] [] []), (Template.mk 0 0 [1] [2] [])]) []))) fun x10 =>
  Option.bind (gT (((((((((((((cm .eql x1.2 0) && (cm .eql x2.2 0)) && (cm .eql x3.2 0)) && (cm .eql x4.2 6)) && (cm .eql x5.2 8)) && (sc .eql (b2s x1.1) ([134, 1, 2, 20, 32, 0] : List UInt8))) && x6) && (cm .eql (x3.1.marks.length : Int) 1)) && (cm .eql x7 1)) && (cm .eql (x3.1.diffs.length : Int) 1)) && (cm .eql x8 17)) && x9) && x10) (av1_Known z (Frame.mk true false 6 258 false (Structure.mk 0 0 0 [] [] []) false 0 false [] true [17] false []) (Structure.mk 5 1 0 [] ([(Template.mk 0 0 [3] [] []), (Template.mk 0 0 [1] [2] [])]) []))) fun x11 =>
  Option.bind (gT (((((((((((((cm .eql x1.2 0) && (cm .eql x2.2 0)) && (cm .eql x3.2 0)) && (cm .eql x4.2 6)) && (cm .eql x5.2 8)) && (sc .eql (b2s x1.1) ([134, 1, 2, 20, 32, 0] : List UInt8))) && x6) && (cm .eql (x3.1.marks.length : Int) 1)) && (cm .eql x7 1)) && (cm .eql (x3.1.diffs.length : Int) 1)) && (cm .eql x8 17)) && x9) && x10) (templ_Same z x11 (Structure.mk 5 1 0 [] ([(Template.mk 0 0 [3] [] []), (Template.mk 0 0 [1] [2] [])]) []))) fun x12 =>
  some ((((((((((((((cm .eql x1.2 0) && (cm .eql x2.2 0)) && (cm .eql x3.2 0)) && (cm .eql x4.2 6)) && (cm .eql x5.2 8)) && (sc .eql (b2s x1.1) ([134, 1, 2, 20, 32, 0] : List UInt8))) && x6) && (cm .eql (x3.1.marks.length : Int) 1)) && (cm .eql x7 1)) && (cm .eql (x3.1.diffs.length : Int) 1)) && (cm .eql x8 17)) && x9) && x10) && x12)

noncomputable def ref26_Short_s1 (z : Option Nat) (p_s : Structure) (v1 : Int) : Option (((Int) ⊕ (Bool))) :=
  if ((cm .lss v1 (p_s.templates.length : Int)) && (cm .lss v1 99)) then
  Option.bind (ix p_s.templates v1) fun x2 =>
    if (((cm .gtr (x2.marks.length : Int) 99) || (cm .gtr (x2.diffs.length : Int) 99)) || (cm .gtr (x2.chains.length : Int) 99)) then
    Option.map Sum.inr (some false)
  else
    some (Sum.inl (ar .add .i64 v1 1))
else
  Option.map Sum.inr (some (((cm .leq (p_s.templates.length : Int) 99) && (cm .leq (p_s.protect.length : Int) 99)) && (cm .leq (p_s.sizes.length : Int) 99)))

noncomputable def ref26_Short_l1 (z : Option Nat) (p_s : Structure) (v1 : Int) : Option (Bool) :=
  loopG z (fun (s : Int) => ref26_Short_s1 z p_s s) (v1)

noncomputable def ref26_Short (z : Option Nat) (p_s : Structure) : Option (Bool) :=
  ref26_Short_l1 z p_s 0

noncomputable def ref27_Short (z : Option Nat) (f : Frame) : Option (Bool) :=
  Option.bind (ref26_Short z f.structure_) fun x1 =>
  some (((x1 && (cm .leq (f.marks.length : Int) 99)) && (cm .leq (f.diffs.length : Int) 99)) && (cm .leq (f.chains.length : Int) 99))

noncomputable def law27_Av1Back_j1 (z : Option Nat) (b : List Int) (v6 : Structure) : Option (Bool) :=
  Option.bind (av1_Read z b v6) fun x7 =>
  if (cm .neq x7.2 0) then
  Option.bind (ref27_Same z x7.1 (Frame.mk false false 0 0 false (Structure.mk 0 0 0 [] [] []) false 0 false [] false [] false [])) fun x8 =>
    Option.bind (gT x8 (av1_Canon z b v6)) fun x9 =>
    some (x8 && (!x9))
else
  Option.bind (av1_Write z x7.1 v6) fun x10 =>
    Option.bind (av1_Read z x10.1 v6) fun x11 =>
    Option.bind (gT ((cm .eql x10.2 0) && (cm .eql x11.2 0)) (av1_Right z x7.1 v6)) fun x12 =>
    Option.bind (gT (((cm .eql x10.2 0) && (cm .eql x11.2 0)) && x12) (ref27_Same z x7.1 x11.1)) fun x13 =>
    Option.bind (gT ((((cm .eql x10.2 0) && (cm .eql x11.2 0)) && x12) && x13) (av1_Canon z b v6)) fun x14 =>
    some (((((cm .eql x10.2 0) && (cm .eql x11.2 0)) && x12) && x13) && (bq .eql x14 (sc .eql (b2s x10.1) (b2s b))))

noncomputable def law27_Av1Back (z : Option Nat) (f : Frame) (g : Frame) (known : Structure) (b : List Int) (more : Int) : Option (Bool) :=
  Option.bind (ref27_Short z f) fun x1 =>
  Option.bind (gT (!(!x1)) (ref27_Short z g)) fun x2 =>
  Option.bind (gT (!((!x1) || (!x2))) (ref26_Short z known)) fun x3 =>
  if ((((!x1) || (!x2)) || (!x3)) || (cm .gtr (b.length : Int) 3000)) then
  some true
else
  Option.bind (av1_Write z f known) fun x4 =>
    Option.bind (av1_Write z g known) fun x5 =>
    if (cm .eql x4.2 0) then
    Option.bind (av1_Read z x4.1 known) fun x15 =>
      Option.bind (gT (!(cm .neq x15.2 0)) (ref27_Same z x15.1 f)) fun x16 =>
      Option.bind (gT (!((cm .neq x15.2 0) || (!x16))) (av1_Canon z x4.1 known)) fun x17 =>
      Option.bind (gT ((!((((cm .neq x15.2 0) || (!x16)) || (!x17)) || (cm .lss (x4.1.length : Int) 3))) && (cm .eql x5.2 0)) (ref27_Same z f g)) fun x18 =>
      if (((((cm .neq x15.2 0) || (!x16)) || (!x17)) || (cm .lss (x4.1.length : Int) 3)) || ((cm .eql x5.2 0) && (bq .neq (sc .eql (b2s x4.1) (b2s x5.1)) x18))) then
      some false
    else
      Option.bind (app ([] : List Int) x4.1) fun x19 =>
        Option.bind (app x19 [more]) fun x20 =>
        Option.bind (av1_Read z x20 known) fun x21 =>
        if ((cm .gtr (x4.1.length : Int) 3) && (cm .neq x21.2 4)) then
        some false
      else
        Option.bind (app ([] : List Int) x4.1) fun x22 =>
          Option.bind (app x22 [0]) fun x23 =>
          Option.bind (av1_Canon z x23 known) fun x24 =>
          if x24 then
          some false
        else
          law27_Av1Back_j1 z b known
  else
    law27_Av1Back_j1 z b known

noncomputable def law27_Av1Known_s2 (z : Option Nat) (v7 : Frame) (v8 : Structure) (x10 : Template × Int) (v13 : Int) : Option (((Int) ⊕ (Bool))) :=
  if (cm .lss v13 (v8.templates.length : Int)) then
  if (cm .eql (dv .rem .i64 (ar .add .i64 v8.id_ v13) 64) v7.template) then
    Option.bind (ix v8.templates v13) fun x14 =>
      Option.bind (gT (cm .eql x10.1.sid x14.sid) (ix v8.templates v13)) fun x15 =>
      Option.map Sum.inr (some ((cm .eql x10.1.sid x14.sid) && (cm .eql x10.1.tid x15.tid)))
  else
    some (Sum.inl (ar .add .i64 v13 1))
else
  Option.map Sum.inr (some false)

noncomputable def law27_Av1Known_l2 (z : Option Nat) (v7 : Frame) (v8 : Structure) (x10 : Template × Int) (v13 : Int) : Option (Bool) :=
  loopG z (fun (s : Int) => law27_Av1Known_s2 z v7 v8 x10 s) (v13)

noncomputable def law27_Av1Known_j1 (z : Option Nat) (known : Structure) (x3 : List Int × Int) (v7 : Frame) (v8 : Structure) : Option (Bool) :=
  Option.bind (gT (!v7.hasStructure) (templ_Same z v8 known)) fun x9 =>
  if ((!v7.hasStructure) && (!x9)) then
  some false
else
  Option.bind (av1_Whole z v7 known) fun x10 =>
    if (cm .neq x3.2 0) then
    Option.bind (gT (cm .eql x10.2 1) (templ_Same z v8 known)) fun x11 =>
      some ((cm .eql x10.2 1) && x11)
  else
    Option.bind (gT (!(((cm .neq x10.2 0) || (cm .neq (x10.1.marks.length : Int) v8.targets)) || (cm .neq (x10.1.chains.length : Int) v8.chains))) (templ_Right z v8)) fun x12 =>
      if ((((cm .neq x10.2 0) || (cm .neq (x10.1.marks.length : Int) v8.targets)) || (cm .neq (x10.1.chains.length : Int) v8.chains)) || (!x12)) then
      some false
    else
      law27_Av1Known_l2 z v7 v8 x10 0

noncomputable def law27_Av1Known (z : Option Nat) (f : Frame) (known : Structure) : Option (Bool) :=
  Option.bind (ref27_Short z f) fun x1 =>
  Option.bind (gT (!(!x1)) (ref26_Short z known)) fun x2 =>
  if ((!x1) || (!x2)) then
  some true
else
  Option.bind (av1_Write z f known) fun x3 =>
    Option.bind (av1_Known z f known) fun x4 =>
    Option.bind (gT f.hasStructure (templ_Right z known)) fun x5 =>
    Option.bind (gT (f.hasStructure && (!x5)) (templ_Same z known (Structure.mk 0 0 0 [] [] []))) fun x6 =>
    if (f.hasStructure && (x5 || x6)) then
    Option.bind (av1_Write z f (Structure.mk 0 0 0 [] [] [])) fun x16 =>
      Option.bind (gT ((!((cm .neq x3.2 x16.2) || (sc .neq (b2s x3.1) (b2s x16.1)))) && (cm .eql x3.2 0)) (templ_Same z x4 f.structure_)) fun x17 =>
      if (((cm .neq x3.2 x16.2) || (sc .neq (b2s x3.1) (b2s x16.1))) || ((cm .eql x3.2 0) && (!x17))) then
      some false
    else
      law27_Av1Known_j1 z known x3 f x4
  else
    law27_Av1Known_j1 z known x3 f x4

end Xb
