/- Own text: NModels. -/
import Derived.Test.YtecbnklmjehofaaNTypes
set_option linter.all false
set_option linter.unusedVariables false
set_option linter.unusedSimpArgs false
set_option linter.unnecessarySimpa false
set_option linter.deprecated false
namespace Xb
open Go
set_option linter.unusedVariables false

def bits_Right (k : Ink) : Option (Bool) :=
  if ((cm .lss k.many 0) || (cm .neq (k.bytes.length : Int) (ar .add .i64 (dv .quo .i64 k.many 8) (imin (dv .rem .i64 k.many 8) 1)))) then
  some false
else
  Option.bind (gT (!(cm .eql (ar .sub .i64 (ar .mul .i64 8 (k.bytes.length : Int)) k.many) 0)) (ix k.bytes (ar .sub .i64 (k.bytes.length : Int) 1))) fun x1 =>
    Option.bind (gT (!(cm .eql (ar .sub .i64 (ar .mul .i64 8 (k.bytes.length : Int)) k.many) 0)) (sfO .shl .u8 1 (ar .sub .i64 (ar .mul .i64 8 (k.bytes.length : Int)) k.many))) fun x2 =>
    some ((cm .eql (ar .sub .i64 (ar .mul .i64 8 (k.bytes.length : Int)) k.many) 0) || (cm .eql (ar .and .u8 x1 (ar .sub .u8 x2 1)) 0))

def templ_within_1 (n : Int) (cap0 : Int) (cap1 : Int) : Bool :=
  ((cm .lss n cap0) || (cm .gtr n cap1))

noncomputable def slices_IndexFunc_int_s1 (z : Option Nat) (p_s : List Int) (f : (Int → Option Bool)) (v1 : Int) : Option (((Int) ⊕ (Int))) :=
  if (cm .lss v1 (p_s.length : Int)) then
  Option.bind (ix p_s v1) fun x2 =>
    Option.bind (f x2) fun x3 =>
    if x3 then
    Option.map Sum.inr (some v1)
  else
    some (Sum.inl (ar .add .i64 v1 1))
else
  Option.map Sum.inr (some (-1))

noncomputable def slices_IndexFunc_int_l1 (z : Option Nat) (p_s : List Int) (f : (Int → Option Bool)) (v1 : Int) : Option (Int) :=
  loopG z (fun (s : Int) => slices_IndexFunc_int_s1 z p_s f s) (v1)

noncomputable def slices_IndexFunc_int (z : Option Nat) (p_s : List Int) (f : (Int → Option Bool)) : Option (Int) :=
  slices_IndexFunc_int_l1 z p_s f 0

noncomputable def slices_ContainsFunc_int (z : Option Nat) (p_s : List Int) (f : (Int → Option Bool)) : Option (Bool) :=
  Option.bind (slices_IndexFunc_int z p_s f) fun x1 =>
  some (cm .geq x1 0)

noncomputable def templ_within (z : Option Nat) (l : List Int) (least : Int) (most : Int) : Option (Bool) :=
  Option.bind (slices_ContainsFunc_int z l (fun (y0 : Int) => some (templ_within_1 y0 least most))) fun x1 =>
  some (!x1)

noncomputable def templ_protected (z : Option Nat) (p_s : Structure) : Option (Bool) :=
  if (cm .eql p_s.chains 0) then
  some (cm .eql (p_s.protect.length : Int) 0)
else
  Option.bind (gT (cm .eql (p_s.protect.length : Int) p_s.targets) (templ_within z p_s.protect 0 (ar .sub .i64 p_s.chains 1))) fun x1 =>
    some ((cm .eql (p_s.protect.length : Int) p_s.targets) && x1)

noncomputable def templ_template (z : Option Nat) (p_s : Structure) (t : Template) : Option (Bool) :=
  Option.bind (gT (cm .eql (t.marks.length : Int) p_s.targets) (templ_within z t.marks 0 3)) fun x1 =>
  Option.bind (gT (((cm .eql (t.marks.length : Int) p_s.targets) && x1) && (cm .leq (t.diffs.length : Int) 16)) (templ_within z t.diffs 1 16)) fun x2 =>
  Option.bind (gT (((((cm .eql (t.marks.length : Int) p_s.targets) && x1) && (cm .leq (t.diffs.length : Int) 16)) && x2) && (cm .eql (t.chains.length : Int) p_s.chains)) (templ_within z t.chains 0 15)) fun x3 =>
  some ((((((cm .eql (t.marks.length : Int) p_s.targets) && x1) && (cm .leq (t.diffs.length : Int) 16)) && x2) && (cm .eql (t.chains.length : Int) p_s.chains)) && x3)

def templ_follows (p_a : Template) (b : Template) : Int :=
  if ((cm .eql b.sid p_a.sid) && (cm .eql b.tid p_a.tid)) then
  0
else
  if (((cm .eql b.sid p_a.sid) && (cm .eql (ar .sub .i64 b.tid 1) p_a.tid)) && (cm .leq b.tid 7)) then
    1
  else
    if (((cm .eql (ar .sub .i64 b.sid 1) p_a.sid) && (cm .leq b.sid 3)) && (cm .eql b.tid 0)) then
      2
    else
      3

noncomputable def templ_Right_s2 (z : Option Nat) (v6 : Structure) (v7 : Template) (v10 : Int) : Option (((Int) ⊕ (Bool))) :=
  if (cm .lss v10 (v6.sizes.length : Int)) then
  Option.bind (ix v6.sizes v10) fun x11 =>
    Option.bind (templ_within z [x11.wide, x11.high] 1 65536) fun x12 =>
    if (!x12) then
    Option.map Sum.inr (some false)
  else
    some (Sum.inl (ar .add .i64 v10 1))
else
  Option.map Sum.inr (some ((cm .eql (v6.sizes.length : Int) 0) || (cm .eql (v6.sizes.length : Int) (ar .add .i64 v7.sid 1))))

noncomputable def templ_Right_l2 (z : Option Nat) (v6 : Structure) (v7 : Template) (v10 : Int) : Option (Bool) :=
  loopG z (fun (s : Int) => templ_Right_s2 z v6 v7 s) (v10)

noncomputable def templ_Right_s1 (z : Option Nat) (p_s : Structure) (v5 : Int) (v6 : Structure) (v7 : Template) : Option (((Int × Structure × Template) ⊕ (Bool))) :=
  if (cm .lss v5 (p_s.templates.length : Int)) then
  Option.bind (ix p_s.templates v5) fun x8 =>
    Option.bind (templ_template z v6 x8) fun x9 =>
    if (((!x9) || (cm .eql (templ_follows v7 x8) 3)) || ((cm .eql v5 0) && (cm .neq (templ_follows v7 x8) 0))) then
    Option.map Sum.inr (some false)
  else
    some (Sum.inl ((ar .add .i64 v5 1), v6, x8))
else
  Option.map Sum.inr (templ_Right_l2 z v6 v7 0)

noncomputable def templ_Right_l1 (z : Option Nat) (p_s : Structure) (v5 : Int) (v6 : Structure) (v7 : Template) : Option (Bool) :=
  loopG z (fun (s : Int × Structure × Template) => templ_Right_s1 z p_s s.1 s.2.1 s.2.2) (v5, v6, v7)

noncomputable def templ_Right (z : Option Nat) (p_s : Structure) : Option (Bool) :=
  Option.bind (templ_within z [p_s.id_] 0 63) fun x1 =>
  Option.bind (gT x1 (templ_within z [p_s.targets] 1 32)) fun x2 =>
  Option.bind (gT (x1 && x2) (templ_within z [p_s.chains] 0 p_s.targets)) fun x3 =>
  Option.bind (gT (!(!((x1 && x2) && x3))) (templ_protected z p_s)) fun x4 =>
  if ((((!((x1 && x2) && x3)) || (!x4)) || (cm .lss (p_s.templates.length : Int) 1)) || (cm .gtr (p_s.templates.length : Int) 64)) then
  some false
else
  templ_Right_l1 z p_s 0 p_s (Template.mk 0 0 [] [] [])

def math_bits_Len64_j3 (v5 : Int) (v6 : Int) : Option (Int) :=
  Option.bind (ix ([0, 1, 2, 2, 3, 3, 3, 3, 4, 4, 4, 4, 4, 4, 4, 4, 5, 5, 5, 5, 5, 5, 5, 5, 5, 5, 5, 5, 5, 5, 5, 5, 6, 6, 6, 6, 6, 6, 6, 6, 6, 6, 6, 6, 6, 6, 6, 6, 6, 6, 6, 6, 6, 6, 6, 6, 6, 6, 6, 6, 6, 6, 6, 6, 7, 7, 7, 7, 7, 7, 7, 7, 7, 7, 7, 7, 7, 7, 7, 7, 7, 7, 7, 7, 7, 7, 7, 7, 7, 7, 7, 7, 7, 7, 7, 7, 7, 7, 7, 7, 7, 7, 7, 7, 7, 7, 7, 7, 7, 7, 7, 7, 7, 7, 7, 7, 7, 7, 7, 7, 7, 7, 7, 7, 7, 7, 7, 7, 8, 8, 8, 8, 8, 8, 8, 8, 8, 8, 8, 8, 8, 8, 8, 8, 8, 8, 8, 8, 8, 8, 8, 8, 8, 8, 8, 8, 8, 8, 8, 8, 8, 8, 8, 8, 8, 8, 8, 8, 8, 8, 8, 8, 8, 8, 8, 8, 8, 8, 8, 8, 8, 8, 8, 8, 8, 8, 8, 8, 8, 8, 8, 8, 8, 8, 8, 8, 8, 8, 8, 8, 8, 8, 8, 8, 8, 8, 8, 8, 8, 8, 8, 8, 8, 8, 8, 8, 8, 8, 8, 8, 8, 8, 8, 8, 8, 8, 8, 8, 8, 8, 8, 8, 8, 8, 8, 8, 8, 8, 8, 8, 8, 8, 8, 8, 8, 8, 8, 8, 8, 8, 8, 8, 8, 8, 8, 8] : List UInt8) (IntKind.u8.wrap v5)) fun x7 =>
  some (ar .add .i64 v6 (IntKind.i64.wrap (x7.toNat : Int)))

def math_bits_Len64_j2 (v3 : Int) (v4 : Int) : Option (Int) :=
  if (cm .geq v3 256) then
  math_bits_Len64_j3 (sf .shr .u64 v3 8) (ar .add .i64 v4 8)
else
  math_bits_Len64_j3 v3 v4

def math_bits_Len64_j1 (v1 : Int) (v2 : Int) : Option (Int) :=
  if (cm .geq v1 65536) then
  math_bits_Len64_j2 (sf .shr .u64 v1 16) (ar .add .i64 v2 16)
else
  math_bits_Len64_j2 v1 v2

def math_bits_Len64 (x : Int) : Option (Int) :=
  if (cm .geq x 4294967296) then
  math_bits_Len64_j1 (sf .shr .u64 x 32) 32
else
  math_bits_Len64_j1 x 0

def slices_Clone (l : List Int) : Option (List Int) := app [] l

noncomputable def bits_Add_j3 (z : Option Nat) (v : Int) (v5 : Int) (v7 : Ink) (v8 : List Int) (v9 : Int) : Option (((Int × List Int × Ink) ⊕ (Ink × Int))) :=
  Option.bind (ix v8 (ar .sub .i64 (v8.length : Int) 1)) fun x10 =>
  Option.bind (sfO .shr .u64 v (ar .sub .i64 v5 (imin v9 v5))) fun x11 =>
  Option.bind (sfO .shl .u64 1 (imin v9 v5)) fun x12 =>
  Option.bind (sfO .shl .u8 (IntKind.u8.wrap (ar .and .u64 x11 (ar .sub .u64 x12 1))) (ar .sub .i64 v9 (imin v9 v5))) fun x13 =>
  Option.bind (ix v8 (ar .sub .i64 (v8.length : Int) 1)) fun x14 =>
  some (Sum.inl ((ar .sub .i64 v5 (imin v9 v5)), (List.set v8 ((ar .sub .i64 (v8.length : Int) 1) : Int).toNat (ar .or .u8 x10 x13)), { v7 with many := (ar .add .i64 v7.many (imin v9 v5)) }))

noncomputable def bits_Add_s2 (z : Option Nat) (v : Int) (v5 : Int) (v6 : List Int) (v7 : Ink) : Option (((Int × List Int × Ink) ⊕ (Ink × Int))) :=
  if (cm .gtr v5 0) then
  if (cm .eql (ar .sub .i64 (ar .mul .i64 8 (v6.length : Int)) v7.many) 0) then
    Option.bind (app v6 [0]) fun x15 =>
      bits_Add_j3 z v v5 v7 x15 8
  else
    bits_Add_j3 z v v5 v7 v6 (ar .sub .i64 (ar .mul .i64 8 (v6.length : Int)) v7.many)
else
  Option.map Sum.inr (some ({ v7 with bytes := v6 }, 0))

noncomputable def bits_Add_l2 (z : Option Nat) (v : Int) (v5 : Int) (v6 : List Int) (v7 : Ink) : Option (Ink × Int) :=
  loopG z (fun (s : Int × List Int × Ink) => bits_Add_s2 z v s.1 s.2.1 s.2.2) (v5, v6, v7)

noncomputable def bits_Add_j1 (z : Option Nat) (k : Ink) (v : Int) (n : Int) (v2 : Bool) : Option (Ink × Int) :=
  if v2 then
  some (k, 1)
else
  Option.bind (math_bits_Len64 v) fun x3 =>
    if (cm .gtr x3 n) then
    some (k, 6)
  else
    Option.bind (slices_Clone k.bytes) fun x4 =>
      bits_Add_l2 z v n x4 k

noncomputable def bits_Add (z : Option Nat) (k : Ink) (v : Int) (n : Int) : Option (Ink × Int) :=
  Option.bind (bits_Right k) fun x1 =>
  if (!x1) then
  bits_Add_j1 z k v n (!x1)
else
  if (cm .lss n 0) then
    bits_Add_j1 z k v n (cm .lss n 0)
  else
    bits_Add_j1 z k v n (cm .gtr n 64)

def bits_spread (n : Int) : Option (Int × Int) :=
  Option.bind (math_bits_Len64 n) fun x1 =>
  Option.bind (sfO .shl .u64 1 x1) fun x2 =>
  some (x1, (ar .sub .u64 x2 n))

noncomputable def bits_AddRange_j1 (z : Option Nat) (k : Ink) (v : Int) (n : Int) (v2 : Bool) : Option (Ink × Int) :=
  if v2 then
  some (k, 1)
else
  if (cm .geq v n) then
    some (k, 6)
  else
    Option.bind (bits_spread n) fun x3 =>
      if (cm .lss v x3.2) then
      Option.bind (bits_Add z k v (ar .sub .i64 x3.1 1)) fun x4 =>
        some (x4.1, x4.2)
    else
      Option.bind (bits_Add z k (ar .add .u64 v x3.2) x3.1) fun x5 =>
        some (x5.1, x5.2)

noncomputable def bits_AddRange (z : Option Nat) (k : Ink) (v : Int) (n : Int) : Option (Ink × Int) :=
  Option.bind (bits_Right k) fun x1 =>
  if (!x1) then
  bits_AddRange_j1 z k v n (!x1)
else
  if (cm .lss n 1) then
    bits_AddRange_j1 z k v n (cm .lss n 1)
  else
    bits_AddRange_j1 z k v n (cm .gtr n 4294967296)

noncomputable def templ_pen_num_y1 (z : Option Nat) (n : Int) (width : Int) (box0 : templ_pen) : Option (templ_pen) :=
  Option.bind (bits_Add z box0.k (IntKind.u64.wrap n) width) fun x1 =>
  some (templ_pen.mk x1.1)

noncomputable def templ_pen_layers_y1_j2 (z : Option Nat) (v1 : Int) (v2 : templ_pen) (v4 : Int) : Option (((Int × templ_pen) ⊕ (templ_pen))) :=
  Option.bind (templ_pen_num_y1 z v4 2 v2) fun x5 =>
  some (Sum.inl ((ar .add .i64 v1 1), x5))

noncomputable def templ_pen_layers_y1_s1 (z : Option Nat) (l : List Template) (v1 : Int) (v2 : templ_pen) : Option (((Int × templ_pen) ⊕ (templ_pen))) :=
  if (cm .lss v1 (l.length : Int)) then
  Option.bind (ix l v1) fun x3 =>
    if (cm .lss (ar .add .i64 v1 1) (l.length : Int)) then
    Option.bind (ix l (ar .add .i64 v1 1)) fun x6 =>
      templ_pen_layers_y1_j2 z v1 v2 (templ_follows x3 x6)
  else
    templ_pen_layers_y1_j2 z v1 v2 3
else
  Option.map Sum.inr (some v2)

noncomputable def templ_pen_layers_y1_l1 (z : Option Nat) (l : List Template) (v1 : Int) (v2 : templ_pen) : Option (templ_pen) :=
  loopG z (fun (s : Int × templ_pen) => templ_pen_layers_y1_s1 z l s.1 s.2) (v1, v2)

noncomputable def templ_pen_layers_y1 (z : Option Nat) (l : List Template) (box0 : templ_pen) : Option (templ_pen) :=
  templ_pen_layers_y1_l1 z l 0 box0

noncomputable def templ_pen_lists_y1_s2 (z : Option Nat) (v1 : Int) (x3 : Template) (v4 : Int) (v5 : templ_pen) : Option (((Int × templ_pen) ⊕ (((Int × templ_pen) ⊕ (templ_pen))))) :=
  if (cm .lss v4 (x3.marks.length : Int)) then
  Option.bind (ix x3.marks v4) fun x6 =>
    Option.bind (templ_pen_num_y1 z x6 2 v5) fun x7 =>
    some (Sum.inl ((ar .add .i64 v4 1), x7))
else
  Option.map Sum.inr (some (Sum.inl ((ar .add .i64 v1 1), v5)))

noncomputable def templ_pen_lists_y1_l2 (z : Option Nat) (v1 : Int) (x3 : Template) (v4 : Int) (v5 : templ_pen) : Option (((Int × templ_pen) ⊕ (templ_pen))) :=
  loopG z (fun (s : Int × templ_pen) => templ_pen_lists_y1_s2 z v1 x3 s.1 s.2) (v4, v5)

noncomputable def templ_pen_lists_y1_s4 (z : Option Nat) (v8 : Int) (x10 : Template) (v11 : Int) (v12 : templ_pen) : Option (((Int × templ_pen) ⊕ (((Int × templ_pen) ⊕ (templ_pen))))) :=
  if (cm .lss v11 (x10.diffs.length : Int)) then
  Option.bind (ix x10.diffs v11) fun x13 =>
    Option.bind (templ_pen_num_y1 z 1 1 v12) fun x14 =>
    Option.bind (templ_pen_num_y1 z (ar .sub .i64 x13 1) 4 x14) fun x15 =>
    some (Sum.inl ((ar .add .i64 v11 1), x15))
else
  Option.map Sum.inr (Option.bind (templ_pen_num_y1 z 0 1 v12) fun x16 =>
    some (Sum.inl ((ar .add .i64 v8 1), x16)))

noncomputable def templ_pen_lists_y1_l4 (z : Option Nat) (v8 : Int) (x10 : Template) (v11 : Int) (v12 : templ_pen) : Option (((Int × templ_pen) ⊕ (templ_pen))) :=
  loopG z (fun (s : Int × templ_pen) => templ_pen_lists_y1_s4 z v8 x10 s.1 s.2) (v11, v12)

noncomputable def templ_pen_lists_y1_s3 (z : Option Nat) (l : List Template) (v8 : Int) (v9 : templ_pen) : Option (((Int × templ_pen) ⊕ (templ_pen))) :=
  if (cm .lss v8 (l.length : Int)) then
  Option.bind (ix l v8) fun x10 =>
    templ_pen_lists_y1_l4 z v8 x10 0 v9
else
  Option.map Sum.inr (some v9)

noncomputable def templ_pen_lists_y1_l3 (z : Option Nat) (l : List Template) (v8 : Int) (v9 : templ_pen) : Option (templ_pen) :=
  loopG z (fun (s : Int × templ_pen) => templ_pen_lists_y1_s3 z l s.1 s.2) (v8, v9)

noncomputable def templ_pen_lists_y1_s1 (z : Option Nat) (l : List Template) (v1 : Int) (v2 : templ_pen) : Option (((Int × templ_pen) ⊕ (templ_pen))) :=
  if (cm .lss v1 (l.length : Int)) then
  Option.bind (ix l v1) fun x3 =>
    templ_pen_lists_y1_l2 z v1 x3 0 v2
else
  Option.map Sum.inr (templ_pen_lists_y1_l3 z l 0 v2)

noncomputable def templ_pen_lists_y1_l1 (z : Option Nat) (l : List Template) (v1 : Int) (v2 : templ_pen) : Option (templ_pen) :=
  loopG z (fun (s : Int × templ_pen) => templ_pen_lists_y1_s1 z l s.1 s.2) (v1, v2)

noncomputable def templ_pen_lists_y1 (z : Option Nat) (l : List Template) (box0 : templ_pen) : Option (templ_pen) :=
  templ_pen_lists_y1_l1 z l 0 box0

noncomputable def templ_pen_ranged_y1 (z : Option Nat) (n : Int) (many : Int) (box0 : templ_pen) : Option (templ_pen) :=
  Option.bind (bits_AddRange z box0.k (IntKind.u64.wrap n) (IntKind.u64.wrap many)) fun x1 =>
  some (templ_pen.mk x1.1)

noncomputable def templ_pen_chains_y1_s3 (z : Option Nat) (v7 : Int) (x9 : Template) (v10 : Int) (v11 : templ_pen) : Option (((Int × templ_pen) ⊕ (((Int × templ_pen) ⊕ (templ_pen))))) :=
  if (cm .lss v10 (x9.chains.length : Int)) then
  Option.bind (ix x9.chains v10) fun x12 =>
    Option.bind (templ_pen_num_y1 z x12 4 v11) fun x13 =>
    some (Sum.inl ((ar .add .i64 v10 1), x13))
else
  Option.map Sum.inr (some (Sum.inl ((ar .add .i64 v7 1), v11)))

noncomputable def templ_pen_chains_y1_l3 (z : Option Nat) (v7 : Int) (x9 : Template) (v10 : Int) (v11 : templ_pen) : Option (((Int × templ_pen) ⊕ (templ_pen))) :=
  loopG z (fun (s : Int × templ_pen) => templ_pen_chains_y1_s3 z v7 x9 s.1 s.2) (v10, v11)

noncomputable def templ_pen_chains_y1_s2 (z : Option Nat) (v3 : Structure) (v7 : Int) (v8 : templ_pen) : Option (((Int × templ_pen) ⊕ (templ_pen))) :=
  if (cm .lss v7 (v3.templates.length : Int)) then
  Option.bind (ix v3.templates v7) fun x9 =>
    templ_pen_chains_y1_l3 z v7 x9 0 v8
else
  Option.map Sum.inr (some v8)

noncomputable def templ_pen_chains_y1_l2 (z : Option Nat) (v3 : Structure) (v7 : Int) (v8 : templ_pen) : Option (templ_pen) :=
  loopG z (fun (s : Int × templ_pen) => templ_pen_chains_y1_s2 z v3 s.1 s.2) (v7, v8)

noncomputable def templ_pen_chains_y1_s1 (z : Option Nat) (p_s : Structure) (v2 : Int) (v3 : Structure) (v4 : templ_pen) : Option (((Int × Structure × templ_pen) ⊕ (templ_pen))) :=
  if (cm .lss v2 (p_s.protect.length : Int)) then
  Option.bind (ix p_s.protect v2) fun x5 =>
    Option.bind (templ_pen_ranged_y1 z x5 v3.chains v4) fun x6 =>
    some (Sum.inl ((ar .add .i64 v2 1), v3, x6))
else
  Option.map Sum.inr (templ_pen_chains_y1_l2 z v3 0 v4)

noncomputable def templ_pen_chains_y1_l1 (z : Option Nat) (p_s : Structure) (v2 : Int) (v3 : Structure) (v4 : templ_pen) : Option (templ_pen) :=
  loopG z (fun (s : Int × Structure × templ_pen) => templ_pen_chains_y1_s1 z p_s s.1 s.2.1 s.2.2) (v2, v3, v4)

noncomputable def templ_pen_chains_y1 (z : Option Nat) (p_s : Structure) (box0 : templ_pen) : Option (templ_pen) :=
  Option.bind (templ_pen_ranged_y1 z p_s.chains (ar .add .i64 p_s.targets 1) box0) fun x1 =>
  templ_pen_chains_y1_l1 z p_s 0 p_s x1

noncomputable def templ_Put_s1 (z : Option Nat) (k : Ink) (p_s : Structure) (v9 : Int) (v10 : templ_pen) : Option (((Int × templ_pen) ⊕ (Ink × Int))) :=
  if (cm .lss v9 (p_s.sizes.length : Int)) then
  Option.bind (ix p_s.sizes v9) fun x11 =>
    Option.bind (templ_pen_num_y1 z (ar .sub .i64 x11.wide 1) 16 v10) fun x12 =>
    Option.bind (templ_pen_num_y1 z (ar .sub .i64 x11.high 1) 16 x12) fun x13 =>
    some (Sum.inl ((ar .add .i64 v9 1), x13))
else
  Option.map Sum.inr (some (v10.k, 0))

noncomputable def templ_Put_l1 (z : Option Nat) (k : Ink) (p_s : Structure) (v9 : Int) (v10 : templ_pen) : Option (Ink × Int) :=
  loopG z (fun (s : Int × templ_pen) => templ_Put_s1 z k p_s s.1 s.2) (v9, v10)

noncomputable def templ_Put (z : Option Nat) (k : Ink) (p_s : Structure) : Option (Ink × Int) :=
  Option.bind (bits_Right k) fun x1 =>
  Option.bind (gT (!(!x1)) (templ_Right z p_s)) fun x2 =>
  if ((!x1) || (!x2)) then
  some (k, 1)
else
  Option.bind (templ_pen_num_y1 z p_s.id_ 6 (templ_pen.mk k)) fun x3 =>
    Option.bind (templ_pen_num_y1 z (ar .sub .i64 p_s.targets 1) 5 x3) fun x4 =>
    Option.bind (templ_pen_layers_y1 z p_s.templates x4) fun x5 =>
    Option.bind (templ_pen_lists_y1 z p_s.templates x5) fun x6 =>
    Option.bind (templ_pen_chains_y1 z p_s x6) fun x7 =>
    Option.bind (templ_pen_num_y1 z (imin (p_s.sizes.length : Int) 1) 1 x7) fun x8 =>
    templ_Put_l1 z k p_s 0 x8

def bits_Start (b : List Int) : GBits :=
  (GBits.mk b 0 0)

def bits_right (c : GBits) : Bool :=
  (((cm .eql c.err 0) && (cm .geq c.at_ 0)) && (cm .leq c.at_ (ar .mul .i64 8 (c.bytes.length : Int))))

def bits_fail_j1 (v1 : GBits) : GBits × Int :=
  (v1, 0)

def bits_fail (c : GBits) (p_e : Int) : GBits × Int :=
  if (cm .eql c.err 0) then
  bits_fail_j1 ({ c with err := p_e })
else
  bits_fail_j1 c

def bits_Left (c : GBits) : Int :=
  if (!(bits_right c)) then
  0
else
  (ar .sub .i64 (ar .mul .i64 8 (c.bytes.length : Int)) c.at_)

noncomputable def bits_Get_s2 (z : Option Nat) (v2 : Int) (v3 : Int) (v4 : GBits) : Option (((Int × Int × GBits) ⊕ (GBits × Int))) :=
  if (cm .gtr v2 0) then
  Option.bind (ix v4.bytes (dv .quo .i64 v4.at_ 8)) fun x5 =>
    Option.bind (sfO .shr .u8 x5 (ar .sub .i64 (ar .sub .i64 8 (dv .rem .i64 v4.at_ 8)) (imin (ar .sub .i64 8 (dv .rem .i64 v4.at_ 8)) v2))) fun x6 =>
    Option.bind (sfO .shl .u8 1 (imin (ar .sub .i64 8 (dv .rem .i64 v4.at_ 8)) v2)) fun x7 =>
    Option.bind (sfO .shl .u64 v3 (imin (ar .sub .i64 8 (dv .rem .i64 v4.at_ 8)) v2)) fun x8 =>
    some (Sum.inl ((ar .sub .i64 v2 (imin (ar .sub .i64 8 (dv .rem .i64 v4.at_ 8)) v2)), (ar .or .u64 x8 (IntKind.u64.wrap (ar .and .u8 x6 (ar .sub .u8 x7 1)))), { v4 with at_ := (ar .add .i64 v4.at_ (imin (ar .sub .i64 8 (dv .rem .i64 v4.at_ 8)) v2)) }))
else
  Option.map Sum.inr (some (v4, v3))

noncomputable def bits_Get_l2 (z : Option Nat) (v2 : Int) (v3 : Int) (v4 : GBits) : Option (GBits × Int) :=
  loopG z (fun (s : Int × Int × GBits) => bits_Get_s2 z s.1 s.2.1 s.2.2) (v2, v3, v4)

noncomputable def bits_Get_j1 (z : Option Nat) (c : GBits) (n : Int) (v1 : Bool) : Option (GBits × Int) :=
  if v1 then
  some ((bits_fail c 1).1, (bits_fail c 1).2)
else
  if (cm .gtr n (bits_Left c)) then
    some ((bits_fail c 2).1, (bits_fail c 2).2)
  else
    bits_Get_l2 z n 0 c

noncomputable def bits_Get (z : Option Nat) (c : GBits) (n : Int) : Option (GBits × Int) :=
  if (!(bits_right c)) then
  bits_Get_j1 z c n (!(bits_right c))
else
  if (cm .lss n 0) then
    bits_Get_j1 z c n (cm .lss n 0)
  else
    bits_Get_j1 z c n (cm .gtr n 64)

noncomputable def bits_Range_j1 (z : Option Nat) (c : GBits) (v3 : Int) (v4 : GBits) : Option (GBits × Int) :=
  if (cm .neq v4.err 0) then
  some ((bits_fail c v4.err).1, (bits_fail c v4.err).2)
else
  some (v4, v3)

noncomputable def bits_Range (z : Option Nat) (c : GBits) (n : Int) : Option (GBits × Int) :=
  if (((!(bits_right c)) || (cm .lss n 1)) || (cm .gtr n 4294967296)) then
  some ((bits_fail c 1).1, (bits_fail c 1).2)
else
  Option.bind (bits_spread n) fun x1 =>
    Option.bind (bits_Get z c (ar .sub .i64 x1.1 1)) fun x2 =>
    if ((cm .eql x2.1.err 0) && (cm .geq x2.2 x1.2)) then
    Option.bind (bits_Get z x2.1 1) fun x5 =>
      bits_Range_j1 z c (ar .sub .u64 (ar .add .u64 (sf .shl .u64 x2.2 1) x5.2) x1.2) x5.1
  else
    bits_Range_j1 z c x2.2 x2.1

noncomputable def templ_eye_num_y1 (z : Option Nat) (width : Int) (box0 : templ_eye) : Option (Int × templ_eye) :=
  Option.bind (bits_Get z box0.c width) fun x1 =>
  some ((IntKind.i64.wrap x1.2), (templ_eye.mk x1.1))

def templ_eye_fine_p (y : templ_eye) : Bool :=
  (cm .eql y.c.err 0)

noncomputable def templ_eye_need_y1 (z : Option Nat) (ok : Bool) (box0 : templ_eye) : Option (templ_eye) :=
  if ((templ_eye_fine_p box0) && (!ok)) then
  some (templ_eye.mk ({ box0.c with err := 6 }))
else
  some box0

noncomputable def templ_eye_layers_y1_j2 (z : Option Nat) (v1 : List Template) (x4 : Int × templ_eye) (v5 : Template) : Option (((List Template × templ_eye) ⊕ (List Template × templ_eye))) :=
  Option.bind (templ_eye_need_y1 z (((cm .leq v5.tid 7) && (cm .leq v5.sid 3)) && (cm .lss (v1.length : Int) 64)) x4.2) fun x6 =>
  Option.bind (app v1 [v5]) fun x7 =>
  some (Sum.inl (x7, x6))

noncomputable def templ_eye_layers_y1_s1 (z : Option Nat) (v1 : List Template) (v2 : templ_eye) : Option (((List Template × templ_eye) ⊕ (List Template × templ_eye))) :=
  if (templ_eye_fine_p v2) then
  Option.bind (ix v1 (ar .sub .i64 (v1.length : Int) 1)) fun x3 =>
    Option.bind (templ_eye_num_y1 z 2 v2) fun x4 =>
    if (cm .eql x4.1 1) then
    templ_eye_layers_y1_j2 z v1 x4 ({ x3 with tid := (ar .add .i64 x3.tid 1) })
  else
    if (cm .eql x4.1 2) then
      templ_eye_layers_y1_j2 z v1 x4 ({ x3 with sid := (ar .add .i64 x3.sid 1), tid := 0 })
    else
      if (cm .eql x4.1 3) then
        Option.map Sum.inr (some (v1, x4.2))
      else
        templ_eye_layers_y1_j2 z v1 x4 x3
else
  Option.map Sum.inr (some (v1, v2))

noncomputable def templ_eye_layers_y1_l1 (z : Option Nat) (v1 : List Template) (v2 : templ_eye) : Option (List Template × templ_eye) :=
  loopG z (fun (s : List Template × templ_eye) => templ_eye_layers_y1_s1 z s.1 s.2) (v1, v2)

noncomputable def templ_eye_layers_y1 (z : Option Nat) (box0 : templ_eye) : Option (List Template × templ_eye) :=
  templ_eye_layers_y1_l1 z ([(Template.mk 0 0 [] [] [])]) box0

noncomputable def templ_eye_read_1_y1 (z : Option Nat) (box0 : templ_eye) : Option (Int × templ_eye) :=
  Option.bind (templ_eye_num_y1 z 2 box0) fun x1 =>
  some (x1.1, x1.2)

noncomputable def templ_eye_some_y1_s1 (z : Option Nat) (many : Int) (v1 : List Int) (v2 : Int) (v3 : templ_eye) : Option (((List Int × Int × templ_eye) ⊕ (List Int × templ_eye))) :=
  if ((cm .lss v2 many) && (templ_eye_fine_p v3)) then
  Option.bind (templ_eye_read_1_y1 z v3) fun x4 =>
    Option.bind (app v1 [x4.1]) fun x5 =>
    some (Sum.inl (x5, (ar .add .i64 v2 1), x4.2))
else
  Option.map Sum.inr (some (v1, v3))

noncomputable def templ_eye_some_y1_l1 (z : Option Nat) (many : Int) (v1 : List Int) (v2 : Int) (v3 : templ_eye) : Option (List Int × templ_eye) :=
  loopG z (fun (s : List Int × Int × templ_eye) => templ_eye_some_y1_s1 z many s.1 s.2.1 s.2.2) (v1, v2, v3)

noncomputable def templ_eye_some_y1 (z : Option Nat) (many : Int) (box0 : templ_eye) : Option (List Int × templ_eye) :=
  templ_eye_some_y1_l1 z many [] 0 box0

noncomputable def templ_eye_some_y2_s1 (z : Option Nat) (many : Int) (v1 : List Int) (v2 : Int) (v3 : templ_eye) : Option (((List Int × Int × templ_eye) ⊕ (List Int × templ_eye))) :=
  if ((cm .lss v2 many) && (templ_eye_fine_p v3)) then
  Option.bind (templ_eye_read_1_y1 z v3) fun x4 =>
    Option.bind (app v1 [x4.1]) fun x5 =>
    some (Sum.inl (x5, (ar .add .i64 v2 1), x4.2))
else
  Option.map Sum.inr (some (v1, v3))

noncomputable def templ_eye_some_y2_l1 (z : Option Nat) (many : Int) (v1 : List Int) (v2 : Int) (v3 : templ_eye) : Option (List Int × templ_eye) :=
  loopG z (fun (s : List Int × Int × templ_eye) => templ_eye_some_y2_s1 z many s.1 s.2.1 s.2.2) (v1, v2, v3)

noncomputable def templ_eye_some_y2 (z : Option Nat) (many : Int) (box0 : templ_eye) : Option (List Int × templ_eye) :=
  templ_eye_some_y2_l1 z many [] 0 box0

noncomputable def templ_eye_diffs_y1_s1 (z : Option Nat) (v1 : List Int) (v2 : templ_eye) : Option (((List Int × templ_eye) ⊕ (List Int × templ_eye))) :=
  Option.bind (templ_eye_num_y1 z 1 v2) fun x3 =>
  if ((cm .eql x3.1 1) && (templ_eye_fine_p x3.2)) then
  Option.bind (templ_eye_need_y1 z (cm .lss (v1.length : Int) 16) x3.2) fun x4 =>
    Option.bind (templ_eye_num_y1 z 4 x4) fun x5 =>
    Option.bind (app v1 [(ar .add .i64 x5.1 1)]) fun x6 =>
    some (Sum.inl (x6, x5.2))
else
  Option.map Sum.inr (some (v1, x3.2))

noncomputable def templ_eye_diffs_y1_l1 (z : Option Nat) (v1 : List Int) (v2 : templ_eye) : Option (List Int × templ_eye) :=
  loopG z (fun (s : List Int × templ_eye) => templ_eye_diffs_y1_s1 z s.1 s.2) (v1, v2)

noncomputable def templ_eye_diffs_y1 (z : Option Nat) (box0 : templ_eye) : Option (List Int × templ_eye) :=
  templ_eye_diffs_y1_l1 z [] box0

noncomputable def templ_eye_diffs_y2_s1 (z : Option Nat) (v1 : List Int) (v2 : templ_eye) : Option (((List Int × templ_eye) ⊕ (List Int × templ_eye))) :=
  Option.bind (templ_eye_num_y1 z 1 v2) fun x3 =>
  if ((cm .eql x3.1 1) && (templ_eye_fine_p x3.2)) then
  Option.bind (templ_eye_need_y1 z (cm .lss (v1.length : Int) 16) x3.2) fun x4 =>
    Option.bind (templ_eye_num_y1 z 4 x4) fun x5 =>
    Option.bind (app v1 [(ar .add .i64 x5.1 1)]) fun x6 =>
    some (Sum.inl (x6, x5.2))
else
  Option.map Sum.inr (some (v1, x3.2))

noncomputable def templ_eye_diffs_y2_l1 (z : Option Nat) (v1 : List Int) (v2 : templ_eye) : Option (List Int × templ_eye) :=
  loopG z (fun (s : List Int × templ_eye) => templ_eye_diffs_y2_s1 z s.1 s.2) (v1, v2)

noncomputable def templ_eye_diffs_y2 (z : Option Nat) (box0 : templ_eye) : Option (List Int × templ_eye) :=
  templ_eye_diffs_y2_l1 z [] box0

noncomputable def templ_eye_ranged_y1 (z : Option Nat) (many : Int) (box0 : templ_eye) : Option (Int × templ_eye) :=
  Option.bind (bits_Range z box0.c (IntKind.u64.wrap many)) fun x1 =>
  some ((IntKind.i64.wrap x1.2), (templ_eye.mk x1.1))

noncomputable def templ_eye_read_3_y1 (z : Option Nat) (box0 : templ_eye) : Option (Int × templ_eye) :=
  Option.bind (templ_eye_num_y1 z 4 box0) fun x1 =>
  some (x1.1, x1.2)

noncomputable def templ_eye_some_y3_s1 (z : Option Nat) (many : Int) (v1 : List Int) (v2 : Int) (v3 : templ_eye) : Option (((List Int × Int × templ_eye) ⊕ (List Int × templ_eye))) :=
  if ((cm .lss v2 many) && (templ_eye_fine_p v3)) then
  Option.bind (templ_eye_read_3_y1 z v3) fun x4 =>
    Option.bind (app v1 [x4.1]) fun x5 =>
    some (Sum.inl (x5, (ar .add .i64 v2 1), x4.2))
else
  Option.map Sum.inr (some (v1, v3))

noncomputable def templ_eye_some_y3_l1 (z : Option Nat) (many : Int) (v1 : List Int) (v2 : Int) (v3 : templ_eye) : Option (List Int × templ_eye) :=
  loopG z (fun (s : List Int × Int × templ_eye) => templ_eye_some_y3_s1 z many s.1 s.2.1 s.2.2) (v1, v2, v3)

noncomputable def templ_eye_some_y3 (z : Option Nat) (many : Int) (box0 : templ_eye) : Option (List Int × templ_eye) :=
  templ_eye_some_y3_l1 z many [] 0 box0

noncomputable def templ_eye_some_y4_s1 (z : Option Nat) (many : Int) (v1 : List Int) (v2 : Int) (v3 : templ_eye) : Option (((List Int × Int × templ_eye) ⊕ (List Int × templ_eye))) :=
  if ((cm .lss v2 many) && (templ_eye_fine_p v3)) then
  Option.bind (templ_eye_read_3_y1 z v3) fun x4 =>
    Option.bind (app v1 [x4.1]) fun x5 =>
    some (Sum.inl (x5, (ar .add .i64 v2 1), x4.2))
else
  Option.map Sum.inr (some (v1, v3))

noncomputable def templ_eye_some_y4_l1 (z : Option Nat) (many : Int) (v1 : List Int) (v2 : Int) (v3 : templ_eye) : Option (List Int × templ_eye) :=
  loopG z (fun (s : List Int × Int × templ_eye) => templ_eye_some_y4_s1 z many s.1 s.2.1 s.2.2) (v1, v2, v3)

noncomputable def templ_eye_some_y4 (z : Option Nat) (many : Int) (box0 : templ_eye) : Option (List Int × templ_eye) :=
  templ_eye_some_y4_l1 z many [] 0 box0

noncomputable def templ_eye_read_2_y1 (z : Option Nat) (box0 : templ_eye) (box1 : Structure) : Option (Int × templ_eye) :=
  Option.bind (templ_eye_ranged_y1 z box1.chains box0) fun x1 =>
  some (x1.1, x1.2)

noncomputable def templ_eye_some_y5_s1 (z : Option Nat) (many : Int) (box1 : Structure) (v1 : List Int) (v2 : Int) (v3 : templ_eye) : Option (((List Int × Int × templ_eye) ⊕ (List Int × templ_eye))) :=
  if ((cm .lss v2 many) && (templ_eye_fine_p v3)) then
  Option.bind (templ_eye_read_2_y1 z v3 box1) fun x4 =>
    Option.bind (app v1 [x4.1]) fun x5 =>
    some (Sum.inl (x5, (ar .add .i64 v2 1), x4.2))
else
  Option.map Sum.inr (some (v1, v3))

noncomputable def templ_eye_some_y5_l1 (z : Option Nat) (many : Int) (box1 : Structure) (v1 : List Int) (v2 : Int) (v3 : templ_eye) : Option (List Int × templ_eye) :=
  loopG z (fun (s : List Int × Int × templ_eye) => templ_eye_some_y5_s1 z many box1 s.1 s.2.1 s.2.2) (v1, v2, v3)

noncomputable def templ_eye_some_y5 (z : Option Nat) (many : Int) (box0 : templ_eye) (box1 : Structure) : Option (List Int × templ_eye) :=
  templ_eye_some_y5_l1 z many box1 [] 0 box0

noncomputable def templ_eye_read_y1_s5 (z : Option Nat) (x23 : Template) (v24 : Int) (v25 : Structure) (v26 : templ_eye) : Option (((Int × Structure × templ_eye) ⊕ (Structure × templ_eye))) :=
  if (cm .lss v24 (ar .add .i64 x23.sid 1)) then
  Option.bind (templ_eye_num_y1 z 16 v26) fun x27 =>
    Option.bind (templ_eye_num_y1 z 16 x27.2) fun x28 =>
    Option.bind (app v25.sizes [(Size.mk (ar .add .i64 x27.1 1) (ar .add .i64 x28.1 1))]) fun x29 =>
    some (Sum.inl ((ar .add .i64 v24 1), { v25 with sizes := x29 }, x28.2))
else
  Option.map Sum.inr (some (v25, v26))

noncomputable def templ_eye_read_y1_l5 (z : Option Nat) (x23 : Template) (v24 : Int) (v25 : Structure) (v26 : templ_eye) : Option (Structure × templ_eye) :=
  loopG z (fun (s : Int × Structure × templ_eye) => templ_eye_read_y1_s5 z x23 s.1 s.2.1 s.2.2) (v24, v25, v26)

noncomputable def templ_eye_read_y1_s4 (z : Option Nat) (v15 : Structure) (v17 : Int) (v18 : Structure) (v19 : templ_eye) : Option (((Int × Structure × templ_eye) ⊕ (Structure × templ_eye))) :=
  if (cm .lss v17 (v15.templates.length : Int)) then
  Option.bind (templ_eye_some_y4 z v18.chains v19) fun x20 =>
    Option.bind (ix v18.templates v17) fun x21 =>
    some (Sum.inl ((ar .add .i64 v17 1), { v18 with templates := (List.set v18.templates (v17 : Int).toNat ({ x21 with chains := x20.1 })) }, x20.2))
else
  Option.map Sum.inr (Option.bind (templ_eye_num_y1 z 1 v19) fun x22 =>
    if (cm .eql x22.1 0) then
    some (v18, x22.2)
  else
    Option.bind (ix v18.templates (ar .sub .i64 (v18.templates.length : Int) 1)) fun x23 =>
      templ_eye_read_y1_l5 z x23 0 v18 x22.2)

noncomputable def templ_eye_read_y1_l4 (z : Option Nat) (v15 : Structure) (v17 : Int) (v18 : Structure) (v19 : templ_eye) : Option (Structure × templ_eye) :=
  loopG z (fun (s : Int × Structure × templ_eye) => templ_eye_read_y1_s4 z v15 s.1 s.2.1 s.2.2) (v17, v18, v19)

noncomputable def templ_eye_read_y1_j3 (z : Option Nat) (v15 : Structure) (v16 : templ_eye) : Option (Structure × templ_eye) :=
  templ_eye_read_y1_l4 z v15 0 v15 v16

noncomputable def templ_eye_read_y1_s2 (z : Option Nat) (v5 : Structure) (v9 : Int) (v10 : Structure) (v11 : templ_eye) : Option (((Int × Structure × templ_eye) ⊕ (Structure × templ_eye))) :=
  if (cm .lss v9 (v5.templates.length : Int)) then
  Option.bind (templ_eye_diffs_y2 z v11) fun x12 =>
    Option.bind (ix v10.templates v9) fun x13 =>
    some (Sum.inl ((ar .add .i64 v9 1), { v10 with templates := (List.set v10.templates (v9 : Int).toNat ({ x13 with diffs := x12.1 })) }, x12.2))
else
  Option.map Sum.inr (Option.bind (templ_eye_ranged_y1 z (ar .add .i64 v10.targets 1) v11) fun x14 =>
    if (cm .gtr x14.1 0) then
    Option.bind (templ_eye_some_y5 z v10.targets x14.2 ({ v10 with chains := x14.1 })) fun x30 =>
      templ_eye_read_y1_j3 z ({ v10 with chains := x14.1, protect := x30.1 }) x30.2
  else
    templ_eye_read_y1_j3 z ({ v10 with chains := x14.1 }) x14.2)

noncomputable def templ_eye_read_y1_l2 (z : Option Nat) (v5 : Structure) (v9 : Int) (v10 : Structure) (v11 : templ_eye) : Option (Structure × templ_eye) :=
  loopG z (fun (s : Int × Structure × templ_eye) => templ_eye_read_y1_s2 z v5 s.1 s.2.1 s.2.2) (v9, v10, v11)

noncomputable def templ_eye_read_y1_s1 (z : Option Nat) (x3 : List Template × templ_eye) (v4 : Int) (v5 : Structure) (v6 : templ_eye) : Option (((Int × Structure × templ_eye) ⊕ (Structure × templ_eye))) :=
  if (cm .lss v4 (x3.1.length : Int)) then
  Option.bind (templ_eye_some_y2 z v5.targets v6) fun x7 =>
    Option.bind (ix v5.templates v4) fun x8 =>
    some (Sum.inl ((ar .add .i64 v4 1), { v5 with templates := (List.set v5.templates (v4 : Int).toNat ({ x8 with marks := x7.1 })) }, x7.2))
else
  Option.map Sum.inr (templ_eye_read_y1_l2 z v5 0 v5 v6)

noncomputable def templ_eye_read_y1_l1 (z : Option Nat) (x3 : List Template × templ_eye) (v4 : Int) (v5 : Structure) (v6 : templ_eye) : Option (Structure × templ_eye) :=
  loopG z (fun (s : Int × Structure × templ_eye) => templ_eye_read_y1_s1 z x3 s.1 s.2.1 s.2.2) (v4, v5, v6)

noncomputable def templ_eye_read_y1 (z : Option Nat) (box0 : templ_eye) : Option (Structure × templ_eye) :=
  Option.bind (templ_eye_num_y1 z 6 box0) fun x1 =>
  Option.bind (templ_eye_num_y1 z 5 x1.2) fun x2 =>
  Option.bind (templ_eye_layers_y1 z x2.2) fun x3 =>
  templ_eye_read_y1_l1 z x3 0 (Structure.mk x1.1 (ar .add .i64 x2.1 1) 0 [] x3.1 ([] : List Size)) x3.2

noncomputable def templ_Get (z : Option Nat) (c : GBits) : Option (GBits × Structure) :=
  Option.bind (templ_eye_read_y1 z (templ_eye.mk c)) fun x1 =>
  if (!(templ_eye_fine_p x1.2)) then
  some ({ c with err := x1.2.c.err }, (Structure.mk 0 0 0 [] [] []))
else
  some (x1.2.c, x1.1)

noncomputable def templ_Reach_j2 (z : Option Nat) (v5 : Int) (v8 : Int) (v9 : Int) (v10 : Int) : Option (((Int × Int × Int × Int) ⊕ (Int × Int × Int))) :=
  some (Sum.inl (v8, v9, v10, (ar .add .i64 v5 1)))

noncomputable def templ_Reach_s1 (z : Option Nat) (p_s : Structure) (target : Int) (v2 : Int) (v3 : Int) (v4 : Int) (v5 : Int) : Option (((Int × Int × Int × Int) ⊕ (Int × Int × Int))) :=
  if (cm .lss v5 (p_s.templates.length : Int)) then
  Option.bind (ix p_s.templates v5) fun x6 =>
    Option.bind (ix x6.marks target) fun x7 =>
    if (cm .neq x7 0) then
    templ_Reach_j2 z v5 (imax v2 x6.sid) (imax v3 x6.tid) 0
  else
    templ_Reach_j2 z v5 v2 v3 v4
else
  Option.map Sum.inr (some (v2, v3, v4))

noncomputable def templ_Reach_l1 (z : Option Nat) (p_s : Structure) (target : Int) (v2 : Int) (v3 : Int) (v4 : Int) (v5 : Int) : Option (Int × Int × Int) :=
  loopG z (fun (s : Int × Int × Int × Int) => templ_Reach_s1 z p_s target s.1 s.2.1 s.2.2.1 s.2.2.2) (v2, v3, v4, v5)

noncomputable def templ_Reach (z : Option Nat) (p_s : Structure) (target : Int) : Option (Int × Int × Int) :=
  Option.bind (templ_Right z p_s) fun x1 =>
  if (((!x1) || (cm .lss target 0)) || (cm .geq target p_s.targets)) then
  some (0, 0, 1)
else
  templ_Reach_l1 z p_s target 0 0 8 0

noncomputable def slices_Equal_int_s1 (z : Option Nat) (s1 : List Int) (s2 : List Int) (v1 : Int) : Option (((Int) ⊕ (Bool))) :=
  if (cm .lss v1 (s1.length : Int)) then
  Option.bind (ix s1 v1) fun x2 =>
    Option.bind (ix s2 v1) fun x3 =>
    if (cm .neq x2 x3) then
    Option.map Sum.inr (some false)
  else
    some (Sum.inl (ar .add .i64 v1 1))
else
  Option.map Sum.inr (some true)

noncomputable def slices_Equal_int_l1 (z : Option Nat) (s1 : List Int) (s2 : List Int) (v1 : Int) : Option (Bool) :=
  loopG z (fun (s : Int) => slices_Equal_int_s1 z s1 s2 s) (v1)

noncomputable def slices_Equal_int (z : Option Nat) (s1 : List Int) (s2 : List Int) : Option (Bool) :=
  if (cm .neq (s1.length : Int) (s2.length : Int)) then
  some false
else
  slices_Equal_int_l1 z s1 s2 0

noncomputable def templ_Same_1 (z : Option Nat) (x : Template) (y : Template) : Option (Bool) :=
  Option.bind (gT ((cm .eql x.sid y.sid) && (cm .eql x.tid y.tid)) (slices_Equal_int z x.marks y.marks)) fun x1 =>
  Option.bind (gT (((cm .eql x.sid y.sid) && (cm .eql x.tid y.tid)) && x1) (slices_Equal_int z x.diffs y.diffs)) fun x2 =>
  Option.bind (gT ((((cm .eql x.sid y.sid) && (cm .eql x.tid y.tid)) && x1) && x2) (slices_Equal_int z x.chains y.chains)) fun x3 =>
  some (((((cm .eql x.sid y.sid) && (cm .eql x.tid y.tid)) && x1) && x2) && x3)

noncomputable def slices_Equal_Size_s1 (z : Option Nat) (s1 : List Size) (s2 : List Size) (v1 : Int) : Option (((Int) ⊕ (Bool))) :=
  if (cm .lss v1 (s1.length : Int)) then
  Option.bind (ix s1 v1) fun x2 =>
    Option.bind (ix s2 v1) fun x3 =>
    if (!(x2.wide == x3.wide && (x2.high == x3.high && true))) then
    Option.map Sum.inr (some false)
  else
    some (Sum.inl (ar .add .i64 v1 1))
else
  Option.map Sum.inr (some true)

noncomputable def slices_Equal_Size_l1 (z : Option Nat) (s1 : List Size) (s2 : List Size) (v1 : Int) : Option (Bool) :=
  loopG z (fun (s : Int) => slices_Equal_Size_s1 z s1 s2 s) (v1)

noncomputable def slices_Equal_Size (z : Option Nat) (s1 : List Size) (s2 : List Size) : Option (Bool) :=
  if (cm .neq (s1.length : Int) (s2.length : Int)) then
  some false
else
  slices_Equal_Size_l1 z s1 s2 0

noncomputable def slices_EqualFunc_f0_s1 (z : Option Nat) (s1 : List Template) (s2 : List Template) (v1 : Int) : Option (((Int) ⊕ (Bool))) :=
  if (cm .lss v1 (s1.length : Int)) then
  Option.bind (ix s1 v1) fun x2 =>
    Option.bind (ix s2 v1) fun x3 =>
    Option.bind (templ_Same_1 z x2 x3 ) fun x4 =>
    if (!x4) then
    Option.map Sum.inr (some false)
  else
    some (Sum.inl (ar .add .i64 v1 1))
else
  Option.map Sum.inr (some true)

noncomputable def slices_EqualFunc_f0_l1 (z : Option Nat) (s1 : List Template) (s2 : List Template) (v1 : Int) : Option (Bool) :=
  loopG z (fun (s : Int) => slices_EqualFunc_f0_s1 z s1 s2 s) (v1)

noncomputable def slices_EqualFunc_f0 (z : Option Nat) (s1 : List Template) (s2 : List Template) : Option (Bool) :=
  if (cm .neq (s1.length : Int) (s2.length : Int)) then
  some false
else
  slices_EqualFunc_f0_l1 z s1 s2 0

noncomputable def templ_Same (z : Option Nat) (p_a : Structure) (b : Structure) : Option (Bool) :=
  Option.bind (gT (((cm .eql p_a.id_ b.id_) && (cm .eql p_a.targets b.targets)) && (cm .eql p_a.chains b.chains)) (slices_Equal_int z p_a.protect b.protect)) fun x1 =>
  Option.bind (gT ((((cm .eql p_a.id_ b.id_) && (cm .eql p_a.targets b.targets)) && (cm .eql p_a.chains b.chains)) && x1) (slices_Equal_Size z p_a.sizes b.sizes)) fun x2 =>
  Option.bind (gT (((((cm .eql p_a.id_ b.id_) && (cm .eql p_a.targets b.targets)) && (cm .eql p_a.chains b.chains)) && x1) && x2) (slices_EqualFunc_f0 z p_a.templates b.templates)) fun x3 =>
  some ((((((cm .eql p_a.id_ b.id_) && (cm .eql p_a.targets b.targets)) && (cm .eql p_a.chains b.chains)) && x1) && x2) && x3)

noncomputable def law26_awake (z : Option Nat)  : Option (Bool) :=
  Option.bind (templ_Put z (Ink.mk [] 0) (Structure.mk 0 1 0 [] ([(Template.mk 0 0 [3] [] []), (Template.mk 0 1 [1] [2] [])]) [])) fun x1 =>
  Option.bind (templ_Get z (bits_Start x1.1.bytes)) fun x2 =>
  Option.bind (templ_Reach z x2.2 0) fun x3 =>
  Option.bind (sub x1.1.bytes 0 (imin (x1.1.bytes.length : Int) 2)) fun x4 =>
  Option.bind (templ_Get z (bits_Start x4)) fun x5 =>
  Option.bind (gT ((((((((cm .eql x1.2 0) && (cm .eql x3.2.2 0)) && (cm .eql x2.1.err 0)) && (cm .eql x5.1.err 2)) && (cm .eql x5.1.at_ 0)) && (cm .eql x1.1.many 28)) && (cm .eql x2.1.at_ 28)) && (sc .eql (b2s x1.1.bytes) ([0, 15, 168, 128] : List UInt8))) (templ_Same z (Structure.mk 0 1 0 [] ([(Template.mk 0 0 [3] [] []), (Template.mk 0 1 [1] [2] [])]) []) x2.2)) fun x6 =>
  Option.bind (gT (((((((((((cm .eql x1.2 0) && (cm .eql x3.2.2 0)) && (cm .eql x2.1.err 0)) && (cm .eql x5.1.err 2)) && (cm .eql x5.1.at_ 0)) && (cm .eql x1.1.many 28)) && (cm .eql x2.1.at_ 28)) && (sc .eql (b2s x1.1.bytes) ([0, 15, 168, 128] : List UInt8))) && x6) && (cm .eql x3.1 0)) && (cm .eql x3.2.1 1)) (templ_Right z x2.2)) fun x7 =>
  some ((((((((((((cm .eql x1.2 0) && (cm .eql x3.2.2 0)) && (cm .eql x2.1.err 0)) && (cm .eql x5.1.err 2)) && (cm .eql x5.1.at_ 0)) && (cm .eql x1.1.many 28)) && (cm .eql x2.1.at_ 28)) && (sc .eql (b2s x1.1.bytes) ([0, 15, 168, 128] : List UInt8))) && x6) && (cm .eql x3.1 0)) && (cm .eql x3.2.1 1)) && x7)

noncomputable def ref26_Short_s1 (z : Option Nat) (p_s : Structure) (v1 : Int) : Option (((Int) ⊕ (Bool))) :=
  if ((cm .lss v1 (p_s.templates.length : Int)) && (cm .lss v1 99)) then
  Option.bind (ix p_s.templates v1) fun x2 =>
    if (((cm .gtr (x2.marks.length : Int) 99) || (cm .gtr (x2.diffs.length : Int) 99)) || (cm .gtr (x2.chains.length : Int) 99)) then
    Option.map Sum.inr (some false)
  else
    some (Sum.inl (ar .add .i64 v1 1))
else
  Option.map Sum.inr (some (((cm .leq (p_s.templates.length : Int) 99) && (cm .leq (p_s.protect.length : Int) 99)) && (cm .leq (p_s.sizes.length : Int) 99)))

noncomputable def ref26_Short_l1 (z : Option Nat) (p_s : Structure) (v1 : Int) : Option (Bool) :=
  loopG z (fun (s : Int) => ref26_Short_s1 z p_s s) (v1)

noncomputable def ref26_Short (z : Option Nat) (p_s : Structure) : Option (Bool) :=
  ref26_Short_l1 z p_s 0

def ref02_SameInk (p_a : Ink) (b : Ink) : Bool :=
  ((cm .eql p_a.many b.many) && (sc .eql (b2s p_a.bytes) (b2s b.bytes)))

noncomputable def law26_TemplBack_s2 (z : Option Nat) (b : List Int) (x8 : Ink × Int) (v10 : Int) : Option (((Int) ⊕ (Bool))) :=
  if (cm .lss v10 x8.1.many) then
  Option.bind (bits_Get z (GBits.mk x8.1.bytes v10 0) 1) fun x11 =>
    Option.bind (bits_Get z (GBits.mk b v10 0) 1) fun x12 =>
    if (((cm .neq x11.1.err 0) || (cm .neq x12.1.err 0)) || (cm .neq x11.2 x12.2)) then
    Option.map Sum.inr (some false)
  else
    some (Sum.inl (ar .add .i64 v10 1))
else
  Option.map Sum.inr (some true)

noncomputable def law26_TemplBack_l2 (z : Option Nat) (b : List Int) (x8 : Ink × Int) (v10 : Int) : Option (Bool) :=
  loopG z (fun (s : Int) => law26_TemplBack_s2 z b x8 s) (v10)

noncomputable def law26_TemplBack_j1 (z : Option Nat) (b : List Int) : Option (Bool) :=
  Option.bind (templ_Get z (bits_Start b)) fun x6 =>
  if (cm .neq x6.1.err 0) then
  Option.bind (gT (cm .eql x6.1.at_ 0) (templ_Same z x6.2 (Structure.mk 0 0 0 [] [] []))) fun x7 =>
    some ((cm .eql x6.1.at_ 0) && x7)
else
  Option.bind (templ_Put z (Ink.mk [] 0) x6.2) fun x8 =>
    Option.bind (gT (!(cm .neq x8.2 0)) (templ_Right z x6.2)) fun x9 =>
    if (((cm .neq x8.2 0) || (!x9)) || (cm .neq x8.1.many x6.1.at_)) then
    some false
  else
    law26_TemplBack_l2 z b x8 0

noncomputable def law26_TemplBack (z : Option Nat) (p_s : Structure) (t : Structure) (ahead : Int) (more : List Int) (b : List Int) : Option (Bool) :=
  Option.bind (ref26_Short z p_s) fun x1 =>
  Option.bind (gT (!(!x1)) (ref26_Short z t)) fun x2 =>
  if ((((!x1) || (!x2)) || (cm .gtr (b.length : Int) 3000)) || (cm .gtr (more.length : Int) 300)) then
  some true
else
  Option.bind (bits_Add z (Ink.mk [] 0) 1 (ar .add .i64 (dv .rem .i64 (IntKind.i64.wrap ahead) 9) 1)) fun x3 =>
    Option.bind (templ_Put z x3.1 p_s) fun x4 =>
    Option.bind (templ_Put z x3.1 t) fun x5 =>
    if (cm .neq x3.2 0) then
    some false
  else
    if (cm .eql x4.2 0) then
      Option.bind (app ([] : List Int) x4.1.bytes) fun x13 =>
        Option.bind (app x13 more) fun x14 =>
        Option.bind (bits_Get z (bits_Start x14) x3.1.many) fun x15 =>
        Option.bind (templ_Get z x15.1) fun x16 =>
        Option.bind (gT (!((cm .neq x16.1.err 0) || (cm .neq x16.1.at_ x4.1.many))) (templ_Same z x16.2 p_s)) fun x17 =>
        Option.bind (gT ((!(((cm .neq x16.1.err 0) || (cm .neq x16.1.at_ x4.1.many)) || (!x17))) && (cm .eql x5.2 0)) (templ_Same z p_s t)) fun x18 =>
        if ((((cm .neq x16.1.err 0) || (cm .neq x16.1.at_ x4.1.many)) || (!x17)) || ((cm .eql x5.2 0) && (bq .neq (ref02_SameInk x4.1 x5.1) x18))) then
        some false
      else
        law26_TemplBack_j1 z b
    else
      Option.bind (templ_Right z p_s) fun x19 =>
        if x19 then
        some false
      else
        law26_TemplBack_j1 z b

end Xb
