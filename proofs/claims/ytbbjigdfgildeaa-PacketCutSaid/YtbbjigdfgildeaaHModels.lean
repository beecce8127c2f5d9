/- Own text: HModels. -/
import Derived.Test.YtbbjigdfgildeaaHTypes
set_option linter.all false
set_option linter.unusedVariables false
set_option linter.unusedSimpArgs false
set_option linter.unnecessarySimpa false
set_option linter.deprecated false
namespace Xb
open Go
set_option linter.unusedVariables false

def head_Right (p_h : Head) : Bool :=
  (((cm .geq p_h.type 0) && (cm .leq p_h.type 127)) && (cm .leq (p_h.csrc.length : Int) 15))

def packet_extended (p : Packet) : Bool :=
  if (!p.head.hasExt) then
  ((cm .eql p.profile 0) && (cm .eql (p.ext.length : Int) 0))
else
  ((cm .eql (dv .rem .i64 (p.ext.length : Int) 4) 0) && (cm .leq (dv .quo .i64 (p.ext.length : Int) 4) 65535))

def packet_padded (p : Packet) : Bool :=
  if (!p.head.hasPad) then
  (cm .eql p.pad 0)
else
  ((cm .geq p.pad 1) && (cm .leq p.pad 255))

def head_Size (p_h : Head) : Int :=
  if (!(head_Right p_h)) then
  0
else
  (ar .add .i64 12 (ar .mul .i64 4 (p_h.csrc.length : Int)))

def packet_total_j1 (v1 : Int) : Int :=
  v1

def packet_total (p : Packet) : Int :=
  if p.head.hasExt then
  packet_total_j1 (ar .add .i64 (ar .add .i64 (ar .add .i64 (ar .add .i64 (head_Size p.head) (p.ext.length : Int)) (p.payload.length : Int)) p.pad) 4)
else
  packet_total_j1 (ar .add .i64 (ar .add .i64 (ar .add .i64 (head_Size p.head) (p.ext.length : Int)) (p.payload.length : Int)) p.pad)

def packet_Right (p : Packet) : Bool :=
  (((((head_Right p.head) && (packet_extended p)) && (packet_padded p)) && (cm .leq (p.payload.length : Int) 65535)) && (cm .leq (packet_total p) 65535))

def head_flag (is_ : Bool) (bit : Int) : Int :=
  if is_ then
  bit
else
  0

def octet_sized (n : Int) : Bool :=
  ((cm .geq n 1) && (cm .leq n 8))

def octet_Put_s1 (y1 : Nat) (v4 : Int) (v5 : List Int) : Option (((Int × List Int) ⊕ (List Int × Int))) :=
  Option.bind (ix v5 (y1 : Int)) fun x6 =>
  some (Sum.inl ((sf .shr .u64 v4 8), (List.set v5 ((y1 : Int) : Int).toNat (IntKind.u8.wrap v4))))

def octet_Put_d1 (v4 : Int) (v5 : List Int) : Option (List Int × Int) :=
  some (v5, 0)

def octet_Put_l1 (x2 : List Int) (v4 : Int) (v5 : List Int) : Option (List Int × Int) :=
  foldX (fun (y1 : Nat) (s : Int × List Int) => octet_Put_s1 y1 s.1 s.2) (fun (s : Int × List Int) => octet_Put_d1 s.1 s.2) (List.range x2.length).reverse (v4, v5)

def octet_Put (v : Int) (n : Int) : Option (List Int × Int) :=
  if (!(octet_sized n)) then
  some ([], 1)
else
  Option.bind (gT (cm .lss n 8) (sfO .shr .u64 v (ar .mul .i64 8 n))) fun x1 =>
    if ((cm .lss n 8) && (cm .gtr x1 0)) then
    some ([], 6)
  else
    Option.bind (mkL (0 : Int) n n) fun x2 =>
      Option.bind (lnO x2) fun x3 =>
      octet_Put_l1 x2 v x2

def head_four (n : Int) : Option (List Int) :=
  Option.bind (octet_Put (IntKind.u64.wrap n) 4) fun x1 =>
  some x1.1

noncomputable def slices_Concat_j2 (z : Option Nat) (v1 : Int) (v2 : Int) (x3 : List Int) : Option (((Int × Int) ⊕ (List Int))) :=
  some (Sum.inl ((ar .add .i64 v1 (x3.length : Int)), (ar .add .i64 v2 1)))

noncomputable def slices_Concat_s3 (z : Option Nat) (slices : List (List Int)) (v5 : List Int) (v6 : Int) : Option (((List Int × Int) ⊕ (List Int))) :=
  if (cm .lss v6 (slices.length : Int)) then
  Option.bind (ix slices v6) fun x7 =>
    Option.bind (app v5 x7) fun x8 =>
    some (Sum.inl (x8, (ar .add .i64 v6 1)))
else
  Option.map Sum.inr (some v5)

noncomputable def slices_Concat_l3 (z : Option Nat) (slices : List (List Int)) (v5 : List Int) (v6 : Int) : Option (List Int) :=
  loopG z (fun (s : List Int × Int) => slices_Concat_s3 z slices s.1 s.2) (v5, v6)

noncomputable def slices_Concat_s1 (z : Option Nat) (slices : List (List Int)) (v1 : Int) (v2 : Int) : Option (((Int × Int) ⊕ (List Int))) :=
  if (cm .lss v2 (slices.length : Int)) then
  Option.bind (ix slices v2) fun x3 =>
    if (cm .lss (ar .add .i64 v1 (x3.length : Int)) 0) then
    none
  else
    slices_Concat_j2 z v1 v2 x3
else
  Option.map Sum.inr (Option.bind (growL v1) fun x4 =>
    slices_Concat_l3 z slices ([] : List Int) 0)

noncomputable def slices_Concat_l1 (z : Option Nat) (slices : List (List Int)) (v1 : Int) (v2 : Int) : Option (List Int) :=
  loopG z (fun (s : Int × Int) => slices_Concat_s1 z slices s.1 s.2) (v1, v2)

noncomputable def slices_Concat (z : Option Nat) (slices : List (List Int)) : Option (List Int) :=
  slices_Concat_l1 z slices 0 0

noncomputable def octet_Join (z : Option Nat) (l : List (List Int)) : Option (List Int) :=
  Option.bind (slices_Concat z l) fun x1 =>
  some x1

noncomputable def head_Write_s1 (z : Option Nat) (p_h : Head) (v5 : List Int) (v6 : Int) : Option (((List Int × Int) ⊕ (List Int × Int))) :=
  if (cm .lss v6 (p_h.csrc.length : Int)) then
  Option.bind (ix p_h.csrc v6) fun x7 =>
    Option.bind (head_four x7) fun x8 =>
    Option.bind (app v5 x8) fun x9 =>
    some (Sum.inl (x9, (ar .add .i64 v6 1)))
else
  Option.map Sum.inr (some (v5, 0))

noncomputable def head_Write_l1 (z : Option Nat) (p_h : Head) (v5 : List Int) (v6 : Int) : Option (List Int × Int) :=
  loopG z (fun (s : List Int × Int) => head_Write_s1 z p_h s.1 s.2) (v5, v6)

noncomputable def head_Write (z : Option Nat) (p_h : Head) : Option (List Int × Int) :=
  if (!(head_Right p_h)) then
  some ([], 1)
else
  Option.bind (octet_Put (IntKind.u64.wrap p_h.seq) 2) fun x1 =>
    Option.bind (head_four p_h.time) fun x2 =>
    Option.bind (head_four p_h.ssrc) fun x3 =>
    Option.bind (octet_Join z ([[(ar .or .u8 (ar .or .u8 (ar .or .u8 128 (head_flag p_h.hasPad 32)) (head_flag p_h.hasExt 16)) (IntKind.u8.wrap (p_h.csrc.length : Int))), (ar .or .u8 (head_flag p_h.marker 128) (IntKind.u8.wrap p_h.type))], x1.1, x2, x3])) fun x4 =>
    head_Write_l1 z p_h x4 0

def pad_zeros (n : Int) : Option (List Int) :=
  Option.bind (mkL (0 : Int) n n) fun x1 =>
  some x1

noncomputable def pad_Add (z : Option Nat) (b : List Int) (n : Int) : Option (List Int × Int) :=
  if ((cm .lss n 1) || (cm .gtr n 255)) then
  some ([], 1)
else
  Option.bind (pad_zeros (ar .sub .i64 n 1)) fun x1 =>
    Option.bind (slices_Concat z ([b, x1, [(IntKind.u8.wrap n)]])) fun x2 =>
    some (x2, 0)

noncomputable def packet_Write_j2 (z : Option Nat) (v4 : List Int) : Option (List Int × Int) :=
  some (v4, 0)

noncomputable def packet_Write_j1 (z : Option Nat) (p : Packet) (v2 : List Int) : Option (List Int × Int) :=
  Option.bind (app v2 p.payload) fun x3 =>
  if p.head.hasPad then
  Option.bind (pad_Add z x3 p.pad) fun x5 =>
    packet_Write_j2 z x5.1
else
  packet_Write_j2 z x3

noncomputable def packet_Write (z : Option Nat) (p : Packet) (room : Int) : Option (List Int × Int) :=
  if (!(packet_Right p)) then
  some ([], 1)
else
  if (cm .gtr (packet_total p) room) then
    some ([], 7)
  else
    Option.bind (head_Write z p.head) fun x1 =>
      if p.head.hasExt then
      Option.bind (octet_Put (IntKind.u64.wrap p.profile) 2) fun x6 =>
        Option.bind (octet_Put (IntKind.u64.wrap (dv .quo .i64 (p.ext.length : Int) 4)) 2) fun x7 =>
        Option.bind (octet_Join z [x1.1, x6.1, x7.1, p.ext]) fun x8 =>
        packet_Write_j1 z p x8
    else
      packet_Write_j1 z p x1.1

def octet_there (b : List Int) (at_ : Int) (n : Int) : Bool :=
  ((cm .leq at_ (b.length : Int)) && (cm .leq n (ar .sub .i64 (b.length : Int) at_)))

noncomputable def octet_Get_s2 (z : Option Nat) (x2 : List Int) (v3 : Int) (v4 : Int) : Option (((Int × Int) ⊕ (Int × Int))) :=
  if (cm .lss v4 (x2.length : Int)) then
  Option.bind (ix x2 v4) fun x5 =>
    some (Sum.inl ((ar .or .u64 (sf .shl .u64 v3 8) (IntKind.u64.wrap x5)), (ar .add .i64 v4 1)))
else
  Option.map Sum.inr (some (v3, 0))

noncomputable def octet_Get_l2 (z : Option Nat) (x2 : List Int) (v3 : Int) (v4 : Int) : Option (Int × Int) :=
  loopG z (fun (s : Int × Int) => octet_Get_s2 z x2 s.1 s.2) (v3, v4)

noncomputable def octet_Get_j1 (z : Option Nat) (b : List Int) (at_ : Int) (n : Int) (v1 : Bool) : Option (Int × Int) :=
  if v1 then
  some (0, 1)
else
  if (!(octet_there b at_ n)) then
    some (0, 2)
  else
    Option.bind (sub b at_ (ar .add .i64 at_ n)) fun x2 =>
      octet_Get_l2 z x2 0 0

noncomputable def octet_Get (z : Option Nat) (b : List Int) (at_ : Int) (n : Int) : Option (Int × Int) :=
  if (!(octet_sized n)) then
  octet_Get_j1 z b at_ n (!(octet_sized n))
else
  octet_Get_j1 z b at_ n (cm .lss at_ 0)

noncomputable def head_number (z : Option Nat) (b : List Int) : Option (Int) :=
  Option.bind (octet_Get z b 0 (b.length : Int)) fun x1 =>
  some (IntKind.u32.wrap x1.1)

noncomputable def head_Read_s1 (z : Option Nat) (y1 : List Int) (v15 : Head) : Option (((Head) ⊕ (Head × Int × Int))) :=
  Option.bind (head_number z y1) fun x16 =>
  Option.bind (app v15.csrc [x16]) fun x17 =>
  some (Sum.inl ({ v15 with csrc := x17 }))

noncomputable def head_Read_d1 (z : Option Nat) (x2 : Int) (v15 : Head) : Option (Head × Int × Int) :=
  some (v15, (ar .add .i64 12 (ar .mul .i64 4 (IntKind.i64.wrap (ar .and .u8 x2 15)))), 0)

noncomputable def head_Read_l1 (z : Option Nat) (x2 : Int) (x13 : List Int) (v15 : Head) : Option (Head × Int × Int) :=
  foldX (fun (y1 : List Int) (s : Head) => head_Read_s1 z y1 s) (fun (s : Head) => head_Read_d1 z x2 s) (chunksL 4 x13) (v15)

noncomputable def head_Read (z : Option Nat) (b : List Int) : Option (Head × Int × Int) :=
  if (cm .lss (b.length : Int) 12) then
  some ((Head.mk false false false 0 0 0 0 []), 0, 2)
else
  Option.bind (ix b 0) fun x1 =>
    if (cm .neq (sf .shr .u8 x1 6) 2) then
    some ((Head.mk false false false 0 0 0 0 []), 0, 3)
  else
    Option.bind (ix b 0) fun x2 =>
      if (cm .lss (b.length : Int) (ar .add .i64 12 (ar .mul .i64 4 (IntKind.i64.wrap (ar .and .u8 x2 15))))) then
      some ((Head.mk false false false 0 0 0 0 []), 0, 2)
    else
      Option.bind (ix b 0) fun x3 =>
        Option.bind (ix b 0) fun x4 =>
        Option.bind (ix b 1) fun x5 =>
        Option.bind (ix b 1) fun x6 =>
        Option.bind (sub b 2 4) fun x7 =>
        Option.bind (head_number z x7) fun x8 =>
        Option.bind (sub b 4 8) fun x9 =>
        Option.bind (head_number z x9) fun x10 =>
        Option.bind (sub b 8 12) fun x11 =>
        Option.bind (head_number z x11) fun x12 =>
        Option.bind (sub b 12 (ar .add .i64 12 (ar .mul .i64 4 (IntKind.i64.wrap (ar .and .u8 x2 15))))) fun x13 =>
        Option.bind (lnO x13) fun x14 =>
        head_Read_l1 z x2 x13 (Head.mk (cm .gtr (ar .and .u8 x3 32) 0) (cm .gtr (ar .and .u8 x4 16) 0) (cm .gtr (ar .and .u8 x5 128) 0) (IntKind.i64.wrap (ar .and .u8 x6 127)) (IntKind.u16.wrap x8) x10 x12 ([] : List Int))

def slices_Clone (l : List Int) : Option (List Int) := app [] l

def octet_Part_j1 (b : List Int) (at_ : Int) (n : Int) (v1 : Bool) : Option (List Int × Int) :=
  if v1 then
  some ([], 1)
else
  if (!(octet_there b at_ n)) then
    some ([], 2)
  else
    Option.bind (sub b at_ (ar .add .i64 at_ n)) fun x2 =>
      Option.bind (slices_Clone x2) fun x3 =>
      some (x3, 0)

def octet_Part (b : List Int) (at_ : Int) (n : Int) : Option (List Int × Int) :=
  if (cm .lss n 0) then
  octet_Part_j1 b at_ n (cm .lss n 0)
else
  octet_Part_j1 b at_ n (cm .lss at_ 0)

noncomputable def packet_extension (z : Option Nat) (b : List Int) : Option (Int × List Int × List Int × Int) :=
  Option.bind (octet_Get z b 0 2) fun x1 =>
  Option.bind (octet_Get z b 2 2) fun x2 =>
  if (cm .neq x2.2 0) then
  some (0, ([] : List Int), ([] : List Int), x2.2)
else
  Option.bind (octet_Part b 4 (ar .mul .i64 4 (IntKind.i64.wrap x2.1))) fun x3 =>
    if (cm .neq x3.2 0) then
    some (0, ([] : List Int), ([] : List Int), x3.2)
  else
    Option.bind (sub b (ar .add .i64 4 (x3.1.length : Int)) (b.length : Int)) fun x4 =>
      some ((IntKind.u16.wrap x1.1), x3.1, x4, 0)

def pad_Trail (b : List Int) : Option (Int × Int) :=
  if (cm .eql (b.length : Int) 0) then
  some (0, 5)
else
  Option.bind (ix b (ar .sub .i64 (b.length : Int) 1)) fun x1 =>
    if ((cm .eql (IntKind.i64.wrap x1) 0) || (cm .gtr (IntKind.i64.wrap x1) (b.length : Int))) then
    some (0, 5)
  else
    some ((IntKind.i64.wrap x1), 0)

noncomputable def packet_read_j2 (z : Option Nat) (v3 : List Int) (v6 : Packet) (v7 : Packet) : Option (Packet × List Int × Int) :=
  Option.bind (sub v3 0 (ar .sub .i64 (v3.length : Int) v7.pad)) fun x8 =>
  Option.bind (app ([] : List Int) x8) fun x9 =>
  some ({ v7 with payload := x9 }, v3, 0)

noncomputable def packet_read_j1 (z : Option Nat) (x1 : Head × Int × Int) (v3 : List Int) (v4 : Packet) (v5 : Packet) : Option (Packet × List Int × Int) :=
  if x1.1.hasPad then
  Option.bind (pad_Trail v3) fun x10 =>
    if (cm .neq x10.2 0) then
    some ({ v5 with pad := x10.1 }, ([] : List Int), x10.2)
  else
    packet_read_j2 z v3 v4 ({ v5 with pad := x10.1 })
else
  packet_read_j2 z v3 v4 v5

noncomputable def packet_read (z : Option Nat) (b : List Int) : Option (Packet × List Int × Int) :=
  if (cm .gtr (b.length : Int) 65535) then
  some ((Packet.mk (Head.mk false false false 0 0 0 0 []) 0 [] [] 0), ([] : List Int), 4)
else
  Option.bind (head_Read z b) fun x1 =>
    if (cm .neq x1.2.2 0) then
    some ((Packet.mk (Head.mk false false false 0 0 0 0 []) 0 [] [] 0), ([] : List Int), x1.2.2)
  else
    Option.bind (sub b x1.2.1 (b.length : Int)) fun x2 =>
      if x1.1.hasExt then
      Option.bind (packet_extension z x2) fun x11 =>
        if (cm .neq x11.2.2.2 0) then
        some ((Packet.mk x1.1 x11.1 x11.2.1 [] 0), ([] : List Int), x11.2.2.2)
      else
        packet_read_j1 z x1 x11.2.2.1 (Packet.mk (Head.mk false false false 0 0 0 0 []) 0 [] [] 0) (Packet.mk x1.1 x11.1 x11.2.1 [] 0)
    else
      packet_read_j1 z x1 x2 (Packet.mk (Head.mk false false false 0 0 0 0 []) 0 [] [] 0) (Packet.mk x1.1 0 [] [] 0)

noncomputable def packet_Read (z : Option Nat) (b : List Int) : Option (Packet × Int) :=
  Option.bind (packet_read z b) fun x1 =>
  if (cm .neq x1.2.2 0) then
  some ((Packet.mk (Head.mk false false false 0 0 0 0 []) 0 [] [] 0), x1.2.2)
else
  some (x1.1, 0)

def packet_Size (p : Packet) : Int :=
  if (!(packet_Right p)) then
  0
else
  (packet_total p)

noncomputable def ref05_Numbers_s1 (z : Option Nat) (p_a : List Int) (b : List Int) (v1 : Int) : Option (((Int) ⊕ (Bool))) :=
  if (cm .lss v1 (p_a.length : Int)) then
  Option.bind (ix p_a v1) fun x2 =>
    Option.bind (ix b v1) fun x3 =>
    if (cm .neq x2 x3) then
    Option.map Sum.inr (some false)
  else
    some (Sum.inl (ar .add .i64 v1 1))
else
  Option.map Sum.inr (some true)

noncomputable def ref05_Numbers_l1 (z : Option Nat) (p_a : List Int) (b : List Int) (v1 : Int) : Option (Bool) :=
  loopG z (fun (s : Int) => ref05_Numbers_s1 z p_a b s) (v1)

noncomputable def ref05_Numbers (z : Option Nat) (p_a : List Int) (b : List Int) : Option (Bool) :=
  if (cm .neq (p_a.length : Int) (b.length : Int)) then
  some false
else
  ref05_Numbers_l1 z p_a b 0

noncomputable def ref05_Same (z : Option Nat) (p_a : Head) (b : Head) : Option (Bool) :=
  Option.bind (gT (((((((bq .eql p_a.hasPad b.hasPad) && (bq .eql p_a.hasExt b.hasExt)) && (bq .eql p_a.marker b.marker)) && (cm .eql p_a.type b.type)) && (cm .eql p_a.seq b.seq)) && (cm .eql p_a.time b.time)) && (cm .eql p_a.ssrc b.ssrc)) (ref05_Numbers z p_a.csrc b.csrc)) fun x1 =>
  some ((((((((bq .eql p_a.hasPad b.hasPad) && (bq .eql p_a.hasExt b.hasExt)) && (bq .eql p_a.marker b.marker)) && (cm .eql p_a.type b.type)) && (cm .eql p_a.seq b.seq)) && (cm .eql p_a.time b.time)) && (cm .eql p_a.ssrc b.ssrc)) && x1)

noncomputable def ref06_Same (z : Option Nat) (p_a : Packet) (b : Packet) : Option (Bool) :=
  Option.bind (ref05_Same z p_a.head b.head) fun x1 =>
  some ((((x1 && (cm .eql p_a.profile b.profile)) && (sc .eql (b2s p_a.ext) (b2s b.ext))) && (sc .eql (b2s p_a.payload) (b2s b.payload))) && (cm .eql p_a.pad b.pad))

def bytes_Equal (p_a : List Int) (b : List Int) : Bool :=
  (sc .eql (b2s p_a) (b2s b))

def internal_bytealg_Cutover (n : Int) : Int :=
  (dv .quo .i64 (ar .add .i64 n 16) 8)

noncomputable def internal_bytealg_hashStr_j3 (z : Option Nat) (v5 : Int) (v6 : Int) (v7 : Int) : Option (((Int × Int × Int) ⊕ (Int × Int))) :=
  some (Sum.inl (v7, (ar .mul .u32 v5 v5), (sf .shr .i64 v6 1)))

noncomputable def internal_bytealg_hashStr_s2 (z : Option Nat) (v1 : Int) (v4 : Int) (v5 : Int) (v6 : Int) : Option (((Int × Int × Int) ⊕ (Int × Int))) :=
  if (cm .gtr v6 0) then
  if (cm .neq (ar .and .i64 v6 1) 0) then
    internal_bytealg_hashStr_j3 z v5 v6 (ar .mul .u32 v4 v5)
  else
    internal_bytealg_hashStr_j3 z v5 v6 v4
else
  Option.map Sum.inr (some (v1, v4))

noncomputable def internal_bytealg_hashStr_l2 (z : Option Nat) (v1 : Int) (v4 : Int) (v5 : Int) (v6 : Int) : Option (Int × Int) :=
  loopG z (fun (s : Int × Int × Int) => internal_bytealg_hashStr_s2 z v1 s.1 s.2.1 s.2.2) (v4, v5, v6)

noncomputable def internal_bytealg_hashStr_s1 (z : Option Nat) (sep : List Int) (v1 : Int) (v2 : Int) : Option (((Int × Int) ⊕ (Int × Int))) :=
  if (cm .lss v2 (sep.length : Int)) then
  Option.bind (ix sep v2) fun x3 =>
    some (Sum.inl ((ar .add .u32 (ar .mul .u32 v1 16777619) (IntKind.u32.wrap x3)), (ar .add .i64 v2 1)))
else
  Option.map Sum.inr (internal_bytealg_hashStr_l2 z v1 1 16777619 (sep.length : Int))

noncomputable def internal_bytealg_hashStr_l1 (z : Option Nat) (sep : List Int) (v1 : Int) (v2 : Int) : Option (Int × Int) :=
  loopG z (fun (s : Int × Int) => internal_bytealg_hashStr_s1 z sep s.1 s.2) (v1, v2)

noncomputable def internal_bytealg_hashStr (z : Option Nat) (sep : List Int) : Option (Int × Int) :=
  internal_bytealg_hashStr_l1 z sep 0 0

noncomputable def internal_bytealg_IndexRabinKarp_s2 (z : Option Nat) (p_s : List Int) (sep : List Int) (x1 : Int × Int) (v6 : Int) (v7 : Int) : Option (((Int × Int) ⊕ (Int))) :=
  if (cm .lss v7 (p_s.length : Int)) then
  Option.bind (ix p_s v7) fun x8 =>
    Option.bind (ix p_s (ar .sub .i64 v7 (sep.length : Int))) fun x9 =>
    Option.bind (gT (cm .eql (ar .sub .u32 (ar .add .u32 (ar .mul .u32 v6 16777619) (IntKind.u32.wrap x8)) (ar .mul .u32 x1.2 (IntKind.u32.wrap x9))) x1.1) (sub p_s (ar .sub .i64 (ar .add .i64 v7 1) (sep.length : Int)) (ar .add .i64 v7 1))) fun x10 =>
    if ((cm .eql (ar .sub .u32 (ar .add .u32 (ar .mul .u32 v6 16777619) (IntKind.u32.wrap x8)) (ar .mul .u32 x1.2 (IntKind.u32.wrap x9))) x1.1) && (sc .eql (b2s x10) (b2s sep))) then
    Option.map Sum.inr (some (ar .sub .i64 (ar .add .i64 v7 1) (sep.length : Int)))
  else
    some (Sum.inl ((ar .sub .u32 (ar .add .u32 (ar .mul .u32 v6 16777619) (IntKind.u32.wrap x8)) (ar .mul .u32 x1.2 (IntKind.u32.wrap x9))), (ar .add .i64 v7 1)))
else
  Option.map Sum.inr (some (-1))

noncomputable def internal_bytealg_IndexRabinKarp_l2 (z : Option Nat) (p_s : List Int) (sep : List Int) (x1 : Int × Int) (v6 : Int) (v7 : Int) : Option (Int) :=
  loopG z (fun (s : Int × Int) => internal_bytealg_IndexRabinKarp_s2 z p_s sep x1 s.1 s.2) (v6, v7)

noncomputable def internal_bytealg_IndexRabinKarp_s1 (z : Option Nat) (p_s : List Int) (sep : List Int) (x1 : Int × Int) (v2 : Int) (v3 : Int) : Option (((Int × Int) ⊕ (Int))) :=
  if (cm .lss v3 (sep.length : Int)) then
  Option.bind (ix p_s v3) fun x4 =>
    some (Sum.inl ((ar .add .u32 (ar .mul .u32 v2 16777619) (IntKind.u32.wrap x4)), (ar .add .i64 v3 1)))
else
  Option.map Sum.inr (Option.bind (gT (cm .eql v2 x1.1) (sub p_s 0 (sep.length : Int))) fun x5 =>
    if ((cm .eql v2 x1.1) && (sc .eql (b2s x5) (b2s sep))) then
    some 0
  else
    internal_bytealg_IndexRabinKarp_l2 z p_s sep x1 v2 (sep.length : Int))

noncomputable def internal_bytealg_IndexRabinKarp_l1 (z : Option Nat) (p_s : List Int) (sep : List Int) (x1 : Int × Int) (v2 : Int) (v3 : Int) : Option (Int) :=
  loopG z (fun (s : Int × Int) => internal_bytealg_IndexRabinKarp_s1 z p_s sep x1 s.1 s.2) (v2, v3)

noncomputable def internal_bytealg_IndexRabinKarp (z : Option Nat) (p_s : List Int) (sep : List Int) : Option (Int) :=
  Option.bind (internal_bytealg_hashStr z sep) fun x1 =>
  internal_bytealg_IndexRabinKarp_l1 z p_s sep x1 0 0

noncomputable def bytes_Count_s1 (z : Option Nat) (v2 : List Int) (v3 : Int) : Option (((List Int × Int) ⊕ (Int))) :=
  none

noncomputable def bytes_Count_l1 (z : Option Nat) (v2 : List Int) (v3 : Int) : Option (Int) :=
  loopG z (fun (s : List Int × Int) => bytes_Count_s1 z s.1 s.2) (v2, v3)

noncomputable def bytes_Count (z : Option Nat) (p_s : List Int) (sep : List Int) : Option (Int) :=
  if (cm .eql (sep.length : Int) 0) then
  none
else
  if (cm .eql (sep.length : Int) 1) then
    Option.bind (ix sep 0) fun x1 =>
      some (countB p_s x1)
  else
    bytes_Count_l1 z p_s 0

noncomputable def pad_Zero (z : Option Nat) (b : List Int) : Option (Bool) :=
  Option.bind (bytes_Count z b [0]) fun x1 =>
  some (cm .eql x1 (b.length : Int))

noncomputable def pad_Clean (z : Option Nat) (b : List Int) : Option (Bool) :=
  Option.bind (pad_Trail b) fun x1 =>
  Option.bind (gT (cm .eql x1.2 0) (sub b (ar .sub .i64 (b.length : Int) x1.1) (ar .sub .i64 (b.length : Int) 1))) fun x2 =>
  Option.bind (gT (cm .eql x1.2 0) (pad_Zero z x2)) fun x3 =>
  some ((cm .eql x1.2 0) && x3)

noncomputable def packet_Canon (z : Option Nat) (b : List Int) : Option (Bool) :=
  Option.bind (packet_read z b) fun x1 =>
  Option.bind (gT ((cm .eql x1.2.2 0) && (!(cm .eql x1.1.pad 0))) (pad_Clean z x1.2.1)) fun x2 =>
  some ((cm .eql x1.2.2 0) && ((cm .eql x1.1.pad 0) || x2))

noncomputable def law06_awake (z : Option Nat)  : Option (Bool) :=
  Option.bind (packet_Write z (Packet.mk (Head.mk true true false 96 0 0 0 []) 48862 [1, 2, 3, 4] [7] 2) 23) fun x1 =>
  if (cm .neq (x1.1.length : Int) 23) then
  some false
else
  Option.bind (packet_Read z x1.1) fun x2 =>
    Option.bind (packet_Write z (Packet.mk (Head.mk true true false 96 0 0 0 []) 48862 [1, 2, 3, 4] [7] 2) 22) fun x3 =>
    Option.bind (app ([] : List Int) x1.1) fun x4 =>
    Option.bind (ix x4 21) fun x5 =>
    Option.bind (gT ((((cm .eql x1.2 0) && (cm .eql x2.2 0)) && (cm .eql x3.2 7)) && (cm .eql (packet_Size (Packet.mk (Head.mk true true false 96 0 0 0 []) 48862 [1, 2, 3, 4] [7] 2)) 23)) (ref06_Same z (Packet.mk (Head.mk true true false 96 0 0 0 []) 48862 [1, 2, 3, 4] [7] 2) x2.1)) fun x6 =>
    Option.bind (gT (((((cm .eql x1.2 0) && (cm .eql x2.2 0)) && (cm .eql x3.2 7)) && (cm .eql (packet_Size (Packet.mk (Head.mk true true false 96 0 0 0 []) 48862 [1, 2, 3, 4] [7] 2)) 23)) && x6) (packet_Canon z x1.1)) fun x7 =>
    Option.bind (gT ((((((cm .eql x1.2 0) && (cm .eql x2.2 0)) && (cm .eql x3.2 7)) && (cm .eql (packet_Size (Packet.mk (Head.mk true true false 96 0 0 0 []) 48862 [1, 2, 3, 4] [7] 2)) 23)) && x6) && x7) (packet_Canon z (List.set x4 (21 : Int).toNat 1))) fun x8 =>
    some ((((((((cm .eql x1.2 0) && (cm .eql x2.2 0)) && (cm .eql x3.2 7)) && (cm .eql (packet_Size (Packet.mk (Head.mk true true false 96 0 0 0 []) 48862 [1, 2, 3, 4] [7] 2)) 23)) && x6) && x7) && (!x8)) && (packet_Right (Packet.mk (Head.mk true true false 96 0 0 0 []) 48862 [1, 2, 3, 4] [7] 2)))

def ref06_Short (p : Packet) : Bool :=
  (((cm .leq (p.head.csrc.length : Int) 99) && (cm .leq (p.ext.length : Int) 300000)) && (cm .leq (p.payload.length : Int) 70000))

def ref05_Right (p_h : Head) : Bool :=
  (((cm .geq p_h.type 0) && (cm .lss p_h.type 128)) && (cm .lss (p_h.csrc.length : Int) 16))

def ref06_Size_j2 (v2 : Int) : Int :=
  v2

def ref06_Size_j1 (p : Packet) (v1 : Int) : Int :=
  if p.head.hasPad then
  ref06_Size_j2 (ar .add .i64 v1 p.pad)
else
  ref06_Size_j2 v1

def ref06_Size (p : Packet) : Int :=
  if p.head.hasExt then
  ref06_Size_j1 p (ar .add .i64 (ar .add .i64 (ar .add .i64 (ar .add .i64 12 (ar .mul .i64 4 (p.head.csrc.length : Int))) (p.payload.length : Int)) 4) (p.ext.length : Int))
else
  ref06_Size_j1 p (ar .add .i64 (ar .add .i64 12 (ar .mul .i64 4 (p.head.csrc.length : Int))) (p.payload.length : Int))

def ref06_Right (p : Packet) : Bool :=
  if ((((!(ref05_Right p.head)) || (cm .gtr (p.payload.length : Int) 65535)) || (cm .gtr (p.ext.length : Int) 262140)) || (cm .neq (dv .rem .i64 (p.ext.length : Int) 4) 0)) then
  false
else
  if ((!p.head.hasExt) && ((cm .neq p.profile 0) || (cm .gtr (p.ext.length : Int) 0))) then
    false
  else
    if ((p.head.hasPad && ((cm .lss p.pad 1) || (cm .gtr p.pad 255))) || ((!p.head.hasPad) && (cm .neq p.pad 0))) then
      false
    else
      (cm .leq (ref06_Size p) 65535)

noncomputable def ref01_Put_s1 (z : Option Nat) (n : Int) (v2 : Int) (v3 : List Int) (v4 : Int) : Option (((Int × List Int × Int) ⊕ (List Int × Int))) :=
  if (cm .lss v4 n) then
  Option.bind (ix v3 (ar .sub .i64 (ar .sub .i64 n 1) v4)) fun x5 =>
    some (Sum.inl ((dv .quo .u64 v2 256), (List.set v3 ((ar .sub .i64 (ar .sub .i64 n 1) v4) : Int).toNat (IntKind.u8.wrap (dv .rem .u64 v2 256))), (ar .add .i64 v4 1)))
else
  Option.map Sum.inr (if (cm .gtr v2 0) then
    some ([], 6)
  else
    some (v3, 0))

noncomputable def ref01_Put_l1 (z : Option Nat) (n : Int) (v2 : Int) (v3 : List Int) (v4 : Int) : Option (List Int × Int) :=
  loopG z (fun (s : Int × List Int × Int) => ref01_Put_s1 z n s.1 s.2.1 s.2.2) (v2, v3, v4)

noncomputable def ref01_Put (z : Option Nat) (v : Int) (n : Int) : Option (List Int × Int) :=
  if ((cm .lss n 1) || (cm .gtr n 8)) then
  some ([], 1)
else
  Option.bind (mkL (0 : Int) n n) fun x1 =>
    ref01_Put_l1 z n v x1 0

noncomputable def ref01_Must (z : Option Nat) (v : Int) (n : Int) : Option (List Int) :=
  Option.bind (ref01_Put z v n) fun x1 =>
  some x1.1

noncomputable def ref05_Write_s4 (z : Option Nat) (p_h : Head) (v10 : List Int) (v11 : Int) : Option (((List Int × Int) ⊕ (List Int))) :=
  if (cm .lss v11 (p_h.csrc.length : Int)) then
  Option.bind (ix p_h.csrc v11) fun x12 =>
    Option.bind (ref01_Must z (IntKind.u64.wrap x12) 4) fun x13 =>
    Option.bind (app v10 x13) fun x14 =>
    some (Sum.inl (x14, (ar .add .i64 v11 1)))
else
  Option.map Sum.inr (some v10)

noncomputable def ref05_Write_l4 (z : Option Nat) (p_h : Head) (v10 : List Int) (v11 : Int) : Option (List Int) :=
  loopG z (fun (s : List Int × Int) => ref05_Write_s4 z p_h s.1 s.2) (v10, v11)

noncomputable def ref05_Write_j3 (z : Option Nat) (p_h : Head) (v2 : Int) (v3 : Int) : Option (List Int) :=
  Option.bind (ref01_Must z (IntKind.u64.wrap p_h.seq) 2) fun x4 =>
  Option.bind (app [(IntKind.u8.wrap v2), (IntKind.u8.wrap v3)] x4) fun x5 =>
  Option.bind (ref01_Must z (IntKind.u64.wrap p_h.time) 4) fun x6 =>
  Option.bind (app x5 x6) fun x7 =>
  Option.bind (ref01_Must z (IntKind.u64.wrap p_h.ssrc) 4) fun x8 =>
  Option.bind (app x7 x8) fun x9 =>
  ref05_Write_l4 z p_h x9 0

noncomputable def ref05_Write_j2 (z : Option Nat) (p_h : Head) (v2 : Int) : Option (List Int) :=
  if p_h.marker then
  ref05_Write_j3 z p_h v2 (ar .add .i64 p_h.type 128)
else
  ref05_Write_j3 z p_h v2 p_h.type

noncomputable def ref05_Write_j1 (z : Option Nat) (p_h : Head) (v1 : Int) : Option (List Int) :=
  if p_h.hasExt then
  ref05_Write_j2 z p_h (ar .add .i64 v1 16)
else
  ref05_Write_j2 z p_h v1

noncomputable def ref05_Write (z : Option Nat) (p_h : Head) : Option (List Int) :=
  if p_h.hasPad then
  ref05_Write_j1 z p_h (ar .add .i64 (ar .add .i64 128 (p_h.csrc.length : Int)) 32)
else
  ref05_Write_j1 z p_h (ar .add .i64 128 (p_h.csrc.length : Int))

noncomputable def ref03_Add_s1 (z : Option Nat) (n : Int) (v2 : List Int) (v3 : Int) : Option (((List Int × Int) ⊕ (List Int))) :=
  if (cm .lss v3 n) then
  Option.bind (app v2 [0]) fun x4 =>
    some (Sum.inl (x4, (ar .add .i64 v3 1)))
else
  Option.map Sum.inr (Option.bind (app v2 [(IntKind.u8.wrap n)]) fun x5 =>
    some x5)

noncomputable def ref03_Add_l1 (z : Option Nat) (n : Int) (v2 : List Int) (v3 : Int) : Option (List Int) :=
  loopG z (fun (s : List Int × Int) => ref03_Add_s1 z n s.1 s.2) (v2, v3)

noncomputable def ref03_Add (z : Option Nat) (b : List Int) (n : Int) : Option (List Int) :=
  Option.bind (app ([] : List Int) b) fun x1 =>
  ref03_Add_l1 z n x1 1

noncomputable def ref06_Write_j2 (z : Option Nat) (v4 : List Int) : Option (List Int) :=
  some v4

noncomputable def ref06_Write_j1 (z : Option Nat) (p : Packet) (v2 : List Int) : Option (List Int) :=
  Option.bind (app v2 p.payload) fun x3 =>
  if p.head.hasPad then
  Option.bind (ref03_Add z x3 p.pad) fun x5 =>
    ref06_Write_j2 z x5
else
  ref06_Write_j2 z x3

noncomputable def ref06_Write (z : Option Nat) (p : Packet) : Option (List Int) :=
  Option.bind (ref05_Write z p.head) fun x1 =>
  if p.head.hasExt then
  Option.bind (ref01_Must z (IntKind.u64.wrap p.profile) 2) fun x6 =>
    Option.bind (app x1 x6) fun x7 =>
    Option.bind (ref01_Must z (IntKind.u64.wrap (dv .quo .i64 (p.ext.length : Int) 4)) 2) fun x8 =>
    Option.bind (app x7 x8) fun x9 =>
    Option.bind (app x9 p.ext) fun x10 =>
    ref06_Write_j1 z p x10
else
  ref06_Write_j1 z p x1

noncomputable def ref01_Get_s1 (z : Option Nat) (b : List Int) (at_ : Int) (n : Int) (v1 : Int) (v2 : Int) : Option (((Int × Int) ⊕ (Int × Int))) :=
  if (cm .lss v2 n) then
  Option.bind (ix b (ar .add .i64 at_ v2)) fun x3 =>
    some (Sum.inl ((ar .add .u64 (ar .mul .u64 256 v1) (IntKind.u64.wrap x3)), (ar .add .i64 v2 1)))
else
  Option.map Sum.inr (some (v1, 0))

noncomputable def ref01_Get_l1 (z : Option Nat) (b : List Int) (at_ : Int) (n : Int) (v1 : Int) (v2 : Int) : Option (Int × Int) :=
  loopG z (fun (s : Int × Int) => ref01_Get_s1 z b at_ n s.1 s.2) (v1, v2)

noncomputable def ref01_Get (z : Option Nat) (b : List Int) (at_ : Int) (n : Int) : Option (Int × Int) :=
  if (((cm .lss n 1) || (cm .gtr n 8)) || (cm .lss at_ 0)) then
  some (0, 1)
else
  if ((cm .gtr at_ (b.length : Int)) || (cm .lss (ar .sub .i64 (b.length : Int) at_) n)) then
    some (0, 2)
  else
    ref01_Get_l1 z b at_ n 0 0

noncomputable def ref05_Num (z : Option Nat) (b : List Int) (at_ : Int) (n : Int) : Option (Int) :=
  Option.bind (ref01_Get z b at_ n) fun x1 =>
  some (IntKind.u32.wrap x1.1)

noncomputable def ref05_Read_s1 (z : Option Nat) (b : List Int) (x2 : Int) (v10 : Int) (v11 : Head) : Option (((Int × Head) ⊕ (Head × Int × Int))) :=
  if (cm .lss v10 (IntKind.i64.wrap (dv .rem .u8 x2 16))) then
  Option.bind (ref05_Num z b (ar .add .i64 12 (ar .mul .i64 4 v10)) 4) fun x12 =>
    Option.bind (app v11.csrc [x12]) fun x13 =>
    some (Sum.inl ((ar .add .i64 v10 1), { v11 with csrc := x13 }))
else
  Option.map Sum.inr (some (v11, (ar .add .i64 12 (ar .mul .i64 4 (IntKind.i64.wrap (dv .rem .u8 x2 16)))), 0))

noncomputable def ref05_Read_l1 (z : Option Nat) (b : List Int) (x2 : Int) (v10 : Int) (v11 : Head) : Option (Head × Int × Int) :=
  loopG z (fun (s : Int × Head) => ref05_Read_s1 z b x2 s.1 s.2) (v10, v11)

noncomputable def ref05_Read (z : Option Nat) (b : List Int) : Option (Head × Int × Int) :=
  if (cm .lss (b.length : Int) 12) then
  some ((Head.mk false false false 0 0 0 0 []), 0, 2)
else
  Option.bind (ix b 0) fun x1 =>
    if (cm .neq (dv .quo .u8 x1 64) 2) then
    some ((Head.mk false false false 0 0 0 0 []), 0, 3)
  else
    Option.bind (ix b 0) fun x2 =>
      if (cm .lss (b.length : Int) (ar .add .i64 12 (ar .mul .i64 4 (IntKind.i64.wrap (dv .rem .u8 x2 16))))) then
      some ((Head.mk false false false 0 0 0 0 []), 0, 2)
    else
      Option.bind (ix b 1) fun x3 =>
        Option.bind (ix b 1) fun x4 =>
        Option.bind (ix b 0) fun x5 =>
        Option.bind (ix b 0) fun x6 =>
        Option.bind (ref05_Num z b 2 2) fun x7 =>
        Option.bind (ref05_Num z b 4 4) fun x8 =>
        Option.bind (ref05_Num z b 8 4) fun x9 =>
        ref05_Read_l1 z b x2 0 (Head.mk (cm .eql (dv .rem .u8 (dv .quo .u8 x5 32) 2) 1) (cm .eql (dv .rem .u8 (dv .quo .u8 x6 16) 2) 1) (cm .geq x4 128) (IntKind.i64.wrap (dv .rem .u8 x3 128)) (IntKind.u16.wrap x7) x8 x9 ([] : List Int))

def ref03_Trail (b : List Int) : Option (Int) :=
  if (cm .eql (b.length : Int) 0) then
  some 0
else
  Option.bind (ix b (ar .sub .i64 (b.length : Int) 1)) fun x1 =>
    if (cm .gtr (IntKind.i64.wrap x1) (b.length : Int)) then
    some 0
  else
    some (IntKind.i64.wrap x1)

noncomputable def ref06_Read_j2 (z : Option Nat) (b : List Int) (v2 : Int) (v5 : Packet) (v6 : Packet) : Option (Packet × Int) :=
  Option.bind (sub b v2 (ar .sub .i64 (b.length : Int) v6.pad)) fun x7 =>
  Option.bind (app ([] : List Int) x7) fun x8 =>
  some ({ v6 with payload := x8 }, 0)

noncomputable def ref06_Read_j1 (z : Option Nat) (b : List Int) (x1 : Head × Int × Int) (v2 : Int) (v3 : Packet) (v4 : Packet) : Option (Packet × Int) :=
  if x1.1.hasPad then
  Option.bind (sub b v2 (b.length : Int)) fun x9 =>
    Option.bind (ref03_Trail x9) fun x10 =>
    if (cm .eql x10 0) then
    some ((Packet.mk (Head.mk false false false 0 0 0 0 []) 0 [] [] 0), 5)
  else
    ref06_Read_j2 z b v2 v3 ({ v4 with pad := x10 })
else
  ref06_Read_j2 z b v2 v3 v4

noncomputable def ref06_Read (z : Option Nat) (b : List Int) : Option (Packet × Int) :=
  if (cm .gtr (b.length : Int) 65535) then
  some ((Packet.mk (Head.mk false false false 0 0 0 0 []) 0 [] [] 0), 4)
else
  Option.bind (ref05_Read z b) fun x1 =>
    if (cm .neq x1.2.2 0) then
    some ((Packet.mk (Head.mk false false false 0 0 0 0 []) 0 [] [] 0), x1.2.2)
  else
    if x1.1.hasExt then
      if (cm .lss (ar .sub .i64 (b.length : Int) x1.2.1) 4) then
        some ((Packet.mk (Head.mk false false false 0 0 0 0 []) 0 [] [] 0), 2)
      else
        Option.bind (ref05_Num z b (ar .add .i64 x1.2.1 2) 2) fun x11 =>
          if (cm .lss (ar .sub .i64 (ar .sub .i64 (b.length : Int) x1.2.1) 4) (ar .mul .i64 4 (IntKind.i64.wrap x11))) then
          some ((Packet.mk (Head.mk false false false 0 0 0 0 []) 0 [] [] 0), 2)
        else
          Option.bind (ref05_Num z b x1.2.1 2) fun x12 =>
            Option.bind (sub b (ar .add .i64 x1.2.1 4) (ar .add .i64 (ar .add .i64 x1.2.1 4) (ar .mul .i64 4 (IntKind.i64.wrap x11)))) fun x13 =>
            Option.bind (app ([] : List Int) x13) fun x14 =>
            ref06_Read_j1 z b x1 (ar .add .i64 (ar .add .i64 x1.2.1 4) (ar .mul .i64 4 (IntKind.i64.wrap x11))) (Packet.mk (Head.mk false false false 0 0 0 0 []) 0 [] [] 0) (Packet.mk x1.1 (IntKind.u16.wrap x12) x14 [] 0)
    else
      ref06_Read_j1 z b x1 x1.2.1 (Packet.mk (Head.mk false false false 0 0 0 0 []) 0 [] [] 0) (Packet.mk x1.1 0 [] [] 0)

noncomputable def ref06_Canon (z : Option Nat) (b : List Int) : Option (Bool) :=
  Option.bind (ref06_Read z b) fun x1 =>
  Option.bind (gT (cm .eql x1.2 0) (ref06_Write z x1.1)) fun x2 =>
  some ((cm .eql x1.2 0) && (sc .eql (b2s x2) (b2s b)))

noncomputable def law06_PacketRight_j1 (z : Option Nat) (p : Packet) (b : List Int) : Option (Bool) :=
  Option.bind (packet_Read z b) fun x2 =>
  Option.bind (ref06_Read z b) fun x3 =>
  Option.bind (gT ((bq .eql (packet_Right p) (ref06_Right p)) && (cm .eql x2.2 x3.2)) (ref06_Same z x2.1 x3.1)) fun x4 =>
  Option.bind (gT (((bq .eql (packet_Right p) (ref06_Right p)) && (cm .eql x2.2 x3.2)) && x4) (packet_Canon z b)) fun x5 =>
  Option.bind (gT (((bq .eql (packet_Right p) (ref06_Right p)) && (cm .eql x2.2 x3.2)) && x4) (ref06_Canon z b)) fun x6 =>
  some ((((bq .eql (packet_Right p) (ref06_Right p)) && (cm .eql x2.2 x3.2)) && x4) && (bq .eql x5 x6))

noncomputable def law06_PacketRight (z : Option Nat) (p : Packet) (room : Int) (b : List Int) : Option (Bool) :=
  if ((!(ref06_Short p)) || (cm .gtr (b.length : Int) 70000)) then
  some true
else
  Option.bind (packet_Write z p room) fun x1 =>
    if (!(ref06_Right p)) then
    if (((cm .neq x1.2 1) || (cm .neq (x1.1.length : Int) 0)) || (cm .neq (packet_Size p) 0)) then
      some false
    else
      law06_PacketRight_j1 z p b
  else
    if (cm .gtr (ref06_Size p) room) then
      if (((cm .neq x1.2 7) || (cm .neq (x1.1.length : Int) 0)) || (cm .neq (packet_Size p) (ref06_Size p))) then
        some false
      else
        law06_PacketRight_j1 z p b
    else
      Option.bind (gT (!(cm .neq x1.2 0)) (ref06_Write z p)) fun x7 =>
        if (((cm .neq x1.2 0) || (sc .neq (b2s x1.1) (b2s x7))) || (cm .neq (packet_Size p) (x1.1.length : Int))) then
        some false
      else
        law06_PacketRight_j1 z p b

noncomputable def law06_PacketBack_j1 (z : Option Nat) (b : List Int) : Option (Bool) :=
  Option.bind (packet_Read z b) fun x2 =>
  if (cm .neq x2.2 0) then
  Option.bind (packet_Canon z b) fun x3 =>
    Option.bind (gT (!x3) (ref06_Same z x2.1 (Packet.mk (Head.mk false false false 0 0 0 0 []) 0 [] [] 0))) fun x4 =>
    some ((!x3) && x4)
else
  Option.bind (packet_Write z x2.1 (b.length : Int)) fun x5 =>
    Option.bind (gT (!(((cm .neq x5.2 0) || (!(packet_Right x2.1))) || (cm .neq (x5.1.length : Int) (b.length : Int)))) (packet_Canon z b)) fun x6 =>
    if ((((cm .neq x5.2 0) || (!(packet_Right x2.1))) || (cm .neq (x5.1.length : Int) (b.length : Int))) || (bq .neq x6 (sc .eql (b2s x5.1) (b2s b)))) then
    some false
  else
    Option.bind (packet_Read z x5.1) fun x7 =>
      Option.bind (gT (cm .eql x7.2 0) (ref06_Same z x2.1 x7.1)) fun x8 =>
      some ((cm .eql x7.2 0) && x8)

noncomputable def law06_PacketBack (z : Option Nat) (p : Packet) (b : List Int) : Option (Bool) :=
  if ((!(ref06_Short p)) || (cm .gtr (b.length : Int) 70000)) then
  some true
else
  Option.bind (packet_Write z p 65535) fun x1 =>
    if (cm .eql x1.2 0) then
    Option.bind (packet_Read z x1.1) fun x9 =>
      Option.bind (gT (!(cm .neq x9.2 0)) (ref06_Same z p x9.1)) fun x10 =>
      Option.bind (gT (!((cm .neq x9.2 0) || (!x10))) (packet_Canon z x1.1)) fun x11 =>
      if (((((cm .neq x9.2 0) || (!x10)) || (!x11)) || (cm .neq (x1.1.length : Int) (packet_Size p))) || (cm .gtr (x1.1.length : Int) 65535)) then
      some false
    else
      law06_PacketBack_j1 z b
  else
    if (packet_Right p) then
      some false
    else
      law06_PacketBack_j1 z b

noncomputable def law06_PacketCut (z : Option Nat) (p : Packet) (cut : Int) (more : List Int) : Option (Bool) :=
  if ((((!(ref06_Short p)) || (cm .gtr (more.length : Int) 3000)) || (cm .gtr (p.payload.length : Int) 3000)) || (cm .gtr (p.ext.length : Int) 3000)) then
  some true
else
  Option.bind (packet_Write z p 65535) fun x1 =>
    if ((cm .neq x1.2 0) || (cm .eql (x1.1.length : Int) 0)) then
    some (cm .neq x1.2 0)
  else
    Option.bind (dvO .rem .i64 (IntKind.i64.wrap cut) (x1.1.length : Int)) fun x2 =>
      Option.bind (sub x1.1 0 x2) fun x3 =>
      Option.bind (packet_Read z x3) fun x4 =>
      Option.bind (gT (cm .eql x4.2 0) (ref06_Same z p x4.1)) fun x5 =>
      if (((cm .eql x4.2 0) && (x5 || (cm .neq (packet_Size x4.1) x2))) || (((cm .neq x4.2 0) && (cm .neq x4.2 2)) && (cm .neq x4.2 5))) then
      some false
    else
      if ((cm .lss x2 12) && (cm .neq x4.2 2)) then
        some false
      else
        Option.bind (app ([] : List Int) x1.1) fun x6 =>
          Option.bind (app x6 more) fun x7 =>
          Option.bind (packet_Read z x7) fun x8 =>
          if (cm .eql (more.length : Int) 0) then
          Option.bind (gT (cm .eql x8.2 0) (ref06_Same z p x8.1)) fun x9 =>
            some ((cm .eql x8.2 0) && x9)
        else
          Option.bind (gT (cm .eql x8.2 0) (ref06_Same z p x8.1)) fun x10 =>
            some (((cm .eql x8.2 0) && (!x10)) || ((cm .eql x8.2 5) && p.head.hasPad))

end Xb
