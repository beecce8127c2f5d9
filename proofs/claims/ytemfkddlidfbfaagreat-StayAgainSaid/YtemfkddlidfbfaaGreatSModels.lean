/- Own text: SModels. -/
import Derived.Test.YtemfkddlidfbfaaGreatSTypes
set_option linter.all false
set_option linter.unusedVariables false
set_option linter.unusedSimpArgs false
set_option linter.unnecessarySimpa false
set_option linter.deprecated false
namespace Xb
open Go
set_option linter.unusedVariables false

def octet_sized (n : Int) : Bool :=
  ((cm .geq n 1) && (cm .leq n 8))

def octet_there (b : List Int) (at_ : Int) (n : Int) : Bool :=
  ((cm .leq at_ (b.length : Int)) && (cm .leq n (ar .sub .i64 (b.length : Int) at_)))

noncomputable def octet_Get_s2 (z : Option Nat) (x2 : List Int) (v3 : Int) (v4 : Int) : Option (((Int × Int) ⊕ (Int × Int))) :=
  if (cm .lss v4 (x2.length : Int)) then
  Option.bind (ix x2 v4) fun x5 =>
    some (Sum.inl ((ar .or .u64 (sf .shl .u64 v3 8) (IntKind.u64.wrap x5)), (ar .add .i64 v4 1)))
else
  Option.map Sum.inr (some (v3, 0))

noncomputable def octet_Get_l2 (z : Option Nat) (x2 : List Int) (v3 : Int) (v4 : Int) : Option (Int × Int) :=
  loopG z (fun (s : Int × Int) => octet_Get_s2 z x2 s.1 s.2) (v3, v4)

noncomputable def octet_Get_j1 (z : Option Nat) (b : List Int) (at_ : Int) (n : Int) (v1 : Bool) : Option (Int × Int) :=
  if v1 then
  some (0, 1)
else
  if (!(octet_there b at_ n)) then
    some (0, 2)
  else
    Option.bind (sub b at_ (ar .add .i64 at_ n)) fun x2 =>
      octet_Get_l2 z x2 0 0

noncomputable def octet_Get (z : Option Nat) (b : List Int) (at_ : Int) (n : Int) : Option (Int × Int) :=
  if (!(octet_sized n)) then
  octet_Get_j1 z b at_ n (!(octet_sized n))
else
  octet_Get_j1 z b at_ n (cm .lss at_ 0)

noncomputable def head_number (z : Option Nat) (b : List Int) : Option (Int) :=
  Option.bind (octet_Get z b 0 (b.length : Int)) fun x1 =>
  some (IntKind.u32.wrap x1.1)

noncomputable def head_Read_s1 (z : Option Nat) (y1 : List Int) (v15 : Head) : Option (((Head) ⊕ (Head × Int × Int))) :=
  Option.bind (head_number z y1) fun x16 =>
  Option.bind (app v15.csrc [x16]) fun x17 =>
  some (Sum.inl ({ v15 with csrc := x17 }))

noncomputable def head_Read_d1 (z : Option Nat) (x2 : Int) (v15 : Head) : Option (Head × Int × Int) :=
  some (v15, (ar .add .i64 12 (ar .mul .i64 4 (IntKind.i64.wrap (ar .and .u8 x2 15)))), 0)

noncomputable def head_Read_l1 (z : Option Nat) (x2 : Int) (x13 : List Int) (v15 : Head) : Option (Head × Int × Int) :=
  foldX (fun (y1 : List Int) (s : Head) => head_Read_s1 z y1 s) (fun (s : Head) => head_Read_d1 z x2 s) (chunksL 4 x13) (v15)

noncomputable def head_Read (z : Option Nat) (b : List Int) : Option (Head × Int × Int) :=
  if (cm .lss (b.length : Int) 12) then
  some ((Head.mk false false false 0 0 0 0 []), 0, 2)
else
  Option.bind (ix b 0) fun x1 =>
    if (cm .neq (sf .shr .u8 x1 6) 2) then
    some ((Head.mk false false false 0 0 0 0 []), 0, 3)
  else
    Option.bind (ix b 0) fun x2 =>
      if (cm .lss (b.length : Int) (ar .add .i64 12 (ar .mul .i64 4 (IntKind.i64.wrap (ar .and .u8 x2 15))))) then
      some ((Head.mk false false false 0 0 0 0 []), 0, 2)
    else
      Option.bind (ix b 0) fun x3 =>
        Option.bind (ix b 0) fun x4 =>
        Option.bind (ix b 1) fun x5 =>
        Option.bind (ix b 1) fun x6 =>
        Option.bind (sub b 2 4) fun x7 =>
        Option.bind (head_number z x7) fun x8 =>
        Option.bind (sub b 4 8) fun x9 =>
        Option.bind (head_number z x9) fun x10 =>
        Option.bind (sub b 8 12) fun x11 =>
        Option.bind (head_number z x11) fun x12 =>
        Option.bind (sub b 12 (ar .add .i64 12 (ar .mul .i64 4 (IntKind.i64.wrap (ar .and .u8 x2 15))))) fun x13 =>
        Option.bind (lnO x13) fun x14 =>
        head_Read_l1 z x2 x13 (Head.mk (cm .gtr (ar .and .u8 x3 32) 0) (cm .gtr (ar .and .u8 x4 16) 0) (cm .gtr (ar .and .u8 x5 128) 0) (IntKind.i64.wrap (ar .and .u8 x6 127)) (IntKind.u16.wrap x8) x10 x12 ([] : List Int))

def slices_Clone (l : List Int) : Option (List Int) := app [] l

def octet_Part_j1 (b : List Int) (at_ : Int) (n : Int) (v1 : Bool) : Option (List Int × Int) :=
  if v1 then
  some ([], 1)
else
  if (!(octet_there b at_ n)) then
    some ([], 2)
  else
    Option.bind (sub b at_ (ar .add .i64 at_ n)) fun x2 =>
      Option.bind (slices_Clone x2) fun x3 =>
      some (x3, 0)

def octet_Part (b : List Int) (at_ : Int) (n : Int) : Option (List Int × Int) :=
  if (cm .lss n 0) then
  octet_Part_j1 b at_ n (cm .lss n 0)
else
  octet_Part_j1 b at_ n (cm .lss at_ 0)

noncomputable def packet_extension (z : Option Nat) (b : List Int) : Option (Int × List Int × List Int × Int) :=
  Option.bind (octet_Get z b 0 2) fun x1 =>
  Option.bind (octet_Get z b 2 2) fun x2 =>
  if (cm .neq x2.2 0) then
  some (0, ([] : List Int), ([] : List Int), x2.2)
else
  Option.bind (octet_Part b 4 (ar .mul .i64 4 (IntKind.i64.wrap x2.1))) fun x3 =>
    if (cm .neq x3.2 0) then
    some (0, ([] : List Int), ([] : List Int), x3.2)
  else
    Option.bind (sub b (ar .add .i64 4 (x3.1.length : Int)) (b.length : Int)) fun x4 =>
      some ((IntKind.u16.wrap x1.1), x3.1, x4, 0)

def pad_Trail (b : List Int) : Option (Int × Int) :=
  if (cm .eql (b.length : Int) 0) then
  some (0, 5)
else
  Option.bind (ix b (ar .sub .i64 (b.length : Int) 1)) fun x1 =>
    if ((cm .eql (IntKind.i64.wrap x1) 0) || (cm .gtr (IntKind.i64.wrap x1) (b.length : Int))) then
    some (0, 5)
  else
    some ((IntKind.i64.wrap x1), 0)

noncomputable def packet_read_j2 (z : Option Nat) (v3 : List Int) (v6 : Packet) (v7 : Packet) : Option (Packet × List Int × Int) :=
  Option.bind (sub v3 0 (ar .sub .i64 (v3.length : Int) v7.pad)) fun x8 =>
  Option.bind (app ([] : List Int) x8) fun x9 =>
  some ({ v7 with payload := x9 }, v3, 0)

noncomputable def packet_read_j1 (z : Option Nat) (x1 : Head × Int × Int) (v3 : List Int) (v4 : Packet) (v5 : Packet) : Option (Packet × List Int × Int) :=
  if x1.1.hasPad then
  Option.bind (pad_Trail v3) fun x10 =>
    if (cm .neq x10.2 0) then
    some ({ v5 with pad := x10.1 }, ([] : List Int), x10.2)
  else
    packet_read_j2 z v3 v4 ({ v5 with pad := x10.1 })
else
  packet_read_j2 z v3 v4 v5

noncomputable def packet_read (z : Option Nat) (b : List Int) : Option (Packet × List Int × Int) :=
  if (cm .gtr (b.length : Int) 65535) then
  some ((Packet.mk (Head.mk false false false 0 0 0 0 []) 0 [] [] 0), ([] : List Int), 4)
else
  Option.bind (head_Read z b) fun x1 =>
    if (cm .neq x1.2.2 0) then
    some ((Packet.mk (Head.mk false false false 0 0 0 0 []) 0 [] [] 0), ([] : List Int), x1.2.2)
  else
    Option.bind (sub b x1.2.1 (b.length : Int)) fun x2 =>
      if x1.1.hasExt then
      Option.bind (packet_extension z x2) fun x11 =>
        if (cm .neq x11.2.2.2 0) then
        some ((Packet.mk x1.1 x11.1 x11.2.1 [] 0), ([] : List Int), x11.2.2.2)
      else
        packet_read_j1 z x1 x11.2.2.1 (Packet.mk (Head.mk false false false 0 0 0 0 []) 0 [] [] 0) (Packet.mk x1.1 x11.1 x11.2.1 [] 0)
    else
      packet_read_j1 z x1 x2 (Packet.mk (Head.mk false false false 0 0 0 0 []) 0 [] [] 0) (Packet.mk x1.1 0 [] [] 0)

noncomputable def packet_Read (z : Option Nat) (b : List Int) : Option (Packet × Int) :=
  Option.bind (packet_read z b) fun x1 =>
  if (cm .neq x1.2.2 0) then
  some ((Packet.mk (Head.mk false false false 0 0 0 0 []) 0 [] [] 0), x1.2.2)
else
  some (x1.1, 0)

def head_Right (p_h : Head) : Bool :=
  (((cm .geq p_h.type 0) && (cm .leq p_h.type 127)) && (cm .leq (p_h.csrc.length : Int) 15))

def packet_extended (p : Packet) : Bool :=
  if (!p.head.hasExt) then
  ((cm .eql p.profile 0) && (cm .eql (p.ext.length : Int) 0))
else
  ((cm .eql (dv .rem .i64 (p.ext.length : Int) 4) 0) && (cm .leq (dv .quo .i64 (p.ext.length : Int) 4) 65535))

def packet_padded (p : Packet) : Bool :=
  if (!p.head.hasPad) then
  (cm .eql p.pad 0)
else
  ((cm .geq p.pad 1) && (cm .leq p.pad 255))

def head_Size (p_h : Head) : Int :=
  if (!(head_Right p_h)) then
  0
else
  (ar .add .i64 12 (ar .mul .i64 4 (p_h.csrc.length : Int)))

def packet_total_j1 (v1 : Int) : Int :=
  v1

def packet_total (p : Packet) : Int :=
  if p.head.hasExt then
  packet_total_j1 (ar .add .i64 (ar .add .i64 (ar .add .i64 (ar .add .i64 (head_Size p.head) (p.ext.length : Int)) (p.payload.length : Int)) p.pad) 4)
else
  packet_total_j1 (ar .add .i64 (ar .add .i64 (ar .add .i64 (head_Size p.head) (p.ext.length : Int)) (p.payload.length : Int)) p.pad)

def packet_Right (p : Packet) : Bool :=
  (((((head_Right p.head) && (packet_extended p)) && (packet_padded p)) && (cm .leq (p.payload.length : Int) 65535)) && (cm .leq (packet_total p) 65535))

def plan_single_j1 (p : Plan) (v1 : Bool) : Bool :=
  if v1 then
  false
else
  ((cm .geq p.type 0) && (cm .leq p.type 127))

def plan_single (p : Plan) : Bool :=
  if ((!p.setMarker) && p.marker) then
  plan_single_j1 p ((!p.setMarker) && p.marker)
else
  if ((!p.setType) && (cm .neq p.type 0)) then
    plan_single_j1 p ((!p.setType) && (cm .neq p.type 0))
  else
    if ((!p.setSeq) && (cm .neq p.seq 0)) then
      plan_single_j1 p ((!p.setSeq) && (cm .neq p.seq 0))
    else
      if ((!p.setTime) && (cm .neq p.time 0)) then
        plan_single_j1 p ((!p.setTime) && (cm .neq p.time 0))
      else
        plan_single_j1 p ((!p.setSsrc) && (cm .neq p.ssrc 0))

def plan_from (m : GMap) : Int :=
  m.from_

noncomputable def plan_apart_s1 (z : Option Nat) (l : List Int) (v1 : List (Int × Int)) (v2 : Int) : Option ((((List (Int × Int)) × Int) ⊕ (Bool))) :=
  if (cm .lss v2 (l.length : Int)) then
  Option.bind (ix l v2) fun x3 =>
    Option.bind (mputO v1 x3 (ar .add .i64 (mgetD v1 x3 0) 1)) fun x4 =>
    if (((cm .lss x3 1) || (cm .gtr x3 255)) || (cm .gtr (mgetD x4 x3 0) 1)) then
    Option.map Sum.inr (some false)
  else
    some (Sum.inl (x4, (ar .add .i64 v2 1)))
else
  Option.map Sum.inr (some true)

noncomputable def plan_apart_l1 (z : Option Nat) (l : List Int) (v1 : List (Int × Int)) (v2 : Int) : Option (Bool) :=
  loopG z (fun (s : (List (Int × Int)) × Int) => plan_apart_s1 z l s.1 s.2) (v1, v2)

noncomputable def plan_apart (z : Option Nat) (l : List Int) : Option (Bool) :=
  plan_apart_l1 z l ([] : List (Int × Int)) 0

def plan_to (m : GMap) : Int :=
  m.to

noncomputable def elem_Right_s1 (z : Option Nat) (l : List Elem) (v1 : List (Int × Bool)) (v2 : Int) : Option ((((List (Int × Bool)) × Int) ⊕ (Bool))) :=
  if (cm .lss v2 (l.length : Int)) then
  Option.bind (ix l v2) fun x3 =>
    if ((((cm .lss x3.id_ 1) || (cm .gtr x3.id_ 255)) || (cm .gtr (x3.data.length : Int) 255)) || (mgetD v1 x3.id_ false)) then
    Option.map Sum.inr (some false)
  else
    Option.bind (mputO v1 x3.id_ true) fun x4 =>
      some (Sum.inl (x4, (ar .add .i64 v2 1)))
else
  Option.map Sum.inr (some true)

noncomputable def elem_Right_l1 (z : Option Nat) (l : List Elem) (v1 : List (Int × Bool)) (v2 : Int) : Option (Bool) :=
  loopG z (fun (s : (List (Int × Bool)) × Int) => elem_Right_s1 z l s.1 s.2) (v1, v2)

noncomputable def elem_Right (z : Option Nat) (l : List Elem) : Option (Bool) :=
  elem_Right_l1 z l ([] : List (Int × Bool)) 0

def plan_ident (x : Elem) : Int :=
  x.id_

noncomputable def slices_Index_s1 (z : Option Nat) (p_s : List Int) (v : Int) (v1 : Int) : Option (((Int) ⊕ (Int))) :=
  if (cm .lss v1 (p_s.length : Int)) then
  Option.bind (ix p_s v1) fun x2 =>
    if (cm .eql v x2) then
    Option.map Sum.inr (some v1)
  else
    some (Sum.inl (ar .add .i64 v1 1))
else
  Option.map Sum.inr (some (-1))

noncomputable def slices_Index_l1 (z : Option Nat) (p_s : List Int) (v : Int) (v1 : Int) : Option (Int) :=
  loopG z (fun (s : Int) => slices_Index_s1 z p_s v s) (v1)

noncomputable def slices_Index (z : Option Nat) (p_s : List Int) (v : Int) : Option (Int) :=
  slices_Index_l1 z p_s v 0

noncomputable def slices_Contains (z : Option Nat) (p_s : List Int) (v : Int) : Option (Bool) :=
  Option.bind (slices_Index z p_s v) fun x1 =>
  some (cm .geq x1 0)

noncomputable def plan_Right_1 (z : Option Nat) (id_ : Int) (cap0 : List Int) : Option (Bool) :=
  Option.bind (slices_Contains z cap0 id_) fun x1 =>
  some x1

noncomputable def slices_IndexFunc_int_s1 (z : Option Nat) (p_s : List Int) (f : (Int → Option Bool)) (v1 : Int) : Option (((Int) ⊕ (Int))) :=
  if (cm .lss v1 (p_s.length : Int)) then
  Option.bind (ix p_s v1) fun x2 =>
    Option.bind (f x2) fun x3 =>
    if x3 then
    Option.map Sum.inr (some v1)
  else
    some (Sum.inl (ar .add .i64 v1 1))
else
  Option.map Sum.inr (some (-1))

noncomputable def slices_IndexFunc_int_l1 (z : Option Nat) (p_s : List Int) (f : (Int → Option Bool)) (v1 : Int) : Option (Int) :=
  loopG z (fun (s : Int) => slices_IndexFunc_int_s1 z p_s f s) (v1)

noncomputable def slices_IndexFunc_int (z : Option Nat) (p_s : List Int) (f : (Int → Option Bool)) : Option (Int) :=
  slices_IndexFunc_int_l1 z p_s f 0

noncomputable def slices_ContainsFunc_int (z : Option Nat) (p_s : List Int) (f : (Int → Option Bool)) : Option (Bool) :=
  Option.bind (slices_IndexFunc_int z p_s f) fun x1 =>
  some (cm .geq x1 0)

noncomputable def plan_ids_Map_f0_s1 (z : Option Nat) (l : List GMap) (v1 : List Int) (v2 : Int) : Option (((List Int × Int) ⊕ (List Int))) :=
  if (cm .lss v2 (l.length : Int)) then
  Option.bind (ix l v2) fun x3 =>
    Option.bind (app v1 [(plan_from x3 )]) fun x4 =>
    some (Sum.inl (x4, (ar .add .i64 v2 1)))
else
  Option.map Sum.inr (some v1)

noncomputable def plan_ids_Map_f0_l1 (z : Option Nat) (l : List GMap) (v1 : List Int) (v2 : Int) : Option (List Int) :=
  loopG z (fun (s : List Int × Int) => plan_ids_Map_f0_s1 z l s.1 s.2) (v1, v2)

noncomputable def plan_ids_Map_f0 (z : Option Nat) (l : List GMap) : Option (List Int) :=
  plan_ids_Map_f0_l1 z l [] 0

noncomputable def plan_ids_Map_f1_s1 (z : Option Nat) (l : List GMap) (v1 : List Int) (v2 : Int) : Option (((List Int × Int) ⊕ (List Int))) :=
  if (cm .lss v2 (l.length : Int)) then
  Option.bind (ix l v2) fun x3 =>
    Option.bind (app v1 [(plan_to x3 )]) fun x4 =>
    some (Sum.inl (x4, (ar .add .i64 v2 1)))
else
  Option.map Sum.inr (some v1)

noncomputable def plan_ids_Map_f1_l1 (z : Option Nat) (l : List GMap) (v1 : List Int) (v2 : Int) : Option (List Int) :=
  loopG z (fun (s : List Int × Int) => plan_ids_Map_f1_s1 z l s.1 s.2) (v1, v2)

noncomputable def plan_ids_Map_f1 (z : Option Nat) (l : List GMap) : Option (List Int) :=
  plan_ids_Map_f1_l1 z l [] 0

noncomputable def plan_ids_Elem_f0_s1 (z : Option Nat) (l : List Elem) (v1 : List Int) (v2 : Int) : Option (((List Int × Int) ⊕ (List Int))) :=
  if (cm .lss v2 (l.length : Int)) then
  Option.bind (ix l v2) fun x3 =>
    Option.bind (app v1 [(plan_ident x3 )]) fun x4 =>
    some (Sum.inl (x4, (ar .add .i64 v2 1)))
else
  Option.map Sum.inr (some v1)

noncomputable def plan_ids_Elem_f0_l1 (z : Option Nat) (l : List Elem) (v1 : List Int) (v2 : Int) : Option (List Int) :=
  loopG z (fun (s : List Int × Int) => plan_ids_Elem_f0_s1 z l s.1 s.2) (v1, v2)

noncomputable def plan_ids_Elem_f0 (z : Option Nat) (l : List Elem) : Option (List Int) :=
  plan_ids_Elem_f0_l1 z l [] 0

noncomputable def plan_Right (z : Option Nat) (p : Plan) : Option (Bool) :=
  Option.bind (gT (!(!(plan_single p))) (plan_ids_Map_f0 z p.maps)) fun x1 =>
  Option.bind (gT (!(!(plan_single p))) (plan_apart z x1)) fun x2 =>
  Option.bind (gT (!((!(plan_single p)) || (!x2))) (plan_ids_Map_f1 z p.maps)) fun x3 =>
  Option.bind (gT (!((!(plan_single p)) || (!x2))) (plan_apart z x3)) fun x4 =>
  Option.bind (gT (!(((!(plan_single p)) || (!x2)) || (!x4))) (elem_Right z p.over)) fun x5 =>
  Option.bind (gT (!((((!(plan_single p)) || (!x2)) || (!x4)) || (!x5))) (elem_Right z p.adds)) fun x6 =>
  Option.bind (gT (!(((((!(plan_single p)) || (!x2)) || (!x4)) || (!x5)) || (!x6))) (plan_apart z p.drops)) fun x7 =>
  if ((((((!(plan_single p)) || (!x2)) || (!x4)) || (!x5)) || (!x6)) || (!x7)) then
  some false
else
  Option.bind (plan_ids_Map_f0 z p.maps) fun x8 =>
    Option.bind (plan_ids_Elem_f0 z p.over) fun x9 =>
    Option.bind (app x8 x9) fun x10 =>
    Option.bind (slices_ContainsFunc_int z p.drops (fun (y0 : Int) => plan_Right_1 z y0 x10)) fun x11 =>
    some (!x11)

def plan_turns (p : Plan) : Bool :=
  (cm .gtr (ar .add .i64 (p.drops.length : Int) (p.adds.length : Int)) 0)

def plan_Elements (p : Plan) : Bool :=
  ((cm .gtr (ar .add .i64 (p.maps.length : Int) (p.over.length : Int)) 0) || (plan_turns p))

def elem_walk (profile : Int) : I_elem_walker :=
  if (cm .eql profile 48862) then
  (I_elem_walker.c197 (elem_low.mk ))
else
  if (cm .eql (ar .andNot .u16 profile 15) 4096) then
    (I_elem_walker.c198 (elem_high.mk ))
  else
    I_elem_walker.nil

def elem_low_next (p0 : elem_low) (b : List Int) (at_ : Int) : Option (Spot × Bool) :=
  Option.bind (ix b at_) fun x1 =>
  Option.bind (ix b at_) fun x2 =>
  some ((Spot.mk (IntKind.i64.wrap (sf .shr .u8 x1 4)) (ar .add .i64 at_ 1) (ar .add .i64 (IntKind.i64.wrap (ar .and .u8 x2 15)) 1)), ((cm .neq (IntKind.i64.wrap (sf .shr .u8 x1 4)) 0) && (cm .neq (IntKind.i64.wrap (sf .shr .u8 x1 4)) 15)))

def elem_high_next_j1 (v2 : Spot) : Option (Spot × Bool) :=
  some (v2, true)

def elem_high_next (p0 : elem_high) (b : List Int) (at_ : Int) : Option (Spot × Bool) :=
  Option.bind (ix b at_) fun x1 =>
  if (cm .lss (ar .add .i64 at_ 1) (b.length : Int)) then
  Option.bind (ix b (ar .add .i64 at_ 1)) fun x3 =>
    elem_high_next_j1 (Spot.mk (IntKind.i64.wrap x1) (ar .add .i64 at_ 2) (IntKind.i64.wrap x3))
else
  elem_high_next_j1 (Spot.mk (IntKind.i64.wrap x1) (ar .add .i64 at_ 2) 256)

def elem_Spots_1 (x : Spot) (cap0 : Spot) : Bool :=
  (cm .eql x.id_ cap0.id_)

noncomputable def slices_IndexFunc_Spot_s1 (z : Option Nat) (p_s : List Spot) (f : (Spot → Option Bool)) (v1 : Int) : Option (((Int) ⊕ (Int))) :=
  if (cm .lss v1 (p_s.length : Int)) then
  Option.bind (ix p_s v1) fun x2 =>
    Option.bind (f x2) fun x3 =>
    if x3 then
    Option.map Sum.inr (some v1)
  else
    some (Sum.inl (ar .add .i64 v1 1))
else
  Option.map Sum.inr (some (-1))

noncomputable def slices_IndexFunc_Spot_l1 (z : Option Nat) (p_s : List Spot) (f : (Spot → Option Bool)) (v1 : Int) : Option (Int) :=
  loopG z (fun (s : Int) => slices_IndexFunc_Spot_s1 z p_s f s) (v1)

noncomputable def slices_IndexFunc_Spot (z : Option Nat) (p_s : List Spot) (f : (Spot → Option Bool)) : Option (Int) :=
  slices_IndexFunc_Spot_l1 z p_s f 0

noncomputable def slices_ContainsFunc_Spot (z : Option Nat) (p_s : List Spot) (f : (Spot → Option Bool)) : Option (Bool) :=
  Option.bind (slices_IndexFunc_Spot z p_s f) fun x1 =>
  some (cm .geq x1 0)

def I_elem_walker_next (w : I_elem_walker) (a0 : List Int) (a1 : Int) : Option (Spot × Bool) :=
  match w with
  | .nil => none
  | .c197 x => elem_low_next x a0 a1
  | .c198 x => elem_high_next x a0 a1

noncomputable def elem_Spots_j1 (z : Option Nat) (v1 : List Spot) : Option (List Spot × Int) :=
  some (v1, 0)

noncomputable def elem_Spots_s2 (z : Option Nat) (profile : Int) (data : List Int) (v2 : List Spot) (v3 : Int) : Option (((List Spot × Int) ⊕ (List Spot × Int))) :=
  if (cm .lss v3 (data.length : Int)) then
  Option.bind (ix data v3) fun x4 =>
    if (cm .eql x4 0) then
    some (Sum.inl (v2, (ar .add .i64 v3 1)))
  else
    Option.bind (I_elem_walker_next (elem_walk profile) data v3) fun x5 =>
      if (!x5.2) then
      Option.map Sum.inr (elem_Spots_j1 z v2)
    else
      if ((cm .gtr x5.1.at_ (data.length : Int)) || (cm .gtr x5.1.size (ar .sub .i64 (data.length : Int) x5.1.at_))) then
        Option.map Sum.inr (some ([], 4))
      else
        Option.bind (slices_ContainsFunc_Spot z v2 (fun (y0 : Spot) => some (elem_Spots_1 y0 x5.1))) fun x6 =>
          if x6 then
          Option.map Sum.inr (some ([], 6))
        else
          Option.bind (app v2 [x5.1]) fun x7 =>
            some (Sum.inl (x7, (ar .add .i64 x5.1.at_ x5.1.size)))
else
  Option.map Sum.inr (elem_Spots_j1 z v2)

noncomputable def elem_Spots_l2 (z : Option Nat) (profile : Int) (data : List Int) (v2 : List Spot) (v3 : Int) : Option (List Spot × Int) :=
  loopG z (fun (s : List Spot × Int) => elem_Spots_s2 z profile data s.1 s.2) (v2, v3)

noncomputable def elem_Spots (z : Option Nat) (profile : Int) (data : List Int) : Option (List Spot × Int) :=
  if (I_elem_walker.isnil (elem_walk profile)) then
  some ([], 6)
else
  elem_Spots_l2 z profile data [] 0

noncomputable def elem_Read_s1 (z : Option Nat) (data : List Int) (x1 : List Spot × Int) (v2 : List Elem) (v3 : Int) : Option (((List Elem × Int) ⊕ (List Elem × Int))) :=
  if (cm .lss v3 (x1.1.length : Int)) then
  Option.bind (ix x1.1 v3) fun x4 =>
    Option.bind (sub data x4.at_ (ar .add .i64 x4.at_ x4.size)) fun x5 =>
    Option.bind (slices_Clone x5) fun x6 =>
    Option.bind (app v2 [(Elem.mk x4.id_ x6)]) fun x7 =>
    some (Sum.inl (x7, (ar .add .i64 v3 1)))
else
  Option.map Sum.inr (some (v2, 0))

noncomputable def elem_Read_l1 (z : Option Nat) (data : List Int) (x1 : List Spot × Int) (v2 : List Elem) (v3 : Int) : Option (List Elem × Int) :=
  loopG z (fun (s : List Elem × Int) => elem_Read_s1 z data x1 s.1 s.2) (v2, v3)

noncomputable def elem_Read (z : Option Nat) (profile : Int) (data : List Int) : Option (List Elem × Int) :=
  Option.bind (elem_Spots z profile data) fun x1 =>
  if (cm .neq x1.2 0) then
  some ([], x1.2)
else
  elem_Read_l1 z data x1 [] 0

noncomputable def plan_elements (z : Option Nat) (k : Packet) : Option (List Elem × Bool) :=
  if (!k.head.hasExt) then
  some ([], true)
else
  Option.bind (elem_Read z k.profile k.ext) fun x1 =>
    some (x1.1, (cm .eql x1.2 0))

noncomputable def slices_Concat_int_j2 (z : Option Nat) (v1 : Int) (v2 : Int) (x3 : List Int) : Option (((Int × Int) ⊕ (List Int))) :=
  some (Sum.inl ((ar .add .i64 v1 (x3.length : Int)), (ar .add .i64 v2 1)))

noncomputable def slices_Concat_int_s3 (z : Option Nat) (slices : List (List Int)) (v5 : List Int) (v6 : Int) : Option (((List Int × Int) ⊕ (List Int))) :=
  if (cm .lss v6 (slices.length : Int)) then
  Option.bind (ix slices v6) fun x7 =>
    Option.bind (app v5 x7) fun x8 =>
    some (Sum.inl (x8, (ar .add .i64 v6 1)))
else
  Option.map Sum.inr (some v5)

noncomputable def slices_Concat_int_l3 (z : Option Nat) (slices : List (List Int)) (v5 : List Int) (v6 : Int) : Option (List Int) :=
  loopG z (fun (s : List Int × Int) => slices_Concat_int_s3 z slices s.1 s.2) (v5, v6)

noncomputable def slices_Concat_int_s1 (z : Option Nat) (slices : List (List Int)) (v1 : Int) (v2 : Int) : Option (((Int × Int) ⊕ (List Int))) :=
  if (cm .lss v2 (slices.length : Int)) then
  Option.bind (ix slices v2) fun x3 =>
    if (cm .lss (ar .add .i64 v1 (x3.length : Int)) 0) then
    none
  else
    slices_Concat_int_j2 z v1 v2 x3
else
  Option.map Sum.inr (Option.bind (growL v1) fun x4 =>
    slices_Concat_int_l3 z slices ([] : List Int) 0)

noncomputable def slices_Concat_int_l1 (z : Option Nat) (slices : List (List Int)) (v1 : Int) (v2 : Int) : Option (List Int) :=
  loopG z (fun (s : Int × Int) => slices_Concat_int_s1 z slices s.1 s.2) (v1, v2)

noncomputable def slices_Concat_int (z : Option Nat) (slices : List (List Int)) : Option (List Int) :=
  slices_Concat_int_l1 z slices 0 0

noncomputable def plan_known_s1 (z : Option Nat) (x1 : List Int) (x4 : List Int) (v5 : Int) : Option (((Int) ⊕ (Bool))) :=
  if (cm .lss v5 (x4.length : Int)) then
  Option.bind (ix x4 v5) fun x6 =>
    Option.bind (slices_Contains z x1 x6) fun x7 =>
    if (!x7) then
    Option.map Sum.inr (some false)
  else
    some (Sum.inl (ar .add .i64 v5 1))
else
  Option.map Sum.inr (some true)

noncomputable def plan_known_l1 (z : Option Nat) (x1 : List Int) (x4 : List Int) (v5 : Int) : Option (Bool) :=
  loopG z (fun (s : Int) => plan_known_s1 z x1 x4 s) (v5)

noncomputable def plan_known (z : Option Nat) (p : Plan) (l : List Elem) : Option (Bool) :=
  Option.bind (plan_ids_Elem_f0 z l) fun x1 =>
  Option.bind (plan_ids_Map_f0 z p.maps) fun x2 =>
  Option.bind (plan_ids_Elem_f0 z p.over) fun x3 =>
  Option.bind (slices_Concat_int z [x2, x3, p.drops]) fun x4 =>
  plan_known_l1 z x1 x4 0

noncomputable def plan_data_s1 (z : Option Nat) (p : Plan) (x : Elem) (v1 : Int) : Option (((Int) ⊕ (List Int × Bool))) :=
  if (cm .lss v1 (p.over.length : Int)) then
  Option.bind (ix p.over v1) fun x2 =>
    if (cm .eql x2.id_ x.id_) then
    Option.map Sum.inr (some (x2.data, (cm .eql (x2.data.length : Int) (x.data.length : Int))))
  else
    some (Sum.inl (ar .add .i64 v1 1))
else
  Option.map Sum.inr (some (x.data, true))

noncomputable def plan_data_l1 (z : Option Nat) (p : Plan) (x : Elem) (v1 : Int) : Option (List Int × Bool) :=
  loopG z (fun (s : Int) => plan_data_s1 z p x s) (v1)

noncomputable def plan_data (z : Option Nat) (p : Plan) (x : Elem) : Option (List Int × Bool) :=
  plan_data_l1 z p x 0

noncomputable def plan_renamed_s1 (z : Option Nat) (p : Plan) (id_ : Int) (v1 : Int) : Option (((Int) ⊕ (Int))) :=
  if (cm .lss v1 (p.maps.length : Int)) then
  Option.bind (ix p.maps v1) fun x2 =>
    if (cm .eql x2.from_ id_) then
    Option.map Sum.inr (some x2.to)
  else
    some (Sum.inl (ar .add .i64 v1 1))
else
  Option.map Sum.inr (some id_)

noncomputable def plan_renamed_l1 (z : Option Nat) (p : Plan) (id_ : Int) (v1 : Int) : Option (Int) :=
  loopG z (fun (s : Int) => plan_renamed_s1 z p id_ s) (v1)

noncomputable def plan_renamed (z : Option Nat) (p : Plan) (id_ : Int) : Option (Int) :=
  plan_renamed_l1 z p id_ 0

noncomputable def plan_left_j2 (z : Option Nat) (v2 : Int) (v4 : List Elem) (v5 : Plan) : Option (((List Elem × Int × Plan) ⊕ (List Elem × Bool))) :=
  some (Sum.inl (v4, (ar .add .i64 v2 1), v5))

noncomputable def plan_left_s1 (z : Option Nat) (l : List Elem) (v1 : List Elem) (v2 : Int) (v3 : Plan) : Option (((List Elem × Int × Plan) ⊕ (List Elem × Bool))) :=
  if (cm .lss v2 (l.length : Int)) then
  Option.bind (ix l v2) fun x6 =>
    Option.bind (slices_Contains z v3.drops x6.id_) fun x7 =>
    if x7 then
    plan_left_j2 z v2 v1 v3
  else
    Option.bind (plan_data z v3 x6) fun x8 =>
      if (!x8.2) then
      Option.map Sum.inr (some (([] : List Elem), false))
    else
      Option.bind (plan_renamed z v3 x6.id_) fun x9 =>
        Option.bind (app v1 [(Elem.mk x9 x8.1)]) fun x10 =>
        plan_left_j2 z v2 x10 v3
else
  Option.map Sum.inr (Option.bind (app v1 v3.adds) fun x11 =>
    Option.bind (plan_ids_Elem_f0 z x11) fun x12 =>
    Option.bind (plan_apart z x12) fun x13 =>
    some (x11, x13))

noncomputable def plan_left_l1 (z : Option Nat) (l : List Elem) (v1 : List Elem) (v2 : Int) (v3 : Plan) : Option (List Elem × Bool) :=
  loopG z (fun (s : List Elem × Int × Plan) => plan_left_s1 z l s.1 s.2.1 s.2.2) (v1, v2, v3)

noncomputable def plan_left (z : Option Nat) (p : Plan) (l : List Elem) : Option (List Elem × Bool) :=
  plan_left_l1 z l [] 0 p

noncomputable def plan_data_y1_s1 (z : Option Nat) (p : Plan) (p_x0 : Int) (x1a : Int) (x1b : Int) (v1 : Int) : Option (((Int) ⊕ (Option (List Int) × Bool))) :=
  if (cm .lss v1 (p.over.length : Int)) then
  Option.bind (ix p.over v1) fun x2 =>
    if (cm .eql x2.id_ p_x0) then
    Option.map Sum.inr (some (some x2.data, (cm .eql (x2.data.length : Int) (((x1b : Int).toNat - (x1a : Int).toNat : Nat) : Int))))
  else
    some (Sum.inl (ar .add .i64 v1 1))
else
  Option.map Sum.inr (some (none, true))

noncomputable def plan_data_y1_l1 (z : Option Nat) (p : Plan) (p_x0 : Int) (x1a : Int) (x1b : Int) (v1 : Int) : Option (Option (List Int) × Bool) :=
  loopG z (fun (s : Int) => plan_data_y1_s1 z p p_x0 x1a x1b s) (v1)

noncomputable def plan_data_y1 (z : Option Nat) (p : Plan) (p_x0 : Int) (x1a : Int) (x1b : Int) : Option (Option (List Int) × Bool) :=
  plan_data_y1_l1 z p p_x0 x1a x1b 0

noncomputable def plan_inside_j2 (z : Option Nat) (v4 : Int) (v5 : Plan) (x6 : Spot) (v8 : List Int) : Option (((List Int × Int × Plan) ⊕ (List Int × Bool))) :=
  Option.bind (sub v8 x6.at_ (ar .add .i64 x6.at_ x6.size)) fun x9 =>
  Option.bind (plan_data_y1 z v5 x6.id_ x6.at_ (ar .add .i64 x6.at_ x6.size)) fun x10 =>
  match x10 with
  | (none, x10b) => Option.bind (sub v8 x6.at_ (ar .add .i64 x6.at_ x6.size)) fun x11 =>
    some (Sum.inl ((cpy v8 x6.at_ (ar .add .i64 x6.at_ x6.size) x9), (ar .add .i64 v4 1), v5))
  | (some x10q, x10b) => Option.bind (sub v8 x6.at_ (ar .add .i64 x6.at_ x6.size)) fun x12 =>
    some (Sum.inl ((cpy v8 x6.at_ (ar .add .i64 x6.at_ x6.size) x10q), (ar .add .i64 v4 1), v5))

noncomputable def plan_inside_s1 (z : Option Nat) (k : Packet) (x1 : List Spot × Int) (v3 : List Int) (v4 : Int) (v5 : Plan) : Option (((List Int × Int × Plan) ⊕ (List Int × Bool))) :=
  if (cm .lss v4 (x1.1.length : Int)) then
  Option.bind (ix x1.1 v4) fun x6 =>
    Option.bind (plan_renamed z v5 x6.id_) fun x7 =>
    if (cm .neq k.profile 48862) then
    Option.bind (ix v3 (ar .sub .i64 x6.at_ 2)) fun x13 =>
      plan_inside_j2 z v4 v5 x6 (List.set v3 ((ar .sub .i64 x6.at_ 2) : Int).toNat (IntKind.u8.wrap x7))
  else
    if (cm .gtr x7 14) then
      Option.map Sum.inr (some ([], false))
    else
      Option.bind (ix v3 (ar .sub .i64 x6.at_ 1)) fun x14 =>
        Option.bind (ix v3 (ar .sub .i64 x6.at_ 1)) fun x15 =>
        plan_inside_j2 z v4 v5 x6 (List.set v3 ((ar .sub .i64 x6.at_ 1) : Int).toNat (ar .or .u8 (IntKind.u8.wrap (sf .shl .i64 x7 4)) (ar .and .u8 x14 15)))
else
  Option.map Sum.inr (some (v3, true))

noncomputable def plan_inside_l1 (z : Option Nat) (k : Packet) (x1 : List Spot × Int) (v3 : List Int) (v4 : Int) (v5 : Plan) : Option (List Int × Bool) :=
  loopG z (fun (s : List Int × Int × Plan) => plan_inside_s1 z k x1 s.1 s.2.1 s.2.2) (v3, v4, v5)

noncomputable def plan_inside (z : Option Nat) (p : Plan) (k : Packet) : Option (List Int × Bool) :=
  Option.bind (elem_Spots z k.profile k.ext) fun x1 =>
  Option.bind (slices_Clone k.ext) fun x2 =>
  plan_inside_l1 z k x1 x2 0 p

def elem_narrow_1 (x : Elem) : Bool :=
  (((cm .gtr x.id_ 14) || (cm .lss (x.data.length : Int) 1)) || (cm .gtr (x.data.length : Int) 16))

noncomputable def slices_IndexFunc_Elem_s1 (z : Option Nat) (p_s : List Elem) (f : (Elem → Option Bool)) (v1 : Int) : Option (((Int) ⊕ (Int))) :=
  if (cm .lss v1 (p_s.length : Int)) then
  Option.bind (ix p_s v1) fun x2 =>
    Option.bind (f x2) fun x3 =>
    if x3 then
    Option.map Sum.inr (some v1)
  else
    some (Sum.inl (ar .add .i64 v1 1))
else
  Option.map Sum.inr (some (-1))

noncomputable def slices_IndexFunc_Elem_l1 (z : Option Nat) (p_s : List Elem) (f : (Elem → Option Bool)) (v1 : Int) : Option (Int) :=
  loopG z (fun (s : Int) => slices_IndexFunc_Elem_s1 z p_s f s) (v1)

noncomputable def slices_IndexFunc_Elem (z : Option Nat) (p_s : List Elem) (f : (Elem → Option Bool)) : Option (Int) :=
  slices_IndexFunc_Elem_l1 z p_s f 0

noncomputable def slices_ContainsFunc_Elem (z : Option Nat) (p_s : List Elem) (f : (Elem → Option Bool)) : Option (Bool) :=
  Option.bind (slices_IndexFunc_Elem z p_s f) fun x1 =>
  some (cm .geq x1 0)

noncomputable def elem_narrow (z : Option Nat) (l : List Elem) : Option (Bool) :=
  Option.bind (slices_ContainsFunc_Elem z l (fun (y0 : Elem) => some (elem_narrow_1 y0))) fun x1 =>
  some (!x1)

noncomputable def elem_Profile (z : Option Nat) (l : List Elem) : Option (Int) :=
  Option.bind (elem_Right z l) fun x1 =>
  if (!x1) then
  some 0
else
  Option.bind (elem_narrow z l) fun x2 =>
    if x2 then
    some 48862
  else
    some 4096

def pad_zeros (n : Int) : Option (List Int) :=
  Option.bind (mkL (0 : Int) n n) fun x1 =>
  some x1

noncomputable def slices_Concat_byte_j2 (z : Option Nat) (v1 : Int) (v2 : Int) (x3 : List Int) : Option (((Int × Int) ⊕ (List Int))) :=
  some (Sum.inl ((ar .add .i64 v1 (x3.length : Int)), (ar .add .i64 v2 1)))

noncomputable def slices_Concat_byte_s3 (z : Option Nat) (slices : List (List Int)) (v5 : List Int) (v6 : Int) : Option (((List Int × Int) ⊕ (List Int))) :=
  if (cm .lss v6 (slices.length : Int)) then
  Option.bind (ix slices v6) fun x7 =>
    Option.bind (app v5 x7) fun x8 =>
    some (Sum.inl (x8, (ar .add .i64 v6 1)))
else
  Option.map Sum.inr (some v5)

noncomputable def slices_Concat_byte_l3 (z : Option Nat) (slices : List (List Int)) (v5 : List Int) (v6 : Int) : Option (List Int) :=
  loopG z (fun (s : List Int × Int) => slices_Concat_byte_s3 z slices s.1 s.2) (v5, v6)

noncomputable def slices_Concat_byte_s1 (z : Option Nat) (slices : List (List Int)) (v1 : Int) (v2 : Int) : Option (((Int × Int) ⊕ (List Int))) :=
  if (cm .lss v2 (slices.length : Int)) then
  Option.bind (ix slices v2) fun x3 =>
    if (cm .lss (ar .add .i64 v1 (x3.length : Int)) 0) then
    none
  else
    slices_Concat_byte_j2 z v1 v2 x3
else
  Option.map Sum.inr (Option.bind (growL v1) fun x4 =>
    slices_Concat_byte_l3 z slices ([] : List Int) 0)

noncomputable def slices_Concat_byte_l1 (z : Option Nat) (slices : List (List Int)) (v1 : Int) (v2 : Int) : Option (List Int) :=
  loopG z (fun (s : Int × Int) => slices_Concat_byte_s1 z slices s.1 s.2) (v1, v2)

noncomputable def slices_Concat_byte (z : Option Nat) (slices : List (List Int)) : Option (List Int) :=
  slices_Concat_byte_l1 z slices 0 0

noncomputable def pad_Fill (z : Option Nat) (b : List Int) : Option (List Int) :=
  Option.bind (pad_zeros (dv .rem .i64 (ar .sub .i64 4 (dv .rem .i64 (b.length : Int) 4)) 4)) fun x1 =>
  Option.bind (slices_Concat_byte z [b, x1]) fun x2 =>
  some x2

noncomputable def elem_Write_j2 (z : Option Nat) (v3 : Int) (x4 : Elem) (v5 : List Int) : Option (((List Int × Int) ⊕ (Int × List Int × Int))) :=
  Option.bind (app v5 x4.data) fun x6 =>
  some (Sum.inl (x6, (ar .add .i64 v3 1)))

noncomputable def elem_Write_s1 (z : Option Nat) (l : List Elem) (x1 : Int) (v2 : List Int) (v3 : Int) : Option (((List Int × Int) ⊕ (Int × List Int × Int))) :=
  if (cm .lss v3 (l.length : Int)) then
  Option.bind (ix l v3) fun x4 =>
    if (cm .eql x1 48862) then
    Option.bind (app v2 [(IntKind.u8.wrap (ar .or .i64 (sf .shl .i64 x4.id_ 4) (ar .sub .i64 (x4.data.length : Int) 1)))]) fun x7 =>
      elem_Write_j2 z v3 x4 x7
  else
    Option.bind (app v2 [(IntKind.u8.wrap x4.id_), (IntKind.u8.wrap (x4.data.length : Int))]) fun x8 =>
      elem_Write_j2 z v3 x4 x8
else
  Option.map Sum.inr (Option.bind (pad_Fill z v2) fun x9 =>
    some (x1, x9, 0))

noncomputable def elem_Write_l1 (z : Option Nat) (l : List Elem) (x1 : Int) (v2 : List Int) (v3 : Int) : Option (Int × List Int × Int) :=
  loopG z (fun (s : List Int × Int) => elem_Write_s1 z l x1 s.1 s.2) (v2, v3)

noncomputable def elem_Write (z : Option Nat) (l : List Elem) : Option (Int × List Int × Int) :=
  Option.bind (elem_Profile z l) fun x1 =>
  if (cm .eql x1 0) then
  some (0, [], 1)
else
  elem_Write_l1 z l x1 [] 0

noncomputable def plan_extend_j1 (z : Option Nat) (v5 : Packet) : Option (Packet × Bool) :=
  some (v5, true)

noncomputable def plan_extend (z : Option Nat) (p : Plan) (k : Packet) : Option (Packet × Bool) :=
  Option.bind (plan_elements z k) fun x1 =>
  Option.bind (gT (!(!x1.2)) (plan_known z p x1.1)) fun x2 =>
  if ((!x1.2) || (!x2)) then
  some (k, false)
else
  Option.bind (plan_left z p x1.1) fun x3 =>
    if (!x3.2) then
    some (k, false)
  else
    if (!(plan_turns p)) then
      Option.bind (plan_inside z p k) fun x4 =>
        some ({ k with ext := x4.1 }, x4.2)
    else
      if (cm .gtr (x3.1.length : Int) 0) then
        Option.bind (elem_Write z x3.1) fun x6 =>
          plan_extend_j1 z (Packet.mk ({ k.head with hasExt := (cm .gtr (x3.1.length : Int) 0) }) x6.1 x6.2.1 k.payload k.pad)
      else
        plan_extend_j1 z (Packet.mk ({ k.head with hasExt := (cm .gtr (x3.1.length : Int) 0) }) 0 ([] : List Int) k.payload k.pad)

def plan_set_j5 (v5 : Head) : Head :=
  v5

def plan_set_j4 (p : Plan) (v4 : Head) : Head :=
  if p.setSsrc then
  plan_set_j5 ({ v4 with ssrc := p.ssrc })
else
  plan_set_j5 v4

def plan_set_j3 (p : Plan) (v3 : Head) : Head :=
  if p.setTime then
  plan_set_j4 p ({ v3 with time := p.time })
else
  plan_set_j4 p v3

def plan_set_j2 (p : Plan) (v2 : Head) : Head :=
  if p.setSeq then
  plan_set_j3 p ({ v2 with seq := p.seq })
else
  plan_set_j3 p v2

def plan_set_j1 (p : Plan) (v1 : Head) : Head :=
  if p.setType then
  plan_set_j2 p ({ v1 with type := p.type })
else
  plan_set_j2 p v1

def plan_set (p : Plan) (p_h : Head) : Head :=
  if p.setMarker then
  plan_set_j1 p ({ p_h with marker := p.marker })
else
  plan_set_j1 p p_h

noncomputable def plan_behind_j2 (z : Option Nat) (v2 : Bool) (v5 : Packet) : Option (Packet × Bool) :=
  some (v5, (v2 && (packet_Right v5)))

noncomputable def plan_behind_j1 (z : Option Nat) (v2 : Bool) (v3 : Plan) (v4 : Packet) : Option (Packet × Bool) :=
  if v3.noPad then
  plan_behind_j2 z v2 ({ v4 with head := (Head.mk false ((plan_set v3 v4.head).hasExt) ((plan_set v3 v4.head).marker) ((plan_set v3 v4.head).type) ((plan_set v3 v4.head).seq) ((plan_set v3 v4.head).time) ((plan_set v3 v4.head).ssrc) ((plan_set v3 v4.head).csrc)), pad := 0 })
else
  plan_behind_j2 z v2 ({ v4 with head := (plan_set v3 v4.head) })

noncomputable def plan_behind (z : Option Nat) (p : Plan) (k : Packet) : Option (Packet × Bool) :=
  Option.bind (gT (!(!(packet_Right k))) (plan_Right z p)) fun x1 =>
  if ((!(packet_Right k)) || (!x1)) then
  some (k, false)
else
  if (plan_Elements p) then
    Option.bind (plan_extend z p k) fun x6 =>
      plan_behind_j1 z x6.2 p x6.1
  else
    plan_behind_j1 z true p k

noncomputable def plan_Fits (z : Option Nat) (p : Plan) (k : Packet) : Option (Bool) :=
  Option.bind (plan_behind z p k) fun x1 =>
  some x1.2

def plan_Keeps (p : Plan) : Bool :=
  ((!(plan_turns p)) && (!p.noPad))

noncomputable def place_row_add_y2_j2 (z : Option Nat) (v1 : Int) (v4 : place_row) : Option (((Int × place_row) ⊕ (place_row))) :=
  some (Sum.inl ((ar .add .i64 v1 1), v4))

noncomputable def place_row_add_y2_s1 (z : Option Nat) (field : Int) (sizes : List Int) (v1 : Int) (v2 : place_row) : Option (((Int × place_row) ⊕ (place_row))) :=
  if (cm .lss v1 (sizes.length : Int)) then
  Option.bind (ix sizes v1) fun x3 =>
    if (cm .gtr x3 0) then
    Option.bind (app v2.l [(Place.mk field v2.at_ x3)]) fun x5 =>
      place_row_add_y2_j2 z v1 (place_row.mk x5 (ar .add .i64 v2.at_ x3))
  else
    place_row_add_y2_j2 z v1 v2
else
  Option.map Sum.inr (some v2)

noncomputable def place_row_add_y2_l1 (z : Option Nat) (field : Int) (sizes : List Int) (v1 : Int) (v2 : place_row) : Option (place_row) :=
  loopG z (fun (s : Int × place_row) => place_row_add_y2_s1 z field sizes s.1 s.2) (v1, v2)

noncomputable def place_row_add_y2 (z : Option Nat) (field : Int) (sizes : List Int) (box0 : place_row) : Option (place_row) :=
  place_row_add_y2_l1 z field sizes 0 box0

noncomputable def place_Of_j3 (z : Option Nat) (v6 : Packet) (v9 : place_row) : Option (List Place × Int) :=
  Option.bind (place_row_add_y2 z 10 [(v6.payload.length : Int)] v9) fun x10 =>
  Option.bind (place_row_add_y2 z 11 [(ar .sub .i64 v6.pad 1)] x10) fun x11 =>
  Option.bind (place_row_add_y2 z 12 [(imin v6.pad 1)] x11) fun x12 =>
  some (x12.l, 0)

noncomputable def place_Of_s2 (z : Option Nat) (v6 : Packet) (v7 : place_row) : Option (((Packet × place_row) ⊕ (List Place × Int))) :=
  if (cm .lss v7.at_ (head_Size v6.head)) then
  Option.bind (place_row_add_y2 z 6 [4] v7) fun x8 =>
    some (Sum.inl (v6, x8))
else
  Option.map Sum.inr (if v6.head.hasExt then
    Option.bind (place_row_add_y2 z 7 [2] v7) fun x13 =>
      Option.bind (place_row_add_y2 z 8 [2] x13) fun x14 =>
      Option.bind (place_row_add_y2 z 9 [(v6.ext.length : Int)] x14) fun x15 =>
      place_Of_j3 z v6 x15
  else
    place_Of_j3 z v6 v7)

noncomputable def place_Of_l2 (z : Option Nat) (v6 : Packet) (v7 : place_row) : Option (List Place × Int) :=
  loopG z (fun (s : Packet × place_row) => place_Of_s2 z s.1 s.2) (v6, v7)

noncomputable def place_Of_s1 (z : Option Nat) (x1 : Packet × Int) (v2 : Int) (v3 : place_row) : Option (((Int × place_row) ⊕ (List Place × Int))) :=
  if (cm .lss v2 ([1, 1, 2, 4, 4].length : Int)) then
  Option.bind (ix [1, 1, 2, 4, 4] v2) fun x4 =>
    Option.bind (place_row_add_y2 z (ar .add .i64 1 v2) [x4] v3) fun x5 =>
    some (Sum.inl ((ar .add .i64 v2 1), x5))
else
  Option.map Sum.inr (place_Of_l2 z x1.1 v3)

noncomputable def place_Of_l1 (z : Option Nat) (x1 : Packet × Int) (v2 : Int) (v3 : place_row) : Option (List Place × Int) :=
  loopG z (fun (s : Int × place_row) => place_Of_s1 z x1 s.1 s.2) (v2, v3)

noncomputable def place_Of (z : Option Nat) (b : List Int) : Option (List Place × Int) :=
  Option.bind (packet_Read z b) fun x1 =>
  if (cm .neq x1.2 0) then
  some ([], x1.2)
else
  place_Of_l1 z x1 0 (place_row.mk ([] : List Place) 0)

def stay_kind_1_j3 (v4 : Int) : Option (List Int) :=
  some [v4]

def stay_kind_1_j2 (cap0 : Plan) (v3 : Int) : Option (List Int) :=
  if (cap0.setMarker && cap0.marker) then
  stay_kind_1_j3 (ar .or .u8 v3 128)
else
  stay_kind_1_j3 v3

def stay_kind_1_j1 (cap0 : Plan) (v2 : Int) : Option (List Int) :=
  if cap0.setMarker then
  stay_kind_1_j2 cap0 (ar .and .u8 v2 127)
else
  stay_kind_1_j2 cap0 v2

def stay_kind_1 (old : List Int) (cap0 : Plan) : Option (List Int) :=
  Option.bind (ix old 0) fun x1 =>
  if cap0.setType then
  stay_kind_1_j1 cap0 (ar .or .u8 (ar .and .u8 x1 128) (IntKind.u8.wrap cap0.type))
else
  stay_kind_1_j1 cap0 x1

def stay_kind (p : Plan) : Plan :=
  p

noncomputable def place_Find_j2 (z : Option Nat) (v2 : Int) (v4 : Int) (v5 : Place) : Option (((Int × Int × Place) ⊕ (Place × Int))) :=
  some (Sum.inl (v4, (ar .add .i64 v2 1), v5))

noncomputable def place_Find_s1 (z : Option Nat) (l : List Place) (field : Int) (v1 : Int) (v2 : Int) (v3 : Place) : Option (((Int × Int × Place) ⊕ (Place × Int))) :=
  if (cm .lss v2 (l.length : Int)) then
  Option.bind (ix l v2) fun x6 =>
    if (cm .neq x6.field field) then
    place_Find_j2 z v2 v1 v3
  else
    if (cm .eql v1 0) then
      Option.map Sum.inr (some (x6, 0))
    else
      place_Find_j2 z v2 (ar .sub .i64 v1 1) v3
else
  Option.map Sum.inr (some ((Place.mk 0 0 0), 8))

noncomputable def place_Find_l1 (z : Option Nat) (l : List Place) (field : Int) (v1 : Int) (v2 : Int) (v3 : Place) : Option (Place × Int) :=
  loopG z (fun (s : Int × Int × Place) => place_Find_s1 z l field s.1 s.2.1 s.2.2) (v1, v2, v3)

noncomputable def place_Find (z : Option Nat) (l : List Place) (field : Int) (nth : Int) : Option (Place × Int) :=
  place_Find_l1 z l field nth 0 (Place.mk 0 0 0)

def octet_Put_s1 (y1 : Nat) (v4 : Int) (v5 : List Int) : Option (((Int × List Int) ⊕ (List Int × Int))) :=
  Option.bind (ix v5 (y1 : Int)) fun x6 =>
  some (Sum.inl ((sf .shr .u64 v4 8), (List.set v5 ((y1 : Int) : Int).toNat (IntKind.u8.wrap v4))))

def octet_Put_d1 (v4 : Int) (v5 : List Int) : Option (List Int × Int) :=
  some (v5, 0)

def octet_Put_l1 (x2 : List Int) (v4 : Int) (v5 : List Int) : Option (List Int × Int) :=
  foldX (fun (y1 : Nat) (s : Int × List Int) => octet_Put_s1 y1 s.1 s.2) (fun (s : Int × List Int) => octet_Put_d1 s.1 s.2) (List.range x2.length).reverse (v4, v5)

def octet_Put (v : Int) (n : Int) : Option (List Int × Int) :=
  if (!(octet_sized n)) then
  some ([], 1)
else
  Option.bind (gT (cm .lss n 8) (sfO .shr .u64 v (ar .mul .i64 8 n))) fun x1 =>
    if ((cm .lss n 8) && (cm .gtr x1 0)) then
    some ([], 6)
  else
    Option.bind (mkL (0 : Int) n n) fun x2 =>
      Option.bind (lnO x2) fun x3 =>
      octet_Put_l1 x2 v x2

def stay_number_1 (old : List Int) (cap0 : Int) : Option (List Int) :=
  Option.bind (octet_Put cap0 (old.length : Int)) fun x1 =>
  some x1.1

def stay_number (n : Int) : Int :=
  n

def stay_sheet_elements_1 (m : GMap) (cap0 : Spot) : Bool :=
  (cm .eql m.from_ cap0.id_)

noncomputable def slices_IndexFunc_Map_s1 (z : Option Nat) (p_s : List GMap) (f : (GMap → Option Bool)) (v1 : Int) : Option (((Int) ⊕ (Int))) :=
  if (cm .lss v1 (p_s.length : Int)) then
  Option.bind (ix p_s v1) fun x2 =>
    Option.bind (f x2) fun x3 =>
    if x3 then
    Option.map Sum.inr (some v1)
  else
    some (Sum.inl (ar .add .i64 v1 1))
else
  Option.map Sum.inr (some (-1))

noncomputable def slices_IndexFunc_Map_l1 (z : Option Nat) (p_s : List GMap) (f : (GMap → Option Bool)) (v1 : Int) : Option (Int) :=
  loopG z (fun (s : Int) => slices_IndexFunc_Map_s1 z p_s f s) (v1)

noncomputable def slices_IndexFunc_Map (z : Option Nat) (p_s : List GMap) (f : (GMap → Option Bool)) : Option (Int) :=
  slices_IndexFunc_Map_l1 z p_s f 0

def stay_sheet_elements_2 (x : Elem) (cap0 : Spot) : Bool :=
  (cm .eql x.id_ cap0.id_)

noncomputable def stay_sheet_draw_y2 (z : Option Nat) (is_ : Bool) (field : Int) (bytesc0 : Plan) (box0 : stay_sheet) : Option (stay_sheet) :=
  Option.bind (place_Find z box0.places field 0) fun x1 =>
  if (is_ && (cm .eql x1.2 0)) then
  Option.bind (sub box0.b x1.1.at_ (ar .add .i64 x1.1.at_ x1.1.size)) fun x2 =>
    Option.bind (stay_kind_1 x2 bytesc0) fun x3 =>
    Option.bind (app box0.strokes [(stay_stroke.mk x1.1 x3)]) fun x4 =>
    some ({ box0 with strokes := x4 })
else
  some box0

noncomputable def stay_sheet_draw_y4 (z : Option Nat) (is_ : Bool) (field : Int) (bytesc0 : Int) (box0 : stay_sheet) : Option (stay_sheet) :=
  Option.bind (place_Find z box0.places field 0) fun x1 =>
  if (is_ && (cm .eql x1.2 0)) then
  Option.bind (sub box0.b x1.1.at_ (ar .add .i64 x1.1.at_ x1.1.size)) fun x2 =>
    Option.bind (stay_number_1 x2 bytesc0) fun x3 =>
    Option.bind (app box0.strokes [(stay_stroke.mk x1.1 x3)]) fun x4 =>
    some ({ box0 with strokes := x4 })
else
  some box0

noncomputable def stay_sheet_rename_y2_j1 (z : Option Nat) (box0 : stay_sheet) (v1 : Int) (v2 : Int) : Option (stay_sheet) :=
  Option.bind (app box0.strokes ([(stay_stroke.mk (Place.mk 9 v1 1) [v2])])) fun x3 =>
  some ({ box0 with strokes := x3 })

noncomputable def stay_sheet_rename_y2 (z : Option Nat) (at_ : Int) (profile : Int) (id_ : Int) (box0 : stay_sheet) : Option (stay_sheet) :=
  if (cm .eql profile 48862) then
  Option.bind (ix box0.b (ar .add .i64 (ar .sub .i64 at_ 2) 1)) fun x4 =>
    stay_sheet_rename_y2_j1 z box0 (ar .add .i64 (ar .sub .i64 at_ 2) 1) (ar .or .u8 (IntKind.u8.wrap (sf .shl .i64 id_ 4)) (ar .and .u8 x4 15))
else
  stay_sheet_rename_y2_j1 z box0 (ar .sub .i64 at_ 2) (IntKind.u8.wrap id_)

noncomputable def stay_sheet_elements_y2_j3 (z : Option Nat) (v3 : Int) (v9 : Plan) (v10 : Packet) (v13 : stay_sheet) : Option (((Int × Plan × Packet × stay_sheet) ⊕ (stay_sheet))) :=
  some (Sum.inl ((ar .add .i64 v3 1), v9, v10, v13))

noncomputable def stay_sheet_elements_y2_j2 (z : Option Nat) (x1 : Place × Int) (v3 : Int) (x7 : Spot) (v9 : Plan) (v10 : Packet) (v11 : stay_sheet) : Option (((Int × Plan × Packet × stay_sheet) ⊕ (stay_sheet))) :=
  Option.bind (slices_IndexFunc_Elem z v9.over (fun (y0 : Elem) => some (stay_sheet_elements_2 y0 x7))) fun x12 =>
  if ((cm .geq x12 0) && (cm .gtr x7.size 0)) then
  Option.bind (ix v9.over x12) fun x14 =>
    Option.bind (app v11.strokes [(stay_stroke.mk (Place.mk 9 (ar .add .i64 x1.1.at_ x7.at_) x7.size) x14.data)]) fun x15 =>
    stay_sheet_elements_y2_j3 z v3 v9 v10 ({ v11 with strokes := x15 })
else
  stay_sheet_elements_y2_j3 z v3 v9 v10 v11

noncomputable def stay_sheet_elements_y2_s1 (z : Option Nat) (x1 : Place × Int) (x2 : List Spot × Int) (v3 : Int) (v4 : Plan) (v5 : Packet) (v6 : stay_sheet) : Option (((Int × Plan × Packet × stay_sheet) ⊕ (stay_sheet))) :=
  if (cm .lss v3 (x2.1.length : Int)) then
  Option.bind (ix x2.1 v3) fun x7 =>
    Option.bind (slices_IndexFunc_Map z v4.maps (fun (y0 : GMap) => some (stay_sheet_elements_1 y0 x7))) fun x8 =>
    if (cm .geq x8 0) then
    Option.bind (ix v4.maps x8) fun x16 =>
      Option.bind (stay_sheet_rename_y2 z (ar .add .i64 x1.1.at_ x7.at_) v5.profile x16.to v6) fun x17 =>
      stay_sheet_elements_y2_j2 z x1 v3 x7 v4 v5 x17
  else
    stay_sheet_elements_y2_j2 z x1 v3 x7 v4 v5 v6
else
  Option.map Sum.inr (some v6)

noncomputable def stay_sheet_elements_y2_l1 (z : Option Nat) (x1 : Place × Int) (x2 : List Spot × Int) (v3 : Int) (v4 : Plan) (v5 : Packet) (v6 : stay_sheet) : Option (stay_sheet) :=
  loopG z (fun (s : Int × Plan × Packet × stay_sheet) => stay_sheet_elements_y2_s1 z x1 x2 s.1 s.2.1 s.2.2.1 s.2.2.2) (v3, v4, v5, v6)

noncomputable def stay_sheet_elements_y2 (z : Option Nat) (p : Plan) (k : Packet) (box0 : stay_sheet) : Option (stay_sheet) :=
  Option.bind (place_Find z box0.places 9 0) fun x1 =>
  if (cm .neq x1.2 0) then
  some box0
else
  Option.bind (elem_Spots z k.profile k.ext) fun x2 =>
    stay_sheet_elements_y2_l1 z x1 x2 0 p k box0

noncomputable def stay_strokes_j1 (z : Option Nat) (b : List Int) (x1 : Packet × Int) (v3 : Bool) (v4 : Plan) : Option (List stay_stroke × Int) :=
  if v3 then
  some ([], 9)
else
  Option.bind (place_Of z b) fun x5 =>
    Option.bind (stay_sheet_draw_y2 z (v4.setMarker || v4.setType) 2 (stay_kind v4) (stay_sheet.mk b x5.1 ([] : List stay_stroke))) fun x6 =>
    Option.bind (stay_sheet_draw_y4 z v4.setSeq 3 (stay_number (IntKind.u64.wrap v4.seq)) x6) fun x7 =>
    Option.bind (stay_sheet_draw_y4 z v4.setTime 4 (stay_number (IntKind.u64.wrap v4.time)) x7) fun x8 =>
    Option.bind (stay_sheet_draw_y4 z v4.setSsrc 5 (stay_number (IntKind.u64.wrap v4.ssrc)) x8) fun x9 =>
    Option.bind (stay_sheet_elements_y2 z v4 x1.1 x9) fun x10 =>
    some (x10.strokes, 0)

noncomputable def stay_strokes (z : Option Nat) (p : Plan) (b : List Int) : Option (List stay_stroke × Int) :=
  Option.bind (packet_Read z b) fun x1 =>
  if (cm .neq x1.2 0) then
  some ([], x1.2)
else
  Option.bind (plan_Fits z p x1.1) fun x2 =>
    if (!x2) then
    stay_strokes_j1 z b x1 (!x2) p
  else
    stay_strokes_j1 z b x1 (!(plan_Keeps p)) p

noncomputable def stay_Stay_s1 (z : Option Nat) (x1 : List stay_stroke × Int) (v3 : List Int) (v4 : Int) : Option (((List Int × Int) ⊕ (List Int × Int))) :=
  if (cm .lss v4 (x1.1.length : Int)) then
  Option.bind (ix x1.1 v4) fun x5 =>
    Option.bind (sub v3 x5.place.at_ (ar .add .i64 x5.place.at_ x5.place.size)) fun x6 =>
    some (Sum.inl ((cpy v3 x5.place.at_ (ar .add .i64 x5.place.at_ x5.place.size) x5.bytes), (ar .add .i64 v4 1)))
else
  Option.map Sum.inr (some (v3, 0))

noncomputable def stay_Stay_l1 (z : Option Nat) (x1 : List stay_stroke × Int) (v3 : List Int) (v4 : Int) : Option (List Int × Int) :=
  loopG z (fun (s : List Int × Int) => stay_Stay_s1 z x1 s.1 s.2) (v3, v4)

noncomputable def stay_Stay (z : Option Nat) (p : Plan) (b : List Int) : Option (List Int × Int) :=
  Option.bind (stay_strokes z p b) fun x1 =>
  if (cm .neq x1.2 0) then
  some ([], x1.2)
else
  Option.bind (slices_Clone b) fun x2 =>
    stay_Stay_l1 z x1 x2 0

noncomputable def stay_Places_s1 (z : Option Nat) (x1 : List stay_stroke × Int) (v2 : List Place) (v3 : Int) : Option (((List Place × Int) ⊕ (List Place × Int))) :=
  if (cm .lss v3 (x1.1.length : Int)) then
  Option.bind (ix x1.1 v3) fun x4 =>
    Option.bind (app v2 [x4.place]) fun x5 =>
    some (Sum.inl (x5, (ar .add .i64 v3 1)))
else
  Option.map Sum.inr (some (v2, 0))

noncomputable def stay_Places_l1 (z : Option Nat) (x1 : List stay_stroke × Int) (v2 : List Place) (v3 : Int) : Option (List Place × Int) :=
  loopG z (fun (s : List Place × Int) => stay_Places_s1 z x1 s.1 s.2) (v2, v3)

noncomputable def stay_Places (z : Option Nat) (p : Plan) (b : List Int) : Option (List Place × Int) :=
  Option.bind (stay_strokes z p b) fun x1 =>
  if (cm .neq x1.2 0) then
  some ([], x1.2)
else
  stay_Places_l1 z x1 [] 0

def slices_Clone2 (l : List Int) : Option (List Int) := app [] l

def plan_own (k : Packet) : Option (Packet) :=
  Option.bind (slices_Clone2 k.head.csrc) fun x1 =>
  Option.bind (slices_Clone k.ext) fun x2 =>
  Option.bind (slices_Clone k.payload) fun x3 =>
  some (Packet.mk ({ k.head with csrc := x1 }) k.profile x2 x3 k.pad)

noncomputable def plan_Apply (z : Option Nat) (p : Plan) (k : Packet) : Option (Packet × Int) :=
  Option.bind (plan_behind z p k) fun x1 =>
  if (!(packet_Right k)) then
  some ((Packet.mk (Head.mk false false false 0 0 0 0 []) 0 [] [] 0), 1)
else
  if (!x1.2) then
    some ((Packet.mk (Head.mk false false false 0 0 0 0 []) 0 [] [] 0), 9)
  else
    Option.bind (plan_own x1.1) fun x2 =>
      some (x2, 0)

def head_flag (is_ : Bool) (bit : Int) : Int :=
  if is_ then
  bit
else
  0

def head_four (n : Int) : Option (List Int) :=
  Option.bind (octet_Put (IntKind.u64.wrap n) 4) fun x1 =>
  some x1.1

noncomputable def octet_Join (z : Option Nat) (l : List (List Int)) : Option (List Int) :=
  Option.bind (slices_Concat_byte z l) fun x1 =>
  some x1

noncomputable def head_Write_s1 (z : Option Nat) (p_h : Head) (v5 : List Int) (v6 : Int) : Option (((List Int × Int) ⊕ (List Int × Int))) :=
  if (cm .lss v6 (p_h.csrc.length : Int)) then
  Option.bind (ix p_h.csrc v6) fun x7 =>
    Option.bind (head_four x7) fun x8 =>
    Option.bind (app v5 x8) fun x9 =>
    some (Sum.inl (x9, (ar .add .i64 v6 1)))
else
  Option.map Sum.inr (some (v5, 0))

noncomputable def head_Write_l1 (z : Option Nat) (p_h : Head) (v5 : List Int) (v6 : Int) : Option (List Int × Int) :=
  loopG z (fun (s : List Int × Int) => head_Write_s1 z p_h s.1 s.2) (v5, v6)

noncomputable def head_Write (z : Option Nat) (p_h : Head) : Option (List Int × Int) :=
  if (!(head_Right p_h)) then
  some ([], 1)
else
  Option.bind (octet_Put (IntKind.u64.wrap p_h.seq) 2) fun x1 =>
    Option.bind (head_four p_h.time) fun x2 =>
    Option.bind (head_four p_h.ssrc) fun x3 =>
    Option.bind (octet_Join z ([[(ar .or .u8 (ar .or .u8 (ar .or .u8 128 (head_flag p_h.hasPad 32)) (head_flag p_h.hasExt 16)) (IntKind.u8.wrap (p_h.csrc.length : Int))), (ar .or .u8 (head_flag p_h.marker 128) (IntKind.u8.wrap p_h.type))], x1.1, x2, x3])) fun x4 =>
    head_Write_l1 z p_h x4 0

noncomputable def pad_Add (z : Option Nat) (b : List Int) (n : Int) : Option (List Int × Int) :=
  if ((cm .lss n 1) || (cm .gtr n 255)) then
  some ([], 1)
else
  Option.bind (pad_zeros (ar .sub .i64 n 1)) fun x1 =>
    Option.bind (slices_Concat_byte z ([b, x1, [(IntKind.u8.wrap n)]])) fun x2 =>
    some (x2, 0)

noncomputable def packet_Write_j2 (z : Option Nat) (v4 : List Int) : Option (List Int × Int) :=
  some (v4, 0)

noncomputable def packet_Write_j1 (z : Option Nat) (p : Packet) (v2 : List Int) : Option (List Int × Int) :=
  Option.bind (app v2 p.payload) fun x3 =>
  if p.head.hasPad then
  Option.bind (pad_Add z x3 p.pad) fun x5 =>
    packet_Write_j2 z x5.1
else
  packet_Write_j2 z x3

noncomputable def packet_Write (z : Option Nat) (p : Packet) (room : Int) : Option (List Int × Int) :=
  if (!(packet_Right p)) then
  some ([], 1)
else
  if (cm .gtr (packet_total p) room) then
    some ([], 7)
  else
    Option.bind (head_Write z p.head) fun x1 =>
      if p.head.hasExt then
      Option.bind (octet_Put (IntKind.u64.wrap p.profile) 2) fun x6 =>
        Option.bind (octet_Put (IntKind.u64.wrap (dv .quo .i64 (p.ext.length : Int) 4)) 2) fun x7 =>
        Option.bind (octet_Join z [x1.1, x6.1, x7.1, p.ext]) fun x8 =>
        packet_Write_j1 z p x8
    else
      packet_Write_j1 z p x1.1

noncomputable def stay_Again (z : Option Nat) (p : Plan) (b : List Int) (room : Int) : Option (List Int × Int) :=
  Option.bind (packet_Read z b) fun x1 =>
  if (cm .neq x1.2 0) then
  some ([], x1.2)
else
  Option.bind (plan_Apply z p x1.1) fun x2 =>
    if (cm .neq x2.2 0) then
    some ([], x2.2)
  else
    Option.bind (packet_Write z x2.1 room) fun x3 =>
      some (x3.1, x3.2)

noncomputable def law31_awake (z : Option Nat)  : Option (Bool) :=
  Option.bind (stay_Stay z (Plan.mk false false true 97 true 258 false 0 false 0 [(GMap.mk 3 4)] ([(Elem.mk 3 [8])]) [] [] false) [144, 224, 0, 1, 0, 0, 0, 2, 0, 0, 0, 3, 190, 222, 0, 1, 48, 7, 0, 0, 9]) fun x1 =>
  Option.bind (stay_Places z (Plan.mk false false true 97 true 258 false 0 false 0 [(GMap.mk 3 4)] ([(Elem.mk 3 [8])]) [] [] false) [144, 224, 0, 1, 0, 0, 0, 2, 0, 0, 0, 3, 190, 222, 0, 1, 48, 7, 0, 0, 9]) fun x2 =>
  Option.bind (stay_Stay z (Plan.mk false false false 0 false 0 false 0 false 0 [] [] [] [] true) [144, 224, 0, 1, 0, 0, 0, 2, 0, 0, 0, 3, 190, 222, 0, 1, 48, 7, 0, 0, 9]) fun x3 =>
  Option.bind (stay_Again z (Plan.mk false false true 97 true 258 false 0 false 0 [(GMap.mk 3 4)] ([(Elem.mk 3 [8])]) [] [] false) [144, 224, 0, 1, 0, 0, 0, 2, 0, 0, 0, 3, 190, 222, 0, 1, 48, 7, 0, 0, 9] 21) fun x4 =>
  Option.bind (stay_Again z (Plan.mk false false true 97 true 258 false 0 false 0 [(GMap.mk 3 4)] ([(Elem.mk 3 [8])]) [] [] false) [144, 224, 0, 1, 0, 0, 0, 2, 0, 0, 0, 3, 190, 222, 0, 1, 48, 7, 0, 0, 9] 20) fun x5 =>
  Option.bind (gT ((((((((cm .eql x1.2 0) && (cm .eql x2.2 0)) && (cm .eql x3.2 9)) && (cm .eql x4.2 0)) && (cm .eql x5.2 7)) && (sc .eql (b2s x1.1) ([144, 225, 1, 2, 0, 0, 0, 2, 0, 0, 0, 3, 190, 222, 0, 1, 64, 8, 0, 0, 9] : List UInt8))) && (sc .eql (b2s x1.1) (b2s x4.1))) && (cm .eql (x2.1.length : Int) 4)) (ix x2.1 3)) fun x6 =>
  some (((((((((cm .eql x1.2 0) && (cm .eql x2.2 0)) && (cm .eql x3.2 9)) && (cm .eql x4.2 0)) && (cm .eql x5.2 7)) && (sc .eql (b2s x1.1) ([144, 225, 1, 2, 0, 0, 0, 2, 0, 0, 0, 3, 190, 222, 0, 1, 64, 8, 0, 0, 9] : List UInt8))) && (sc .eql (b2s x1.1) (b2s x4.1))) && (cm .eql (x2.1.length : Int) 4)) && (x6.field == 9 && (x6.at_ == 17 && (x6.size == 1 && true))))

noncomputable def ref08_Short_s1 (z : Option Nat) (l : List Elem) (v1 : Int) : Option (((Int) ⊕ (Bool))) :=
  if (cm .lss v1 (l.length : Int)) then
  Option.bind (ix l v1) fun x2 =>
    if (cm .gtr (x2.data.length : Int) 400) then
    Option.map Sum.inr (some false)
  else
    some (Sum.inl (ar .add .i64 v1 1))
else
  Option.map Sum.inr (some (cm .leq (l.length : Int) 300))

noncomputable def ref08_Short_l1 (z : Option Nat) (l : List Elem) (v1 : Int) : Option (Bool) :=
  loopG z (fun (s : Int) => ref08_Short_s1 z l s) (v1)

noncomputable def ref08_Short (z : Option Nat) (l : List Elem) : Option (Bool) :=
  ref08_Short_l1 z l 0

noncomputable def ref29_Short (z : Option Nat) (p : Plan) : Option (Bool) :=
  Option.bind (gT ((cm .leq (p.maps.length : Int) 300) && (cm .leq (p.drops.length : Int) 300)) (ref08_Short z p.over)) fun x1 =>
  Option.bind (gT (((cm .leq (p.maps.length : Int) 300) && (cm .leq (p.drops.length : Int) 300)) && x1) (ref08_Short z p.adds)) fun x2 =>
  some ((((cm .leq (p.maps.length : Int) 300) && (cm .leq (p.drops.length : Int) 300)) && x1) && x2)

def packet_Size (p : Packet) : Int :=
  if (!(packet_Right p)) then
  0
else
  (packet_total p)

def bytes_Equal (p_a : List Int) (b : List Int) : Bool :=
  (sc .eql (b2s p_a) (b2s b))

def internal_bytealg_Cutover (n : Int) : Int :=
  (dv .quo .i64 (ar .add .i64 n 16) 8)

noncomputable def internal_bytealg_hashStr_j3 (z : Option Nat) (v5 : Int) (v6 : Int) (v7 : Int) : Option (((Int × Int × Int) ⊕ (Int × Int))) :=
  some (Sum.inl (v7, (ar .mul .u32 v5 v5), (sf .shr .i64 v6 1)))

noncomputable def internal_bytealg_hashStr_s2 (z : Option Nat) (v1 : Int) (v4 : Int) (v5 : Int) (v6 : Int) : Option (((Int × Int × Int) ⊕ (Int × Int))) :=
  if (cm .gtr v6 0) then
  if (cm .neq (ar .and .i64 v6 1) 0) then
    internal_bytealg_hashStr_j3 z v5 v6 (ar .mul .u32 v4 v5)
  else
    internal_bytealg_hashStr_j3 z v5 v6 v4
else
  Option.map Sum.inr (some (v1, v4))

noncomputable def internal_bytealg_hashStr_l2 (z : Option Nat) (v1 : Int) (v4 : Int) (v5 : Int) (v6 : Int) : Option (Int × Int) :=
  loopG z (fun (s : Int × Int × Int) => internal_bytealg_hashStr_s2 z v1 s.1 s.2.1 s.2.2) (v4, v5, v6)

noncomputable def internal_bytealg_hashStr_s1 (z : Option Nat) (sep : List Int) (v1 : Int) (v2 : Int) : Option (((Int × Int) ⊕ (Int × Int))) :=
  if (cm .lss v2 (sep.length : Int)) then
  Option.bind (ix sep v2) fun x3 =>
    some (Sum.inl ((ar .add .u32 (ar .mul .u32 v1 16777619) (IntKind.u32.wrap x3)), (ar .add .i64 v2 1)))
else
  Option.map Sum.inr (internal_bytealg_hashStr_l2 z v1 1 16777619 (sep.length : Int))

noncomputable def internal_bytealg_hashStr_l1 (z : Option Nat) (sep : List Int) (v1 : Int) (v2 : Int) : Option (Int × Int) :=
  loopG z (fun (s : Int × Int) => internal_bytealg_hashStr_s1 z sep s.1 s.2) (v1, v2)

noncomputable def internal_bytealg_hashStr (z : Option Nat) (sep : List Int) : Option (Int × Int) :=
  internal_bytealg_hashStr_l1 z sep 0 0

noncomputable def internal_bytealg_IndexRabinKarp_s2 (z : Option Nat) (p_s : List Int) (sep : List Int) (x1 : Int × Int) (v6 : Int) (v7 : Int) : Option (((Int × Int) ⊕ (Int))) :=
  if (cm .lss v7 (p_s.length : Int)) then
  Option.bind (ix p_s v7) fun x8 =>
    Option.bind (ix p_s (ar .sub .i64 v7 (sep.length : Int))) fun x9 =>
    Option.bind (gT (cm .eql (ar .sub .u32 (ar .add .u32 (ar .mul .u32 v6 16777619) (IntKind.u32.wrap x8)) (ar .mul .u32 x1.2 (IntKind.u32.wrap x9))) x1.1) (sub p_s (ar .sub .i64 (ar .add .i64 v7 1) (sep.length : Int)) (ar .add .i64 v7 1))) fun x10 =>
    if ((cm .eql (ar .sub .u32 (ar .add .u32 (ar .mul .u32 v6 16777619) (IntKind.u32.wrap x8)) (ar .mul .u32 x1.2 (IntKind.u32.wrap x9))) x1.1) && (sc .eql (b2s x10) (b2s sep))) then
    Option.map Sum.inr (some (ar .sub .i64 (ar .add .i64 v7 1) (sep.length : Int)))
  else
    some (Sum.inl ((ar .sub .u32 (ar .add .u32 (ar .mul .u32 v6 16777619) (IntKind.u32.wrap x8)) (ar .mul .u32 x1.2 (IntKind.u32.wrap x9))), (ar .add .i64 v7 1)))
else
  Option.map Sum.inr (some (-1))

noncomputable def internal_bytealg_IndexRabinKarp_l2 (z : Option Nat) (p_s : List Int) (sep : List Int) (x1 : Int × Int) (v6 : Int) (v7 : Int) : Option (Int) :=
  loopG z (fun (s : Int × Int) => internal_bytealg_IndexRabinKarp_s2 z p_s sep x1 s.1 s.2) (v6, v7)

noncomputable def internal_bytealg_IndexRabinKarp_s1 (z : Option Nat) (p_s : List Int) (sep : List Int) (x1 : Int × Int) (v2 : Int) (v3 : Int) : Option (((Int × Int) ⊕ (Int))) :=
  if (cm .lss v3 (sep.length : Int)) then
  Option.bind (ix p_s v3) fun x4 =>
    some (Sum.inl ((ar .add .u32 (ar .mul .u32 v2 16777619) (IntKind.u32.wrap x4)), (ar .add .i64 v3 1)))
else
  Option.map Sum.inr (Option.bind (gT (cm .eql v2 x1.1) (sub p_s 0 (sep.length : Int))) fun x5 =>
    if ((cm .eql v2 x1.1) && (sc .eql (b2s x5) (b2s sep))) then
    some 0
  else
    internal_bytealg_IndexRabinKarp_l2 z p_s sep x1 v2 (sep.length : Int))

noncomputable def internal_bytealg_IndexRabinKarp_l1 (z : Option Nat) (p_s : List Int) (sep : List Int) (x1 : Int × Int) (v2 : Int) (v3 : Int) : Option (Int) :=
  loopG z (fun (s : Int × Int) => internal_bytealg_IndexRabinKarp_s1 z p_s sep x1 s.1 s.2) (v2, v3)

noncomputable def internal_bytealg_IndexRabinKarp (z : Option Nat) (p_s : List Int) (sep : List Int) : Option (Int) :=
  Option.bind (internal_bytealg_hashStr z sep) fun x1 =>
  internal_bytealg_IndexRabinKarp_l1 z p_s sep x1 0 0

noncomputable def bytes_Count_s1 (z : Option Nat) (v2 : List Int) (v3 : Int) : Option (((List Int × Int) ⊕ (Int))) :=
  none

noncomputable def bytes_Count_l1 (z : Option Nat) (v2 : List Int) (v3 : Int) : Option (Int) :=
  loopG z (fun (s : List Int × Int) => bytes_Count_s1 z s.1 s.2) (v2, v3)

noncomputable def bytes_Count (z : Option Nat) (p_s : List Int) (sep : List Int) : Option (Int) :=
  if (cm .eql (sep.length : Int) 0) then
  none
else
  if (cm .eql (sep.length : Int) 1) then
    Option.bind (ix sep 0) fun x1 =>
      some (countB p_s x1)
  else
    bytes_Count_l1 z p_s 0

noncomputable def pad_Zero (z : Option Nat) (b : List Int) : Option (Bool) :=
  Option.bind (bytes_Count z b [0]) fun x1 =>
  some (cm .eql x1 (b.length : Int))

noncomputable def pad_Clean (z : Option Nat) (b : List Int) : Option (Bool) :=
  Option.bind (pad_Trail b) fun x1 =>
  Option.bind (gT (cm .eql x1.2 0) (sub b (ar .sub .i64 (b.length : Int) x1.1) (ar .sub .i64 (b.length : Int) 1))) fun x2 =>
  Option.bind (gT (cm .eql x1.2 0) (pad_Zero z x2)) fun x3 =>
  some ((cm .eql x1.2 0) && x3)

noncomputable def packet_Canon (z : Option Nat) (b : List Int) : Option (Bool) :=
  Option.bind (packet_read z b) fun x1 =>
  Option.bind (gT ((cm .eql x1.2.2 0) && (!(cm .eql x1.1.pad 0))) (pad_Clean z x1.2.1)) fun x2 =>
  some ((cm .eql x1.2.2 0) && ((cm .eql x1.1.pad 0) || x2))

noncomputable def ref05_Numbers_s1 (z : Option Nat) (p_a : List Int) (b : List Int) (v1 : Int) : Option (((Int) ⊕ (Bool))) :=
  if (cm .lss v1 (p_a.length : Int)) then
  Option.bind (ix p_a v1) fun x2 =>
    Option.bind (ix b v1) fun x3 =>
    if (cm .neq x2 x3) then
    Option.map Sum.inr (some false)
  else
    some (Sum.inl (ar .add .i64 v1 1))
else
  Option.map Sum.inr (some true)

noncomputable def ref05_Numbers_l1 (z : Option Nat) (p_a : List Int) (b : List Int) (v1 : Int) : Option (Bool) :=
  loopG z (fun (s : Int) => ref05_Numbers_s1 z p_a b s) (v1)

noncomputable def ref05_Numbers (z : Option Nat) (p_a : List Int) (b : List Int) : Option (Bool) :=
  if (cm .neq (p_a.length : Int) (b.length : Int)) then
  some false
else
  ref05_Numbers_l1 z p_a b 0

noncomputable def ref05_Same (z : Option Nat) (p_a : Head) (b : Head) : Option (Bool) :=
  Option.bind (gT (((((((bq .eql p_a.hasPad b.hasPad) && (bq .eql p_a.hasExt b.hasExt)) && (bq .eql p_a.marker b.marker)) && (cm .eql p_a.type b.type)) && (cm .eql p_a.seq b.seq)) && (cm .eql p_a.time b.time)) && (cm .eql p_a.ssrc b.ssrc)) (ref05_Numbers z p_a.csrc b.csrc)) fun x1 =>
  some ((((((((bq .eql p_a.hasPad b.hasPad) && (bq .eql p_a.hasExt b.hasExt)) && (bq .eql p_a.marker b.marker)) && (cm .eql p_a.type b.type)) && (cm .eql p_a.seq b.seq)) && (cm .eql p_a.time b.time)) && (cm .eql p_a.ssrc b.ssrc)) && x1)

noncomputable def ref06_Same (z : Option Nat) (p_a : Packet) (b : Packet) : Option (Bool) :=
  Option.bind (ref05_Same z p_a.head b.head) fun x1 =>
  some ((((x1 && (cm .eql p_a.profile b.profile)) && (sc .eql (b2s p_a.ext) (b2s b.ext))) && (sc .eql (b2s p_a.payload) (b2s b.payload))) && (cm .eql p_a.pad b.pad))

noncomputable def law31_StayAgain (z : Option Nat) (p : Plan) (b : List Int) (room : Int) : Option (Bool) :=
  Option.bind (ref29_Short z p) fun x1 =>
  if ((!x1) || (cm .gtr (b.length : Int) 70000)) then
  some true
else
  Option.bind (packet_Read z b) fun x2 =>
    Option.bind (stay_Again z p b room) fun x3 =>
    if (cm .neq x2.2 0) then
    some ((cm .eql x3.2 x2.2) && (cm .eql (x3.1.length : Int) 0))
  else
    Option.bind (plan_Apply z p x2.1) fun x4 =>
      if (cm .neq x4.2 0) then
      some ((cm .eql x3.2 x4.2) && (cm .eql (x3.1.length : Int) 0))
    else
      if (cm .gtr (packet_Size x4.1) room) then
        some ((cm .eql x3.2 7) && (cm .eql (x3.1.length : Int) 0))
      else
        Option.bind (packet_Read z x3.1) fun x5 =>
          Option.bind (stay_Again z (Plan.mk false false false 0 false 0 false 0 false 0 [] [] [] [] false) b 65535) fun x6 =>
          Option.bind (packet_Write z x2.1 65535) fun x7 =>
          Option.bind (gT ((cm .eql x3.2 0) && (cm .eql x5.2 0)) (packet_Canon z x3.1)) fun x8 =>
          Option.bind (gT (((cm .eql x3.2 0) && (cm .eql x5.2 0)) && x8) (ref06_Same z x5.1 x4.1)) fun x9 =>
          some (((((((cm .eql x3.2 0) && (cm .eql x5.2 0)) && x8) && x9) && (cm .eql x6.2 0)) && (cm .eql x7.2 0)) && (sc .eql (b2s x6.1) (b2s x7.1)))

end Xb
