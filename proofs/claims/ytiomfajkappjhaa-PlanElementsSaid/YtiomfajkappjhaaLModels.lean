/- Own text: LModels. -/
import Derived.Test.YtiomfajkappjhaaLTypes
set_option linter.all false
set_option linter.unusedVariables false
set_option linter.unusedSimpArgs false
set_option linter.unnecessarySimpa false
set_option linter.deprecated false
namespace Xb
open Go
set_option linter.unusedVariables false

def head_Right (p_h : Head) : Bool :=
  (((cm .geq p_h.type 0) && (cm .leq p_h.type 127)) && (cm .leq (p_h.csrc.length : Int) 15))

def packet_extended (p : Packet) : Bool :=
  if (!p.head.hasExt) then
  ((cm .eql p.profile 0) && (cm .eql (p.ext.length : Int) 0))
else
  ((cm .eql (dv .rem .i64 (p.ext.length : Int) 4) 0) && (cm .leq (dv .quo .i64 (p.ext.length : Int) 4) 65535))

def packet_padded (p : Packet) : Bool :=
  if (!p.head.hasPad) then
  (cm .eql p.pad 0)
else
  ((cm .geq p.pad 1) && (cm .leq p.pad 255))

def head_Size (p_h : Head) : Int :=
  if (!(head_Right p_h)) then
  0
else
  (ar .add .i64 12 (ar .mul .i64 4 (p_h.csrc.length : Int)))

def packet_total_j1 (v1 : Int) : Int :=
  v1

def packet_total (p : Packet) : Int :=
  if p.head.hasExt then
  packet_total_j1 (ar .add .i64 (ar .add .i64 (ar .add .i64 (ar .add .i64 (head_Size p.head) (p.ext.length : Int)) (p.payload.length : Int)) p.pad) 4)
else
  packet_total_j1 (ar .add .i64 (ar .add .i64 (ar .add .i64 (head_Size p.head) (p.ext.length : Int)) (p.payload.length : Int)) p.pad)

def packet_Right (p : Packet) : Bool :=
  (((((head_Right p.head) && (packet_extended p)) && (packet_padded p)) && (cm .leq (p.payload.length : Int) 65535)) && (cm .leq (packet_total p) 65535))

def plan_single_j1 (p : Plan) (v1 : Bool) : Bool :=
  if v1 then
  false
else
  ((cm .geq p.type 0) && (cm .leq p.type 127))

def plan_single (p : Plan) : Bool :=
  if ((!p.setMarker) && p.marker) then
  plan_single_j1 p ((!p.setMarker) && p.marker)
else
  if ((!p.setType) && (cm .neq p.type 0)) then
    plan_single_j1 p ((!p.setType) && (cm .neq p.type 0))
  else
    if ((!p.setSeq) && (cm .neq p.seq 0)) then
      plan_single_j1 p ((!p.setSeq) && (cm .neq p.seq 0))
    else
      if ((!p.setTime) && (cm .neq p.time 0)) then
        plan_single_j1 p ((!p.setTime) && (cm .neq p.time 0))
      else
        plan_single_j1 p ((!p.setSsrc) && (cm .neq p.ssrc 0))

def plan_from (m : GMap) : Int :=
  m.from_

noncomputable def plan_apart_s1 (z : Option Nat) (l : List Int) (v1 : List (Int × Int)) (v2 : Int) : Option ((((List (Int × Int)) × Int) ⊕ (Bool))) :=
  if (cm .lss v2 (l.length : Int)) then
  Option.bind (ix l v2) fun x3 =>
    Option.bind (mputO v1 x3 (ar .add .i64 (mgetD v1 x3 0) 1)) fun x4 =>
    if (((cm .lss x3 1) || (cm .gtr x3 255)) || (cm .gtr (mgetD x4 x3 0) 1)) then
    Option.map Sum.inr (some false)
  else
    some (Sum.inl (x4, (ar .add .i64 v2 1)))
else
  Option.map Sum.inr (some true)

noncomputable def plan_apart_l1 (z : Option Nat) (l : List Int) (v1 : List (Int × Int)) (v2 : Int) : Option (Bool) :=
  loopG z (fun (s : (List (Int × Int)) × Int) => plan_apart_s1 z l s.1 s.2) (v1, v2)

noncomputable def plan_apart (z : Option Nat) (l : List Int) : Option (Bool) :=
  plan_apart_l1 z l ([] : List (Int × Int)) 0

def plan_to (m : GMap) : Int :=
  m.to

noncomputable def elem_Right_s1 (z : Option Nat) (l : List Elem) (v1 : List (Int × Bool)) (v2 : Int) : Option ((((List (Int × Bool)) × Int) ⊕ (Bool))) :=
  if (cm .lss v2 (l.length : Int)) then
  Option.bind (ix l v2) fun x3 =>
    if ((((cm .lss x3.id_ 1) || (cm .gtr x3.id_ 255)) || (cm .gtr (x3.data.length : Int) 255)) || (mgetD v1 x3.id_ false)) then
    Option.map Sum.inr (some false)
  else
    Option.bind (mputO v1 x3.id_ true) fun x4 =>
      some (Sum.inl (x4, (ar .add .i64 v2 1)))
else
  Option.map Sum.inr (some true)

noncomputable def elem_Right_l1 (z : Option Nat) (l : List Elem) (v1 : List (Int × Bool)) (v2 : Int) : Option (Bool) :=
  loopG z (fun (s : (List (Int × Bool)) × Int) => elem_Right_s1 z l s.1 s.2) (v1, v2)

noncomputable def elem_Right (z : Option Nat) (l : List Elem) : Option (Bool) :=
  elem_Right_l1 z l ([] : List (Int × Bool)) 0

def plan_ident (x : Elem) : Int :=
  x.id_

noncomputable def slices_Index_s1 (z : Option Nat) (p_s : List Int) (v : Int) (v1 : Int) : Option (((Int) ⊕ (Int))) :=
  if (cm .lss v1 (p_s.length : Int)) then
  Option.bind (ix p_s v1) fun x2 =>
    if (cm .eql v x2) then
    Option.map Sum.inr (some v1)
  else
    some (Sum.inl (ar .add .i64 v1 1))
else
  Option.map Sum.inr (some (-1))

noncomputable def slices_Index_l1 (z : Option Nat) (p_s : List Int) (v : Int) (v1 : Int) : Option (Int) :=
  loopG z (fun (s : Int) => slices_Index_s1 z p_s v s) (v1)

noncomputable def slices_Index (z : Option Nat) (p_s : List Int) (v : Int) : Option (Int) :=
  slices_Index_l1 z p_s v 0

noncomputable def slices_Contains (z : Option Nat) (p_s : List Int) (v : Int) : Option (Bool) :=
  Option.bind (slices_Index z p_s v) fun x1 =>
  some (cm .geq x1 0)

noncomputable def plan_Right_1 (z : Option Nat) (id_ : Int) (cap0 : List Int) : Option (Bool) :=
  Option.bind (slices_Contains z cap0 id_) fun x1 =>
  some x1

noncomputable def slices_IndexFunc_int_s1 (z : Option Nat) (p_s : List Int) (f : (Int → Option Bool)) (v1 : Int) : Option (((Int) ⊕ (Int))) :=
  if (cm .lss v1 (p_s.length : Int)) then
  Option.bind (ix p_s v1) fun x2 =>
    Option.bind (f x2) fun x3 =>
    if x3 then
    Option.map Sum.inr (some v1)
  else
    some (Sum.inl (ar .add .i64 v1 1))
else
  Option.map Sum.inr (some (-1))

noncomputable def slices_IndexFunc_int_l1 (z : Option Nat) (p_s : List Int) (f : (Int → Option Bool)) (v1 : Int) : Option (Int) :=
  loopG z (fun (s : Int) => slices_IndexFunc_int_s1 z p_s f s) (v1)

noncomputable def slices_IndexFunc_int (z : Option Nat) (p_s : List Int) (f : (Int → Option Bool)) : Option (Int) :=
  slices_IndexFunc_int_l1 z p_s f 0

noncomputable def slices_ContainsFunc_int (z : Option Nat) (p_s : List Int) (f : (Int → Option Bool)) : Option (Bool) :=
  Option.bind (slices_IndexFunc_int z p_s f) fun x1 =>
  some (cm .geq x1 0)

noncomputable def plan_ids_Map_f0_s1 (z : Option Nat) (l : List GMap) (v1 : List Int) (v2 : Int) : Option (((List Int × Int) ⊕ (List Int))) :=
  if (cm .lss v2 (l.length : Int)) then
  Option.bind (ix l v2) fun x3 =>
    Option.bind (app v1 [(plan_from x3 )]) fun x4 =>
    some (Sum.inl (x4, (ar .add .i64 v2 1)))
else
  Option.map Sum.inr (some v1)

noncomputable def plan_ids_Map_f0_l1 (z : Option Nat) (l : List GMap) (v1 : List Int) (v2 : Int) : Option (List Int) :=
  loopG z (fun (s : List Int × Int) => plan_ids_Map_f0_s1 z l s.1 s.2) (v1, v2)

noncomputable def plan_ids_Map_f0 (z : Option Nat) (l : List GMap) : Option (List Int) :=
  plan_ids_Map_f0_l1 z l [] 0

noncomputable def plan_ids_Map_f1_s1 (z : Option Nat) (l : List GMap) (v1 : List Int) (v2 : Int) : Option (((List Int × Int) ⊕ (List Int))) :=
  if (cm .lss v2 (l.length : Int)) then
  Option.bind (ix l v2) fun x3 =>
    Option.bind (app v1 [(plan_to x3 )]) fun x4 =>
    some (Sum.inl (x4, (ar .add .i64 v2 1)))
else
  Option.map Sum.inr (some v1)

noncomputable def plan_ids_Map_f1_l1 (z : Option Nat) (l : List GMap) (v1 : List Int) (v2 : Int) : Option (List Int) :=
  loopG z (fun (s : List Int × Int) => plan_ids_Map_f1_s1 z l s.1 s.2) (v1, v2)

noncomputable def plan_ids_Map_f1 (z : Option Nat) (l : List GMap) : Option (List Int) :=
  plan_ids_Map_f1_l1 z l [] 0

noncomputable def plan_ids_Elem_f0_s1 (z : Option Nat) (l : List Elem) (v1 : List Int) (v2 : Int) : Option (((List Int × Int) ⊕ (List Int))) :=
  if (cm .lss v2 (l.length : Int)) then
  Option.bind (ix l v2) fun x3 =>
    Option.bind (app v1 [(plan_ident x3 )]) fun x4 =>
    some (Sum.inl (x4, (ar .add .i64 v2 1)))
else
  Option.map Sum.inr (some v1)

noncomputable def plan_ids_Elem_f0_l1 (z : Option Nat) (l : List Elem) (v1 : List Int) (v2 : Int) : Option (List Int) :=
  loopG z (fun (s : List Int × Int) => plan_ids_Elem_f0_s1 z l s.1 s.2) (v1, v2)

noncomputable def plan_ids_Elem_f0 (z : Option Nat) (l : List Elem) : Option (List Int) :=
  plan_ids_Elem_f0_l1 z l [] 0

noncomputable def plan_Right (z : Option Nat) (p : Plan) : Option (Bool) :=
  Option.bind (gT (!(!(plan_single p))) (plan_ids_Map_f0 z p.maps)) fun x1 =>
  Option.bind (gT (!(!(plan_single p))) (plan_apart z x1)) fun x2 =>
  Option.bind (gT (!((!(plan_single p)) || (!x2))) (plan_ids_Map_f1 z p.maps)) fun x3 =>
  Option.bind (gT (!((!(plan_single p)) || (!x2))) (plan_apart z x3)) fun x4 =>
  Option.bind (gT (!(((!(plan_single p)) || (!x2)) || (!x4))) (elem_Right z p.over)) fun x5 =>
  Option.bind (gT (!((((!(plan_single p)) || (!x2)) || (!x4)) || (!x5))) (elem_Right z p.adds)) fun x6 =>
  Option.bind (gT (!(((((!(plan_single p)) || (!x2)) || (!x4)) || (!x5)) || (!x6))) (plan_apart z p.drops)) fun x7 =>
  if ((((((!(plan_single p)) || (!x2)) || (!x4)) || (!x5)) || (!x6)) || (!x7)) then
  some false
else
  Option.bind (plan_ids_Map_f0 z p.maps) fun x8 =>
    Option.bind (plan_ids_Elem_f0 z p.over) fun x9 =>
    Option.bind (app x8 x9) fun x10 =>
    Option.bind (slices_ContainsFunc_int z p.drops (fun (y0 : Int) => plan_Right_1 z y0 x10)) fun x11 =>
    some (!x11)

def plan_turns (p : Plan) : Bool :=
  (cm .gtr (ar .add .i64 (p.drops.length : Int) (p.adds.length : Int)) 0)

def plan_Elements (p : Plan) : Bool :=
  ((cm .gtr (ar .add .i64 (p.maps.length : Int) (p.over.length : Int)) 0) || (plan_turns p))

def elem_walk (profile : Int) : I_elem_walker :=
  if (cm .eql profile 48862) then
  (I_elem_walker.c102 (elem_low.mk ))
else
  if (cm .eql (ar .andNot .u16 profile 15) 4096) then
    (I_elem_walker.c103 (elem_high.mk ))
  else
    I_elem_walker.nil

def elem_low_next (p0 : elem_low) (b : List Int) (at_ : Int) : Option (Spot × Bool) :=
  Option.bind (ix b at_) fun x1 =>
  Option.bind (ix b at_) fun x2 =>
  some ((Spot.mk (IntKind.i64.wrap (sf .shr .u8 x1 4)) (ar .add .i64 at_ 1) (ar .add .i64 (IntKind.i64.wrap (ar .and .u8 x2 15)) 1)), ((cm .neq (IntKind.i64.wrap (sf .shr .u8 x1 4)) 0) && (cm .neq (IntKind.i64.wrap (sf .shr .u8 x1 4)) 15)))

def elem_high_next_j1 (v2 : Spot) : Option (Spot × Bool) :=
  some (v2, true)

def elem_high_next (p0 : elem_high) (b : List Int) (at_ : Int) : Option (Spot × Bool) :=
  Option.bind (ix b at_) fun x1 =>
  if (cm .lss (ar .add .i64 at_ 1) (b.length : Int)) then
  Option.bind (ix b (ar .add .i64 at_ 1)) fun x3 =>
    elem_high_next_j1 (Spot.mk (IntKind.i64.wrap x1) (ar .add .i64 at_ 2) (IntKind.i64.wrap x3))
else
  elem_high_next_j1 (Spot.mk (IntKind.i64.wrap x1) (ar .add .i64 at_ 2) 256)

def elem_Spots_1 (x : Spot) (cap0 : Spot) : Bool :=
  (cm .eql x.id_ cap0.id_)

noncomputable def slices_IndexFunc_Spot_s1 (z : Option Nat) (p_s : List Spot) (f : (Spot → Option Bool)) (v1 : Int) : Option (((Int) ⊕ (Int))) :=
  if (cm .lss v1 (p_s.length : Int)) then
  Option.bind (ix p_s v1) fun x2 =>
    Option.bind (f x2) fun x3 =>
    if x3 then
    Option.map Sum.inr (some v1)
  else
    some (Sum.inl (ar .add .i64 v1 1))
else
  Option.map Sum.inr (some (-1))

noncomputable def slices_IndexFunc_Spot_l1 (z : Option Nat) (p_s : List Spot) (f : (Spot → Option Bool)) (v1 : Int) : Option (Int) :=
  loopG z (fun (s : Int) => slices_IndexFunc_Spot_s1 z p_s f s) (v1)

noncomputable def slices_IndexFunc_Spot (z : Option Nat) (p_s : List Spot) (f : (Spot → Option Bool)) : Option (Int) :=
  slices_IndexFunc_Spot_l1 z p_s f 0

noncomputable def slices_ContainsFunc_Spot (z : Option Nat) (p_s : List Spot) (f : (Spot → Option Bool)) : Option (Bool) :=
  Option.bind (slices_IndexFunc_Spot z p_s f) fun x1 =>
  some (cm .geq x1 0)

def I_elem_walker_next (w : I_elem_walker) (a0 : List Int) (a1 : Int) : Option (Spot × Bool) :=
  match w with
  | .nil => none
  | .c102 x => elem_low_next x a0 a1
  | .c103 x => elem_high_next x a0 a1

noncomputable def elem_Spots_j1 (z : Option Nat) (v1 : List Spot) : Option (List Spot × Int) :=
  some (v1, 0)

noncomputable def elem_Spots_s2 (z : Option Nat) (profile : Int) (data : List Int) (v2 : List Spot) (v3 : Int) : Option (((List Spot × Int) ⊕ (List Spot × Int))) :=
  if (cm .lss v3 (data.length : Int)) then
  Option.bind (ix data v3) fun x4 =>
    if (cm .eql x4 0) then
    some (Sum.inl (v2, (ar .add .i64 v3 1)))
  else
    Option.bind (I_elem_walker_next (elem_walk profile) data v3) fun x5 =>
      if (!x5.2) then
      Option.map Sum.inr (elem_Spots_j1 z v2)
    else
      if ((cm .gtr x5.1.at_ (data.length : Int)) || (cm .gtr x5.1.size (ar .sub .i64 (data.length : Int) x5.1.at_))) then
        Option.map Sum.inr (some ([], 4))
      else
        Option.bind (slices_ContainsFunc_Spot z v2 (fun (y0 : Spot) => some (elem_Spots_1 y0 x5.1))) fun x6 =>
          if x6 then
          Option.map Sum.inr (some ([], 6))
        else
          Option.bind (app v2 [x5.1]) fun x7 =>
            some (Sum.inl (x7, (ar .add .i64 x5.1.at_ x5.1.size)))
else
  Option.map Sum.inr (elem_Spots_j1 z v2)

noncomputable def elem_Spots_l2 (z : Option Nat) (profile : Int) (data : List Int) (v2 : List Spot) (v3 : Int) : Option (List Spot × Int) :=
  loopG z (fun (s : List Spot × Int) => elem_Spots_s2 z profile data s.1 s.2) (v2, v3)

noncomputable def elem_Spots (z : Option Nat) (profile : Int) (data : List Int) : Option (List Spot × Int) :=
  if (I_elem_walker.isnil (elem_walk profile)) then
  some ([], 6)
else
  elem_Spots_l2 z profile data [] 0

def slices_Clone (l : List Int) : Option (List Int) := app [] l

noncomputable def elem_Read_s1 (z : Option Nat) (data : List Int) (x1 : List Spot × Int) (v2 : List Elem) (v3 : Int) : Option (((List Elem × Int) ⊕ (List Elem × Int))) :=
  if (cm .lss v3 (x1.1.length : Int)) then
  Option.bind (ix x1.1 v3) fun x4 =>
    Option.bind (sub data x4.at_ (ar .add .i64 x4.at_ x4.size)) fun x5 =>
    Option.bind (slices_Clone x5) fun x6 =>
    Option.bind (app v2 [(Elem.mk x4.id_ x6)]) fun x7 =>
    some (Sum.inl (x7, (ar .add .i64 v3 1)))
else
  Option.map Sum.inr (some (v2, 0))

noncomputable def elem_Read_l1 (z : Option Nat) (data : List Int) (x1 : List Spot × Int) (v2 : List Elem) (v3 : Int) : Option (List Elem × Int) :=
  loopG z (fun (s : List Elem × Int) => elem_Read_s1 z data x1 s.1 s.2) (v2, v3)

noncomputable def elem_Read (z : Option Nat) (profile : Int) (data : List Int) : Option (List Elem × Int) :=
  Option.bind (elem_Spots z profile data) fun x1 =>
  if (cm .neq x1.2 0) then
  some ([], x1.2)
else
  elem_Read_l1 z data x1 [] 0

noncomputable def plan_elements (z : Option Nat) (k : Packet) : Option (List Elem × Bool) :=
  if (!k.head.hasExt) then
  some ([], true)
else
  Option.bind (elem_Read z k.profile k.ext) fun x1 =>
    some (x1.1, (cm .eql x1.2 0))

noncomputable def slices_Concat_int_j2 (z : Option Nat) (v1 : Int) (v2 : Int) (x3 : List Int) : Option (((Int × Int) ⊕ (List Int))) :=
  some (Sum.inl ((ar .add .i64 v1 (x3.length : Int)), (ar .add .i64 v2 1)))

noncomputable def slices_Concat_int_s3 (z : Option Nat) (slices : List (List Int)) (v5 : List Int) (v6 : Int) : Option (((List Int × Int) ⊕ (List Int))) :=
  if (cm .lss v6 (slices.length : Int)) then
  Option.bind (ix slices v6) fun x7 =>
    Option.bind (app v5 x7) fun x8 =>
    some (Sum.inl (x8, (ar .add .i64 v6 1)))
else
  Option.map Sum.inr (some v5)

noncomputable def slices_Concat_int_l3 (z : Option Nat) (slices : List (List Int)) (v5 : List Int) (v6 : Int) : Option (List Int) :=
  loopG z (fun (s : List Int × Int) => slices_Concat_int_s3 z slices s.1 s.2) (v5, v6)

noncomputable def slices_Concat_int_s1 (z : Option Nat) (slices : List (List Int)) (v1 : Int) (v2 : Int) : Option (((Int × Int) ⊕ (List Int))) :=
  if (cm .lss v2 (slices.length : Int)) then
  Option.bind (ix slices v2) fun x3 =>
    if (cm .lss (ar .add .i64 v1 (x3.length : Int)) 0) then
    none
  else
    slices_Concat_int_j2 z v1 v2 x3
else
  Option.map Sum.inr (Option.bind (growL v1) fun x4 =>
    slices_Concat_int_l3 z slices ([] : List Int) 0)

noncomputable def slices_Concat_int_l1 (z : Option Nat) (slices : List (List Int)) (v1 : Int) (v2 : Int) : Option (List Int) :=
  loopG z (fun (s : Int × Int) => slices_Concat_int_s1 z slices s.1 s.2) (v1, v2)

noncomputable def slices_Concat_int (z : Option Nat) (slices : List (List Int)) : Option (List Int) :=
  slices_Concat_int_l1 z slices 0 0

noncomputable def plan_known_s1 (z : Option Nat) (x1 : List Int) (x4 : List Int) (v5 : Int) : Option (((Int) ⊕ (Bool))) :=
  if (cm .lss v5 (x4.length : Int)) then
  Option.bind (ix x4 v5) fun x6 =>
    Option.bind (slices_Contains z x1 x6) fun x7 =>
    if (!x7) then
    Option.map Sum.inr (some false)
  else
    some (Sum.inl (ar .add .i64 v5 1))
else
  Option.map Sum.inr (some true)

noncomputable def plan_known_l1 (z : Option Nat) (x1 : List Int) (x4 : List Int) (v5 : Int) : Option (Bool) :=
  loopG z (fun (s : Int) => plan_known_s1 z x1 x4 s) (v5)

noncomputable def plan_known (z : Option Nat) (p : Plan) (l : List Elem) : Option (Bool) :=
  Option.bind (plan_ids_Elem_f0 z l) fun x1 =>
  Option.bind (plan_ids_Map_f0 z p.maps) fun x2 =>
  Option.bind (plan_ids_Elem_f0 z p.over) fun x3 =>
  Option.bind (slices_Concat_int z [x2, x3, p.drops]) fun x4 =>
  plan_known_l1 z x1 x4 0

noncomputable def plan_data_s1 (z : Option Nat) (p : Plan) (x : Elem) (v1 : Int) : Option (((Int) ⊕ (List Int × Bool))) :=
  if (cm .lss v1 (p.over.length : Int)) then
  Option.bind (ix p.over v1) fun x2 =>
    if (cm .eql x2.id_ x.id_) then
    Option.map Sum.inr (some (x2.data, (cm .eql (x2.data.length : Int) (x.data.length : Int))))
  else
    some (Sum.inl (ar .add .i64 v1 1))
else
  Option.map Sum.inr (some (x.data, true))

noncomputable def plan_data_l1 (z : Option Nat) (p : Plan) (x : Elem) (v1 : Int) : Option (List Int × Bool) :=
  loopG z (fun (s : Int) => plan_data_s1 z p x s) (v1)

noncomputable def plan_data (z : Option Nat) (p : Plan) (x : Elem) : Option (List Int × Bool) :=
  plan_data_l1 z p x 0

noncomputable def plan_renamed_s1 (z : Option Nat) (p : Plan) (id_ : Int) (v1 : Int) : Option (((Int) ⊕ (Int))) :=
  if (cm .lss v1 (p.maps.length : Int)) then
  Option.bind (ix p.maps v1) fun x2 =>
    if (cm .eql x2.from_ id_) then
    Option.map Sum.inr (some x2.to)
  else
    some (Sum.inl (ar .add .i64 v1 1))
else
  Option.map Sum.inr (some id_)

noncomputable def plan_renamed_l1 (z : Option Nat) (p : Plan) (id_ : Int) (v1 : Int) : Option (Int) :=
  loopG z (fun (s : Int) => plan_renamed_s1 z p id_ s) (v1)

noncomputable def plan_renamed (z : Option Nat) (p : Plan) (id_ : Int) : Option (Int) :=
  plan_renamed_l1 z p id_ 0

noncomputable def plan_left_j2 (z : Option Nat) (v2 : Int) (v4 : List Elem) (v5 : Plan) : Option (((List Elem × Int × Plan) ⊕ (List Elem × Bool))) :=
  some (Sum.inl (v4, (ar .add .i64 v2 1), v5))

noncomputable def plan_left_s1 (z : Option Nat) (l : List Elem) (v1 : List Elem) (v2 : Int) (v3 : Plan) : Option (((List Elem × Int × Plan) ⊕ (List Elem × Bool))) :=
  if (cm .lss v2 (l.length : Int)) then
  Option.bind (ix l v2) fun x6 =>
    Option.bind (slices_Contains z v3.drops x6.id_) fun x7 =>
    if x7 then
    plan_left_j2 z v2 v1 v3
  else
    Option.bind (plan_data z v3 x6) fun x8 =>
      if (!x8.2) then
      Option.map Sum.inr (some (([] : List Elem), false))
    else
      Option.bind (plan_renamed z v3 x6.id_) fun x9 =>
        Option.bind (app v1 [(Elem.mk x9 x8.1)]) fun x10 =>
        plan_left_j2 z v2 x10 v3
else
  Option.map Sum.inr (Option.bind (app v1 v3.adds) fun x11 =>
    Option.bind (plan_ids_Elem_f0 z x11) fun x12 =>
    Option.bind (plan_apart z x12) fun x13 =>
    some (x11, x13))

noncomputable def plan_left_l1 (z : Option Nat) (l : List Elem) (v1 : List Elem) (v2 : Int) (v3 : Plan) : Option (List Elem × Bool) :=
  loopG z (fun (s : List Elem × Int × Plan) => plan_left_s1 z l s.1 s.2.1 s.2.2) (v1, v2, v3)

noncomputable def plan_left (z : Option Nat) (p : Plan) (l : List Elem) : Option (List Elem × Bool) :=
  plan_left_l1 z l [] 0 p

noncomputable def plan_data_y1_s1 (z : Option Nat) (p : Plan) (p_x0 : Int) (x1a : Int) (x1b : Int) (v1 : Int) : Option (((Int) ⊕ (Option (List Int) × Bool))) :=
  if (cm .lss v1 (p.over.length : Int)) then
  Option.bind (ix p.over v1) fun x2 =>
    if (cm .eql x2.id_ p_x0) then
    Option.map Sum.inr (some (some x2.data, (cm .eql (x2.data.length : Int) (((x1b : Int).toNat - (x1a : Int).toNat : Nat) : Int))))
  else
    some (Sum.inl (ar .add .i64 v1 1))
else
  Option.map Sum.inr (some (none, true))

noncomputable def plan_data_y1_l1 (z : Option Nat) (p : Plan) (p_x0 : Int) (x1a : Int) (x1b : Int) (v1 : Int) : Option (Option (List Int) × Bool) :=
  loopG z (fun (s : Int) => plan_data_y1_s1 z p p_x0 x1a x1b s) (v1)

noncomputable def plan_data_y1 (z : Option Nat) (p : Plan) (p_x0 : Int) (x1a : Int) (x1b : Int) : Option (Option (List Int) × Bool) :=
  plan_data_y1_l1 z p p_x0 x1a x1b 0

noncomputable def plan_inside_j2 (z : Option Nat) (v4 : Int) (v5 : Plan) (x6 : Spot) (v8 : List Int) : Option (((List Int × Int × Plan) ⊕ (List Int × Bool))) :=
  Option.bind (sub v8 x6.at_ (ar .add .i64 x6.at_ x6.size)) fun x9 =>
  Option.bind (plan_data_y1 z v5 x6.id_ x6.at_ (ar .add .i64 x6.at_ x6.size)) fun x10 =>
  match x10 with
  | (none, x10b) => Option.bind (sub v8 x6.at_ (ar .add .i64 x6.at_ x6.size)) fun x11 =>
    some (Sum.inl ((cpy v8 x6.at_ (ar .add .i64 x6.at_ x6.size) x9), (ar .add .i64 v4 1), v5))
  | (some x10q, x10b) => Option.bind (sub v8 x6.at_ (ar .add .i64 x6.at_ x6.size)) fun x12 =>
    some (Sum.inl ((cpy v8 x6.at_ (ar .add .i64 x6.at_ x6.size) x10q), (ar .add .i64 v4 1), v5))

noncomputable def plan_inside_s1 (z : Option Nat) (k : Packet) (x1 : List Spot × Int) (v3 : List Int) (v4 : Int) (v5 : Plan) : Option (((List Int × Int × Plan) ⊕ (List Int × Bool))) :=
  if (cm .lss v4 (x1.1.length : Int)) then
  Option.bind (ix x1.1 v4) fun x6 =>
    Option.bind (plan_renamed z v5 x6.id_) fun x7 =>
    if (cm .neq k.profile 48862) then
    Option.bind (ix v3 (ar .sub .i64 x6.at_ 2)) fun x13 =>
      plan_inside_j2 z v4 v5 x6 (List.set v3 ((ar .sub .i64 x6.at_ 2) : Int).toNat (IntKind.u8.wrap x7))
  else
    if (cm .gtr x7 14) then
      Option.map Sum.inr (some ([], false))
    else
      Option.bind (ix v3 (ar .sub .i64 x6.at_ 1)) fun x14 =>
        Option.bind (ix v3 (ar .sub .i64 x6.at_ 1)) fun x15 =>
        plan_inside_j2 z v4 v5 x6 (List.set v3 ((ar .sub .i64 x6.at_ 1) : Int).toNat (ar .or .u8 (IntKind.u8.wrap (sf .shl .i64 x7 4)) (ar .and .u8 x14 15)))
else
  Option.map Sum.inr (some (v3, true))

noncomputable def plan_inside_l1 (z : Option Nat) (k : Packet) (x1 : List Spot × Int) (v3 : List Int) (v4 : Int) (v5 : Plan) : Option (List Int × Bool) :=
  loopG z (fun (s : List Int × Int × Plan) => plan_inside_s1 z k x1 s.1 s.2.1 s.2.2) (v3, v4, v5)

noncomputable def plan_inside (z : Option Nat) (p : Plan) (k : Packet) : Option (List Int × Bool) :=
  Option.bind (elem_Spots z k.profile k.ext) fun x1 =>
  Option.bind (slices_Clone k.ext) fun x2 =>
  plan_inside_l1 z k x1 x2 0 p

def elem_narrow_1 (x : Elem) : Bool :=
  (((cm .gtr x.id_ 14) || (cm .lss (x.data.length : Int) 1)) || (cm .gtr (x.data.length : Int) 16))

noncomputable def slices_IndexFunc_Elem_s1 (z : Option Nat) (p_s : List Elem) (f : (Elem → Option Bool)) (v1 : Int) : Option (((Int) ⊕ (Int))) :=
  if (cm .lss v1 (p_s.length : Int)) then
  Option.bind (ix p_s v1) fun x2 =>
    Option.bind (f x2) fun x3 =>
    if x3 then
    Option.map Sum.inr (some v1)
  else
    some (Sum.inl (ar .add .i64 v1 1))
else
  Option.map Sum.inr (some (-1))

noncomputable def slices_IndexFunc_Elem_l1 (z : Option Nat) (p_s : List Elem) (f : (Elem → Option Bool)) (v1 : Int) : Option (Int) :=
  loopG z (fun (s : Int) => slices_IndexFunc_Elem_s1 z p_s f s) (v1)

noncomputable def slices_IndexFunc_Elem (z : Option Nat) (p_s : List Elem) (f : (Elem → Option Bool)) : Option (Int) :=
  slices_IndexFunc_Elem_l1 z p_s f 0

noncomputable def slices_ContainsFunc_Elem (z : Option Nat) (p_s : List Elem) (f : (Elem → Option Bool)) : Option (Bool) :=
  Option.bind (slices_IndexFunc_Elem z p_s f) fun x1 =>
  some (cm .geq x1 0)

noncomputable def elem_narrow (z : Option Nat) (l : List Elem) : Option (Bool) :=
  Option.bind (slices_ContainsFunc_Elem z l (fun (y0 : Elem) => some (elem_narrow_1 y0))) fun x1 =>
  some (!x1)

noncomputable def elem_Profile (z : Option Nat) (l : List Elem) : Option (Int) :=
  Option.bind (elem_Right z l) fun x1 =>
  if (!x1) then
  some 0
else
  Option.bind (elem_narrow z l) fun x2 =>
    if x2 then
    some 48862
  else
    some 4096

def pad_zeros (n : Int) : Option (List Int) :=
  Option.bind (mkL (0 : Int) n n) fun x1 =>
  some x1

noncomputable def slices_Concat_byte_j2 (z : Option Nat) (v1 : Int) (v2 : Int) (x3 : List Int) : Option (((Int × Int) ⊕ (List Int))) :=
  some (Sum.inl ((ar .add .i64 v1 (x3.length : Int)), (ar .add .i64 v2 1)))

noncomputable def slices_Concat_byte_s3 (z : Option Nat) (slices : List (List Int)) (v5 : List Int) (v6 : Int) : Option (((List Int × Int) ⊕ (List Int))) :=
  if (cm .lss v6 (slices.length : Int)) then
  Option.bind (ix slices v6) fun x7 =>
    Option.bind (app v5 x7) fun x8 =>
    some (Sum.inl (x8, (ar .add .i64 v6 1)))
else
  Option.map Sum.inr (some v5)

noncomputable def slices_Concat_byte_l3 (z : Option Nat) (slices : List (List Int)) (v5 : List Int) (v6 : Int) : Option (List Int) :=
  loopG z (fun (s : List Int × Int) => slices_Concat_byte_s3 z slices s.1 s.2) (v5, v6)

noncomputable def slices_Concat_byte_s1 (z : Option Nat) (slices : List (List Int)) (v1 : Int) (v2 : Int) : Option (((Int × Int) ⊕ (List Int))) :=
  if (cm .lss v2 (slices.length : Int)) then
  Option.bind (ix slices v2) fun x3 =>
    if (cm .lss (ar .add .i64 v1 (x3.length : Int)) 0) then
    none
  else
    slices_Concat_byte_j2 z v1 v2 x3
else
  Option.map Sum.inr (Option.bind (growL v1) fun x4 =>
    slices_Concat_byte_l3 z slices ([] : List Int) 0)

noncomputable def slices_Concat_byte_l1 (z : Option Nat) (slices : List (List Int)) (v1 : Int) (v2 : Int) : Option (List Int) :=
  loopG z (fun (s : Int × Int) => slices_Concat_byte_s1 z slices s.1 s.2) (v1, v2)

noncomputable def slices_Concat_byte (z : Option Nat) (slices : List (List Int)) : Option (List Int) :=
  slices_Concat_byte_l1 z slices 0 0

noncomputable def pad_Fill (z : Option Nat) (b : List Int) : Option (List Int) :=
  Option.bind (pad_zeros (dv .rem .i64 (ar .sub .i64 4 (dv .rem .i64 (b.length : Int) 4)) 4)) fun x1 =>
  Option.bind (slices_Concat_byte z [b, x1]) fun x2 =>
  some x2

noncomputable def elem_Write_j2 (z : Option Nat) (v3 : Int) (x4 : Elem) (v5 : List Int) : Option (((List Int × Int) ⊕ (Int × List Int × Int))) :=
  Option.bind (app v5 x4.data) fun x6 =>
  some (Sum.inl (x6, (ar .add .i64 v3 1)))

noncomputable def elem_Write_s1 (z : Option Nat) (l : List Elem) (x1 : Int) (v2 : List Int) (v3 : Int) : Option (((List Int × Int) ⊕ (Int × List Int × Int))) :=
  if (cm .lss v3 (l.length : Int)) then
  Option.bind (ix l v3) fun x4 =>
    if (cm .eql x1 48862) then
    Option.bind (app v2 [(IntKind.u8.wrap (ar .or .i64 (sf .shl .i64 x4.id_ 4) (ar .sub .i64 (x4.data.length : Int) 1)))]) fun x7 =>
      elem_Write_j2 z v3 x4 x7
  else
    Option.bind (app v2 [(IntKind.u8.wrap x4.id_), (IntKind.u8.wrap (x4.data.length : Int))]) fun x8 =>
      elem_Write_j2 z v3 x4 x8
else
  Option.map Sum.inr (Option.bind (pad_Fill z v2) fun x9 =>
    some (x1, x9, 0))

noncomputable def elem_Write_l1 (z : Option Nat) (l : List Elem) (x1 : Int) (v2 : List Int) (v3 : Int) : Option (Int × List Int × Int) :=
  loopG z (fun (s : List Int × Int) => elem_Write_s1 z l x1 s.1 s.2) (v2, v3)

noncomputable def elem_Write (z : Option Nat) (l : List Elem) : Option (Int × List Int × Int) :=
  Option.bind (elem_Profile z l) fun x1 =>
  if (cm .eql x1 0) then
  some (0, [], 1)
else
  elem_Write_l1 z l x1 [] 0

noncomputable def plan_extend_j1 (z : Option Nat) (v5 : Packet) : Option (Packet × Bool) :=
  some (v5, true)

noncomputable def plan_extend (z : Option Nat) (p : Plan) (k : Packet) : Option (Packet × Bool) :=
  Option.bind (plan_elements z k) fun x1 =>
  Option.bind (gT (!(!x1.2)) (plan_known z p x1.1)) fun x2 =>
  if ((!x1.2) || (!x2)) then
  some (k, false)
else
  Option.bind (plan_left z p x1.1) fun x3 =>
    if (!x3.2) then
    some (k, false)
  else
    if (!(plan_turns p)) then
      Option.bind (plan_inside z p k) fun x4 =>
        some ({ k with ext := x4.1 }, x4.2)
    else
      if (cm .gtr (x3.1.length : Int) 0) then
        Option.bind (elem_Write z x3.1) fun x6 =>
          plan_extend_j1 z (Packet.mk ({ k.head with hasExt := (cm .gtr (x3.1.length : Int) 0) }) x6.1 x6.2.1 k.payload k.pad)
      else
        plan_extend_j1 z (Packet.mk ({ k.head with hasExt := (cm .gtr (x3.1.length : Int) 0) }) 0 ([] : List Int) k.payload k.pad)

def plan_set_j5 (v5 : Head) : Head :=
  v5

def plan_set_j4 (p : Plan) (v4 : Head) : Head :=
  if p.setSsrc then
  plan_set_j5 ({ v4 with ssrc := p.ssrc })
else
  plan_set_j5 v4

def plan_set_j3 (p : Plan) (v3 : Head) : Head :=
  if p.setTime then
  plan_set_j4 p ({ v3 with time := p.time })
else
  plan_set_j4 p v3

def plan_set_j2 (p : Plan) (v2 : Head) : Head :=
  if p.setSeq then
  plan_set_j3 p ({ v2 with seq := p.seq })
else
  plan_set_j3 p v2

def plan_set_j1 (p : Plan) (v1 : Head) : Head :=
  if p.setType then
  plan_set_j2 p ({ v1 with type := p.type })
else
  plan_set_j2 p v1

def plan_set (p : Plan) (p_h : Head) : Head :=
  if p.setMarker then
  plan_set_j1 p ({ p_h with marker := p.marker })
else
  plan_set_j1 p p_h

noncomputable def plan_behind_j2 (z : Option Nat) (v2 : Bool) (v5 : Packet) : Option (Packet × Bool) :=
  some (v5, (v2 && (packet_Right v5)))

noncomputable def plan_behind_j1 (z : Option Nat) (v2 : Bool) (v3 : Plan) (v4 : Packet) : Option (Packet × Bool) :=
  if v3.noPad then
  plan_behind_j2 z v2 ({ v4 with head := (Head.mk false ((plan_set v3 v4.head).hasExt) ((plan_set v3 v4.head).marker) ((plan_set v3 v4.head).type) ((plan_set v3 v4.head).seq) ((plan_set v3 v4.head).time) ((plan_set v3 v4.head).ssrc) ((plan_set v3 v4.head).csrc)), pad := 0 })
else
  plan_behind_j2 z v2 ({ v4 with head := (plan_set v3 v4.head) })

noncomputable def plan_behind (z : Option Nat) (p : Plan) (k : Packet) : Option (Packet × Bool) :=
  Option.bind (gT (!(!(packet_Right k))) (plan_Right z p)) fun x1 =>
  if ((!(packet_Right k)) || (!x1)) then
  some (k, false)
else
  if (plan_Elements p) then
    Option.bind (plan_extend z p k) fun x6 =>
      plan_behind_j1 z x6.2 p x6.1
  else
    plan_behind_j1 z true p k

def slices_Clone2 (l : List Int) : Option (List Int) := app [] l

def plan_own (k : Packet) : Option (Packet) :=
  Option.bind (slices_Clone2 k.head.csrc) fun x1 =>
  Option.bind (slices_Clone k.ext) fun x2 =>
  Option.bind (slices_Clone k.payload) fun x3 =>
  some (Packet.mk ({ k.head with csrc := x1 }) k.profile x2 x3 k.pad)

noncomputable def plan_Apply (z : Option Nat) (p : Plan) (k : Packet) : Option (Packet × Int) :=
  Option.bind (plan_behind z p k) fun x1 =>
  if (!(packet_Right k)) then
  some ((Packet.mk (Head.mk false false false 0 0 0 0 []) 0 [] [] 0), 1)
else
  if (!x1.2) then
    some ((Packet.mk (Head.mk false false false 0 0 0 0 []) 0 [] [] 0), 9)
  else
    Option.bind (plan_own x1.1) fun x2 =>
      some (x2, 0)

def plan_Keeps (p : Plan) : Bool :=
  ((!(plan_turns p)) && (!p.noPad))

def plan_Empty (p : Plan) : Bool :=
  (((!(((((p.setMarker || p.setType) || p.setSeq) || p.setTime) || p.setSsrc) || p.noPad)) && (!((((p.marker || (cm .neq p.type 0)) || (cm .neq p.seq 0)) || (cm .neq p.time 0)) || (cm .neq p.ssrc 0)))) && (!(plan_Elements p)))

noncomputable def law29_awake (z : Option Nat)  : Option (Bool) :=
  Option.bind (plan_Apply z (Plan.mk false false false 0 false 0 false 0 true 5 [(GMap.mk 3 4), (GMap.mk 4 3)] ([(Elem.mk 3 [9])]) [] [] false) (Packet.mk (Head.mk false true false 96 0 0 0 []) 48862 [48, 7, 64, 8] [] 0)) fun x1 =>
  Option.bind (plan_Apply z (Plan.mk false false false 0 false 0 false 0 false 0 [(GMap.mk 3 4)] [] [] [] false) (Packet.mk (Head.mk false true false 96 0 0 0 []) 48862 [48, 7, 64, 8] [] 0)) fun x2 =>
  Option.bind (plan_Apply z (Plan.mk false false false 0 false 0 false 0 false 0 [] [] [3] ([(Elem.mk 15 [1])]) false) (Packet.mk (Head.mk false true false 96 0 0 0 []) 48862 [48, 7, 64, 8] [] 0)) fun x3 =>
  Option.bind (gT ((((((((((cm .eql x1.2 0) && (cm .eql x2.2 9)) && (cm .eql x3.2 0)) && (cm .eql x1.1.head.ssrc 5)) && (sc .eql (b2s x1.1.ext) ([64, 9, 48, 8] : List UInt8))) && (cm .eql x3.1.profile 4096)) && (sc .eql (b2s x3.1.ext) ([4, 1, 8, 15, 1, 1, 0, 0] : List UInt8))) && (plan_Keeps (Plan.mk false false false 0 true 0 false 0 false 0 [] [] [] [] false))) && (plan_Empty (Plan.mk false false false 0 false 0 false 0 false 0 [] [] [] [] false))) && (!(plan_Elements (Plan.mk false false false 0 false 0 false 0 false 0 [] [] [] [] false)))) (plan_Right z (Plan.mk false false false 0 false 0 false 0 false 0 [] [] [] [] false))) fun x4 =>
  some (((((((((((cm .eql x1.2 0) && (cm .eql x2.2 9)) && (cm .eql x3.2 0)) && (cm .eql x1.1.head.ssrc 5)) && (sc .eql (b2s x1.1.ext) ([64, 9, 48, 8] : List UInt8))) && (cm .eql x3.1.profile 4096)) && (sc .eql (b2s x3.1.ext) ([4, 1, 8, 15, 1, 1, 0, 0] : List UInt8))) && (plan_Keeps (Plan.mk false false false 0 true 0 false 0 false 0 [] [] [] [] false))) && (plan_Empty (Plan.mk false false false 0 false 0 false 0 false 0 [] [] [] [] false))) && (!(plan_Elements (Plan.mk false false false 0 false 0 false 0 false 0 [] [] [] [] false)))) && x4)

noncomputable def ref08_Short_s1 (z : Option Nat) (l : List Elem) (v1 : Int) : Option (((Int) ⊕ (Bool))) :=
  if (cm .lss v1 (l.length : Int)) then
  Option.bind (ix l v1) fun x2 =>
    if (cm .gtr (x2.data.length : Int) 400) then
    Option.map Sum.inr (some false)
  else
    some (Sum.inl (ar .add .i64 v1 1))
else
  Option.map Sum.inr (some (cm .leq (l.length : Int) 300))

noncomputable def ref08_Short_l1 (z : Option Nat) (l : List Elem) (v1 : Int) : Option (Bool) :=
  loopG z (fun (s : Int) => ref08_Short_s1 z l s) (v1)

noncomputable def ref08_Short (z : Option Nat) (l : List Elem) : Option (Bool) :=
  ref08_Short_l1 z l 0

noncomputable def ref29_Short (z : Option Nat) (p : Plan) : Option (Bool) :=
  Option.bind (gT ((cm .leq (p.maps.length : Int) 300) && (cm .leq (p.drops.length : Int) 300)) (ref08_Short z p.over)) fun x1 =>
  Option.bind (gT (((cm .leq (p.maps.length : Int) 300) && (cm .leq (p.drops.length : Int) 300)) && x1) (ref08_Short z p.adds)) fun x2 =>
  some ((((cm .leq (p.maps.length : Int) 300) && (cm .leq (p.drops.length : Int) 300)) && x1) && x2)

def ref06_Short (p : Packet) : Bool :=
  (((cm .leq (p.head.csrc.length : Int) 99) && (cm .leq (p.ext.length : Int) 300000)) && (cm .leq (p.payload.length : Int) 70000))

noncomputable def law29_read (z : Option Nat) (k : Packet) : Option (List Elem) :=
  if (!k.head.hasExt) then
  some []
else
  Option.bind (elem_Read z k.profile k.ext) fun x1 =>
    some x1.1

noncomputable def ref08_Same_s1 (z : Option Nat) (p_a : List Elem) (b : List Elem) (v1 : Int) : Option (((Int) ⊕ (Bool))) :=
  if (cm .lss v1 (p_a.length : Int)) then
  Option.bind (ix p_a v1) fun x2 =>
    Option.bind (ix b v1) fun x3 =>
    Option.bind (gT (!(cm .neq x2.id_ x3.id_)) (ix p_a v1)) fun x4 =>
    Option.bind (gT (!(cm .neq x2.id_ x3.id_)) (ix b v1)) fun x5 =>
    if ((cm .neq x2.id_ x3.id_) || (sc .neq (b2s x4.data) (b2s x5.data))) then
    Option.map Sum.inr (some false)
  else
    some (Sum.inl (ar .add .i64 v1 1))
else
  Option.map Sum.inr (some true)

noncomputable def ref08_Same_l1 (z : Option Nat) (p_a : List Elem) (b : List Elem) (v1 : Int) : Option (Bool) :=
  loopG z (fun (s : Int) => ref08_Same_s1 z p_a b s) (v1)

noncomputable def ref08_Same (z : Option Nat) (p_a : List Elem) (b : List Elem) : Option (Bool) :=
  if (cm .neq (p_a.length : Int) (b.length : Int)) then
  some false
else
  ref08_Same_l1 z p_a b 0

noncomputable def law29_PlanElements_j4 (z : Option Nat) (v12 : Int) (v16 : Elem) : Option (((Int × Elem) ⊕ (((List Elem × Int) ⊕ (Bool))))) :=
  some (Sum.inl ((ar .add .i64 v12 1), v16))

noncomputable def law29_PlanElements_j6 (z : Option Nat) (v18 : Int) (v22 : Elem) : Option (((Int × Elem) ⊕ (((List Elem × Int) ⊕ (Bool))))) :=
  some (Sum.inl ((ar .add .i64 v18 1), v22))

noncomputable def law29_PlanElements_j7 (z : Option Nat) (v6 : Int) (v24 : List Elem) : Option (((List Elem × Int) ⊕ (Bool))) :=
  some (Sum.inl (v24, (ar .add .i64 v6 1)))

noncomputable def law29_PlanElements_s5 (z : Option Nat) (p : Plan) (x3 : List Elem) (v5 : List Elem) (v6 : Int) (v8 : Bool) (v18 : Int) (v19 : Elem) : Option (((Int × Elem) ⊕ (((List Elem × Int) ⊕ (Bool))))) :=
  if (cm .lss v18 (p.maps.length : Int)) then
  Option.bind (ix p.maps v18) fun x20 =>
    Option.bind (ix x3 v6) fun x21 =>
    if (cm .eql x20.from_ x21.id_) then
    Option.bind (ix p.maps v18) fun x23 =>
      law29_PlanElements_j6 z v18 ({ v19 with id_ := x23.to })
  else
    law29_PlanElements_j6 z v18 v19
else
  Option.map Sum.inr (if (!v8) then
    Option.bind (app v5 [v19]) fun x25 =>
      law29_PlanElements_j7 z v6 x25
  else
    law29_PlanElements_j7 z v6 v5)

noncomputable def law29_PlanElements_l5 (z : Option Nat) (p : Plan) (x3 : List Elem) (v5 : List Elem) (v6 : Int) (v8 : Bool) (v18 : Int) (v19 : Elem) : Option (((List Elem × Int) ⊕ (Bool))) :=
  loopG z (fun (s : Int × Elem) => law29_PlanElements_s5 z p x3 v5 v6 v8 s.1 s.2) (v18, v19)

noncomputable def law29_PlanElements_s3 (z : Option Nat) (p : Plan) (x3 : List Elem) (v5 : List Elem) (v6 : Int) (v8 : Bool) (v12 : Int) (v13 : Elem) : Option (((Int × Elem) ⊕ (((List Elem × Int) ⊕ (Bool))))) :=
  if (cm .lss v12 (p.over.length : Int)) then
  Option.bind (ix p.over v12) fun x14 =>
    Option.bind (ix x3 v6) fun x15 =>
    if (cm .eql x14.id_ x15.id_) then
    Option.bind (ix p.over v12) fun x17 =>
      law29_PlanElements_j4 z v12 ({ v13 with data := x17.data })
  else
    law29_PlanElements_j4 z v12 v13
else
  Option.map Sum.inr (law29_PlanElements_l5 z p x3 v5 v6 v8 0 v13)

noncomputable def law29_PlanElements_l3 (z : Option Nat) (p : Plan) (x3 : List Elem) (v5 : List Elem) (v6 : Int) (v8 : Bool) (v12 : Int) (v13 : Elem) : Option (((List Elem × Int) ⊕ (Bool))) :=
  loopG z (fun (s : Int × Elem) => law29_PlanElements_s3 z p x3 v5 v6 v8 s.1 s.2) (v12, v13)

noncomputable def law29_PlanElements_s2 (z : Option Nat) (p : Plan) (x3 : List Elem) (v5 : List Elem) (v6 : Int) (x7 : Elem) (v8 : Bool) (v9 : Int) : Option (((Bool × Int) ⊕ (((List Elem × Int) ⊕ (Bool))))) :=
  if (cm .lss v9 (p.drops.length : Int)) then
  Option.bind (gT (!v8) (ix p.drops v9)) fun x10 =>
    Option.bind (gT (!v8) (ix x3 v6)) fun x11 =>
    some (Sum.inl ((v8 || (cm .eql x10 x11.id_)), (ar .add .i64 v9 1)))
else
  Option.map Sum.inr (law29_PlanElements_l3 z p x3 v5 v6 v8 0 x7)

noncomputable def law29_PlanElements_l2 (z : Option Nat) (p : Plan) (x3 : List Elem) (v5 : List Elem) (v6 : Int) (x7 : Elem) (v8 : Bool) (v9 : Int) : Option (((List Elem × Int) ⊕ (Bool))) :=
  loopG z (fun (s : Bool × Int) => law29_PlanElements_s2 z p x3 v5 v6 x7 s.1 s.2) (v8, v9)

noncomputable def law29_PlanElements_s1 (z : Option Nat) (p : Plan) (k : Packet) (x2 : Packet × Int) (x3 : List Elem) (x4 : List Elem) (v5 : List Elem) (v6 : Int) : Option (((List Elem × Int) ⊕ (Bool))) :=
  if (cm .lss v6 (x3.length : Int)) then
  Option.bind (ix x3 v6) fun x7 =>
    law29_PlanElements_l2 z p x3 v5 v6 x7 false 0
else
  Option.map Sum.inr (Option.bind (app v5 p.adds) fun x26 =>
    Option.bind (ref08_Same z x4 x26) fun x27 =>
    Option.bind (gT x27 (elem_Right z x4)) fun x28 =>
    some ((x27 && x28) && (bq .eql x2.1.head.hasExt ((cm .gtr (x26.length : Int) 0) || ((plan_Keeps (Plan.mk false false false 0 false 0 false 0 false 0 [] [] p.drops p.adds false)) && k.head.hasExt)))))

noncomputable def law29_PlanElements_l1 (z : Option Nat) (p : Plan) (k : Packet) (x2 : Packet × Int) (x3 : List Elem) (x4 : List Elem) (v5 : List Elem) (v6 : Int) : Option (Bool) :=
  loopG z (fun (s : List Elem × Int) => law29_PlanElements_s1 z p k x2 x3 x4 s.1 s.2) (v5, v6)

noncomputable def law29_PlanElements (z : Option Nat) (p : Plan) (k : Packet) : Option (Bool) :=
  Option.bind (ref29_Short z p) fun x1 =>
  if ((!x1) || (!(ref06_Short k))) then
  some true
else
  Option.bind (plan_Apply z p k) fun x2 =>
    if ((cm .neq x2.2 0) || (!(plan_Elements p))) then
    some true
  else
    Option.bind (law29_read z k) fun x3 =>
      Option.bind (law29_read z x2.1) fun x4 =>
      law29_PlanElements_l1 z p k x2 x3 x4 [] 0

noncomputable def ref05_Numbers_s1 (z : Option Nat) (p_a : List Int) (b : List Int) (v1 : Int) : Option (((Int) ⊕ (Bool))) :=
  if (cm .lss v1 (p_a.length : Int)) then
  Option.bind (ix p_a v1) fun x2 =>
    Option.bind (ix b v1) fun x3 =>
    if (cm .neq x2 x3) then
    Option.map Sum.inr (some false)
  else
    some (Sum.inl (ar .add .i64 v1 1))
else
  Option.map Sum.inr (some true)

noncomputable def ref05_Numbers_l1 (z : Option Nat) (p_a : List Int) (b : List Int) (v1 : Int) : Option (Bool) :=
  loopG z (fun (s : Int) => ref05_Numbers_s1 z p_a b s) (v1)

noncomputable def ref05_Numbers (z : Option Nat) (p_a : List Int) (b : List Int) : Option (Bool) :=
  if (cm .neq (p_a.length : Int) (b.length : Int)) then
  some false
else
  ref05_Numbers_l1 z p_a b 0

noncomputable def ref05_Same (z : Option Nat) (p_a : Head) (b : Head) : Option (Bool) :=
  Option.bind (gT (((((((bq .eql p_a.hasPad b.hasPad) && (bq .eql p_a.hasExt b.hasExt)) && (bq .eql p_a.marker b.marker)) && (cm .eql p_a.type b.type)) && (cm .eql p_a.seq b.seq)) && (cm .eql p_a.time b.time)) && (cm .eql p_a.ssrc b.ssrc)) (ref05_Numbers z p_a.csrc b.csrc)) fun x1 =>
  some ((((((((bq .eql p_a.hasPad b.hasPad) && (bq .eql p_a.hasExt b.hasExt)) && (bq .eql p_a.marker b.marker)) && (cm .eql p_a.type b.type)) && (cm .eql p_a.seq b.seq)) && (cm .eql p_a.time b.time)) && (cm .eql p_a.ssrc b.ssrc)) && x1)

noncomputable def ref06_Same (z : Option Nat) (p_a : Packet) (b : Packet) : Option (Bool) :=
  Option.bind (ref05_Same z p_a.head b.head) fun x1 =>
  some ((((x1 && (cm .eql p_a.profile b.profile)) && (sc .eql (b2s p_a.ext) (b2s b.ext))) && (sc .eql (b2s p_a.payload) (b2s b.payload))) && (cm .eql p_a.pad b.pad))

noncomputable def law29_PlanTwice_j1 (z : Option Nat) (k : Packet) (x1 : Packet × Int) (v4 : Plan) (v5 : Plan) : Option (Bool) :=
  Option.bind (plan_Apply z v4 k) fun x6 =>
  Option.bind (plan_Apply z v5 k) fun x7 =>
  Option.bind (plan_Apply z v5 x6.1) fun x8 =>
  Option.bind (plan_Apply z v4 x7.1) fun x9 =>
  Option.bind (gT ((((cm .eql x6.2 0) && (cm .eql x7.2 0)) && (cm .eql x8.2 0)) && (cm .eql x9.2 0)) (ref06_Same z x8.1 x1.1)) fun x10 =>
  Option.bind (gT (((((cm .eql x6.2 0) && (cm .eql x7.2 0)) && (cm .eql x8.2 0)) && (cm .eql x9.2 0)) && x10) (ref06_Same z x9.1 x1.1)) fun x11 =>
  some ((((((cm .eql x6.2 0) && (cm .eql x7.2 0)) && (cm .eql x8.2 0)) && (cm .eql x9.2 0)) && x10) && x11)

noncomputable def law29_PlanTwice (z : Option Nat) (k : Packet) (p : Plan) (split : Int) : Option (Bool) :=
  if (!(ref06_Short k)) then
  some true
else
  Option.bind (plan_Apply z ({ p with maps := [], over := [], drops := [], adds := [] }) k) fun x1 =>
    if (cm .neq x1.2 0) then
    some true
  else
    Option.bind (plan_Apply z ({ p with maps := [], over := [], drops := [], adds := [] }) x1.1) fun x2 =>
      Option.bind (gT (!(cm .neq x2.2 0)) (ref06_Same z x1.1 x2.1)) fun x3 =>
      if ((cm .neq x2.2 0) || (!x3)) then
      some false
    else
      if (cm .eql (dv .rem .u8 split 2) 0) then
        law29_PlanTwice_j1 z k x1 (Plan.mk false false p.setType p.type false 0 p.setTime p.time p.setSsrc p.ssrc [] [] [] [] p.noPad) (Plan.mk p.setMarker p.marker false 0 p.setSeq p.seq false 0 false 0 [] [] [] [] false)
      else
        law29_PlanTwice_j1 z k x1 (Plan.mk p.setMarker p.marker false 0 p.setSeq p.seq p.setTime p.time false 0 [] [] [] [] p.noPad) (Plan.mk false false p.setType p.type false 0 false 0 p.setSsrc p.ssrc [] [] [] [] false)

end Xb
