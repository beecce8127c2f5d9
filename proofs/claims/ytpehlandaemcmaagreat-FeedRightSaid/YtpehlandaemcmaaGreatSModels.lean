/- Own text: SModels. -/
import Derived.Test.YtpehlandaemcmaaGreatSTypes
set_option linter.all false
set_option linter.unusedVariables false
set_option linter.unusedSimpArgs false
set_option linter.unnecessarySimpa false
set_option linter.deprecated false
namespace Xb
open Go
set_option linter.unusedVariables false

def feed_messageOf (f : Feed) : I_feed_message :=
  if (cm .eql f.kind 1) then
  (I_feed_message.c107 f.pairs)
else
  if (cm .eql f.kind 2) then
    (I_feed_message.c111 (feed_arrivals.mk f.arrive))
  else
    if (cm .eql f.kind 3) then
      (I_feed_message.c120 (feed_loss.mk ))
    else
      if (cm .eql f.kind 4) then
        (I_feed_message.c114 f.entries)
      else
        if (cm .eql f.kind 5) then
          (I_feed_message.c118 (feed_rate.mk f.rate))
        else
          I_feed_message.nil

def feed_noArrive (p_a : Arrive) : Bool :=
  ((((cm .eql p_a.base 0) && (cm .eql p_a.time 0)) && (cm .eql p_a.count 0)) && (cm .eql (p_a.seen.length : Int) 0))

def feed_noRate (p_r : Rate) : Bool :=
  (((cm .eql p_r.exp 0) && (cm .eql p_r.mant 0)) && (cm .eql (p_r.srcs.length : Int) 0))

def feed_idle_j1 (v1 : Feed) : Bool :=
  (((cm .eql (ar .add .i64 (v1.pairs.length : Int) (v1.entries.length : Int)) 0) && (feed_noArrive v1.arrive)) && (feed_noRate v1.rate))

def feed_idle (f : Feed) (m : I_feed_message) : Bool :=
  if (I_feed_message.as107 m).2 then
  feed_idle_j1 ({ f with pairs := ([] : List Pair) })
else
  if (I_feed_message.as111 m).2 then
    feed_idle_j1 ({ f with arrive := (Arrive.mk 0 0 0 []) })
  else
    if (I_feed_message.as114 m).2 then
      feed_idle_j1 ({ f with entries := ([] : List Entry) })
    else
      if (I_feed_message.as118 m).2 then
        feed_idle_j1 ({ f with rate := (Rate.mk 0 0 []) })
      else
        feed_idle_j1 f

def octet_sized (n : Int) : Bool :=
  ((cm .geq n 1) && (cm .leq n 8))

def octet_Put_s1 (y1 : Nat) (v4 : Int) (v5 : List Int) : Option (((Int × List Int) ⊕ (List Int × Int))) :=
  Option.bind (ix v5 (y1 : Int)) fun x6 =>
  some (Sum.inl ((sf .shr .u64 v4 8), (List.set v5 ((y1 : Int) : Int).toNat (IntKind.u8.wrap v4))))

def octet_Put_d1 (v4 : Int) (v5 : List Int) : Option (List Int × Int) :=
  some (v5, 0)

def octet_Put_l1 (x2 : List Int) (v4 : Int) (v5 : List Int) : Option (List Int × Int) :=
  foldX (fun (y1 : Nat) (s : Int × List Int) => octet_Put_s1 y1 s.1 s.2) (fun (s : Int × List Int) => octet_Put_d1 s.1 s.2) (List.range x2.length).reverse (v4, v5)

def octet_Put (v : Int) (n : Int) : Option (List Int × Int) :=
  if (!(octet_sized n)) then
  some ([], 1)
else
  Option.bind (gT (cm .lss n 8) (sfO .shr .u64 v (ar .mul .i64 8 n))) fun x1 =>
    if ((cm .lss n 8) && (cm .gtr x1 0)) then
    some ([], 6)
  else
    Option.bind (mkL (0 : Int) n n) fun x2 =>
      Option.bind (lnO x2) fun x3 =>
      octet_Put_l1 x2 v x2

noncomputable def nack_Write_s1 (z : Option Nat) (l : List Pair) (v1 : List Int) (v2 : Int) : Option (((List Int × Int) ⊕ (List Int × Int))) :=
  if (cm .lss v2 (l.length : Int)) then
  Option.bind (ix l v2) fun x3 =>
    Option.bind (octet_Put (ar .or .u64 (sf .shl .u64 (IntKind.u64.wrap x3.pid) 16) (IntKind.u64.wrap x3.mask)) 4) fun x4 =>
    Option.bind (app v1 x4.1) fun x5 =>
    some (Sum.inl (x5, (ar .add .i64 v2 1)))
else
  Option.map Sum.inr (some (v1, 0))

noncomputable def nack_Write_l1 (z : Option Nat) (l : List Pair) (v1 : List Int) (v2 : Int) : Option (List Int × Int) :=
  loopG z (fun (s : List Int × Int) => nack_Write_s1 z l s.1 s.2) (v1, v2)

noncomputable def nack_Write (z : Option Nat) (l : List Pair) : Option (List Int × Int) :=
  if ((cm .lss (l.length : Int) 1) || (cm .gtr (l.length : Int) 16380)) then
  some ([], 1)
else
  nack_Write_l1 z l [] 0

noncomputable def feed_pairs_bytes (z : Option Nat) (m : List Pair) : Option (List Int × Int) :=
  Option.bind (nack_Write z m) fun x1 =>
  some (x1.1, x1.2)

def arrive_fits (p_s : Seen) : Bool :=
  if (cm .eql p_s.what 0) then
  (cm .eql p_s.delta 0)
else
  if (cm .eql p_s.what 1) then
    ((cm .geq p_s.delta 0) && (cm .lss p_s.delta 256))
  else
    if (cm .eql p_s.what 2) then
      ((cm .geq p_s.delta (-32768)) && (cm .lss p_s.delta 32768))
    else
      false

def arrive_Right_1 (p_s : Seen) : Bool :=
  (!(arrive_fits p_s))

noncomputable def slices_IndexFunc_Seen_s1 (z : Option Nat) (p_s : List Seen) (f : (Seen → Option Bool)) (v1 : Int) : Option (((Int) ⊕ (Int))) :=
  if (cm .lss v1 (p_s.length : Int)) then
  Option.bind (ix p_s v1) fun x2 =>
    Option.bind (f x2) fun x3 =>
    if x3 then
    Option.map Sum.inr (some v1)
  else
    some (Sum.inl (ar .add .i64 v1 1))
else
  Option.map Sum.inr (some (-1))

noncomputable def slices_IndexFunc_Seen_l1 (z : Option Nat) (p_s : List Seen) (f : (Seen → Option Bool)) (v1 : Int) : Option (Int) :=
  loopG z (fun (s : Int) => slices_IndexFunc_Seen_s1 z p_s f s) (v1)

noncomputable def slices_IndexFunc_Seen (z : Option Nat) (p_s : List Seen) (f : (Seen → Option Bool)) : Option (Int) :=
  slices_IndexFunc_Seen_l1 z p_s f 0

noncomputable def slices_ContainsFunc_Seen (z : Option Nat) (p_s : List Seen) (f : (Seen → Option Bool)) : Option (Bool) :=
  Option.bind (slices_IndexFunc_Seen z p_s f) fun x1 =>
  some (cm .geq x1 0)

noncomputable def arrive_Right (z : Option Nat) (p_a : Arrive) : Option (Bool) :=
  Option.bind (gT (((cm .geq p_a.time (-8388608)) && (cm .lss p_a.time 8388608)) && (cm .leq (p_a.seen.length : Int) 4000)) (slices_ContainsFunc_Seen z p_a.seen (fun (y0 : Seen) => some (arrive_Right_1 y0)))) fun x1 =>
  some ((((cm .geq p_a.time (-8388608)) && (cm .lss p_a.time 8388608)) && (cm .leq (p_a.seen.length : Int) 4000)) && (!x1))

def octet_PutSigned (v : Int) (n : Int) : Option (List Int × Int) :=
  if (!(octet_sized n)) then
  some ([], 1)
else
  Option.bind (sfO .shl .i64 v (ar .sub .i64 64 (ar .mul .i64 8 n))) fun x1 =>
    Option.bind (sfO .shr .i64 x1 (ar .sub .i64 64 (ar .mul .i64 8 n))) fun x2 =>
    if (cm .neq x2 v) then
    some ([], 6)
  else
    Option.bind (sfO .shl .u64 (IntKind.u64.wrap v) (ar .sub .i64 64 (ar .mul .i64 8 n))) fun x3 =>
      Option.bind (sfO .shr .u64 x3 (ar .sub .i64 64 (ar .mul .i64 8 n))) fun x4 =>
      Option.bind (octet_Put x4 n) fun x5 =>
      some (x5.1, x5.2)

noncomputable def slices_Concat_j2 (z : Option Nat) (v1 : Int) (v2 : Int) (x3 : List Int) : Option (((Int × Int) ⊕ (List Int))) :=
  some (Sum.inl ((ar .add .i64 v1 (x3.length : Int)), (ar .add .i64 v2 1)))

noncomputable def slices_Concat_s3 (z : Option Nat) (slices : List (List Int)) (v5 : List Int) (v6 : Int) : Option (((List Int × Int) ⊕ (List Int))) :=
  if (cm .lss v6 (slices.length : Int)) then
  Option.bind (ix slices v6) fun x7 =>
    Option.bind (app v5 x7) fun x8 =>
    some (Sum.inl (x8, (ar .add .i64 v6 1)))
else
  Option.map Sum.inr (some v5)

noncomputable def slices_Concat_l3 (z : Option Nat) (slices : List (List Int)) (v5 : List Int) (v6 : Int) : Option (List Int) :=
  loopG z (fun (s : List Int × Int) => slices_Concat_s3 z slices s.1 s.2) (v5, v6)

noncomputable def slices_Concat_s1 (z : Option Nat) (slices : List (List Int)) (v1 : Int) (v2 : Int) : Option (((Int × Int) ⊕ (List Int))) :=
  if (cm .lss v2 (slices.length : Int)) then
  Option.bind (ix slices v2) fun x3 =>
    if (cm .lss (ar .add .i64 v1 (x3.length : Int)) 0) then
    none
  else
    slices_Concat_j2 z v1 v2 x3
else
  Option.map Sum.inr (Option.bind (growL v1) fun x4 =>
    slices_Concat_l3 z slices ([] : List Int) 0)

noncomputable def slices_Concat_l1 (z : Option Nat) (slices : List (List Int)) (v1 : Int) (v2 : Int) : Option (List Int) :=
  loopG z (fun (s : Int × Int) => slices_Concat_s1 z slices s.1 s.2) (v1, v2)

noncomputable def slices_Concat (z : Option Nat) (slices : List (List Int)) : Option (List Int) :=
  slices_Concat_l1 z slices 0 0

noncomputable def octet_Join (z : Option Nat) (l : List (List Int)) : Option (List Int) :=
  Option.bind (slices_Concat z l) fun x1 =>
  some x1

noncomputable def arrive_whats_s1 (z : Option Nat) (l : List Seen) (v1 : List Int) (v2 : Int) : Option (((List Int × Int) ⊕ (List Int))) :=
  if (cm .lss v2 (l.length : Int)) then
  Option.bind (ix l v2) fun x3 =>
    Option.bind (app v1 [x3.what]) fun x4 =>
    some (Sum.inl (x4, (ar .add .i64 v2 1)))
else
  Option.map Sum.inr (some v1)

noncomputable def arrive_whats_l1 (z : Option Nat) (l : List Seen) (v1 : List Int) (v2 : Int) : Option (List Int) :=
  loopG z (fun (s : List Int × Int) => arrive_whats_s1 z l s.1 s.2) (v1, v2)

noncomputable def arrive_whats (z : Option Nat) (l : List Seen) : Option (List Int) :=
  arrive_whats_l1 z l [] 0

noncomputable def slices_IndexFunc_int_s1 (z : Option Nat) (p_s : List Int) (f : (Int → Option Bool)) (v1 : Int) : Option (((Int) ⊕ (Int))) :=
  if (cm .lss v1 (p_s.length : Int)) then
  Option.bind (ix p_s v1) fun x2 =>
    Option.bind (f x2) fun x3 =>
    if x3 then
    Option.map Sum.inr (some v1)
  else
    some (Sum.inl (ar .add .i64 v1 1))
else
  Option.map Sum.inr (some (-1))

noncomputable def slices_IndexFunc_int_l1 (z : Option Nat) (p_s : List Int) (f : (Int → Option Bool)) (v1 : Int) : Option (Int) :=
  loopG z (fun (s : Int) => slices_IndexFunc_int_s1 z p_s f s) (v1)

noncomputable def slices_IndexFunc_int (z : Option Nat) (p_s : List Int) (f : (Int → Option Bool)) : Option (Int) :=
  slices_IndexFunc_int_l1 z p_s f 0

noncomputable def slices_ContainsFunc_int (z : Option Nat) (p_s : List Int) (f : (Int → Option Bool)) : Option (Bool) :=
  Option.bind (slices_IndexFunc_int z p_s f) fun x1 =>
  some (cm .geq x1 0)

def chunk_Write_1 (x : Int) : Bool :=
  ((cm .lss x 0) || (cm .gtr x 2))

def chunk_run_1 (x : Int) (cap0 : List Int) : Option (Bool) :=
  Option.bind (ix cap0 0) fun x1 =>
  some (cm .neq x x1)

noncomputable def chunk_run (z : Option Nat) (l : List Int) : Option (Int) :=
  Option.bind (slices_IndexFunc_int z l (fun (y0 : Int) => chunk_run_1 y0 l)) fun x1 =>
  if (cm .geq x1 0) then
  some x1
else
  some (l.length : Int)

noncomputable def slices_Index_s1 (z : Option Nat) (p_s : List Int) (v : Int) (v1 : Int) : Option (((Int) ⊕ (Int))) :=
  if (cm .lss v1 (p_s.length : Int)) then
  Option.bind (ix p_s v1) fun x2 =>
    if (cm .eql v x2) then
    Option.map Sum.inr (some v1)
  else
    some (Sum.inl (ar .add .i64 v1 1))
else
  Option.map Sum.inr (some (-1))

noncomputable def slices_Index_l1 (z : Option Nat) (p_s : List Int) (v : Int) (v1 : Int) : Option (Int) :=
  loopG z (fun (s : Int) => slices_Index_s1 z p_s v s) (v1)

noncomputable def slices_Index (z : Option Nat) (p_s : List Int) (v : Int) : Option (Int) :=
  slices_Index_l1 z p_s v 0

noncomputable def slices_Contains (z : Option Nat) (p_s : List Int) (v : Int) : Option (Bool) :=
  Option.bind (slices_Index z p_s v) fun x1 =>
  some (cm .geq x1 0)

noncomputable def chunk_pack_j2 (z : Option Nat) (v2 : Int) (v4 : Int) : Option (((Int × Int) ⊕ (Int))) :=
  some (Sum.inl (v4, (ar .add .i64 v2 1)))

noncomputable def chunk_pack_s1 (z : Option Nat) (l : List Int) (bits : Int) (many : Int) (v1 : Int) (v2 : Int) : Option (((Int × Int) ⊕ (Int))) :=
  if (cm .lss v2 many) then
  Option.bind (sfO .shl .i64 v1 bits) fun x3 =>
    if (cm .lss v2 (l.length : Int)) then
    Option.bind (ix l v2) fun x5 =>
      chunk_pack_j2 z v2 (ar .or .i64 x3 x5)
  else
    chunk_pack_j2 z v2 x3
else
  Option.map Sum.inr (some (IntKind.u16.wrap v1))

noncomputable def chunk_pack_l1 (z : Option Nat) (l : List Int) (bits : Int) (many : Int) (v1 : Int) (v2 : Int) : Option (Int) :=
  loopG z (fun (s : Int × Int) => chunk_pack_s1 z l bits many s.1 s.2) (v1, v2)

noncomputable def chunk_pack (z : Option Nat) (l : List Int) (bits : Int) (many : Int) : Option (Int) :=
  chunk_pack_l1 z l bits many 0 0

noncomputable def chunk_first (z : Option Nat) (l : List Int) : Option (Int × Int) :=
  Option.bind (chunk_run z l) fun x1 =>
  if ((cm .geq x1 14) || (cm .eql x1 (l.length : Int))) then
  Option.bind (ix l 0) fun x2 =>
    some ((IntKind.u16.wrap (ar .or .i64 (sf .shl .i64 x2 13) (imin x1 8191))), (imin x1 8191))
else
  Option.bind (sub l 0 (imin (l.length : Int) 14)) fun x3 =>
    Option.bind (slices_Contains z x3 2) fun x4 =>
    if (!x4) then
    Option.bind (sub l 0 (imin (l.length : Int) 14)) fun x5 =>
      Option.bind (chunk_pack z x5 1 14) fun x6 =>
      some ((ar .or .u16 32768 x6), (imin (l.length : Int) 14))
  else
    Option.bind (sub l 0 (imin (l.length : Int) 7)) fun x7 =>
      Option.bind (chunk_pack z x7 2 7) fun x8 =>
      some ((ar .or .u16 49152 x8), (imin (l.length : Int) 7))

noncomputable def chunk_Write_s1 (z : Option Nat) (v2 : List Int) (v3 : List Int) : Option (((List Int × List Int) ⊕ (List Int × Int))) :=
  if (cm .gtr (v2.length : Int) 0) then
  Option.bind (chunk_first z v2) fun x4 =>
    Option.bind (app v3 [x4.1]) fun x5 =>
    Option.bind (sub v2 x4.2 (v2.length : Int)) fun x6 =>
    some (Sum.inl (x6, x5))
else
  Option.map Sum.inr (some (v3, 0))

noncomputable def chunk_Write_l1 (z : Option Nat) (v2 : List Int) (v3 : List Int) : Option (List Int × Int) :=
  loopG z (fun (s : List Int × List Int) => chunk_Write_s1 z s.1 s.2) (v2, v3)

noncomputable def chunk_Write (z : Option Nat) (l : List Int) : Option (List Int × Int) :=
  Option.bind (slices_ContainsFunc_int z l (fun (y0 : Int) => some (chunk_Write_1 y0))) fun x1 =>
  if x1 then
  some ([], 1)
else
  chunk_Write_l1 z l []

def arrive_delta (p_s : Seen) : Option (List Int) :=
  if (cm .eql p_s.what 2) then
  Option.bind (octet_PutSigned p_s.delta 2) fun x1 =>
    some x1.1
else
  Option.bind (sub [(IntKind.u8.wrap p_s.delta)] 0 p_s.what) fun x2 =>
    some x2

def pad_zeros (n : Int) : Option (List Int) :=
  Option.bind (mkL (0 : Int) n n) fun x1 =>
  some x1

noncomputable def pad_Fill (z : Option Nat) (b : List Int) : Option (List Int) :=
  Option.bind (pad_zeros (dv .rem .i64 (ar .sub .i64 4 (dv .rem .i64 (b.length : Int) 4)) 4)) fun x1 =>
  Option.bind (slices_Concat z [b, x1]) fun x2 =>
  some x2

noncomputable def arrive_Write_s2 (z : Option Nat) (p_a : Arrive) (v13 : List Int) (v14 : Int) : Option (((List Int × Int) ⊕ (List Int × Int))) :=
  if (cm .lss v14 (p_a.seen.length : Int)) then
  Option.bind (ix p_a.seen v14) fun x15 =>
    Option.bind (arrive_delta x15) fun x16 =>
    Option.bind (app v13 x16) fun x17 =>
    some (Sum.inl (x17, (ar .add .i64 v14 1)))
else
  Option.map Sum.inr (Option.bind (pad_Fill z v13) fun x18 =>
    some (x18, 0))

noncomputable def arrive_Write_l2 (z : Option Nat) (p_a : Arrive) (v13 : List Int) (v14 : Int) : Option (List Int × Int) :=
  loopG z (fun (s : List Int × Int) => arrive_Write_s2 z p_a s.1 s.2) (v13, v14)

noncomputable def arrive_Write_s1 (z : Option Nat) (p_a : Arrive) (x7 : List Int × Int) (v8 : List Int) (v9 : Int) : Option (((List Int × Int) ⊕ (List Int × Int))) :=
  if (cm .lss v9 (x7.1.length : Int)) then
  Option.bind (ix x7.1 v9) fun x10 =>
    Option.bind (octet_Put (IntKind.u64.wrap x10) 2) fun x11 =>
    Option.bind (app v8 x11.1) fun x12 =>
    some (Sum.inl (x12, (ar .add .i64 v9 1)))
else
  Option.map Sum.inr (arrive_Write_l2 z p_a v8 0)

noncomputable def arrive_Write_l1 (z : Option Nat) (p_a : Arrive) (x7 : List Int × Int) (v8 : List Int) (v9 : Int) : Option (List Int × Int) :=
  loopG z (fun (s : List Int × Int) => arrive_Write_s1 z p_a x7 s.1 s.2) (v8, v9)

noncomputable def arrive_Write (z : Option Nat) (p_a : Arrive) : Option (List Int × Int) :=
  Option.bind (arrive_Right z p_a) fun x1 =>
  if (!x1) then
  some ([], 1)
else
  Option.bind (octet_Put (IntKind.u64.wrap p_a.base) 2) fun x2 =>
    Option.bind (octet_Put (IntKind.u64.wrap (p_a.seen.length : Int)) 2) fun x3 =>
    Option.bind (octet_PutSigned p_a.time 3) fun x4 =>
    Option.bind (octet_Join z ([x2.1, x3.1, x4.1, [p_a.count]])) fun x5 =>
    Option.bind (arrive_whats z p_a.seen) fun x6 =>
    Option.bind (chunk_Write z x6) fun x7 =>
    arrive_Write_l1 z p_a x7 x5 0

noncomputable def feed_arrivals_bytes (z : Option Nat) (m : feed_arrivals) : Option (List Int × Int) :=
  Option.bind (arrive_Write z m.arrive) fun x1 =>
  some (x1.1, x1.2)

noncomputable def fresh_Write_s1 (z : Option Nat) (l : List Entry) (v1 : List Int) (v2 : Int) : Option (((List Int × Int) ⊕ (List Int × Int))) :=
  if (cm .lss v2 (l.length : Int)) then
  Option.bind (ix l v2) fun x3 =>
    Option.bind (octet_Put (IntKind.u64.wrap x3.ssrc) 4) fun x4 =>
    Option.bind (app x4.1 [x3.seq]) fun x5 =>
    Option.bind (pad_Fill z x5) fun x6 =>
    Option.bind (app v1 x6) fun x7 =>
    some (Sum.inl (x7, (ar .add .i64 v2 1)))
else
  Option.map Sum.inr (some (v1, 0))

noncomputable def fresh_Write_l1 (z : Option Nat) (l : List Entry) (v1 : List Int) (v2 : Int) : Option (List Int × Int) :=
  loopG z (fun (s : List Int × Int) => fresh_Write_s1 z l s.1 s.2) (v1, v2)

noncomputable def fresh_Write (z : Option Nat) (l : List Entry) : Option (List Int × Int) :=
  if ((cm .lss (l.length : Int) 1) || (cm .gtr (l.length : Int) 8190)) then
  some ([], 1)
else
  fresh_Write_l1 z l [] 0

noncomputable def feed_entries_bytes (z : Option Nat) (m : List Entry) : Option (List Int × Int) :=
  Option.bind (fresh_Write z m) fun x1 =>
  some (x1.1, x1.2)

def remb_Right (p_r : Rate) : Bool :=
  (((((cm .geq p_r.exp 0) && (cm .leq p_r.exp 63)) && (cm .eql (sf .shr .u32 p_r.mant 18) 0)) && ((cm .eql p_r.exp 0) || (cm .geq p_r.mant 131072))) && (cm .leq (p_r.srcs.length : Int) 255))

noncomputable def remb_Write_s1 (z : Option Nat) (p_r : Rate) (v3 : List Int) (v4 : Int) : Option (((List Int × Int) ⊕ (List Int × Int))) :=
  if (cm .lss v4 (p_r.srcs.length : Int)) then
  Option.bind (ix p_r.srcs v4) fun x5 =>
    Option.bind (octet_Put (IntKind.u64.wrap x5) 4) fun x6 =>
    Option.bind (app v3 x6.1) fun x7 =>
    some (Sum.inl (x7, (ar .add .i64 v4 1)))
else
  Option.map Sum.inr (some (v3, 0))

noncomputable def remb_Write_l1 (z : Option Nat) (p_r : Rate) (v3 : List Int) (v4 : Int) : Option (List Int × Int) :=
  loopG z (fun (s : List Int × Int) => remb_Write_s1 z p_r s.1 s.2) (v3, v4)

noncomputable def remb_Write (z : Option Nat) (p_r : Rate) : Option (List Int × Int) :=
  if (!(remb_Right p_r)) then
  some ([], 1)
else
  Option.bind (octet_Put (ar .or .u64 (sf .shl .u64 (IntKind.u64.wrap p_r.exp) 18) (IntKind.u64.wrap p_r.mant)) 3) fun x1 =>
    Option.bind (octet_Join z ([[82, 69, 77, 66], [(IntKind.u8.wrap (p_r.srcs.length : Int))], x1.1])) fun x2 =>
    remb_Write_l1 z p_r x2 0

noncomputable def feed_rate_bytes (z : Option Nat) (m : feed_rate) : Option (List Int × Int) :=
  Option.bind (remb_Write z m.rate) fun x1 =>
  some (x1.1, x1.2)

def feed_loss_bytes (p0 : feed_loss) : Option (List Int × Int) :=
  some ([], 0)

noncomputable def I_feed_message_bytes (z : Option Nat) (w : I_feed_message)  : Option (List Int × Int) :=
  match w with
  | .nil => none
  | .c107 x => feed_pairs_bytes z x 
  | .c111 x => feed_arrivals_bytes z x 
  | .c114 x => feed_entries_bytes z x 
  | .c118 x => feed_rate_bytes z x 
  | .c120 x => feed_loss_bytes x 

noncomputable def feed_written (z : Option Nat) (f : Feed) : Option (List Int × Bool) :=
  if ((I_feed_message.isnil (feed_messageOf f)) || (!(feed_idle f (feed_messageOf f)))) then
  some ([], false)
else
  Option.bind (I_feed_message_bytes z (feed_messageOf f) ) fun x1 =>
    if (cm .neq x1.2 0) then
    some ([], false)
  else
    Option.bind (octet_Put (IntKind.u64.wrap f.from_) 4) fun x2 =>
      Option.bind (octet_Put (IntKind.u64.wrap f.of) 4) fun x3 =>
      Option.bind (octet_Join z [x2.1, x3.1, x1.1]) fun x4 =>
      some (x4, true)

noncomputable def feed_Write (z : Option Nat) (f : Feed) : Option (List Int × Int) :=
  Option.bind (feed_written z f) fun x1 =>
  if (!x1.2) then
  some ([], 1)
else
  some (x1.1, 0)

def feed_Code (kind : Int) : Int × Int × Int :=
  if (cm .eql kind 1) then
  (205, 1, 0)
else
  if (cm .eql kind 2) then
    (205, 15, 0)
  else
    if (cm .eql kind 3) then
      (206, 1, 0)
    else
      if (cm .eql kind 4) then
        (206, 4, 0)
      else
        if (cm .eql kind 5) then
          (206, 15, 0)
        else
          (0, 0, 1)

def octet_there (b : List Int) (at_ : Int) (n : Int) : Bool :=
  ((cm .leq at_ (b.length : Int)) && (cm .leq n (ar .sub .i64 (b.length : Int) at_)))

noncomputable def octet_Get_s2 (z : Option Nat) (x2 : List Int) (v3 : Int) (v4 : Int) : Option (((Int × Int) ⊕ (Int × Int))) :=
  if (cm .lss v4 (x2.length : Int)) then
  Option.bind (ix x2 v4) fun x5 =>
    some (Sum.inl ((ar .or .u64 (sf .shl .u64 v3 8) (IntKind.u64.wrap x5)), (ar .add .i64 v4 1)))
else
  Option.map Sum.inr (some (v3, 0))

noncomputable def octet_Get_l2 (z : Option Nat) (x2 : List Int) (v3 : Int) (v4 : Int) : Option (Int × Int) :=
  loopG z (fun (s : Int × Int) => octet_Get_s2 z x2 s.1 s.2) (v3, v4)

noncomputable def octet_Get_j1 (z : Option Nat) (b : List Int) (at_ : Int) (n : Int) (v1 : Bool) : Option (Int × Int) :=
  if v1 then
  some (0, 1)
else
  if (!(octet_there b at_ n)) then
    some (0, 2)
  else
    Option.bind (sub b at_ (ar .add .i64 at_ n)) fun x2 =>
      octet_Get_l2 z x2 0 0

noncomputable def octet_Get (z : Option Nat) (b : List Int) (at_ : Int) (n : Int) : Option (Int × Int) :=
  if (!(octet_sized n)) then
  octet_Get_j1 z b at_ n (!(octet_sized n))
else
  octet_Get_j1 z b at_ n (cm .lss at_ 0)

noncomputable def nack_Read_s2 (z : Option Nat) (y2 : List Int) (v3 : List Pair) : Option (((List Pair) ⊕ (List Pair × Int))) :=
  Option.bind (octet_Get z y2 0 4) fun x4 =>
  Option.bind (app v3 [(Pair.mk (IntKind.u16.wrap (sf .shr .u64 x4.1 16)) (IntKind.u16.wrap x4.1))]) fun x5 =>
  some (Sum.inl x5)

noncomputable def nack_Read_d2 (z : Option Nat) (v3 : List Pair) : Option (List Pair × Int) :=
  some (v3, 0)

noncomputable def nack_Read_l2 (z : Option Nat) (body : List Int) (v3 : List Pair) : Option (List Pair × Int) :=
  foldX (fun (y2 : List Int) (s : List Pair) => nack_Read_s2 z y2 s) (fun (s : List Pair) => nack_Read_d2 z s) (chunksL 4 body) (v3)

noncomputable def nack_Read_j1 (z : Option Nat) (body : List Int) (v1 : Bool) : Option (List Pair × Int) :=
  if v1 then
  some ([], 4)
else
  if (cm .eql (body.length : Int) 0) then
    some ([], 2)
  else
    Option.bind (lnO body) fun x2 =>
      nack_Read_l2 z body ([] : List Pair)

noncomputable def nack_Read (z : Option Nat) (body : List Int) : Option (List Pair × Int) :=
  if (cm .gtr (body.length : Int) 65520) then
  nack_Read_j1 z body (cm .gtr (body.length : Int) 65520)
else
  nack_Read_j1 z body (cm .gtr (dv .rem .i64 (body.length : Int) 4) 0)

noncomputable def octet_Signed (z : Option Nat) (b : List Int) (at_ : Int) (n : Int) : Option (Int × Int) :=
  Option.bind (octet_Get z b at_ n) fun x1 =>
  if (cm .neq x1.2 0) then
  some (0, x1.2)
else
  Option.bind (sfO .shl .u64 x1.1 (ar .sub .i64 64 (ar .mul .i64 8 n))) fun x2 =>
    Option.bind (sfO .shr .i64 (IntKind.i64.wrap x2) (ar .sub .i64 64 (ar .mul .i64 8 n))) fun x3 =>
    some (x3, 0)

noncomputable def arrive_numbers_s1 (z : Option Nat) (y1 : List Int) (v2 : List Int) : Option (((List Int) ⊕ (List Int))) :=
  Option.bind (octet_Get z y1 0 2) fun x3 =>
  Option.bind (app v2 [(IntKind.u16.wrap x3.1)]) fun x4 =>
  some (Sum.inl x4)

noncomputable def arrive_numbers_d1 (z : Option Nat) (v2 : List Int) : Option (List Int) :=
  some v2

noncomputable def arrive_numbers_l1 (z : Option Nat) (b : List Int) (v2 : List Int) : Option (List Int) :=
  foldX (fun (y1 : List Int) (s : List Int) => arrive_numbers_s1 z y1 s) (fun (s : List Int) => arrive_numbers_d1 z s) (chunksL 2 b) (v2)

noncomputable def arrive_numbers (z : Option Nat) (b : List Int) : Option (List Int) :=
  Option.bind (lnO b) fun x1 =>
  arrive_numbers_l1 z b ([] : List Int)

def math_bits_Mul32 (x : Int) (y : Int) : Int × Int :=
  ((IntKind.u32.wrap (sf .shr .u64 (ar .mul .u64 (IntKind.u64.wrap x) (IntKind.u64.wrap y)) 32)), (IntKind.u32.wrap (ar .mul .u64 (IntKind.u64.wrap x) (IntKind.u64.wrap y))))

def math_bits_Mul64 (x : Int) (y : Int) : Int × Int :=
  ((ar .add .u64 (ar .add .u64 (ar .mul .u64 (sf .shr .u64 x 32) (sf .shr .u64 y 32)) (sf .shr .u64 (ar .add .u64 (ar .mul .u64 (sf .shr .u64 x 32) (ar .and .u64 y 4294967295)) (sf .shr .u64 (ar .mul .u64 (ar .and .u64 x 4294967295) (ar .and .u64 y 4294967295)) 32)) 32)) (sf .shr .u64 (ar .add .u64 (ar .and .u64 (ar .add .u64 (ar .mul .u64 (sf .shr .u64 x 32) (ar .and .u64 y 4294967295)) (sf .shr .u64 (ar .mul .u64 (ar .and .u64 x 4294967295) (ar .and .u64 y 4294967295)) 32)) 4294967295) (ar .mul .u64 (ar .and .u64 x 4294967295) (sf .shr .u64 y 32))) 32)), (ar .mul .u64 x y))

def math_bits_Mul (x : Int) (y : Int) : Int × Int :=
  ((math_bits_Mul64 x y).1, (math_bits_Mul64 x y).2)

noncomputable def slices_Repeat_s3 (z : Option Nat) (v2 : List Int) (v3 : Int) : Option (((List Int × Int) ⊕ (List Int))) :=
  if (cm .lss v3 (v2.length : Int)) then
  Option.bind (sub v2 v3 (v2.length : Int)) fun x4 =>
    Option.bind (sub v2 0 v3) fun x5 =>
    some (Sum.inl ((cpy v2 v3 (v2.length : Int) x5), (ar .add .i64 v3 (cpn v3 (v2.length : Int) x5))))
else
  Option.map Sum.inr (some v2)

noncomputable def slices_Repeat_l3 (z : Option Nat) (v2 : List Int) (v3 : Int) : Option (List Int) :=
  loopG z (fun (s : List Int × Int) => slices_Repeat_s3 z s.1 s.2) (v2, v3)

noncomputable def slices_Repeat_j2 (z : Option Nat) (x : List Int) (count : Int) : Option (List Int) :=
  Option.bind (mkL (0 : Int) (IntKind.i64.wrap ((math_bits_Mul (IntKind.u64.wrap (x.length : Int)) (IntKind.u64.wrap count)).2)) (IntKind.i64.wrap ((math_bits_Mul (IntKind.u64.wrap (x.length : Int)) (IntKind.u64.wrap count)).2))) fun x1 =>
  slices_Repeat_l3 z (cpy x1 0 (x1.length : Int) x) (cpn 0 (x1.length : Int) x)

noncomputable def slices_Repeat_j1 (z : Option Nat) (x : List Int) (count : Int) : Option (List Int) :=
  if ((cm .gtr ((math_bits_Mul (IntKind.u64.wrap (x.length : Int)) (IntKind.u64.wrap count)).1) 0) || (cm .gtr ((math_bits_Mul (IntKind.u64.wrap (x.length : Int)) (IntKind.u64.wrap count)).2) 9223372036854775807)) then
  none
else
  slices_Repeat_j2 z x count

noncomputable def slices_Repeat (z : Option Nat) (x : List Int) (count : Int) : Option (List Int) :=
  if (cm .lss count 0) then
  none
else
  slices_Repeat_j1 z x count

noncomputable def chunk_told_s2 (z : Option Nat) (c : Int) (most : Int) (v2 : Int) (v3 : Int) (v4 : List Int) (v5 : Int) : Option (((List Int × Int) ⊕ (List Int))) :=
  if (cm .lss v5 (imin v3 most)) then
  Option.bind (sfO .shr .u16 c (ar .mul .i64 v2 (ar .sub .i64 (ar .sub .i64 v3 1) v5))) fun x6 =>
    Option.bind (sfO .shl .i64 1 v2) fun x7 =>
    Option.bind (app v4 [(ar .and .i64 (IntKind.i64.wrap x6) (ar .sub .i64 x7 1))]) fun x8 =>
    some (Sum.inl (x8, (ar .add .i64 v5 1)))
else
  Option.map Sum.inr (some v4)

noncomputable def chunk_told_l2 (z : Option Nat) (c : Int) (most : Int) (v2 : Int) (v3 : Int) (v4 : List Int) (v5 : Int) : Option (List Int) :=
  loopG z (fun (s : List Int × Int) => chunk_told_s2 z c most v2 v3 s.1 s.2) (v4, v5)

noncomputable def chunk_told_j1 (z : Option Nat) (c : Int) (most : Int) (v2 : Int) (v3 : Int) : Option (List Int) :=
  chunk_told_l2 z c most v2 v3 [] 0

noncomputable def chunk_told (z : Option Nat) (c : Int) (most : Int) : Option (List Int) :=
  if (cm .eql (ar .and .u16 c 32768) 0) then
  Option.bind (slices_Repeat z [(IntKind.i64.wrap (sf .shr .u16 c 13))] (imin (IntKind.i64.wrap (ar .and .u16 c 8191)) most)) fun x1 =>
    some x1
else
  if (cm .gtr (ar .and .u16 c 16384) 0) then
    chunk_told_j1 z c most 2 7
  else
    chunk_told_j1 z c most 1 14

noncomputable def chunk_Read_s1 (z : Option Nat) (chunks : List Int) (count : Int) (v1 : List Int) (v2 : Int) : Option (((List Int × Int) ⊕ (List Int × Int × Int))) :=
  if (cm .lss (v1.length : Int) count) then
  if (cm .eql v2 (chunks.length : Int)) then
    Option.map Sum.inr (some ([], 0, 2))
  else
    Option.bind (ix chunks v2) fun x3 =>
      Option.bind (chunk_told z x3 (ar .sub .i64 count (v1.length : Int))) fun x4 =>
      Option.bind (slices_Contains z x4 3) fun x5 =>
      if x5 then
      Option.map Sum.inr (some ([], 0, 6))
    else
      Option.bind (app v1 x4) fun x6 =>
        if (cm .eql (x6.length : Int) count) then
        Option.map Sum.inr (some (x6, (ar .add .i64 v2 1), 0))
      else
        some (Sum.inl (x6, (ar .add .i64 v2 1)))
else
  Option.map Sum.inr (some (v1, 0, 0))

noncomputable def chunk_Read_l1 (z : Option Nat) (chunks : List Int) (count : Int) (v1 : List Int) (v2 : Int) : Option (List Int × Int × Int) :=
  loopG z (fun (s : List Int × Int) => chunk_Read_s1 z chunks count s.1 s.2) (v1, v2)

noncomputable def chunk_Read (z : Option Nat) (chunks : List Int) (count : Int) : Option (List Int × Int × Int) :=
  if ((cm .lss count 0) || (cm .gtr count 4000)) then
  some ([], 0, 1)
else
  chunk_Read_l1 z chunks count [] 0

def arrive_size (what : Int) : Int :=
  what

noncomputable def arrive_deltas_j2 (z : Option Nat) (v1 : List Seen) (v2 : Int) (v3 : Int) (x4 : Int) (v5 : Seen) : Option (((List Seen × Int × Int) ⊕ (List Seen))) :=
  Option.bind (app v1 [v5]) fun x6 =>
  some (Sum.inl (x6, (ar .add .i64 v2 (arrive_size x4)), (ar .add .i64 v3 1)))

noncomputable def arrive_deltas_s1 (z : Option Nat) (l : List Int) (b : List Int) (v1 : List Seen) (v2 : Int) (v3 : Int) : Option (((List Seen × Int × Int) ⊕ (List Seen))) :=
  if (cm .lss v3 (l.length : Int)) then
  Option.bind (ix l v3) fun x4 =>
    if (cm .eql x4 1) then
    Option.bind (ix b v2) fun x7 =>
      arrive_deltas_j2 z v1 v2 v3 x4 (Seen.mk x4 (IntKind.i64.wrap x7))
  else
    if (cm .eql x4 2) then
      Option.bind (octet_Signed z b v2 2) fun x8 =>
        arrive_deltas_j2 z v1 v2 v3 x4 (Seen.mk x4 x8.1)
    else
      arrive_deltas_j2 z v1 v2 v3 x4 (Seen.mk x4 0)
else
  Option.map Sum.inr (some v1)

noncomputable def arrive_deltas_l1 (z : Option Nat) (l : List Int) (b : List Int) (v1 : List Seen) (v2 : Int) (v3 : Int) : Option (List Seen) :=
  loopG z (fun (s : List Seen × Int × Int) => arrive_deltas_s1 z l b s.1 s.2.1 s.2.2) (v1, v2, v3)

noncomputable def arrive_deltas (z : Option Nat) (l : List Int) (b : List Int) : Option (List Seen) :=
  arrive_deltas_l1 z l b [] 0 0

noncomputable def arrive_read_s2 (z : Option Nat) (body : List Int) (x2 : Int × Int) (x4 : Int × Int) (x6 : List Int) (x7 : List Int × Int × Int) (x8 : List Int) (v9 : Int) (v10 : Int) : Option (((Int × Int) ⊕ (Arrive × List Int × List Int × Int))) :=
  if (cm .lss v10 (x7.1.length : Int)) then
  Option.bind (ix x7.1 v10) fun x11 =>
    some (Sum.inl ((ar .add .i64 v9 (arrive_size x11)), (ar .add .i64 v10 1)))
else
  Option.map Sum.inr (if (cm .lss (x8.length : Int) v9) then
    some ((Arrive.mk 0 0 0 []), ([] : List Int), ([] : List Int), 2)
  else
    if (cm .gtr (x8.length : Int) (ar .add .i64 v9 3)) then
      some ((Arrive.mk 0 0 0 []), ([] : List Int), ([] : List Int), 4)
    else
      Option.bind (ix body 7) fun x12 =>
        Option.bind (arrive_deltas z x7.1 x8) fun x13 =>
        Option.bind (sub x6 0 x7.2.1) fun x14 =>
        Option.bind (sub x8 v9 (x8.length : Int)) fun x15 =>
        some ((Arrive.mk (IntKind.u16.wrap x2.1) x4.1 x12 x13), x14, x15, 0))

noncomputable def arrive_read_l2 (z : Option Nat) (body : List Int) (x2 : Int × Int) (x4 : Int × Int) (x6 : List Int) (x7 : List Int × Int × Int) (x8 : List Int) (v9 : Int) (v10 : Int) : Option (Arrive × List Int × List Int × Int) :=
  loopG z (fun (s : Int × Int) => arrive_read_s2 z body x2 x4 x6 x7 x8 s.1 s.2) (v9, v10)

noncomputable def arrive_read_j1 (z : Option Nat) (body : List Int) (v1 : Bool) : Option (Arrive × List Int × List Int × Int) :=
  if v1 then
  some ((Arrive.mk 0 0 0 []), ([] : List Int), ([] : List Int), 4)
else
  if (cm .lss (body.length : Int) 8) then
    some ((Arrive.mk 0 0 0 []), ([] : List Int), ([] : List Int), 2)
  else
    Option.bind (octet_Get z body 0 2) fun x2 =>
      Option.bind (octet_Get z body 2 2) fun x3 =>
      Option.bind (octet_Signed z body 4 3) fun x4 =>
      if (cm .gtr x3.1 4000) then
      some ((Arrive.mk 0 0 0 []), ([] : List Int), ([] : List Int), 4)
    else
      Option.bind (sub body 8 (body.length : Int)) fun x5 =>
        Option.bind (arrive_numbers z x5) fun x6 =>
        Option.bind (chunk_Read z x6 (IntKind.i64.wrap x3.1)) fun x7 =>
        if (cm .neq x7.2.2 0) then
        some ((Arrive.mk 0 0 0 []), ([] : List Int), ([] : List Int), x7.2.2)
      else
        Option.bind (sub body (ar .add .i64 8 (ar .mul .i64 2 x7.2.1)) (body.length : Int)) fun x8 =>
          arrive_read_l2 z body x2 x4 x6 x7 x8 0 0

noncomputable def arrive_read (z : Option Nat) (body : List Int) : Option (Arrive × List Int × List Int × Int) :=
  if (cm .gtr (body.length : Int) 65520) then
  arrive_read_j1 z body (cm .gtr (body.length : Int) 65520)
else
  arrive_read_j1 z body (cm .gtr (dv .rem .i64 (body.length : Int) 4) 0)

noncomputable def arrive_Read (z : Option Nat) (body : List Int) : Option (Arrive × Int) :=
  Option.bind (arrive_read z body) fun x1 =>
  some (x1.1, x1.2.2.2)

noncomputable def fresh_Read_s2 (z : Option Nat) (y2 : List Int) (v3 : List Entry) : Option (((List Entry) ⊕ (List Entry × Int))) :=
  Option.bind (octet_Get z y2 0 4) fun x4 =>
  Option.bind (ix y2 4) fun x5 =>
  Option.bind (app v3 [(Entry.mk (IntKind.u32.wrap x4.1) x5)]) fun x6 =>
  some (Sum.inl x6)

noncomputable def fresh_Read_d2 (z : Option Nat) (v3 : List Entry) : Option (List Entry × Int) :=
  some (v3, 0)

noncomputable def fresh_Read_l2 (z : Option Nat) (body : List Int) (v3 : List Entry) : Option (List Entry × Int) :=
  foldX (fun (y2 : List Int) (s : List Entry) => fresh_Read_s2 z y2 s) (fun (s : List Entry) => fresh_Read_d2 z s) (chunksL 8 body) (v3)

noncomputable def fresh_Read_j1 (z : Option Nat) (body : List Int) (v1 : Bool) : Option (List Entry × Int) :=
  if v1 then
  some ([], 4)
else
  if (cm .eql (body.length : Int) 0) then
    some ([], 2)
  else
    Option.bind (lnO body) fun x2 =>
      fresh_Read_l2 z body ([] : List Entry)

noncomputable def fresh_Read (z : Option Nat) (body : List Int) : Option (List Entry × Int) :=
  if (cm .gtr (body.length : Int) 65520) then
  fresh_Read_j1 z body (cm .gtr (body.length : Int) 65520)
else
  fresh_Read_j1 z body (cm .gtr (dv .rem .i64 (body.length : Int) 8) 0)

noncomputable def remb_told (z : Option Nat) (body : List Int) : Option (Int × Int) :=
  Option.bind (octet_Get z body 5 3) fun x1 =>
  some ((IntKind.i64.wrap (sf .shr .u64 x1.1 18)), (IntKind.u32.wrap (ar .and .u64 x1.1 262143)))

def math_bits_Len32_j2 (v3 : Int) (v4 : Int) : Option (Int) :=
  Option.bind (ix ([0, 1, 2, 2, 3, 3, 3, 3, 4, 4, 4, 4, 4, 4, 4, 4, 5, 5, 5, 5, 5, 5, 5, 5, 5, 5, 5, 5, 5, 5, 5, 5, 6, 6, 6, 6, 6, 6, 6, 6, 6, 6, 6, 6, 6, 6, 6, 6, 6, 6, 6, 6, 6, 6, 6, 6, 6, 6, 6, 6, 6, 6, 6, 6, 7, 7, 7, 7, 7, 7, 7, 7, 7, 7, 7, 7, 7, 7, 7, 7, 7, 7, 7, 7, 7, 7, 7, 7, 7, 7, 7, 7, 7, 7, 7, 7, 7, 7, 7, 7, 7, 7, 7, 7, 7, 7, 7, 7, 7, 7, 7, 7, 7, 7, 7, 7, 7, 7, 7, 7, 7, 7, 7, 7, 7, 7, 7, 7, 8, 8, 8, 8, 8, 8, 8, 8, 8, 8, 8, 8, 8, 8, 8, 8, 8, 8, 8, 8, 8, 8, 8, 8, 8, 8, 8, 8, 8, 8, 8, 8, 8, 8, 8, 8, 8, 8, 8, 8, 8, 8, 8, 8, 8, 8, 8, 8, 8, 8, 8, 8, 8, 8, 8, 8, 8, 8, 8, 8, 8, 8, 8, 8, 8, 8, 8, 8, 8, 8, 8, 8, 8, 8, 8, 8, 8, 8, 8, 8, 8, 8, 8, 8, 8, 8, 8, 8, 8, 8, 8, 8, 8, 8, 8, 8, 8, 8, 8, 8, 8, 8, 8, 8, 8, 8, 8, 8, 8, 8, 8, 8, 8, 8, 8, 8, 8, 8, 8, 8, 8, 8, 8, 8, 8, 8, 8, 8] : List UInt8) (IntKind.u8.wrap v3)) fun x5 =>
  some (ar .add .i64 v4 (IntKind.i64.wrap (x5.toNat : Int)))

def math_bits_Len32_j1 (v1 : Int) (v2 : Int) : Option (Int) :=
  if (cm .geq v1 256) then
  math_bits_Len32_j2 (sf .shr .u32 v1 8) (ar .add .i64 v2 8)
else
  math_bits_Len32_j2 v1 v2

def math_bits_Len32 (x : Int) : Option (Int) :=
  if (cm .geq x 65536) then
  math_bits_Len32_j1 (sf .shr .u32 x 16) 16
else
  math_bits_Len32_j1 x 0

def remb_least (exp : Int) (mant : Int) : Option (Int × Int) :=
  if (cm .eql mant 0) then
  some (0, 0)
else
  Option.bind (math_bits_Len32 mant) fun x1 =>
    Option.bind (sfO .shl .u32 mant (imin exp (ar .sub .i64 18 x1))) fun x2 =>
    some ((ar .sub .i64 exp (imin exp (ar .sub .i64 18 x1))), x2)

noncomputable def remb_Read_s2 (z : Option Nat) (y2 : List Int) (v9 : Rate) : Option (((Rate) ⊕ (Rate × Int))) :=
  Option.bind (octet_Get z y2 0 4) fun x10 =>
  Option.bind (app v9.srcs [(IntKind.u32.wrap x10.1)]) fun x11 =>
  some (Sum.inl ({ v9 with srcs := x11 }))

noncomputable def remb_Read_d2 (z : Option Nat) (v9 : Rate) : Option (Rate × Int) :=
  some (v9, 0)

noncomputable def remb_Read_l2 (z : Option Nat) (x7 : List Int) (v9 : Rate) : Option (Rate × Int) :=
  foldX (fun (y2 : List Int) (s : Rate) => remb_Read_s2 z y2 s) (fun (s : Rate) => remb_Read_d2 z s) (chunksL 4 x7) (v9)

noncomputable def remb_Read_j1 (z : Option Nat) (body : List Int) (v1 : Bool) : Option (Rate × Int) :=
  if v1 then
  some ((Rate.mk 0 0 []), 4)
else
  if (cm .lss (body.length : Int) 8) then
    some ((Rate.mk 0 0 []), 2)
  else
    Option.bind (sub body 0 4) fun x2 =>
      if (sc .neq (b2s x2) ([82, 69, 77, 66] : List UInt8)) then
      some ((Rate.mk 0 0 []), 6)
    else
      Option.bind (ix body 4) fun x3 =>
        if (cm .lss (ar .sub .i64 (dv .quo .i64 (body.length : Int) 4) 2) (IntKind.i64.wrap x3)) then
        some ((Rate.mk 0 0 []), 2)
      else
        Option.bind (ix body 4) fun x4 =>
          if (cm .gtr (ar .sub .i64 (dv .quo .i64 (body.length : Int) 4) 2) (IntKind.i64.wrap x4)) then
          some ((Rate.mk 0 0 []), 4)
        else
          Option.bind (remb_told z body) fun x5 =>
            Option.bind (remb_least x5.1 x5.2) fun x6 =>
            Option.bind (sub body 8 (body.length : Int)) fun x7 =>
            Option.bind (lnO x7) fun x8 =>
            remb_Read_l2 z x7 (Rate.mk x6.1 x6.2 ([] : List Int))

noncomputable def remb_Read (z : Option Nat) (body : List Int) : Option (Rate × Int) :=
  if (cm .gtr (body.length : Int) 65520) then
  remb_Read_j1 z body (cm .gtr (body.length : Int) 65520)
else
  remb_Read_j1 z body (cm .gtr (dv .rem .i64 (body.length : Int) 4) 0)

noncomputable def feed_read (z : Option Nat) (kind : Int) (b : List Int) : Option (I_feed_message × Int) :=
  if (cm .eql kind 1) then
  Option.bind (nack_Read z b) fun x1 =>
    some ((I_feed_message.c107 x1.1), x1.2)
else
  if (cm .eql kind 2) then
    Option.bind (arrive_Read z b) fun x2 =>
      some ((I_feed_message.c111 (feed_arrivals.mk x2.1)), x2.2)
  else
    if (cm .eql kind 4) then
      Option.bind (fresh_Read z b) fun x3 =>
        some ((I_feed_message.c114 x3.1), x3.2)
    else
      if (cm .eql kind 5) then
        Option.bind (remb_Read z b) fun x4 =>
          some ((I_feed_message.c118 (feed_rate.mk x4.1)), x4.2)
      else
        if (cm .gtr (b.length : Int) 0) then
          some ((I_feed_message.c120 (feed_loss.mk )), 4)
        else
          some ((I_feed_message.c120 (feed_loss.mk )), 0)

noncomputable def feed_pairs_put_y1 (z : Option Nat) (m : List Pair) (box0 : Feed) : Option (Feed) :=
  some ({ box0 with pairs := m })

noncomputable def feed_arrivals_put_y1 (z : Option Nat) (m : feed_arrivals) (box0 : Feed) : Option (Feed) :=
  some ({ box0 with arrive := m.arrive })

noncomputable def feed_entries_put_y1 (z : Option Nat) (m : List Entry) (box0 : Feed) : Option (Feed) :=
  some ({ box0 with entries := m })

noncomputable def feed_rate_put_y1 (z : Option Nat) (m : feed_rate) (box0 : Feed) : Option (Feed) :=
  some ({ box0 with rate := m.rate })

noncomputable def feed_loss_put_y1 (z : Option Nat) (p0 : feed_loss) (box0 : Feed) : Option (Feed) :=
  some box0

noncomputable def I_feed_message_put_y0 (z : Option Nat) (w : I_feed_message) (b0 : Feed) : Option (Feed) :=
  match w with
  | .nil => none
  | .c107 x => feed_pairs_put_y1 z x b0
  | .c111 x => feed_arrivals_put_y1 z x b0
  | .c114 x => feed_entries_put_y1 z x b0
  | .c118 x => feed_rate_put_y1 z x b0
  | .c120 x => feed_loss_put_y1 z x b0

noncomputable def feed_Read_j1 (z : Option Nat) (kind : Int) (body : List Int) (v1 : Bool) : Option (Feed × Int) :=
  if v1 then
  some ((Feed.mk 0 0 0 [] (Arrive.mk 0 0 0 []) [] (Rate.mk 0 0 [])), 4)
else
  if (cm .lss (body.length : Int) 8) then
    some ((Feed.mk 0 0 0 [] (Arrive.mk 0 0 0 []) [] (Rate.mk 0 0 [])), 2)
  else
    Option.bind (sub body 8 (body.length : Int)) fun x2 =>
      Option.bind (feed_read z kind x2) fun x3 =>
      if (cm .neq x3.2 0) then
      some ((Feed.mk 0 0 0 [] (Arrive.mk 0 0 0 []) [] (Rate.mk 0 0 [])), x3.2)
    else
      Option.bind (octet_Get z body 0 4) fun x4 =>
        Option.bind (octet_Get z body 4 4) fun x5 =>
        Option.bind (I_feed_message_put_y0 z x3.1 (Feed.mk kind (IntKind.u32.wrap x4.1) (IntKind.u32.wrap x5.1) [] (Arrive.mk 0 0 0 []) [] (Rate.mk 0 0 []))) fun x6 =>
        some (x6, 0)

noncomputable def feed_Read (z : Option Nat) (kind : Int) (body : List Int) : Option (Feed × Int) :=
  if (cm .neq ((feed_Code kind).2.2) 0) then
  some ((Feed.mk 0 0 0 [] (Arrive.mk 0 0 0 []) [] (Rate.mk 0 0 [])), (feed_Code kind).2.2)
else
  if (cm .gtr (body.length : Int) 65528) then
    feed_Read_j1 z kind body (cm .gtr (body.length : Int) 65528)
  else
    feed_Read_j1 z kind body (cm .gtr (dv .rem .i64 (body.length : Int) 4) 0)

noncomputable def feed_Kind_s1 (z : Option Nat) (kind : Int) (count : Int) (v1 : Int) : Option (((Int) ⊕ (Int))) :=
  if (cm .leq v1 5) then
  if ((cm .eql ((feed_Code v1).1) kind) && (cm .eql ((feed_Code v1).2.1) count)) then
    Option.map Sum.inr (some v1)
  else
    some (Sum.inl (ar .add .i64 v1 1))
else
  Option.map Sum.inr (some 0)

noncomputable def feed_Kind_l1 (z : Option Nat) (kind : Int) (count : Int) (v1 : Int) : Option (Int) :=
  loopG z (fun (s : Int) => feed_Kind_s1 z kind count s) (v1)

noncomputable def feed_Kind (z : Option Nat) (kind : Int) (count : Int) : Option (Int) :=
  feed_Kind_l1 z kind count 1

noncomputable def chunk_Canon_s1 (z : Option Nat) (chunks : List Int) (v2 : List Int) (v3 : Int) : Option (((List Int × Int) ⊕ (Bool))) :=
  if (cm .lss v3 (chunks.length : Int)) then
  Option.bind (ix chunks v3) fun x4 =>
    if (cm .eql (v2.length : Int) 0) then
    Option.map Sum.inr (some false)
  else
    Option.bind (chunk_first z v2) fun x5 =>
      if (cm .neq x5.1 x4) then
      Option.map Sum.inr (some false)
    else
      Option.bind (sub v2 x5.2 (v2.length : Int)) fun x6 =>
        some (Sum.inl (x6, (ar .add .i64 v3 1)))
else
  Option.map Sum.inr (some (cm .eql (v2.length : Int) 0))

noncomputable def chunk_Canon_l1 (z : Option Nat) (chunks : List Int) (v2 : List Int) (v3 : Int) : Option (Bool) :=
  loopG z (fun (s : List Int × Int) => chunk_Canon_s1 z chunks s.1 s.2) (v2, v3)

noncomputable def chunk_Canon (z : Option Nat) (chunks : List Int) (count : Int) : Option (Bool) :=
  Option.bind (chunk_Read z chunks count) fun x1 =>
  if (cm .neq x1.2.2 0) then
  some false
else
  chunk_Canon_l1 z chunks x1.1 0

def bytes_Equal (p_a : List Int) (b : List Int) : Bool :=
  (sc .eql (b2s p_a) (b2s b))

def internal_bytealg_Cutover (n : Int) : Int :=
  (dv .quo .i64 (ar .add .i64 n 16) 8)

noncomputable def internal_bytealg_hashStr_j3 (z : Option Nat) (v5 : Int) (v6 : Int) (v7 : Int) : Option (((Int × Int × Int) ⊕ (Int × Int))) :=
  some (Sum.inl (v7, (ar .mul .u32 v5 v5), (sf .shr .i64 v6 1)))

noncomputable def internal_bytealg_hashStr_s2 (z : Option Nat) (v1 : Int) (v4 : Int) (v5 : Int) (v6 : Int) : Option (((Int × Int × Int) ⊕ (Int × Int))) :=
  if (cm .gtr v6 0) then
  if (cm .neq (ar .and .i64 v6 1) 0) then
    internal_bytealg_hashStr_j3 z v5 v6 (ar .mul .u32 v4 v5)
  else
    internal_bytealg_hashStr_j3 z v5 v6 v4
else
  Option.map Sum.inr (some (v1, v4))

noncomputable def internal_bytealg_hashStr_l2 (z : Option Nat) (v1 : Int) (v4 : Int) (v5 : Int) (v6 : Int) : Option (Int × Int) :=
  loopG z (fun (s : Int × Int × Int) => internal_bytealg_hashStr_s2 z v1 s.1 s.2.1 s.2.2) (v4, v5, v6)

noncomputable def internal_bytealg_hashStr_s1 (z : Option Nat) (sep : List Int) (v1 : Int) (v2 : Int) : Option (((Int × Int) ⊕ (Int × Int))) :=
  if (cm .lss v2 (sep.length : Int)) then
  Option.bind (ix sep v2) fun x3 =>
    some (Sum.inl ((ar .add .u32 (ar .mul .u32 v1 16777619) (IntKind.u32.wrap x3)), (ar .add .i64 v2 1)))
else
  Option.map Sum.inr (internal_bytealg_hashStr_l2 z v1 1 16777619 (sep.length : Int))

noncomputable def internal_bytealg_hashStr_l1 (z : Option Nat) (sep : List Int) (v1 : Int) (v2 : Int) : Option (Int × Int) :=
  loopG z (fun (s : Int × Int) => internal_bytealg_hashStr_s1 z sep s.1 s.2) (v1, v2)

noncomputable def internal_bytealg_hashStr (z : Option Nat) (sep : List Int) : Option (Int × Int) :=
  internal_bytealg_hashStr_l1 z sep 0 0

noncomputable def internal_bytealg_IndexRabinKarp_s2 (z : Option Nat) (p_s : List Int) (sep : List Int) (x1 : Int × Int) (v6 : Int) (v7 : Int) : Option (((Int × Int) ⊕ (Int))) :=
  if (cm .lss v7 (p_s.length : Int)) then
  Option.bind (ix p_s v7) fun x8 =>
    Option.bind (ix p_s (ar .sub .i64 v7 (sep.length : Int))) fun x9 =>
    Option.bind (gT (cm .eql (ar .sub .u32 (ar .add .u32 (ar .mul .u32 v6 16777619) (IntKind.u32.wrap x8)) (ar .mul .u32 x1.2 (IntKind.u32.wrap x9))) x1.1) (sub p_s (ar .sub .i64 (ar .add .i64 v7 1) (sep.length : Int)) (ar .add .i64 v7 1))) fun x10 =>
    if ((cm .eql (ar .sub .u32 (ar .add .u32 (ar .mul .u32 v6 16777619) (IntKind.u32.wrap x8)) (ar .mul .u32 x1.2 (IntKind.u32.wrap x9))) x1.1) && (sc .eql (b2s x10) (b2s sep))) then
    Option.map Sum.inr (some (ar .sub .i64 (ar .add .i64 v7 1) (sep.length : Int)))
  else
    some (Sum.inl ((ar .sub .u32 (ar .add .u32 (ar .mul .u32 v6 16777619) (IntKind.u32.wrap x8)) (ar .mul .u32 x1.2 (IntKind.u32.wrap x9))), (ar .add .i64 v7 1)))
else
  Option.map Sum.inr (some (-1))

noncomputable def internal_bytealg_IndexRabinKarp_l2 (z : Option Nat) (p_s : List Int) (sep : List Int) (x1 : Int × Int) (v6 : Int) (v7 : Int) : Option (Int) :=
  loopG z (fun (s : Int × Int) => internal_bytealg_IndexRabinKarp_s2 z p_s sep x1 s.1 s.2) (v6, v7)

noncomputable def internal_bytealg_IndexRabinKarp_s1 (z : Option Nat) (p_s : List Int) (sep : List Int) (x1 : Int × Int) (v2 : Int) (v3 : Int) : Option (((Int × Int) ⊕ (Int))) :=
  if (cm .lss v3 (sep.length : Int)) then
  Option.bind (ix p_s v3) fun x4 =>
    some (Sum.inl ((ar .add .u32 (ar .mul .u32 v2 16777619) (IntKind.u32.wrap x4)), (ar .add .i64 v3 1)))
else
  Option.map Sum.inr (Option.bind (gT (cm .eql v2 x1.1) (sub p_s 0 (sep.length : Int))) fun x5 =>
    if ((cm .eql v2 x1.1) && (sc .eql (b2s x5) (b2s sep))) then
    some 0
  else
    internal_bytealg_IndexRabinKarp_l2 z p_s sep x1 v2 (sep.length : Int))

noncomputable def internal_bytealg_IndexRabinKarp_l1 (z : Option Nat) (p_s : List Int) (sep : List Int) (x1 : Int × Int) (v2 : Int) (v3 : Int) : Option (Int) :=
  loopG z (fun (s : Int × Int) => internal_bytealg_IndexRabinKarp_s1 z p_s sep x1 s.1 s.2) (v2, v3)

noncomputable def internal_bytealg_IndexRabinKarp (z : Option Nat) (p_s : List Int) (sep : List Int) : Option (Int) :=
  Option.bind (internal_bytealg_hashStr z sep) fun x1 =>
  internal_bytealg_IndexRabinKarp_l1 z p_s sep x1 0 0

noncomputable def bytes_Count_s1 (z : Option Nat) (v2 : List Int) (v3 : Int) : Option (((List Int × Int) ⊕ (Int))) :=
  none

noncomputable def bytes_Count_l1 (z : Option Nat) (v2 : List Int) (v3 : Int) : Option (Int) :=
  loopG z (fun (s : List Int × Int) => bytes_Count_s1 z s.1 s.2) (v2, v3)

noncomputable def bytes_Count (z : Option Nat) (p_s : List Int) (sep : List Int) : Option (Int) :=
  if (cm .eql (sep.length : Int) 0) then
  none
else
  if (cm .eql (sep.length : Int) 1) then
    Option.bind (ix sep 0) fun x1 =>
      some (countB p_s x1)
  else
    bytes_Count_l1 z p_s 0

noncomputable def pad_Zero (z : Option Nat) (b : List Int) : Option (Bool) :=
  Option.bind (bytes_Count z b [0]) fun x1 =>
  some (cm .eql x1 (b.length : Int))

noncomputable def arrive_Canon (z : Option Nat) (body : List Int) : Option (Bool) :=
  Option.bind (arrive_read z body) fun x1 =>
  Option.bind (gT (cm .eql x1.2.2.2 0) (chunk_Canon z x1.2.1 (x1.1.seen.length : Int))) fun x2 =>
  Option.bind (gT ((cm .eql x1.2.2.2 0) && x2) (pad_Zero z x1.2.2.1)) fun x3 =>
  some (((cm .eql x1.2.2.2 0) && x2) && x3)

noncomputable def fresh_Canon_s1 (z : Option Nat) (x1 : List Entry × Int) (y1 : List Int) (v3 : Bool) : Option (((Bool) ⊕ (Bool))) :=
  Option.bind (gT (cm .eql x1.2 0) (sub y1 5 (y1.length : Int))) fun x4 =>
  Option.bind (gT (cm .eql x1.2 0) (pad_Zero z x4)) fun x5 =>
  if ((cm .eql x1.2 0) && (!x5)) then
  Option.map Sum.inr (some false)
else
  some (Sum.inl v3)

noncomputable def fresh_Canon_d1 (z : Option Nat) (x1 : List Entry × Int) (v3 : Bool) : Option (Bool) :=
  some (cm .eql x1.2 0)

noncomputable def fresh_Canon_l1 (z : Option Nat) (body : List Int) (x1 : List Entry × Int) (v3 : Bool) : Option (Bool) :=
  foldX (fun (y1 : List Int) (s : Bool) => fresh_Canon_s1 z x1 y1 s) (fun (s : Bool) => fresh_Canon_d1 z x1 s) (chunksL 8 body) (v3)

noncomputable def fresh_Canon (z : Option Nat) (body : List Int) : Option (Bool) :=
  Option.bind (fresh_Read z body) fun x1 =>
  Option.bind (lnO body) fun x2 =>
  fresh_Canon_l1 z body x1 false

noncomputable def remb_Canon (z : Option Nat) (body : List Int) : Option (Bool) :=
  Option.bind (remb_Read z body) fun x1 =>
  if (cm .neq x1.2 0) then
  some false
else
  Option.bind (remb_told z body) fun x2 =>
    some ((cm .eql x2.1 x1.1.exp) && (cm .eql x2.2 x1.1.mant))

noncomputable def feed_Canon (z : Option Nat) (kind : Int) (body : List Int) : Option (Bool) :=
  Option.bind (feed_Read z kind body) fun x1 =>
  if (cm .neq x1.2 0) then
  some false
else
  Option.bind (sub body 8 (body.length : Int)) fun x2 =>
    if (cm .eql kind 2) then
    Option.bind (arrive_Canon z x2) fun x3 =>
      some x3
  else
    if (cm .eql kind 4) then
      Option.bind (fresh_Canon z x2) fun x4 =>
        some x4
    else
      if (cm .eql kind 5) then
        Option.bind (remb_Canon z x2) fun x5 =>
          some x5
      else
        some true

noncomputable def feed_Right (z : Option Nat) (f : Feed) : Option (Bool) :=
  Option.bind (feed_written z f) fun x1 =>
  some x1.2

noncomputable def law20_awake (z : Option Nat)  : Option (Bool) :=
  Option.bind (feed_Write z (Feed.mk 1 1 2 [(Pair.mk 3 4)] (Arrive.mk 0 0 0 []) [] (Rate.mk 0 0 []))) fun x1 =>
  Option.bind (feed_Read z 1 x1.1) fun x2 =>
  Option.bind (feed_Read z 3 x1.1) fun x3 =>
  Option.bind (feed_Write z (Feed.mk 3 1 2 [] (Arrive.mk 0 0 0 []) [] (Rate.mk 0 0 []))) fun x4 =>
  Option.bind (gT (((((((cm .eql x1.2 0) && (cm .eql x2.2 0)) && (cm .eql x3.2 4)) && (cm .eql ((feed_Code 4).2.2) 0)) && (cm .eql x4.2 0)) && (cm .eql ((feed_Code 4).1) 206)) && (cm .eql ((feed_Code 4).2.1) 4)) (feed_Kind z 206 15)) fun x5 =>
  Option.bind (gT ((((((((cm .eql x1.2 0) && (cm .eql x2.2 0)) && (cm .eql x3.2 4)) && (cm .eql ((feed_Code 4).2.2) 0)) && (cm .eql x4.2 0)) && (cm .eql ((feed_Code 4).1) 206)) && (cm .eql ((feed_Code 4).2.1) 4)) && (cm .eql x5 5)) (feed_Kind z 205 2)) fun x6 =>
  Option.bind (gT ((((((((((cm .eql x1.2 0) && (cm .eql x2.2 0)) && (cm .eql x3.2 4)) && (cm .eql ((feed_Code 4).2.2) 0)) && (cm .eql x4.2 0)) && (cm .eql ((feed_Code 4).1) 206)) && (cm .eql ((feed_Code 4).2.1) 4)) && (cm .eql x5 5)) && (cm .eql x6 0)) && (sc .eql (b2s x1.1) ([0, 0, 0, 1, 0, 0, 0, 2, 0, 3, 0, 4] : List UInt8))) (sub x1.1 0 8)) fun x7 =>
  Option.bind (gT (((((((((((((cm .eql x1.2 0) && (cm .eql x2.2 0)) && (cm .eql x3.2 4)) && (cm .eql ((feed_Code 4).2.2) 0)) && (cm .eql x4.2 0)) && (cm .eql ((feed_Code 4).1) 206)) && (cm .eql ((feed_Code 4).2.1) 4)) && (cm .eql x5 5)) && (cm .eql x6 0)) && (sc .eql (b2s x1.1) ([0, 0, 0, 1, 0, 0, 0, 2, 0, 3, 0, 4] : List UInt8))) && (sc .eql (b2s x4.1) (b2s x7))) && (cm .eql x2.1.of 2)) && (cm .eql (x2.1.pairs.length : Int) 1)) (ix x2.1.pairs 0)) fun x8 =>
  Option.bind (gT ((((((((((((((cm .eql x1.2 0) && (cm .eql x2.2 0)) && (cm .eql x3.2 4)) && (cm .eql ((feed_Code 4).2.2) 0)) && (cm .eql x4.2 0)) && (cm .eql ((feed_Code 4).1) 206)) && (cm .eql ((feed_Code 4).2.1) 4)) && (cm .eql x5 5)) && (cm .eql x6 0)) && (sc .eql (b2s x1.1) ([0, 0, 0, 1, 0, 0, 0, 2, 0, 3, 0, 4] : List UInt8))) && (sc .eql (b2s x4.1) (b2s x7))) && (cm .eql x2.1.of 2)) && (cm .eql (x2.1.pairs.length : Int) 1)) && (cm .eql x8.mask 4)) (feed_Canon z 1 x1.1)) fun x9 =>
  Option.bind (gT (((((((((((((((cm .eql x1.2 0) && (cm .eql x2.2 0)) && (cm .eql x3.2 4)) && (cm .eql ((feed_Code 4).2.2) 0)) && (cm .eql x4.2 0)) && (cm .eql ((feed_Code 4).1) 206)) && (cm .eql ((feed_Code 4).2.1) 4)) && (cm .eql x5 5)) && (cm .eql x6 0)) && (sc .eql (b2s x1.1) ([0, 0, 0, 1, 0, 0, 0, 2, 0, 3, 0, 4] : List UInt8))) && (sc .eql (b2s x4.1) (b2s x7))) && (cm .eql x2.1.of 2)) && (cm .eql (x2.1.pairs.length : Int) 1)) && (cm .eql x8.mask 4)) && x9) (feed_Right z x2.1)) fun x10 =>
  some ((((((((((((((((cm .eql x1.2 0) && (cm .eql x2.2 0)) && (cm .eql x3.2 4)) && (cm .eql ((feed_Code 4).2.2) 0)) && (cm .eql x4.2 0)) && (cm .eql ((feed_Code 4).1) 206)) && (cm .eql ((feed_Code 4).2.1) 4)) && (cm .eql x5 5)) && (cm .eql x6 0)) && (sc .eql (b2s x1.1) ([0, 0, 0, 1, 0, 0, 0, 2, 0, 3, 0, 4] : List UInt8))) && (sc .eql (b2s x4.1) (b2s x7))) && (cm .eql x2.1.of 2)) && (cm .eql (x2.1.pairs.length : Int) 1)) && (cm .eql x8.mask 4)) && x9) && x10)

def ref20_Short (f : Feed) : Bool :=
  ((((cm .leq (f.pairs.length : Int) 20000) && (cm .leq (f.entries.length : Int) 10000)) && (cm .leq (f.rate.srcs.length : Int) 999)) && (cm .leq (f.arrive.seen.length : Int) 5000))

def ref20_Code (kind : Int) : Option (Int × Int) :=
  if ((cm .lss kind 1) || (cm .gtr kind 5)) then
  some (0, 0)
else
  Option.bind (ix [0, 205, 205, 206, 206, 206] kind) fun x1 =>
    Option.bind (ix [0, 1, 15, 1, 4, 15] kind) fun x2 =>
    some (x1, x2)

def ref20_Kind (kind : Int) (count : Int) : Int :=
  if ((cm .eql kind 205) && (cm .eql count 1)) then
  1
else
  if ((cm .eql kind 205) && (cm .eql count 15)) then
    2
  else
    if ((cm .eql kind 206) && (cm .eql count 1)) then
      3
    else
      if ((cm .eql kind 206) && (cm .eql count 4)) then
        4
      else
        if ((cm .eql kind 206) && (cm .eql count 15)) then
          5
        else
          0

noncomputable def ref19_Same_s1 (z : Option Nat) (p_a : Arrive) (b : Arrive) (v1 : Int) : Option (((Int) ⊕ (Bool))) :=
  if (cm .lss v1 (p_a.seen.length : Int)) then
  Option.bind (ix p_a.seen v1) fun x2 =>
    Option.bind (ix b.seen v1) fun x3 =>
    if (!(x2.what == x3.what && (x2.delta == x3.delta && true))) then
    Option.map Sum.inr (some false)
  else
    some (Sum.inl (ar .add .i64 v1 1))
else
  Option.map Sum.inr (some true)

noncomputable def ref19_Same_l1 (z : Option Nat) (p_a : Arrive) (b : Arrive) (v1 : Int) : Option (Bool) :=
  loopG z (fun (s : Int) => ref19_Same_s1 z p_a b s) (v1)

noncomputable def ref19_Same (z : Option Nat) (p_a : Arrive) (b : Arrive) : Option (Bool) :=
  if ((((cm .neq p_a.base b.base) || (cm .neq p_a.time b.time)) || (cm .neq p_a.count b.count)) || (cm .neq (p_a.seen.length : Int) (b.seen.length : Int))) then
  some false
else
  ref19_Same_l1 z p_a b 0

noncomputable def ref05_Numbers_s1 (z : Option Nat) (p_a : List Int) (b : List Int) (v1 : Int) : Option (((Int) ⊕ (Bool))) :=
  if (cm .lss v1 (p_a.length : Int)) then
  Option.bind (ix p_a v1) fun x2 =>
    Option.bind (ix b v1) fun x3 =>
    if (cm .neq x2 x3) then
    Option.map Sum.inr (some false)
  else
    some (Sum.inl (ar .add .i64 v1 1))
else
  Option.map Sum.inr (some true)

noncomputable def ref05_Numbers_l1 (z : Option Nat) (p_a : List Int) (b : List Int) (v1 : Int) : Option (Bool) :=
  loopG z (fun (s : Int) => ref05_Numbers_s1 z p_a b s) (v1)

noncomputable def ref05_Numbers (z : Option Nat) (p_a : List Int) (b : List Int) : Option (Bool) :=
  if (cm .neq (p_a.length : Int) (b.length : Int)) then
  some false
else
  ref05_Numbers_l1 z p_a b 0

noncomputable def ref17_Same (z : Option Nat) (p_a : Rate) (b : Rate) : Option (Bool) :=
  Option.bind (gT ((cm .eql p_a.exp b.exp) && (cm .eql p_a.mant b.mant)) (ref05_Numbers z p_a.srcs b.srcs)) fun x1 =>
  some (((cm .eql p_a.exp b.exp) && (cm .eql p_a.mant b.mant)) && x1)

noncomputable def ref19_Right_j3 (z : Option Nat) (v1 : Int) (x2 : Seen) (v4 : Int) (v5 : Int) : Option (((Int) ⊕ (Bool))) :=
  if ((((cm .lss x2.what 0) || (cm .gtr x2.what 2)) || (cm .lss x2.delta v4)) || (cm .gtr x2.delta v5)) then
  Option.map Sum.inr (some false)
else
  some (Sum.inl (ar .add .i64 v1 1))

noncomputable def ref19_Right_j2 (z : Option Nat) (v1 : Int) (x2 : Seen) (v3 : Int) : Option (((Int) ⊕ (Bool))) :=
  if (cm .eql x2.what 2) then
  ref19_Right_j3 z v1 x2 (-32768) 32767
else
  ref19_Right_j3 z v1 x2 0 v3

noncomputable def ref19_Right_s1 (z : Option Nat) (p_a : Arrive) (v1 : Int) : Option (((Int) ⊕ (Bool))) :=
  if (cm .lss v1 (p_a.seen.length : Int)) then
  Option.bind (ix p_a.seen v1) fun x2 =>
    if (cm .eql x2.what 1) then
    ref19_Right_j2 z v1 x2 255
  else
    ref19_Right_j2 z v1 x2 0
else
  Option.map Sum.inr (some true)

noncomputable def ref19_Right_l1 (z : Option Nat) (p_a : Arrive) (v1 : Int) : Option (Bool) :=
  loopG z (fun (s : Int) => ref19_Right_s1 z p_a s) (v1)

noncomputable def ref19_Right (z : Option Nat) (p_a : Arrive) : Option (Bool) :=
  if (((cm .lss p_a.time (-8388608)) || (cm .gtr p_a.time 8388607)) || (cm .gtr (p_a.seen.length : Int) 4000)) then
  some false
else
  ref19_Right_l1 z p_a 0

def ref17_Right (p_r : Rate) : Bool :=
  if ((((cm .lss p_r.exp 0) || (cm .gtr p_r.exp 63)) || (cm .geq p_r.mant 262144)) || (cm .gtr (p_r.srcs.length : Int) 255)) then
  false
else
  ((cm .eql p_r.exp 0) || (cm .geq p_r.mant 131072))

noncomputable def ref20_Right (z : Option Nat) (f : Feed) : Option (Bool) :=
  if ((cm .lss f.kind 1) || (cm .gtr f.kind 5)) then
  some false
else
  if (((cm .neq f.kind 1) && (cm .gtr (f.pairs.length : Int) 0)) || ((cm .neq f.kind 4) && (cm .gtr (f.entries.length : Int) 0))) then
    some false
  else
    Option.bind (gT (cm .neq f.kind 2) (ref19_Same z f.arrive (Arrive.mk 0 0 0 []))) fun x1 =>
      Option.bind (gT ((!((cm .neq f.kind 2) && (!x1))) && (cm .neq f.kind 5)) (ref17_Same z f.rate (Rate.mk 0 0 []))) fun x2 =>
      if (((cm .neq f.kind 2) && (!x1)) || ((cm .neq f.kind 5) && (!x2))) then
      some false
    else
      if (cm .eql f.kind 1) then
        some ((cm .geq (f.pairs.length : Int) 1) && (cm .leq (f.pairs.length : Int) 16380))
      else
        if (cm .eql f.kind 2) then
          Option.bind (ref19_Right z f.arrive) fun x3 =>
            some x3
        else
          if (cm .eql f.kind 4) then
            some ((cm .geq (f.entries.length : Int) 1) && (cm .leq (f.entries.length : Int) 8190))
          else
            if (cm .eql f.kind 5) then
              some (ref17_Right f.rate)
            else
              some true

noncomputable def ref01_Put_s1 (z : Option Nat) (n : Int) (v2 : Int) (v3 : List Int) (v4 : Int) : Option (((Int × List Int × Int) ⊕ (List Int × Int))) :=
  if (cm .lss v4 n) then
  Option.bind (ix v3 (ar .sub .i64 (ar .sub .i64 n 1) v4)) fun x5 =>
    some (Sum.inl ((dv .quo .u64 v2 256), (List.set v3 ((ar .sub .i64 (ar .sub .i64 n 1) v4) : Int).toNat (IntKind.u8.wrap (dv .rem .u64 v2 256))), (ar .add .i64 v4 1)))
else
  Option.map Sum.inr (if (cm .gtr v2 0) then
    some ([], 6)
  else
    some (v3, 0))

noncomputable def ref01_Put_l1 (z : Option Nat) (n : Int) (v2 : Int) (v3 : List Int) (v4 : Int) : Option (List Int × Int) :=
  loopG z (fun (s : Int × List Int × Int) => ref01_Put_s1 z n s.1 s.2.1 s.2.2) (v2, v3, v4)

noncomputable def ref01_Put (z : Option Nat) (v : Int) (n : Int) : Option (List Int × Int) :=
  if ((cm .lss n 1) || (cm .gtr n 8)) then
  some ([], 1)
else
  Option.bind (mkL (0 : Int) n n) fun x1 =>
    ref01_Put_l1 z n v x1 0

noncomputable def ref01_Must (z : Option Nat) (v : Int) (n : Int) : Option (List Int) :=
  Option.bind (ref01_Put z v n) fun x1 =>
  some x1.1

noncomputable def ref15_Write_s1 (z : Option Nat) (l : List Pair) (v1 : List Int) (v2 : Int) : Option (((List Int × Int) ⊕ (List Int))) :=
  if (cm .lss v2 (l.length : Int)) then
  Option.bind (ix l v2) fun x3 =>
    Option.bind (ix l v2) fun x4 =>
    Option.bind (ix l v2) fun x5 =>
    Option.bind (ix l v2) fun x6 =>
    Option.bind (app v1 [(IntKind.u8.wrap (dv .quo .u16 x3.pid 256)), (IntKind.u8.wrap (dv .rem .u16 x4.pid 256)), (IntKind.u8.wrap (dv .quo .u16 x5.mask 256)), (IntKind.u8.wrap (dv .rem .u16 x6.mask 256))]) fun x7 =>
    some (Sum.inl (x7, (ar .add .i64 v2 1)))
else
  Option.map Sum.inr (some v1)

noncomputable def ref15_Write_l1 (z : Option Nat) (l : List Pair) (v1 : List Int) (v2 : Int) : Option (List Int) :=
  loopG z (fun (s : List Int × Int) => ref15_Write_s1 z l s.1 s.2) (v1, v2)

noncomputable def ref15_Write (z : Option Nat) (l : List Pair) : Option (List Int) :=
  ref15_Write_l1 z l [] 0

noncomputable def ref01_PutSigned_j2 (z : Option Nat) (n : Int) (v4 : Int) : Option (List Int × Int) :=
  Option.bind (ref01_Put z (IntKind.u64.wrap v4) n) fun x5 =>
  some (x5.1, x5.2)

noncomputable def ref01_PutSigned_s1 (z : Option Nat) (v : Int) (n : Int) (v2 : Int) (v3 : Int) : Option (((Int × Int) ⊕ (List Int × Int))) :=
  if (cm .lss v3 n) then
  some (Sum.inl ((ar .mul .i64 v2 256), (ar .add .i64 v3 1)))
else
  Option.map Sum.inr (if ((cm .lss v (ar .sub .i64 0 (dv .quo .i64 v2 2))) || (cm .geq v (dv .quo .i64 v2 2))) then
    some ([], 6)
  else
    if (cm .lss v 0) then
      ref01_PutSigned_j2 z n (ar .add .i64 v v2)
    else
      ref01_PutSigned_j2 z n v)

noncomputable def ref01_PutSigned_l1 (z : Option Nat) (v : Int) (n : Int) (v2 : Int) (v3 : Int) : Option (List Int × Int) :=
  loopG z (fun (s : Int × Int) => ref01_PutSigned_s1 z v n s.1 s.2) (v2, v3)

noncomputable def ref01_PutSigned (z : Option Nat) (v : Int) (n : Int) : Option (List Int × Int) :=
  if ((cm .lss n 1) || (cm .gtr n 8)) then
  some ([], 1)
else
  if (cm .eql n 8) then
    Option.bind (ref01_Put z (IntKind.u64.wrap v) 8) fun x1 =>
      some (x1.1, x1.2)
  else
    ref01_PutSigned_l1 z v n 1 0

noncomputable def ref18_Write_j6 (z : Option Nat) (v15 : Int) (v16 : Int) : Option (((Int × Int) ⊕ (((List Int × Int) ⊕ (List Int))))) :=
  some (Sum.inl (v16, (ar .add .i64 v15 1)))

noncomputable def ref18_Write_s5 (z : Option Nat) (l : List Int) (v1 : List Int) (v2 : Int) (v11 : Int) (v12 : Int) (v14 : Int) (v15 : Int) : Option (((Int × Int) ⊕ (((List Int × Int) ⊕ (List Int))))) :=
  if (cm .lss v15 (ar .add .i64 v2 v11)) then
  if (cm .lss v15 (l.length : Int)) then
    Option.bind (ix l v15) fun x17 =>
      ref18_Write_j6 z v15 (ar .add .i64 (ar .mul .i64 v12 v14) x17)
  else
    ref18_Write_j6 z v15 (ar .mul .i64 v12 v14)
else
  Option.map Sum.inr (Option.bind (app v1 [(IntKind.u16.wrap v14)]) fun x18 =>
    some (Sum.inl (x18, (ar .add .i64 v2 v11))))

noncomputable def ref18_Write_l5 (z : Option Nat) (l : List Int) (v1 : List Int) (v2 : Int) (v11 : Int) (v12 : Int) (v14 : Int) (v15 : Int) : Option (((List Int × Int) ⊕ (List Int))) :=
  loopG z (fun (s : Int × Int) => ref18_Write_s5 z l v1 v2 v11 v12 s.1 s.2) (v14, v15)

noncomputable def ref18_Write_j4 (z : Option Nat) (l : List Int) (v1 : List Int) (v2 : Int) (v11 : Int) (v12 : Int) (v13 : Int) : Option (((List Int × Int) ⊕ (List Int))) :=
  ref18_Write_l5 z l v1 v2 v11 v12 v13 v2

noncomputable def ref18_Write_s3 (z : Option Nat) (l : List Int) (v1 : List Int) (v2 : Int) (v8 : Bool) (v9 : Int) : Option (((Bool × Int) ⊕ (((List Int × Int) ⊕ (List Int))))) :=
  if ((cm .lss v9 (ar .add .i64 v2 14)) && (cm .lss v9 (l.length : Int))) then
  Option.bind (gT v8 (ix l v9)) fun x10 =>
    some (Sum.inl ((v8 && (cm .lss x10 2)), (ar .add .i64 v9 1)))
else
  Option.map Sum.inr (if v8 then
    ref18_Write_j4 z l v1 v2 14 2 2
  else
    ref18_Write_j4 z l v1 v2 7 4 3)

noncomputable def ref18_Write_l3 (z : Option Nat) (l : List Int) (v1 : List Int) (v2 : Int) (v8 : Bool) (v9 : Int) : Option (((List Int × Int) ⊕ (List Int))) :=
  loopG z (fun (s : Bool × Int) => ref18_Write_s3 z l v1 v2 s.1 s.2) (v8, v9)

noncomputable def ref18_Write_s2 (z : Option Nat) (l : List Int) (v1 : List Int) (v2 : Int) (v3 : Int) : Option (((Int) ⊕ (((List Int × Int) ⊕ (List Int))))) :=
  Option.bind (gT (cm .lss (ar .add .i64 v2 v3) (l.length : Int)) (ix l (ar .add .i64 v2 v3))) fun x4 =>
  Option.bind (gT (cm .lss (ar .add .i64 v2 v3) (l.length : Int)) (ix l v2)) fun x5 =>
  if (((cm .lss (ar .add .i64 v2 v3) (l.length : Int)) && (cm .eql x4 x5)) && (cm .lss v3 8191)) then
  some (Sum.inl (ar .add .i64 v3 1))
else
  Option.map Sum.inr (if ((cm .geq v3 14) || (cm .eql (ar .add .i64 v2 v3) (l.length : Int))) then
    Option.bind (ix l v2) fun x6 =>
      Option.bind (app v1 [(IntKind.u16.wrap (ar .add .i64 (ar .mul .i64 8192 x6) v3))]) fun x7 =>
      some (Sum.inl (x7, (ar .add .i64 v2 v3)))
  else
    ref18_Write_l3 z l v1 v2 true v2)

noncomputable def ref18_Write_l2 (z : Option Nat) (l : List Int) (v1 : List Int) (v2 : Int) (v3 : Int) : Option (((List Int × Int) ⊕ (List Int))) :=
  loopG z (fun (s : Int) => ref18_Write_s2 z l v1 v2 s) (v3)

noncomputable def ref18_Write_s1 (z : Option Nat) (l : List Int) (v1 : List Int) (v2 : Int) : Option (((List Int × Int) ⊕ (List Int))) :=
  if (cm .lss v2 (l.length : Int)) then
  ref18_Write_l2 z l v1 v2 1
else
  Option.map Sum.inr (some v1)

noncomputable def ref18_Write_l1 (z : Option Nat) (l : List Int) (v1 : List Int) (v2 : Int) : Option (List Int) :=
  loopG z (fun (s : List Int × Int) => ref18_Write_s1 z l s.1 s.2) (v1, v2)

noncomputable def ref18_Write (z : Option Nat) (l : List Int) : Option (List Int) :=
  ref18_Write_l1 z l [] 0

noncomputable def ref03_Fill_s1 (z : Option Nat) (v2 : List Int) : Option (((List Int) ⊕ (List Int))) :=
  if (cm .neq (dv .rem .i64 (v2.length : Int) 4) 0) then
  Option.bind (app v2 [0]) fun x3 =>
    some (Sum.inl x3)
else
  Option.map Sum.inr (some v2)

noncomputable def ref03_Fill_l1 (z : Option Nat) (v2 : List Int) : Option (List Int) :=
  loopG z (fun (s : List Int) => ref03_Fill_s1 z s) (v2)

noncomputable def ref03_Fill (z : Option Nat) (b : List Int) : Option (List Int) :=
  Option.bind (app ([] : List Int) b) fun x1 =>
  ref03_Fill_l1 z x1

noncomputable def ref19_Write_j2 (z : Option Nat) (v9 : Int) (x12 : List Int) (v14 : List Int) (v15 : Arrive) : Option (((List Int × List Int × Int × Arrive) ⊕ (List Int))) :=
  some (Sum.inl (x12, v14, (ar .add .i64 v9 1), v15))

noncomputable def ref19_Write_s3 (z : Option Nat) (v8 : List Int) (x21 : List Int) (v22 : List Int) (v23 : Int) : Option (((List Int × Int) ⊕ (List Int))) :=
  if (cm .lss v23 (x21.length : Int)) then
  Option.bind (ix x21 v23) fun x24 =>
    Option.bind (ref01_Must z (IntKind.u64.wrap x24) 2) fun x25 =>
    Option.bind (app v22 x25) fun x26 =>
    some (Sum.inl (x26, (ar .add .i64 v23 1)))
else
  Option.map Sum.inr (Option.bind (app v22 v8) fun x27 =>
    Option.bind (ref03_Fill z x27) fun x28 =>
    some x28)

noncomputable def ref19_Write_l3 (z : Option Nat) (v8 : List Int) (x21 : List Int) (v22 : List Int) (v23 : Int) : Option (List Int) :=
  loopG z (fun (s : List Int × Int) => ref19_Write_s3 z v8 x21 s.1 s.2) (v22, v23)

noncomputable def ref19_Write_s1 (z : Option Nat) (x6 : List Int) (v7 : List Int) (v8 : List Int) (v9 : Int) (v10 : Arrive) : Option (((List Int × List Int × Int × Arrive) ⊕ (List Int))) :=
  if (cm .lss v9 (v10.seen.length : Int)) then
  Option.bind (ix v10.seen v9) fun x11 =>
    Option.bind (app v7 [x11.what]) fun x12 =>
    Option.bind (ix v10.seen v9) fun x13 =>
    if (cm .gtr x13.what 0) then
    Option.bind (ix v10.seen v9) fun x16 =>
      Option.bind (ref01_PutSigned z x16.delta 4) fun x17 =>
      Option.bind (ix v10.seen v9) fun x18 =>
      Option.bind (sub x17.1 (ar .sub .i64 4 x18.what) (x17.1.length : Int)) fun x19 =>
      Option.bind (app v8 x19) fun x20 =>
      ref19_Write_j2 z v9 x12 x20 v10
  else
    ref19_Write_j2 z v9 x12 v8 v10
else
  Option.map Sum.inr (Option.bind (ref18_Write z v7) fun x21 =>
    ref19_Write_l3 z v8 x21 x6 0)

noncomputable def ref19_Write_l1 (z : Option Nat) (x6 : List Int) (v7 : List Int) (v8 : List Int) (v9 : Int) (v10 : Arrive) : Option (List Int) :=
  loopG z (fun (s : List Int × List Int × Int × Arrive) => ref19_Write_s1 z x6 s.1 s.2.1 s.2.2.1 s.2.2.2) (v7, v8, v9, v10)

noncomputable def ref19_Write (z : Option Nat) (p_a : Arrive) : Option (List Int) :=
  Option.bind (ref01_Must z (IntKind.u64.wrap p_a.base) 2) fun x1 =>
  Option.bind (ref01_Must z (IntKind.u64.wrap (p_a.seen.length : Int)) 2) fun x2 =>
  Option.bind (app x1 x2) fun x3 =>
  Option.bind (ref01_PutSigned z p_a.time 3) fun x4 =>
  Option.bind (app x3 x4.1) fun x5 =>
  Option.bind (app x5 [p_a.count]) fun x6 =>
  ref19_Write_l1 z x6 [] [] 0 p_a

noncomputable def ref16_Write_s1 (z : Option Nat) (l : List Entry) (v1 : List Int) (v2 : Int) : Option (((List Int × Int) ⊕ (List Int))) :=
  if (cm .lss v2 (l.length : Int)) then
  Option.bind (ix l v2) fun x3 =>
    Option.bind (ref01_Must z (IntKind.u64.wrap x3.ssrc) 4) fun x4 =>
    Option.bind (app v1 x4) fun x5 =>
    Option.bind (ix l v2) fun x6 =>
    Option.bind (app x5 [x6.seq, 0, 0, 0]) fun x7 =>
    some (Sum.inl (x7, (ar .add .i64 v2 1)))
else
  Option.map Sum.inr (some v1)

noncomputable def ref16_Write_l1 (z : Option Nat) (l : List Entry) (v1 : List Int) (v2 : Int) : Option (List Int) :=
  loopG z (fun (s : List Int × Int) => ref16_Write_s1 z l s.1 s.2) (v1, v2)

noncomputable def ref16_Write (z : Option Nat) (l : List Entry) : Option (List Int) :=
  ref16_Write_l1 z l [] 0

noncomputable def ref17_Write_s1 (z : Option Nat) (p_r : Rate) (v3 : List Int) (v4 : Int) : Option (((List Int × Int) ⊕ (List Int))) :=
  if (cm .lss v4 (p_r.srcs.length : Int)) then
  Option.bind (ix p_r.srcs v4) fun x5 =>
    Option.bind (ref01_Must z (IntKind.u64.wrap x5) 4) fun x6 =>
    Option.bind (app v3 x6) fun x7 =>
    some (Sum.inl (x7, (ar .add .i64 v4 1)))
else
  Option.map Sum.inr (some v3)

noncomputable def ref17_Write_l1 (z : Option Nat) (p_r : Rate) (v3 : List Int) (v4 : Int) : Option (List Int) :=
  loopG z (fun (s : List Int × Int) => ref17_Write_s1 z p_r s.1 s.2) (v3, v4)

noncomputable def ref17_Write (z : Option Nat) (p_r : Rate) : Option (List Int) :=
  Option.bind (ref01_Must z (ar .add .u64 (ar .mul .u64 262144 (IntKind.u64.wrap p_r.exp)) (IntKind.u64.wrap p_r.mant)) 3) fun x1 =>
  Option.bind (app [82, 69, 77, 66, (IntKind.u8.wrap (p_r.srcs.length : Int))] x1) fun x2 =>
  ref17_Write_l1 z p_r x2 0

noncomputable def ref20_Write (z : Option Nat) (f : Feed) : Option (List Int) :=
  Option.bind (ref01_Must z (IntKind.u64.wrap f.from_) 4) fun x1 =>
  Option.bind (ref01_Must z (IntKind.u64.wrap f.of) 4) fun x2 =>
  Option.bind (app x1 x2) fun x3 =>
  if (cm .eql f.kind 1) then
  Option.bind (ref15_Write z f.pairs) fun x4 =>
    Option.bind (app x3 x4) fun x5 =>
    some x5
else
  if (cm .eql f.kind 2) then
    Option.bind (ref19_Write z f.arrive) fun x6 =>
      Option.bind (app x3 x6) fun x7 =>
      some x7
  else
    if (cm .eql f.kind 4) then
      Option.bind (ref16_Write z f.entries) fun x8 =>
        Option.bind (app x3 x8) fun x9 =>
        some x9
    else
      if (cm .eql f.kind 5) then
        Option.bind (ref17_Write z f.rate) fun x10 =>
          Option.bind (app x3 x10) fun x11 =>
          some x11
      else
        some x3

noncomputable def ref01_Get_s1 (z : Option Nat) (b : List Int) (at_ : Int) (n : Int) (v1 : Int) (v2 : Int) : Option (((Int × Int) ⊕ (Int × Int))) :=
  if (cm .lss v2 n) then
  Option.bind (ix b (ar .add .i64 at_ v2)) fun x3 =>
    some (Sum.inl ((ar .add .u64 (ar .mul .u64 256 v1) (IntKind.u64.wrap x3)), (ar .add .i64 v2 1)))
else
  Option.map Sum.inr (some (v1, 0))

noncomputable def ref01_Get_l1 (z : Option Nat) (b : List Int) (at_ : Int) (n : Int) (v1 : Int) (v2 : Int) : Option (Int × Int) :=
  loopG z (fun (s : Int × Int) => ref01_Get_s1 z b at_ n s.1 s.2) (v1, v2)

noncomputable def ref01_Get (z : Option Nat) (b : List Int) (at_ : Int) (n : Int) : Option (Int × Int) :=
  if (((cm .lss n 1) || (cm .gtr n 8)) || (cm .lss at_ 0)) then
  some (0, 1)
else
  if ((cm .gtr at_ (b.length : Int)) || (cm .lss (ar .sub .i64 (b.length : Int) at_) n)) then
    some (0, 2)
  else
    ref01_Get_l1 z b at_ n 0 0

noncomputable def ref05_Num (z : Option Nat) (b : List Int) (at_ : Int) (n : Int) : Option (Int) :=
  Option.bind (ref01_Get z b at_ n) fun x1 =>
  some (IntKind.u32.wrap x1.1)

noncomputable def ref15_Read_s1 (z : Option Nat) (b : List Int) (v1 : List Pair) (v2 : Int) : Option (((List Pair × Int) ⊕ (List Pair × Int))) :=
  if (cm .lss v2 (b.length : Int)) then
  Option.bind (ix b v2) fun x3 =>
    Option.bind (ix b (ar .add .i64 v2 1)) fun x4 =>
    Option.bind (ix b (ar .add .i64 v2 2)) fun x5 =>
    Option.bind (ix b (ar .add .i64 v2 3)) fun x6 =>
    Option.bind (app v1 [(Pair.mk (ar .add .u16 (ar .mul .u16 256 (IntKind.u16.wrap x3)) (IntKind.u16.wrap x4)) (ar .add .u16 (ar .mul .u16 256 (IntKind.u16.wrap x5)) (IntKind.u16.wrap x6)))]) fun x7 =>
    some (Sum.inl (x7, (ar .add .i64 v2 4)))
else
  Option.map Sum.inr (some (v1, 0))

noncomputable def ref15_Read_l1 (z : Option Nat) (b : List Int) (v1 : List Pair) (v2 : Int) : Option (List Pair × Int) :=
  loopG z (fun (s : List Pair × Int) => ref15_Read_s1 z b s.1 s.2) (v1, v2)

noncomputable def ref15_Read (z : Option Nat) (b : List Int) : Option (List Pair × Int) :=
  if ((cm .gtr (b.length : Int) 65520) || (cm .neq (dv .rem .i64 (b.length : Int) 4) 0)) then
  some ([], 4)
else
  if (cm .eql (b.length : Int) 0) then
    some ([], 2)
  else
    ref15_Read_l1 z b [] 0

noncomputable def ref18_Told_j1 (z : Option Nat) (v1 : List Int) : Option (List Int) :=
  some v1

noncomputable def ref18_Told_s2 (z : Option Nat) (c : Int) (most : Int) (v2 : List Int) (v3 : Int) : Option (((List Int × Int) ⊕ (List Int))) :=
  if ((cm .lss v3 (dv .rem .i64 (IntKind.i64.wrap c) 8192)) && (cm .lss v3 most)) then
  Option.bind (app v2 [(dv .quo .i64 (IntKind.i64.wrap c) 8192)]) fun x4 =>
    some (Sum.inl (x4, (ar .add .i64 v3 1)))
else
  Option.map Sum.inr (ref18_Told_j1 z v2)

noncomputable def ref18_Told_l2 (z : Option Nat) (c : Int) (most : Int) (v2 : List Int) (v3 : Int) : Option (List Int) :=
  loopG z (fun (s : List Int × Int) => ref18_Told_s2 z c most s.1 s.2) (v2, v3)

noncomputable def ref18_Told_s3 (z : Option Nat) (c : Int) (most : Int) (v5 : List Int) (v6 : Int) (v7 : Int) : Option (((List Int × Int × Int) ⊕ (List Int))) :=
  if ((cm .lss v7 14) && (cm .lss v7 most)) then
  Option.bind (dvO .quo .i64 (IntKind.i64.wrap c) v6) fun x8 =>
    Option.bind (app v5 [(dv .rem .i64 x8 2)]) fun x9 =>
    some (Sum.inl (x9, (dv .quo .i64 v6 2), (ar .add .i64 v7 1)))
else
  Option.map Sum.inr (ref18_Told_j1 z v5)

noncomputable def ref18_Told_l3 (z : Option Nat) (c : Int) (most : Int) (v5 : List Int) (v6 : Int) (v7 : Int) : Option (List Int) :=
  loopG z (fun (s : List Int × Int × Int) => ref18_Told_s3 z c most s.1 s.2.1 s.2.2) (v5, v6, v7)

noncomputable def ref18_Told_s4 (z : Option Nat) (c : Int) (most : Int) (v10 : List Int) (v11 : Int) (v12 : Int) : Option (((List Int × Int × Int) ⊕ (List Int))) :=
  if ((cm .lss v12 7) && (cm .lss v12 most)) then
  Option.bind (dvO .quo .i64 (IntKind.i64.wrap c) v11) fun x13 =>
    Option.bind (app v10 [(dv .rem .i64 x13 4)]) fun x14 =>
    some (Sum.inl (x14, (dv .quo .i64 v11 4), (ar .add .i64 v12 1)))
else
  Option.map Sum.inr (ref18_Told_j1 z v10)

noncomputable def ref18_Told_l4 (z : Option Nat) (c : Int) (most : Int) (v10 : List Int) (v11 : Int) (v12 : Int) : Option (List Int) :=
  loopG z (fun (s : List Int × Int × Int) => ref18_Told_s4 z c most s.1 s.2.1 s.2.2) (v10, v11, v12)

noncomputable def ref18_Told (z : Option Nat) (c : Int) (most : Int) : Option (List Int) :=
  if (cm .lss (IntKind.i64.wrap c) 32768) then
  ref18_Told_l2 z c most [] 0
else
  if (cm .lss (IntKind.i64.wrap c) 49152) then
    ref18_Told_l3 z c most [] 8192 0
  else
    ref18_Told_l4 z c most [] 4096 0

noncomputable def ref18_Read_s2 (z : Option Nat) (v1 : List Int) (v2 : Int) (x4 : List Int) (v5 : Int) : Option (((Int) ⊕ (((List Int × Int) ⊕ (List Int × Int × Int))))) :=
  if (cm .lss v5 (x4.length : Int)) then
  Option.bind (ix x4 v5) fun x6 =>
    if (cm .eql x6 3) then
    Option.map Sum.inr (Option.map Sum.inr (some ([], 0, 6)))
  else
    some (Sum.inl (ar .add .i64 v5 1))
else
  Option.map Sum.inr (Option.bind (app v1 x4) fun x7 =>
    some (Sum.inl (x7, (ar .add .i64 v2 1))))

noncomputable def ref18_Read_l2 (z : Option Nat) (v1 : List Int) (v2 : Int) (x4 : List Int) (v5 : Int) : Option (((List Int × Int) ⊕ (List Int × Int × Int))) :=
  loopG z (fun (s : Int) => ref18_Read_s2 z v1 v2 x4 s) (v5)

noncomputable def ref18_Read_s1 (z : Option Nat) (chunks : List Int) (count : Int) (v1 : List Int) (v2 : Int) : Option (((List Int × Int) ⊕ (List Int × Int × Int))) :=
  if (cm .lss (v1.length : Int) count) then
  if (cm .geq v2 (chunks.length : Int)) then
    Option.map Sum.inr (some ([], 0, 2))
  else
    Option.bind (ix chunks v2) fun x3 =>
      Option.bind (ref18_Told z x3 (ar .sub .i64 count (v1.length : Int))) fun x4 =>
      ref18_Read_l2 z v1 v2 x4 0
else
  Option.map Sum.inr (some (v1, v2, 0))

noncomputable def ref18_Read_l1 (z : Option Nat) (chunks : List Int) (count : Int) (v1 : List Int) (v2 : Int) : Option (List Int × Int × Int) :=
  loopG z (fun (s : List Int × Int) => ref18_Read_s1 z chunks count s.1 s.2) (v1, v2)

noncomputable def ref18_Read (z : Option Nat) (chunks : List Int) (count : Int) : Option (List Int × Int × Int) :=
  if ((cm .lss count 0) || (cm .gtr count 4000)) then
  some ([], 0, 1)
else
  ref18_Read_l1 z chunks count [] 0

noncomputable def ref01_Signed_s1 (z : Option Nat) (n : Int) (x1 : Int × Int) (v2 : Int) (v3 : Int) : Option (((Int × Int) ⊕ (Int × Int))) :=
  if (cm .lss v3 n) then
  some (Sum.inl ((ar .mul .i64 v2 256), (ar .add .i64 v3 1)))
else
  Option.map Sum.inr (if (cm .geq (IntKind.i64.wrap x1.1) (dv .quo .i64 v2 2)) then
    some ((ar .sub .i64 (IntKind.i64.wrap x1.1) (ar .mul .i64 2 (dv .quo .i64 v2 2))), 0)
  else
    some ((IntKind.i64.wrap x1.1), 0))

noncomputable def ref01_Signed_l1 (z : Option Nat) (n : Int) (x1 : Int × Int) (v2 : Int) (v3 : Int) : Option (Int × Int) :=
  loopG z (fun (s : Int × Int) => ref01_Signed_s1 z n x1 s.1 s.2) (v2, v3)

noncomputable def ref01_Signed (z : Option Nat) (b : List Int) (at_ : Int) (n : Int) : Option (Int × Int) :=
  Option.bind (ref01_Get z b at_ n) fun x1 =>
  if ((cm .neq x1.2 0) || (cm .eql n 8)) then
  some ((IntKind.i64.wrap x1.1), x1.2)
else
  ref01_Signed_l1 z n x1 1 0

noncomputable def ref19_Read_j4 (z : Option Nat) (v10 : Int) (v11 : Int) (v12 : Arrive) (v13 : Arrive) (v16 : Seen) : Option (((Int × Int × Arrive × Arrive) ⊕ (Arrive × Int))) :=
  Option.bind (app v13.seen [v16]) fun x17 =>
  some (Sum.inl ((ar .add .i64 v10 v16.what), (ar .add .i64 v11 1), v12, { v13 with seen := x17 }))

noncomputable def ref19_Read_j3 (z : Option Nat) (b : List Int) (v10 : Int) (v11 : Int) (v12 : Arrive) (v13 : Arrive) (v15 : Seen) : Option (((Int × Int × Arrive × Arrive) ⊕ (Arrive × Int))) :=
  if (cm .eql v15.what 2) then
  Option.bind (ref01_Signed z b v10 2) fun x18 =>
    ref19_Read_j4 z v10 v11 v12 v13 ({ v15 with delta := x18.1 })
else
  ref19_Read_j4 z v10 v11 v12 v13 v15

noncomputable def ref19_Read_s2 (z : Option Nat) (b : List Int) (x1 : Int) (x6 : List Int × Int × Int) (v10 : Int) (v11 : Int) (v12 : Arrive) (v13 : Arrive) : Option (((Int × Int × Arrive × Arrive) ⊕ (Arrive × Int))) :=
  if (cm .lss v11 (IntKind.i64.wrap x1)) then
  Option.bind (ix x6.1 v11) fun x14 =>
    if (cm .gtr (ar .add .i64 v10 x14) (b.length : Int)) then
    Option.map Sum.inr (some ((Arrive.mk 0 0 0 []), 2))
  else
    if (cm .eql x14 1) then
      Option.bind (ix b v10) fun x19 =>
        ref19_Read_j3 z b v10 v11 v12 v13 (Seen.mk x14 (IntKind.i64.wrap x19))
    else
      ref19_Read_j3 z b v10 v11 v12 v13 (Seen.mk x14 0)
else
  Option.map Sum.inr (if (cm .gtr (ar .sub .i64 (b.length : Int) v10) 3) then
    some ((Arrive.mk 0 0 0 []), 4)
  else
    some (v13, 0))

noncomputable def ref19_Read_l2 (z : Option Nat) (b : List Int) (x1 : Int) (x6 : List Int × Int × Int) (v10 : Int) (v11 : Int) (v12 : Arrive) (v13 : Arrive) : Option (Arrive × Int) :=
  loopG z (fun (s : Int × Int × Arrive × Arrive) => ref19_Read_s2 z b x1 x6 s.1 s.2.1 s.2.2.1 s.2.2.2) (v10, v11, v12, v13)

noncomputable def ref19_Read_s1 (z : Option Nat) (b : List Int) (x1 : Int) (v2 : List Int) (v3 : Int) : Option (((List Int × Int) ⊕ (Arrive × Int))) :=
  if (cm .lss v3 (b.length : Int)) then
  Option.bind (ref05_Num z b v3 2) fun x4 =>
    Option.bind (app v2 [(IntKind.u16.wrap x4)]) fun x5 =>
    some (Sum.inl (x5, (ar .add .i64 v3 2)))
else
  Option.map Sum.inr (Option.bind (ref18_Read z v2 (IntKind.i64.wrap x1)) fun x6 =>
    if (cm .neq x6.2.2 0) then
    some ((Arrive.mk 0 0 0 []), x6.2.2)
  else
    Option.bind (ref01_Signed z b 4 3) fun x7 =>
      Option.bind (ref05_Num z b 0 2) fun x8 =>
      Option.bind (ix b 7) fun x9 =>
      ref19_Read_l2 z b x1 x6 (ar .add .i64 8 (ar .mul .i64 2 x6.2.1)) 0 (Arrive.mk 0 0 0 []) (Arrive.mk (IntKind.u16.wrap x8) x7.1 x9 ([] : List Seen)))

noncomputable def ref19_Read_l1 (z : Option Nat) (b : List Int) (x1 : Int) (v2 : List Int) (v3 : Int) : Option (Arrive × Int) :=
  loopG z (fun (s : List Int × Int) => ref19_Read_s1 z b x1 s.1 s.2) (v2, v3)

noncomputable def ref19_Read (z : Option Nat) (b : List Int) : Option (Arrive × Int) :=
  if ((cm .gtr (b.length : Int) 65520) || (cm .neq (dv .rem .i64 (b.length : Int) 4) 0)) then
  some ((Arrive.mk 0 0 0 []), 4)
else
  if (cm .lss (b.length : Int) 8) then
    some ((Arrive.mk 0 0 0 []), 2)
  else
    Option.bind (ref05_Num z b 2 2) fun x1 =>
      if (cm .gtr (IntKind.i64.wrap x1) 4000) then
      some ((Arrive.mk 0 0 0 []), 4)
    else
      ref19_Read_l1 z b x1 [] 8

noncomputable def ref16_Read_s1 (z : Option Nat) (b : List Int) (v1 : List Entry) (v2 : Int) : Option (((List Entry × Int) ⊕ (List Entry × Int))) :=
  if (cm .lss v2 (b.length : Int)) then
  Option.bind (ref05_Num z b v2 4) fun x3 =>
    Option.bind (ix b (ar .add .i64 v2 4)) fun x4 =>
    Option.bind (app v1 [(Entry.mk x3 x4)]) fun x5 =>
    some (Sum.inl (x5, (ar .add .i64 v2 8)))
else
  Option.map Sum.inr (some (v1, 0))

noncomputable def ref16_Read_l1 (z : Option Nat) (b : List Int) (v1 : List Entry) (v2 : Int) : Option (List Entry × Int) :=
  loopG z (fun (s : List Entry × Int) => ref16_Read_s1 z b s.1 s.2) (v1, v2)

noncomputable def ref16_Read (z : Option Nat) (b : List Int) : Option (List Entry × Int) :=
  if ((cm .gtr (b.length : Int) 65520) || (cm .neq (dv .rem .i64 (b.length : Int) 8) 0)) then
  some ([], 4)
else
  if (cm .eql (b.length : Int) 0) then
    some ([], 2)
  else
    ref16_Read_l1 z b [] 0

noncomputable def ref17_Read_s2 (z : Option Nat) (b : List Int) (x5 : Int) (v8 : Int) (v9 : Rate) : Option (((Int × Rate) ⊕ (Rate × Int))) :=
  if (cm .lss v8 (IntKind.i64.wrap x5)) then
  Option.bind (ref05_Num z b (ar .add .i64 8 (ar .mul .i64 4 v8)) 4) fun x10 =>
    Option.bind (app v9.srcs [x10]) fun x11 =>
    some (Sum.inl ((ar .add .i64 v8 1), { v9 with srcs := x11 }))
else
  Option.map Sum.inr (some (v9, 0))

noncomputable def ref17_Read_l2 (z : Option Nat) (b : List Int) (x5 : Int) (v8 : Int) (v9 : Rate) : Option (Rate × Int) :=
  loopG z (fun (s : Int × Rate) => ref17_Read_s2 z b x5 s.1 s.2) (v8, v9)

noncomputable def ref17_Read_s1 (z : Option Nat) (b : List Int) (x5 : Int) (v7 : Rate) : Option (((Rate) ⊕ (Rate × Int))) :=
  if ((cm .gtr v7.exp 0) && (cm .lss v7.mant 131072)) then
  some (Sum.inl (Rate.mk (ar .sub .i64 v7.exp 1) (ar .mul .u32 2 v7.mant) v7.srcs))
else
  Option.map Sum.inr (ref17_Read_l2 z b x5 0 v7)

noncomputable def ref17_Read_l1 (z : Option Nat) (b : List Int) (x5 : Int) (v7 : Rate) : Option (Rate × Int) :=
  loopG z (fun (s : Rate) => ref17_Read_s1 z b x5 s) (v7)

noncomputable def ref17_Read (z : Option Nat) (b : List Int) : Option (Rate × Int) :=
  if ((cm .gtr (b.length : Int) 65520) || (cm .neq (dv .rem .i64 (b.length : Int) 4) 0)) then
  some ((Rate.mk 0 0 []), 4)
else
  if (cm .lss (b.length : Int) 8) then
    some ((Rate.mk 0 0 []), 2)
  else
    Option.bind (ix b 0) fun x1 =>
      Option.bind (gT (!(cm .neq x1 82)) (ix b 1)) fun x2 =>
      Option.bind (gT (!((cm .neq x1 82) || (cm .neq x2 69))) (ix b 2)) fun x3 =>
      Option.bind (gT (!(((cm .neq x1 82) || (cm .neq x2 69)) || (cm .neq x3 77))) (ix b 3)) fun x4 =>
      if ((((cm .neq x1 82) || (cm .neq x2 69)) || (cm .neq x3 77)) || (cm .neq x4 66)) then
      some ((Rate.mk 0 0 []), 6)
    else
      Option.bind (ix b 4) fun x5 =>
        if (cm .lss (dv .quo .i64 (ar .sub .i64 (b.length : Int) 8) 4) (IntKind.i64.wrap x5)) then
        some ((Rate.mk 0 0 []), 2)
      else
        if (cm .gtr (dv .quo .i64 (ar .sub .i64 (b.length : Int) 8) 4) (IntKind.i64.wrap x5)) then
          some ((Rate.mk 0 0 []), 4)
        else
          Option.bind (ref05_Num z b 5 3) fun x6 =>
            ref17_Read_l1 z b x5 (Rate.mk (IntKind.i64.wrap (dv .quo .u32 x6 262144)) (dv .rem .u32 x6 262144) ([] : List Int))

noncomputable def ref20_Read_j1 (z : Option Nat) (v3 : Int) (v4 : Feed) : Option (Feed × Int) :=
  if (cm .neq v3 0) then
  some ((Feed.mk 0 0 0 [] (Arrive.mk 0 0 0 []) [] (Rate.mk 0 0 [])), v3)
else
  some (v4, 0)

noncomputable def ref20_Read (z : Option Nat) (kind : Int) (b : List Int) : Option (Feed × Int) :=
  if ((cm .lss kind 1) || (cm .gtr kind 5)) then
  some ((Feed.mk 0 0 0 [] (Arrive.mk 0 0 0 []) [] (Rate.mk 0 0 [])), 1)
else
  if ((cm .gtr (b.length : Int) 65528) || (cm .neq (dv .rem .i64 (b.length : Int) 4) 0)) then
    some ((Feed.mk 0 0 0 [] (Arrive.mk 0 0 0 []) [] (Rate.mk 0 0 [])), 4)
  else
    if (cm .lss (b.length : Int) 8) then
      some ((Feed.mk 0 0 0 [] (Arrive.mk 0 0 0 []) [] (Rate.mk 0 0 [])), 2)
    else
      Option.bind (ref05_Num z b 0 4) fun x1 =>
        Option.bind (ref05_Num z b 4 4) fun x2 =>
        if (cm .eql kind 1) then
        Option.bind (sub b 8 (b.length : Int)) fun x5 =>
          Option.bind (ref15_Read z x5) fun x6 =>
          ref20_Read_j1 z x6.2 (Feed.mk kind x1 x2 x6.1 (Arrive.mk 0 0 0 []) [] (Rate.mk 0 0 []))
      else
        if (cm .eql kind 2) then
          Option.bind (sub b 8 (b.length : Int)) fun x7 =>
            Option.bind (ref19_Read z x7) fun x8 =>
            ref20_Read_j1 z x8.2 (Feed.mk kind x1 x2 [] x8.1 [] (Rate.mk 0 0 []))
        else
          if (cm .eql kind 3) then
            if (cm .gtr (b.length : Int) 8) then
              ref20_Read_j1 z 4 (Feed.mk kind x1 x2 [] (Arrive.mk 0 0 0 []) [] (Rate.mk 0 0 []))
            else
              ref20_Read_j1 z 0 (Feed.mk kind x1 x2 [] (Arrive.mk 0 0 0 []) [] (Rate.mk 0 0 []))
          else
            if (cm .eql kind 4) then
              Option.bind (sub b 8 (b.length : Int)) fun x9 =>
                Option.bind (ref16_Read z x9) fun x10 =>
                ref20_Read_j1 z x10.2 (Feed.mk kind x1 x2 [] (Arrive.mk 0 0 0 []) x10.1 (Rate.mk 0 0 []))
            else
              Option.bind (sub b 8 (b.length : Int)) fun x11 =>
                Option.bind (ref17_Read z x11) fun x12 =>
                ref20_Read_j1 z x12.2 (Feed.mk kind x1 x2 [] (Arrive.mk 0 0 0 []) [] x12.1)

noncomputable def ref15_Same_s1 (z : Option Nat) (p_a : List Pair) (b : List Pair) (v1 : Int) : Option (((Int) ⊕ (Bool))) :=
  if (cm .lss v1 (p_a.length : Int)) then
  Option.bind (ix p_a v1) fun x2 =>
    Option.bind (ix b v1) fun x3 =>
    if (!(x2.pid == x3.pid && (x2.mask == x3.mask && true))) then
    Option.map Sum.inr (some false)
  else
    some (Sum.inl (ar .add .i64 v1 1))
else
  Option.map Sum.inr (some true)

noncomputable def ref15_Same_l1 (z : Option Nat) (p_a : List Pair) (b : List Pair) (v1 : Int) : Option (Bool) :=
  loopG z (fun (s : Int) => ref15_Same_s1 z p_a b s) (v1)

noncomputable def ref15_Same (z : Option Nat) (p_a : List Pair) (b : List Pair) : Option (Bool) :=
  if (cm .neq (p_a.length : Int) (b.length : Int)) then
  some false
else
  ref15_Same_l1 z p_a b 0

noncomputable def ref16_Same_s1 (z : Option Nat) (p_a : List Entry) (b : List Entry) (v1 : Int) : Option (((Int) ⊕ (Bool))) :=
  if (cm .lss v1 (p_a.length : Int)) then
  Option.bind (ix p_a v1) fun x2 =>
    Option.bind (ix b v1) fun x3 =>
    if (!(x2.ssrc == x3.ssrc && (x2.seq == x3.seq && true))) then
    Option.map Sum.inr (some false)
  else
    some (Sum.inl (ar .add .i64 v1 1))
else
  Option.map Sum.inr (some true)

noncomputable def ref16_Same_l1 (z : Option Nat) (p_a : List Entry) (b : List Entry) (v1 : Int) : Option (Bool) :=
  loopG z (fun (s : Int) => ref16_Same_s1 z p_a b s) (v1)

noncomputable def ref16_Same (z : Option Nat) (p_a : List Entry) (b : List Entry) : Option (Bool) :=
  if (cm .neq (p_a.length : Int) (b.length : Int)) then
  some false
else
  ref16_Same_l1 z p_a b 0

noncomputable def ref20_Same (z : Option Nat) (p_a : Feed) (b : Feed) : Option (Bool) :=
  Option.bind (gT (((cm .eql p_a.kind b.kind) && (cm .eql p_a.from_ b.from_)) && (cm .eql p_a.of b.of)) (ref15_Same z p_a.pairs b.pairs)) fun x1 =>
  Option.bind (gT ((((cm .eql p_a.kind b.kind) && (cm .eql p_a.from_ b.from_)) && (cm .eql p_a.of b.of)) && x1) (ref16_Same z p_a.entries b.entries)) fun x2 =>
  Option.bind (gT (((((cm .eql p_a.kind b.kind) && (cm .eql p_a.from_ b.from_)) && (cm .eql p_a.of b.of)) && x1) && x2) (ref17_Same z p_a.rate b.rate)) fun x3 =>
  Option.bind (gT ((((((cm .eql p_a.kind b.kind) && (cm .eql p_a.from_ b.from_)) && (cm .eql p_a.of b.of)) && x1) && x2) && x3) (ref19_Same z p_a.arrive b.arrive)) fun x4 =>
  some (((((((cm .eql p_a.kind b.kind) && (cm .eql p_a.from_ b.from_)) && (cm .eql p_a.of b.of)) && x1) && x2) && x3) && x4)

noncomputable def ref20_Canon (z : Option Nat) (kind : Int) (b : List Int) : Option (Bool) :=
  Option.bind (ref20_Read z kind b) fun x1 =>
  Option.bind (gT (cm .eql x1.2 0) (ref20_Write z x1.1)) fun x2 =>
  some ((cm .eql x1.2 0) && (sc .eql (b2s x2) (b2s b)))

noncomputable def law20_FeedRight_j1 (z : Option Nat) (kind : Int) (b : List Int) (x3 : Bool) (v5 : Feed) : Option (Bool) :=
  Option.bind (feed_Read z kind b) fun x6 =>
  Option.bind (ref20_Read z kind b) fun x7 =>
  Option.bind (feed_Right z v5) fun x8 =>
  Option.bind (gT ((bq .eql x8 x3) && (cm .eql x6.2 x7.2)) (ref20_Same z x6.1 x7.1)) fun x9 =>
  Option.bind (gT (((bq .eql x8 x3) && (cm .eql x6.2 x7.2)) && x9) (feed_Canon z kind b)) fun x10 =>
  Option.bind (gT (((bq .eql x8 x3) && (cm .eql x6.2 x7.2)) && x9) (ref20_Canon z kind b)) fun x11 =>
  some ((((bq .eql x8 x3) && (cm .eql x6.2 x7.2)) && x9) && (bq .eql x10 x11))

noncomputable def law20_FeedRight (z : Option Nat) (f : Feed) (kind : Int) (count : Int) (b : List Int) : Option (Bool) :=
  if ((!(ref20_Short f)) || (cm .gtr (b.length : Int) 70000)) then
  some true
else
  Option.bind (ref20_Code kind) fun x1 =>
    Option.bind (gT (!((((cm .neq ((feed_Code kind).1) x1.1) || (cm .neq ((feed_Code kind).2.1) x1.2)) || (bq .neq (cm .eql ((feed_Code kind).2.2) 0) (cm .gtr x1.1 0))) || ((cm .neq ((feed_Code kind).2.2) 0) && (cm .neq ((feed_Code kind).2.2) 1)))) (feed_Kind z kind count)) fun x2 =>
    if (((((cm .neq ((feed_Code kind).1) x1.1) || (cm .neq ((feed_Code kind).2.1) x1.2)) || (bq .neq (cm .eql ((feed_Code kind).2.2) 0) (cm .gtr x1.1 0))) || ((cm .neq ((feed_Code kind).2.2) 0) && (cm .neq ((feed_Code kind).2.2) 1))) || (cm .neq x2 (ref20_Kind kind count))) then
    some false
  else
    Option.bind (ref20_Right z f) fun x3 =>
      Option.bind (feed_Write z f) fun x4 =>
      if x3 then
      Option.bind (gT (!(cm .neq x4.2 0)) (ref20_Write z f)) fun x12 =>
        if ((cm .neq x4.2 0) || (sc .neq (b2s x4.1) (b2s x12))) then
        some false
      else
        law20_FeedRight_j1 z kind b x3 f
    else
      if ((cm .neq x4.2 1) || (cm .neq (x4.1.length : Int) 0)) then
        some false
      else
        law20_FeedRight_j1 z kind b x3 f

end Xb
