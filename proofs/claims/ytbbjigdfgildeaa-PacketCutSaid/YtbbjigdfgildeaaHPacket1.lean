/- Own text: HPacket1. -/
import Derived.Test.YtbbjigdfgildeaaHChk
import Derived.Test.YtbbjigdfgildeaaHPad3
import Derived.Test.YtbbjigdfgildeaaHWf
set_option linter.all false
set_option linter.unusedVariables false
set_option linter.unusedSimpArgs false
set_option linter.unnecessarySimpa false
set_option linter.deprecated false
namespace Xb
open Go

/-! what the document says of a header -/
def oct (l : List Int) : Prop := ∀ x, x ∈ l → 0 ≤ x ∧ x ≤ 255
structure GoodH (h : Head) : Prop where
  type : -9223372036854775808 ≤ h.type ∧ h.type ≤ 9223372036854775807
  seq : 0 ≤ h.seq ∧ h.seq ≤ 65535
  time : 0 ≤ h.time ∧ h.time ≤ 4294967295
  ssrc : 0 ≤ h.ssrc ∧ h.ssrc ≤ 4294967295
  csrc : ∀ x, x ∈ h.csrc → 0 ≤ x ∧ x ≤ 4294967295
theorem goodH_of {h : Head} (w : wf_Head h) : GoodH h := ⟨in_i64.1 w.2.2.2.1, in_u16.1 w.2.2.2.2.1, in_u32.1 w.2.2.2.2.2.1, in_u32.1 w.2.2.2.2.2.2.1, fun x hx => in_u32.1 (w.2.2.2.2.2.2.2.2 x hx)⟩

def RightH (h : Head) : Prop := 0 ≤ h.type ∧ h.type ≤ 127 ∧ h.csrc.length ≤ 15
instance (h : Head) : Decidable (RightH h) := inferInstanceAs (Decidable (_ ∧ _))
def hN (h : Head) : Int := 128 + (if h.hasPad then 32 else 0) + (if h.hasExt then 16 else 0) + h.csrc.length
def hT (h : Head) : Int := (if h.marker then 128 else 0) + h.type
def csB (l : List Int) : List Int := l.flatMap (beN 4)
def encH (h : Head) : List Int := [hN h, hT h] ++ (beN 2 h.seq ++ (beN 4 h.time ++ (beN 4 h.ssrc ++ csB h.csrc)))

theorem csB_len (l : List Int) : (csB l).length = 4 * l.length := by
  induction l with
  | nil => rfl
  | cons a l ih => simp only [csB, List.flatMap_cons, List.length_append, beN_len, List.length_cons] at *; omega
theorem csB_take (l : List Int) (i : Nat) (hi : i < l.length) : csB (l.take (i + 1)) = csB (l.take i) ++ beN 4 l[i] := by
  simp only [csB]
  rw [List.take_add_one, List.getElem?_eq_getElem hi, Option.toList_some, List.flatMap_append, List.flatMap_singleton]
theorem encH_len (h : Head) : (encH h).length = 12 + 4 * h.csrc.length := by
  simp only [encH, List.length_append, beN_len, csB_len, List.length_cons, List.length_nil]; omega
theorem oct_app {a b : List Int} (ha : oct a) (hb : oct b) : oct (a ++ b) := fun x hx => (List.mem_append.1 hx).elim (ha x) (hb x)
theorem oct_be (n : Nat) (v : Int) : oct (beN n v) := beN_byte n v
theorem oct_csB (l : List Int) : oct (csB l) := fun x hx => by
  obtain ⟨y, _, hy⟩ := List.mem_flatMap.1 hx
  exact beN_byte 4 y x hy
theorem oct_drop {a : List Int} (h : oct a) (n : Nat) : oct (a.drop n) := fun x hx => h x (List.mem_of_mem_drop hx)
theorem oct_take {a : List Int} (h : oct a) (n : Nat) : oct (a.take n) := fun x hx => h x (List.mem_of_mem_take hx)
theorem hN_in {h : Head} (hr : RightH h) : 0 ≤ hN h ∧ hN h ≤ 255 := by
  have := hr.2.2
  unfold hN
  split <;> split <;> omega
theorem hT_in {h : Head} (hr : RightH h) : 0 ≤ hT h ∧ hT h ≤ 255 := by
  have := hr.1; have := hr.2.1
  unfold hT
  split <;> omega
theorem oct_encH {h : Head} (hr : RightH h) : oct (encH h) := by
  refine oct_app (fun x hx => ?_) (oct_app (oct_be _ _) (oct_app (oct_be _ _) (oct_app (oct_be _ _) (oct_csB _))))
  simp only [List.mem_cons, List.not_mem_nil, or_false] at hx
  rcases hx with rfl | rfl
  · exact hN_in hr
  · exact hT_in hr

theorem headRight_eq {h : Head} : head_Right h = decide (RightH h) := by
  show head_Right h = decide (0 ≤ h.type ∧ h.type ≤ 127 ∧ h.csrc.length ≤ 15)
  rw [Bool.eq_iff_iff]
  simp only [head_Right, cm_geq, cm_leq, Bool.and_eq_true, decide_eq_true_eq, RightH]
  omega
theorem refHRight_eq {h : Head} : ref05_Right h = decide (RightH h) := by
  show ref05_Right h = decide (0 ≤ h.type ∧ h.type ≤ 127 ∧ h.csrc.length ≤ 15)
  rw [Bool.eq_iff_iff]
  simp only [ref05_Right, cm_geq, cm_lss, Bool.and_eq_true, decide_eq_true_eq, RightH]
  omega
theorem headSize_eq {h : Head} (hr : RightH h) : head_Size h = 12 + 4 * (h.csrc.length : Int) := by
  have := hr.2.2
  unfold head_Size
  rw [headRight_eq, decide_eq_true hr, if_neg (by decide), ar_mul, w_i64 (by omega) (by omega), ar_add, w_i64 (by omega) (by omega)]

theorem four_eq {n : Int} (h0 : 0 ≤ n) (h1 : n ≤ 4294967295) : head_four n = some (beN 4 n) := by
  unfold head_four
  have : octet_Put n 4 = some (beN 4 n, 0) := put_eq (v := n) (n := 4) h0 (by omega) (by omega) (.inr (by omega))
  rw [w_u64 (by omega) (by omega), bnd this]
theorem put2_eq {n : Int} (h0 : 0 ≤ n) (h1 : n ≤ 65535) : octet_Put (IntKind.u64.wrap n) 2 = some (beN 2 n, 0) := by
  have := put_eq (v := n) (n := 2) h0 (by omega) (by omega) (.inr (by omega))
  rw [w_u64 (by omega) (by omega)]
  exact this

theorem flag_eq (b : Bool) (n : Int) : head_flag b n = if b then n else 0 := rfl
theorem or8 {x y a : Int} {n : Nat} (hx : x = a * 2 ^ n) (ha : 0 ≤ a) (h0 : 0 ≤ y) (hy : y < 2 ^ n) (hx2 : x < 256) (hn : n ≤ 8) : ar .or .u8 x y = x + y :=
  ar_or_add (k := .u8) rfl hx ha h0 hy (by simp [IntKind.bits]; omega) (by simpa [IntKind.bits] using hn)

theorem first_eq {h : Head} (hr : RightH h) : ar .or .u8 (ar .or .u8 (ar .or .u8 128 (head_flag h.hasPad 32)) (head_flag h.hasExt 16)) (IntKind.u8.wrap (h.csrc.length : Int)) = hN h := by
  have h3 := hr.2.2
  rw [flag_eq, flag_eq, w_u8 (by omega) (by omega)]
  unfold hN
  have e00 : ar .or .u8 (ar .or .u8 128 0) 0 = 128 := by decide
  have e01 : ar .or .u8 (ar .or .u8 128 0) 16 = 144 := by decide
  have e10 : ar .or .u8 (ar .or .u8 128 32) 0 = 160 := by decide
  have e11 : ar .or .u8 (ar .or .u8 128 32) 16 = 176 := by decide
  cases h.hasPad <;> cases h.hasExt <;> simp only [if_true, if_false, Bool.false_eq_true, e00, e01, e10, e11]
  · rw [or8 (a := 8) (n := 4) (by omega) (by omega) (by omega) (by omega) (by omega) (by omega)]; omega
  · rw [or8 (a := 9) (n := 4) (by omega) (by omega) (by omega) (by omega) (by omega) (by omega)]; omega
  · rw [or8 (a := 10) (n := 4) (by omega) (by omega) (by omega) (by omega) (by omega) (by omega)]; omega
  · rw [or8 (a := 11) (n := 4) (by omega) (by omega) (by omega) (by omega) (by omega) (by omega)]; omega
theorem second_eq {h : Head} (hr : RightH h) : ar .or .u8 (head_flag h.marker 128) (IntKind.u8.wrap h.type) = hT h := by
  have h1 := hr.1; have h2 := hr.2.1
  rw [flag_eq, w_u8 (by omega) (by omega)]
  unfold hT
  cases h.marker <;> simp only [if_true, if_false, Bool.false_eq_true]
  · rw [or8 (x := 0) (a := 0) (n := 7) (by omega) (by omega) (by omega) (by omega) (by omega) (by omega)]
  · rw [or8 (x := 128) (a := 1) (n := 7) (by omega) (by omega) (by omega) (by omega) (by omega) (by omega)]

theorem headWrite_eq {h : Head} (hg : GoodH h) (hr : RightH h) : head_Write none h = some (encH h, 0) := by
  have h3 := hr.2.2
  unfold head_Write
  rw [headRight_eq, decide_eq_true hr, if_neg (by decide), bnd (put2_eq hg.seq.1 hg.seq.2), bnd (four_eq hg.time.1 hg.time.2), bnd (four_eq hg.ssrc.1 hg.ssrc.2), first_eq hr, second_eq hr]
  have hj : octet_Join none [[hN h, hT h], beN 2 h.seq, beN 4 h.time, beN 4 h.ssrc] = some ([hN h, hT h] ++ (beN 2 h.seq ++ (beN 4 h.time ++ beN 4 h.ssrc))) := by
    unfold octet_Join
    rw [bnd (concat_eq (by simp) (by simp [beN_len]))]
    simp
  rw [bnd hj]
  unfold head_Write_l1
  have := loop_seq (step := fun (s : List Int × Int) => head_Write_s1 none h s.1 s.2) (r := (encH h, 0)) (fun i => ([hN h, hT h] ++ (beN 2 h.seq ++ (beN 4 h.time ++ beN 4 h.ssrc)) ++ csB (h.csrc.take i), (i : Int))) h.csrc.length (fun i hi => by
    show head_Write_s1 none h _ (i : Int) = _
    have hc := hg.csrc h.csrc[i] (List.getElem_mem hi)
    unfold head_Write_s1
    rw [if_pos (by rw [cm_lss]; simpa using hi), bnd (ix_some (n := i) rfl hi), bnd (four_eq hc.1 hc.2), bnd (app_some (by simp [beN_len, csB_len]; omega)), ar_add, w_i64 (by omega) (by omega), csB_take _ _ hi]
    simp) (by
    show head_Write_s1 none h _ _ = _
    unfold head_Write_s1
    rw [if_neg (by rw [cm_lss]; simp)]
    simp [encH])
  simpa [csB] using this

/-! reading -/
theorem number_eq {b : List Int} (hb : oct b) (h1 : 1 ≤ b.length) (h4 : b.length ≤ 4) : head_number none b = some (numB b) := by
  unfold head_number
  have hget := get_eq (b := b) (at_ := 0) (n := b.length) h1 (by omega) hb (by omega) (by omega)
  simp only [List.drop_zero, List.take_length] at hget
  have hget : octet_Get none b 0 (b.length : Int) = some (numB b, 0) := hget
  have hbd := numB_bd b hb
  have hp : (256 : Int) ^ b.length ≤ 256 ^ 4 := by
    have h3 := Nat.pow_le_pow_right (show 0 < 256 by decide) h4
    have h5 : (((256 : Nat) ^ b.length : Nat) : Int) = (256 : Int) ^ b.length := Int.natCast_pow _ _
    have h6 : (((256 : Nat) ^ 4 : Nat) : Int) = (256 : Int) ^ 4 := Int.natCast_pow _ _
    rw [← h5, ← h6]; exact Int.ofNat_le.2 h3
  have h256 : (256 : Int) ^ 4 = 4294967296 := by decide
  rw [bnd hget]
  simp only []
  rw [w_u32 (by omega) (by omega)]

def b0 (b : List Int) : Int := b.getD 0 0
def b1 (b : List Int) : Int := b.getD 1 0
def nC (b : List Int) : Nat := (b0 b).toNat % 16
def seg (b : List Int) (i n : Nat) : List Int := (b.drop i).take n
def decH (b : List Int) : Head :=
  ⟨decide (b0 b / 32 % 2 = 1), decide (b0 b / 16 % 2 = 1), decide (128 ≤ b1 b), b1 b % 128, numB (seg b 2 2), numB (seg b 4 4), numB (seg b 8 4), (chunksL 4 (seg b 12 (4 * nC b))).map numB⟩
def headE (b : List Int) : Int := if b.length < 12 then 2 else if b0 b / 64 ≠ 2 then 3 else if b.length < 12 + 4 * nC b then 2 else 0
def zeroH : Head := Head.mk false false false 0 0 0 0 []
def readH (b : List Int) : Head × Int × Int := if headE b = 0 then (decH b, 12 + 4 * (nC b : Int), 0) else (zeroH, 0, headE b)

theorem seg_len {b : List Int} {i n : Nat} (h : i + n ≤ b.length) : (seg b i n).length = n := by
  simp only [seg, List.length_take, List.length_drop]; omega
theorem oct_seg {b : List Int} (hb : oct b) (i n : Nat) : oct (seg b i n) := oct_take (oct_drop hb i) n
theorem b0_in {b : List Int} (hb : oct b) : 0 ≤ b0 b ∧ b0 b ≤ 255 := by
  unfold b0
  rw [List.getD_eq_getElem?_getD]
  cases h : b[0]? with
  | none => simp
  | some x => simpa using hb x (List.mem_of_getElem? h)
theorem b1_in {b : List Int} (hb : oct b) : 0 ≤ b1 b ∧ b1 b ≤ 255 := by
  unfold b1
  rw [List.getD_eq_getElem?_getD]
  cases h : b[1]? with
  | none => simp
  | some x => simpa using hb x (List.mem_of_getElem? h)
theorem num_in4 {l : List Int} (hl : oct l) (h4 : l.length = 4) : 0 ≤ numB l ∧ numB l ≤ 4294967295 := by
  have := numB_bd l hl; rw [h4] at this; omega
theorem num_in2 {l : List Int} (hl : oct l) (h4 : l.length = 2) : 0 ≤ numB l ∧ numB l ≤ 65535 := by
  have := numB_bd l hl; rw [h4] at this; omega
theorem chunk4_mem {b : List Int} (hb : oct b) (h : 12 + 4 * nC b ≤ b.length) {c : List Int} (hc : c ∈ chunksL 4 (seg b 12 (4 * nC b))) : c.length = 4 ∧ oct c :=
  ⟨chunks_len (by omega) (by rw [seg_len h]; omega) c hc, fun x hx => oct_seg hb _ _ x (chunks_mem hc hx)⟩
theorem nC_csrc {b : List Int} (h : 12 + 4 * nC b ≤ b.length) : (decH b).csrc.length = nC b := by
  simp only [decH, List.length_map]
  rw [chunks_count (by omega) (by rw [seg_len h]; omega), seg_len h]; omega
theorem goodH_dec {b : List Int} (hb : oct b) (h : 12 + 4 * nC b ≤ b.length) : GoodH (decH b) ∧ RightH (decH b) := by
  have h0 := b1_in hb
  refine ⟨⟨?_, num_in2 (oct_seg hb _ _) (seg_len (by omega)), num_in4 (oct_seg hb _ _) (seg_len (by omega)), num_in4 (oct_seg hb _ _) (seg_len (by omega)), fun x hx => ?_⟩, ?_⟩
  · show -9223372036854775808 ≤ b1 b % 128 ∧ b1 b % 128 ≤ 9223372036854775807; omega
  · obtain ⟨c, hc, rfl⟩ := List.mem_map.1 hx
    have := chunk4_mem hb h hc
    exact num_in4 this.2 this.1
  · refine ⟨?_, ?_, ?_⟩
    · show 0 ≤ b1 b % 128; omega
    · show b1 b % 128 ≤ 127; omega
    · rw [nC_csrc h]; unfold nC; omega

theorem fold_csrc {done : Head → Option (Head × Int × Int)} : ∀ (L : List (List Int)) (h : Head), (∀ c, c ∈ L → c.length = 4 ∧ oct c) → h.csrc.length + L.length ≤ 1000000 →
    foldX (fun (y1 : List Int) (s : Head) => head_Read_s1 none y1 s) done L h = done { h with csrc := h.csrc ++ L.map numB }
  | [], h, _, _ => by simp [foldX]
  | c :: L, h, hL, hn => by
    simp only [List.length_cons] at hn
    have hc := hL c (by simp)
    have e : head_Read_s1 none c h = some (.inl { h with csrc := h.csrc ++ [numB c] }) := by
      unfold head_Read_s1
      rw [bnd (number_eq hc.2 (by omega) (by omega)), bnd (app_some (by simp; omega))]
    simp only [foldX, e]
    rw [fold_csrc L _ (fun d hd => hL d (by simp [hd])) (by simp; omega)]
    simp

theorem and15 {x : Int} (h0 : 0 ≤ x) (h1 : x ≤ 255) : ar .and .u8 x 15 = x % 16 := ar_mask (k := .u8) (n := 4) rfl (by decide) (by decide) h0 (by simp [IntKind.bits]; omega)
theorem and127 {x : Int} (h0 : 0 ≤ x) (h1 : x ≤ 255) : ar .and .u8 x 127 = x % 128 := ar_mask (k := .u8) (n := 7) rfl (by decide) (by decide) h0 (by simp [IntKind.bits]; omega)
theorem and32 {x : Int} (h0 : 0 ≤ x) (h1 : x ≤ 255) : ar .and .u8 x 32 = x / 32 % 2 * 32 := ar_bit (k := .u8) (n := 5) rfl (by decide) h0 (by simp [IntKind.bits]; omega)
theorem and16 {x : Int} (h0 : 0 ≤ x) (h1 : x ≤ 255) : ar .and .u8 x 16 = x / 16 % 2 * 16 := ar_bit (k := .u8) (n := 4) rfl (by decide) h0 (by simp [IntKind.bits]; omega)
theorem and128 {x : Int} (h0 : 0 ≤ x) (h1 : x ≤ 255) : ar .and .u8 x 128 = x / 128 % 2 * 128 := ar_bit (k := .u8) (n := 7) rfl (by decide) h0 (by simp [IntKind.bits]; omega)

theorem headRead_eq {b : List Int} (hb : oct b) (hl : b.length ≤ 100000) : head_Read none b = some (readH b) := by
  have i0 := b0_in hb
  have i1 := b1_in hb
  unfold head_Read readH headE zeroH
  by_cases h1 : b.length < 12
  · rw [if_pos (by rw [cm_lss]; simp; omega), if_pos h1, if_neg (by decide)]
  · have x0 : ix b 0 = some (b0 b) := ix_getD (by omega) (by omega)
    have x1 : ix b 1 = some (b1 b) := ix_getD (by omega) (by omega)
    have esh : sf .shr .u8 (b0 b) 6 = b0 b / 64 := sf_shr (y := 6) (n := 6) rfl (by decide)
    rw [if_neg (by rw [cm_lss]; simp; omega), bnd x0, bnd x0, esh, if_neg h1]
    by_cases h2 : b0 b / 64 = 2
    · rw [if_neg (by rw [cm_neq]; simp [h2]), if_neg (show ¬ b0 b / 64 ≠ 2 by simp [h2])]
      have en : ar .add .i64 12 (ar .mul .i64 4 (IntKind.i64.wrap (ar .and .u8 (b0 b) 15))) = 12 + 4 * (nC b : Int) := by
        rw [and15 i0.1 i0.2, w_i64 (by omega) (by omega), ar_mul, w_i64 (by omega) (by omega), ar_add, w_i64 (by omega) (by omega)]
        unfold nC; omega
      rw [en]
      by_cases h3 : b.length < 12 + 4 * nC b
      · rw [if_pos (by rw [cm_lss]; simp; omega), if_pos h3, if_neg (by decide)]
      · have s1 : sub b 2 4 = some (seg b 2 2) := sub_some (by omega) (by omega) (by omega)
        have s2 : sub b 4 8 = some (seg b 4 4) := sub_some (by omega) (by omega) (by omega)
        have s3 : sub b 8 12 = some (seg b 8 4) := sub_some (by omega) (by omega) (by omega)
        have s4 : sub b 12 (12 + 4 * (nC b : Int)) = some (seg b 12 (4 * nC b)) := by
          rw [sub_some (by omega) (by omega) (by omega)]
          have e : (12 + 4 * (nC b : Int)).toNat - (12 : Int).toNat = 4 * nC b := by omega
          rw [e]; rfl
        have q1 := seg_len (b := b) (i := 2) (n := 2) (by omega)
        have q2 := seg_len (b := b) (i := 4) (n := 4) (by omega)
        have q3 := seg_len (b := b) (i := 8) (n := 4) (by omega)
        have q4 := seg_len (b := b) (i := 12) (n := 4 * nC b) (by omega)
        have r1 := num_in2 (oct_seg hb 2 2) q1
        have hn16 : nC b ≤ 15 := by unfold nC; omega
        rw [if_neg (by rw [cm_lss]; simp; omega), bnd x0, bnd x0, bnd x1, bnd x1, bnd s1, bnd (number_eq (oct_seg hb _ _) (by omega) (by omega)), bnd s2, bnd (number_eq (oct_seg hb _ _) (by omega) (by omega)),
          bnd s3, bnd (number_eq (oct_seg hb _ _) (by omega) (by omega)), bnd s4, if_neg h3, if_pos rfl]
        have l4 : lnO (seg b 12 (4 * nC b)) = some () := by simp [lnO, q4]; omega
        rw [bnd l4]
        unfold head_Read_l1
        rw [fold_csrc _ _ (fun c hc => chunk4_mem hb (by omega) hc) (by rw [chunks_count (by omega) (by rw [q4]; omega), q4]; simp; omega)]
        unfold head_Read_d1
        rw [en, and32 i0.1 i0.2, and16 i0.1 i0.2, and128 i1.1 i1.2, and127 i1.1 i1.2, w_u16 r1.1 r1.2, w_i64 (n := b1 b % 128) (by omega) (by omega)]
        have d1 : cm .gtr (b0 b / 32 % 2 * 32) 0 = decide (b0 b / 32 % 2 = 1) := by rw [cm_gtr]; exact decide_eq_decide.2 (by omega)
        have d2 : cm .gtr (b0 b / 16 % 2 * 16) 0 = decide (b0 b / 16 % 2 = 1) := by rw [cm_gtr]; exact decide_eq_decide.2 (by omega)
        have d3 : cm .gtr (b1 b / 128 % 2 * 128) 0 = decide (128 ≤ b1 b) := by rw [cm_gtr]; exact decide_eq_decide.2 (by omega)
        rw [d1, d2, d3]
        simp [decH]
    · rw [if_pos (by rw [cm_neq]; simpa using h2), if_pos h2, if_neg (by decide)]

/-- what was written is read -/
theorem b0_enc (h : Head) (r : List Int) : b0 (encH h ++ r) = hN h := rfl
theorem b1_enc (h : Head) (r : List Int) : b1 (encH h ++ r) = hT h := rfl
theorem nC_enc {h : Head} (hr : RightH h) (r : List Int) : nC (encH h ++ r) = h.csrc.length := by
  have := hr.2.2
  unfold nC; rw [b0_enc]; unfold hN
  split <;> split <;> omega
theorem headE_enc {h : Head} (hr : RightH h) (r : List Int) : headE (encH h ++ r) = 0 := by
  have h3 := hr.2.2
  unfold headE
  rw [nC_enc hr, b0_enc, List.length_append, encH_len, if_neg (by omega), if_neg (by unfold hN; split <;> split <;> omega), if_neg (by omega)]
theorem seg_skip {a r : List Int} {i n k : Nat} (h : a.length = k) : seg (a ++ r) (k + i) n = seg r i n := by
  simp only [seg]
  rw [← List.drop_drop, ← h, List.drop_left]
theorem seg_take {a r : List Int} {n : Nat} (h : a.length = n) : seg (a ++ r) 0 n = a := by
  simp only [seg, List.drop_zero]
  exact List.take_left' h
theorem decH_enc {h : Head} (hg : GoodH h) (hr : RightH h) (r : List Int) : decH (encH h ++ r) = h := by
  have h1 := hr.1; have h2 := hr.2.1; have h3 := hr.2.2
  have e : encH h ++ r = [hN h, hT h] ++ (beN 2 h.seq ++ (beN 4 h.time ++ (beN 4 h.ssrc ++ (csB h.csrc ++ r)))) := by simp [encH]
  have s1 : seg (encH h ++ r) 2 2 = beN 2 h.seq := by
    rw [e, seg_skip (k := 2) (i := 0) rfl, seg_take (beN_len _ _)]
  have s2 : seg (encH h ++ r) 4 4 = beN 4 h.time := by
    rw [e, seg_skip (k := 2) (i := 2) rfl, seg_skip (k := 2) (i := 0) (beN_len _ _), seg_take (beN_len _ _)]
  have s3 : seg (encH h ++ r) 8 4 = beN 4 h.ssrc := by
    rw [e, seg_skip (k := 2) (i := 6) rfl, seg_skip (k := 2) (i := 4) (beN_len _ _), seg_skip (k := 4) (i := 0) (beN_len _ _), seg_take (beN_len _ _)]
  have s4 : seg (encH h ++ r) 12 (4 * h.csrc.length) = csB h.csrc := by
    rw [e, seg_skip (k := 2) (i := 10) rfl, seg_skip (k := 2) (i := 8) (beN_len _ _), seg_skip (k := 4) (i := 4) (beN_len _ _), seg_skip (k := 4) (i := 0) (beN_len _ _), seg_take (csB_len _)]
  have c : (chunksL 4 (csB h.csrc)).map numB = h.csrc := by
    have : chunksL 4 (csB h.csrc) = h.csrc.map (beN 4) := by
      unfold csB
      rw [List.flatMap_def]
      exact chunks_of (by omega) _ fun c hc => by
        obtain ⟨y, _, rfl⟩ := List.mem_map.1 hc
        exact beN_len 4 y
    rw [this, List.map_map]
    conv => rhs; rw [← List.map_id h.csrc]
    apply List.map_congr_left
    intro x hx
    have := hg.csrc x hx
    exact num_be 4 x this.1 (by omega)
  unfold decH
  rw [nC_enc hr, s1, s2, s3, s4, c, b0_enc, b1_enc, num_be 2 _ hg.seq.1 (by have := hg.seq.2; omega), num_be 4 _ hg.time.1 (by have := hg.time.2; omega), num_be 4 _ hg.ssrc.1 (by have := hg.ssrc.2; omega)]
  obtain ⟨p, x, m, t, sq, tm, ss, cs⟩ := h
  simp only [hN, hT] at *
  congr 1
  · cases p <;> cases x <;> simp <;> omega
  · cases p <;> cases x <;> simp <;> omega
  · cases m <;> simp <;> omega
  · cases m <;> simp <;> omega
theorem readH_enc {h : Head} (hg : GoodH h) (hr : RightH h) (r : List Int) : readH (encH h ++ r) = (h, 12 + 4 * (h.csrc.length : Int), 0) := by
  unfold readH
  rw [headE_enc hr, if_pos rfl, decH_enc hg hr, nC_enc hr]

/-- what was read is written -/
theorem encH_dec {b : List Int} (hb : oct b) (h : headE b = 0) : encH (decH b) = b.take (12 + 4 * nC b) := by
  have i0 := b0_in hb
  have i1 := b1_in hb
  unfold headE at h
  have h1 : ¬ b.length < 12 := fun hh => by rw [if_pos hh] at h; cases h
  rw [if_neg h1] at h
  have h2 : b0 b / 64 = 2 := by
    refine Classical.byContradiction fun hh => ?_
    rw [if_pos hh] at h; cases h
  rw [if_neg (by simpa using h2)] at h
  have h3 : ¬ b.length < 12 + 4 * nC b := fun hh => by rw [if_pos hh] at h; cases h
  have hn : hN (decH b) = b0 b := by
    unfold hN
    rw [nC_csrc (by omega)]
    simp only [decH, decide_eq_true_eq]
    unfold nC
    split <;> split <;> omega
  have ht : hT (decH b) = b1 b := by
    unfold hT
    simp only [decH, decide_eq_true_eq]
    split <;> omega
  have c : csB (decH b).csrc = seg b 12 (4 * nC b) := by
    simp only [decH, csB]
    rw [List.flatMap_def, List.map_map]
    conv => rhs; rw [← chunks_flat (n := 4) (by omega) (seg b 12 (4 * nC b)), ← List.map_id (chunksL 4 (seg b 12 (4 * nC b)))]
    congr 1
    apply List.map_congr_left
    intro c hc
    have := chunk4_mem hb (by omega) hc
    have hh := be_num c this.2
    rw [this.1] at hh
    exact hh
  have s1 : beN 2 (decH b).seq = seg b 2 2 := by
    have := be_num (seg b 2 2) (oct_seg hb _ _)
    rw [seg_len (by omega)] at this; exact this
  have s2 : beN 4 (decH b).time = seg b 4 4 := by
    have := be_num (seg b 4 4) (oct_seg hb _ _)
    rw [seg_len (by omega)] at this; exact this
  have s3 : beN 4 (decH b).ssrc = seg b 8 4 := by
    have := be_num (seg b 8 4) (oct_seg hb _ _)
    rw [seg_len (by omega)] at this; exact this
  unfold encH
  rw [hn, ht, s1, s2, s3, c]
  have step : ∀ (i n m : Nat), seg b i (n + m) = seg b i n ++ seg b (i + n) m := by
    intro i n m
    simp only [seg]
    rw [List.take_add, List.drop_drop]
  have e : b.take (12 + 4 * nC b) = seg b 0 2 ++ (seg b 2 2 ++ (seg b 4 4 ++ (seg b 8 4 ++ seg b 12 (4 * nC b)))) := by
    have : b.take (12 + 4 * nC b) = seg b 0 (2 + (2 + (4 + (4 + 4 * nC b)))) := by
      simp only [seg, List.drop_zero]; congr 1; omega
    rw [this, step 0 2, step 2 2, step 4 4, step 8 4]
  rw [e]
  congr 1
  match b, h1 with
  | [], h => simp at h
  | [_], h => simp at h
  | x :: y :: l, _ => rfl
end Xb
