/- Own text: SArrA. -/
import Derived.Test.YtpehlandaemcmaaGreatMath2
import Derived.Test.YtpehlandaemcmaaGreatSModels
import Derived.Test.YtpehlandaemcmaaGreatSWf
import Derived.Test.YtpehlandaemcmaaGreatSOct
import Derived.Test.YtpehlandaemcmaaGreatSPad
import Derived.Test.YtpehlandaemcmaaGreatSChunkB
set_option linter.all false
set_option linter.unusedVariables false
set_option linter.unusedSimpArgs false
set_option linter.unnecessarySimpa false
set_option linter.deprecated false
namespace Xb
open Go

def FitS (s : Seen) : Prop := (s.what = 0 ∧ s.delta = 0) ∨ (s.what = 1 ∧ 0 ≤ s.delta ∧ s.delta ≤ 255) ∨ (s.what = 2 ∧ -32768 ≤ s.delta ∧ s.delta ≤ 32767)
instance (s : Seen) : Decidable (FitS s) := inferInstanceAs (Decidable (_ ∨ _))
theorem fits_eq (s : Seen) : arrive_fits s = decide (FitS s) := by
  rw [Bool.eq_iff_iff, decide_eq_true_iff (p := FitS s)]
  unfold arrive_fits FitS
  simp only [cm_eql, cm_geq, cm_lss]
  by_cases h0 : s.what = 0
  · simp [h0]
  · by_cases h1 : s.what = 1
    · simp [h1]; omega
    · by_cases h2 : s.what = 2
      · simp [h2]; omega
      · simp [h0, h1, h2]

theorem containsSeen_eq {l : List Seen} {f : Seen → Option Bool} {p : Seen → Bool} (hf : ∀ s, f s = some (p s)) (hl : l.length ≤ 1000000) : slices_ContainsFunc_Seen none l f = some (l.any p) := by
  unfold slices_ContainsFunc_Seen slices_IndexFunc_Seen slices_IndexFunc_Seen_l1
  have := find_loop (l := l) (step := fun s => slices_IndexFunc_Seen_s1 none l f s) (p := p) (hit := fun i => (i : Int)) (miss := -1) (by
    show slices_IndexFunc_Seen_s1 none l f _ = _
    unfold slices_IndexFunc_Seen_s1
    rw [if_neg (by rw [cm_lss]; simp)]; rfl) (fun i hi => by
    show slices_IndexFunc_Seen_s1 none l f _ = _
    unfold slices_IndexFunc_Seen_s1
    rw [if_pos (by rw [cm_lss]; simpa using hi), bnd (ix_some (n := i) rfl hi), bnd (hf _)]
    by_cases hp : p l[i] = true
    · rw [if_pos hp, if_pos hp]; rfl
    · rw [if_neg hp, if_neg hp, ar_add, w_i64 (by omega) (by omega)]; rfl)
  rw [bnd this]
  congr 1
  cases h : l.findIdx? p with
  | none =>
    rw [List.findIdx?_eq_none_iff] at h
    have : l.any p = false := by rw [List.any_eq_false]; intro x hx; simp [h x hx]
    rw [this]; decide
  | some i =>
    rw [List.findIdx?_eq_some_iff_getElem] at h
    obtain ⟨hi, hp, _⟩ := h
    have : l.any p = true := List.any_eq_true.2 ⟨l[i], List.getElem_mem hi, hp⟩
    rw [this, cm_geq]; simp

def RightA (a : Arrive) : Prop := -8388608 ≤ a.time ∧ a.time ≤ 8388607 ∧ a.seen.length ≤ 4000 ∧ ∀ s, s ∈ a.seen → FitS s
instance (a : Arrive) : Decidable (RightA a) := inferInstanceAs (Decidable (_ ∧ _))
theorem right_eq {a : Arrive} (hl : a.seen.length ≤ 1000000) : arrive_Right none a = some (decide (RightA a)) := by
  unfold arrive_Right
  rw [containsSeen_eq (p := fun s => !decide (FitS s)) (fun s => by unfold arrive_Right_1; rw [fits_eq]) hl]
  by_cases hc : -8388608 ≤ a.time ∧ a.time ≤ 8388607 ∧ a.seen.length ≤ 4000
  · have : (((cm .geq a.time (-8388608)) && (cm .lss a.time 8388608)) && (cm .leq (a.seen.length : Int) 4000)) = true := by
      simp only [cm_geq, cm_lss, cm_leq, Bool.and_eq_true, decide_eq_true_eq]; omega
    rw [this, gTT, Option.bind_some, Bool.true_and]
    congr 1
    rw [Bool.eq_iff_iff, decide_eq_true_iff (p := RightA a)]
    unfold RightA
    simp only [Bool.not_eq_true', List.any_eq_false]
    constructor
    · intro h; exact ⟨hc.1, hc.2.1, hc.2.2, fun s hs => by simpa using h s hs⟩
    · intro h s hs; simpa using h.2.2.2 s hs
  · have : (((cm .geq a.time (-8388608)) && (cm .lss a.time 8388608)) && (cm .leq (a.seen.length : Int) 4000)) = false := by
      rw [Bool.eq_false_iff]
      simp only [cm_geq, cm_lss, cm_leq, Bool.and_eq_true, decide_eq_true_eq, ne_eq]
      omega
    rw [this, gTF, Option.bind_some, Bool.false_and]
    congr 1
    exact (decide_eq_false fun h => hc ⟨h.1, h.2.1, h.2.2.1⟩).symm

def sumD : List Seen → Int
  | [] => 0
  | s :: l => s.delta + sumD l
theorem sumD_snoc : ∀ (l : List Seen) (s : Seen), sumD (l ++ [s]) = sumD l + s.delta
  | [], s => by simp [sumD]
  | x :: l, s => by simp only [List.cons_append, sumD, sumD_snoc l s]; omega
theorem sumD_bd : ∀ (l : List Seen), (∀ s, s ∈ l → FitS s) → -32768 * (l.length : Int) ≤ sumD l ∧ sumD l ≤ 32768 * (l.length : Int)
  | [], _ => by simp [sumD]
  | x :: l, h => by
    have h1 := sumD_bd l fun s hs => h s (by simp [hs])
    have h2 := h x (by simp)
    unfold FitS at h2
    simp only [sumD, List.length_cons]
    omega
theorem take_snoc {α : Type} (l : List α) (i : Nat) (hi : i < l.length) : l.take (i + 1) = l.take i ++ [l[i]] := by
  rw [List.take_add_one, List.getElem?_eq_getElem hi]; rfl
end Xb

/-! Numbers with signs, and a telling's body. -/
namespace Xb
open Go

def oct (l : List Int) : Prop := ∀ x, x ∈ l → 0 ≤ x ∧ x ≤ 255
theorem oct.app {a b : List Int} (ha : oct a) (hb : oct b) : oct (a ++ b) := fun x hx => (List.mem_append.1 hx).elim (ha x) (hb x)
theorem oct.drop {a : List Int} (ha : oct a) (n : Nat) : oct (a.drop n) := fun x hx => ha x (List.mem_of_mem_drop hx)
theorem oct.take {a : List Int} (ha : oct a) (n : Nat) : oct (a.take n) := fun x hx => ha x (List.mem_of_mem_take hx)
theorem oct_zeros (k : Nat) : oct (List.replicate k 0) := fun x hx => by rw [List.eq_of_mem_replicate hx]; omega
theorem oct_be (n : Nat) (v : Int) : oct (beN n v) := beN_byte n v

/-- a number with a sign, of so many octets -/
def sg2 (x : Int) : Int := if x < 32768 then x else x - 65536
def sg3 (x : Int) : Int := if x < 8388608 then x else x - 16777216

theorem puts2 {v : Int} (h0 : -32768 ≤ v) (h1 : v ≤ 32767) : octet_PutSigned v 2 = some (beN 2 (v % 65536), 0) := by
  have e0 : ar .sub .i64 64 (ar .mul .i64 8 2) = 48 := by decide
  unfold octet_PutSigned
  rw [if_neg (by decide), e0]
  simp only [sfO_nn (show (0 : Int) ≤ 48 by decide), Option.bind_some]
  have e1 : sf .shl .i64 v 48 = v * 281474976710656 := by
    rw [sf_shl (y := 48) (n := 48) rfl (by decide)]
    exact w_i64 (by omega) (by omega)
  have e2 : sf .shr .i64 (v * 281474976710656) 48 = v := by
    rw [sf_shr (y := 48) (n := 48) rfl (by decide)]
    show v * 281474976710656 / 281474976710656 = v
    omega
  rw [e1, e2, if_neg (by rw [cm_neq]; simp)]
  have e3 : sf .shl .u64 (IntKind.u64.wrap v) 48 = v % 65536 * 281474976710656 := by
    rw [sf_shl (y := 48) (n := 48) rfl (by decide), wu64, wu64]
    show v % 18446744073709551616 * 281474976710656 % 18446744073709551616 = _
    omega
  have e4 : sf .shr .u64 (v % 65536 * 281474976710656) 48 = v % 65536 := by
    rw [sf_shr (y := 48) (n := 48) rfl (by decide)]
    show v % 65536 * 281474976710656 / 281474976710656 = _
    omega
  rw [e3, e4, show (2 : Int) = ((2 : Nat) : Int) from rfl, put_eq (by omega) (by omega) (by omega) (.inr (by omega))]
  rfl
theorem puts3 {v : Int} (h0 : -8388608 ≤ v) (h1 : v ≤ 8388607) : octet_PutSigned v 3 = some (beN 3 (v % 16777216), 0) := by
  have e0 : ar .sub .i64 64 (ar .mul .i64 8 3) = 40 := by decide
  unfold octet_PutSigned
  rw [if_neg (by decide), e0]
  simp only [sfO_nn (show (0 : Int) ≤ 40 by decide), Option.bind_some]
  have e1 : sf .shl .i64 v 40 = v * 1099511627776 := by
    rw [sf_shl (y := 40) (n := 40) rfl (by decide)]
    exact w_i64 (by omega) (by omega)
  have e2 : sf .shr .i64 (v * 1099511627776) 40 = v := by
    rw [sf_shr (y := 40) (n := 40) rfl (by decide)]
    show v * 1099511627776 / 1099511627776 = v
    omega
  rw [e1, e2, if_neg (by rw [cm_neq]; simp)]
  have e3 : sf .shl .u64 (IntKind.u64.wrap v) 40 = v % 16777216 * 1099511627776 := by
    rw [sf_shl (y := 40) (n := 40) rfl (by decide), wu64, wu64]
    show v % 18446744073709551616 * 1099511627776 % 18446744073709551616 = _
    omega
  have e4 : sf .shr .u64 (v % 16777216 * 1099511627776) 40 = v % 16777216 := by
    rw [sf_shr (y := 40) (n := 40) rfl (by decide)]
    show v % 16777216 * 1099511627776 / 1099511627776 = _
    omega
  rw [e3, e4, show (3 : Int) = ((3 : Nat) : Int) from rfl, put_eq (by omega) (by omega) (by omega) (.inr (by omega))]
  rfl

theorem gets2 {b : List Int} {at_ : Nat} (hb : oct b) (hl : b.length ≤ 4294967296) (h : at_ + 2 ≤ b.length) : octet_Signed none b at_ 2 = some (sg2 (numB ((b.drop at_).take 2)), 0) := by
  have hn := numB_bd ((b.drop at_).take 2) ((hb.drop at_).take 2)
  rw [List.length_take, List.length_drop, show min 2 (b.length - at_) = 2 by omega] at hn
  have e0 : ar .sub .i64 64 (ar .mul .i64 8 2) = 48 := by decide
  have hg : octet_Get none b (at_ : Int) 2 = some (numB ((b.drop at_).take 2), 0) := get_eq (b := b) (at_ := at_) (n := 2) (by omega) (by omega) hb hl h
  unfold octet_Signed
  rw [bnd hg, if_neg (show ¬ cm .neq (0 : Int) 0 = true by decide), e0]
  simp only [sfO_nn (show (0 : Int) ≤ 48 by decide), Option.bind_some]
  generalize numB ((b.drop at_).take 2) = x at hn ⊢
  have e1 : sf .shl .u64 x 48 = x * 281474976710656 := by
    rw [sf_shl (y := 48) (n := 48) rfl (by decide)]
    exact w_u64 (by omega) (by omega)
  rw [e1]
  unfold sg2
  by_cases hx : x < 32768
  · have e2 : IntKind.i64.wrap (x * 281474976710656) = x * 281474976710656 := w_i64 (by omega) (by omega)
    rw [if_pos hx, e2, sf_shr (y := 48) (n := 48) rfl (by decide)]
    show some (x * 281474976710656 / 281474976710656, 0) = _
    congr 2; omega
  · have e2 : IntKind.i64.wrap (x * 281474976710656) = (x - 65536) * 281474976710656 := by
      simp only [IntKind.wrap, IntKind.signed, IntKind.bits]; simp; split <;> omega
    rw [if_neg hx, e2, sf_shr (y := 48) (n := 48) rfl (by decide)]
    show some ((x - 65536) * 281474976710656 / 281474976710656, 0) = _
    congr 2; omega
theorem gets3 {b : List Int} {at_ : Nat} (hb : oct b) (hl : b.length ≤ 4294967296) (h : at_ + 3 ≤ b.length) : octet_Signed none b at_ 3 = some (sg3 (numB ((b.drop at_).take 3)), 0) := by
  have hn := numB_bd ((b.drop at_).take 3) ((hb.drop at_).take 3)
  rw [List.length_take, List.length_drop, show min 3 (b.length - at_) = 3 by omega] at hn
  have e0 : ar .sub .i64 64 (ar .mul .i64 8 3) = 40 := by decide
  have hg : octet_Get none b (at_ : Int) 3 = some (numB ((b.drop at_).take 3), 0) := get_eq (b := b) (at_ := at_) (n := 3) (by omega) (by omega) hb hl h
  unfold octet_Signed
  rw [bnd hg, if_neg (show ¬ cm .neq (0 : Int) 0 = true by decide), e0]
  simp only [sfO_nn (show (0 : Int) ≤ 40 by decide), Option.bind_some]
  generalize numB ((b.drop at_).take 3) = x at hn ⊢
  have e1 : sf .shl .u64 x 40 = x * 1099511627776 := by
    rw [sf_shl (y := 40) (n := 40) rfl (by decide)]
    exact w_u64 (by omega) (by omega)
  rw [e1]
  unfold sg3
  by_cases hx : x < 8388608
  · have e2 : IntKind.i64.wrap (x * 1099511627776) = x * 1099511627776 := w_i64 (by omega) (by omega)
    rw [if_pos hx, e2, sf_shr (y := 40) (n := 40) rfl (by decide)]
    show some (x * 1099511627776 / 1099511627776, 0) = _
    congr 2; omega
  · have e2 : IntKind.i64.wrap (x * 1099511627776) = (x - 16777216) * 1099511627776 := by
      simp only [IntKind.wrap, IntKind.signed, IntKind.bits]; simp; split <;> omega
    rw [if_neg hx, e2, sf_shr (y := 40) (n := 40) rfl (by decide)]
    show some ((x - 16777216) * 1099511627776 / 1099511627776, 0) = _
    congr 2; omega

/-- a packet's difference in octets -/
def dlt (s : Seen) : List Int := if s.what = 2 then beN 2 (s.delta % 65536) else if s.what = 1 then [s.delta] else []
theorem dlt_len {s : Seen} (h : FitS s) : ((dlt s).length : Int) = s.what := by
  unfold FitS at h; unfold dlt
  split
  · rw [beN_len]; omega
  · split
    · simp; omega
    · simp; omega
theorem dlt_oct {s : Seen} (h : FitS s) : oct (dlt s) := by
  unfold FitS at h; unfold dlt
  split
  · exact oct_be _ _
  · split
    · intro x hx; simp at hx; omega
    · intro x hx; simp at hx
theorem delta_eq {s : Seen} (h : FitS s) : arrive_delta s = some (dlt s) := by
  unfold FitS at h; unfold arrive_delta dlt
  by_cases h2 : s.what = 2
  · rw [if_pos (by rw [cm_eql]; simpa using h2), if_pos h2, puts2 (by omega) (by omega)]; rfl
  · rw [if_neg (by rw [cm_eql]; simpa using h2), if_neg h2]
    rw [sub_some (by omega) (by omega) (by simp; omega)]
    by_cases h1 : s.what = 1
    · rw [if_pos h1, h1, w_u8 (by omega) (by omega)]; rfl
    · have h0 : s.what = 0 := by omega
      rw [if_neg h1, h0]; rfl

def whatsL (l : List Seen) : List Int := l.map (·.what)
def dltL (l : List Seen) : List Int := l.flatMap dlt
def numsL (l : List Int) : List Int := l.flatMap (beN 2)
theorem whatsL_snoc (l : List Seen) (s : Seen) : whatsL (l ++ [s]) = whatsL l ++ [s.what] := by simp [whatsL]
theorem dltL_snoc (l : List Seen) (s : Seen) : dltL (l ++ [s]) = dltL l ++ dlt s := by simp [dltL]
theorem numsL_snoc (l : List Int) (s : Int) : numsL (l ++ [s]) = numsL l ++ beN 2 s := by simp [numsL]
def hdA (a : Arrive) : List Int := beN 2 a.base ++ beN 2 (a.seen.length : Int) ++ beN 3 (a.time % 16777216) ++ [a.count]
def bodyA (a : Arrive) : List Int := hdA a ++ numsL (writeS (whatsL a.seen)) ++ dltL a.seen
def writeA (a : Arrive) : List Int := bodyA a ++ List.replicate (fillN (bodyA a).length) 0
structure GoodA (a : Arrive) : Prop where
  b0 : 0 ≤ a.base
  b1 : a.base ≤ 65535
  c0 : 0 ≤ a.count
  c1 : a.count ≤ 255

theorem numsL_len (l : List Int) : (numsL l).length = 2 * l.length := by
  induction l with
  | nil => rfl
  | cons a l ih => simp only [numsL, List.flatMap_cons, List.length_append, beN_len, List.length_cons] at *; omega
theorem numsL_oct (l : List Int) : oct (numsL l) := fun x hx => by
  obtain ⟨y, _, hy⟩ := List.mem_flatMap.1 hx
  exact oct_be _ _ x hy
theorem dltL_oct {l : List Seen} (h : ∀ s, s ∈ l → FitS s) : oct (dltL l) := fun x hx => by
  obtain ⟨y, hy, hx⟩ := List.mem_flatMap.1 hx
  exact dlt_oct (h y hy) x hx
theorem dltL_len {l : List Seen} (h : ∀ s, s ∈ l → FitS s) : (dltL l).length ≤ 2 * l.length := by
  induction l with
  | nil => simp [dltL]
  | cons a l ih =>
    have h1 := ih fun s hs => h s (by simp [hs])
    have h2 := dlt_len (h a (by simp))
    have h3 := h a (by simp)
    unfold FitS at h3
    simp only [dltL, List.flatMap_cons, List.length_append, List.length_cons] at *
    omega
theorem hdA_len (a : Arrive) : (hdA a).length = 8 := by simp [hdA, beN_len]
theorem whats_vl {l : List Seen} (h : ∀ s, s ∈ l → FitS s) : vl (whatsL l) := fun x hx => by
  obtain ⟨s, hs, rfl⟩ := List.mem_map.1 hx
  have := h s hs
  unfold FitS at this; omega
theorem writeS_len' (l : List Int) : (writeS l).length ≤ (l.length + 6) / 7 := writeS_len (l.length + 1) l (by omega)

theorem whats_eq {l : List Seen} (hl : l.length ≤ 1000000) : arrive_whats none l = some (whatsL l) := by
  unfold arrive_whats arrive_whats_l1
  have := loop_seq (step := fun (s : List Int × Int) => arrive_whats_s1 none l s.1 s.2) (r := whatsL l) (fun i => (whatsL (l.take i), (i : Int))) l.length (fun i hi => by
    show arrive_whats_s1 none l _ (i : Int) = _
    unfold arrive_whats_s1
    rw [if_pos (by rw [cm_lss]; simpa using hi), bnd (ix_some (n := i) rfl hi), bnd (app_some (by simp [whatsL]; omega)), ar_add, w_i64 (by omega) (by omega), take_snoc l i hi, whatsL_snoc]
    rfl) (by
    show arrive_whats_s1 none l _ _ = _
    unfold arrive_whats_s1
    rw [if_neg (by rw [cm_lss]; simp), List.take_length]; rfl)
  simpa [whatsL] using this

theorem body_len {a : Arrive} (hr : RightA a) : (bodyA a).length ≤ 8 + 2 * 573 + 8000 := by
  have h1 := writeS_len' (whatsL a.seen)
  have h2 := dltL_len hr.2.2.2
  have h3 := hr.2.2.1
  have h4 : (whatsL a.seen).length = a.seen.length := by simp [whatsL]
  unfold bodyA
  rw [List.length_append, List.length_append, hdA_len, numsL_len]
  omega
theorem write_len4 (a : Arrive) : (writeA a).length % 4 = 0 ∧ (writeA a).length ≤ (bodyA a).length + 3 := by
  unfold writeA
  rw [List.length_append, List.length_replicate]
  unfold fillN
  omega
theorem body_oct {a : Arrive} (hg : GoodA a) (hr : RightA a) : oct (bodyA a) := by
  refine ((oct.app (oct.app (oct.app (oct.app (oct_be _ _) (oct_be _ _)) (oct_be _ _)) ?_) (numsL_oct _))).app (dltL_oct hr.2.2.2)
  intro x hx
  have := hg.c0; have := hg.c1
  simp at hx; omega
theorem write_oct {a : Arrive} (hg : GoodA a) (hr : RightA a) : oct (writeA a) := (body_oct hg hr).app (oct_zeros _)

theorem write_l2 {a : Arrive} (hr : RightA a) {v : List Int} (hv : v.length ≤ 100000) : arrive_Write_l2 none a v 0 = some (v ++ dltL a.seen ++ List.replicate (fillN (v ++ dltL a.seen).length) 0, 0) := by
  have hc := hr.2.2.1
  unfold arrive_Write_l2
  have := loop_seq (step := fun (s : List Int × Int) => arrive_Write_s2 none a s.1 s.2) (r := (v ++ dltL a.seen ++ List.replicate (fillN (v ++ dltL a.seen).length) 0, 0)) (fun i => (v ++ dltL (a.seen.take i), (i : Int))) a.seen.length (fun i hi => by
    show arrive_Write_s2 none a _ (i : Int) = _
    have hf := hr.2.2.2 _ (List.getElem_mem hi)
    have h1 := dltL_len (l := a.seen.take i) fun s hs => hr.2.2.2 s (List.mem_of_mem_take hs)
    have h2 := dlt_len hf
    rw [List.length_take] at h1
    have h3 := hf
    unfold FitS at h3
    unfold arrive_Write_s2
    rw [if_pos (by rw [cm_lss]; simpa using hi), bnd (ix_some (n := i) rfl hi), bnd (delta_eq hf), bnd (app_some (by rw [List.length_append]; omega)), ar_add, w_i64 (by omega) (by omega), take_snoc _ i hi, dltL_snoc, List.append_assoc]
    rfl) (by
    show arrive_Write_s2 none a _ _ = _
    have h1 := dltL_len (l := a.seen) hr.2.2.2
    unfold arrive_Write_s2
    rw [if_neg (by rw [cm_lss]; simp), List.take_length, bnd (fill_eq (by rw [List.length_append]; omega))]; rfl)
  simpa [dltL] using this

theorem write_l1 {a : Arrive} (hr : RightA a) {v c : List Int} {e : Int} (hv : v.length ≤ 10000) (hc : c.length ≤ 10000) (hcs : ∀ x, x ∈ c → 0 ≤ x ∧ x ≤ 65535) : arrive_Write_l1 none a (c, e) v 0 = some (v ++ numsL c ++ dltL a.seen ++ List.replicate (fillN (v ++ numsL c ++ dltL a.seen).length) 0, 0) := by
  unfold arrive_Write_l1
  have := loop_seq (step := fun (s : List Int × Int) => arrive_Write_s1 none a (c, e) s.1 s.2) (r := (v ++ numsL c ++ dltL a.seen ++ List.replicate (fillN (v ++ numsL c ++ dltL a.seen).length) 0, 0)) (fun i => (v ++ numsL (c.take i), (i : Int))) c.length (fun i hi => by
    show arrive_Write_s1 none a (c, e) _ (i : Int) = _
    have hx := hcs _ (List.getElem_mem hi)
    have h1 := numsL_len (c.take i)
    rw [List.length_take] at h1
    unfold arrive_Write_s1
    rw [if_pos (by rw [cm_lss]; simpa using hi), bnd (ix_some (n := i) rfl hi), w_u64 (by omega) (by omega)]
    have hp : octet_Put c[i] 2 = some (beN 2 c[i], 0) := put_eq (n := 2) (by omega) (by omega) (by omega) (.inr (by omega))
    rw [bnd hp, bnd (app_some (by rw [List.length_append, beN_len]; omega)), ar_add, w_i64 (by omega) (by omega), take_snoc _ i hi, numsL_snoc, List.append_assoc]
    rfl) (by
    show arrive_Write_s1 none a (c, e) _ _ = _
    unfold arrive_Write_s1
    rw [if_neg (by rw [cm_lss]; simp), List.take_length, write_l2 hr (by rw [List.length_append, numsL_len]; omega)]; rfl)
  simpa [numsL] using this

theorem awrite_eq {a : Arrive} (hg : GoodA a) (hl : a.seen.length ≤ 1000000) : arrive_Write none a = some (if RightA a then (writeA a, 0) else ([], 1)) := by
  unfold arrive_Write
  rw [bnd (right_eq hl)]
  by_cases hr : RightA a
  · have hc := hr.2.2.1
    have hb0 := hg.b0; have hb1 := hg.b1
    have hw := writeS_len' (whatsL a.seen)
    have hwl : (whatsL a.seen).length = a.seen.length := by simp [whatsL]
    rw [decide_eq_true hr, if_neg (by decide), if_pos hr, w_u64 (by omega) (by omega), w_u64 (by omega) (by omega)]
    have hp1 : octet_Put a.base 2 = some (beN 2 a.base, 0) := put_eq (n := 2) (by omega) (by omega) (by omega) (.inr (by omega))
    have hp2 : octet_Put (a.seen.length : Int) 2 = some (beN 2 (a.seen.length : Int), 0) := put_eq (n := 2) (by omega) (by omega) (by omega) (.inr (by omega))
    rw [bnd hp1, bnd hp2, bnd (puts3 hr.1 hr.2.1)]
    have hj : octet_Join none [beN 2 a.base, beN 2 (a.seen.length : Int), beN 3 (a.time % 16777216), [a.count]] = some (hdA a) := by
      unfold octet_Join
      rw [bnd (concat_eq (by simp) (by simp [beN_len]))]
      simp [hdA]
    rw [bnd hj, bnd (whats_eq hl), bnd (write_eq (by omega)), if_pos (show ∀ x, x ∈ whatsL a.seen → 0 ≤ x ∧ x ≤ 2 from whats_vl hr.2.2.2)]
    rw [write_l1 hr (by rw [hdA_len]; omega) (by omega) (writeS_in ((whatsL a.seen).length + 1) (by omega) (whats_vl hr.2.2.2))]
    rfl
  · rw [decide_eq_false hr, if_pos (by decide), if_neg hr]
end Xb

/-! A telling, read. -/
namespace Xb
open Go

def numA (b : List Int) : Int := numB ((b.drop 2).take 2)
def csA (b : List Int) : List Int := (chunksL 2 (b.drop 8)).map numB
def sumN (l : List Int) : Nat := (l.map Int.toNat).sum
def valD (v : Int) (b : List Int) : Int := if v = 1 then b.headD 0 else if v = 2 then sg2 (numB (b.take 2)) else 0
def deltasS : List Int → List Int → List Seen
  | [], _ => []
  | v :: l, b => ⟨v, valD v b⟩ :: deltasS l (b.drop v.toNat)
def readA (b : List Int) : Except Int (Arrive × Nat × Nat) :=
  if 65520 < b.length ∨ b.length % 4 ≠ 0 then .error 4 else if b.length < 8 then .error 2 else
  if 4000 < numA b then .error 4 else
  match readC (csA b) (numA b) with
  | .error e => .error e
  | .ok (L, u) =>
    if (b.drop (8 + 2 * u)).length < sumN L then .error 2 else if sumN L + 3 < (b.drop (8 + 2 * u)).length then .error 4 else
    .ok (⟨numB (b.take 2), sg3 (numB ((b.drop 4).take 3)), b.getD 7 0, deltasS L (b.drop (8 + 2 * u))⟩, u, sumN L)

theorem sumN_snoc (l : List Int) (x : Int) : sumN (l ++ [x]) = sumN l + x.toNat := by simp [sumN]
theorem sumN_cons (l : List Int) (x : Int) : sumN (x :: l) = x.toNat + sumN l := by simp [sumN]
theorem sumN_bd {l : List Int} (h : vl l) : sumN l ≤ 2 * l.length := by
  induction l with
  | nil => simp [sumN]
  | cons a l ih =>
    have h1 := ih fun x hx => h x (by simp [hx])
    have h2 := h a (by simp)
    rw [sumN_cons, List.length_cons]; omega

theorem numbers_eq {b : List Int} (hb : oct b) (hl : b.length ≤ 100000) (he : b.length % 2 = 0) : arrive_numbers none b = some ((chunksL 2 b).map numB) := by
  unfold arrive_numbers
  rw [bnd (show lnO b = some () by simp [lnO]; omega)]
  unfold arrive_numbers_l1
  have hc := chunks_count (n := 2) (by omega) he
  rw [fold_map (f := numB) (chunksL 2 b) [] (fun y s hy hs => by
    have hlen := chunks_len (n := 2) (by omega) he y hy
    have hyo : oct y := fun x hx => hb x (chunks_mem hy hx)
    have hn := numB_bd y hyo
    rw [hlen] at hn
    have hg : octet_Get none y 0 2 = some (numB y, 0) := by
      have := get_eq (b := y) (at_ := 0) (n := 2) (by omega) (by omega) hyo (by omega) (by omega)
      rw [List.drop_zero, ← hlen, List.take_length, hlen] at this
      exact this
    show arrive_numbers_s1 none y s = _
    unfold arrive_numbers_s1
    rw [bnd hg]
    simp only []
    rw [w_u16 (by omega) (by omega), bnd (app_some (by simp; omega))]) (by simp; omega)]
  rfl
theorem csA_in {b : List Int} (hb : oct b) (he : b.length % 4 = 0) (h8 : 8 ≤ b.length) : ∀ x, x ∈ csA b → 0 ≤ x ∧ x ≤ 65535 := by
  intro x hx
  obtain ⟨y, hy, rfl⟩ := List.mem_map.1 hx
  have hlen := chunks_len (n := 2) (l := b.drop 8) (by omega) (by rw [List.length_drop]; omega) y hy
  have hyo : oct y := fun x hx => hb.drop 8 x (chunks_mem hy hx)
  have hn := numB_bd y hyo
  rw [hlen] at hn
  omega
theorem csA_len {b : List Int} (he : b.length % 4 = 0) (h8 : 8 ≤ b.length) : (csA b).length = (b.length - 8) / 2 := by
  have hc := chunks_count (n := 2) (l := b.drop 8) (by omega) (by rw [List.length_drop]; omega)
  unfold csA
  rw [List.length_map, hc, List.length_drop]

theorem deltas_loop {l b : List Int} (hb : oct b) (hl : b.length ≤ 100000) (hv : vl l) (hll : l.length ≤ 4000) : ∀ (m i pos : Nat) (out : List Seen), i + m = l.length → pos + sumN (l.drop i) ≤ b.length → out.length + m ≤ 5000 →
    loopG none (fun (s : List Seen × Int × Int) => arrive_deltas_s1 none l b s.1 s.2.1 s.2.2) (out, (pos : Int), (i : Int)) = some (out ++ deltasS (l.drop i) (b.drop pos))
  | 0, i, pos, out, hi, _, _ => by
    have e : i = l.length := by omega
    subst e
    have h : arrive_deltas_s1 none l b out (pos : Int) (l.length : Int) = some (.inr out) := by
      unfold arrive_deltas_s1
      rw [if_neg (by rw [cm_lss]; simp)]; rfl
    rw [loop_inr h, List.drop_length]
    simp [deltasS]
  | m + 1, i, pos, out, hi, hp, ho => by
    have hil : i < l.length := by omega
    have hd : l.drop i = l[i] :: l.drop (i + 1) := List.drop_eq_getElem_cons hil
    rw [hd, sumN_cons] at hp
    have hvi := hv _ (List.getElem_mem hil)
    have step : arrive_deltas_s1 none l b out (pos : Int) (i : Int) = some (.inl (out ++ [⟨l[i], valD l[i] (b.drop pos)⟩], ((pos + l[i].toNat : Nat) : Int), ((i + 1 : Nat) : Int))) := by
      unfold arrive_deltas_s1
      rw [if_pos (by rw [cm_lss]; simpa using hil), bnd (ix_some (n := i) rfl hil)]
      have ea : ar .add .i64 (pos : Int) (arrive_size l[i]) = ((pos + l[i].toNat : Nat) : Int) := by
        unfold arrive_size
        rw [ar_add, w_i64 (by omega) (by omega)]; omega
      have ei : ar .add .i64 (i : Int) 1 = ((i + 1 : Nat) : Int) := by rw [ar_add, w_i64 (by omega) (by omega)]; rfl
      unfold valD
      by_cases h1 : l[i] = 1
      · rw [h1] at hp ea ⊢
        have hpl : pos < b.length := by simp at hp; omega
        have hx := hb _ (List.getElem_mem hpl)
        rw [if_pos (by decide), bnd (ix_some (n := pos) rfl hpl), w_i64 (by omega) (by omega), if_pos rfl]
        unfold arrive_deltas_j2
        rw [bnd (app_some (by simp; omega)), ea, ei, List.drop_eq_getElem_cons hpl]
        rfl
      · rw [if_neg (by rw [cm_eql]; simpa using h1), if_neg h1]
        by_cases h2 : l[i] = 2
        · rw [h2] at hp ea ⊢
          have hpl : pos + 2 ≤ b.length := by simp at hp; omega
          rw [if_pos (by decide), bnd (gets2 hb (by omega) hpl), if_pos rfl]
          unfold arrive_deltas_j2
          rw [bnd (app_some (by simp; omega)), ea, ei]
        · rw [if_neg (by rw [cm_eql]; simpa using h2), if_neg h2]
          unfold arrive_deltas_j2
          rw [bnd (app_some (by simp; omega)), ea, ei]
    rw [loop_inl step, deltas_loop hb hl hv hll m (i + 1) (pos + l[i].toNat) _ (by omega) (by omega) (by simp; omega), hd, List.append_assoc]
    have e : b.drop (pos + l[i].toNat) = (b.drop pos).drop l[i].toNat := by rw [List.drop_drop]
    rw [e]
    rfl

theorem deltas_eq {l b : List Int} (hb : oct b) (hl : b.length ≤ 100000) (hv : vl l) (hll : l.length ≤ 4000) (h : sumN l ≤ b.length) : arrive_deltas none l b = some (deltasS l b) := by
  unfold arrive_deltas arrive_deltas_l1
  have := deltas_loop hb hl hv hll l.length 0 0 [] (by omega) (by simpa using h) (by simp; omega)
  simpa using this

theorem size_loop {body x6 x8 L : List Int} {x2 x4 : Int × Int} {u : Nat} {e : Int} {r : Arrive × List Int × List Int × Int} (hv : vl L) (hll : L.length ≤ 4000)
    (h : arrive_read_s2 none body x2 x4 x6 (L, (u : Int), e) x8 ((sumN L : Nat) : Int) ((L.length : Nat) : Int) = some (.inr r)) :
    arrive_read_l2 none body x2 x4 x6 (L, (u : Int), e) x8 0 0 = some r := by
  unfold arrive_read_l2
  have := loop_seq (step := fun (s : Int × Int) => arrive_read_s2 none body x2 x4 x6 (L, (u : Int), e) x8 s.1 s.2) (r := r) (fun i => (((sumN (L.take i) : Nat) : Int), (i : Int))) L.length (fun i hi => by
    show arrive_read_s2 none body x2 x4 x6 (L, (u : Int), e) x8 _ (i : Int) = _
    have hvi := hv _ (List.getElem_mem hi)
    have hb := sumN_bd (l := L.take i) fun x hx => hv x (List.mem_of_mem_take hx)
    rw [List.length_take] at hb
    unfold arrive_read_s2 arrive_size
    rw [if_pos (by rw [cm_lss]; simpa using hi), bnd (ix_some (n := i) rfl hi), ar_add, w_i64 (by omega) (by omega), ar_add, w_i64 (by omega) (by omega), take_snoc L i hi, sumN_snoc]
    congr 4
    · omega) (by
    show arrive_read_s2 none body x2 x4 x6 (L, (u : Int), e) x8 _ _ = _
    rw [List.take_length]
    exact h)
  simpa [sumN] using this

def zeroA : Arrive := ⟨0, 0, 0, []⟩
def rdA (b : List Int) : Arrive × List Int × List Int × Int :=
  match readA b with
  | .error e => (zeroA, [], [], e)
  | .ok (a, u, n) => (a, (csA b).take u, (b.drop (8 + 2 * u)).drop n, 0)

theorem aread_eq {b : List Int} (hb : oct b) (hl : b.length ≤ 100000) : arrive_read none b = some (rdA b) := by
  have hj : arrive_read none b = arrive_read_j1 none b (decide (65520 < b.length ∨ b.length % 4 ≠ 0)) := by
    unfold arrive_read
    by_cases h : 65520 < b.length
    · have : cm .gtr (b.length : Int) 65520 = true := by rw [cm_gtr]; exact decide_eq_true (by omega)
      rw [this, if_pos rfl, decide_eq_true (.inl h)]
    · have h1 : cm .gtr (b.length : Int) 65520 = false := by rw [cm_gtr]; exact decide_eq_false (by omega)
      have h2 : cm .gtr (dv .rem .i64 (b.length : Int) 4) 0 = decide (65520 < b.length ∨ b.length % 4 ≠ 0) := by
        rw [dv_rem (by omega), cm_gtr]; exact decide_eq_decide.2 (by omega)
      rw [h1, if_neg (by decide), h2]
  rw [hj]
  unfold arrive_read_j1 rdA readA
  by_cases h : 65520 < b.length ∨ b.length % 4 ≠ 0
  · rw [decide_eq_true h, if_pos rfl, if_pos h]; rfl
  · rw [decide_eq_false h, if_neg (by decide), if_neg h]
    by_cases h8 : b.length < 8
    · rw [if_pos (by rw [cm_lss]; simp; omega), if_pos h8]; rfl
    · rw [if_neg (by rw [cm_lss]; simp; omega), if_neg h8]
      have e4 : b.length % 4 = 0 := by omega
      have g0 : octet_Get none b 0 2 = some (numB (b.take 2), 0) := by
        have := get_eq (b := b) (at_ := 0) (n := 2) (by omega) (by omega) hb (by omega) (by omega)
        rw [List.drop_zero] at this
        exact this
      have g2 : octet_Get none b 2 2 = some (numA b, 0) := get_eq (b := b) (at_ := 2) (n := 2) (by omega) (by omega) hb (by omega) (by omega)
      have g4 : octet_Signed none b 4 3 = some (sg3 (numB ((b.drop 4).take 3)), 0) := gets3 (at_ := 4) hb (by omega) (by omega)
      have n0 := numB_bd (b.take 2) (hb.take 2)
      have n2 := numB_bd ((b.drop 2).take 2) ((hb.drop 2).take 2)
      rw [List.length_take, show min 2 b.length = 2 by omega] at n0
      rw [List.length_take, List.length_drop, show min 2 (b.length - 2) = 2 by omega] at n2
      have hnA : 0 ≤ numA b ∧ numA b < 65536 := n2
      rw [bnd g0, bnd g2, bnd g4]
      simp only []
      by_cases h4 : 4000 < numA b
      · rw [if_pos (by rw [cm_gtr]; simpa using h4), if_pos h4]; rfl
      · rw [if_neg (by rw [cm_gtr]; simpa using h4), if_neg h4, w_i64 (n := numA b) (by omega) (by omega)]
        have wu : IntKind.u16.wrap (numB (b.take 2)) = numB (b.take 2) := w_u16 (by omega) (by omega)
        have s8 : sub b 8 (b.length : Int) = some (b.drop 8) := by
          rw [sub_some (by omega) (by omega) (by omega)]
          show some ((b.drop 8).take _) = _
          exact congrArg some (List.take_of_length_le (by simp only [List.length_drop]; omega))
        have hcs := csA_in hb e4 (by omega)
        have hcl := csA_len e4 (by omega : 8 ≤ b.length)
        have hnum : arrive_numbers none (b.drop 8) = some (csA b) := numbers_eq (hb.drop 8) (by rw [List.length_drop]; omega) (by rw [List.length_drop]; omega)
        rw [bnd s8, bnd hnum]
        have hcr := read_eq (chunks := csA b) (count := numA b) hcs (by omega)
        cases hr : readC (csA b) (numA b) with
        | error e =>
          have he := readC_err hr
          rw [hr] at hcr
          have hcr2 : chunk_Read none (csA b) (numA b) = some ([], 0, e) := hcr
          rw [bnd hcr2, if_pos (by rw [cm_neq]; simpa using he)]; rfl
        | ok p =>
          obtain ⟨L, u⟩ := p
          obtain ⟨r1, r2, r3, r4⟩ := readC_ok hcs hr
          rw [hr] at hcr
          have hcr2 : chunk_Read none (csA b) (numA b) = some (L, (u : Int), 0) := by rw [hcr]; simp [rdR]
          rw [bnd hcr2]
          rw [if_neg (show ¬ cm .neq (0 : Int) 0 = true by decide)]
          have ep : ar .add .i64 8 (ar .mul .i64 2 (u : Int)) = ((8 + 2 * u : Nat) : Int) := by
            rw [ar_mul, w_i64 (by omega) (by omega), ar_add, w_i64 (by omega) (by omega)]; omega
          have s9 : sub b ((8 + 2 * u : Nat) : Int) (b.length : Int) = some (b.drop (8 + 2 * u)) := by
            rw [sub_some (by omega) (by omega) (by omega), Int.toNat_natCast]
            congr 1
            exact List.take_of_length_le (by simp only [List.length_drop]; omega)
          rw [ep, bnd s9]
          have hbd := sumN_bd r3
          have hxl : (b.drop (8 + 2 * u)).length = b.length - (8 + 2 * u) := List.length_drop
          refine size_loop r3 r2 ?_
          simp only []
          unfold arrive_read_s2
          rw [if_neg (by rw [cm_lss]; simp)]
          by_cases hs1 : (b.drop (8 + 2 * u)).length < sumN L
          · rw [if_pos (by rw [cm_lss]; exact decide_eq_true (by omega)), if_pos hs1]; rfl
          · rw [if_neg (by rw [cm_lss, decide_eq_true_eq]; omega), if_neg hs1]
            have e3 : ar .add .i64 ((sumN L : Nat) : Int) 3 = ((sumN L + 3 : Nat) : Int) := by rw [ar_add, w_i64 (by omega) (by omega)]; omega
            rw [e3]
            by_cases hs2 : sumN L + 3 < (b.drop (8 + 2 * u)).length
            · rw [if_pos (by rw [cm_gtr]; exact decide_eq_true (by omega)), if_pos hs2]; rfl
            · rw [if_neg (by rw [cm_gtr, decide_eq_true_eq]; omega), if_neg hs2]
              have h7 : 7 < b.length := by omega
              have i7 : ix b 7 = some (b.getD 7 0) := by
                have := ix_some (l := b) (n := 7) (i := 7) rfl h7
                rw [this, List.getD_eq_getElem?_getD, List.getElem?_eq_getElem h7]; rfl
              rw [bnd i7, bnd (deltas_eq (hb.drop _) (by omega) r3 r2 (by omega))]
              rw [bnd (sub_some (l := csA b) (a := 0) (b := (u : Int)) (by omega) (by omega) (by omega)), bnd (sub_some (l := b.drop (8 + 2 * u)) (by omega) (by omega) (by omega))]
              simp only [Option.map_some, wu]
              congr 4
              rw [Int.toNat_natCast, Int.toNat_natCast, List.take_of_length_le (by rw [List.length_drop]; omega)]
end Xb

/-! A telling, written and read, and read and written. -/
namespace Xb
open Go

theorem sum_whats {l : List Seen} (h : ∀ s, s ∈ l → FitS s) : sumN (whatsL l) = (dltL l).length := by
  induction l with
  | nil => rfl
  | cons a l ih =>
    have h1 := ih fun s hs => h s (by simp [hs])
    have h2 := dlt_len (h a (by simp))
    have e : dltL (a :: l) = dlt a ++ dltL l := by simp [dltL]
    have e2 : whatsL (a :: l) = a.what :: whatsL l := rfl
    rw [e, e2, sumN_cons, List.length_append, h1]; omega

theorem valD_dlt {s : Seen} (h : FitS s) (t : List Int) : valD s.what (dlt s ++ t) = s.delta := by
  unfold FitS at h; unfold valD dlt
  by_cases h1 : s.what = 1
  · rw [if_pos h1, if_neg (by omega), if_pos h1]; rfl
  · rw [if_neg h1]
    by_cases h2 : s.what = 2
    · have e : (beN 2 (s.delta % 65536) ++ t).take 2 = beN 2 (s.delta % 65536) := List.take_left' (beN_len 2 _)
      rw [if_pos h2, if_pos h2, e, num_be 2 _ (by omega) (by omega)]
      unfold sg2
      split <;> omega
    · rw [if_neg h2]; omega

theorem deltas_write : ∀ {l : List Seen} (t : List Int), (∀ s, s ∈ l → FitS s) → deltasS (whatsL l) (dltL l ++ t) = l
  | [], _, _ => rfl
  | a :: l, t, h => by
    have ha := h a (by simp)
    have e : dltL (a :: l) ++ t = dlt a ++ (dltL l ++ t) := by simp [dltL]
    have e2 : whatsL (a :: l) = a.what :: whatsL l := rfl
    have hl := dlt_len ha
    rw [e, e2, deltasS, valD_dlt ha, List.drop_left' (by omega), deltas_write t fun s hs => h s (by simp [hs])]

theorem deltas_back : ∀ {l b : List Int}, vl l → oct b → sumN l ≤ b.length → whatsL (deltasS l b) = l ∧ dltL (deltasS l b) = b.take (sumN l) ∧ ∀ s, s ∈ deltasS l b → FitS s
  | [], b, _, _, _ => by simp [deltasS, whatsL, dltL, sumN]
  | v :: l, b, hv, hb, h => by
    rw [sumN_cons] at h
    have hvv := hv v (by simp)
    obtain ⟨i1, i2, i3⟩ := deltas_back (l := l) (b := b.drop v.toNat) (fun x hx => hv x (by simp [hx])) (hb.drop _) (by rw [List.length_drop]; omega)
    have key : dlt ⟨v, valD v b⟩ = b.take v.toNat ∧ FitS ⟨v, valD v b⟩ := by
      unfold dlt FitS valD
      by_cases h1 : v = 1
      · subst h1
        cases b with
        | nil => simp at h
        | cons x b =>
          have := hb x (by simp)
          simp; omega
      · by_cases h2 : v = 2
        · subst h2
          have hn := numB_bd (b.take 2) (hb.take 2)
          have hl : (b.take 2).length = 2 := by rw [List.length_take]; simp at h; omega
          rw [hl] at hn
          have e : sg2 (numB (b.take 2)) % 65536 = numB (b.take 2) := by unfold sg2; split <;> omega
          have hbe := be_num (b.take 2) (hb.take 2)
          rw [hl] at hbe
          have hr : -32768 ≤ sg2 (numB (b.take 2)) ∧ sg2 (numB (b.take 2)) ≤ 32767 := by unfold sg2; split <;> omega
          simp only [if_neg h1, if_true, e, hbe]
          exact ⟨rfl, .inr (.inr ⟨trivial, hr.1, hr.2⟩)⟩
        · have h0 : v = 0 := by omega
          subst h0; simp
    refine ⟨?_, ?_, ?_⟩
    · show v :: whatsL (deltasS l (b.drop v.toNat)) = _
      rw [i1]
    · have e : dltL (deltasS (v :: l) b) = dlt ⟨v, valD v b⟩ ++ dltL (deltasS l (b.drop v.toNat)) := by simp [deltasS, dltL]
      rw [e, key.1, i2, sumN_cons, List.take_add]
    · intro s hs
      rcases List.mem_cons.1 hs with rfl | hs
      · exact key.2
      · exact i3 s hs

theorem chunks_app {α : Type} {n : Nat} (h : 1 ≤ n) (r : List α) : ∀ (L : List (List α)), (∀ c, c ∈ L → c.length = n) → chunksL n (L.flatten ++ r) = L ++ chunksL n r
  | [], _ => by simp
  | c :: L, hc => by
    have h1 := hc c (by simp)
    have hne : (c :: L).flatten ++ r ≠ [] := by
      intro h0
      have := congrArg List.length h0
      simp only [List.flatten_cons, List.length_append, List.length_nil] at this; omega
    rw [chunks_cons h hne]
    have e : (c :: L).flatten ++ r = c ++ (L.flatten ++ r) := by simp
    rw [e, List.take_left' h1, List.drop_left' h1, chunks_app h r L fun d hd => hc d (by simp [hd])]
    rfl

theorem nums_chunks {ws r : List Int} (hw : ∀ x, x ∈ ws → 0 ≤ x ∧ x ≤ 65535) : (chunksL 2 (numsL ws ++ r)).map numB = ws ++ (chunksL 2 r).map numB := by
  have e : numsL ws = (ws.map (beN 2)).flatten := by simp [numsL, List.flatMap_def]
  rw [e, chunks_app (by omega) r _ (fun c hc => by
    obtain ⟨x, _, rfl⟩ := List.mem_map.1 hc
    exact beN_len 2 x), List.map_append, List.map_map]
  congr 1
  have : ∀ (l : List Int), (∀ x, x ∈ l → 0 ≤ x ∧ x ≤ 65535) → l.map (numB ∘ beN 2) = l := by
    intro l hl
    induction l with
    | nil => rfl
    | cons a l ih =>
      have := hl a (by simp)
      rw [List.map_cons, ih fun x hx => hl x (by simp [hx])]
      congr 1
      exact num_be 2 a (by omega) (by omega)
  exact this ws hw

theorem nums_back {C : List (List Int)} (hC : ∀ c, c ∈ C → c.length = 2 ∧ oct c) : numsL (C.map numB) = C.flatten := by
  induction C with
  | nil => rfl
  | cons c C ih =>
    have h := hC c (by simp)
    have hb := be_num c h.2
    rw [h.1] at hb
    have e : numsL ((c :: C).map numB) = beN 2 (numB c) ++ numsL (C.map numB) := by simp [numsL]
    rw [e, hb, ih fun d hd => hC d (by simp [hd])]
    simp

theorem wl_in {a : Arrive} (hr : RightA a) : ∀ x, x ∈ writeS (whatsL a.seen) → 0 ≤ x ∧ x ≤ 65535 :=
  writeS_in ((whatsL a.seen).length + 1) (by omega) (whats_vl hr.2.2.2)

/-- what is written of one that is right is read as it was -/
theorem read_write {a : Arrive} (hg : GoodA a) (hr : RightA a) : readA (writeA a) = .ok (a, (writeS (whatsL a.seen)).length, sumN (whatsL a.seen)) := by
  have hbl := body_len hr
  have hw4 := write_len4 a
  have hc := hr.2.2.1
  have hhd := hdA_len a
  have hb0 := hg.b0; have hb1 := hg.b1; have hc0 := hg.c0; have hc1 := hg.c1
  have ht0 := hr.1; have ht1 := hr.2.1
  have hsw := sum_whats hr.2.2.2
  obtain ⟨Z, hZ⟩ : ∃ Z, Z = List.replicate (fillN (bodyA a).length) (0 : Int) := ⟨_, rfl⟩
  have hZl : Z.length ≤ 3 := by rw [hZ, List.length_replicate]; unfold fillN; omega
  have e0 : writeA a = hdA a ++ (numsL (writeS (whatsL a.seen)) ++ (dltL a.seen ++ Z)) := by rw [hZ]; simp [writeA, bodyA]
  have e1 : writeA a = beN 2 a.base ++ (beN 2 (a.seen.length : Int) ++ (beN 3 (a.time % 16777216) ++ ([a.count] ++ (numsL (writeS (whatsL a.seen)) ++ (dltL a.seen ++ Z))))) := by rw [e0]; simp [hdA]
  have d8 : (writeA a).drop 8 = numsL (writeS (whatsL a.seen)) ++ (dltL a.seen ++ Z) := by rw [e0, List.drop_left' hhd]
  have dx : (writeA a).drop (8 + 2 * (writeS (whatsL a.seen)).length) = dltL a.seen ++ Z := by
    rw [← List.drop_drop, d8, List.drop_left' (numsL_len _)]
  have hn : numA (writeA a) = (a.seen.length : Int) := by
    unfold numA
    rw [e1, List.drop_left' (beN_len 2 _), List.take_left' (beN_len 2 _), num_be 2 _ (by omega) (by omega)]
  have hcs : csA (writeA a) = writeS (whatsL a.seen) ++ (chunksL 2 (dltL a.seen ++ Z)).map numB := by
    unfold csA
    rw [d8, nums_chunks (wl_in hr)]
  have hwl : (whatsL a.seen).length = a.seen.length := by simp [whatsL]
  have hrd := readC_write (more := (chunksL 2 (dltL a.seen ++ Z)).map numB) (whats_vl hr.2.2.2) (by omega : (whatsL a.seen).length ≤ 4000)
  rw [hwl] at hrd
  have hlen : 8 ≤ (writeA a).length := by rw [e0, List.length_append, hhd]; omega
  unfold readA
  rw [if_neg (by omega), if_neg (by omega), hn, if_neg (by omega), hcs, hrd]
  simp only []
  rw [dx, hsw, if_neg (by simp), if_neg (by simp; omega), ← hsw]
  have hs : deltasS (whatsL a.seen) (dltL a.seen ++ Z) = a.seen := deltas_write Z hr.2.2.2
  have h0 : numB ((writeA a).take 2) = a.base := by
    rw [e1, List.take_left' (beN_len 2 _), num_be 2 _ (by omega) (by omega)]
  have h4 : sg3 (numB (((writeA a).drop 4).take 3)) = a.time := by
    have : (writeA a).drop 4 = beN 3 (a.time % 16777216) ++ ([a.count] ++ (numsL (writeS (whatsL a.seen)) ++ (dltL a.seen ++ Z))) := by
      rw [show (4 : Nat) = 2 + 2 from rfl, ← List.drop_drop, e1, List.drop_left' (beN_len 2 _), List.drop_left' (beN_len 2 _)]
    rw [this, List.take_left' (beN_len 3 _), num_be 3 _ (by omega) (by omega)]
    unfold sg3
    split <;> omega
  have h7 : (writeA a).getD 7 0 = a.count := by
    have : (writeA a).drop 7 = [a.count] ++ (numsL (writeS (whatsL a.seen)) ++ (dltL a.seen ++ Z)) := by
      rw [show (7 : Nat) = 2 + 2 + 3 from rfl, ← List.drop_drop, ← List.drop_drop, e1, List.drop_left' (beN_len 2 _), List.drop_left' (beN_len 2 _), List.drop_left' (beN_len 3 _)]
    have hq : (writeA a)[7]? = some a.count := by
      rw [show (7 : Nat) = 7 + 0 from rfl, ← List.getElem?_drop, this]; rfl
    rw [List.getD_eq_getElem?_getD, hq]; rfl
  rw [hs, h0, h4, h7]

/-- what is read -/
theorem read_ok {b : List Int} (hb : oct b) {a : Arrive} {u n : Nat} (h : readA b = .ok (a, u, n)) :
    b.length ≤ 65520 ∧ b.length % 4 = 0 ∧ 8 ≤ b.length ∧ RightA a ∧ GoodA a ∧ numA b = (a.seen.length : Int) ∧ readC (csA b) (a.seen.length : Int) = .ok (whatsL a.seen, u) ∧ u ≤ (csA b).length ∧ n = sumN (whatsL a.seen) ∧
    n ≤ (b.drop (8 + 2 * u)).length ∧ (b.drop (8 + 2 * u)).length ≤ n + 3 ∧ dltL a.seen = (b.drop (8 + 2 * u)).take n ∧ hdA a = b.take 8 := by
  unfold readA at h
  split at h
  · cases h
  · rename_i h1
    split at h
    · cases h
    · rename_i h2
      split at h
      · cases h
      · rename_i h3
        cases hr : readC (csA b) (numA b) with
        | error e => rw [hr] at h; cases h
        | ok p =>
          obtain ⟨L, v⟩ := p
          rw [hr] at h
          simp only [] at h
          split at h
          · cases h
          · rename_i h4
            split at h
            · cases h
            · rename_i h5
              cases h
              have e4 : b.length % 4 = 0 := by omega
              have hcs := csA_in hb e4 (by omega)
              obtain ⟨r1, r2, r3, r4⟩ := readC_ok hcs hr
              obtain ⟨d1, d2, d3⟩ := deltas_back r3 (hb.drop (8 + 2 * u)) (by omega)
              have hlen : (deltasS L (b.drop (8 + 2 * u))).length = L.length := by
                have := congrArg List.length d1
                simpa [whatsL] using this
              have l2 : (b.take 2).length = 2 := by rw [List.length_take]; omega
              have l22 : ((b.drop 2).take 2).length = 2 := by rw [List.length_take, List.length_drop]; omega
              have l43 : ((b.drop 4).take 3).length = 3 := by rw [List.length_take, List.length_drop]; omega
              have n0 := numB_bd (b.take 2) (hb.take 2)
              have n3 := numB_bd ((b.drop 4).take 3) ((hb.drop 4).take 3)
              rw [l2] at n0
              rw [l43] at n3
              have b0 := be_num _ (hb.take 2)
              have b2 := be_num _ ((hb.drop 2).take 2)
              have b4 := be_num _ ((hb.drop 4).take 3)
              rw [l2] at b0; rw [l22] at b2; rw [l43] at b4
              have h7 : 7 < b.length := by omega
              have g7 : b.getD 7 0 = b[7] := by rw [List.getD_eq_getElem?_getD, List.getElem?_eq_getElem h7]; rfl
              have h7b := hb _ (List.getElem_mem h7)
              have hsg : sg3 (numB ((b.drop 4).take 3)) % 16777216 = numB ((b.drop 4).take 3) := by unfold sg3; split <;> omega
              have hsr : -8388608 ≤ sg3 (numB ((b.drop 4).take 3)) ∧ sg3 (numB ((b.drop 4).take 3)) ≤ 8388607 := by unfold sg3; split <;> omega
              refine ⟨by omega, e4, by omega, ⟨hsr.1, hsr.2, by rw [hlen]; exact r2, d3⟩, ⟨n0.1, by show numB (b.take 2) ≤ 65535; omega, by rw [g7]; exact h7b.1, by rw [g7]; exact h7b.2⟩, ?_, ?_, r4, ?_, by omega, by omega, d2, ?_⟩
              · show numA b = ((deltasS L (b.drop (8 + 2 * u))).length : Int)
                rw [hlen]; omega
              · show readC (csA b) ((deltasS L (b.drop (8 + 2 * u))).length : Int) = .ok (whatsL (deltasS L (b.drop (8 + 2 * u))), u)
                rw [hlen, d1, r1, hr]
              · show sumN L = sumN (whatsL (deltasS L (b.drop (8 + 2 * u))))
                rw [d1]
              · unfold hdA
                show beN 2 (numB (b.take 2)) ++ beN 2 ((deltasS L (b.drop (8 + 2 * u))).length : Int) ++ beN 3 (sg3 (numB ((b.drop 4).take 3)) % 16777216) ++ [b.getD 7 0] = b.take 8
                rw [hlen, r1, b0, hsg, b4]
                unfold numA
                rw [b2, g7]
                have t8 : b.take 8 = b.take 2 ++ (b.drop 2).take 2 ++ (b.drop 4).take 3 ++ (b.drop 7).take 1 := by
                  rw [show (8 : Nat) = 2 + 2 + 3 + 1 from rfl, List.take_add, List.take_add, List.take_add]
                have t1 : (b.drop 7).take 1 = [b[7]] := by rw [List.drop_eq_getElem_cons h7]; rfl
                rw [t8, t1]
end Xb

/-! A telling: canonical. -/
namespace Xb
open Go

theorem readA_err {b : List Int} {e : Int} (h : readA b = .error e) : e ≠ 0 := by
  unfold readA at h
  split at h
  · cases h; decide
  · split at h
    · cases h; decide
    · split at h
      · cases h; decide
      · cases hr : readC (csA b) (numA b) with
        | error e' => rw [hr] at h; cases h; exact readC_err hr
        | ok p =>
          obtain ⟨L, u⟩ := p
          rw [hr] at h
          simp only [] at h
          split at h
          · cases h; decide
          · split at h
            · cases h; decide
            · cases h

def allZ (l : List Int) : Bool := decide (∀ y, y ∈ l → y = 0)
theorem allZ_iff {l : List Int} : allZ l = true ↔ ∀ y, y ∈ l → y = 0 := by unfold allZ; exact decide_eq_true_iff
def canonC (cs : List Int) (count : Int) : Bool := match readC cs count with | .ok (y, _) => decide (writeS y = cs) | .error _ => false
def canonS (b : List Int) : Bool :=
  match readA b with
  | .error _ => false
  | .ok (a, u, n) => canonC ((csA b).take u) (a.seen.length : Int) && allZ ((b.drop (8 + 2 * u)).drop n)

theorem acanon_eq {b : List Int} (hb : oct b) (hl : b.length ≤ 100000) : arrive_Canon none b = some (canonS b) := by
  unfold arrive_Canon canonS
  rw [bnd (aread_eq hb hl)]
  unfold rdA
  cases hr : readA b with
  | error e =>
    have he := readA_err hr
    have c : cm .eql e 0 = false := by rw [cm_eql]; simpa using he
    simp only [c, gTF, Option.bind_some, Bool.false_and]
  | ok p =>
    obtain ⟨a, u, n⟩ := p
    have hok := read_ok hb hr
    have c : cm .eql (0 : Int) 0 = true := by decide
    have hcs := csA_in hb hok.2.1 hok.2.2.1
    have hcl := csA_len hok.2.1 hok.2.2.1
    simp only [c, gTT, Bool.true_and]
    have hcc : chunk_Canon none ((csA b).take u) (a.seen.length : Int) = some (canonC ((csA b).take u) (a.seen.length : Int)) := canon_eq (fun x hx => hcs x (List.mem_of_mem_take hx)) (by rw [List.length_take]; omega)
    rw [bnd hcc]
    cases canonC ((csA b).take u) (a.seen.length : Int)
    · simp only [gTF, Option.bind_some, Bool.false_and]
    · simp only [gTT, Bool.true_and]
      rw [bnd (zero_eq ((hb.drop _).drop _))]; rfl

theorem readT_take : ∀ {cs : List Int} {rem : Nat} {y : List Int} {n : Nat}, readT cs rem = .ok (y, n) → readT (cs.take n) rem = .ok (y, n)
  | [], rem, y, n, h => by simp [readT] at h
  | c :: cs, rem, y, n, h => by
    rw [readT] at h
    by_cases h3 : (3 : Int) ∈ toldS c rem
    · rw [if_pos h3] at h; cases h
    · rw [if_neg h3] at h
      by_cases hq : (toldS c rem).length = rem
      · rw [if_pos hq] at h; cases h
        show readT [c] rem = _
        rw [readT, if_neg h3, if_pos hq]
      · rw [if_neg hq] at h
        cases hr : readT cs (rem - (toldS c rem).length) with
        | error e => rw [hr] at h; cases h
        | ok p =>
          obtain ⟨z, m⟩ := p
          rw [hr] at h; cases h
          show readT (c :: cs.take m) rem = _
          rw [readT, if_neg h3, if_neg hq, readT_take hr]
theorem readC_take {cs : List Int} {count : Int} {y : List Int} {n : Nat} (h : readC cs count = .ok (y, n)) : readC (cs.take n) count = .ok (y, n) := by
  unfold readC at h ⊢
  split at h
  · cases h
  · rename_i h1
    rw [if_neg h1]
    split at h
    · rename_i h2
      cases h
      rw [if_pos h2]
    · rename_i h2
      rw [if_neg h2]
      exact readT_take h

theorem flat_len2 {α : Type} : ∀ {C : List (List α)}, (∀ c, c ∈ C → c.length = 2) → C.flatten.length = 2 * C.length
  | [], _ => rfl
  | c :: C, h => by
    have h1 := h c (by simp)
    have h2 := flat_len2 (C := C) fun d hd => h d (by simp [hd])
    simp only [List.flatten_cons, List.length_append, List.length_cons]; omega

theorem cs_take {b : List Int} (hb : oct b) (he : b.length % 4 = 0) (h8 : 8 ≤ b.length) {u : Nat} (hu : u ≤ (csA b).length) : numsL ((csA b).take u) = (b.drop 8).take (2 * u) := by
  have hd : (b.drop 8).length % 2 = 0 := by rw [List.length_drop]; omega
  have hlen := chunks_len (n := 2) (l := b.drop 8) (by omega) hd
  unfold csA at hu ⊢
  rw [List.length_map] at hu
  rw [← List.map_take, nums_back (fun c hc => ⟨hlen c (List.mem_of_mem_take hc), fun x hx => hb.drop 8 x (chunks_mem (List.mem_of_mem_take hc) hx)⟩)]
  have hf := chunks_flat (n := 2) (by omega) (b.drop 8)
  have e : (chunksL 2 (b.drop 8)).flatten = ((chunksL 2 (b.drop 8)).take u).flatten ++ ((chunksL 2 (b.drop 8)).drop u).flatten := by
    rw [← List.flatten_append, List.take_append_drop]
  have hl : ((chunksL 2 (b.drop 8)).take u).flatten.length = 2 * u := by
    rw [flat_len2 fun c hc => hlen c (List.mem_of_mem_take hc), List.length_take]; omega
  rw [← hf, e, List.take_left' hl]
  have : ((chunksL 2 (b.drop 8)).take u).flatten ++ ((chunksL 2 (b.drop 8)).drop u).flatten = b.drop 8 := by rw [← e, hf]
  rw [this]

theorem canon_write {b : List Int} (hb : oct b) {a : Arrive} {u n : Nat} (hr : readA b = .ok (a, u, n)) : canonS b = true ↔ writeA a = b := by
  obtain ⟨k1, k2, k3, k4, k5, k6, k7, k8, k9, k10, k11, k12, k13⟩ := read_ok hb hr
  constructor
  · intro h
    unfold canonS at h
    rw [hr] at h
    unfold canonC at h
    simp only [readC_take k7, Bool.and_eq_true, decide_eq_true_eq, allZ_iff] at h
    obtain ⟨h1, h2⟩ := h
    have hct := cs_take hb k2 k3 k8
    rw [← h1] at hct
    have hul : (writeS (whatsL a.seen)).length = u := by rw [h1, List.length_take]; omega
    have hrest : (b.drop (8 + 2 * u)).drop n = List.replicate ((b.drop (8 + 2 * u)).drop n).length 0 := List.eq_replicate_of_mem h2
    have eb : b = bodyA a ++ (b.drop (8 + 2 * u)).drop n := by
      unfold bodyA
      rw [k13, hct, k12, List.append_assoc, List.append_assoc, List.take_append_drop, ← List.drop_drop, List.take_append_drop, List.take_append_drop]
    have hbl : b.length = (bodyA a).length + ((b.drop (8 + 2 * u)).drop n).length := by
      conv => lhs; rw [eb]
      rw [List.length_append]
    have hrl : ((b.drop (8 + 2 * u)).drop n).length = (b.drop (8 + 2 * u)).length - n := List.length_drop
    have hfill : ((b.drop (8 + 2 * u)).drop n).length = fillN (bodyA a).length := by unfold fillN; omega
    unfold writeA
    rw [← hfill, ← hrest]
    exact eb.symm
  · intro h
    have hrw := read_write k5 k4
    rw [h, hr] at hrw
    cases hrw
    have hd : (b.drop (8 + 2 * (writeS (whatsL a.seen)).length)).drop (sumN (whatsL a.seen)) = List.replicate (fillN (bodyA a).length) 0 := by
      have hsw := sum_whats k4.2.2.2
      have e : b = hdA a ++ (numsL (writeS (whatsL a.seen)) ++ (dltL a.seen ++ List.replicate (fillN (bodyA a).length) 0)) := by rw [← h]; simp [writeA, bodyA]
      conv => lhs; rw [e]
      rw [← List.drop_drop, List.drop_left' (hdA_len a), List.drop_left' (numsL_len _), List.drop_left' hsw.symm]
    have hcs : (csA b).take (writeS (whatsL a.seen)).length = writeS (whatsL a.seen) := by
      have hsw : csA b = writeS (whatsL a.seen) ++ (chunksL 2 (dltL a.seen ++ List.replicate (fillN (bodyA a).length) 0)).map numB := by
        have e : b = hdA a ++ (numsL (writeS (whatsL a.seen)) ++ (dltL a.seen ++ List.replicate (fillN (bodyA a).length) 0)) := by rw [← h]; simp [writeA, bodyA]
        unfold csA
        conv => lhs; rw [e]
        rw [List.drop_left' (hdA_len a), nums_chunks (wl_in k4)]
      rw [hsw, List.take_left]
    unfold canonS
    unfold canonC
    rw [hr]
    simp only [readC_take k7, Bool.and_eq_true, decide_eq_true_eq, allZ_iff]
    refine ⟨hcs.symm, fun y hy => ?_⟩
    rw [hd] at hy
    exact List.eq_of_mem_replicate hy

theorem same_eq {a b : Arrive} (hl : a.seen.length ≤ 1000000) : ref19_Same none a b = some (decide (a = b)) := by
  unfold ref19_Same
  by_cases h : a.base = b.base ∧ a.time = b.time ∧ a.count = b.count ∧ a.seen.length = b.seen.length
  · obtain ⟨h1, h2, h3, h4⟩ := h
    rw [if_neg (by rw [h1, h2, h3, h4]; simp [cm_neq])]
    unfold ref19_Same_l1
    have := find_loop (l := List.range a.seen.length) (step := fun s => ref19_Same_s1 none a b s) (p := fun i => !decide (a.seen[i]? = b.seen[i]?)) (hit := fun _ => false) (miss := true) (by
      show ref19_Same_s1 none a b _ = _
      unfold ref19_Same_s1
      rw [if_neg (by rw [cm_lss]; simp)]; rfl) (fun i hi => by
      show ref19_Same_s1 none a b (i : Int) = _
      rw [List.length_range] at hi
      have hib : i < b.seen.length := by omega
      unfold ref19_Same_s1
      rw [if_pos (by rw [cm_lss]; simpa using hi), bnd (ix_some (n := i) rfl hi), bnd (ix_some (n := i) rfl hib), List.getElem_range, List.getElem?_eq_getElem hi, List.getElem?_eq_getElem hib]
      have e : (a.seen[i].what == b.seen[i].what && (a.seen[i].delta == b.seen[i].delta && true)) = decide (some a.seen[i] = some b.seen[i]) := by
        rw [Bool.and_true, Bool.eq_iff_iff, decide_eq_true_iff (p := some a.seen[i] = some b.seen[i])]
        simp only [Bool.and_eq_true, beq_iff_eq, Option.some.injEq]
        generalize a.seen[i] = x
        generalize b.seen[i] = y
        cases x; cases y; simp
      rw [e]
      by_cases hd : some a.seen[i] = some b.seen[i]
      · rw [decide_eq_true hd, if_neg (by decide), if_neg (by decide), ar_add, w_i64 (by omega) (by omega)]; rfl
      · rw [decide_eq_false hd, if_pos (by decide), if_pos (by decide)]; rfl)
    rw [this]
    congr 1
    cases hf : (List.range a.seen.length).findIdx? (fun i => !decide (a.seen[i]? = b.seen[i]?)) with
    | none =>
      rw [List.findIdx?_eq_none_iff] at hf
      have hs : a.seen = b.seen := List.ext_getElem? fun i => by
        by_cases hi : i < a.seen.length
        · simpa using hf i (List.mem_range.2 hi)
        · rw [List.getElem?_eq_none (by omega), List.getElem?_eq_none (by omega)]
      refine (decide_eq_true ?_).symm
      cases a; cases b
      simp_all
    | some i =>
      rw [List.findIdx?_eq_some_iff_getElem] at hf
      obtain ⟨hi, hp, _⟩ := hf
      refine (decide_eq_false fun e => ?_).symm
      subst e
      simp at hp
  · rw [if_pos (by
      simp only [cm_neq, Bool.or_eq_true, Bool.not_eq_true', decide_eq_false_iff_not]
      by_cases h1 : a.base = b.base
      · by_cases h2 : a.time = b.time
        · by_cases h3 : a.count = b.count
          · right; intro h4; exact h ⟨h1, h2, h3, by omega⟩
          · left; right; exact h3
        · left; left; right; exact h2
      · left; left; left; exact h1)]
    refine congrArg some (decide_eq_false fun e => h ?_).symm
    subst e
    exact ⟨rfl, rfl, rfl, rfl⟩

theorem Read_eq {b : List Int} (hb : oct b) (hl : b.length ≤ 100000) : arrive_Read none b = some ((rdA b).1, (rdA b).2.2.2) := by
  unfold arrive_Read; rw [bnd (aread_eq hb hl)]
end Xb

