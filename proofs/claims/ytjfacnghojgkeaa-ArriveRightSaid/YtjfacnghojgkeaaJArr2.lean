/- Own text: JArr2. -/
import Derived.Test.YtjfacnghojgkeaaJOct
import Derived.Test.YtjfacnghojgkeaaJPad
import Derived.Test.YtjfacnghojgkeaaJChunkB
import Derived.Test.YtjfacnghojgkeaaJArr1
set_option linter.all false
set_option linter.unusedVariables false
set_option linter.unusedSimpArgs false
set_option linter.unnecessarySimpa false
set_option linter.deprecated false
/-! Numbers with signs, and a telling's body. -/
namespace Xb
open Go

def oct (l : List Int) : Prop := ∀ x, x ∈ l → 0 ≤ x ∧ x ≤ 255
theorem oct.app {a b : List Int} (ha : oct a) (hb : oct b) : oct (a ++ b) := fun x hx => (List.mem_append.1 hx).elim (ha x) (hb x)
theorem oct.drop {a : List Int} (ha : oct a) (n : Nat) : oct (a.drop n) := fun x hx => ha x (List.mem_of_mem_drop hx)
theorem oct.take {a : List Int} (ha : oct a) (n : Nat) : oct (a.take n) := fun x hx => ha x (List.mem_of_mem_take hx)
theorem oct_zeros (k : Nat) : oct (List.replicate k 0) := fun x hx => by rw [List.eq_of_mem_replicate hx]; omega
theorem oct_be (n : Nat) (v : Int) : oct (beN n v) := beN_byte n v

/-- a number with a sign, of so many octets -/
def sg2 (x : Int) : Int := if x < 32768 then x else x - 65536
def sg3 (x : Int) : Int := if x < 8388608 then x else x - 16777216

theorem puts2 {v : Int} (h0 : -32768 ≤ v) (h1 : v ≤ 32767) : octet_PutSigned v 2 = some (beN 2 (v % 65536), 0) := by
  have e0 : ar .sub .i64 64 (ar .mul .i64 8 2) = 48 := by decide
  unfold octet_PutSigned
  rw [if_neg (by decide), e0]
  simp only [sfO_nn (show (0 : Int) ≤ 48 by decide), Option.bind_some]
  have e1 : sf .shl .i64 v 48 = v * 281474976710656 := by
    rw [sf_shl (y := 48) (n := 48) rfl (by decide)]
    exact w_i64 (by omega) (by omega)
  have e2 : sf .shr .i64 (v * 281474976710656) 48 = v := by
    rw [sf_shr (y := 48) (n := 48) rfl (by decide)]
    show v * 281474976710656 / 281474976710656 = v
    omega
  rw [e1, e2, if_neg (by rw [cm_neq]; simp)]
  have e3 : sf .shl .u64 (IntKind.u64.wrap v) 48 = v % 65536 * 281474976710656 := by
    rw [sf_shl (y := 48) (n := 48) rfl (by decide), wu64, wu64]
    show v % 18446744073709551616 * 281474976710656 % 18446744073709551616 = _
    omega
  have e4 : sf .shr .u64 (v % 65536 * 281474976710656) 48 = v % 65536 := by
    rw [sf_shr (y := 48) (n := 48) rfl (by decide)]
    show v % 65536 * 281474976710656 / 281474976710656 = _
    omega
  rw [e3, e4, show (2 : Int) = ((2 : Nat) : Int) from rfl, put_eq (by omega) (by omega) (by omega) (.inr (by omega))]
  rfl
theorem puts3 {v : Int} (h0 : -8388608 ≤ v) (h1 : v ≤ 8388607) : octet_PutSigned v 3 = some (beN 3 (v % 16777216), 0) := by
  have e0 : ar .sub .i64 64 (ar .mul .i64 8 3) = 40 := by decide
  unfold octet_PutSigned
  rw [if_neg (by decide), e0]
  simp only [sfO_nn (show (0 : Int) ≤ 40 by decide), Option.bind_some]
  have e1 : sf .shl .i64 v 40 = v * 1099511627776 := by
    rw [sf_shl (y := 40) (n := 40) rfl (by decide)]
    exact w_i64 (by omega) (by omega)
  have e2 : sf .shr .i64 (v * 1099511627776) 40 = v := by
    rw [sf_shr (y := 40) (n := 40) rfl (by decide)]
    show v * 1099511627776 / 1099511627776 = v
    omega
  rw [e1, e2, if_neg (by rw [cm_neq]; simp)]
  have e3 : sf .shl .u64 (IntKind.u64.wrap v) 40 = v % 16777216 * 1099511627776 := by
    rw [sf_shl (y := 40) (n := 40) rfl (by decide), wu64, wu64]
    show v % 18446744073709551616 * 1099511627776 % 18446744073709551616 = _
    omega
  have e4 : sf .shr .u64 (v % 16777216 * 1099511627776) 40 = v % 16777216 := by
    rw [sf_shr (y := 40) (n := 40) rfl (by decide)]
    show v % 16777216 * 1099511627776 / 1099511627776 = _
    omega
  rw [e3, e4, show (3 : Int) = ((3 : Nat) : Int) from rfl, put_eq (by omega) (by omega) (by omega) (.inr (by omega))]
  rfl

theorem gets2 {b : List Int} {at_ : Nat} (hb : oct b) (hl : b.length ≤ 4294967296) (h : at_ + 2 ≤ b.length) : octet_Signed none b at_ 2 = some (sg2 (numB ((b.drop at_).take 2)), 0) := by
  have hn := numB_bd ((b.drop at_).take 2) ((hb.drop at_).take 2)
  rw [List.length_take, List.length_drop, show min 2 (b.length - at_) = 2 by omega] at hn
  have e0 : ar .sub .i64 64 (ar .mul .i64 8 2) = 48 := by decide
  have hg : octet_Get none b (at_ : Int) 2 = some (numB ((b.drop at_).take 2), 0) := get_eq (b := b) (at_ := at_) (n := 2) (by omega) (by omega) hb hl h
  unfold octet_Signed
  rw [bnd hg, if_neg (show ¬ cm .neq (0 : Int) 0 = true by decide), e0]
  simp only [sfO_nn (show (0 : Int) ≤ 48 by decide), Option.bind_some]
  generalize numB ((b.drop at_).take 2) = x at hn ⊢
  have e1 : sf .shl .u64 x 48 = x * 281474976710656 := by
    rw [sf_shl (y := 48) (n := 48) rfl (by decide)]
    exact w_u64 (by omega) (by omega)
  rw [e1]
  unfold sg2
  by_cases hx : x < 32768
  · have e2 : IntKind.i64.wrap (x * 281474976710656) = x * 281474976710656 := w_i64 (by omega) (by omega)
    rw [if_pos hx, e2, sf_shr (y := 48) (n := 48) rfl (by decide)]
    show some (x * 281474976710656 / 281474976710656, 0) = _
    congr 2; omega
  · have e2 : IntKind.i64.wrap (x * 281474976710656) = (x - 65536) * 281474976710656 := by
      simp only [IntKind.wrap, IntKind.signed, IntKind.bits]; simp; split <;> omega
    rw [if_neg hx, e2, sf_shr (y := 48) (n := 48) rfl (by decide)]
    show some ((x - 65536) * 281474976710656 / 281474976710656, 0) = _
    congr 2; omega
theorem gets3 {b : List Int} {at_ : Nat} (hb : oct b) (hl : b.length ≤ 4294967296) (h : at_ + 3 ≤ b.length) : octet_Signed none b at_ 3 = some (sg3 (numB ((b.drop at_).take 3)), 0) := by
  have hn := numB_bd ((b.drop at_).take 3) ((hb.drop at_).take 3)
  rw [List.length_take, List.length_drop, show min 3 (b.length - at_) = 3 by omega] at hn
  have e0 : ar .sub .i64 64 (ar .mul .i64 8 3) = 40 := by decide
  have hg : octet_Get none b (at_ : Int) 3 = some (numB ((b.drop at_).take 3), 0) := get_eq (b := b) (at_ := at_) (n := 3) (by omega) (by omega) hb hl h
  unfold octet_Signed
  rw [bnd hg, if_neg (show ¬ cm .neq (0 : Int) 0 = true by decide), e0]
  simp only [sfO_nn (show (0 : Int) ≤ 40 by decide), Option.bind_some]
  generalize numB ((b.drop at_).take 3) = x at hn ⊢
  have e1 : sf .shl .u64 x 40 = x * 1099511627776 := by
    rw [sf_shl (y := 40) (n := 40) rfl (by decide)]
    exact w_u64 (by omega) (by omega)
  rw [e1]
  unfold sg3
  by_cases hx : x < 8388608
  · have e2 : IntKind.i64.wrap (x * 1099511627776) = x * 1099511627776 := w_i64 (by omega) (by omega)
    rw [if_pos hx, e2, sf_shr (y := 40) (n := 40) rfl (by decide)]
    show some (x * 1099511627776 / 1099511627776, 0) = _
    congr 2; omega
  · have e2 : IntKind.i64.wrap (x * 1099511627776) = (x - 16777216) * 1099511627776 := by
      simp only [IntKind.wrap, IntKind.signed, IntKind.bits]; simp; split <;> omega
    rw [if_neg hx, e2, sf_shr (y := 40) (n := 40) rfl (by decide)]
    show some ((x - 16777216) * 1099511627776 / 1099511627776, 0) = _
    congr 2; omega

/-- a packet's difference in octets -/
def dlt (s : Seen) : List Int := if s.what = 2 then beN 2 (s.delta % 65536) else if s.what = 1 then [s.delta] else []
theorem dlt_len {s : Seen} (h : FitS s) : ((dlt s).length : Int) = s.what := by
  unfold FitS at h; unfold dlt
  split
  · rw [beN_len]; omega
  · split
    · simp; omega
    · simp; omega
theorem dlt_oct {s : Seen} (h : FitS s) : oct (dlt s) := by
  unfold FitS at h; unfold dlt
  split
  · exact oct_be _ _
  · split
    · intro x hx; simp at hx; omega
    · intro x hx; simp at hx
theorem delta_eq {s : Seen} (h : FitS s) : arrive_delta s = some (dlt s) := by
  unfold FitS at h; unfold arrive_delta dlt
  by_cases h2 : s.what = 2
  · rw [if_pos (by rw [cm_eql]; simpa using h2), if_pos h2, puts2 (by omega) (by omega)]; rfl
  · rw [if_neg (by rw [cm_eql]; simpa using h2), if_neg h2]
    rw [sub_some (by omega) (by omega) (by simp; omega)]
    by_cases h1 : s.what = 1
    · rw [if_pos h1, h1, w_u8 (by omega) (by omega)]; rfl
    · have h0 : s.what = 0 := by omega
      rw [if_neg h1, h0]; rfl

def whatsL (l : List Seen) : List Int := l.map (·.what)
def dltL (l : List Seen) : List Int := l.flatMap dlt
def numsL (l : List Int) : List Int := l.flatMap (beN 2)
theorem whatsL_snoc (l : List Seen) (s : Seen) : whatsL (l ++ [s]) = whatsL l ++ [s.what] := by simp [whatsL]
theorem dltL_snoc (l : List Seen) (s : Seen) : dltL (l ++ [s]) = dltL l ++ dlt s := by simp [dltL]
theorem numsL_snoc (l : List Int) (s : Int) : numsL (l ++ [s]) = numsL l ++ beN 2 s := by simp [numsL]
def hdA (a : Arrive) : List Int := beN 2 a.base ++ beN 2 (a.seen.length : Int) ++ beN 3 (a.time % 16777216) ++ [a.count]
def bodyA (a : Arrive) : List Int := hdA a ++ numsL (writeS (whatsL a.seen)) ++ dltL a.seen
def writeA (a : Arrive) : List Int := bodyA a ++ List.replicate (fillN (bodyA a).length) 0
structure GoodA (a : Arrive) : Prop where
  b0 : 0 ≤ a.base
  b1 : a.base ≤ 65535
  c0 : 0 ≤ a.count
  c1 : a.count ≤ 255

theorem numsL_len (l : List Int) : (numsL l).length = 2 * l.length := by
  induction l with
  | nil => rfl
  | cons a l ih => simp only [numsL, List.flatMap_cons, List.length_append, beN_len, List.length_cons] at *; omega
theorem numsL_oct (l : List Int) : oct (numsL l) := fun x hx => by
  obtain ⟨y, _, hy⟩ := List.mem_flatMap.1 hx
  exact oct_be _ _ x hy
theorem dltL_oct {l : List Seen} (h : ∀ s, s ∈ l → FitS s) : oct (dltL l) := fun x hx => by
  obtain ⟨y, hy, hx⟩ := List.mem_flatMap.1 hx
  exact dlt_oct (h y hy) x hx
theorem dltL_len {l : List Seen} (h : ∀ s, s ∈ l → FitS s) : (dltL l).length ≤ 2 * l.length := by
  induction l with
  | nil => simp [dltL]
  | cons a l ih =>
    have h1 := ih fun s hs => h s (by simp [hs])
    have h2 := dlt_len (h a (by simp))
    have h3 := h a (by simp)
    unfold FitS at h3
    simp only [dltL, List.flatMap_cons, List.length_append, List.length_cons] at *
    omega
theorem hdA_len (a : Arrive) : (hdA a).length = 8 := by simp [hdA, beN_len]
theorem whats_vl {l : List Seen} (h : ∀ s, s ∈ l → FitS s) : vl (whatsL l) := fun x hx => by
  obtain ⟨s, hs, rfl⟩ := List.mem_map.1 hx
  have := h s hs
  unfold FitS at this; omega
theorem writeS_len' (l : List Int) : (writeS l).length ≤ (l.length + 6) / 7 := writeS_len (l.length + 1) l (by omega)

theorem whats_eq {l : List Seen} (hl : l.length ≤ 1000000) : arrive_whats none l = some (whatsL l) := by
  unfold arrive_whats arrive_whats_l1
  have := loop_seq (step := fun (s : List Int × Int) => arrive_whats_s1 none l s.1 s.2) (r := whatsL l) (fun i => (whatsL (l.take i), (i : Int))) l.length (fun i hi => by
    show arrive_whats_s1 none l _ (i : Int) = _
    unfold arrive_whats_s1
    rw [if_pos (by rw [cm_lss]; simpa using hi), bnd (ix_some (n := i) rfl hi), bnd (app_some (by simp [whatsL]; omega)), ar_add, w_i64 (by omega) (by omega), take_snoc l i hi, whatsL_snoc]
    rfl) (by
    show arrive_whats_s1 none l _ _ = _
    unfold arrive_whats_s1
    rw [if_neg (by rw [cm_lss]; simp), List.take_length]; rfl)
  simpa [whatsL] using this

theorem body_len {a : Arrive} (hr : RightA a) : (bodyA a).length ≤ 8 + 2 * 573 + 8000 := by
  have h1 := writeS_len' (whatsL a.seen)
  have h2 := dltL_len hr.2.2.2
  have h3 := hr.2.2.1
  have h4 : (whatsL a.seen).length = a.seen.length := by simp [whatsL]
  unfold bodyA
  rw [List.length_append, List.length_append, hdA_len, numsL_len]
  omega
theorem write_len4 (a : Arrive) : (writeA a).length % 4 = 0 ∧ (writeA a).length ≤ (bodyA a).length + 3 := by
  unfold writeA
  rw [List.length_append, List.length_replicate]
  unfold fillN
  omega
theorem body_oct {a : Arrive} (hg : GoodA a) (hr : RightA a) : oct (bodyA a) := by
  refine ((oct.app (oct.app (oct.app (oct.app (oct_be _ _) (oct_be _ _)) (oct_be _ _)) ?_) (numsL_oct _))).app (dltL_oct hr.2.2.2)
  intro x hx
  have := hg.c0; have := hg.c1
  simp at hx; omega
theorem write_oct {a : Arrive} (hg : GoodA a) (hr : RightA a) : oct (writeA a) := (body_oct hg hr).app (oct_zeros _)

theorem write_l2 {a : Arrive} (hr : RightA a) {v : List Int} (hv : v.length ≤ 100000) : arrive_Write_l2 none a v 0 = some (v ++ dltL a.seen ++ List.replicate (fillN (v ++ dltL a.seen).length) 0, 0) := by
  have hc := hr.2.2.1
  unfold arrive_Write_l2
  have := loop_seq (step := fun (s : List Int × Int) => arrive_Write_s2 none a s.1 s.2) (r := (v ++ dltL a.seen ++ List.replicate (fillN (v ++ dltL a.seen).length) 0, 0)) (fun i => (v ++ dltL (a.seen.take i), (i : Int))) a.seen.length (fun i hi => by
    show arrive_Write_s2 none a _ (i : Int) = _
    have hf := hr.2.2.2 _ (List.getElem_mem hi)
    have h1 := dltL_len (l := a.seen.take i) fun s hs => hr.2.2.2 s (List.mem_of_mem_take hs)
    have h2 := dlt_len hf
    rw [List.length_take] at h1
    have h3 := hf
    unfold FitS at h3
    unfold arrive_Write_s2
    rw [if_pos (by rw [cm_lss]; simpa using hi), bnd (ix_some (n := i) rfl hi), bnd (delta_eq hf), bnd (app_some (by rw [List.length_append]; omega)), ar_add, w_i64 (by omega) (by omega), take_snoc _ i hi, dltL_snoc, List.append_assoc]
    rfl) (by
    show arrive_Write_s2 none a _ _ = _
    have h1 := dltL_len (l := a.seen) hr.2.2.2
    unfold arrive_Write_s2
    rw [if_neg (by rw [cm_lss]; simp), List.take_length, bnd (fill_eq (by rw [List.length_append]; omega))]; rfl)
  simpa [dltL] using this

theorem write_l1 {a : Arrive} (hr : RightA a) {v c : List Int} {e : Int} (hv : v.length ≤ 10000) (hc : c.length ≤ 10000) (hcs : ∀ x, x ∈ c → 0 ≤ x ∧ x ≤ 65535) : arrive_Write_l1 none a (c, e) v 0 = some (v ++ numsL c ++ dltL a.seen ++ List.replicate (fillN (v ++ numsL c ++ dltL a.seen).length) 0, 0) := by
  unfold arrive_Write_l1
  have := loop_seq (step := fun (s : List Int × Int) => arrive_Write_s1 none a (c, e) s.1 s.2) (r := (v ++ numsL c ++ dltL a.seen ++ List.replicate (fillN (v ++ numsL c ++ dltL a.seen).length) 0, 0)) (fun i => (v ++ numsL (c.take i), (i : Int))) c.length (fun i hi => by
    show arrive_Write_s1 none a (c, e) _ (i : Int) = _
    have hx := hcs _ (List.getElem_mem hi)
    have h1 := numsL_len (c.take i)
    rw [List.length_take] at h1
    unfold arrive_Write_s1
    rw [if_pos (by rw [cm_lss]; simpa using hi), bnd (ix_some (n := i) rfl hi), w_u64 (by omega) (by omega)]
    have hp : octet_Put c[i] 2 = some (beN 2 c[i], 0) := put_eq (n := 2) (by omega) (by omega) (by omega) (.inr (by omega))
    rw [bnd hp, bnd (app_some (by rw [List.length_append, beN_len]; omega)), ar_add, w_i64 (by omega) (by omega), take_snoc _ i hi, numsL_snoc, List.append_assoc]
    rfl) (by
    show arrive_Write_s1 none a (c, e) _ _ = _
    unfold arrive_Write_s1
    rw [if_neg (by rw [cm_lss]; simp), List.take_length, write_l2 hr (by rw [List.length_append, numsL_len]; omega)]; rfl)
  simpa [numsL] using this

theorem awrite_eq {a : Arrive} (hg : GoodA a) (hl : a.seen.length ≤ 1000000) : arrive_Write none a = some (if RightA a then (writeA a, 0) else ([], 1)) := by
  unfold arrive_Write
  rw [bnd (right_eq hl)]
  by_cases hr : RightA a
  · have hc := hr.2.2.1
    have hb0 := hg.b0; have hb1 := hg.b1
    have hw := writeS_len' (whatsL a.seen)
    have hwl : (whatsL a.seen).length = a.seen.length := by simp [whatsL]
    rw [decide_eq_true hr, if_neg (by decide), if_pos hr, w_u64 (by omega) (by omega), w_u64 (by omega) (by omega)]
    have hp1 : octet_Put a.base 2 = some (beN 2 a.base, 0) := put_eq (n := 2) (by omega) (by omega) (by omega) (.inr (by omega))
    have hp2 : octet_Put (a.seen.length : Int) 2 = some (beN 2 (a.seen.length : Int), 0) := put_eq (n := 2) (by omega) (by omega) (by omega) (.inr (by omega))
    rw [bnd hp1, bnd hp2, bnd (puts3 hr.1 hr.2.1)]
    have hj : octet_Join none [beN 2 a.base, beN 2 (a.seen.length : Int), beN 3 (a.time % 16777216), [a.count]] = some (hdA a) := by
      unfold octet_Join
      rw [bnd (concat_eq (by simp) (by simp [beN_len]))]
      simp [hdA]
    rw [bnd hj, bnd (whats_eq hl), bnd (write_eq (by omega)), if_pos (show ∀ x, x ∈ whatsL a.seen → 0 ≤ x ∧ x ≤ 2 from whats_vl hr.2.2.2)]
    rw [write_l1 hr (by rw [hdA_len]; omega) (by omega) (writeS_in ((whatsL a.seen).length + 1) (by omega) (whats_vl hr.2.2.2))]
    rfl
  · rw [decide_eq_false hr, if_pos (by decide), if_neg hr]
end Xb
