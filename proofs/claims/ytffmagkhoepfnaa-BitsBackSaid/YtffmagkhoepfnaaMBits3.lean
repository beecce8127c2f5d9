/- Own text: MBits3. -/
import Derived.Test.YtffmagkhoepfnaaMBits2
set_option linter.all false
set_option linter.unusedVariables false
set_option linter.unusedSimpArgs false
set_option linter.unnecessarySimpa false
set_option linter.deprecated false
namespace Xb
open Go

/-- how many binary digits -/
def bl (n : Nat) : Nat := if n = 0 then 0 else n.log2 + 1
theorem bl_lt (n : Nat) : n < 2 ^ bl n := by
  unfold bl; split
  · subst_vars; simp
  · exact Nat.lt_log2_self
theorem bl_le {n : Nat} (h : n ≠ 0) : 2 ^ (bl n - 1) ≤ n := by
  unfold bl; rw [if_neg h]; simpa using Nat.log2_self_le h
theorem bl_pos {n : Nat} (h : n ≠ 0) : 1 ≤ bl n := by unfold bl; rw [if_neg h]; omega
theorem bl_uniq {n k : Nat} (h1 : 2 ^ k ≤ n) (h2 : n < 2 ^ (k + 1)) : bl n = k + 1 := by
  have h0 : n ≠ 0 := by have := Nat.one_le_two_pow (n := k); omega
  have a := bl_lt n; have b := bl_le h0; have c := bl_pos h0
  have x1 : k < bl n := (Nat.pow_lt_pow_iff_right (a := 2) (by omega)).1 (Nat.lt_of_le_of_lt h1 a)
  have x2 : bl n - 1 < k + 1 := (Nat.pow_lt_pow_iff_right (a := 2) (by omega)).1 (Nat.lt_of_le_of_lt b h2)
  omega
theorem bl_shift {x k : Nat} (h : 2 ^ k ≤ x) : bl x = bl (x / 2 ^ k) + k := by
  have hp : 0 < 2 ^ k := Nat.pow_pos (by omega)
  have h0 : x / 2 ^ k ≠ 0 := by
    have := (Nat.le_div_iff_mul_le hp).2 (show 1 * 2 ^ k ≤ x by omega)
    omega
  have a := bl_lt (x / 2 ^ k); have b := bl_le h0; have c := bl_pos h0
  have e : bl x = (bl (x / 2 ^ k) - 1 + k) + 1 := by
    apply bl_uniq
    · rw [Nat.pow_add]
      exact Nat.le_trans (Nat.mul_le_mul_right _ b) (Nat.div_mul_le_self x (2 ^ k))
    · have : bl (x / 2 ^ k) - 1 + k + 1 = bl (x / 2 ^ k) + k := by omega
      rw [this, Nat.pow_add]
      exact (Nat.div_lt_iff_lt_mul hp).1 a
  omega
theorem bl_le_of_lt {n k : Nat} (h : n < 2 ^ k) : bl n ≤ k := by
  by_cases h0 : n = 0
  · subst h0; simp [bl]
  · have b := bl_le h0
    have : bl n - 1 < k := (Nat.pow_lt_pow_iff_right (a := 2) (by omega)).1 (Nat.lt_of_le_of_lt b h)
    omega

theorem len8 (x : Nat) (h : x < 256) (n : Int) (hn : 0 ≤ n ∧ n ≤ 1000) : math_bits_Len64_j3 x n = some (n + bl x) := by
  have key : ∀ x : Fin 256, math_bits_Len64_j3 ((x.1 : Nat) : Int) 0 = some ((bl x.1 : Nat) : Int) := by decide +kernel
  have := key ⟨x, h⟩
  unfold math_bits_Len64_j3 at this ⊢
  generalize ix _ (IntKind.u8.wrap (x : Int)) = o at this ⊢
  cases o with
  | none => cases this
  | some c =>
    have hc := c.toNat_lt
    simp only [Option.bind_some, ar_add, Option.some.injEq] at this ⊢
    rw [w_i64 (n := (c.toNat : Int)) (by omega) (by omega), w_i64 (by omega) (by omega)] at *
    omega

theorem len64_eq (x : Nat) (h : x < 18446744073709551616) : math_bits_Len64 x = some (bl x : Int) := by
  have sh : ∀ (x k : Nat) , k ≤ 64 → sf .shr .u64 (x : Int) (k : Int) = ((x / 2 ^ k : Nat) : Int) := fun x k hk => by
    rw [sf_shr rfl (by simpa [IntKind.bits] using hk)]; simp
  have h2 : ∀ (x : Nat) (n : Int), x < 65536 → 0 ≤ n ∧ n ≤ 500 → math_bits_Len64_j2 x n = some (n + bl x) := fun x n hx hn => by
    unfold math_bits_Len64_j2
    simp only [cm_geq, decide_eq_true_eq]
    by_cases hc : (256 : Int) ≤ x
    · rw [if_pos hc, show (8 : Int) = ((8 : Nat) : Int) from rfl, sh x 8 (by omega), ar_add, w_i64 (by omega) (by omega), len8 _ (by omega) _ (by omega), bl_shift (x := x) (k := 8) (by omega)]
      simp; omega
    · rw [if_neg hc, len8 _ (by omega) _ (by omega)]
  have h1 : ∀ (x : Nat) (n : Int), x < 4294967296 → 0 ≤ n ∧ n ≤ 200 → math_bits_Len64_j1 x n = some (n + bl x) := fun x n hx hn => by
    unfold math_bits_Len64_j1
    simp only [cm_geq, decide_eq_true_eq]
    by_cases hc : (65536 : Int) ≤ x
    · rw [if_pos hc, show (16 : Int) = ((16 : Nat) : Int) from rfl, sh x 16 (by omega), ar_add, w_i64 (by omega) (by omega), h2 _ _ (by omega) (by omega), bl_shift (x := x) (k := 16) (by omega)]
      simp; omega
    · rw [if_neg hc, h2 _ _ (by omega) (by omega)]
  unfold math_bits_Len64
  simp only [cm_geq, decide_eq_true_eq]
  by_cases hc : (4294967296 : Int) ≤ x
  · rw [if_pos hc, show (32 : Int) = ((32 : Nat) : Int) from rfl, sh x 32 (by omega), h1 _ _ (by omega) (by omega), bl_shift (x := x) (k := 32) (by omega)]
    simp; omega
  · rw [if_neg hc, h1 _ _ (by omega) (by omega)]; simp

theorem pow_int (n : Nat) : ((2 ^ n : Nat) : Int) = 2 ^ n := by simp

theorem bits_spread_eq (n : Nat) (h : n ≤ 4294967296) : bits_spread n = some ((bl n : Int), (2 : Int) ^ bl n - (n : Int)) := by
  unfold bits_spread
  have hb : bl n ≤ 33 := bl_le_of_lt (by omega)
  have hlt := bl_lt n
  have hp := pow_le64 (n := bl n) (by omega)
  rw [bnd (len64_eq n (by omega)), sfO_nn (by omega), sf_shl rfl (by simp [IntKind.bits]; omega), Option.bind_some, ar_sub]
  have : (n : Int) < 2 ^ bl n := by rw [← pow_int]; exact_mod_cast hlt
  have hq : (2 : Int) ^ bl n ≤ 2 ^ 33 := by
    rw [← pow_int, ← pow_int]; exact_mod_cast Nat.pow_le_pow_right (by omega) hb
  rw [w_u64 (n := 1 * 2 ^ bl n) (by omega) (by omega), w_u64 (by omega) (by omega)]
  simp

theorem ref02_Spread_eq (n : Nat) (h : n ≤ 4294967296) : ref02_Spread none n = some ((bl n : Int), (2 : Int) ^ bl n - (n : Int)) := by
  unfold ref02_Spread ref02_Spread_l1
  have hb : bl n ≤ 33 := bl_le_of_lt (by omega)
  have hlt := bl_lt n
  have hpw : ∀ k : Nat, k ≤ 33 → (2 : Int) ^ k ≤ 8589934592 ∧ 1 ≤ (2 : Int) ^ k := fun k hk => by
    have a : (2 : Nat) ^ k ≤ 2 ^ 33 := Nat.pow_le_pow_right (by omega) hk
    have b : 1 ≤ 2 ^ k := Nat.one_le_two_pow
    rw [← pow_int]; omega
  have hlt' : (n : Int) < 2 ^ bl n := by rw [← pow_int]; exact_mod_cast hlt
  have := loop_seq (step := fun (s : Int × Int) => ref02_Spread_s1 none n s.1 s.2) (r := ((bl n : Int), 2 ^ bl n - (n : Int))) (fun k => ((k : Int), 2 ^ k)) (bl n) (fun k hk => by
    have h1 := hpw k (by omega)
    have h3 : (2 : Int) ^ k ≤ n := by
      rw [← pow_int]
      have h0 : n ≠ 0 := by
        intro h0; subst h0; simp [bl] at hk
      have := bl_le h0
      have : 2 ^ k ≤ 2 ^ (bl n - 1) := Nat.pow_le_pow_right (by omega) (by omega)
      omega
    simp only [ref02_Spread_s1, cm_leq, decide_eq_true_eq, ar_add, ar_mul]
    rw [if_pos h3, w_i64 (by omega) (by omega), w_u64 (by omega) (by omega), Int.pow_succ, Int.mul_comm]
    simp) (by
    have h1 := hpw (bl n) hb
    simp only [ref02_Spread_s1, cm_leq, decide_eq_true_eq, ar_sub]
    rw [if_neg (by omega), w_u64 (by omega) (by omega)]
    rfl)
  simpa using this

/-- one of a range, read -/
def rangeG (c : GBits) (n : Int) : GBits × Int :=
  if okG c = false ∨ n < 1 ∨ n > 4294967296 then failG c 1
  else
    let q := bl n.toNat - 1
    let s : Int := 2 ^ (q + 1) - n
    if (q : Int) > 8 * c.bytes.length - c.at_ then failG c 2
    else if vl c.bytes c.at_.toNat q < s then ({ c with at_ := c.at_ + q }, vl c.bytes c.at_.toNat q)
    else if (q + 1 : Int) > 8 * c.bytes.length - c.at_ then failG c 2
    else ({ c with at_ := c.at_ + (q + 1) }, vl c.bytes c.at_.toNat (q + 1) - s)

theorem getG_ok {c : GBits} {n : Int} {q : Nat} (ho : okG c = true) (hn : n = q) (h64 : q ≤ 64) : getG c n = if (q : Int) > 8 * c.bytes.length - c.at_ then ({ c with err := 2 }, 0) else ({ c with at_ := c.at_ + q }, vl c.bytes c.at_.toNat q) := by
  have he : c.err = 0 := by simp only [okG, Bool.and_eq_true, decide_eq_true_eq] at ho; exact ho.1.1
  subst hn
  unfold getG
  rw [if_neg (by simp [ho]; omega)]
  simp [failG, he]

theorem ref02_Range_eq {c : GBits} (hb : By c.bytes) (n : Int) : ref02_Range none c n = some (rangeG c n) := by
  unfold ref02_Range rangeG
  rw [ref02_Right_eq hb]
  simp only [cm_lss, cm_gtr, cm_neq, ar_sub, ref02_stays_eq]
  have hc : ((!okG c || decide (n < 1)) || decide (4294967296 < n)) = decide (okG c = false ∨ n < 1 ∨ n > 4294967296) := by cases okG c <;> simp
  rw [hc]
  by_cases h1 : okG c = false ∨ n < 1 ∨ n > 4294967296
  · simp [h1]
  · simp only [h1, decide_false, Bool.false_eq_true, if_false]
    simp only [not_or, Bool.not_eq_false, Int.not_lt] at h1
    obtain ⟨ho, h1, h2⟩ := h1
    obtain ⟨N, rfl⟩ := Int.eq_ofNat_of_zero_le (show 0 ≤ n by omega)
    have hbl : bl N ≤ 33 := bl_le_of_lt (by omega)
    have hbp : 1 ≤ bl N := bl_pos (by omega)
    rw [bnd (ref02_Spread_eq N (by omega))]
    simp only [Int.toNat_natCast]
    have hlt : (N : Int) < 2 ^ bl N := by rw [← pow_int]; exact_mod_cast bl_lt N
    obtain ⟨q, hq⟩ : ∃ q, bl N = q + 1 := ⟨bl N - 1, by omega⟩
    rw [hq] at hlt hbl ⊢
    have e0 : ((q + 1 : Nat) : Int) - 1 = (q : Int) := by omega
    have he : c.err = 0 := by simp only [okG, Bool.and_eq_true, decide_eq_true_eq] at ho; exact ho.1.1
    rw [e0, w_i64 (by omega) (by omega), bnd (ref02_Get_eq hb _), getG_ok ho rfl (by omega), Nat.add_sub_cancel]
    by_cases e1 : (q : Int) > 8 * c.bytes.length - c.at_
    · simp [e1, failG, he]
    · simp only [e1, if_false, he, decide_true, Bool.not_true, Bool.false_eq_true, decide_eq_true_eq]
      by_cases e2 : vl c.bytes c.at_.toNat q < 2 ^ (q + 1) - N
      · simp [e2]
      · simp only [e2, if_false]
        rw [bnd (ref02_Get_eq hb _), getG_ok ho rfl (by omega)]
        by_cases e3 : ((q + 1 : Nat) : Int) > 8 * c.bytes.length - c.at_
        · rw [if_pos e3, if_pos (show (q + 1 : Int) > 8 * c.bytes.length - c.at_ by omega)]; simp [failG, he]
        · rw [if_neg e3, if_neg (show ¬ (q + 1 : Int) > 8 * c.bytes.length - c.at_ by omega)]
          have hv := vl_in c.bytes c.at_.toNat (q + 1)
          have hs : vl c.bytes c.at_.toNat (q + 1) = 2 * vl c.bytes c.at_.toNat q + bt1 c.bytes (c.at_.toNat + q) := rfl
          have hbt := bt1_in c.bytes (c.at_.toNat + q)
          have hp := pow_le64 (n := q + 1) (by omega)
          have hv1 := vl_in c.bytes c.at_.toNat q
          simp only [he, decide_true, Bool.not_true, Bool.false_eq_true, if_false]
          rw [w_u64 (by omega) (by omega)]
          simp

theorem bits_Range_eq {c : GBits} (hb : By c.bytes) (n : Int) : bits_Range none c n = some (rangeG c n) := by
  unfold bits_Range rangeG
  rw [bits_right_eq hb]
  simp only [cm_lss, cm_gtr, ar_sub, bits_fail_eq]
  have hc : ((!okG c || decide (n < 1)) || decide (4294967296 < n)) = decide (okG c = false ∨ n < 1 ∨ n > 4294967296) := by cases okG c <;> simp
  rw [hc]
  by_cases h1 : okG c = false ∨ n < 1 ∨ n > 4294967296
  · simp [h1]
  · simp only [h1, decide_false, Bool.false_eq_true, if_false]
    simp only [not_or, Bool.not_eq_false, Int.not_lt] at h1
    obtain ⟨ho, h1, h2⟩ := h1
    obtain ⟨N, rfl⟩ := Int.eq_ofNat_of_zero_le (show 0 ≤ n by omega)
    have hbl : bl N ≤ 33 := bl_le_of_lt (by omega)
    have hbp : 1 ≤ bl N := bl_pos (by omega)
    rw [bnd (bits_spread_eq N (by omega))]
    simp only [Int.toNat_natCast]
    have hlt : (N : Int) < 2 ^ bl N := by rw [← pow_int]; exact_mod_cast bl_lt N
    obtain ⟨q, hq⟩ : ∃ q, bl N = q + 1 := ⟨bl N - 1, by omega⟩
    rw [hq] at hlt hbl ⊢
    have e0 : ((q + 1 : Nat) : Int) - 1 = (q : Int) := by omega
    have ho' := ho
    simp only [okG, Bool.and_eq_true, decide_eq_true_eq] at ho
    obtain ⟨⟨he, ha⟩, hat⟩ := ho
    rw [e0, w_i64 (by omega) (by omega), bnd (bits_Get_eq hb _), getG_ok ho' rfl (by omega), Nat.add_sub_cancel]
    have hp := pow_le64 (n := q + 1) (by omega)
    by_cases e1 : (q : Int) > 8 * c.bytes.length - c.at_
    · simp [e1, failG, bits_Range_j1, cm_eql, cm_neq, bits_fail_eq, he]
    · simp only [e1, if_false, cm_eql, cm_geq]
      by_cases e2 : vl c.bytes c.at_.toNat q < 2 ^ (q + 1) - N
      · have e2' : ¬ (2 ^ (q + 1) - (N : Int) ≤ vl c.bytes c.at_.toNat q) := by omega
        simp [e2, e2', he, bits_Range_j1, cm_neq]
      · have e2' : (2 ^ (q + 1) - (N : Int) ≤ vl c.bytes c.at_.toNat q) := by omega
        have ho2 : okG { c with at_ := c.at_ + (q : Int) } = true := by simp [okG, he]; omega
        rw [if_pos (by simp [e2', he]), if_neg e2, bnd (bits_Get_eq (c := { c with at_ := c.at_ + (q : Int) }) hb 1), getG_ok (n := 1) (q := 1) ho2 rfl (by omega)]
        simp only
        by_cases e3 : (q + 1 : Int) > 8 * c.bytes.length - c.at_
        · rw [if_pos e3, if_pos (show ((1 : Nat) : Int) > 8 * c.bytes.length - (c.at_ + q) by omega)]
          simp [failG, bits_Range_j1, cm_neq, bits_fail_eq, he]
        · rw [if_neg e3, if_neg (show ¬ ((1 : Nat) : Int) > 8 * c.bytes.length - (c.at_ + q) by omega)]
          have hs : vl c.bytes c.at_.toNat (q + 1) = 2 * vl c.bytes c.at_.toNat q + bt1 c.bytes (c.at_.toNat + q) := rfl
          have hv := vl_in c.bytes c.at_.toNat (q + 1)
          have hv1 := vl_in c.bytes c.at_.toNat q
          have hbt := bt1_in c.bytes (c.at_.toNat + q)
          have hone : vl c.bytes (c.at_ + (q : Int)).toNat 1 = bt1 c.bytes (c.at_.toNat + q) := by
            simp only [vl]
            rw [show (c.at_ + (q : Int)).toNat = c.at_.toNat + q by omega]; simp
          simp only [he, decide_true, Bool.not_true, Bool.false_eq_true, if_false, ar_add, bits_Range_j1, cm_neq, hone]
          rw [show (1 : Int) = ((1 : Nat) : Int) from rfl, sf_shl (n := 1) rfl (by simp [IntKind.bits]), w_u64 (n := _ * 2 ^ 1) (by omega) (by omega), w_u64 (n := _ * 2 ^ 1 + _) (by omega) (by omega), w_u64 (by omega) (by omega), hs]
          have x1 : c.at_ + (q : Int) + ((1 : Nat) : Int) = c.at_ + (q + 1) := by omega
          have x2 : vl c.bytes c.at_.toNat q * 2 ^ 1 + bt1 c.bytes (c.at_.toNat + q) - (2 ^ (q + 1) - (N : Int)) = 2 * vl c.bytes c.at_.toNat q + bt1 c.bytes (c.at_.toNat + q) - (2 ^ (q + 1) - (N : Int)) := by omega
          rw [x1, x2]
          simp
end Xb
