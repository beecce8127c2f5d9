/- Own text: MBits1. -/
import Derived.Test.YtffmagkhoepfnaaMath1
import Derived.Test.YtffmagkhoepfnaaBModels
set_option linter.all false
set_option linter.unusedVariables false
set_option linter.unusedSimpArgs false
set_option linter.unnecessarySimpa false
set_option linter.deprecated false
namespace Xb
open Go

/-- bytes that are bytes, and not too many -/
structure By (b : List Int) : Prop where
  u8 : ∀ y, y ∈ b → 0 ≤ y ∧ y ≤ 255
  len : b.length ≤ 100000000000

/-- the bit at a place -/
def bt1 (b : List Int) (i : Nat) : Int := b.getD (i / 8) 0 / 2 ^ (7 - i % 8) % 2
/-- the number in n bits from a place on -/
def vl (b : List Int) (at_ : Nat) : Nat → Int
  | 0 => 0
  | n + 1 => 2 * vl b at_ n + bt1 b (at_ + n)

theorem By.get {b : List Int} (h : By b) (i : Nat) : 0 ≤ b.getD i 0 ∧ b.getD i 0 ≤ 255 := by
  by_cases hi : i < b.length
  · have : b.getD i 0 ∈ b := by simp [List.getD, hi]
    exact h.u8 _ this
  · simp [List.getD, hi]

theorem bt1_in (b : List Int) (i : Nat) : 0 ≤ bt1 b i ∧ bt1 b i ≤ 1 := by unfold bt1; omega
theorem vl_in (b : List Int) (a n : Nat) : 0 ≤ vl b a n ∧ vl b a n < 2 ^ n := by
  induction n with
  | zero => simp [vl]
  | succ n ih =>
    have := bt1_in b (a + n)
    simp only [vl, Int.pow_succ]; omega

theorem pow_le64 {n : Nat} (h : n ≤ 64) : (2 : Int) ^ n ≤ 18446744073709551616 := by
  have : (2 : Nat) ^ n ≤ 2 ^ 64 := Nat.pow_le_pow_right (by omega) h
  have : ((2 ^ n : Nat) : Int) ≤ ((2 ^ 64 : Nat) : Int) := by exact_mod_cast this
  simpa using this

theorem ref02_bit_eq {b : List Int} (hb : By b) {i : Nat} (hi : i < 8 * b.length) : ref02_bit none b i = some (bt1 b i) := by
  have h8 : i / 8 < b.length := by omega
  have hg := hb.get (i / 8)
  unfold ref02_bit
  rw [dv_quo (by omega), w_i64 (by omega) (by have := hb.len; omega), bnd (ix_getD (by omega) (by omega))]
  have e0 : ((i : Int) / 8).toNat = i / 8 := by omega
  rw [e0]
  generalize hx : b.getD (i / 8) 0 = x at hg
  unfold ref02_bit_l1
  have hdiv : ∀ k : Nat, 0 ≤ x / 2 ^ k ∧ x / 2 ^ k ≤ 255 := fun k => by
    have hp : (0 : Int) < 2 ^ k := Int.pow_pos (by omega)
    exact ⟨Int.ediv_nonneg hg.1 (Int.le_of_lt hp), Int.le_trans (Int.ediv_le_self _ hg.1) hg.2⟩
  have := loop_seq (step := fun (s : Int × Int) => ref02_bit_s1 none i s.1 s.2) (r := bt1 b i) (fun k => (x / 2 ^ k, (k : Int))) (7 - i % 8) (fun k hk => by
    have hk1 := hdiv k
    simp only [ref02_bit_s1, cm_lss, ar_sub, ar_add, dv_rem (show (0 : Int) ≤ (i : Int) by omega), dv_quo hk1.1]
    rw [w_i64 (n := 7 - (i : Int) % 8) (by omega) (by omega), w_i64 (n := (k : Int) + 1) (by omega) (by omega), w_u8 (by omega) (by omega)]
    rw [if_pos (by simp; omega)]
    rw [Int.ediv_ediv_of_nonneg (Int.le_of_lt (Int.pow_pos (by omega))), ← Int.pow_succ]
    simp) (by
    have hk1 := hdiv (7 - i % 8)
    simp only [ref02_bit_s1, cm_lss, ar_sub, ar_add, dv_rem (show (0 : Int) ≤ (i : Int) by omega), dv_rem hk1.1]
    rw [w_i64 (n := 7 - (i : Int) % 8) (by omega) (by omega), if_neg (by simp; omega), w_u64 (by omega) (by omega)]
    rw [bt1, hx]; rfl)
  simpa using this

/-- Get's answer -/
def okG (c : GBits) : Bool := decide (c.err = 0) && decide (0 ≤ c.at_) && decide (c.at_ ≤ 8 * c.bytes.length)
def failG (c : GBits) (e : Int) : GBits × Int := (if c.err = 0 then { c with err := e } else c, 0)
def getG (c : GBits) (n : Int) : GBits × Int :=
  if okG c = false ∨ n < 0 ∨ n > 64 then failG c 1
  else if n > 8 * c.bytes.length - c.at_ then failG c 2
  else ({ c with at_ := c.at_ + n }, vl c.bytes c.at_.toNat n.toNat)

theorem bits_right_eq {c : GBits} (hb : By c.bytes) : bits_right c = okG c := by
  have := hb.len
  simp only [bits_right, okG, cm_eql, cm_geq, cm_leq, ar_mul]
  rw [w_i64 (by omega) (by omega)]
theorem ref02_Right_eq {c : GBits} (hb : By c.bytes) : ref02_Right c = okG c := by
  have := hb.len
  simp only [ref02_Right, okG, cm_eql, cm_geq, cm_leq, ar_mul]
  rw [w_i64 (n := 8 * (c.bytes.length : Int)) (by omega) (by omega)]
  by_cases h : 0 ≤ c.at_
  · by_cases h2 : c.at_ ≤ 8 * c.bytes.length
    · rw [dv_quo h, w_i64 (by omega) (by omega)]
      have : c.at_ / 8 ≤ c.bytes.length := by omega
      simp [h, h2, this]
    · simp [h2]
  · simp [h]
theorem bits_fail_eq (c : GBits) (e : Int) : bits_fail c e = failG c e := by
  simp only [bits_fail, bits_fail_j1, failG, cm_eql]
  by_cases h : c.err = 0 <;> simp [h]
theorem ref02_stays_eq (c : GBits) (e : Int) : ref02_stays c e = failG c e := by
  simp only [ref02_stays, ref02_stays_j1, failG, cm_eql]
  by_cases h : c.err = 0 <;> simp [h]

theorem ref02_Get_eq {c : GBits} (hb : By c.bytes) (n : Int) : ref02_Get none c n = some (getG c n) := by
  have hl := hb.len
  unfold ref02_Get getG
  rw [ref02_Right_eq hb]
  simp only [cm_lss, cm_gtr, ar_sub, ar_mul, ref02_stays_eq]
  have hc : ((!okG c || decide (n < 0)) || decide (64 < n)) = decide (okG c = false ∨ n < 0 ∨ n > 64) := by cases okG c <;> simp
  rw [hc]
  by_cases h1 : okG c = false ∨ n < 0 ∨ n > 64
  · rw [if_pos (by simp [h1]), if_pos h1]
  · rw [if_neg (by simp [h1]), if_neg h1]
    simp only [not_or, Bool.not_eq_false, Int.not_lt] at h1
    obtain ⟨ho, h0, h64⟩ := h1
    simp only [okG, Bool.and_eq_true, decide_eq_true_eq] at ho
    obtain ⟨⟨he, ha⟩, hat⟩ := ho
    rw [w_i64 (n := 8 * (c.bytes.length : Int)) (by omega) (by omega), w_i64 (by omega) (by omega)]
    by_cases h2 : n > 8 * c.bytes.length - c.at_
    · rw [if_pos (by simpa using h2), if_pos h2]
    · rw [if_neg (by simpa using h2), if_neg h2]
      unfold ref02_Get_l1
      obtain ⟨N, rfl⟩ := Int.eq_ofNat_of_zero_le h0
      obtain ⟨a, hae⟩ := Int.eq_ofNat_of_zero_le ha
      have := loop_seq (step := fun (s : Int × Int) => ref02_Get_s1 none c N s.1 s.2) (r := ({ c with at_ := c.at_ + N }, vl c.bytes a N)) (fun k => (vl c.bytes a k, (k : Int))) N (fun k hk => by
        have hv := vl_in c.bytes a k
        have hv1 := vl_in c.bytes a (k + 1)
        have hp := pow_le64 (n := k + 1) (by omega)
        have hbt := bt1_in c.bytes (a + k)
        simp only [ref02_Get_s1, cm_lss, ar_add, ar_mul, hae]
        rw [if_pos (by simp; omega), w_i64 (n := (a : Int) + k) (by omega) (by omega)]
        have e : (a : Int) + k = ((a + k : Nat) : Int) := by simp
        rw [e, bnd (ref02_bit_eq hb (by omega))]
        simp only [vl] at hv1 ⊢
        rw [w_u64 (n := 2 * vl c.bytes a k) (by omega) (by omega), w_u64 (by omega) (by omega), w_i64 (by omega) (by omega)]
        simp) (by
        simp only [ref02_Get_s1, cm_lss, ar_add]
        simp only [Int.lt_irrefl, decide_false, Bool.false_eq_true, if_false]
        rw [w_i64 (by omega) (by omega)]
        rfl)
      simpa [vl, hae] using this
end Xb
