/- Own text: MBits4. -/
import Derived.Test.YtffmagkhoepfnaaMBits3
set_option linter.all false
set_option linter.unusedVariables false
set_option linter.unusedSimpArgs false
set_option linter.unnecessarySimpa false
set_option linter.deprecated false
namespace Xb
open Go

def U8 (b : List Int) : Prop := ∀ y, y ∈ b → 0 ≤ y ∧ y ≤ 255
theorem U8.get {b : List Int} (h : U8 b) (i : Nat) : 0 ≤ b.getD i 0 ∧ b.getD i 0 ≤ 255 := by
  by_cases hi : i < b.length
  · have : b.getD i 0 ∈ b := by simp [List.getD, hi]
    exact h _ this
  · simp [List.getD, hi]
theorem U8.set {b : List Int} (h : U8 b) {i : Nat} {x : Int} (hx : 0 ≤ x ∧ x ≤ 255) : U8 (b.set i x) := fun y hy => by
  rcases List.mem_or_eq_of_mem_set hy with hy | rfl
  · exact h y hy
  · exact hx
theorem U8.app {b c : List Int} (h : U8 b) (h' : U8 c) : U8 (b ++ c) := fun y hy => (List.mem_append.1 hy).elim (h y) (h' y)

def lastB (b : List Int) : Int := b.getD (b.length - 1) 0

/-- ink that is right, so many bits of it -/
structure OkB (b : List Int) (m : Nat) : Prop where
  u8 : U8 b
  le : m ≤ 8 * b.length
  ge : 8 * b.length ≤ m + 7
  low : lastB b % 2 ^ (8 * b.length - m) = 0

def okK (k : Ink) : Bool := decide (0 ≤ k.many) && decide (k.many ≤ 8 * k.bytes.length) && decide (8 * k.bytes.length ≤ k.many + 7) && decide (lastB k.bytes % 2 ^ (8 * k.bytes.length - k.many.toNat) = 0)

theorem okK_ok {k : Ink} (hu : U8 k.bytes) (h : okK k = true) : OkB k.bytes k.many.toNat ∧ 0 ≤ k.many := by
  simp only [okK, Bool.and_eq_true, decide_eq_true_eq] at h
  obtain ⟨⟨⟨h0, h1⟩, h2⟩, h3⟩ := h
  exact ⟨⟨hu, by omega, by omega, h3⟩, h0⟩

theorem shl1 {t : Nat} (h : t ≤ 7) : sf .shl .u8 1 (t : Int) = 2 ^ t := by
  have : ∀ t : Fin 8, sf .shl .u8 1 ((t.1 : Nat) : Int) = 2 ^ t.1 := by decide +kernel
  exact this ⟨t, by omega⟩

theorem bits_Right_eq {k : Ink} (hb : By k.bytes) (hm : inK .i64 k.many) : bits_Right k = some (okK k) := by
  have hl := hb.len
  rw [in_i64] at hm
  unfold bits_Right
  by_cases h0 : k.many < 0
  · simp [cm_lss, h0, okK]; omega
  · have e1 : ar .add .i64 (dv .quo .i64 k.many 8) (imin (dv .rem .i64 k.many 8) 1) = (k.many + 7) / 8 := by
      rw [imin_eq, dv_quo (by omega), dv_rem (by omega), ar_add, w_i64 (n := k.many / 8) (by omega) (by omega), w_i64 (by omega) (by omega)]
      omega
    have e0 : ar .sub .i64 (ar .mul .i64 8 (k.bytes.length : Int)) k.many = 8 * (k.bytes.length : Int) - k.many := by
      rw [ar_mul, w_i64 (by omega) (by omega), ar_sub, w_i64 (by omega) (by omega)]
    rw [e1, e0]
    simp only [cm_lss, cm_neq, cm_eql]
    by_cases h1 : (k.bytes.length : Int) = (k.many + 7) / 8
    · have hc : (decide (k.many < 0) || !decide ((k.bytes.length : Int) = (k.many + 7) / 8)) = false := by simp [h1]; omega
      rw [hc]
      simp only [Bool.false_eq_true, if_false, ar_sub]
      obtain ⟨m, hme⟩ := Int.eq_ofNat_of_zero_le (show 0 ≤ k.many by omega)
      obtain ⟨r, hr⟩ : ∃ r : Nat, 8 * (k.bytes.length : Int) - k.many = r := ⟨8 * k.bytes.length - m, by omega⟩
      have hr7 : r ≤ 7 := by omega
      have ho : okK k = decide (lastB k.bytes % 2 ^ r = 0) := by
        have e : 8 * k.bytes.length - k.many.toNat = r := by omega
        simp only [okK, e]
        simp; omega
      rw [hr, ho]
      by_cases hr0 : r = 0
      · subst hr0
        simp [gTF, Int.emod_one]
      · have hne : decide ((r : Int) = 0) = false := by simp; omega
        rw [hne]
        simp only [Bool.not_false, Bool.false_or, gTT]
        rw [w_i64 (by omega) (by omega), bnd (ix_getD (by omega) (by omega)), sfO_nn (by omega), Option.bind_some, shl1 hr7]
        have hg := hb.get (k.bytes.length - 1)
        have e2 : ((k.bytes.length : Int) - 1).toNat = k.bytes.length - 1 := by omega
        have hp : (2 : Int) ^ r ≤ 128 ∧ 1 ≤ (2 : Int) ^ r := by
          have a : (2 : Nat) ^ r ≤ 2 ^ 7 := Nat.pow_le_pow_right (by omega) hr7
          have b : 1 ≤ 2 ^ r := Nat.one_le_two_pow
          rw [← pow_int]; omega
        rw [e2, w_u8 (n := 2 ^ r - 1) (by omega) (by omega), ar_mask (k := .u8) (n := r) rfl rfl (by simp only [IntKind.bits]; omega) hg.1 (by simp only [IntKind.bits]; omega)]
        simp [lastB]
    · have hc : (decide (k.many < 0) || !decide ((k.bytes.length : Int) = (k.many + 7) / 8)) = true := by simp [h1]
      rw [hc, if_pos rfl]
      have : okK k = false := by
        cases hh : okK k with
        | false => rfl
        | true =>
          simp only [okK, Bool.and_eq_true, decide_eq_true_eq] at hh
          omega
      rw [this]

theorem vl_zero (b : List Int) (p : Nat) : ∀ t, vl b p t = 0 ↔ ∀ i, i < t → bt1 b (p + i) = 0
  | 0 => by simp [vl]
  | t + 1 => by
    have ih := vl_zero b p t
    have h1 := vl_in b p t
    have h2 := bt1_in b (p + t)
    simp only [vl]
    constructor
    · intro h i hi
      have a : vl b p t = 0 := by omega
      have c : bt1 b (p + t) = 0 := by omega
      by_cases hit : i = t
      · subst hit; exact c
      · exact ih.1 a i (by omega)
    · intro h
      have a := ih.2 (fun i hi => h i (by omega))
      have c := h t (by omega)
      omega

theorem ref02_Ink_eq {k : Ink} (hb : By k.bytes) (hm : inK .i64 k.many) : ref02_Ink none k = some (okK k) := by
  have hl := hb.len
  rw [in_i64] at hm
  unfold ref02_Ink
  have e8 : ar .mul .i64 8 (k.bytes.length : Int) = 8 * (k.bytes.length : Int) := by rw [ar_mul, w_i64 (by omega) (by omega)]
  rw [e8]
  by_cases h : k.many < 0 ∨ 8 * k.bytes.length < k.many ∨ 8 * (k.bytes.length : Int) - k.many > 7
  · have hok : okK k = false := by
      cases hh : okK k with
      | false => rfl
      | true =>
        simp only [okK, Bool.and_eq_true, decide_eq_true_eq] at hh
        omega
    rw [hok]
    by_cases h0 : k.many < 0
    · simp [cm_lss, h0]
    · by_cases h1 : 8 * (k.bytes.length : Int) < k.many
      · simp [cm_gtr, h1]
      · rw [ar_sub, w_i64 (by omega) (by omega)]
        rw [if_pos (by simp [cm_gtr, cm_lss]; omega)]
  · rw [ar_sub, w_i64 (n := 8 * (k.bytes.length : Int) - k.many) (by omega) (by omega), if_neg (by simp [cm_gtr, cm_lss]; omega)]
    obtain ⟨m, hme⟩ := Int.eq_ofNat_of_zero_le (show 0 ≤ k.many by omega)
    obtain ⟨r, hr⟩ : ∃ r : Nat, 8 * k.bytes.length = m + r := ⟨8 * k.bytes.length - m, by omega⟩
    have ho : okK k = decide (vl k.bytes m r = 0) := by
      have e : 8 * k.bytes.length - k.many.toNat = r := by omega
      have hv : vl k.bytes m r = lastB k.bytes % 2 ^ r := by
        by_cases hr0 : r = 0
        · subst hr0; simp [vl, Int.emod_one]
        · rw [vl_byte k.bytes m r (by omega)]
          have e1 : m / 8 = k.bytes.length - 1 := by omega
          have e2 : 8 - m % 8 - r = 0 := by omega
          rw [e1, e2]; simp [lastB]
      simp only [okK, e, hv]
      simp; omega
    rw [ho, hme]
    unfold ref02_Ink_l1
    obtain ⟨x, hx, hq⟩ := loop_inv (step := fun (s : Int) => ref02_Ink_s1 none k s) (Q := fun x => x = decide (vl k.bytes m r = 0))
      (fun s => ∃ j : Nat, j ≤ r ∧ s = ((m + j : Nat) : Int) ∧ ∀ i, i < j → bt1 k.bytes (m + i) = 0) (fun s => (m + r) - s.toNat) (m : Int) ⟨0, by omega, by simp, by omega⟩ (by
      rintro s ⟨j, hj, rfl, hz⟩
      simp only [ref02_Ink_s1, e8, cm_lss, cm_eql, decide_eq_true_eq, ar_add]
      by_cases hjr : j = r
      · right
        subst hjr
        rw [if_neg (by omega)]
        refine ⟨true, rfl, ?_⟩
        have := (vl_zero k.bytes m j).2 hz
        simp [this]
      · rw [if_pos (by omega), bnd (ref02_bit_eq hb (by omega))]
        have hbt := bt1_in k.bytes (m + j)
        by_cases h1 : bt1 k.bytes (m + j) = 1
        · right
          rw [if_pos h1]
          refine ⟨false, rfl, ?_⟩
          have : ¬ vl k.bytes m r = 0 := fun h => by
            have := (vl_zero k.bytes m r).1 h j (by omega)
            omega
          simp [this]
        · left
          rw [if_neg h1, w_i64 (by omega) (by omega)]
          refine ⟨_, rfl, ⟨j + 1, by omega, by omega, fun i hi => ?_⟩, by omega⟩
          by_cases hij : i = j
          · subst hij; omega
          · exact hz i (by omega))
    rw [hx, hq]
end Xb
