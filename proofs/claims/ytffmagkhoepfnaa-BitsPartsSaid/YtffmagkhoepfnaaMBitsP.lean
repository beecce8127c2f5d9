/- Own text: MBitsP. -/
import Derived.Test.YtffmagkhoepfnaaMBits6
set_option linter.all false
set_option linter.unusedVariables false
set_option linter.unusedSimpArgs false
set_option linter.unnecessarySimpa false
set_option linter.deprecated false
namespace Xb
open Go

/-- in two parts as at once -/
theorem getG_two {c : GBits} {x y : Nat} (hx : x ≤ 32) (hy : y ≤ 31) :
    (getG (getG c x).1 y).1.err = 0 → (getG c ((x + y : Nat) : Int)).1 = (getG (getG c x).1 y).1 ∧ (getG c ((x + y : Nat) : Int)).1.err = 0 ∧
      (getG c ((x + y : Nat) : Int)).2 = (getG c x).2 * 2 ^ y + (getG (getG c x).1 y).2 ∧ (getG c x).2 < 2 ^ x ∧ 0 ≤ (getG c x).2 ∧ (getG (getG c x).1 y).2 < 2 ^ y ∧ 0 ≤ (getG (getG c x).1 y).2 := by
  intro h
  cases ho : okG c with
  | false =>
    have e1 : getG c x = failG c 1 := by simp [getG, ho]
    have hf : ∀ (d : GBits) (n : Int), okG d = false → d.err = 0 → (getG d n).1.err = 1 := fun d n hd he => by simp [getG, hd, failG, he]
    exfalso
    rw [e1] at h
    by_cases he : c.err = 0
    · have : (failG c 1).1 = { c with err := 1 } := by simp [failG, he]
      rw [this] at h
      have hk : okG { c with err := 1 } = false := by simp [okG]
      simp [getG, hk, failG] at h
    · have : (failG c 1).1 = c := by simp [failG, he]
      rw [this] at h
      simp [getG, ho, failG, he] at h
  | true =>
    have ho' := ho
    simp only [okG, Bool.and_eq_true, decide_eq_true_eq] at ho'
    obtain ⟨⟨he, ha⟩, hat⟩ := ho'
    rw [getG_ok (q := x) ho rfl (by omega)] at h ⊢
    by_cases e1 : (x : Int) > 8 * c.bytes.length - c.at_
    · exfalso
      rw [if_pos e1] at h
      have hk : okG { c with err := 2 } = false := by simp [okG]
      simp [getG, hk, failG] at h
    · rw [if_neg e1] at h ⊢
      have ho2 : okG { c with at_ := c.at_ + (x : Int) } = true := by simp [okG, he]; omega
      simp only at h ⊢
      rw [getG_ok (q := y) ho2 rfl (by omega)] at h ⊢
      by_cases e2 : (y : Int) > 8 * (c.bytes.length : Int) - (c.at_ + x)
      · exfalso
        rw [if_pos e2] at h
        simp at h
      · rw [if_neg e2]
        rw [getG_ok (q := x + y) ho rfl (by omega), if_neg (by omega)]
        have hv := vl_add c.bytes c.at_.toNat x y
        have e3 : (c.at_ + (x : Int)).toNat = c.at_.toNat + x := by omega
        have h1 := vl_in c.bytes c.at_.toNat x
        have h2 := vl_in c.bytes (c.at_.toNat + x) y
        simp only [e3, he, hv]
        refine ⟨?_, trivial, trivial, h1.2, h1.1, h2.2, h2.1⟩
        congr 1; omega

theorem getG_two' {c : GBits} {x y : Nat} (hx : x ≤ 32) (hy : y ≤ 31) : (getG c ((x + y : Nat) : Int)).1.err = 0 → (getG (getG c x).1 y).1.err = 0 := by
  intro h
  cases ho : okG c with
  | false =>
    exfalso
    have e1 : getG c ((x + y : Nat) : Int) = failG c 1 := by simp [getG, ho]
    rw [e1] at h
    unfold failG at h
    by_cases he : c.err = 0 <;> simp [he] at h
  | true =>
    have ho' := ho
    simp only [okG, Bool.and_eq_true, decide_eq_true_eq] at ho'
    obtain ⟨⟨he, ha⟩, hat⟩ := ho'
    rw [getG_ok (q := x + y) ho rfl (by omega)] at h
    by_cases e1 : ((x + y : Nat) : Int) > 8 * c.bytes.length - c.at_
    · rw [if_pos e1] at h; simp at h
    · rw [getG_ok (q := x) ho rfl (by omega), if_neg (by omega)]
      have ho2 : okG { c with at_ := c.at_ + (x : Int) } = true := by simp [okG, he]; omega
      simp only
      rw [getG_ok (q := y) ho2 rfl (by omega), if_neg (by simp; omega)]
      exact he

theorem PB_two (b : List Int) (m : Nat) (v w : Int) (x y : Nat) (hw : w = v % 2 ^ y) : ∀ j, j ≤ y → PB (PB b m (v / 2 ^ y) x x) (m + x) w y j = PB b m v (x + y) (x + j)
  | 0, _ => by
    have : ∀ i, i ≤ x → PB b m (v / 2 ^ y) x i = PB b m v (x + y) i := fun i => by
      induction i with
      | zero => intro _; rfl
      | succ i ih =>
        intro hi
        simp only [PB]
        rw [ih (by omega), Int.ediv_ediv_of_nonneg (Int.le_of_lt (Int.pow_pos (by omega))), ← Int.pow_add, show y + (x - (i + 1)) = x + y - (i + 1) by omega]
    exact this x (Nat.le_refl _)
  | j + 1, hj => by
    have ih := PB_two b m v w x y hw j (by omega)
    rw [← Nat.add_assoc]
    simp only [PB]
    rw [ih, Nat.add_assoc, show x + y - (x + j + 1) = y - (j + 1) by omega]
    congr 1
    subst hw
    have hk : (2 : Int) ^ y = 2 ^ (y - (j + 1)) * 2 ^ (j + 1) := by rw [← Int.pow_add]; congr 1; omega
    have hp : (0 : Int) < 2 ^ (y - (j + 1)) := Int.pow_pos (by omega)
    generalize (2 : Int) ^ (y - (j + 1)) = P at hk hp
    have e : v % 2 ^ y / P = v / P % 2 ^ (j + 1) := by
      have h1 : v = 2 ^ y * (v / 2 ^ y) + v % 2 ^ y := (Int.mul_ediv_add_emod v _).symm
      have h2 : v / P = v % 2 ^ y / P + 2 ^ (j + 1) * (v / 2 ^ y) := by
        have h3 : v = v % 2 ^ y + P * (2 ^ (j + 1) * (v / 2 ^ y)) := by
          rw [← Int.mul_assoc, ← hk]; omega
        have h4 : v / P = (v % 2 ^ y + P * (2 ^ (j + 1) * (v / 2 ^ y))) / P := congrArg (· / P) h3
        rw [h4, Int.add_mul_ediv_left _ _ (by omega)]
      have h5 : 0 ≤ v % 2 ^ y := Int.emod_nonneg _ (by have : (0 : Int) < 2 ^ y := Int.pow_pos (by omega); omega)
      have h6 : v % 2 ^ y < 2 ^ y := Int.emod_lt_of_pos _ (Int.pow_pos (by omega))
      rw [h2, Int.add_mul_emod_self_left, Int.emod_eq_of_lt (Int.ediv_nonneg h5 (by omega))]
      rw [hk] at h6 ⊢
      exact Int.ediv_lt_of_lt_mul hp (by rw [Int.mul_comm (2 ^ (j + 1)) P]; exact h6)
    rw [e, Int.pow_succ, Int.emod_emod_of_dvd _ (Int.dvd_mul_left _ _)]

theorem addK_two {k : Ink} (hu : U8 k.bytes) {x y : Nat} (hx : x ≤ 32) (hy : y ≤ 31) {v : Int} (hv2 : v < 2 ^ (x + y)) :
    addK (addK k (v / 2 ^ y) x).1 (v % 2 ^ y) y = addK k v ((x + y : Nat) : Int) ∧ (addK k (v / 2 ^ y) x).2 = (addK k v ((x + y : Nat) : Int)).2 := by
  have hpy : (0 : Int) < 2 ^ y := Int.pow_pos (by omega)
  have h1 : v / 2 ^ y < 2 ^ x := Int.ediv_lt_of_lt_mul hpy (by rw [← Int.pow_add]; exact hv2)
  have h2 : v % 2 ^ y < 2 ^ y := Int.emod_lt_of_pos _ hpy
  cases ho : okK k with
  | false => simp [addK, ho]
  | true =>
    obtain ⟨hok, hm0⟩ := okK_ok hu ho
    have e1 : ∀ {k : Ink} {w : Int} {n : Nat}, okK k = true → n ≤ 64 → w < 2 ^ n → addK k w (n : Int) = ({ bytes := PB k.bytes k.many.toNat w n n, many := k.many + n }, 0) := fun {k w n} hk hn hw => by
      unfold addK
      rw [if_neg (by simp [hk]; omega), Int.toNat_natCast, if_neg (by omega)]
    rw [e1 ho (by omega) h1, e1 ho (by omega) hv2]
    have hok2 := PB_ok hok (v / 2 ^ y) x x
    have ho2 : okK { bytes := PB k.bytes k.many.toNat (v / 2 ^ y) x x, many := k.many + (x : Int) } = true := by
      have a := hok2.le
      have b := hok2.ge
      have c := hok2.low
      have e : (k.many + (x : Int)).toNat = k.many.toNat + x := by omega
      simp only [okK, Bool.and_eq_true, decide_eq_true_eq, e]
      exact ⟨⟨⟨by omega, by omega⟩, by omega⟩, c⟩
    simp only
    rw [e1 ho2 (by omega) h2]
    have e : (k.many + (x : Int)).toNat = k.many.toNat + x := by omega
    simp only [e]
    rw [PB_two k.bytes k.many.toNat v _ x y rfl y (Nat.le_refl _)]
    refine ⟨?_, trivial⟩
    congr 2
    omega
end Xb
