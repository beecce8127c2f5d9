/- Own text: MBitsB1. -/
import Derived.Test.YtffmagkhoepfnaaMBits6
set_option linter.all false
set_option linter.unusedVariables false
set_option linter.unusedSimpArgs false
set_option linter.unnecessarySimpa false
set_option linter.deprecated false
namespace Xb
open Go

theorem getD_app_lt {b : List Int} {c : List Int} {i : Nat} (h : i < b.length) : (b ++ c).getD i 0 = b.getD i 0 := by
  simp only [List.getD]; rw [List.getElem?_append_left h]

theorem bt1_grow {b : List Int} {m : Nat} (h : OkB b m) {i : Nat} (hi : i < m) : bt1 (grow b m) i = bt1 b i := by
  have := h.le
  unfold grow
  split
  · unfold bt1
    rw [getD_app_lt (by omega)]
  · rfl

theorem bt1_addL {b : List Int} {i : Nat} {x : Int} (h : i / 8 < b.length - 1) : bt1 (addL b x) i = bt1 b i := by
  unfold bt1 addL
  simp only [List.getD]
  rw [List.getElem?_set_ne (by omega)]

theorem bt1_put {b : List Int} {m : Nat} (h : OkB b m) {x : Int} (h0 : 0 ≤ x) (h1 : x ≤ 1) :
    (∀ i, i < m → bt1 (putB b m x) i = bt1 b i) ∧ bt1 (putB b m x) m = x := by
  obtain ⟨hr, hl⟩ := h.grow
  have hpos : 0 < (grow b m).length := List.length_pos_iff.2 hr.ne
  have hlast : lastB (addL (grow b m) (x * 2 ^ (7 - m % 8))) = lastB (grow b m) + x * 2 ^ (7 - m % 8) := lastB_addL hr.ne _
  obtain ⟨q, hq⟩ : ∃ q : Int, lastB (grow b m) = q * 2 ^ (8 - m % 8) := by
    obtain ⟨q, hq⟩ := Int.dvd_of_emod_eq_zero hr.low
    exact ⟨q, by rw [hq, Int.mul_comm]⟩
  have e8 : (2 : Int) ^ (8 - m % 8) = 2 ^ (7 - m % 8) * 2 := by rw [← Int.pow_succ]; congr 1; omega
  have hp : (0 : Int) < 2 ^ (7 - m % 8) := Int.pow_pos (by omega)
  have hlen := len_addL (grow b m) (x * 2 ^ (7 - m % 8))
  constructor
  · intro i hi
    rw [← bt1_grow h hi]
    unfold putB
    by_cases hi8 : i / 8 < (grow b m).length - 1
    · exact bt1_addL hi8
    · have e : i / 8 = (grow b m).length - 1 := by omega
      unfold bt1
      have e1 : (addL (grow b m) (x * 2 ^ (7 - m % 8))).getD (i / 8) 0 = lastB (addL (grow b m) (x * 2 ^ (7 - m % 8))) := by unfold lastB; rw [hlen, e]
      have e2 : (grow b m).getD (i / 8) 0 = lastB (grow b m) := by unfold lastB; rw [e]
      rw [e1, e2, hlast, hq]
      have e3 : 7 - i % 8 = (8 - m % 8) + (m % 8 - 1 - i % 8) := by omega
      have hp8 : (0 : Int) < 2 ^ (8 - m % 8) := Int.pow_pos (by omega)
      rw [e3, Int.pow_add, ← Int.ediv_ediv_of_nonneg (Int.le_of_lt hp8), ← Int.ediv_ediv_of_nonneg (Int.le_of_lt hp8)]
      congr 2
      rw [Int.mul_ediv_cancel _ (by omega), Int.add_comm, Int.add_mul_ediv_right _ _ (by omega), Int.ediv_eq_zero_of_lt, Int.zero_add]
      · exact Int.mul_nonneg h0 (Int.le_of_lt hp)
      · rw [e8]
        rcases (show x = 0 ∨ x = 1 by omega) with rfl | rfl <;> omega
  · have e : m / 8 = (grow b m).length - 1 := by omega
    unfold putB bt1
    have e1 : (addL (grow b m) (x * 2 ^ (7 - m % 8))).getD (m / 8) 0 = lastB (addL (grow b m) (x * 2 ^ (7 - m % 8))) := by unfold lastB; rw [hlen, e]
    rw [e1, hlast, hq, e8, Int.mul_comm (2 ^ (7 - m % 8)) 2, ← Int.mul_assoc, ← Int.add_mul, Int.mul_ediv_cancel _ (by omega)]
    omega

theorem bt1_PB {b : List Int} {m : Nat} (h : OkB b m) (v : Int) (n : Nat) : ∀ j, (∀ i, i < m → bt1 (PB b m v n j) i = bt1 b i)
  | 0 => fun _ _ => rfl
  | j + 1 => fun i hi => by
    have := (bt1_put (PB_ok h v n j) (x := v / 2 ^ (n - (j + 1)) % 2) (by omega) (by omega)).1 i (by omega)
    rw [show PB b m v n (j + 1) = putB (PB b m v n j) (m + j) (v / 2 ^ (n - (j + 1)) % 2) from rfl, this]
    exact bt1_PB h v n j i hi

theorem vl_congr {b c : List Int} {p : Nat} : ∀ {n : Nat}, (∀ i, p ≤ i → i < p + n → bt1 b i = bt1 c i) → vl b p n = vl c p n
  | 0, _ => rfl
  | n + 1, h => by
    simp only [vl]
    rw [vl_congr (n := n) (fun i h1 h2 => h i h1 (by omega)), h (p + n) (by omega) (by omega)]

theorem vl_PB {b : List Int} {m : Nat} (h : OkB b m) (v : Int) (n : Nat) : ∀ j, j ≤ n → vl (PB b m v n j) m j = v / 2 ^ (n - j) % 2 ^ j
  | 0, _ => by simp [vl, Int.emod_one]
  | j + 1, hj => by
    have hput := bt1_put (PB_ok h v n j) (x := v / 2 ^ (n - (j + 1)) % 2) (by omega) (by omega)
    have ih := vl_PB h v n j (by omega)
    have e : vl (PB b m v n (j + 1)) m j = vl (PB b m v n j) m j := vl_congr fun i h1 h2 => hput.1 i h2
    simp only [vl]
    rw [e, ih, show PB b m v n (j + 1) = putB (PB b m v n j) (m + j) (v / 2 ^ (n - (j + 1)) % 2) from rfl, hput.2, ← mod_two, show n - j = n - (j + 1) + 1 by omega, Int.pow_succ, ← Int.ediv_ediv_of_nonneg (Int.le_of_lt (Int.pow_pos (by omega)))]
    omega

/-- what is written reads as what it was -/
theorem vl_put {b : List Int} {m : Nat} (h : OkB b m) {v : Int} {n : Nat} (h0 : 0 ≤ v) (h1 : v < 2 ^ n) : vl (PB b m v n n) m n = v := by
  rw [vl_PB h v n n (Nat.le_refl _)]
  simp [Int.emod_eq_of_lt h0 h1]

/-- one number of a list, in its bits -/
def Rds (B : List Int) (p p' : Nat) (rg : Bool) (wd : Nat) (v : Int) : Prop :=
  if rg then
    (p' = p + (bl (wd + 1) - 1) ∧ vl B p (bl (wd + 1) - 1) = v ∧ v < 2 ^ (bl (wd + 1) - 1 + 1) - (wd + 1 : Int)) ∨
    (p' = p + (bl (wd + 1) - 1) + 1 ∧ 2 ^ (bl (wd + 1) - 1 + 1) - (wd + 1 : Int) ≤ vl B p (bl (wd + 1) - 1) ∧ vl B p (bl (wd + 1) - 1 + 1) = v + (2 ^ (bl (wd + 1) - 1 + 1) - (wd + 1 : Int)))
  else p' = p + wd % 65 ∧ vl B p (wd % 65) = v

theorem Rds.le {B : List Int} {p p' : Nat} {rg : Bool} {wd : Nat} {v : Int} (h : Rds B p p' rg wd v) : p ≤ p' := by
  unfold Rds at h; split at h
  · rcases h with h | h <;> omega
  · omega
theorem Rds.congr {B C : List Int} {p p' : Nat} {rg : Bool} {wd : Nat} {v : Int} (h : Rds B p p' rg wd v) (hc : ∀ i, p ≤ i → i < p' → bt1 B i = bt1 C i) : Rds C p p' rg wd v := by
  unfold Rds at h ⊢; split at h <;> rename_i hr <;> simp only [hr, if_true, if_false, Bool.false_eq_true]
  · rcases h with ⟨h1, h2, h3⟩ | ⟨h1, h2, h3⟩
    · left
      refine ⟨h1, ?_, h3⟩
      rw [← h2]; exact (vl_congr fun i a b => hc i a (by omega)).symm
    · right
      refine ⟨h1, ?_, ?_⟩
      · rw [← vl_congr (b := B) (c := C) fun i a b => hc i a (by omega)]; exact h2
      · rw [← vl_congr (b := B) (c := C) fun i a b => hc i a (by omega)]; exact h3
  · refine ⟨h.1, ?_⟩
    rw [← h.2]; exact (vl_congr fun i a b => hc i a (by omega)).symm
end Xb
