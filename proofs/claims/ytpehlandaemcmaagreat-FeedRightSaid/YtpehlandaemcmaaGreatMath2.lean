/- Own text: Math2. -/
import Derived.Test.YtpehlandaemcmaaGreatMath1
set_option linter.all false
set_option linter.unusedVariables false
set_option linter.unusedSimpArgs false
set_option linter.unnecessarySimpa false
set_option linter.deprecated false
/-! Loops along lists; bits of signed numbers. -/
namespace Xb
open Go

theorem ar_and_i64_nat {x y : Nat} (hx : x < 2 ^ 63) (hy : y < 2 ^ 63) : ar .and .i64 (x : Int) (y : Int) = ((x &&& y : Nat) : Int) := by
  have hb : IntKind.i64.bits = 64 := rfl
  simp only [ar, BitVec.toNat_and, BitVec.toNat_ofInt, hb]
  have e1 : ((x : Int) % ((2 ^ 64 : Nat) : Int)).toNat = x := by rw [← Int.natCast_emod, Int.toNat_natCast, Nat.mod_eq_of_lt (by omega)]
  have e2 : ((y : Int) % ((2 ^ 64 : Nat) : Int)).toNat = y := by rw [← Int.natCast_emod, Int.toNat_natCast, Nat.mod_eq_of_lt (by omega)]
  rw [e1, e2]
  have hlt : x &&& y < 2 ^ 63 := Nat.lt_of_le_of_lt Nat.and_le_left hx
  exact w_i64 (by omega) (by omega)
theorem ar_or_i64_nat {x y : Nat} (hx : x < 2 ^ 63) (hy : y < 2 ^ 63) : ar .or .i64 (x : Int) (y : Int) = ((x ||| y : Nat) : Int) := by
  have hb : IntKind.i64.bits = 64 := rfl
  simp only [ar, BitVec.toNat_or, BitVec.toNat_ofInt, hb]
  have e1 : ((x : Int) % ((2 ^ 64 : Nat) : Int)).toNat = x := by rw [← Int.natCast_emod, Int.toNat_natCast, Nat.mod_eq_of_lt (by omega)]
  have e2 : ((y : Int) % ((2 ^ 64 : Nat) : Int)).toNat = y := by rw [← Int.natCast_emod, Int.toNat_natCast, Nat.mod_eq_of_lt (by omega)]
  rw [e1, e2]
  have hlt : x ||| y < 2 ^ 63 := Nat.or_lt_two_pow hx hy
  exact w_i64 (by omega) (by omega)
/-- and with a mask of ones, signed -/
theorem ar_mask_i64 {x y : Int} {n : Nat} (hy : y = 2 ^ n - 1) (hn : n ≤ 62) (h0 : 0 ≤ x) (hx : x < 2 ^ 63) : ar .and .i64 x y = x % 2 ^ n := by
  obtain ⟨x, rfl⟩ := Int.eq_ofNat_of_zero_le h0
  have h2 : (1 : Nat) ≤ 2 ^ n := Nat.one_le_two_pow
  have e : y = ((2 ^ n - 1 : Nat) : Int) := by rw [hy, Int.natCast_sub h2]; simp
  have hle : 2 ^ n ≤ 2 ^ 62 := Nat.pow_le_pow_right (by omega) hn
  rw [e, ar_and_i64_nat (by omega) (by omega), nat_and_mask]
  simp
theorem ar_or_add_i64 {x y a : Int} {n : Nat} (hx : x = a * 2 ^ n) (ha : 0 ≤ a) (h0 : 0 ≤ y) (hy : y < 2 ^ n) (hx2 : x < 2 ^ 63) (hn : n ≤ 63) : ar .or .i64 x y = x + y := by
  obtain ⟨a, rfl⟩ := Int.eq_ofNat_of_zero_le ha
  obtain ⟨y, rfl⟩ := Int.eq_ofNat_of_zero_le h0
  have hle : 2 ^ n ≤ 2 ^ 63 := Nat.pow_le_pow_right (by omega) hn
  have hy' : y < 2 ^ n := by exact_mod_cast hy
  have e : x = ((a * 2 ^ n : Nat) : Int) := by rw [hx]; simp
  rw [e] at hx2 ⊢
  rw [ar_or_i64_nat (by exact_mod_cast hx2) (by omega), nat_or_add hy']
  simp

theorem nat_and_bit (x n : Nat) : x &&& 2 ^ n = x / 2 ^ n % 2 * 2 ^ n := by
  have hb : (x.testBit n) = decide (x / 2 ^ n % 2 = 1) := Nat.testBit_eq_decide_div_mod_eq
  have key : x &&& 2 ^ n = if x.testBit n = true then 2 ^ n else 0 := by
    apply Nat.eq_of_testBit_eq
    intro i
    rw [Nat.testBit_and, Nat.testBit_two_pow]
    by_cases hi : n = i
    · subst hi
      cases hx : x.testBit n <;> simp [Nat.testBit_two_pow]
    · cases hx : x.testBit n <;> simp [hi, Nat.testBit_two_pow]
  rw [key]
  rcases Nat.mod_two_eq_zero_or_one (x / 2 ^ n) with h | h
  · rw [hb, h]; simp
  · rw [hb, h]; simp

/-- a bit by itself -/
theorem ar_bit {k : IntKind} (hs : k.signed = false) {x : Int} {n : Nat} (hn : n < k.bits) (h0 : 0 ≤ x) (hx : x < 2 ^ k.bits) : ar .and k x (2 ^ n) = x / 2 ^ n % 2 * 2 ^ n := by
  obtain ⟨x, rfl⟩ := Int.eq_ofNat_of_zero_le h0
  have e : ((2 : Int) ^ n) = ((2 ^ n : Nat) : Int) := by simp
  rw [e, ar_and_nat hs (by exact_mod_cast hx) (Nat.pow_lt_pow_right (by omega) hn), nat_and_bit]
  simp

theorem loop_inl {σ ρ : Type} {step : σ → Option (σ ⊕ ρ)} {s s' : σ} (h : step s = some (.inl s')) : loopG none step s = loopG none step s' := by rw [loopG_eq, h]
theorem loop_inr {σ ρ : Type} {step : σ → Option (σ ⊕ ρ)} {s : σ} {r : ρ} (h : step s = some (.inr r)) : loopG none step s = some r := by rw [loopG_eq, h]

/-- a search along a list -/
theorem find_loop {α ρ : Type} {l : List α} {step : Int → Option (Int ⊕ ρ)} {p : α → Bool} {hit : Nat → ρ} {miss : ρ} (hmiss : step (l.length : Nat) = some (.inr miss))
    (h : ∀ i (hi : i < l.length), step (i : Nat) = if p l[i] = true then some (.inr (hit i)) else some (.inl ((i + 1 : Nat) : Int))) :
    loopG none step 0 = some (match l.findIdx? p with | some i => hit i | none => miss) := by
  have key : ∀ m i, i + m = l.length → (∀ j (hj : j < i) (hl : j < l.length), p l[j] = false) → loopG none step (i : Nat) = some (match l.findIdx? p with | some i => hit i | none => miss) := by
    intro m
    induction m with
    | zero =>
      intro i hi hn
      rw [loopG_eq]
      have : i = l.length := by omega
      rw [this, hmiss]
      have : l.findIdx? p = none := by
        rw [List.findIdx?_eq_none_iff]
        intro x hx
        obtain ⟨j, hj, rfl⟩ := List.getElem_of_mem hx
        exact hn j (by omega) hj
      rw [this]
    | succ m ih =>
      intro i hi hn
      have hil : i < l.length := by omega
      rw [loopG_eq, h i hil]
      by_cases hp : p l[i] = true
      · rw [if_pos hp]
        have : l.findIdx? p = some i := by
          rw [List.findIdx?_eq_some_iff_getElem]
          exact ⟨hil, hp, fun j hj => by simpa using hn j hj (by omega)⟩
        rw [this]
      · rw [if_neg hp]
        exact ih (i + 1) (by omega) fun j hj hl => by
          by_cases hji : j = i
          · subst hji; simpa using hp
          · exact hn j (by omega) hl
  have := key l.length 0 (by omega) (fun j hj => by omega)
  simpa using this

/-- are two lists the same, one by one -/
theorem same_loop {α : Type} [DecidableEq α] {a b : List α} (hl : a.length = b.length) {step : Int → Option (Int ⊕ Bool)} (hend : step (a.length : Nat) = some (.inr true))
    (h : ∀ i (hi : i < a.length) (hi' : i < b.length), step (i : Nat) = if a[i] ≠ b[i] then some (.inr false) else some (.inl ((i + 1 : Nat) : Int))) :
    loopG none step 0 = some (decide (a = b)) := by
  have key : ∀ m i, i + m = a.length → a.take i = b.take i → loopG none step (i : Nat) = some (decide (a = b)) := by
    intro m
    induction m with
    | zero =>
      intro i hi ht
      have e : i = a.length := by omega
      rw [loopG_eq, e, hend]
      rw [List.take_of_length_le (by omega), List.take_of_length_le (by omega)] at ht
      simp [ht]
    | succ m ih =>
      intro i hi ht
      have hia : i < a.length := by omega
      have hib : i < b.length := by omega
      rw [loopG_eq, h i hia hib]
      by_cases hne : a[i] = b[i]
      · rw [if_neg (by simpa using hne)]
        refine ih (i + 1) (by omega) ?_
        rw [List.take_add_one, List.take_add_one, ht, List.getElem?_eq_getElem hia, List.getElem?_eq_getElem hib, hne]
      · rw [if_pos (by simpa using hne)]
        have : a ≠ b := fun e => hne (by subst e; rfl)
        simp [this]
  have := key a.length 0 (by omega) (by simp)
  simpa using this
end Xb
