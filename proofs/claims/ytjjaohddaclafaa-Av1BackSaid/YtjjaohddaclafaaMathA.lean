/- Own text: MathA. -/
import Derived.Test.YtjjaohddaclafaaCore16
import Derived.Test.YtjjaohddaclafaaQModels
import Derived.Test.YtjjaohddaclafaaQWf
set_option linter.all false
set_option linter.unusedVariables false
set_option linter.unusedSimpArgs false
set_option linter.unnecessarySimpa false
set_option linter.deprecated false
/-! Plain arithmetic and loops, for the models. -/
namespace Xb
open Go

/-! wraps -/
theorem w_i64 {n : Int} (h1 : -9223372036854775808 ≤ n) (h2 : n ≤ 9223372036854775807) : IntKind.i64.wrap n = n := by
  simp only [IntKind.wrap, IntKind.signed, IntKind.bits]; simp; split <;> omega
theorem w_i32 {n : Int} (h1 : -2147483648 ≤ n) (h2 : n ≤ 2147483647) : IntKind.i32.wrap n = n := by
  simp only [IntKind.wrap, IntKind.signed, IntKind.bits]; simp; split <;> omega
theorem wu64 (n : Int) : IntKind.u64.wrap n = n % 18446744073709551616 := by
  simp [IntKind.wrap, IntKind.signed, IntKind.bits]
theorem wu32 (n : Int) : IntKind.u32.wrap n = n % 4294967296 := by
  simp [IntKind.wrap, IntKind.signed, IntKind.bits]
theorem wu16 (n : Int) : IntKind.u16.wrap n = n % 65536 := by
  simp [IntKind.wrap, IntKind.signed, IntKind.bits]
theorem wu8 (n : Int) : IntKind.u8.wrap n = n % 256 := by
  simp [IntKind.wrap, IntKind.signed, IntKind.bits]
theorem w_u64 {n : Int} (h1 : 0 ≤ n) (h2 : n ≤ 18446744073709551615) : IntKind.u64.wrap n = n := by rw [wu64]; omega
theorem w_u32 {n : Int} (h1 : 0 ≤ n) (h2 : n ≤ 4294967295) : IntKind.u32.wrap n = n := by rw [wu32]; omega
theorem w_u16 {n : Int} (h1 : 0 ≤ n) (h2 : n ≤ 65535) : IntKind.u16.wrap n = n := by rw [wu16]; omega
theorem w_u8 {n : Int} (h1 : 0 ≤ n) (h2 : n ≤ 255) : IntKind.u8.wrap n = n := by rw [wu8]; omega

theorem in_i64 {n : Int} : inK .i64 n ↔ -9223372036854775808 ≤ n ∧ n ≤ 9223372036854775807 := Iff.rfl
theorem in_i32 {n : Int} : inK .i32 n ↔ -2147483648 ≤ n ∧ n ≤ 2147483647 := Iff.rfl
theorem in_u64 {n : Int} : inK .u64 n ↔ 0 ≤ n ∧ n ≤ 18446744073709551615 := Iff.rfl
theorem in_u32 {n : Int} : inK .u32 n ↔ 0 ≤ n ∧ n ≤ 4294967295 := Iff.rfl
theorem in_u16 {n : Int} : inK .u16 n ↔ 0 ≤ n ∧ n ≤ 65535 := Iff.rfl
theorem in_u8 {n : Int} : inK .u8 n ↔ 0 ≤ n ∧ n ≤ 255 := Iff.rfl

theorem ar_add {k : IntKind} {x y : Int} : ar .add k x y = k.wrap (x + y) := by cases k <;> rfl
theorem ar_sub {k : IntKind} {x y : Int} : ar .sub k x y = k.wrap (x - y) := by cases k <;> rfl
theorem ar_mul {k : IntKind} {x y : Int} : ar .mul k x y = k.wrap (x * y) := by cases k <;> rfl
theorem cm_eql {x y : Int} : cm .eql x y = decide (x = y) := by simp only [cm]; by_cases h : x = y <;> simp [h]
theorem cm_neq {x y : Int} : cm .neq x y = !decide (x = y) := by simp only [cm]; by_cases h : x = y <;> simp [h]
theorem cm_lss {x y : Int} : cm .lss x y = decide (x < y) := by simp only [cm, gt_iff_lt, ge_iff_le]
theorem cm_leq {x y : Int} : cm .leq x y = decide (x ≤ y) := by simp only [cm, gt_iff_lt, ge_iff_le]
theorem cm_gtr {x y : Int} : cm .gtr x y = decide (y < x) := by simp only [cm, gt_iff_lt, ge_iff_le]
theorem cm_geq {x y : Int} : cm .geq x y = decide (y ≤ x) := by simp only [cm, gt_iff_lt, ge_iff_le]
theorem dv_quo {k : IntKind} {x y : Int} (h : 0 ≤ x) : dv .quo k x y = k.wrap (x / y) := by simp only [dv, Int.tdiv_eq_ediv_of_nonneg h]
theorem dv_rem {k : IntKind} {x y : Int} (h : 0 ≤ x) : dv .rem k x y = x % y := by simp only [dv, Int.tmod_eq_emod_of_nonneg h]

theorem sf_shl {k : IntKind} {x y : Int} {n : Nat} (h : y = n) (hn : n ≤ k.bits) : sf .shl k x y = k.wrap (x * 2 ^ n) := by
  subst h; simp only [sf, Int.toNat_natCast]; rw [Nat.min_eq_left hn]
theorem sf_shr {k : IntKind} {x y : Int} {n : Nat} (h : y = n) (hn : n ≤ k.bits) : sf .shr k x y = x / 2 ^ n := by
  subst h; simp only [sf, Int.toNat_natCast]; rw [Nat.min_eq_left hn, Int.fdiv_eq_ediv_of_nonneg _ (Int.le_of_lt (Int.pow_pos (by omega)))]
theorem sfO_nn {op : BinOp} {k : IntKind} {x y : Int} (h : 0 ≤ y) : sfO op k x y = some (sf op k x y) := by simp [sfO]; omega
theorem dvO_nz {op : BinOp} {k : IntKind} {x y : Int} (h : y ≠ 0) : dvO op k x y = some (dv op k x y) := by simp [dvO, h]

/-- and with a mask of ones -/
theorem nat_and_mask (x n : Nat) : x &&& (2 ^ n - 1) = x % 2 ^ n := Nat.and_two_pow_sub_one_eq_mod x n
theorem ar_and_nat {k : IntKind} (hs : k.signed = false) {x y : Nat} (hx : x < 2 ^ k.bits) (hy : y < 2 ^ k.bits) : ar .and k (x : Int) (y : Int) = ((x &&& y : Nat) : Int) := by
  simp only [ar, BitVec.toNat_and, BitVec.toNat_ofInt]
  have e1 : ((x : Int) % ((2 ^ k.bits : Nat) : Int)).toNat = x := by
    rw [← Int.natCast_emod, Int.toNat_natCast, Nat.mod_eq_of_lt hx]
  have e2 : ((y : Int) % ((2 ^ k.bits : Nat) : Int)).toNat = y := by
    rw [← Int.natCast_emod, Int.toNat_natCast, Nat.mod_eq_of_lt hy]
  rw [e1, e2]
  have hlt : x &&& y < 2 ^ k.bits := Nat.lt_of_le_of_lt Nat.and_le_left hx
  simp only [IntKind.wrap, hs, Bool.false_and, Bool.false_eq_true, if_false]
  have : ((x &&& y : Nat) : Int) % ((2 : Int) ^ k.bits) = ((x &&& y : Nat) : Int) := by
    apply Int.emod_eq_of_lt (by omega)
    have : ((x &&& y : Nat) : Int) < ((2 ^ k.bits : Nat) : Int) := by exact_mod_cast hlt
    simpa using this
  exact this
theorem ar_or_nat {k : IntKind} (hs : k.signed = false) {x y : Nat} (hx : x < 2 ^ k.bits) (hy : y < 2 ^ k.bits) : ar .or k (x : Int) (y : Int) = ((x ||| y : Nat) : Int) := by
  simp only [ar, BitVec.toNat_or, BitVec.toNat_ofInt]
  have e1 : ((x : Int) % ((2 ^ k.bits : Nat) : Int)).toNat = x := by
    rw [← Int.natCast_emod, Int.toNat_natCast, Nat.mod_eq_of_lt hx]
  have e2 : ((y : Int) % ((2 ^ k.bits : Nat) : Int)).toNat = y := by
    rw [← Int.natCast_emod, Int.toNat_natCast, Nat.mod_eq_of_lt hy]
  rw [e1, e2]
  have hlt : x ||| y < 2 ^ k.bits := Nat.or_lt_two_pow hx hy
  simp only [IntKind.wrap, hs, Bool.false_and, Bool.false_eq_true, if_false]
  have : ((x ||| y : Nat) : Int) % ((2 : Int) ^ k.bits) = ((x ||| y : Nat) : Int) := by
    apply Int.emod_eq_of_lt (by omega)
    have : ((x ||| y : Nat) : Int) < ((2 ^ k.bits : Nat) : Int) := by exact_mod_cast hlt
    simpa using this
  exact this

/-- and with a mask, of numbers without a sign -/
theorem ar_mask {k : IntKind} (hs : k.signed = false) {x y : Int} {n : Nat} (hy : y = 2 ^ n - 1) (hn : n ≤ k.bits) (h0 : 0 ≤ x) (hx : x < 2 ^ k.bits) : ar .and k x y = x % 2 ^ n := by
  obtain ⟨x, rfl⟩ := Int.eq_ofNat_of_zero_le h0
  have h2 : (1 : Nat) ≤ 2 ^ n := Nat.one_le_two_pow
  have e : y = ((2 ^ n - 1 : Nat) : Int) := by rw [hy, Int.natCast_sub h2]; simp
  have hle : 2 ^ n ≤ 2 ^ k.bits := Nat.pow_le_pow_right (by omega) hn
  rw [e, ar_and_nat hs (by exact_mod_cast hx) (Nat.lt_of_lt_of_le (Nat.sub_lt (by omega) (by omega)) hle), nat_and_mask]
  simp
/-- or, where the lower one is below all ones of the higher one -/
theorem nat_or_add {a b n : Nat} (hb : b < 2 ^ n) : a * 2 ^ n ||| b = a * 2 ^ n + b := by
  rw [← Nat.shiftLeft_eq, Nat.shiftLeft_add_eq_or_of_lt hb]
theorem ar_or_add {k : IntKind} (hs : k.signed = false) {x y a : Int} {n : Nat} (hx : x = a * 2 ^ n) (ha : 0 ≤ a) (h0 : 0 ≤ y) (hy : y < 2 ^ n) (hx2 : x < 2 ^ k.bits) (hn : n ≤ k.bits) : ar .or k x y = x + y := by
  obtain ⟨a, rfl⟩ := Int.eq_ofNat_of_zero_le ha
  obtain ⟨y, rfl⟩ := Int.eq_ofNat_of_zero_le h0
  have hle : 2 ^ n ≤ 2 ^ k.bits := Nat.pow_le_pow_right (by omega) hn
  have hy' : y < 2 ^ n := by exact_mod_cast hy
  have e : x = ((a * 2 ^ n : Nat) : Int) := by rw [hx]; simp
  rw [e] at hx2 ⊢
  rw [ar_or_nat hs (by exact_mod_cast hx2) (by omega), nat_or_add hy']
  simp

/-! lists -/
theorem ix_some {α : Type} {l : List α} {i : Int} {n : Nat} (h : i = n) (hn : n < l.length) : ix l i = some l[n] := by
  subst h; simp [ix, hn]
theorem ix_getD {l : List Int} {i : Int} (h : 0 ≤ i) (hn : i < l.length) : ix l i = some (l.getD i.toNat 0) := by
  have : i.toNat < l.length := by omega
  simp [ix, h, List.getD, this]
theorem app_some {α : Type} {l m : List α} (h : l.length + m.length ≤ 4294967296) : app l m = some (l ++ m) := by simp [app, h]
theorem sub_some {α : Type} {l : List α} {a b : Int} (h1 : 0 ≤ a) (h2 : a ≤ b) (h3 : b ≤ l.length) : sub l a b = some ((l.drop a.toNat).take (b.toNat - a.toNat)) := by simp [sub, h1, h2, h3]
theorem cat_some {l m : List UInt8} (h : l.length + m.length ≤ 4294967296) : cat l m = some (l ++ m) := by simp [cat, h]
theorem bnd {α β : Type} {m : Option α} {x : α} (h : m = some x) (f : α → Option β) : Option.bind m f = f x := by subst h; rfl
theorem gT_true {α : Type} [Inhabited α] {b : Bool} {m : Option α} (h : b = true) : gT b m = m := by subst h; rfl
theorem gT_false {α : Type} [Inhabited α] {b : Bool} {m : Option α} (h : b = false) : gT b m = some default := by subst h; rfl
theorem gTT {α : Type} [Inhabited α] {m : Option α} : gT true m = m := by cases m <;> rfl
theorem gTF {α : Type} [Inhabited α] {m : Option α} : gT false m = some default := by cases m <;> rfl
theorem sc_self {s : List UInt8} : sc .eql s s = true := by simp [sc]

/-! loops -/
/-- a loop whose states are known ahead -/
theorem loop_seq {σ ρ : Type} {step : σ → Option (σ ⊕ ρ)} {r : ρ} (f : Nat → σ) (N : Nat) (h : ∀ i, i < N → step (f i) = some (.inl (f (i + 1)))) (he : step (f N) = some (.inr r)) : loopG none step (f 0) = some r := by
  have key : ∀ k, k ≤ N → loopG none step (f (N - k)) = some r := by
    intro k
    induction k with
    | zero => intro _; rw [loopG_eq]; simp [he]
    | succ k ih =>
      intro hk
      rw [loopG_eq, h (N - (k + 1)) (by omega)]
      have e : N - (k + 1) + 1 = N - k := by omega
      simp only [e]
      exact ih (by omega)
  have := key N (Nat.le_refl _)
  simpa using this

/-- a loop by what stands at its head -/
theorem loop_inv {σ ρ : Type} {step : σ → Option (σ ⊕ ρ)} {Q : ρ → Prop} (Inv : σ → Prop) (μ : σ → Nat) (s0 : σ) (h0 : Inv s0)
    (h : ∀ s, Inv s → (∃ s', step s = some (.inl s') ∧ Inv s' ∧ μ s' < μ s) ∨ (∃ r, step s = some (.inr r) ∧ Q r)) : ∃ r, loopG none step s0 = some r ∧ Q r := by
  have key : ∀ n s, μ s < n → Inv s → ∃ r, loopG none step s = some r ∧ Q r := by
    intro n
    induction n with
    | zero => intro s hs; omega
    | succ n ih =>
      intro s hs hi
      rcases h s hi with ⟨s', h1, h2, h3⟩ | ⟨r, h1, h2⟩
      · obtain ⟨r, hr, hq⟩ := ih s' (by omega) h2
        exact ⟨r, by rw [loopG_eq, h1]; exact hr, hq⟩
      · exact ⟨r, by rw [loopG_eq, h1], h2⟩
  exact key (μ s0 + 1) s0 (by omega) h0

end Xb

/-! Loops along lists; bits of signed numbers. -/
namespace Xb
open Go

theorem ar_and_i64_nat {x y : Nat} (hx : x < 2 ^ 63) (hy : y < 2 ^ 63) : ar .and .i64 (x : Int) (y : Int) = ((x &&& y : Nat) : Int) := by
  have hb : IntKind.i64.bits = 64 := rfl
  simp only [ar, BitVec.toNat_and, BitVec.toNat_ofInt, hb]
  have e1 : ((x : Int) % ((2 ^ 64 : Nat) : Int)).toNat = x := by rw [← Int.natCast_emod, Int.toNat_natCast, Nat.mod_eq_of_lt (by omega)]
  have e2 : ((y : Int) % ((2 ^ 64 : Nat) : Int)).toNat = y := by rw [← Int.natCast_emod, Int.toNat_natCast, Nat.mod_eq_of_lt (by omega)]
  rw [e1, e2]
  have hlt : x &&& y < 2 ^ 63 := Nat.lt_of_le_of_lt Nat.and_le_left hx
  exact w_i64 (by omega) (by omega)
theorem ar_or_i64_nat {x y : Nat} (hx : x < 2 ^ 63) (hy : y < 2 ^ 63) : ar .or .i64 (x : Int) (y : Int) = ((x ||| y : Nat) : Int) := by
  have hb : IntKind.i64.bits = 64 := rfl
  simp only [ar, BitVec.toNat_or, BitVec.toNat_ofInt, hb]
  have e1 : ((x : Int) % ((2 ^ 64 : Nat) : Int)).toNat = x := by rw [← Int.natCast_emod, Int.toNat_natCast, Nat.mod_eq_of_lt (by omega)]
  have e2 : ((y : Int) % ((2 ^ 64 : Nat) : Int)).toNat = y := by rw [← Int.natCast_emod, Int.toNat_natCast, Nat.mod_eq_of_lt (by omega)]
  rw [e1, e2]
  have hlt : x ||| y < 2 ^ 63 := Nat.or_lt_two_pow hx hy
  exact w_i64 (by omega) (by omega)
/-- and with a mask of ones, signed -/
theorem ar_mask_i64 {x y : Int} {n : Nat} (hy : y = 2 ^ n - 1) (hn : n ≤ 62) (h0 : 0 ≤ x) (hx : x < 2 ^ 63) : ar .and .i64 x y = x % 2 ^ n := by
  obtain ⟨x, rfl⟩ := Int.eq_ofNat_of_zero_le h0
  have h2 : (1 : Nat) ≤ 2 ^ n := Nat.one_le_two_pow
  have e : y = ((2 ^ n - 1 : Nat) : Int) := by rw [hy, Int.natCast_sub h2]; simp
  have hle : 2 ^ n ≤ 2 ^ 62 := Nat.pow_le_pow_right (by omega) hn
  rw [e, ar_and_i64_nat (by omega) (by omega), nat_and_mask]
  simp
theorem ar_or_add_i64 {x y a : Int} {n : Nat} (hx : x = a * 2 ^ n) (ha : 0 ≤ a) (h0 : 0 ≤ y) (hy : y < 2 ^ n) (hx2 : x < 2 ^ 63) (hn : n ≤ 63) : ar .or .i64 x y = x + y := by
  obtain ⟨a, rfl⟩ := Int.eq_ofNat_of_zero_le ha
  obtain ⟨y, rfl⟩ := Int.eq_ofNat_of_zero_le h0
  have hle : 2 ^ n ≤ 2 ^ 63 := Nat.pow_le_pow_right (by omega) hn
  have hy' : y < 2 ^ n := by exact_mod_cast hy
  have e : x = ((a * 2 ^ n : Nat) : Int) := by rw [hx]; simp
  rw [e] at hx2 ⊢
  rw [ar_or_i64_nat (by exact_mod_cast hx2) (by omega), nat_or_add hy']
  simp

theorem nat_and_bit (x n : Nat) : x &&& 2 ^ n = x / 2 ^ n % 2 * 2 ^ n := by
  have hb : (x.testBit n) = decide (x / 2 ^ n % 2 = 1) := Nat.testBit_eq_decide_div_mod_eq
  have key : x &&& 2 ^ n = if x.testBit n = true then 2 ^ n else 0 := by
    apply Nat.eq_of_testBit_eq
    intro i
    rw [Nat.testBit_and, Nat.testBit_two_pow]
    by_cases hi : n = i
    · subst hi
      cases hx : x.testBit n <;> simp [Nat.testBit_two_pow]
    · cases hx : x.testBit n <;> simp [hi, Nat.testBit_two_pow]
  rw [key]
  rcases Nat.mod_two_eq_zero_or_one (x / 2 ^ n) with h | h
  · rw [hb, h]; simp
  · rw [hb, h]; simp

/-- a bit by itself -/
theorem ar_bit {k : IntKind} (hs : k.signed = false) {x : Int} {n : Nat} (hn : n < k.bits) (h0 : 0 ≤ x) (hx : x < 2 ^ k.bits) : ar .and k x (2 ^ n) = x / 2 ^ n % 2 * 2 ^ n := by
  obtain ⟨x, rfl⟩ := Int.eq_ofNat_of_zero_le h0
  have e : ((2 : Int) ^ n) = ((2 ^ n : Nat) : Int) := by simp
  rw [e, ar_and_nat hs (by exact_mod_cast hx) (Nat.pow_lt_pow_right (by omega) hn), nat_and_bit]
  simp

theorem loop_inl {σ ρ : Type} {step : σ → Option (σ ⊕ ρ)} {s s' : σ} (h : step s = some (.inl s')) : loopG none step s = loopG none step s' := by rw [loopG_eq, h]
theorem loop_inr {σ ρ : Type} {step : σ → Option (σ ⊕ ρ)} {s : σ} {r : ρ} (h : step s = some (.inr r)) : loopG none step s = some r := by rw [loopG_eq, h]

/-- a search along a list -/
theorem find_loop {α ρ : Type} {l : List α} {step : Int → Option (Int ⊕ ρ)} {p : α → Bool} {hit : Nat → ρ} {miss : ρ} (hmiss : step (l.length : Nat) = some (.inr miss))
    (h : ∀ i (hi : i < l.length), step (i : Nat) = if p l[i] = true then some (.inr (hit i)) else some (.inl ((i + 1 : Nat) : Int))) :
    loopG none step 0 = some (match l.findIdx? p with | some i => hit i | none => miss) := by
  have key : ∀ m i, i + m = l.length → (∀ j (hj : j < i) (hl : j < l.length), p l[j] = false) → loopG none step (i : Nat) = some (match l.findIdx? p with | some i => hit i | none => miss) := by
    intro m
    induction m with
    | zero =>
      intro i hi hn
      rw [loopG_eq]
      have : i = l.length := by omega
      rw [this, hmiss]
      have : l.findIdx? p = none := by
        rw [List.findIdx?_eq_none_iff]
        intro x hx
        obtain ⟨j, hj, rfl⟩ := List.getElem_of_mem hx
        exact hn j (by omega) hj
      rw [this]
    | succ m ih =>
      intro i hi hn
      have hil : i < l.length := by omega
      rw [loopG_eq, h i hil]
      by_cases hp : p l[i] = true
      · rw [if_pos hp]
        have : l.findIdx? p = some i := by
          rw [List.findIdx?_eq_some_iff_getElem]
          exact ⟨hil, hp, fun j hj => by simpa using hn j hj (by omega)⟩
        rw [this]
      · rw [if_neg hp]
        exact ih (i + 1) (by omega) fun j hj hl => by
          by_cases hji : j = i
          · subst hji; simpa using hp
          · exact hn j (by omega) hl
  have := key l.length 0 (by omega) (fun j hj => by omega)
  simpa using this

/-- are two lists the same, one by one -/
theorem same_loop {α : Type} [DecidableEq α] {a b : List α} (hl : a.length = b.length) {step : Int → Option (Int ⊕ Bool)} (hend : step (a.length : Nat) = some (.inr true))
    (h : ∀ i (hi : i < a.length) (hi' : i < b.length), step (i : Nat) = if a[i] ≠ b[i] then some (.inr false) else some (.inl ((i + 1 : Nat) : Int))) :
    loopG none step 0 = some (decide (a = b)) := by
  have key : ∀ m i, i + m = a.length → a.take i = b.take i → loopG none step (i : Nat) = some (decide (a = b)) := by
    intro m
    induction m with
    | zero =>
      intro i hi ht
      have e : i = a.length := by omega
      rw [loopG_eq, e, hend]
      rw [List.take_of_length_le (by omega), List.take_of_length_le (by omega)] at ht
      simp [ht]
    | succ m ih =>
      intro i hi ht
      have hia : i < a.length := by omega
      have hib : i < b.length := by omega
      rw [loopG_eq, h i hia hib]
      by_cases hne : a[i] = b[i]
      · rw [if_neg (by simpa using hne)]
        refine ih (i + 1) (by omega) ?_
        rw [List.take_add_one, List.take_add_one, ht, List.getElem?_eq_getElem hia, List.getElem?_eq_getElem hib, hne]
      · rw [if_pos (by simpa using hne)]
        have : a ≠ b := fun e => hne (by subst e; rfl)
        simp [this]
  have := key a.length 0 (by omega) (by simp)
  simpa using this
end Xb

namespace Xb
open Go

/-- bytes that are bytes, and not too many -/
structure By (b : List Int) : Prop where
  u8 : ∀ y, y ∈ b → 0 ≤ y ∧ y ≤ 255
  len : b.length ≤ 100000000000
/-- the bit at a place -/
def bt1 (b : List Int) (i : Nat) : Int := b.getD (i / 8) 0 / 2 ^ (7 - i % 8) % 2
/-- the number in n bits from a place on -/
def vl (b : List Int) (at_ : Nat) : Nat → Int
  | 0 => 0
  | n + 1 => 2 * vl b at_ n + bt1 b (at_ + n)
theorem By.get {b : List Int} (h : By b) (i : Nat) : 0 ≤ b.getD i 0 ∧ b.getD i 0 ≤ 255 := by
  by_cases hi : i < b.length
  · have : b.getD i 0 ∈ b := by simp [List.getD, hi]
    exact h.u8 _ this
  · simp [List.getD, hi]
theorem bt1_in (b : List Int) (i : Nat) : 0 ≤ bt1 b i ∧ bt1 b i ≤ 1 := by unfold bt1; omega
theorem vl_in (b : List Int) (a n : Nat) : 0 ≤ vl b a n ∧ vl b a n < 2 ^ n := by
  induction n with
  | zero => simp [vl]
  | succ n ih =>
    have := bt1_in b (a + n)
    simp only [vl, Int.pow_succ]; omega
theorem pow_le64 {n : Nat} (h : n ≤ 64) : (2 : Int) ^ n ≤ 18446744073709551616 := by
  have : (2 : Nat) ^ n ≤ 2 ^ 64 := Nat.pow_le_pow_right (by omega) h
  have : ((2 ^ n : Nat) : Int) ≤ ((2 ^ 64 : Nat) : Int) := by exact_mod_cast this
  simpa using this
/-- Get's answer -/
def okG (c : GBits) : Bool := decide (c.err = 0) && decide (0 ≤ c.at_) && decide (c.at_ ≤ 8 * c.bytes.length)
def failG (c : GBits) (e : Int) : GBits × Int := (if c.err = 0 then { c with err := e } else c, 0)
def getG (c : GBits) (n : Int) : GBits × Int :=
  if okG c = false ∨ n < 0 ∨ n > 64 then failG c 1
  else if n > 8 * c.bytes.length - c.at_ then failG c 2
  else ({ c with at_ := c.at_ + n }, vl c.bytes c.at_.toNat n.toNat)
theorem bits_right_eq {c : GBits} (hb : By c.bytes) : bits_right c = okG c := by
  have := hb.len
  simp only [bits_right, okG, cm_eql, cm_geq, cm_leq, ar_mul]
  rw [w_i64 (by omega) (by omega)]
theorem bits_fail_eq (c : GBits) (e : Int) : bits_fail c e = failG c e := by
  simp only [bits_fail, bits_fail_j1, failG, cm_eql]
  by_cases h : c.err = 0 <;> simp [h]
theorem mod_two {y : Int} {t : Nat} : y / 2 % 2 ^ t * 2 + y % 2 = y % 2 ^ (t + 1) := by
  have hp : (0 : Int) < 2 ^ t := Int.pow_pos (by omega)
  generalize hm : (2 : Int) ^ t = m at hp
  have e1 : y = 2 * (y / 2) + y % 2 := by omega
  have e2 : y / 2 = m * (y / 2 / m) + y / 2 % m := (Int.mul_ediv_add_emod (y / 2) m).symm
  have h1 := Int.emod_nonneg (y / 2) (show m ≠ 0 by omega)
  have h2 := Int.emod_lt_of_pos (y / 2) hp
  rw [Int.pow_succ, hm]
  have e3 : y = (y / 2 % m * 2 + y % 2) + (m * 2) * (y / 2 / m) := by
    have : (m * 2) * (y / 2 / m) = 2 * (m * (y / 2 / m)) := by rw [Int.mul_comm m 2, Int.mul_assoc]
    omega
  have e4 : y % (m * 2) = ((y / 2 % m * 2 + y % 2) + (m * 2) * (y / 2 / m)) % (m * 2) := congrArg (· % (m * 2)) e3
  exact (e4.trans ((Int.add_mul_emod_self_left _ _ _).trans (Int.emod_eq_of_lt (by omega) (by omega)))).symm
theorem vl_add (b : List Int) (a m n : Nat) : vl b a (m + n) = vl b a m * 2 ^ n + vl b (a + m) n := by
  induction n with
  | zero => simp [vl]
  | succ n ih =>
    rw [← Nat.add_assoc]
    simp only [vl]
    rw [ih, Int.pow_succ, Nat.add_assoc, ← Int.mul_assoc]
    omega
/-- some bits out of one byte -/
theorem vl_byte (b : List Int) (p t : Nat) (h : p % 8 + t ≤ 8) : vl b p t = b.getD (p / 8) 0 / 2 ^ (8 - p % 8 - t) % 2 ^ t := by
  induction t with
  | zero => simp [vl, Int.emod_one]
  | succ t ih =>
    have e1 : (p + t) / 8 = p / 8 := by omega
    have e2 : (p + t) % 8 = p % 8 + t := by omega
    simp only [vl, bt1, e1, e2]
    rw [ih (by omega)]
    have e3 : 8 - p % 8 - t = (7 - (p % 8 + t)) + 1 := by omega
    have e4 : 8 - p % 8 - (t + 1) = 7 - (p % 8 + t) := by omega
    rw [e3, e4, Int.pow_succ, ← Int.ediv_ediv_of_nonneg (Int.le_of_lt (Int.pow_pos (by omega))), ← mod_two]
    omega
theorem mask8 {t : Nat} (h : t ≤ 8) : ar .sub .u8 (sf .shl .u8 1 (t : Int)) 1 = 2 ^ t - 1 := by
  have : ∀ t : Fin 9, ar .sub .u8 (sf .shl .u8 1 ((t.1 : Nat) : Int)) 1 = 2 ^ t.1 - 1 := by decide +kernel
  exact this ⟨t, by omega⟩
theorem imin_eq (x y : Int) : imin x y = min x y := by unfold imin; split <;> omega
theorem bits_Left_eq {c : GBits} (hb : By c.bytes) : bits_Left c = if okG c then 8 * c.bytes.length - c.at_ else 0 := by
  have hl := hb.len
  unfold bits_Left
  rw [bits_right_eq hb]
  cases ho : okG c with
  | false => simp
  | true =>
    simp only [okG, Bool.and_eq_true, decide_eq_true_eq] at ho
    simp only [ar_sub, ar_mul]
    rw [w_i64 (n := 8 * (c.bytes.length : Int)) (by omega) (by omega), w_i64 (by omega) (by omega)]
    simp
theorem bits_Get_eq {c : GBits} (hb : By c.bytes) (n : Int) : bits_Get none c n = some (getG c n) := by
  have hl := hb.len
  have hg : ∀ b : Bool, bits_Get_j1 none c n b = if b then some (failG c 1) else if n > bits_Left c then some (failG c 2) else bits_Get_l2 none n 0 c := fun b => by
    simp only [bits_Get_j1, bits_fail_eq, cm_gtr, decide_eq_true_eq]
  unfold bits_Get getG
  simp only [hg, bits_right_eq hb, cm_lss, cm_gtr]
  by_cases h1 : okG c = false ∨ n < 0 ∨ n > 64
  · rw [if_pos h1]
    rcases h1 with h1 | h1 | h1
    · simp [h1]
    · cases okG c <;> simp [h1]
    · cases okG c <;> simp
      · by_cases h : n < 0 <;> simp [h]
        omega
  · rw [if_neg h1]
    simp only [not_or, Bool.not_eq_false, Int.not_lt] at h1
    obtain ⟨ho, h0, h64⟩ := h1
    rw [bits_Left_eq hb]
    have ho' := ho
    simp only [okG, Bool.and_eq_true, decide_eq_true_eq] at ho
    obtain ⟨⟨he, ha⟩, hat⟩ := ho
    have e1 : ¬ n < 0 := by omega
    have e2 : ¬ 64 < n := by omega
    simp only [ho', e1, e2, Bool.not_true, Bool.false_eq_true, if_false, decide_false, if_true]
    by_cases h2 : n > 8 * c.bytes.length - c.at_
    · rw [if_pos h2, if_pos h2]
    · rw [if_neg h2, if_neg h2]
      unfold bits_Get_l2
      obtain ⟨N, rfl⟩ := Int.eq_ofNat_of_zero_le h0
      obtain ⟨a, hae⟩ := Int.eq_ofNat_of_zero_le ha
      obtain ⟨r, hr, hq⟩ := loop_inv (step := fun (s : Int × Int × GBits) => bits_Get_s2 none s.1 s.2.1 s.2.2) (Q := fun r => r = ({ c with at_ := c.at_ + N }, vl c.bytes a N))
        (fun s => ∃ j : Nat, j ≤ N ∧ s = (((N - j : Nat) : Int), vl c.bytes a j, { c with at_ := ((a + j : Nat) : Int) })) (fun s => s.1.toNat) (↑N, 0, c) ⟨0, by omega, by simp [vl, ← hae]⟩ (by
        rintro s ⟨j, hj, rfl⟩
        by_cases hjN : j = N
        · right
          subst hjN
          refine ⟨_, ?_, rfl⟩
          simp [bits_Get_s2, cm_gtr, hae]
        · left
          have hgt : (0 : Int) < ((N - j : Nat) : Int) := by omega
          have hv := vl_in c.bytes a j
          let t : Nat := min (8 - (a + j) % 8) (N - j)
          have ht : t ≤ 8 ∧ 1 ≤ t ∧ (a + j) % 8 + t ≤ 8 ∧ j + t ≤ N := by omega
          have et : imin (ar .sub .i64 8 (dv .rem .i64 ((a + j : Nat) : Int) 8)) ((N - j : Nat) : Int) = (t : Int) := by
            rw [imin_eq, ar_sub, dv_rem (by omega), w_i64 (by omega) (by omega)]
            omega
          have ea : ar .sub .i64 (ar .sub .i64 8 (dv .rem .i64 ((a + j : Nat) : Int) 8)) (t : Int) = ((8 - (a + j) % 8 - t : Nat) : Int) := by
            rw [ar_sub, ar_sub, dv_rem (by omega), w_i64 (n := 8 - _) (by omega) (by omega), w_i64 (by omega) (by omega)]
            omega
          have hby := hb.get ((a + j) / 8)
          have hvb := vl_byte c.bytes (a + j) t ht.2.2.1
          have hva := vl_add c.bytes a j t
          have hvn := vl_in c.bytes a (j + t)
          have hvt := vl_in c.bytes (a + j) t
          have hp64 := pow_le64 (n := j + t) (by omega)
          have hpt : (0 : Int) < 2 ^ (8 - (a + j) % 8 - t) := Int.pow_pos (by omega)
          have hby8 : c.bytes.getD ((a + j) / 8) 0 < 2 ^ IntKind.u8.bits := by simp only [IntKind.bits]; omega
          refine ⟨(((N - (j + t) : Nat) : Int), vl c.bytes a (j + t), { c with at_ := ((a + (j + t) : Nat) : Int) }), ?_, ⟨j + t, ht.2.2.2, rfl⟩, by simp; omega⟩
          simp only [bits_Get_s2, cm_gtr, decide_eq_true_eq]
          rw [if_pos hgt, et, ea, dv_quo (by omega), w_i64 (by omega) (by omega), bnd (ix_getD (by omega) (by omega))]
          have e0 : (((a + j : Nat) : Int) / 8).toNat = (a + j) / 8 := by omega
          rw [e0, sfO_nn (by omega), sf_shr rfl (by simp [IntKind.bits]; omega), sfO_nn (by omega), sfO_nn (by omega)]
          simp only [Option.bind_some]
          rw [mask8 ht.1, ar_mask (k := .u8) rfl rfl (by simp [IntKind.bits]; omega) (Int.ediv_nonneg hby.1 (Int.le_of_lt hpt)) (Int.lt_of_le_of_lt (Int.ediv_le_self _ hby.1) hby8), ← hvb]
          have hv8 : vl c.bytes (a + j) t ≤ 255 := by
            have : (2 : Int) ^ t ≤ 256 := by
              have : (2 : Nat) ^ t ≤ 2 ^ 8 := Nat.pow_le_pow_right (by omega) ht.1
              have : ((2 ^ t : Nat) : Int) ≤ ((2 ^ 8 : Nat) : Int) := by exact_mod_cast this
              simpa using this
            omega
          have hmul : 0 ≤ vl c.bytes a j * 2 ^ t := Int.mul_nonneg hv.1 (Int.le_of_lt (Int.pow_pos (by omega)))
          rw [w_u64 (by omega) (by omega), sf_shl rfl (by simp [IntKind.bits]; omega), w_u64 (by omega) (by omega),
            ar_or_add rfl rfl hv.1 hvt.1 hvt.2 (by simp [IntKind.bits]; omega) (by simp [IntKind.bits]; omega), ← hva, ar_sub, ar_add, w_i64 (by omega) (by omega), w_i64 (by omega) (by omega)]
          have x1 : ((N - j : Nat) : Int) - (t : Int) = ((N - (j + t) : Nat) : Int) := by omega
          have x2 : ((a + j : Nat) : Int) + (t : Int) = ((a + (j + t) : Nat) : Int) := by omega
          rw [x1, x2])
      rw [hr, hq]
      simp [hae]
/-- how many binary digits -/
def bl (n : Nat) : Nat := if n = 0 then 0 else n.log2 + 1
theorem bl_lt (n : Nat) : n < 2 ^ bl n := by
  unfold bl; split
  · subst_vars; simp
  · exact Nat.lt_log2_self
theorem bl_le {n : Nat} (h : n ≠ 0) : 2 ^ (bl n - 1) ≤ n := by
  unfold bl; rw [if_neg h]; simpa using Nat.log2_self_le h
theorem bl_pos {n : Nat} (h : n ≠ 0) : 1 ≤ bl n := by unfold bl; rw [if_neg h]; omega
theorem bl_uniq {n k : Nat} (h1 : 2 ^ k ≤ n) (h2 : n < 2 ^ (k + 1)) : bl n = k + 1 := by
  have h0 : n ≠ 0 := by have := Nat.one_le_two_pow (n := k); omega
  have a := bl_lt n; have b := bl_le h0; have c := bl_pos h0
  have x1 : k < bl n := (Nat.pow_lt_pow_iff_right (a := 2) (by omega)).1 (Nat.lt_of_le_of_lt h1 a)
  have x2 : bl n - 1 < k + 1 := (Nat.pow_lt_pow_iff_right (a := 2) (by omega)).1 (Nat.lt_of_le_of_lt b h2)
  omega
theorem bl_shift {x k : Nat} (h : 2 ^ k ≤ x) : bl x = bl (x / 2 ^ k) + k := by
  have hp : 0 < 2 ^ k := Nat.pow_pos (by omega)
  have h0 : x / 2 ^ k ≠ 0 := by
    have := (Nat.le_div_iff_mul_le hp).2 (show 1 * 2 ^ k ≤ x by omega)
    omega
  have a := bl_lt (x / 2 ^ k); have b := bl_le h0; have c := bl_pos h0
  have e : bl x = (bl (x / 2 ^ k) - 1 + k) + 1 := by
    apply bl_uniq
    · rw [Nat.pow_add]
      exact Nat.le_trans (Nat.mul_le_mul_right _ b) (Nat.div_mul_le_self x (2 ^ k))
    · have : bl (x / 2 ^ k) - 1 + k + 1 = bl (x / 2 ^ k) + k := by omega
      rw [this, Nat.pow_add]
      exact (Nat.div_lt_iff_lt_mul hp).1 a
  omega
theorem bl_le_of_lt {n k : Nat} (h : n < 2 ^ k) : bl n ≤ k := by
  by_cases h0 : n = 0
  · subst h0; simp [bl]
  · have b := bl_le h0
    have : bl n - 1 < k := (Nat.pow_lt_pow_iff_right (a := 2) (by omega)).1 (Nat.lt_of_le_of_lt b h)
    omega
theorem len8 (x : Nat) (h : x < 256) (n : Int) (hn : 0 ≤ n ∧ n ≤ 1000) : math_bits_Len64_j3 x n = some (n + bl x) := by
  have key : ∀ x : Fin 256, math_bits_Len64_j3 ((x.1 : Nat) : Int) 0 = some ((bl x.1 : Nat) : Int) := by decide +kernel
  have := key ⟨x, h⟩
  unfold math_bits_Len64_j3 at this ⊢
  generalize ix _ (IntKind.u8.wrap (x : Int)) = o at this ⊢
  cases o with
  | none => cases this
  | some c =>
    have hc := c.toNat_lt
    simp only [Option.bind_some, ar_add, Option.some.injEq] at this ⊢
    rw [w_i64 (n := (c.toNat : Int)) (by omega) (by omega), w_i64 (by omega) (by omega)] at *
    omega
theorem len64_eq (x : Nat) (h : x < 18446744073709551616) : math_bits_Len64 x = some (bl x : Int) := by
  have sh : ∀ (x k : Nat) , k ≤ 64 → sf .shr .u64 (x : Int) (k : Int) = ((x / 2 ^ k : Nat) : Int) := fun x k hk => by
    rw [sf_shr rfl (by simpa [IntKind.bits] using hk)]; simp
  have h2 : ∀ (x : Nat) (n : Int), x < 65536 → 0 ≤ n ∧ n ≤ 500 → math_bits_Len64_j2 x n = some (n + bl x) := fun x n hx hn => by
    unfold math_bits_Len64_j2
    simp only [cm_geq, decide_eq_true_eq]
    by_cases hc : (256 : Int) ≤ x
    · rw [if_pos hc, show (8 : Int) = ((8 : Nat) : Int) from rfl, sh x 8 (by omega), ar_add, w_i64 (by omega) (by omega), len8 _ (by omega) _ (by omega), bl_shift (x := x) (k := 8) (by omega)]
      simp; omega
    · rw [if_neg hc, len8 _ (by omega) _ (by omega)]
  have h1 : ∀ (x : Nat) (n : Int), x < 4294967296 → 0 ≤ n ∧ n ≤ 200 → math_bits_Len64_j1 x n = some (n + bl x) := fun x n hx hn => by
    unfold math_bits_Len64_j1
    simp only [cm_geq, decide_eq_true_eq]
    by_cases hc : (65536 : Int) ≤ x
    · rw [if_pos hc, show (16 : Int) = ((16 : Nat) : Int) from rfl, sh x 16 (by omega), ar_add, w_i64 (by omega) (by omega), h2 _ _ (by omega) (by omega), bl_shift (x := x) (k := 16) (by omega)]
      simp; omega
    · rw [if_neg hc, h2 _ _ (by omega) (by omega)]
  unfold math_bits_Len64
  simp only [cm_geq, decide_eq_true_eq]
  by_cases hc : (4294967296 : Int) ≤ x
  · rw [if_pos hc, show (32 : Int) = ((32 : Nat) : Int) from rfl, sh x 32 (by omega), h1 _ _ (by omega) (by omega), bl_shift (x := x) (k := 32) (by omega)]
    simp; omega
  · rw [if_neg hc, h1 _ _ (by omega) (by omega)]; simp
theorem pow_int (n : Nat) : ((2 ^ n : Nat) : Int) = 2 ^ n := by simp
theorem bits_spread_eq (n : Nat) (h : n ≤ 4294967296) : bits_spread n = some ((bl n : Int), (2 : Int) ^ bl n - (n : Int)) := by
  unfold bits_spread
  have hb : bl n ≤ 33 := bl_le_of_lt (by omega)
  have hlt := bl_lt n
  have hp := pow_le64 (n := bl n) (by omega)
  rw [bnd (len64_eq n (by omega)), sfO_nn (by omega), sf_shl rfl (by simp [IntKind.bits]; omega), Option.bind_some, ar_sub]
  have : (n : Int) < 2 ^ bl n := by rw [← pow_int]; exact_mod_cast hlt
  have hq : (2 : Int) ^ bl n ≤ 2 ^ 33 := by
    rw [← pow_int, ← pow_int]; exact_mod_cast Nat.pow_le_pow_right (by omega) hb
  rw [w_u64 (n := 1 * 2 ^ bl n) (by omega) (by omega), w_u64 (by omega) (by omega)]
  simp
/-- one of a range, read -/
def rangeG (c : GBits) (n : Int) : GBits × Int :=
  if okG c = false ∨ n < 1 ∨ n > 4294967296 then failG c 1
  else
    let q := bl n.toNat - 1
    let s : Int := 2 ^ (q + 1) - n
    if (q : Int) > 8 * c.bytes.length - c.at_ then failG c 2
    else if vl c.bytes c.at_.toNat q < s then ({ c with at_ := c.at_ + q }, vl c.bytes c.at_.toNat q)
    else if (q + 1 : Int) > 8 * c.bytes.length - c.at_ then failG c 2
    else ({ c with at_ := c.at_ + (q + 1) }, vl c.bytes c.at_.toNat (q + 1) - s)
theorem getG_ok {c : GBits} {n : Int} {q : Nat} (ho : okG c = true) (hn : n = q) (h64 : q ≤ 64) : getG c n = if (q : Int) > 8 * c.bytes.length - c.at_ then ({ c with err := 2 }, 0) else ({ c with at_ := c.at_ + q }, vl c.bytes c.at_.toNat q) := by
  have he : c.err = 0 := by simp only [okG, Bool.and_eq_true, decide_eq_true_eq] at ho; exact ho.1.1
  subst hn
  unfold getG
  rw [if_neg (by simp [ho]; omega)]
  simp [failG, he]
theorem bits_Range_eq {c : GBits} (hb : By c.bytes) (n : Int) : bits_Range none c n = some (rangeG c n) := by
  unfold bits_Range rangeG
  rw [bits_right_eq hb]
  simp only [cm_lss, cm_gtr, ar_sub, bits_fail_eq]
  have hc : ((!okG c || decide (n < 1)) || decide (4294967296 < n)) = decide (okG c = false ∨ n < 1 ∨ n > 4294967296) := by cases okG c <;> simp
  rw [hc]
  by_cases h1 : okG c = false ∨ n < 1 ∨ n > 4294967296
  · simp [h1]
  · simp only [h1, decide_false, Bool.false_eq_true, if_false]
    simp only [not_or, Bool.not_eq_false, Int.not_lt] at h1
    obtain ⟨ho, h1, h2⟩ := h1
    obtain ⟨N, rfl⟩ := Int.eq_ofNat_of_zero_le (show 0 ≤ n by omega)
    have hbl : bl N ≤ 33 := bl_le_of_lt (by omega)
    have hbp : 1 ≤ bl N := bl_pos (by omega)
    rw [bnd (bits_spread_eq N (by omega))]
    simp only [Int.toNat_natCast]
    have hlt : (N : Int) < 2 ^ bl N := by rw [← pow_int]; exact_mod_cast bl_lt N
    obtain ⟨q, hq⟩ : ∃ q, bl N = q + 1 := ⟨bl N - 1, by omega⟩
    rw [hq] at hlt hbl ⊢
    have e0 : ((q + 1 : Nat) : Int) - 1 = (q : Int) := by omega
    have ho' := ho
    simp only [okG, Bool.and_eq_true, decide_eq_true_eq] at ho
    obtain ⟨⟨he, ha⟩, hat⟩ := ho
    rw [e0, w_i64 (by omega) (by omega), bnd (bits_Get_eq hb _), getG_ok ho' rfl (by omega), Nat.add_sub_cancel]
    have hp := pow_le64 (n := q + 1) (by omega)
    by_cases e1 : (q : Int) > 8 * c.bytes.length - c.at_
    · simp [e1, failG, bits_Range_j1, cm_eql, cm_neq, bits_fail_eq, he]
    · simp only [e1, if_false, cm_eql, cm_geq]
      by_cases e2 : vl c.bytes c.at_.toNat q < 2 ^ (q + 1) - N
      · have e2' : ¬ (2 ^ (q + 1) - (N : Int) ≤ vl c.bytes c.at_.toNat q) := by omega
        simp [e2, e2', he, bits_Range_j1, cm_neq]
      · have e2' : (2 ^ (q + 1) - (N : Int) ≤ vl c.bytes c.at_.toNat q) := by omega
        have ho2 : okG { c with at_ := c.at_ + (q : Int) } = true := by simp [okG, he]; omega
        rw [if_pos (by simp [e2', he]), if_neg e2, bnd (bits_Get_eq (c := { c with at_ := c.at_ + (q : Int) }) hb 1), getG_ok (n := 1) (q := 1) ho2 rfl (by omega)]
        simp only
        by_cases e3 : (q + 1 : Int) > 8 * c.bytes.length - c.at_
        · rw [if_pos e3, if_pos (show ((1 : Nat) : Int) > 8 * c.bytes.length - (c.at_ + q) by omega)]
          simp [failG, bits_Range_j1, cm_neq, bits_fail_eq, he]
        · rw [if_neg e3, if_neg (show ¬ ((1 : Nat) : Int) > 8 * c.bytes.length - (c.at_ + q) by omega)]
          have hs : vl c.bytes c.at_.toNat (q + 1) = 2 * vl c.bytes c.at_.toNat q + bt1 c.bytes (c.at_.toNat + q) := rfl
          have hv := vl_in c.bytes c.at_.toNat (q + 1)
          have hv1 := vl_in c.bytes c.at_.toNat q
          have hbt := bt1_in c.bytes (c.at_.toNat + q)
          have hone : vl c.bytes (c.at_ + (q : Int)).toNat 1 = bt1 c.bytes (c.at_.toNat + q) := by
            simp only [vl]
            rw [show (c.at_ + (q : Int)).toNat = c.at_.toNat + q by omega]; simp
          simp only [he, decide_true, Bool.not_true, Bool.false_eq_true, if_false, ar_add, bits_Range_j1, cm_neq, hone]
          rw [show (1 : Int) = ((1 : Nat) : Int) from rfl, sf_shl (n := 1) rfl (by simp [IntKind.bits]), w_u64 (n := _ * 2 ^ 1) (by omega) (by omega), w_u64 (n := _ * 2 ^ 1 + _) (by omega) (by omega), w_u64 (by omega) (by omega), hs]
          have x1 : c.at_ + (q : Int) + ((1 : Nat) : Int) = c.at_ + (q + 1) := by omega
          have x2 : vl c.bytes c.at_.toNat q * 2 ^ 1 + bt1 c.bytes (c.at_.toNat + q) - (2 ^ (q + 1) - (N : Int)) = 2 * vl c.bytes c.at_.toNat q + bt1 c.bytes (c.at_.toNat + q) - (2 ^ (q + 1) - (N : Int)) := by omega
          rw [x1, x2]
          simp
def U8 (b : List Int) : Prop := ∀ y, y ∈ b → 0 ≤ y ∧ y ≤ 255
theorem U8.get {b : List Int} (h : U8 b) (i : Nat) : 0 ≤ b.getD i 0 ∧ b.getD i 0 ≤ 255 := by
  by_cases hi : i < b.length
  · have : b.getD i 0 ∈ b := by simp [List.getD, hi]
    exact h _ this
  · simp [List.getD, hi]
theorem U8.set {b : List Int} (h : U8 b) {i : Nat} {x : Int} (hx : 0 ≤ x ∧ x ≤ 255) : U8 (b.set i x) := fun y hy => by
  rcases List.mem_or_eq_of_mem_set hy with hy | rfl
  · exact h y hy
  · exact hx
theorem U8.app {b c : List Int} (h : U8 b) (h' : U8 c) : U8 (b ++ c) := fun y hy => (List.mem_append.1 hy).elim (h y) (h' y)
def lastB (b : List Int) : Int := b.getD (b.length - 1) 0
/-- ink that is right, so many bits of it -/
structure OkB (b : List Int) (m : Nat) : Prop where
  u8 : U8 b
  le : m ≤ 8 * b.length
  ge : 8 * b.length ≤ m + 7
  low : lastB b % 2 ^ (8 * b.length - m) = 0
def okK (k : Ink) : Bool := decide (0 ≤ k.many) && decide (k.many ≤ 8 * k.bytes.length) && decide (8 * k.bytes.length ≤ k.many + 7) && decide (lastB k.bytes % 2 ^ (8 * k.bytes.length - k.many.toNat) = 0)
theorem okK_ok {k : Ink} (hu : U8 k.bytes) (h : okK k = true) : OkB k.bytes k.many.toNat ∧ 0 ≤ k.many := by
  simp only [okK, Bool.and_eq_true, decide_eq_true_eq] at h
  obtain ⟨⟨⟨h0, h1⟩, h2⟩, h3⟩ := h
  exact ⟨⟨hu, by omega, by omega, h3⟩, h0⟩
theorem shl1 {t : Nat} (h : t ≤ 7) : sf .shl .u8 1 (t : Int) = 2 ^ t := by
  have : ∀ t : Fin 8, sf .shl .u8 1 ((t.1 : Nat) : Int) = 2 ^ t.1 := by decide +kernel
  exact this ⟨t, by omega⟩
theorem bits_Right_eq {k : Ink} (hb : By k.bytes) (hm : inK .i64 k.many) : bits_Right k = some (okK k) := by
  have hl := hb.len
  rw [in_i64] at hm
  unfold bits_Right
  by_cases h0 : k.many < 0
  · simp [cm_lss, h0, okK]; omega
  · have e1 : ar .add .i64 (dv .quo .i64 k.many 8) (imin (dv .rem .i64 k.many 8) 1) = (k.many + 7) / 8 := by
      rw [imin_eq, dv_quo (by omega), dv_rem (by omega), ar_add, w_i64 (n := k.many / 8) (by omega) (by omega), w_i64 (by omega) (by omega)]
      omega
    have e0 : ar .sub .i64 (ar .mul .i64 8 (k.bytes.length : Int)) k.many = 8 * (k.bytes.length : Int) - k.many := by
      rw [ar_mul, w_i64 (by omega) (by omega), ar_sub, w_i64 (by omega) (by omega)]
    rw [e1, e0]
    simp only [cm_lss, cm_neq, cm_eql]
    by_cases h1 : (k.bytes.length : Int) = (k.many + 7) / 8
    · have hc : (decide (k.many < 0) || !decide ((k.bytes.length : Int) = (k.many + 7) / 8)) = false := by simp [h1]; omega
      rw [hc]
      simp only [Bool.false_eq_true, if_false, ar_sub]
      obtain ⟨m, hme⟩ := Int.eq_ofNat_of_zero_le (show 0 ≤ k.many by omega)
      obtain ⟨r, hr⟩ : ∃ r : Nat, 8 * (k.bytes.length : Int) - k.many = r := ⟨8 * k.bytes.length - m, by omega⟩
      have hr7 : r ≤ 7 := by omega
      have ho : okK k = decide (lastB k.bytes % 2 ^ r = 0) := by
        have e : 8 * k.bytes.length - k.many.toNat = r := by omega
        simp only [okK, e]
        simp; omega
      rw [hr, ho]
      by_cases hr0 : r = 0
      · subst hr0
        simp [gTF, Int.emod_one]
      · have hne : decide ((r : Int) = 0) = false := by simp; omega
        rw [hne]
        simp only [Bool.not_false, Bool.false_or, gTT]
        rw [w_i64 (by omega) (by omega), bnd (ix_getD (by omega) (by omega)), sfO_nn (by omega), Option.bind_some, shl1 hr7]
        have hg := hb.get (k.bytes.length - 1)
        have e2 : ((k.bytes.length : Int) - 1).toNat = k.bytes.length - 1 := by omega
        have hp : (2 : Int) ^ r ≤ 128 ∧ 1 ≤ (2 : Int) ^ r := by
          have a : (2 : Nat) ^ r ≤ 2 ^ 7 := Nat.pow_le_pow_right (by omega) hr7
          have b : 1 ≤ 2 ^ r := Nat.one_le_two_pow
          rw [← pow_int]; omega
        rw [e2, w_u8 (n := 2 ^ r - 1) (by omega) (by omega), ar_mask (k := .u8) (n := r) rfl rfl (by simp only [IntKind.bits]; omega) hg.1 (by simp only [IntKind.bits]; omega)]
        simp [lastB]
    · have hc : (decide (k.many < 0) || !decide ((k.bytes.length : Int) = (k.many + 7) / 8)) = true := by simp [h1]
      rw [hc, if_pos rfl]
      have : okK k = false := by
        cases hh : okK k with
        | false => rfl
        | true =>
          simp only [okK, Bool.and_eq_true, decide_eq_true_eq] at hh
          omega
      rw [this]
theorem vl_zero (b : List Int) (p : Nat) : ∀ t, vl b p t = 0 ↔ ∀ i, i < t → bt1 b (p + i) = 0
  | 0 => by simp [vl]
  | t + 1 => by
    have ih := vl_zero b p t
    have h1 := vl_in b p t
    have h2 := bt1_in b (p + t)
    simp only [vl]
    constructor
    · intro h i hi
      have a : vl b p t = 0 := by omega
      have c : bt1 b (p + t) = 0 := by omega
      by_cases hit : i = t
      · subst hit; exact c
      · exact ih.1 a i (by omega)
    · intro h
      have a := ih.2 (fun i hi => h i (by omega))
      have c := h t (by omega)
      omega
def addL (b : List Int) (x : Int) : List Int := b.set (b.length - 1) (lastB b + x)
def grow (b : List Int) (m : Nat) : List Int := if m % 8 = 0 then b ++ [0] else b
def putB (b : List Int) (m : Nat) (x : Int) : List Int := addL (grow b m) (x * 2 ^ (7 - m % 8))
def PB (b : List Int) (m : Nat) (v : Int) (n : Nat) : Nat → List Int
  | 0 => b
  | j + 1 => putB (PB b m v n j) (m + j) (v / 2 ^ (n - (j + 1)) % 2)
theorem len_addL (b : List Int) (x : Int) : (addL b x).length = b.length := by simp [addL]
theorem lastB_addL {b : List Int} (h : b ≠ []) (x : Int) : lastB (addL b x) = lastB b + x := by
  have : 0 < b.length := List.length_pos_iff.2 h
  simp only [lastB, addL, List.length_set, List.getD]
  rw [List.getElem?_set_self (by omega)]
  simp
theorem addL_addL {b : List Int} (h : b ≠ []) (x y : Int) : addL (addL b x) y = addL b (x + y) := by
  have e := lastB_addL h x
  simp only [addL] at e ⊢
  rw [e]
  simp only [List.length_set, List.set_set]
  congr 1; omega
theorem addL_ne {b : List Int} (h : b ≠ []) (x : Int) : addL b x ≠ [] := fun hh => by
  have := len_addL b x; rw [hh] at this; simp at this; exact h (List.eq_nil_of_length_eq_zero this.symm)
theorem lastB_app (b : List Int) (x : Int) : lastB (b ++ [x]) = x := by simp [lastB, List.getD]
theorem pow8 {r : Nat} (h : r ≤ 8) : (2 : Int) ^ r ≤ 256 ∧ 1 ≤ (2 : Int) ^ r := by
  have a : (2 : Nat) ^ r ≤ 2 ^ 8 := Nat.pow_le_pow_right (by omega) h
  have b : 1 ≤ 2 ^ r := Nat.one_le_two_pow
  rw [← pow_int]; omega
theorem top {r : Nat} (h : r ≤ 8) {y : Int} (h0 : 0 ≤ y) (h1 : y ≤ 255) (hz : y % 2 ^ r = 0) : y + 2 ^ r ≤ 256 := by
  have hr : r = 0 ∨ r = 1 ∨ r = 2 ∨ r = 3 ∨ r = 4 ∨ r = 5 ∨ r = 6 ∨ r = 7 ∨ r = 8 := by omega
  rcases hr with rfl | rfl | rfl | rfl | rfl | rfl | rfl | rfl | rfl <;> simp at hz ⊢ <;> omega
/-- a list with room in its last byte -/
structure Rm (b : List Int) (r : Nat) : Prop where
  ne : b ≠ []
  u8 : U8 b
  r8 : r ≤ 8
  low : lastB b % 2 ^ r = 0
theorem Rm.last {b : List Int} {r : Nat} (h : Rm b r) : 0 ≤ lastB b ∧ lastB b + 2 ^ r ≤ 256 := by
  have hg := h.u8.get (b.length - 1)
  exact ⟨hg.1, top h.r8 hg.1 hg.2 h.low⟩
theorem Rm.add {b : List Int} {r t : Nat} (h : Rm b r) (ht : t ≤ r) {w : Int} (h0 : 0 ≤ w) (h1 : w < 2 ^ t) : Rm (addL b (w * 2 ^ (r - t))) (r - t) ∧ w * 2 ^ (r - t) < 2 ^ r ∧ 0 ≤ w * 2 ^ (r - t) := by
  have hl := h.last
  have hp := pow8 (r := r - t) (by have := h.r8; omega)
  have e : (2 : Int) ^ r = 2 ^ t * 2 ^ (r - t) := by rw [← Int.pow_add]; congr 1; omega
  have hw0 : 0 ≤ w * 2 ^ (r - t) := Int.mul_nonneg h0 (by omega)
  have hw : w * 2 ^ (r - t) < 2 ^ r := by
    rw [e]; exact Int.mul_lt_mul_of_pos_right h1 (by omega)
  refine ⟨⟨addL_ne h.ne _, h.u8.set (by omega), by have := h.r8; omega, ?_⟩, hw, hw0⟩
  rw [lastB_addL h.ne]
  have hlow := h.low
  have : lastB b % 2 ^ (r - t) = 0 := by
    have hd : (2 : Int) ^ r ∣ lastB b := Int.dvd_of_emod_eq_zero hlow
    rw [e] at hd
    exact Int.emod_eq_zero_of_dvd (Int.dvd_trans (Int.dvd_mul_left _ _) hd)
  rw [Int.add_mul_emod_self_right]
  exact this
theorem OkB.grow {b : List Int} {m : Nat} (h : OkB b m) : Rm (grow b m) (8 - m % 8) ∧ 8 * (grow b m).length = m + (8 - m % 8) := by
  have h1 := h.le
  have h2 := h.ge
  unfold Xb.grow
  by_cases hm : m % 8 = 0
  · rw [if_pos hm]
    refine ⟨⟨by simp, h.u8.app (by intro y hy; simp at hy; omega), by omega, ?_⟩, by simp; omega⟩
    rw [lastB_app]; simp
  · rw [if_neg hm]
    have e : 8 * b.length - m = 8 - m % 8 := by omega
    refine ⟨⟨?_, h.u8, by omega, e ▸ h.low⟩, by omega⟩
    rintro rfl; simp at h1; omega
theorem OkB.put {b : List Int} {m : Nat} (h : OkB b m) {x : Int} (h0 : 0 ≤ x) (h1 : x ≤ 1) : OkB (putB b m x) (m + 1) := by
  obtain ⟨hr, hl⟩ := h.grow
  have ha := hr.add (t := 1) (by omega) h0 (by omega)
  have e : 8 - m % 8 - 1 = 7 - m % 8 := by omega
  rw [e] at ha
  have hlen := len_addL (Xb.grow b m) (x * 2 ^ (7 - m % 8))
  refine ⟨ha.1.u8, ?_, ?_, ?_⟩
  · unfold putB; omega
  · unfold putB; omega
  · have e2 : 8 * (putB b m x).length - (m + 1) = 7 - m % 8 := by unfold putB; omega
    rw [e2]; exact ha.1.low
theorem PB_ok {b : List Int} {m : Nat} (h : OkB b m) (v : Int) (n : Nat) : ∀ j, OkB (PB b m v n j) (m + j)
  | 0 => h
  | j + 1 => (PB_ok h v n j).put (by omega) (by omega)
/-- some bits into one byte -/
theorem PB_byte {b : List Int} {m : Nat} (h : OkB b m) (v : Int) (n j : Nat) : ∀ t, t + 1 ≤ 8 - (m + j) % 8 → j + (t + 1) ≤ n →
    PB b m v n (j + (t + 1)) = addL (grow (PB b m v n j) (m + j)) ((v / 2 ^ (n - (j + (t + 1))) % 2 ^ (t + 1)) * 2 ^ (8 - (m + j) % 8 - (t + 1)))
  | 0, h1, h2 => by
    show putB _ _ _ = _
    unfold putB
    have e : 8 - (m + j) % 8 - (0 + 1) = 7 - (m + j) % 8 := by omega
    rw [e]
    simp
  | t + 1, h1, h2 => by
    have ih := PB_byte h v n j t (by omega) (by omega)
    have hr := (PB_ok h v n j).grow.1
    have e1 : j + (t + 1 + 1) = (j + (t + 1)) + 1 := by omega
    rw [e1]
    show putB _ _ _ = _
    rw [ih]
    unfold putB
    have e2 : (m + (j + (t + 1))) % 8 = (m + j) % 8 + (t + 1) := by omega
    have hg : ∀ l : List Int, grow l (m + (j + (t + 1))) = l := fun l => by unfold grow; rw [if_neg (by omega)]
    rw [hg, e2, addL_addL hr.ne]
    congr 1
    have e3 : 8 - (m + j) % 8 - (t + 1) = (7 - ((m + j) % 8 + (t + 1))) + 1 := by omega
    have e4 : 8 - (m + j) % 8 - (t + 1 + 1) = 7 - ((m + j) % 8 + (t + 1)) := by omega
    have e5 : n - (j + (t + 1)) = (n - (j + (t + 1) + 1)) + 1 := by omega
    have p1 : (2 : Int) ^ (7 - ((m + j) % 8 + (t + 1)) + 1) = 2 ^ (7 - ((m + j) % 8 + (t + 1))) * 2 := Int.pow_succ _ _
    have p2 : (2 : Int) ^ (n - (j + (t + 1) + 1) + 1) = 2 ^ (n - (j + (t + 1) + 1)) * 2 := Int.pow_succ _ _
    rw [e3, e4, e5, p1, p2, ← mod_two (t := t + 1), ← Int.ediv_ediv_of_nonneg (Int.le_of_lt (Int.pow_pos (by omega))), Int.add_mul]
    congr 1
    rw [Int.mul_assoc _ 2, Int.mul_comm 2]
/-- a number of so many bits, written -/
def addK (k : Ink) (v n : Int) : Ink × Int :=
  if okK k = false ∨ n < 0 ∨ n > 64 then (k, 1)
  else if 2 ^ n.toNat ≤ v then (k, 6)
  else ({ bytes := PB k.bytes k.many.toNat v n.toNat n.toNat, many := k.many + n }, 0)
theorem bits_Add_eq {k : Ink} (hu : U8 k.bytes) (hl : k.bytes.length ≤ 100000000) (hm : inK .i64 k.many) {v : Int} (hv : inK .u64 v) (n : Int) : bits_Add none k v n = some (addK k v n) := by
  have hb : By k.bytes := ⟨hu, by omega⟩
  rw [in_u64] at hv
  unfold bits_Add addK
  rw [bnd (bits_Right_eq hb hm)]
  simp only [bits_Add_j1, cm_lss, cm_gtr]
  by_cases h1 : okK k = false ∨ n < 0 ∨ n > 64
  · rw [if_pos h1]
    rcases h1 with h1 | h1 | h1
    · simp [h1]
    · cases okK k <;> simp [h1]
    · cases okK k <;> simp
      by_cases h : n < 0 <;> simp [h]
      omega
  · rw [if_neg h1]
    simp only [not_or, Bool.not_eq_false, Int.not_lt] at h1
    obtain ⟨ho, h0, h64⟩ := h1
    have e1 : ¬ n < 0 := by omega
    have e2 : ¬ 64 < n := by omega
    simp only [ho, e1, e2, Bool.not_true, Bool.false_eq_true, if_false, decide_false, decide_eq_true_eq]
    obtain ⟨hok, hm0⟩ := okK_ok hu ho
    obtain ⟨N, rfl⟩ := Int.eq_ofNat_of_zero_le h0
    obtain ⟨V, rfl⟩ := Int.eq_ofNat_of_zero_le hv.1
    obtain ⟨m, hme⟩ := Int.eq_ofNat_of_zero_le hm0
    rw [bnd (len64_eq V (by omega))]
    simp only [Int.toNat_natCast]
    have hp64 := pow_le64 (n := N) (by omega)
    have hbl : (N : Int) < bl V ↔ (2 : Int) ^ N ≤ V := by
      rw [← pow_int]
      constructor
      · intro h
        by_cases hV : V = 0
        · subst hV; simp [bl] at h; omega
        · have a := bl_le hV
          have b : 2 ^ N ≤ 2 ^ (bl V - 1) := Nat.pow_le_pow_right (by omega) (by omega)
          omega
      · intro h
        have a := bl_lt V
        have b : 2 ^ N < 2 ^ bl V := by omega
        have := (Nat.pow_lt_pow_iff_right (a := 2) (by omega)).1 b
        omega
    by_cases h2 : (2 : Int) ^ N ≤ V
    · rw [if_pos (hbl.2 h2), if_pos h2]
    · rw [if_neg (fun h => h2 (hbl.1 h)), if_neg h2]
      have hcl : slices_Clone k.bytes = some k.bytes := by simp [slices_Clone, app]; omega
      rw [bnd hcl]
      unfold bits_Add_l2
      rw [hme] at hok ⊢
      simp only [Int.toNat_natCast] at hok ⊢
      obtain ⟨r, hr, hq⟩ := loop_inv (step := fun (s : Int × List Int × Ink) => bits_Add_s2 none V s.1 s.2.1 s.2.2) (Q := fun r => r = (({ bytes := PB k.bytes m V N N, many := (m : Int) + N } : Ink), (0 : Int)))
        (fun s => ∃ j : Nat, j ≤ N ∧ s = (((N - j : Nat) : Int), PB k.bytes m V N j, { k with many := ((m + j : Nat) : Int) })) (fun s => s.1.toNat) (↑N, k.bytes, k) ⟨0, by omega, by simp [PB, ← hme]⟩ (by
        rintro s ⟨j, hj, rfl⟩
        by_cases hjN : j = N
        · right
          subst hjN
          refine ⟨_, ?_, rfl⟩
          simp [bits_Add_s2, cm_gtr]
        · left
          have hgt : (0 : Int) < ((N - j : Nat) : Int) := by omega
          have hokj := PB_ok hok V N j
          have hle := hokj.le
          have hge := hokj.ge
          obtain ⟨hrm, hrl⟩ := hokj.grow
          have hlen : 8 * k.bytes.length ≤ m + 7 := hok.ge
          have hlen2 : m ≤ 8 * k.bytes.length := hok.le
          let t : Nat := min (8 - (m + j) % 8) (N - j)
          have ht : t ≤ 8 ∧ 1 ≤ t ∧ t ≤ 8 - (m + j) % 8 ∧ j + t ≤ N := by omega
          have hPB : PB k.bytes m V N (j + t) = addL (grow (PB k.bytes m V N j) (m + j)) ((V / 2 ^ (N - (j + t)) % 2 ^ t) * 2 ^ (8 - (m + j) % 8 - t)) := by
            have := PB_byte hok V N j (t - 1) (by omega) (by omega)
            rwa [show t - 1 + 1 = t by omega] at this
          have hw : 0 ≤ (V : Int) / 2 ^ (N - (j + t)) % 2 ^ t ∧ (V : Int) / 2 ^ (N - (j + t)) % 2 ^ t < 2 ^ t :=
            ⟨Int.emod_nonneg _ (by have := (pow8 ht.1).2; omega), Int.emod_lt_of_pos _ (by have := (pow8 ht.1).2; omega)⟩
          have hpt := pow8 ht.1
          obtain ⟨ha, hw1, hw2⟩ := hrm.add ht.2.2.1 hw.1 hw.2
          have hlast := hrm.last
          have hpr := pow8 (r := 8 - (m + j) % 8) (by omega)
          have et : imin ((8 - (m + j) % 8 : Nat) : Int) ((N - j : Nat) : Int) = (t : Int) := by rw [imin_eq]; omega
          have core : ∀ l : List Int, l = grow (PB k.bytes m V N j) (m + j) → bits_Add_j3 none V ((N - j : Nat) : Int) { k with many := ((m + j : Nat) : Int) } l ((8 - (m + j) % 8 : Nat) : Int) =
              some (Sum.inl (((N - (j + t) : Nat) : Int), PB k.bytes m V N (j + t), { k with many := ((m + (j + t) : Nat) : Int) })) := by
            rintro l rfl
            have hll : 0 < (grow (PB k.bytes m V N j) (m + j)).length := List.length_pos_iff.2 hrm.ne
            generalize hg : grow (PB k.bytes m V N j) (m + j) = l at *
            unfold bits_Add_j3
            have ei : ar .sub .i64 (l.length : Int) 1 = ((l.length - 1 : Nat) : Int) := by rw [ar_sub, w_i64 (by omega) (by omega)]; omega
            have en : ar .sub .i64 ((N - j : Nat) : Int) (t : Int) = ((N - (j + t) : Nat) : Int) := by rw [ar_sub, w_i64 (by omega) (by omega)]; omega
            have er : ar .sub .i64 ((8 - (m + j) % 8 : Nat) : Int) (t : Int) = ((8 - (m + j) % 8 - t : Nat) : Int) := by rw [ar_sub, w_i64 (by omega) (by omega)]; omega
            have em : ar .add .i64 ((m + j : Nat) : Int) (t : Int) = ((m + (j + t) : Nat) : Int) := by rw [ar_add, w_i64 (by omega) (by omega)]; omega
            have esh : sf .shl .u64 1 (t : Int) = 2 ^ t := by rw [sf_shl rfl (by simp only [IntKind.bits]; omega), w_u64 (by omega) (by omega)]; omega
            have emk : ar .sub .u64 ((2 : Int) ^ t) 1 = 2 ^ t - 1 := by rw [ar_sub, w_u64 (by omega) (by omega)]
            rw [et, ei, en, er, em, bnd (ix_getD (by omega) (by omega)), sfO_nn (by omega), Option.bind_some, sfO_nn (by omega), Option.bind_some, sfO_nn (by omega), Option.bind_some, bnd (ix_getD (by omega) (by omega)), esh, emk,
              sf_shr rfl (by simp only [IntKind.bits]; omega), ar_mask (k := .u64) (n := t) rfl rfl (by simp only [IntKind.bits]; omega) (Int.ediv_nonneg (by omega) (Int.le_of_lt (Int.pow_pos (by omega)))) (Int.lt_of_le_of_lt (Int.ediv_le_self _ (by omega)) (by simp only [IntKind.bits]; omega)),
              w_u8 (by omega) (by omega), sf_shl rfl (by simp only [IntKind.bits]; omega), w_u8 (by omega) (by omega)]
            have eq1 : ((l.length - 1 : Nat) : Int).toNat = l.length - 1 := by omega
            rw [eq1]
            have elb : l.getD (l.length - 1) 0 = lastB l := rfl
            rw [elb]
            obtain ⟨q, hq⟩ : ∃ q : Int, lastB l = q * 2 ^ (8 - (m + j) % 8) := by
              obtain ⟨q, hq⟩ := Int.dvd_of_emod_eq_zero hrm.low
              exact ⟨q, by rw [hq, Int.mul_comm]⟩
            have hq0 : 0 ≤ q := by
              rcases Int.lt_or_le q 0 with hneg | h
              · have := Int.mul_neg_of_neg_of_pos hneg (show (0 : Int) < 2 ^ (8 - (m + j) % 8) by omega)
                omega
              · exact h
            rw [ar_or_add (k := .u8) rfl hq hq0 hw2 hw1 (by simp only [IntKind.bits]; omega) (by simp only [IntKind.bits]; omega), hPB]
            rfl
          refine ⟨(((N - (j + t) : Nat) : Int), PB k.bytes m V N (j + t), { k with many := ((m + (j + t) : Nat) : Int) }), ?_, ⟨j + t, ht.2.2.2, rfl⟩, by simp; omega⟩
          simp only [bits_Add_s2, cm_gtr, decide_eq_true_eq]
          rw [if_pos hgt]
          have erest : ar .sub .i64 (ar .mul .i64 8 ((PB k.bytes m V N j).length : Int)) ((m + j : Nat) : Int) = ((8 * (PB k.bytes m V N j).length - (m + j) : Nat) : Int) := by
            rw [ar_mul, w_i64 (by omega) (by omega), ar_sub, w_i64 (by omega) (by omega)]; omega
          rw [erest]
          simp only [cm_eql, decide_eq_true_eq]
          by_cases hr0 : (m + j) % 8 = 0
          · rw [if_pos (by omega), bnd (app_some (by simp; omega))]
            have := core (PB k.bytes m V N j ++ [0]) (by unfold grow; rw [if_pos hr0])
            rw [hr0] at this
            exact this
          · rw [if_neg (by omega)]
            have := core (PB k.bytes m V N j) (by unfold grow; rw [if_neg hr0])
            rw [show 8 - (m + j) % 8 = 8 * (PB k.bytes m V N j).length - (m + j) by omega] at this
            exact this)
      rw [hr, hq]
/-- one of a range, written -/
def addRangeK (k : Ink) (v n : Int) : Ink × Int :=
  if okK k = false ∨ n < 1 ∨ n > 4294967296 then (k, 1)
  else if n ≤ v then (k, 6)
  else
    let q := bl n.toNat - 1
    let s : Int := 2 ^ (q + 1) - n
    if v < s then addK k v q else addK k (v + s) (q + 1)
theorem bits_AddRange_eq {k : Ink} (hu : U8 k.bytes) (hl : k.bytes.length ≤ 100000000) (hm : inK .i64 k.many) {v : Int} (hv : inK .u64 v) (n : Int) : bits_AddRange none k v n = some (addRangeK k v n) := by
  have hb : By k.bytes := ⟨hu, by omega⟩
  have hv' := hv
  rw [in_u64] at hv
  unfold bits_AddRange addRangeK
  rw [bnd (bits_Right_eq hb hm)]
  simp only [bits_AddRange_j1, cm_lss, cm_gtr, cm_geq]
  by_cases h1 : okK k = false ∨ n < 1 ∨ n > 4294967296
  · rw [if_pos h1]
    rcases h1 with h1 | h1 | h1
    · simp [h1]
    · cases okK k <;> simp [h1]
    · cases okK k <;> simp
      by_cases h : n < 1 <;> simp [h]
      omega
  · rw [if_neg h1]
    simp only [not_or, Bool.not_eq_false, Int.not_lt] at h1
    obtain ⟨ho, h1, h2⟩ := h1
    have e1 : ¬ n < 1 := by omega
    have e2 : ¬ 4294967296 < n := by omega
    simp only [ho, e1, e2, Bool.not_true, Bool.false_eq_true, if_false, decide_false, decide_eq_true_eq]
    by_cases h3 : n ≤ v
    · simp [h3]
    · simp only [h3, if_false]
      obtain ⟨N, rfl⟩ := Int.eq_ofNat_of_zero_le (show 0 ≤ n by omega)
      have hbl : bl N ≤ 33 := bl_le_of_lt (by omega)
      have hbp : 1 ≤ bl N := bl_pos (by omega)
      rw [bnd (bits_spread_eq N (by omega))]
      simp only [Int.toNat_natCast]
      have hlt : (N : Int) < 2 ^ bl N := by rw [← pow_int]; exact_mod_cast bl_lt N
      obtain ⟨q, hq⟩ : ∃ q, bl N = q + 1 := ⟨bl N - 1, by omega⟩
      rw [hq] at hlt hbl ⊢
      have hp : (2 : Int) ^ (q + 1) ≤ 8589934592 := by
        have a : (2 : Nat) ^ (q + 1) ≤ 2 ^ 33 := Nat.pow_le_pow_right (by omega) hbl
        rw [← pow_int]; omega
      have e0 : ar .sub .i64 ((q + 1 : Nat) : Int) 1 = (q : Int) := by rw [ar_sub, w_i64 (by omega) (by omega)]; omega
      rw [e0, Nat.add_sub_cancel]
      by_cases h4 : v < 2 ^ (q + 1) - (N : Int)
      · simp only [h4, if_true]
        rw [bnd (bits_Add_eq hu hl hm hv' _)]
      · simp only [h4, if_false]
        rw [ar_add, w_u64 (by omega) (by omega), bnd (bits_Add_eq hu hl hm (in_u64.2 (by omega)) _)]
        rfl
theorem getD_app_lt {b : List Int} {c : List Int} {i : Nat} (h : i < b.length) : (b ++ c).getD i 0 = b.getD i 0 := by
  simp only [List.getD]; rw [List.getElem?_append_left h]
theorem bt1_grow {b : List Int} {m : Nat} (h : OkB b m) {i : Nat} (hi : i < m) : bt1 (grow b m) i = bt1 b i := by
  have := h.le
  unfold grow
  split
  · unfold bt1
    rw [getD_app_lt (by omega)]
  · rfl
theorem bt1_addL {b : List Int} {i : Nat} {x : Int} (h : i / 8 < b.length - 1) : bt1 (addL b x) i = bt1 b i := by
  unfold bt1 addL
  simp only [List.getD]
  rw [List.getElem?_set_ne (by omega)]
theorem bt1_put {b : List Int} {m : Nat} (h : OkB b m) {x : Int} (h0 : 0 ≤ x) (h1 : x ≤ 1) :
    (∀ i, i < m → bt1 (putB b m x) i = bt1 b i) ∧ bt1 (putB b m x) m = x := by
  obtain ⟨hr, hl⟩ := h.grow
  have hpos : 0 < (grow b m).length := List.length_pos_iff.2 hr.ne
  have hlast : lastB (addL (grow b m) (x * 2 ^ (7 - m % 8))) = lastB (grow b m) + x * 2 ^ (7 - m % 8) := lastB_addL hr.ne _
  obtain ⟨q, hq⟩ : ∃ q : Int, lastB (grow b m) = q * 2 ^ (8 - m % 8) := by
    obtain ⟨q, hq⟩ := Int.dvd_of_emod_eq_zero hr.low
    exact ⟨q, by rw [hq, Int.mul_comm]⟩
  have e8 : (2 : Int) ^ (8 - m % 8) = 2 ^ (7 - m % 8) * 2 := by rw [← Int.pow_succ]; congr 1; omega
  have hp : (0 : Int) < 2 ^ (7 - m % 8) := Int.pow_pos (by omega)
  have hlen := len_addL (grow b m) (x * 2 ^ (7 - m % 8))
  constructor
  · intro i hi
    rw [← bt1_grow h hi]
    unfold putB
    by_cases hi8 : i / 8 < (grow b m).length - 1
    · exact bt1_addL hi8
    · have e : i / 8 = (grow b m).length - 1 := by omega
      unfold bt1
      have e1 : (addL (grow b m) (x * 2 ^ (7 - m % 8))).getD (i / 8) 0 = lastB (addL (grow b m) (x * 2 ^ (7 - m % 8))) := by unfold lastB; rw [hlen, e]
      have e2 : (grow b m).getD (i / 8) 0 = lastB (grow b m) := by unfold lastB; rw [e]
      rw [e1, e2, hlast, hq]
      have e3 : 7 - i % 8 = (8 - m % 8) + (m % 8 - 1 - i % 8) := by omega
      have hp8 : (0 : Int) < 2 ^ (8 - m % 8) := Int.pow_pos (by omega)
      rw [e3, Int.pow_add, ← Int.ediv_ediv_of_nonneg (Int.le_of_lt hp8), ← Int.ediv_ediv_of_nonneg (Int.le_of_lt hp8)]
      congr 2
      rw [Int.mul_ediv_cancel _ (by omega), Int.add_comm, Int.add_mul_ediv_right _ _ (by omega), Int.ediv_eq_zero_of_lt, Int.zero_add]
      · exact Int.mul_nonneg h0 (Int.le_of_lt hp)
      · rw [e8]
        rcases (show x = 0 ∨ x = 1 by omega) with rfl | rfl <;> omega
  · have e : m / 8 = (grow b m).length - 1 := by omega
    unfold putB bt1
    have e1 : (addL (grow b m) (x * 2 ^ (7 - m % 8))).getD (m / 8) 0 = lastB (addL (grow b m) (x * 2 ^ (7 - m % 8))) := by unfold lastB; rw [hlen, e]
    rw [e1, hlast, hq, e8, Int.mul_comm (2 ^ (7 - m % 8)) 2, ← Int.mul_assoc, ← Int.add_mul, Int.mul_ediv_cancel _ (by omega)]
    omega
theorem bt1_PB {b : List Int} {m : Nat} (h : OkB b m) (v : Int) (n : Nat) : ∀ j, (∀ i, i < m → bt1 (PB b m v n j) i = bt1 b i)
  | 0 => fun _ _ => rfl
  | j + 1 => fun i hi => by
    have := (bt1_put (PB_ok h v n j) (x := v / 2 ^ (n - (j + 1)) % 2) (by omega) (by omega)).1 i (by omega)
    rw [show PB b m v n (j + 1) = putB (PB b m v n j) (m + j) (v / 2 ^ (n - (j + 1)) % 2) from rfl, this]
    exact bt1_PB h v n j i hi
theorem vl_congr {b c : List Int} {p : Nat} : ∀ {n : Nat}, (∀ i, p ≤ i → i < p + n → bt1 b i = bt1 c i) → vl b p n = vl c p n
  | 0, _ => rfl
  | n + 1, h => by
    simp only [vl]
    rw [vl_congr (n := n) (fun i h1 h2 => h i h1 (by omega)), h (p + n) (by omega) (by omega)]
theorem vl_PB {b : List Int} {m : Nat} (h : OkB b m) (v : Int) (n : Nat) : ∀ j, j ≤ n → vl (PB b m v n j) m j = v / 2 ^ (n - j) % 2 ^ j
  | 0, _ => by simp [vl, Int.emod_one]
  | j + 1, hj => by
    have hput := bt1_put (PB_ok h v n j) (x := v / 2 ^ (n - (j + 1)) % 2) (by omega) (by omega)
    have ih := vl_PB h v n j (by omega)
    have e : vl (PB b m v n (j + 1)) m j = vl (PB b m v n j) m j := vl_congr fun i h1 h2 => hput.1 i h2
    simp only [vl]
    rw [e, ih, show PB b m v n (j + 1) = putB (PB b m v n j) (m + j) (v / 2 ^ (n - (j + 1)) % 2) from rfl, hput.2, ← mod_two, show n - j = n - (j + 1) + 1 by omega, Int.pow_succ, ← Int.ediv_ediv_of_nonneg (Int.le_of_lt (Int.pow_pos (by omega)))]
    omega
/-- what is written reads as what it was -/
theorem vl_put {b : List Int} {m : Nat} (h : OkB b m) {v : Int} {n : Nat} (h0 : 0 ≤ v) (h1 : v < 2 ^ n) : vl (PB b m v n n) m n = v := by
  rw [vl_PB h v n n (Nat.le_refl _)]
  simp [Int.emod_eq_of_lt h0 h1]

end Xb

namespace Xb
open Go

/-! bits, the highest first -/
def nb : Nat → Int → List Int
  | 0, _ => []
  | n + 1, v => nb n (v / 2) ++ [v % 2]
def num (l : List Int) : Int := l.foldl (fun a x => a * 2 + x) 0
def bin (l : List Int) : Prop := ∀ x, x ∈ l → 0 ≤ x ∧ x ≤ 1
theorem nb_len : ∀ (n : Nat) (v : Int), (nb n v).length = n
  | 0, _ => rfl
  | n + 1, v => by simp [nb, nb_len n]
theorem nb_bin : ∀ (n : Nat) (v : Int), bin (nb n v)
  | 0, _, x, h => absurd h List.not_mem_nil
  | n + 1, v, x, h => by
    simp only [nb, List.mem_append, List.mem_singleton] at h
    rcases h with h | h
    · exact nb_bin n _ x h
    · omega
theorem num_snoc (l : List Int) (x : Int) : num (l ++ [x]) = num l * 2 + x := by simp [num]
theorem num_nb : ∀ (n : Nat) (v : Int), 0 ≤ v → v < 2 ^ n → num (nb n v) = v
  | 0, v, h0, h1 => by simp at h1; have : v = 0 := by omega
                       subst this; rfl
  | n + 1, v, h0, h1 => by
    have e : (2 : Int) ^ (n + 1) = 2 ^ n * 2 := Int.pow_succ _ _
    rw [nb, num_snoc, num_nb n (v / 2) (by omega) (by omega)]; omega
theorem bin.left {a b : List Int} (h : bin (a ++ b)) : bin a := fun x hx => h x (List.mem_append_left _ hx)
theorem bin.right {a b : List Int} (h : bin (a ++ b)) : bin b := fun x hx => h x (List.mem_append_right _ hx)
theorem bin.app {a b : List Int} (h : bin a) (h' : bin b) : bin (a ++ b) := fun x hx => (List.mem_append.1 hx).elim (h x) (h' x)
theorem bin.drop {a : List Int} (h : bin a) (n : Nat) : bin (a.drop n) := fun x hx => h x (List.mem_of_mem_drop hx)
theorem bin.take {a : List Int} (h : bin a) (n : Nat) : bin (a.take n) := fun x hx => h x (List.mem_of_mem_take hx)
theorem nb_num_rev : ∀ (r : List Int), bin r.reverse → nb r.length (num r.reverse) = r.reverse ∧ 0 ≤ num r.reverse ∧ num r.reverse < 2 ^ r.length
  | [], _ => by simp [nb, num]
  | x :: r, h => by
    simp only [List.reverse_cons] at h ⊢
    obtain ⟨h1, h2, h3⟩ := nb_num_rev r h.left
    have hx := h x (by simp)
    have e : (2 : Int) ^ (r.length + 1) = 2 ^ r.length * 2 := Int.pow_succ _ _
    rw [List.length_cons, nb, num_snoc]
    have e1 : (num r.reverse * 2 + x) / 2 = num r.reverse := by omega
    have e2 : (num r.reverse * 2 + x) % 2 = x := by omega
    rw [e1, e2, h1]
    refine ⟨rfl, by omega, by omega⟩
theorem nb_num {l : List Int} (h : bin l) : nb l.length (num l) = l := by
  have := (nb_num_rev l.reverse (by simpa using h)).1
  simpa using this
theorem num_bd {l : List Int} (h : bin l) : 0 ≤ num l ∧ num l < 2 ^ l.length := by
  have := (nb_num_rev l.reverse (by simpa using h)).2
  simpa using this

def bitsOf (B : List Int) : List Int := (List.range (8 * B.length)).map (bt1 B)
theorem bitsOf_len (B : List Int) : (bitsOf B).length = 8 * B.length := by simp [bitsOf]
theorem bitsOf_bin (B : List Int) : bin (bitsOf B) := fun x hx => by
  obtain ⟨i, _, rfl⟩ := List.mem_map.1 hx
  exact bt1_in B i
theorem bits_piece {B : List Int} {p n : Nat} (h : p + n ≤ 8 * B.length) : ((bitsOf B).drop p).take n = (List.range n).map fun i => bt1 B (p + i) := by
  apply List.ext_getElem
  · simp [bitsOf_len]; omega
  · intro i h1 h2
    simp only [List.length_map, List.length_range] at h2
    simp [bitsOf]
theorem num_range (f : Nat → Int) : ∀ n, num ((List.range (n + 1)).map f) = num ((List.range n).map f) * 2 + f n := fun n => by
  rw [List.range_succ, List.map_append, List.map_singleton, num_snoc]
theorem vl_range (B : List Int) (p : Nat) : ∀ n, num ((List.range n).map fun i => bt1 B (p + i)) = vl B p n
  | 0 => rfl
  | n + 1 => by rw [num_range, vl_range B p n]; simp only [vl]; omega
theorem vl_num {B : List Int} {p n : Nat} (h : p + n ≤ 8 * B.length) : vl B p n = num (((bitsOf B).drop p).take n) := by
  rw [bits_piece h, vl_range]
theorem bits_get {B : List Int} {i : Nat} (h : i < (bitsOf B).length) : (bitsOf B)[i] = bt1 B i := by simp [bitsOf]

theorem nb8 (x : Int) : nb 8 x = [x / 128 % 2, x / 64 % 2, x / 32 % 2, x / 16 % 2, x / 8 % 2, x / 4 % 2, x / 2 % 2, x % 2] := by
  simp only [nb, List.nil_append, List.cons_append]
  have e : ∀ a b : Int, x / a / b = x / (a * b) ∨ True := fun _ _ => .inr trivial
  refine List.cons_eq_cons.2 ⟨by omega, List.cons_eq_cons.2 ⟨by omega, List.cons_eq_cons.2 ⟨by omega, List.cons_eq_cons.2 ⟨by omega, List.cons_eq_cons.2 ⟨by omega, List.cons_eq_cons.2 ⟨by omega, rfl⟩⟩⟩⟩⟩⟩
theorem bitsOf_cons (x : Int) (B : List Int) : bitsOf (x :: B) = nb 8 x ++ bitsOf B := by
  apply List.ext_getElem
  · simp [bitsOf_len, nb_len]; omega
  · intro i h1 h2
    rw [bits_get h1]
    by_cases h : i < 8
    · rw [List.getElem_append_left (by rw [nb_len]; exact h)]
      have : i = 0 ∨ i = 1 ∨ i = 2 ∨ i = 3 ∨ i = 4 ∨ i = 5 ∨ i = 6 ∨ i = 7 := by omega
      have g : ∀ {k : Nat} (hk : k < (nb 8 x).length) (y : Int), (nb 8 x)[k]? = some y → (nb 8 x)[k] = y := fun hk y hy => by
        rw [List.getElem?_eq_getElem hk] at hy; exact Option.some.inj hy
      rcases this with rfl | rfl | rfl | rfl | rfl | rfl | rfl | rfl <;> (rw [g _ _ (by rw [nb8]; rfl)]; simp [bt1])
    · rw [List.getElem_append_right (by rw [nb_len]; omega)]
      rw [bits_get]
      unfold bt1
      rw [nb_len]
      have e1 : i / 8 = (i - 8) / 8 + 1 := by omega
      have e2 : i % 8 = (i - 8) % 8 := by omega
      rw [e1, e2, List.getD_cons_succ]
theorem bitsOf_app : ∀ (A B : List Int), bitsOf (A ++ B) = bitsOf A ++ bitsOf B
  | [], B => by simp [bitsOf]
  | x :: A, B => by rw [List.cons_append, bitsOf_cons, bitsOf_app A B, bitsOf_cons, List.append_assoc]

theorem byte_vl {b : List Int} (hb : U8 b) (i : Nat) : b.getD i 0 = vl b (8 * i) 8 := by
  have h := vl_byte b (8 * i) 8 (by omega)
  have h1 : 8 * i / 8 = i := by omega
  have h2 : 8 * i % 8 = 0 := by omega
  rw [h1, h2] at h
  have := hb.get i
  rw [h]
  show b.getD i 0 = b.getD i 0 / 2 ^ 0 % 2 ^ 8
  rw [Int.pow_zero, Int.ediv_one]; omega
theorem bytes_ext {b c : List Int} (hb : U8 b) (hc : U8 c) (h : bitsOf b = bitsOf c) : b = c := by
  have hl : b.length = c.length := by
    have := congrArg List.length h
    rw [bitsOf_len, bitsOf_len] at this; omega
  apply List.ext_getElem hl
  intro i h1 h2
  have e1 : b[i] = b.getD i 0 := by rw [List.getD_eq_getElem?_getD, List.getElem?_eq_getElem h1]; rfl
  have e2 : c[i] = c.getD i 0 := by rw [List.getD_eq_getElem?_getD, List.getElem?_eq_getElem h2]; rfl
  rw [e1, e2, byte_vl hb, byte_vl hc, vl_num (by omega), vl_num (by omega), h]

theorem OkB.zero {b : List Int} {m : Nat} (h : OkB b m) {i : Nat} (h1 : m ≤ i) (h2 : i < 8 * b.length) : bt1 b i = 0 := by
  have hle := h.le; have hge := h.ge; have hlow := h.low
  have e : i / 8 = b.length - 1 := by omega
  unfold bt1
  rw [e]
  change lastB b / 2 ^ (7 - i % 8) % 2 = 0
  have hr : 8 * b.length - m = (7 - i % 8) + 1 + (i - m) := by omega
  rw [hr] at hlow
  generalize lastB b = y at *
  generalize 7 - i % 8 = t at *
  generalize i - m = u at *
  have e2 : (2 : Int) ^ (t + 1 + u) = 2 ^ t * (2 * 2 ^ u) := by rw [Int.pow_add, Int.pow_succ, Int.mul_assoc]
  rw [e2] at hlow
  have hp : (0 : Int) < 2 ^ t := Int.pow_pos (by omega)
  have hd : (2 : Int) ^ t * (2 * 2 ^ u) ∣ y := Int.dvd_of_emod_eq_zero hlow
  obtain ⟨q, rfl⟩ := hd
  rw [Int.mul_assoc, Int.mul_ediv_cancel_left _ (by omega), Int.mul_assoc]
  exact Int.mul_emod_right _ _

/-- ink that holds these bits -/
structure RepK (k : Ink) (L : List Int) : Prop where
  many : k.many = L.length
  ok : OkB k.bytes L.length
  bits : (bitsOf k.bytes).take L.length = L
theorem RepK.all {k : Ink} {L : List Int} (h : RepK k L) : bitsOf k.bytes = L ++ List.replicate (8 * k.bytes.length - L.length) 0 := by
  have hle := h.ok.le
  conv => lhs; rw [← List.take_append_drop L.length (bitsOf k.bytes), h.bits]
  congr 1
  apply List.ext_getElem
  · simp [bitsOf_len]
  · intro i h1 h2
    simp only [List.length_drop, bitsOf_len] at h1
    rw [List.getElem_drop, bits_get, List.getElem_replicate]
    exact h.ok.zero (by omega) (by omega)
theorem RepK.ext {k j : Ink} {L : List Int} (h : RepK k L) (h' : RepK j L) : k.bytes = j.bytes := by
  apply bytes_ext h.ok.u8 h'.ok.u8
  have a1 := h.ok.le; have a2 := h.ok.ge; have b1 := h'.ok.le; have b2 := h'.ok.ge
  have e : k.bytes.length = j.bytes.length := by omega
  rw [h.all, h'.all, e]
theorem RepK.okK {k : Ink} {L : List Int} (h : RepK k L) : okK k = true := by
  have h1 := h.ok.le; have h2 := h.ok.ge; have h3 := h.ok.low; have h4 := h.many
  unfold Xb.okK
  simp only [Bool.and_eq_true, decide_eq_true_eq]
  have e : k.many.toNat = L.length := by omega
  rw [e]
  exact ⟨⟨⟨by omega, by omega⟩, by omega⟩, h3⟩
theorem RepK.nil : RepK ⟨[], 0⟩ [] := ⟨rfl, ⟨fun _ h => absurd h List.not_mem_nil, by simp, by simp, by simp [lastB]⟩, by simp⟩

theorem add_rep {k : Ink} {L : List Int} (h : RepK k L) (hl : L.length ≤ 500000000) {v : Int} {n : Nat} (h0 : 0 ≤ v) (h1 : v < 2 ^ n) (hn : n ≤ 64) :
    ∃ k', bits_Add none k v n = some (k', 0) ∧ RepK k' (L ++ nb n v) := by
  have hle := h.ok.le; have hge := h.ok.ge; have hm := h.many
  have hp := pow_le64 hn
  have hA := bits_Add_eq (k := k) h.ok.u8 (by omega) (in_i64.2 (by omega)) (v := v) (in_u64.2 (by omega)) n
  have e : k.many.toNat = L.length := by omega
  refine ⟨⟨PB k.bytes L.length v n n, k.many + n⟩, ?_, ⟨?_, ?_, ?_⟩⟩
  · rw [hA]
    unfold addK
    rw [if_neg (by rw [h.okK]; simp; omega), if_neg (by simp; omega), e]
    simp
  · simp [nb_len, hm]
  · rw [List.length_append, nb_len]; exact PB_ok h.ok v n n
  · have hok := PB_ok h.ok v n n
    have hok1 := hok.le
    have g1 := bt1_PB h.ok v n n
    have hv := vl_put h.ok h0 h1
    rw [List.length_append, nb_len]
    have key : ∀ (X : List Int), X.take (L.length + n) = X.take L.length ++ (X.drop L.length).take n := fun X => by
      rw [List.take_add]
    rw [key]
    have e1 : (bitsOf (PB k.bytes L.length v n n)).take L.length = L := by
      conv => rhs; rw [← h.bits]
      apply List.ext_getElem
      · simp [bitsOf_len]; omega
      · intro i q1 q2
        simp only [List.length_take, bitsOf_len] at q1
        rw [List.getElem_take, List.getElem_take, bits_get, bits_get]
        exact g1 i (by omega)
    have hb := (bitsOf_bin (PB k.bytes L.length v n n)).drop L.length |>.take n
    have hlen : (((bitsOf (PB k.bytes L.length v n n)).drop L.length).take n).length = n := by simp [bitsOf_len]; omega
    have e2 : ((bitsOf (PB k.bytes L.length v n n)).drop L.length).take n = nb n v := by
      have := nb_num hb
      rw [hlen, ← vl_num (by omega), hv] at this
      exact this.symm
    show (bitsOf (PB k.bytes L.length v n n)).take L.length ++ ((bitsOf (PB k.bytes L.length v n n)).drop L.length).take n = _
    rw [e1, e2]

/-! reading -/
abbrev RS := Except Int (List Int)
def gN (w : Nat) (s : RS) : Int × RS :=
  match s with
  | .error e => (0, .error e)
  | .ok R => if R.length < w then (0, .error 2) else (num (R.take w), .ok (R.drop w))
structure Rep (B : List Int) (c : GBits) (s : RS) : Prop where
  by_ : c.bytes = B
  st : match s with
    | .ok R => c.err = 0 ∧ 0 ≤ c.at_ ∧ c.at_ ≤ 8 * B.length ∧ R = (bitsOf B).drop c.at_.toNat
    | .error e => c.err = e ∧ e ≠ 0
theorem Rep.start (B : List Int) : Rep B ⟨B, 0, 0⟩ (.ok (bitsOf B)) := ⟨rfl, rfl, Int.le_refl _, by show (0 : Int) ≤ 8 * (B.length : Int); omega, by simp⟩
theorem Rep.at_ok {B : List Int} {c : GBits} {R : List Int} (h : Rep B c (.ok R)) : c.at_ = 8 * B.length - R.length ∧ c.err = 0 := by
  obtain ⟨h1, h2, h3, h4, h5⟩ := h
  refine ⟨?_, h2⟩
  rw [h5, List.length_drop, bitsOf_len]; omega

theorem get_rep {B : List Int} (hB : By B) {c : GBits} {s : RS} (h : Rep B c s) {w : Nat} (hw : w ≤ 64) :
    ∃ c', bits_Get none c w = some (c', (gN w s).1) ∧ Rep B c' (gN w s).2 := by
  have hc : By c.bytes := by rw [h.by_]; exact hB
  rw [bits_Get_eq hc]
  cases s with
  | error e =>
    obtain ⟨h1, h2, h3⟩ := h
    have ho : okG c = false := by unfold okG; rw [decide_eq_false (by omega)]; rfl
    refine ⟨c, ?_, h1, h2, h3⟩
    unfold getG failG
    rw [if_pos (.inl ho), if_neg (by omega)]; rfl
  | ok R =>
    obtain ⟨h1, h2, h3, h4, h5⟩ := h
    have ho : okG c = true := by
      unfold okG; rw [h1, decide_eq_true h2, decide_eq_true h3, decide_eq_true h4]; rfl
    have hlen : R.length = 8 * B.length - c.at_.toNat := by rw [h5, List.length_drop, bitsOf_len]
    rw [getG_ok ho rfl hw, h1]
    by_cases hs : R.length < w
    · rw [if_pos (by omega)]
      unfold gN
      simp only [if_pos hs]
      exact ⟨⟨B, c.at_, 2⟩, rfl, rfl, rfl, by decide⟩
    · rw [if_neg (by omega)]
      unfold gN
      simp only [if_neg hs]
      refine ⟨⟨B, c.at_ + w, c.err⟩, by rw [vl_num (by omega), h5], rfl, h2, by show (0 : Int) ≤ c.at_ + w; omega, by show c.at_ + w ≤ (8 * B.length : Int); omega, ?_⟩
      rw [h5, List.drop_drop]
      congr 1
      show _ = (c.at_ + (w : Int)).toNat
      omega
theorem gN_bd {w : Nat} {s : RS} (hs : ∀ R, s = .ok R → bin R) : 0 ≤ (gN w s).1 ∧ (gN w s).1 < 2 ^ w := by
  have hp : (0 : Int) < 2 ^ w := Int.pow_pos (by omega)
  unfold gN
  cases s with
  | error e => exact ⟨by simp, by simpa using hp⟩
  | ok R =>
    simp only
    by_cases h : R.length < w
    · rw [if_pos h]; exact ⟨by simp, by simpa using hp⟩
    · rw [if_neg h]
      have := num_bd ((hs R rfl).take w)
      rw [List.length_take, Nat.min_eq_left (by omega)] at this
      exact this
end Xb

namespace Xb
open Go

/-! readers of bits, that are read from what is written -/
abbrev RD (α : Type) := RS → α × RS
def pr {α : Type} (a : α) : RD α := fun s => (a, s)
def bdR {α β : Type} (f : RD α) (g : α → RD β) : RD β := fun s => g (f s).1 (f s).2
def badS : RS → RS
  | .error e => .error e
  | .ok _ => .error 6
def failS {α : Type} (a : α) : RD α := fun s => (a, badS s)
def opt {α : Type} (b : Bool) (f : RD α) (z : α) : RD α := if b then f else pr z
def goneS {α : Type} (f : RD α) : Nat → RD (List α)
  | 0, s => ([], s)
  | _ + 1, .error e => ([], .error e)
  | n + 1, .ok R => ((f (.ok R)).1 :: (goneS f n (f (.ok R)).2).1, (goneS f n (f (.ok R)).2).2)

/-- an error stays -/
def ErrP {α : Type} (f : RD α) : Prop := ∀ e, (f (.error e)).2 = .error e
/-- it reads just these bits as that -/
structure Cod {α : Type} (f : RD α) (W : List Int) (a : α) : Prop where
  full : ∀ rest, f (.ok (W ++ rest)) = (a, .ok rest)
  cut : ∀ R T, W = R ++ T → T ≠ [] → (f (.ok R)).2 = .error 2
/-- what it reads is so, and stands there so -/
def Dec {α : Type} (f : RD α) (Q : α → List Int → Prop) : Prop := ∀ R a rest, bin R → f (.ok R) = (a, .ok rest) → ∃ X, R = X ++ rest ∧ Q a X
structure Ex {α : Type} (f : RD α) (Q : α → List Int → Prop) : Prop where
  err : ErrP f
  cod : ∀ a X, Q a X → Cod f X a
  dec : Dec f Q

theorem ErrP.pr {α : Type} (a : α) : ErrP (pr a) := fun _ => rfl
theorem ErrP.fail {α : Type} (a : α) : ErrP (failS a) := fun _ => rfl
theorem ErrP.bd {α β : Type} {f : RD α} {g : α → RD β} (hf : ErrP f) (hg : ∀ a, ErrP (g a)) : ErrP (bdR f g) := fun e => by
  show (g (f (.error e)).1 (f (.error e)).2).2 = _
  rw [hf e]; exact hg _ e
theorem ErrP.gN (w : Nat) : ErrP (gN w) := fun _ => rfl
theorem ErrP.opt {α : Type} {b : Bool} {f : RD α} {z : α} (h : ErrP f) : ErrP (opt b f z) := by
  unfold Xb.opt; split
  · exact h
  · exact .pr z
theorem ErrP.gone {α : Type} (f : RD α) : ∀ n, ErrP (goneS f n)
  | 0, _ => rfl
  | _ + 1, _ => rfl
theorem ErrP.ite {α : Type} {c : Prop} [Decidable c] {f g : RD α} (hf : ErrP f) (hg : ErrP g) : ErrP (if c then f else g) := by
  split
  · exact hf
  · exact hg
theorem Cod.pr {α : Type} (a : α) : Cod (pr a) [] a := ⟨fun _ => rfl, fun R T h hT => absurd (List.append_eq_nil_iff.1 h.symm).2 hT⟩
theorem Cod.bd {α β : Type} {f : RD α} {g : α → RD β} {W V : List Int} {a : α} {b : β} (hf : Cod f W a) (hg : Cod (g a) V b) (he : ∀ x, ErrP (g x)) : Cod (bdR f g) (W ++ V) b := by
  refine ⟨fun rest => ?_, fun R T h hT => ?_⟩
  · show g (f (.ok (W ++ V ++ rest))).1 (f (.ok (W ++ V ++ rest))).2 = _
    rw [List.append_assoc, hf.full]; exact hg.full rest
  · show (g (f (.ok R)).1 (f (.ok R)).2).2 = _
    rcases List.append_eq_append_iff.1 h with ⟨X, h1, h2⟩ | ⟨X, h1, h2⟩
    · rw [h1, hf.full]
      exact hg.cut X T h2 hT
    · by_cases hX : X = []
      · subst hX
        simp only [List.append_nil, List.nil_append] at h1 h2
        have := hf.full []
        rw [h1] at this
        simp only [List.append_nil] at this
        rw [this]
        exact hg.cut [] T (by simpa using h2.symm) hT
      · rw [hf.cut R X h1 hX]; exact he _ _
theorem Cod.gN {w : Nat} {v : Int} (h0 : 0 ≤ v) (h1 : v < 2 ^ w) : Cod (gN w) (nb w v) v := by
  refine ⟨fun rest => ?_, fun R T h hT => ?_⟩
  · unfold Xb.gN
    simp only
    rw [if_neg (by simp [nb_len]), List.take_left' (nb_len w v), List.drop_left' (nb_len w v), num_nb w v h0 h1]
  · have hl := congrArg List.length h
    rw [nb_len, List.length_append] at hl
    have : 0 < T.length := List.length_pos_iff.2 hT
    unfold Xb.gN
    simp only
    rw [if_pos (by omega)]
theorem Ex.iff {α : Type} {f : RD α} {P Q : α → List Int → Prop} (h : Ex f P) (hq : ∀ a X, P a X ↔ Q a X) : Ex f Q :=
  ⟨h.err, fun a X q => h.cod a X ((hq a X).2 q), fun R a rest hb e => by
    obtain ⟨X, h1, h2⟩ := h.dec R a rest hb e
    exact ⟨X, h1, (hq a X).1 h2⟩⟩
theorem Ex.pr {α : Type} (a : α) : Ex (pr a) (fun b X => b = a ∧ X = []) :=
  ⟨.pr a, fun b X h => by rw [h.1, h.2]; exact .pr a, fun R b rest _ e => by cases e; exact ⟨[], rfl, rfl, rfl⟩⟩
theorem Ex.fail {α : Type} (a : α) : Ex (failS a) (fun _ _ => False) :=
  ⟨.fail a, fun _ _ h => h.elim, fun R b rest _ e => by cases e⟩
theorem Ex.bd {α β : Type} {f : RD α} {g : α → RD β} {P : α → List Int → Prop} {Q : α → β → List Int → Prop} (hf : Ex f P) (he : ∀ a, ErrP (g a)) (hg : ∀ a X, P a X → Ex (g a) (Q a)) :
    Ex (bdR f g) (fun b X => ∃ a X1 X2, P a X1 ∧ Q a b X2 ∧ X = X1 ++ X2) := by
  refine ⟨.bd hf.err he, fun b X h => ?_, fun R b rest hb e => ?_⟩
  · obtain ⟨a, X1, X2, h1, h2, rfl⟩ := h
    exact Cod.bd (hf.cod a X1 h1) ((hg a X1 h1).cod b X2 h2) he
  · change g (f (.ok R)).1 (f (.ok R)).2 = _ at e
    cases hr : (f (.ok R)).2 with
    | error x =>
      rw [hr] at e
      have := he (f (.ok R)).1 x
      rw [e] at this; cases this
    | ok S =>
      rw [hr] at e
      obtain ⟨X, h1, h2⟩ := hf.dec R (f (.ok R)).1 S hb (by rw [← hr])
      rw [h1] at hb
      obtain ⟨Y, q1, q2⟩ := (hg _ X h2).dec S b rest hb.right e
      exact ⟨X ++ Y, by rw [h1, q1, List.append_assoc], _, X, Y, h2, q2, rfl⟩
theorem Ex.gN (w : Nat) : Ex (gN w) (fun a X => (0 ≤ a ∧ a < 2 ^ w) ∧ X = nb w a) := by
  refine ⟨.gN w, fun a X h => by rw [h.2]; exact .gN h.1.1 h.1.2, fun R a rest hb e => ?_⟩
  have hbd := gN_bd (w := w) (s := .ok R) (fun R' h => by cases h; exact hb)
  rw [e] at hbd
  unfold Xb.gN at e
  simp only at e
  by_cases h : R.length < w
  · rw [if_pos h] at e; cases e
  · rw [if_neg h] at e
    cases e
    refine ⟨R.take w, (List.take_append_drop w R).symm, hbd, ?_⟩
    have := nb_num (hb.take w)
    rw [List.length_take, Nat.min_eq_left (by omega)] at this
    exact this.symm
theorem Ex.opt {α : Type} {b : Bool} {f : RD α} {z : α} {P : α → List Int → Prop} (he : ErrP f) (h : b = true → Ex f P) : Ex (opt b f z) (fun a X => if b then P a X else a = z ∧ X = []) := by
  unfold Xb.opt
  cases b with
  | true => exact (h rfl).iff fun _ _ => Iff.rfl
  | false => exact (Ex.pr z).iff fun _ _ => Iff.rfl
/-- functional: what it is, and its bits -/
def ExF {α : Type} (f : RD α) (P : α → Prop) (W : α → List Int) : Prop := Ex f (fun a X => P a ∧ X = W a)
theorem ExF.gone {α : Type} {f : RD α} {P : α → Prop} {W : α → List Int} (hf : ExF f P W) : ∀ n, ExF (goneS f n) (fun l => l.length = n ∧ ∀ a, a ∈ l → P a) (fun l => l.flatMap W)
  | 0 => by
    refine (Ex.pr ([] : List α)).iff fun l X => ⟨fun h => ?_, fun h => ?_⟩
    · obtain ⟨rfl, rfl⟩ := h; exact ⟨⟨rfl, fun _ h => absurd h List.not_mem_nil⟩, rfl⟩
    · obtain ⟨⟨h1, _⟩, h2⟩ := h
      have : l = [] := List.length_eq_zero_iff.1 h1
      subst this; exact ⟨rfl, h2⟩
  | n + 1 => by
    have ih := ExF.gone hf n
    have h := Ex.bd (Q := fun a b X => ∃ q X1 X2, ((List.length q = n ∧ ∀ x, x ∈ q → P x) ∧ X1 = q.flatMap W) ∧ (b = a :: q ∧ X2 = []) ∧ X = X1 ++ X2) hf (g := fun x => bdR (goneS f n) fun q => Xb.pr (x :: q)) (fun _ => .bd (.gone f n) fun _ => .pr _) (fun a X _ => Ex.bd ih (fun _ => .pr _) fun q _ _ => Ex.pr (a :: q))
    have key : Ex (bdR f fun x => bdR (goneS f n) fun q => Xb.pr (x :: q)) (fun l X => (l.length = n + 1 ∧ ∀ a, a ∈ l → P a) ∧ X = l.flatMap W) := by
      refine h.iff fun l X => ⟨?_, ?_⟩
      · rintro ⟨a, X1, X2, ⟨p1, rfl⟩, ⟨q, Y1, Y2, ⟨⟨q1, q2⟩, rfl⟩, ⟨rfl, rfl⟩, rfl⟩, rfl⟩
        refine ⟨⟨by simp [q1], fun x hx => ?_⟩, by simp⟩
        rcases List.mem_cons.1 hx with rfl | hx
        · exact p1
        · exact q2 x hx
      · rintro ⟨⟨h1, h2⟩, rfl⟩
        cases l with
        | nil => simp at h1
        | cons a q => exact ⟨a, W a, q.flatMap W, ⟨h2 a (by simp), rfl⟩, ⟨q, _, [], ⟨⟨by simpa using h1, fun x hx => h2 x (by simp [hx])⟩, rfl⟩, ⟨rfl, rfl⟩, by simp⟩, rfl⟩
    refine ⟨.gone f _, fun l X q => ?_, fun R l rest hb e => key.dec R l rest hb e⟩
    have c := key.cod l X q
    exact ⟨fun rest => c.full rest, fun R T h hT => c.cut R T h hT⟩
theorem nb_snoc (w : Nat) (v : Int) : nb (w + 1) v = nb w (v / 2) ++ nb 1 v := rfl

/-! a number of a range -/
def rgS (n : Nat) : RD Int := bdR (gN (bl n - 1)) fun a => if a < 2 ^ bl n - (n : Int) then pr a else bdR (gN 1) fun b => pr (2 * a + b - (2 ^ bl n - (n : Int)))
def rgW (n : Nat) (v : Int) : List Int := if v < 2 ^ bl n - (n : Int) then nb (bl n - 1) v else nb (bl n) (v + (2 ^ bl n - (n : Int)))
theorem ErrP.rg (n : Nat) : ErrP (rgS n) := .bd (.gN _) fun _ => .ite (.pr _) (.bd (.gN 1) fun _ => .pr _)
theorem bl_facts {n : Nat} (h : 1 ≤ n) : ∃ q : Nat, bl n = q + 1 ∧ (2 : Int) ^ q ≤ n ∧ (n : Int) < 2 ^ (q + 1) := by
  have h1 := bl_pos (n := n) (by omega)
  refine ⟨bl n - 1, by omega, ?_, ?_⟩
  · have := bl_le (n := n) (by omega)
    have : ((2 ^ (bl n - 1) : Nat) : Int) ≤ (n : Int) := by exact_mod_cast this
    simpa using this
  · have := bl_lt n
    have e : bl n - 1 + 1 = bl n := by omega
    rw [e]
    have : ((n : Nat) : Int) < ((2 ^ bl n : Nat) : Int) := by exact_mod_cast this
    simpa using this
theorem ExF.rg {n : Nat} (hn : 1 ≤ n) : ExF (rgS n) (fun v => 0 ≤ v ∧ v < n) (rgW n) := by
  obtain ⟨q, hq, h1, h2⟩ := bl_facts hn
  have e : (2 : Int) ^ (q + 1) = 2 ^ q * 2 := Int.pow_succ _ _
  unfold rgS ExF rgW
  rw [hq, Nat.add_sub_cancel]
  refine (Ex.bd (Q := fun a v X => if a < 2 ^ (q + 1) - (n : Int) then v = a ∧ X = [] else ∃ b X1 X2, ((0 ≤ b ∧ b < 2 ^ 1) ∧ X1 = nb 1 b) ∧ (v = 2 * a + b - (2 ^ (q + 1) - (n : Int)) ∧ X2 = []) ∧ X = X1 ++ X2) (.gN q) (fun _ => .ite (.pr _) (.bd (.gN 1) fun _ => .pr _)) (fun a X _ => ?_)).iff fun v X => ⟨?_, ?_⟩
  · split
    · rename_i h
      exact (Ex.pr a).iff fun _ _ => Iff.rfl
    · rename_i h
      exact (Ex.bd (.gN 1) (fun _ => .pr _) fun b _ _ => Ex.pr _).iff fun _ _ => Iff.rfl
  · rintro ⟨a, X1, X2, ⟨p1, rfl⟩, p2, rfl⟩
    by_cases h : a < 2 ^ (q + 1) - (n : Int)
    · rw [if_pos h] at p2
      obtain ⟨rfl, rfl⟩ := p2
      exact ⟨⟨p1.1, by omega⟩, by rw [if_pos h]; simp⟩
    · rw [if_neg h] at p2
      obtain ⟨b, Y1, Y2, ⟨b1, rfl⟩, ⟨rfl, rfl⟩, rfl⟩ := p2
      have b2 : b < 2 := b1.2
      refine ⟨⟨by omega, by omega⟩, ?_⟩
      rw [if_neg (by omega), nb_snoc q, List.append_nil]
      have e1 : (2 * a + b - (2 ^ (q + 1) - (n : Int)) + (2 ^ (q + 1) - (n : Int))) / 2 = a := by omega
      have e2 : nb 1 (2 * a + b - (2 ^ (q + 1) - (n : Int)) + (2 ^ (q + 1) - (n : Int))) = nb 1 b := by
        show [_ % 2] = [b % 2]
        congr 1; omega
      rw [e1, e2]
  · rintro ⟨⟨v0, v1⟩, rfl⟩
    by_cases h : v < 2 ^ (q + 1) - (n : Int)
    · rw [if_pos h]
      exact ⟨v, _, [], ⟨⟨v0, by omega⟩, rfl⟩, by rw [if_pos h]; exact ⟨rfl, rfl⟩, by simp⟩
    · rw [if_neg h, nb_snoc q]
      refine ⟨(v + (2 ^ (q + 1) - (n : Int))) / 2, _, _, ⟨⟨by omega, by omega⟩, rfl⟩, ?_, rfl⟩
      rw [if_neg (by omega)]
      refine ⟨(v + (2 ^ (q + 1) - (n : Int))) % 2, nb 1 (v + (2 ^ (q + 1) - (n : Int))), [], ⟨⟨by omega, by show _ < (2 : Int); omega⟩, ?_⟩, ⟨by omega, rfl⟩, by simp⟩
      show [_ % 2] = [_ % 2 % 2]
      congr 1; omega
theorem rgW_len {n : Nat} (hn : 1 ≤ n) (v : Int) : (rgW n v).length ≤ bl n := by
  unfold rgW; split <;> rw [nb_len] <;> omega
end Xb

namespace Xb
open Go

/-! layers -/
def inT (t : Int × Int) : Prop := (0 ≤ t.1 ∧ t.1 ≤ 3) ∧ 0 ≤ t.2 ∧ t.2 ≤ 7
def goodT (t : Int × Int) : Bool := decide (t.2 ≤ 7) && decide (t.1 ≤ 3)
def stepT (v : Int) (t : Int × Int) : Int × Int := if v = 1 then (t.1, t.2 + 1) else if v = 2 then (t.1 + 1, 0) else t
def laysS : Nat → Int × Int → RD (List (Int × Int))
  | 0, _ => bdR (gN 2) fun v => if v = 3 then pr [] else failS []
  | j + 1, t => bdR (gN 2) fun v => if v = 3 then pr [] else if goodT (stepT v t) = true then bdR (laysS j (stepT v t)) fun l => pr (stepT v t :: l) else failS []
def okStep (t t' : Int × Int) : Prop := t' = t ∨ (t' = (t.1, t.2 + 1) ∧ t.2 + 1 ≤ 7) ∨ (t' = (t.1 + 1, 0) ∧ t.1 + 1 ≤ 3)
def chainT : Int × Int → List (Int × Int) → Prop
  | _, [] => True
  | t, t' :: l => okStep t t' ∧ chainT t' l
def codeT (t t' : Int × Int) : Int := if t' = t then 0 else if t'.1 = t.1 then 1 else 2
def laysW : Int × Int → List (Int × Int) → List Int
  | _, [] => nb 2 3
  | t, t' :: l => nb 2 (codeT t t') ++ laysW t' l
theorem ErrP.lays : ∀ j t, ErrP (laysS j t)
  | 0, _ => .bd (.gN 2) fun _ => .ite (.pr _) (.fail _)
  | j + 1, t => .bd (.gN 2) fun _ => .ite (.pr _) (.ite (.bd (ErrP.lays j _) fun _ => .pr _) (.fail _))
theorem ne1 (t : Int × Int) : ((t.1, t.2 + 1) : Int × Int) ≠ t := fun h => by
  have : t.2 + 1 = t.2 := congrArg Prod.snd h
  omega
theorem ne2 (t : Int × Int) : ((t.1 + 1, 0) : Int × Int) ≠ t := fun h => by
  have : t.1 + 1 = t.1 := congrArg Prod.fst h
  omega
theorem ne3 (t : Int × Int) : ¬ t.1 + 1 = t.1 := by omega
theorem okStep.inT {t t' : Int × Int} (h : okStep t t') (ht : inT t) : inT t' := by
  obtain ⟨a, b⟩ := ht
  rcases h with rfl | ⟨rfl, h⟩ | ⟨rfl, h⟩
  · exact ⟨a, b⟩
  · exact ⟨a, by show 0 ≤ t.2 + 1; omega, h⟩
  · exact ⟨⟨by show 0 ≤ t.1 + 1; omega, h⟩, by show (0 : Int) ≤ 0; decide, by show (0 : Int) ≤ 7; decide⟩
theorem step_ok {t : Int × Int} (ht : inT t) {v : Int} (hg : goodT (stepT v t) = true) : okStep t (stepT v t) := by
  unfold goodT at hg
  simp only [Bool.and_eq_true, decide_eq_true_eq] at hg
  unfold stepT at hg ⊢
  split at hg
  · rename_i h; rw [if_pos h]; exact .inr (.inl ⟨rfl, hg.1⟩)
  · rename_i h
    rw [if_neg h]
    split at hg
    · rename_i h2; rw [if_pos h2]; exact .inr (.inr ⟨rfl, hg.2⟩)
    · rename_i h2; rw [if_neg h2]; exact .inl rfl
theorem step_code {t : Int × Int} {v : Int} (h0 : 0 ≤ v) (h1 : v < 3) : codeT t (stepT v t) = v := by
  unfold codeT stepT
  have : v = 0 ∨ v = 1 ∨ v = 2 := by omega
  rcases this with rfl | rfl | rfl
  · simp
  · simp [ne1]
  · simp [ne2, ne3]
theorem code_step {t t' : Int × Int} (h : okStep t t') : stepT (codeT t t') t = t' ∧ 0 ≤ codeT t t' ∧ codeT t t' < 3 := by
  rcases h with rfl | ⟨rfl, h⟩ | ⟨rfl, h⟩
  · simp [codeT, stepT]
  · simp [codeT, stepT, ne1]
  · simp [codeT, stepT, ne2, ne3]
theorem inT.good {t : Int × Int} (h : inT t) : goodT t = true := by
  obtain ⟨a, b⟩ := h
  unfold goodT; simp [a.2, b.2]
theorem ExF.lays : ∀ j t, inT t → ExF (laysS j t) (fun l => l.length ≤ j ∧ chainT t l) (laysW t)
  | 0, t, ht => by
    refine (Ex.bd (Q := fun v l X => if v = 3 then l = [] ∧ X = [] else False) (.gN 2) (fun _ => .ite (.pr _) (.fail _)) (fun v X _ => ?_)).iff fun l X => ⟨?_, ?_⟩
    · split
      · exact (Ex.pr ([] : List (Int × Int))).iff fun _ _ => Iff.rfl
      · exact (Ex.fail ([] : List (Int × Int))).iff fun _ _ => Iff.rfl
    · rintro ⟨v, X1, X2, ⟨_, rfl⟩, h, rfl⟩
      split at h
      · rename_i hv
        obtain ⟨rfl, rfl⟩ := h
        subst hv
        exact ⟨⟨by simp, trivial⟩, by simp [laysW]⟩
      · exact h.elim
    · rintro ⟨⟨h1, _⟩, rfl⟩
      have : l = [] := List.length_eq_zero_iff.1 (by omega)
      subst this
      exact ⟨3, _, [], ⟨by decide, rfl⟩, by rw [if_pos rfl]; exact ⟨rfl, rfl⟩, by simp [laysW]⟩
  | j + 1, t, ht => by
    refine (Ex.bd (Q := fun v l X => if v = 3 then l = [] ∧ X = [] else if goodT (stepT v t) = true then ∃ q X1 X2, ((List.length q ≤ j ∧ chainT (stepT v t) q) ∧ X1 = laysW (stepT v t) q) ∧ (l = stepT v t :: q ∧ X2 = []) ∧ X = X1 ++ X2 else False) (.gN 2) (fun _ => .ite (.pr _) (.ite (.bd (.lays j _) fun _ => .pr _) (.fail _))) (fun v X hv => ?_)).iff fun l X => ⟨?_, ?_⟩
    · split
      · exact (Ex.pr ([] : List (Int × Int))).iff fun _ _ => Iff.rfl
      · split
        · rename_i hg
          have hs := step_ok ht hg
          exact (Ex.bd (ExF.lays j (stepT v t) (hs.inT ht)) (fun _ => .pr _) fun q _ _ => Ex.pr (stepT v t :: q)).iff fun _ _ => Iff.rfl
        · exact (Ex.fail ([] : List (Int × Int))).iff fun _ _ => Iff.rfl
    · rintro ⟨v, X1, X2, ⟨⟨v0, v1⟩, rfl⟩, h, rfl⟩
      split at h
      · rename_i hv
        obtain ⟨rfl, rfl⟩ := h
        subst hv
        exact ⟨⟨by simp, trivial⟩, by simp [laysW]⟩
      · rename_i hv
        have v2 : v < 4 := v1
        split at h
        · rename_i hg
          obtain ⟨q, Y1, Y2, ⟨⟨q1, q2⟩, rfl⟩, ⟨rfl, rfl⟩, rfl⟩ := h
          refine ⟨⟨by simp; omega, step_ok ht hg, q2⟩, ?_⟩
          rw [laysW, step_code v0 (by omega)]; simp
        · exact h.elim
    · rintro ⟨⟨h1, h2⟩, rfl⟩
      cases l with
      | nil => exact ⟨3, _, [], ⟨by decide, rfl⟩, by rw [if_pos rfl]; exact ⟨rfl, rfl⟩, by simp [laysW]⟩
      | cons t' q =>
        obtain ⟨h3, h4⟩ := h2
        obtain ⟨c1, c2, c3⟩ := code_step h3
        refine ⟨codeT t t', _, laysW t' q, ⟨⟨c2, by show _ < (4 : Int); omega⟩, rfl⟩, ?_, rfl⟩
        rw [if_neg (by omega), c1, if_pos (h3.inT ht).good]
        exact ⟨q, _, [], ⟨⟨by simpa using h1, h4⟩, rfl⟩, ⟨rfl, rfl⟩, by simp⟩

/-! diffs -/
def difS : Nat → RD (List Int)
  | 0 => bdR (gN 1) fun b => if b = 1 then failS [] else pr []
  | j + 1 => bdR (gN 1) fun b => if b = 1 then bdR (gN 4) fun a => bdR (difS j) fun l => pr ((a + 1) :: l) else pr []
def difW (l : List Int) : List Int := l.flatMap (fun n => nb 1 1 ++ nb 4 (n - 1)) ++ nb 1 0
theorem ErrP.dif : ∀ j, ErrP (difS j)
  | 0 => .bd (.gN 1) fun _ => .ite (.fail _) (.pr _)
  | j + 1 => .bd (.gN 1) fun _ => .ite (.bd (.gN 4) fun _ => .bd (ErrP.dif j) fun _ => .pr _) (.pr _)
theorem ExF.dif : ∀ j, ExF (difS j) (fun l => l.length ≤ j ∧ ∀ n, n ∈ l → 1 ≤ n ∧ n ≤ 16) difW
  | 0 => by
    refine (Ex.bd (Q := fun b l X => if b = 1 then False else l = [] ∧ X = []) (.gN 1) (fun _ => .ite (.fail _) (.pr _)) (fun b X _ => ?_)).iff fun l X => ⟨?_, ?_⟩
    · split
      · exact (Ex.fail ([] : List Int)).iff fun _ _ => Iff.rfl
      · exact (Ex.pr ([] : List Int)).iff fun _ _ => Iff.rfl
    · rintro ⟨b, X1, X2, ⟨⟨b0, b1⟩, rfl⟩, h, rfl⟩
      have b2 : b < 2 := b1
      split at h
      · exact h.elim
      · obtain ⟨rfl, rfl⟩ := h
        have : b = 0 := by omega
        subst this
        exact ⟨⟨by simp, fun _ h => absurd h List.not_mem_nil⟩, by simp [difW]⟩
    · rintro ⟨⟨h1, _⟩, rfl⟩
      have : l = [] := List.length_eq_zero_iff.1 (by omega)
      subst this
      exact ⟨0, _, [], ⟨by decide, rfl⟩, by rw [if_neg (by decide)]; exact ⟨rfl, rfl⟩, by simp [difW]⟩
  | j + 1 => by
    refine (Ex.bd (Q := fun b l X => if b = 1 then ∃ a X1 X2, ((0 ≤ a ∧ a < 2 ^ 4) ∧ X1 = nb 4 a) ∧ (∃ q Y1 Y2, ((List.length q ≤ j ∧ ∀ n, n ∈ q → 1 ≤ n ∧ n ≤ 16) ∧ Y1 = difW q) ∧ (l = (a + 1) :: q ∧ Y2 = []) ∧ X2 = Y1 ++ Y2) ∧ X = X1 ++ X2 else l = [] ∧ X = []) (.gN 1) (fun _ => .ite (.bd (.gN 4) fun _ => .bd (.dif j) fun _ => .pr _) (.pr _)) (fun b X _ => ?_)).iff fun l X => ⟨?_, ?_⟩
    · split
      · exact (Ex.bd (.gN 4) (fun _ => .bd (.dif j) fun _ => .pr _) fun a _ _ => Ex.bd (ExF.dif j) (fun _ => .pr _) fun q _ _ => Ex.pr ((a + 1) :: q)).iff fun _ _ => Iff.rfl
      · exact (Ex.pr ([] : List Int)).iff fun _ _ => Iff.rfl
    · rintro ⟨b, X1, X2, ⟨⟨b0, b1⟩, rfl⟩, h, rfl⟩
      have b2 : b < 2 := b1
      split at h
      · rename_i hb
        obtain ⟨a, Y1, Y2, ⟨⟨a0, a1⟩, rfl⟩, ⟨q, Z1, Z2, ⟨⟨q1, q2⟩, rfl⟩, ⟨rfl, rfl⟩, rfl⟩, rfl⟩ := h
        have a2 : a < 16 := a1
        subst hb
        refine ⟨⟨by simp; omega, fun n hn => ?_⟩, ?_⟩
        · rcases List.mem_cons.1 hn with rfl | hn
          · omega
          · exact q2 n hn
        · simp [difW]
      · obtain ⟨rfl, rfl⟩ := h
        have : b = 0 := by omega
        subst this
        exact ⟨⟨by simp, fun _ h => absurd h List.not_mem_nil⟩, by simp [difW]⟩
    · rintro ⟨⟨h1, h2⟩, rfl⟩
      cases l with
      | nil => exact ⟨0, _, [], ⟨by decide, rfl⟩, by rw [if_neg (by decide)]; exact ⟨rfl, rfl⟩, by simp [difW]⟩
      | cons x q =>
        have hx := h2 x (by simp)
        refine ⟨1, _, _, ⟨by decide, rfl⟩, ?_, by rw [difW, List.flatMap_cons, List.append_assoc, List.append_assoc]⟩
        rw [if_pos rfl]
        exact ⟨x - 1, _, _, ⟨⟨by omega, by show _ < (16 : Int); omega⟩, rfl⟩, ⟨q, _, [], ⟨⟨by simpa using h1, fun n hn => h2 n (by simp [hn])⟩, rfl⟩, ⟨by rw [Int.sub_add_cancel], rfl⟩, by rw [List.append_nil]; rfl⟩, rfl⟩

/-! sizes -/
def szS : RD Size := bdR (gN 16) fun a => bdR (gN 16) fun b => pr ⟨a + 1, b + 1⟩
def szW (x : Size) : List Int := nb 16 (x.wide - 1) ++ nb 16 (x.high - 1)
def RightZ (x : Size) : Prop := (1 ≤ x.wide ∧ x.wide ≤ 65536) ∧ 1 ≤ x.high ∧ x.high ≤ 65536
theorem ErrP.sz : ErrP szS := .bd (.gN 16) fun _ => .bd (.gN 16) fun _ => .pr _
theorem ExF.sz : ExF szS RightZ szW := by
  refine (Ex.bd (.gN 16) (fun _ => .bd (.gN 16) fun _ => .pr _) fun a _ _ => Ex.bd (.gN 16) (fun _ => .pr _) fun b _ _ => Ex.pr (⟨a + 1, b + 1⟩ : Size)).iff fun z X => ⟨?_, ?_⟩
  · rintro ⟨a, X1, X2, ⟨⟨a0, a1⟩, e1⟩, ⟨b, Y1, Y2, ⟨⟨b0, b1⟩, e2⟩, ⟨e3, e4⟩, e5⟩, e6⟩
    have a2 : a < 65536 := by omega
    have b2 : b < 65536 := by omega
    rw [e6, e1, e5, e2, e4, e3]
    refine ⟨⟨⟨by show 1 ≤ a + 1; omega, by show a + 1 ≤ 65536; omega⟩, by show 1 ≤ b + 1; omega, by show b + 1 ≤ 65536; omega⟩, ?_⟩
    unfold szW
    simp only [Int.add_sub_cancel, List.append_nil]
  · rintro ⟨⟨⟨a, b⟩, c, d⟩, rfl⟩
    refine ⟨z.wide - 1, _, _, ⟨⟨by omega, by omega⟩, rfl⟩, ⟨z.high - 1, _, [], ⟨⟨by omega, by omega⟩, rfl⟩, ⟨?_, rfl⟩, by rw [List.append_nil]⟩, rfl⟩
    rw [Int.sub_add_cancel, Int.sub_add_cancel]

/-! the structure -/
def zipT : List (Int × Int) → List (List Int) → List (List Int) → List (List Int) → List Template
  | a :: l, m :: ms, d :: ds, c :: cs => ⟨a.1, a.2, m, d, c⟩ :: zipT l ms ds cs
  | _, _, _, _ => []
def stP (t : Template) : Int × Int := (t.sid, t.tid)
theorem zipT_of : ∀ l : List Template, zipT (l.map stP) (l.map (·.marks)) (l.map (·.diffs)) (l.map (·.chains)) = l
  | [] => rfl
  | t :: l => by simp only [List.map_cons, zipT, zipT_of l, stP]
theorem of_zipT : ∀ {a : List (Int × Int)} {m d c : List (List Int)}, m.length = a.length → d.length = a.length → c.length = a.length →
    (zipT a m d c).map stP = a ∧ (zipT a m d c).map (·.marks) = m ∧ (zipT a m d c).map (·.diffs) = d ∧ (zipT a m d c).map (·.chains) = c
  | [], [], [], [], _, _, _ => ⟨rfl, rfl, rfl, rfl⟩
  | x :: a, y :: m, z :: d, w :: c, h1, h2, h3 => by
    obtain ⟨q1, q2, q3, q4⟩ := of_zipT (a := a) (m := m) (d := d) (c := c) (by simpa using h1) (by simpa using h2) (by simpa using h3)
    simp only [zipT, List.map_cons, stP, q1, q2, q3, q4, and_self]
  | [], _ :: _, _, _, h, _, _ => by simp at h
  | [], [], _ :: _, _, _, h, _ => by simp at h
  | [], [], [], _ :: _, _, _, h => by simp at h
  | _ :: _, [], _, _, h, _, _ => by simp at h
  | _ :: _, _ :: _, [], _, _, h, _ => by simp at h
  | _ :: _, _ :: _, _ :: _, [], _, _, h => by simp at h
def chain0 : List (Int × Int) → Prop
  | [] => False
  | a :: r => a = (0, 0) ∧ chainT (0, 0) r
def lastS (l : List (Int × Int)) : Int := (l.getLast?.getD (0, 0)).1
def lsS : RD (List (Int × Int)) := bdR (laysS 63 (0, 0)) fun l => pr ((0, 0) :: l)
theorem ErrP.ls : ErrP lsS := .bd (.lays _ _) fun _ => .pr _
theorem ExF.ls : ExF lsS (fun l => l.length ≤ 64 ∧ chain0 l) (fun l => laysW (0, 0) l.tail) := by
  refine (Ex.bd (ExF.lays 63 (0, 0) (by unfold inT; decide)) (fun _ => .pr _) fun q _ _ => Ex.pr (((0, 0) : Int × Int) :: q)).iff fun l X => ⟨?_, ?_⟩
  · rintro ⟨q, X1, X2, ⟨⟨q1, q2⟩, rfl⟩, ⟨rfl, rfl⟩, rfl⟩
    exact ⟨⟨by simp; omega, rfl, q2⟩, by simp⟩
  · rintro ⟨⟨h1, h2⟩, rfl⟩
    cases l with
    | nil => exact h2.elim
    | cons a r =>
      obtain ⟨rfl, h3⟩ := h2
      exact ⟨r, _, [], ⟨⟨by simpa using h1, h3⟩, rfl⟩, ⟨rfl, rfl⟩, by simp⟩
theorem chainT.all : ∀ {l : List (Int × Int)} {t : Int × Int}, inT t → chainT t l → ∀ x, x ∈ l → inT x
  | [], _, _, _, x, hx => absurd hx List.not_mem_nil
  | a :: l, t, ht, h, x, hx => by
    have ha := h.1.inT ht
    rcases List.mem_cons.1 hx with rfl | hx
    · exact ha
    · exact chainT.all ha h.2 x hx
theorem chain0.all {l : List (Int × Int)} (h : chain0 l) : ∀ x, x ∈ l → inT x := by
  cases l with
  | nil => exact h.elim
  | cons a r =>
    obtain ⟨rfl, h2⟩ := h
    have h0 : inT (0, 0) := by unfold inT; decide
    intro x hx
    rcases List.mem_cons.1 hx with rfl | hx
    · exact h0
    · exact h2.all h0 x hx
theorem chain0.last {l : List (Int × Int)} (h : chain0 l) : 0 ≤ lastS l ∧ lastS l ≤ 3 := by
  unfold lastS
  cases hl : l.getLast? with
  | none => decide
  | some x => exact (h.all x (List.mem_of_getLast? hl)).1
def sizesS (n : Nat) (z : Int) : RD (List Size) := opt (decide (z ≠ 0)) (goneS szS n) []
def endS (id t : Int) (ls : List (Int × Int)) (ms ds : List (List Int)) (c : Int) (ps : List Int) : RD Structure :=
  bdR (goneS (goneS (gN 4) c.toNat) ls.length) fun cs => bdR (gN 1) fun z => bdR (sizesS (lastS ls + 1).toNat z) fun sz => pr ⟨id, t, c, ps, zipT ls ms ds cs, sz⟩
def midS (id t : Int) (ls : List (Int × Int)) (ms : List (List Int)) : RD Structure :=
  bdR (goneS (difS 16) ls.length) fun ds => bdR (rgS (t + 1).toNat) fun c => bdR (opt (decide (0 < c)) (goneS (rgS c.toNat) t.toNat) []) fun ps => endS id t ls ms ds c ps
def structS : RD Structure := bdR (gN 6) fun id => bdR (gN 5) fun t => bdR lsS fun ls => bdR (goneS (goneS (gN 2) (t + 1).toNat) ls.length) fun ms => midS id (t + 1) ls ms
structure RightM (s : Structure) (t : Template) : Prop where
  marks : (t.marks.length : Int) = s.targets ∧ ∀ n, n ∈ t.marks → 0 ≤ n ∧ n ≤ 3
  diffs : t.diffs.length ≤ 16 ∧ ∀ n, n ∈ t.diffs → 1 ≤ n ∧ n ≤ 16
  chains : (t.chains.length : Int) = s.chains ∧ ∀ n, n ∈ t.chains → 0 ≤ n ∧ n ≤ 15
structure RightT (s : Structure) : Prop where
  id : 0 ≤ s.id_ ∧ s.id_ ≤ 63
  targets : 1 ≤ s.targets ∧ s.targets ≤ 32
  chains : 0 ≤ s.chains ∧ s.chains ≤ s.targets
  protect : if 0 < s.chains then (s.protect.length : Int) = s.targets ∧ ∀ n, n ∈ s.protect → 0 ≤ n ∧ n < s.chains else s.protect = []
  len : s.templates.length ≤ 64
  lays : chain0 (s.templates.map stP)
  all : ∀ t, t ∈ s.templates → RightM s t
  sizes : (∀ x, x ∈ s.sizes → RightZ x) ∧ (s.sizes = [] ∨ (s.sizes.length : Int) = lastS (s.templates.map stP) + 1)
def stW (s : Structure) : List Int :=
  nb 6 s.id_ ++ (nb 5 (s.targets - 1) ++ (laysW (0, 0) (s.templates.map stP).tail ++ ((s.templates.map (·.marks)).flatMap (fun m => m.flatMap (nb 2)) ++ ((s.templates.map (·.diffs)).flatMap difW ++
    (rgW (s.targets + 1).toNat s.chains ++ ((if 0 < s.chains then s.protect.flatMap (rgW s.chains.toNat) else []) ++ ((s.templates.map (·.chains)).flatMap (fun m => m.flatMap (nb 4)) ++
      (nb 1 (if s.sizes = [] then 0 else 1) ++ s.sizes.flatMap szW))))))))
theorem ErrP.endS {id t : Int} {ls : List (Int × Int)} {ms ds : List (List Int)} {c : Int} {ps : List Int} : ErrP (endS id t ls ms ds c ps) :=
  .bd (.gone _ _) fun _ => .bd (.gN 1) fun _ => .bd (.opt (.gone _ _)) fun _ => .pr _
theorem ErrP.midS {id t : Int} {ls : List (Int × Int)} {ms : List (List Int)} : ErrP (midS id t ls ms) :=
  .bd (.gone _ _) fun _ => .bd (.rg _) fun _ => .bd (.opt (.gone _ _)) fun _ => .endS
theorem ErrP.structS : ErrP structS := .bd (.gN 6) fun _ => .bd (.gN 5) fun _ => .bd .ls fun _ => .bd (.gone _ _) fun _ => .midS
theorem Ex.endS {id t : Int} {ls : List (Int × Int)} {ms ds : List (List Int)} {c : Int} {ps : List Int} : Ex (endS id t ls ms ds c ps) (fun s X => ∃ cs sz, (cs.length = ls.length ∧ ∀ m, m ∈ cs → m.length = c.toNat ∧ ∀ n, n ∈ m → 0 ≤ n ∧ n ≤ 15) ∧
    ((∀ x, x ∈ sz → RightZ x) ∧ (sz = [] ∨ sz.length = (lastS ls + 1).toNat)) ∧ ((lastS ls + 1).toNat ≠ 0 → True) ∧ (sz = [] → True) ∧ s = ⟨id, t, c, ps, zipT ls ms ds cs, sz⟩ ∧
    ∃ z : Int, (z = 0 ∧ sz = [] ∨ z = 1 ∧ sz.length = (lastS ls + 1).toNat) ∧ X = cs.flatMap (fun m => m.flatMap (nb 4)) ++ (nb 1 z ++ sz.flatMap szW)) := by
  have g4 : ExF (Xb.gN 4) (fun n => 0 ≤ n ∧ n < 2 ^ 4) (nb 4) := .gN 4
  refine (Ex.bd ((g4.gone c.toNat).gone ls.length) (fun _ => .bd (.gN 1) fun _ => .bd (.opt (.gone _ _)) fun _ => .pr _) fun cs _ _ => Ex.bd (.gN 1) (fun _ => .bd (.opt (.gone _ _)) fun _ => .pr _) fun z _ _ => Ex.bd (Ex.opt (.gone _ _) fun _ => ExF.sz.gone _) (fun _ => .pr _) fun sz _ _ => Ex.pr (⟨id, t, c, ps, zipT ls ms ds cs, sz⟩ : Structure)).iff fun s X => ⟨?_, ?_⟩
  · rintro ⟨cs, X1, X2, ⟨⟨c1, c2⟩, rfl⟩, ⟨z, Y1, Y2, ⟨⟨z0, z1⟩, rfl⟩, ⟨sz, Z1, Z2, h, ⟨rfl, rfl⟩, rfl⟩, rfl⟩, rfl⟩
    have z2 : z < 2 := z1
    refine ⟨cs, sz, ⟨c1, fun m hm => ⟨(c2 m hm).1, fun n hn => by have := (c2 m hm).2 n hn; have h2 : n < 16 := this.2; omega⟩⟩, ?_, fun _ => trivial, fun _ => trivial, rfl, ?_⟩
    · split at h
      · exact ⟨h.1.2, .inr h.1.1⟩
      · rw [h.1]; exact ⟨fun _ h => absurd h List.not_mem_nil, .inl rfl⟩
    · split at h
      · rename_i hz
        simp only [decide_eq_true_eq] at hz
        obtain ⟨⟨s1, s2⟩, rfl⟩ := h
        exact ⟨z, .inr ⟨by omega, s1⟩, by simp⟩
      · rename_i hz
        simp only [decide_eq_true_eq, Classical.not_not] at hz
        obtain ⟨rfl, rfl⟩ := h
        exact ⟨z, .inl ⟨hz, rfl⟩, by simp⟩
  · rintro ⟨cs, sz, ⟨c1, c2⟩, ⟨s1, s2⟩, _, _, rfl, z, hz, rfl⟩
    refine ⟨cs, _, _, ⟨⟨c1, fun m hm => ⟨(c2 m hm).1, fun n hn => ⟨((c2 m hm).2 n hn).1, by have := ((c2 m hm).2 n hn).2; show n < (16 : Int); omega⟩⟩⟩, rfl⟩, ⟨z, _, _, ⟨⟨by omega, by show z < (2 : Int); omega⟩, rfl⟩, ⟨sz, _, [], ?_, ⟨rfl, rfl⟩, by rw [List.append_nil]⟩, rfl⟩, rfl⟩
    rcases hz with ⟨rfl, rfl⟩ | ⟨rfl, h⟩
    · rw [if_neg (by decide)]; exact ⟨rfl, rfl⟩
    · rw [if_pos (by decide)]; exact ⟨⟨h, s1⟩, rfl⟩
theorem ExF.struct : ExF structS RightT stW := by
  have g2 : ExF (Xb.gN 2) (fun n => 0 ≤ n ∧ n < 2 ^ 2) (nb 2) := .gN 2
  refine (Ex.bd (.gN 6) (fun _ => .bd (.gN 5) fun _ => .bd .ls fun _ => .bd (.gone _ _) fun _ => .midS) fun id _ hid => Ex.bd (.gN 5) (fun _ => .bd .ls fun _ => .bd (.gone _ _) fun _ => .midS) fun t _ ht => Ex.bd ExF.ls (fun _ => .bd (.gone _ _) fun _ => .midS) fun ls _ hls =>
    Ex.bd ((g2.gone (t + 1).toNat).gone ls.length) (fun _ => .midS) fun ms _ hms =>
      Ex.bd ((ExF.dif 16).gone ls.length) (fun _ => .bd (.rg _) fun _ => .bd (.opt (.gone _ _)) fun _ => .endS) fun ds _ hds => Ex.bd (ExF.rg (n := (t + 1 + 1).toNat) (by have := ht.1.1; omega)) (fun _ => .bd (.opt (.gone _ _)) fun _ => .endS) fun c _ hc =>
        Ex.bd (Ex.opt (.gone _ _) fun hpos => (ExF.rg (n := c.toNat) (by have := of_decide_eq_true hpos; omega)).gone (t + 1).toNat) (fun _ => .endS) fun ps _ hps => Ex.endS).iff fun s X => ⟨?_, ?_⟩
  · rintro ⟨id, X1, _, ⟨⟨i0, i1⟩, rfl⟩, ⟨t, X2, _, ⟨⟨t0, t1⟩, rfl⟩, ⟨ls, X3, _, ⟨⟨l1, l2⟩, rfl⟩, ⟨ms, X4, _, ⟨⟨m1, m2⟩, rfl⟩, ⟨ds, X5, _, ⟨⟨d1, d2⟩, rfl⟩, ⟨c, X6, _, ⟨⟨c0, c1⟩, rfl⟩, ⟨ps, X7, X8, hp, ⟨cs, sz, ⟨cs1, cs2⟩, ⟨s1, s2⟩, _, _, rfl, z, hz, rfl⟩, rfl⟩, rfl⟩, rfl⟩, rfl⟩, rfl⟩, rfl⟩, rfl⟩
    have i2 : id < 64 := i1
    have t2 : t < 32 := t1
    obtain ⟨q1, q2, q3, q4⟩ := of_zipT (a := ls) (m := ms) (d := ds) (c := cs) m1 d1 cs1
    have hl := l2.last
    refine ⟨⟨⟨i0, by show id ≤ 63; omega⟩, ⟨by show 1 ≤ t + 1; omega, by show t + 1 ≤ 32; omega⟩, ⟨c0, by show c ≤ t + 1; omega⟩, ?_, ?_, ?_, ?_, ?_⟩, ?_⟩
    · show if 0 < c then (ps.length : Int) = t + 1 ∧ ∀ n, n ∈ ps → 0 ≤ n ∧ n < c else ps = []
      split at hp
      · rename_i h
        rw [if_pos (of_decide_eq_true h)]
        have := of_decide_eq_true h
        exact ⟨by omega, fun n hn => ⟨(hp.1.2 n hn).1, by have := (hp.1.2 n hn).2; omega⟩⟩
      · rename_i h
        rw [if_neg (by simpa using h)]; exact hp.1
    · have := congrArg List.length q1
      rw [List.length_map] at this
      show (zipT ls ms ds cs).length ≤ 64
      omega
    · show chain0 ((zipT ls ms ds cs).map stP)
      rw [q1]; exact l2
    · intro tm htm
      have hm := m2 tm.marks (by rw [← q2]; exact List.mem_map_of_mem htm)
      have hd := d2 tm.diffs (by rw [← q3]; exact List.mem_map_of_mem htm)
      have hc := cs2 tm.chains (by rw [← q4]; exact List.mem_map_of_mem htm)
      refine ⟨⟨by show (tm.marks.length : Int) = t + 1; omega, fun n hn => ?_⟩, hd, ⟨by show (tm.chains.length : Int) = c; omega, hc.2⟩⟩
      have := hm.2 n hn
      have h3 : n < 4 := this.2
      omega
    · show (∀ x, x ∈ sz → RightZ x) ∧ (sz = [] ∨ (sz.length : Int) = lastS ((zipT ls ms ds cs).map stP) + 1)
      rw [q1]
      exact ⟨s1, s2.imp (fun h => h) fun h => by omega⟩
    · unfold stW
      simp only
      rw [q1, q2, q3, q4]
      have e1 : t + 1 - 1 = t := by omega
      rw [e1]
      have e2 : (if sz = [] then (0 : Int) else 1) = z := by
        rcases hz with ⟨rfl, rfl⟩ | ⟨rfl, h⟩
        · rfl
        · rw [if_neg (fun e => by rw [e] at h; simp at h; omega)]
      rw [e2]
      have e3 : X7 = if 0 < c then ps.flatMap (rgW c.toNat) else [] := by
        split at hp
        · rename_i h; rw [if_pos (of_decide_eq_true h)]; exact hp.2
        · rename_i h; rw [if_neg (by simpa using h)]; exact hp.2
      rw [e3]
  · rintro ⟨⟨h1, h2, h3, h4, h5, h6, h7, h8⟩, rfl⟩
    have hl := h6.last
    refine ⟨s.id_, _, _, ⟨⟨h1.1, by show _ < (64 : Int); omega⟩, rfl⟩, ⟨s.targets - 1, _, _, ⟨⟨by omega, by show _ < (32 : Int); omega⟩, rfl⟩, ⟨s.templates.map stP, _, _, ⟨⟨by rw [List.length_map]; exact h5, h6⟩, rfl⟩, ⟨s.templates.map (·.marks), _, _, ⟨⟨by simp, fun m hm => ?_⟩, rfl⟩,
      ⟨s.templates.map (·.diffs), _, _, ⟨⟨by simp, fun m hm => ?_⟩, rfl⟩, ⟨s.chains, _, _, ⟨⟨h3.1, by omega⟩, rfl⟩, ⟨s.protect, if 0 < s.chains then s.protect.flatMap (rgW s.chains.toNat) else [], _, ?_, ⟨s.templates.map (·.chains), s.sizes, ⟨by simp, fun m hm => ?_⟩, ⟨h8.1, h8.2.imp (fun h => h) fun h => by omega⟩, fun _ => trivial, fun _ => trivial, ?_, if s.sizes = [] then 0 else 1, ?_, rfl⟩, rfl⟩, ?_⟩, rfl⟩, rfl⟩, rfl⟩, rfl⟩, rfl⟩
    · obtain ⟨tm, htm, rfl⟩ := List.mem_map.1 hm
      have := (h7 tm htm).marks
      exact ⟨by omega, fun n hn => ⟨(this.2 n hn).1, by have := (this.2 n hn).2; show n < (4 : Int); omega⟩⟩
    · obtain ⟨tm, htm, rfl⟩ := List.mem_map.1 hm
      exact (h7 tm htm).diffs
    · split at h4
      · rename_i h
        rw [if_pos (decide_eq_true h), if_pos h]
        exact ⟨⟨by omega, fun n hn => ⟨(h4.2 n hn).1, by have := (h4.2 n hn).2; omega⟩⟩, rfl⟩
      · rename_i h
        rw [if_neg (by simpa using h), if_neg h]
        exact ⟨h4, rfl⟩
    · obtain ⟨tm, htm, rfl⟩ := List.mem_map.1 hm
      have := (h7 tm htm).chains
      exact ⟨by omega, this.2⟩
    · rw [zipT_of, Int.sub_add_cancel]
    · rcases h8.2 with h | h
      · left; rw [if_pos h]; exact ⟨rfl, h⟩
      · right
        rw [if_neg (fun e => by rw [e] at h; simp at h; omega)]
        exact ⟨rfl, by omega⟩
    · rw [Int.sub_add_cancel]
end Xb

namespace Xb
open Go

/-! the program reads so -/
theorem Rep.bin {B : List Int} {c : GBits} {s : RS} (h : Rep B c s) : ∀ R, s = .ok R → bin R := fun R e => by
  subst e
  obtain ⟨_, _, _, _, h5⟩ := h
  rw [h5]; exact (bitsOf_bin B).drop _
/-- told right, or an error -/
def Tell {α : Type} (B : List Int) (a : α) (c : GBits) (x : α × RS) : Prop := Rep B c x.2 ∧ ∀ R, x.2 = .ok R → a = x.1
theorem ok_bd {α β : Type} {f : RD α} {g : α → RD β} {s : RS} {R : List Int} (he : ∀ a, ErrP (g a)) (h : (bdR f g s).2 = .ok R) : ∃ S, (f s).2 = .ok S := by
  cases hf : (f s).2 with
  | ok S => exact ⟨S, rfl⟩
  | error e =>
    exfalso
    change (g (f s).1 (f s).2).2 = _ at h
    rw [hf, he] at h; cases h
theorem numR {B : List Int} (hB : By B) {w : Nat} {wi : Int} (hw : wi = w) (h : w ≤ 62) {c : GBits} {s : RS} (hr : Rep B c s) :
    ∃ c', templ_eye_num_y1 none wi ⟨c⟩ = some ((gN w s).1, ⟨c'⟩) ∧ Rep B c' (gN w s).2 ∧ 0 ≤ (gN w s).1 ∧ (gN w s).1 < 2 ^ w := by
  subst hw
  obtain ⟨c', h1, h2⟩ := get_rep hB hr (w := w) (by omega)
  have hb := gN_bd (w := w) hr.bin
  have hp := pow_le64 (n := w + 1) (by omega)
  have e : (2 : Int) ^ (w + 1) = 2 ^ w * 2 := Int.pow_succ _ _
  refine ⟨c', ?_, h2, hb⟩
  unfold templ_eye_num_y1
  show Option.bind (bits_Get none c (w : Int)) _ = _
  rw [bnd h1]
  simp only
  rw [w_i64 (by omega) (by omega)]
/-- the reader as it is handed in -/
def RepX (B : List Int) (c : GBits) (s : RS) : Prop := Rep B c s ∨ (c.bytes = B ∧ c.err = 0 ∧ okG c = false ∧ s = .error 1)
theorem numX {B : List Int} (hB : By B) {w : Nat} {wi : Int} (hw : wi = w) (h : w ≤ 62) {c : GBits} {s : RS} (hr : RepX B c s) :
    ∃ c', templ_eye_num_y1 none wi ⟨c⟩ = some ((gN w s).1, ⟨c'⟩) ∧ Rep B c' (gN w s).2 ∧ 0 ≤ (gN w s).1 ∧ (gN w s).1 < 2 ^ w := by
  rcases hr with hr | ⟨h1, h2, h3, rfl⟩
  · exact numR hB hw h hr
  · subst hw
    have hp : (0 : Int) < 2 ^ w := Int.pow_pos (by omega)
    refine ⟨{ c with err := 1 }, ?_, ⟨h1, rfl, by decide⟩, Int.le_refl _, hp⟩
    unfold templ_eye_num_y1
    show Option.bind (bits_Get none c (w : Int)) _ = _
    rw [bnd (bits_Get_eq (by rw [h1]; exact hB) _)]
    have : getG c (w : Int) = ({ c with err := 1 }, 0) := by unfold getG failG; rw [if_pos (.inl h3), if_pos h2]
    rw [this]; rfl
theorem rangeR {B : List Int} (hB : By B) {n : Nat} (h1 : 1 ≤ n) (h2 : n ≤ 1000) {c : GBits} {s : RS} (hr : Rep B c s) :
    ∃ a c', templ_eye_ranged_y1 none (n : Int) ⟨c⟩ = some (a, ⟨c'⟩) ∧ Tell B a c' (rgS n s) ∧ 0 ≤ a ∧ a < n := by
  have hc : By c.bytes := by rw [hr.by_]; exact hB
  obtain ⟨q, hq, q1, q2⟩ := bl_facts h1
  have e2 : (2 : Int) ^ (q + 1) = 2 ^ q * 2 := Int.pow_succ _ _
  unfold templ_eye_ranged_y1
  rw [w_u64 (by omega) (by omega)]
  show ∃ a c', Option.bind (bits_Range none c n) _ = _ ∧ _
  rw [bnd (bits_Range_eq hc _)]
  have hw0 : IntKind.i64.wrap 0 = 0 := w_i64 (by decide) (by decide)
  cases s with
  | error e =>
    obtain ⟨g1, g2, g3⟩ := hr
    have ho : okG c = false := by unfold okG; rw [decide_eq_false (by omega)]; rfl
    have : rangeG c n = (c, 0) := by unfold rangeG failG; rw [if_pos (.inl ho), if_neg (by omega)]
    rw [this]
    exact ⟨0, c, by simp only; rw [hw0], ⟨by rw [ErrP.rg]; exact ⟨g1, g2, g3⟩, fun R h => by rw [ErrP.rg] at h; cases h⟩, by omega, by omega⟩
  | ok R =>
    have hbin := hr.bin R rfl
    obtain ⟨g1, g2, g3, g4, g5⟩ := hr
    have ho : okG c = true := by
      unfold okG; rw [g1, decide_eq_true g2, decide_eq_true g3, decide_eq_true g4]; rfl
    have hlen : R.length = 8 * B.length - c.at_.toNat := by rw [g5, List.length_drop, bitsOf_len]
    unfold rangeG rgS
    rw [if_neg (by rw [ho]; simp; omega), Int.toNat_natCast, hq, Nat.add_sub_cancel, g1]
    have g2s : ∀ w : Nat, Xb.gN w (.ok R) = if R.length < w then (0, .error 2) else (num (R.take w), .ok (R.drop w)) := fun _ => rfl
    have ap : ∀ (f : RD Int) (g : Int → RD Int) (s : RS), bdR f g s = g (f s).1 (f s).2 := fun _ _ _ => rfl
    rw [ap, g2s]
    simp only
    by_cases hs : R.length < q
    · rw [if_pos (by omega), if_pos hs]
      have : (0 : Int) < 2 ^ (q + 1) - (n : Int) := by omega
      simp only
      rw [if_pos this]
      unfold failG
      rw [if_pos g2]
      exact ⟨0, { c with err := 2 }, by simp only; rw [hw0], ⟨⟨g1, rfl, by decide⟩, fun R h => by cases h⟩, by omega, by omega⟩
    · rw [if_neg (by omega), if_neg hs]
      have hv : vl B c.at_.toNat q = num (R.take q) := by rw [vl_num (by omega), g5]
      have hnb := num_bd (hbin.take q)
      rw [List.length_take, Nat.min_eq_left (by omega)] at hnb
      rw [hv]
      simp only
      by_cases hk : num (R.take q) < 2 ^ (q + 1) - (n : Int)
      · rw [if_pos hk, if_pos hk]
        refine ⟨num (R.take q), ⟨B, c.at_ + q, c.err⟩, by simp only; rw [w_i64 (by omega) (by omega)], ⟨⟨rfl, g2, by show (0 : Int) ≤ c.at_ + q; omega, by show c.at_ + q ≤ (8 * B.length : Int); omega, ?_⟩, fun R h => rfl⟩, by omega, by omega⟩
        show R.drop q = _
        rw [g5, List.drop_drop]
        congr 1
        show _ = (c.at_ + (q : Int)).toNat
        omega
      · rw [if_neg hk, if_neg hk]
        have g2t : Xb.gN 1 (.ok (R.drop q)) = if (R.drop q).length < 1 then (0, .error 2) else (num ((R.drop q).take 1), .ok ((R.drop q).drop 1)) := rfl
        rw [ap, g2t, List.length_drop]
        by_cases hs2 : R.length < q + 1
        · rw [if_pos (by omega), if_pos (by omega)]
          unfold failG
          rw [if_pos g2]
          exact ⟨0, { c with err := 2 }, by simp only; rw [hw0], ⟨⟨g1, rfl, by decide⟩, fun R h => by cases h⟩, by omega, by omega⟩
        · rw [if_neg (by omega), if_neg (by omega)]
          have hd : (R.drop q).take 1 = [R[q]'(by omega)] := by
            rw [List.drop_eq_getElem_cons (show q < R.length by omega)]; rfl
          have hv2 : vl B c.at_.toNat (q + 1) = 2 * num (R.take q) + num ((R.drop q).take 1) := by
            rw [vl_num (by omega), ← g5, List.take_add_one, List.getElem?_eq_getElem (by omega), hd]
            show num (R.take q ++ [R[q]]) = 2 * num (R.take q) + num ([] ++ [R[q]])
            rw [num_snoc, num_snoc]
            have : num ([] : List Int) = 0 := rfl
            omega
          have hnb2 := num_bd ((hbin.drop q).take 1)
          have hl1 : ((R.drop q).take 1).length = 1 := by rw [hd]; rfl
          rw [hl1] at hnb2
          have hb2 : num ((R.drop q).take 1) < 2 := hnb2.2
          rw [hv2]
          refine ⟨2 * num (R.take q) + num ((R.drop q).take 1) - (2 ^ (q + 1) - (n : Int)), ⟨B, c.at_ + (q + 1), c.err⟩, by simp only; rw [w_i64 (by omega) (by omega)], ⟨⟨rfl, g2, by show (0 : Int) ≤ c.at_ + (q + 1); omega, by show c.at_ + (q + 1) ≤ (8 * B.length : Int); omega, ?_⟩, fun R h => rfl⟩, by omega, by omega⟩
          show (R.drop q).drop 1 = _
          rw [g5, List.drop_drop, List.drop_drop]
          congr 1
          show _ = (c.at_ + ((q : Int) + 1)).toNat
          omega

theorem fine_err {B : List Int} {c : GBits} {e : Int} (h : Rep B c (.error e)) : templ_eye_fine_p ⟨c⟩ = false := by
  obtain ⟨_, h1, h2⟩ := h
  unfold templ_eye_fine_p
  rw [cm_eql]; simp [h1, h2]
theorem fine_ok {B : List Int} {c : GBits} {R : List Int} (h : Rep B c (.ok R)) : templ_eye_fine_p ⟨c⟩ = true := by
  have := h.at_ok.2
  unfold templ_eye_fine_p
  rw [cm_eql]; simp [this]
theorem needR {B : List Int} {c : GBits} {s : RS} (h : Rep B c s) (ok : Bool) : ∃ c', templ_eye_need_y1 none ok ⟨c⟩ = some ⟨c'⟩ ∧ Rep B c' (if ok then s else badS s) := by
  unfold templ_eye_need_y1
  cases s with
  | error e =>
    rw [fine_err h]
    refine ⟨c, by rw [if_neg (by simp)], ?_⟩
    cases ok <;> exact h
  | ok R =>
    rw [fine_ok h]
    cases ok with
    | true => exact ⟨c, by rw [if_neg (by simp)], h⟩
    | false => exact ⟨{ c with err := 6 }, by rw [if_pos (by simp)], h.by_, rfl, by decide⟩
theorem some_loop {α : Type} {B : List Int} {f : RD α} {many : Int} {step : List α × Int × templ_eye → Option ((List α × Int × templ_eye) ⊕ (List α × templ_eye))}
    (h1 : ∀ out i c, ¬ i < many → step (out, i, ⟨c⟩) = some (.inr (out, ⟨c⟩)))
    (h2 : ∀ out i c e, i < many → Rep B c (.error e) → step (out, i, ⟨c⟩) = some (.inr (out, ⟨c⟩)))
    (h3 : ∀ out i c R, 0 ≤ i → i < many → i ≤ 1000 → out.length ≤ 1000 → Rep B c (.ok R) → ∃ a c', step (out, i, ⟨c⟩) = some (.inl (out ++ [a], i + 1, ⟨c'⟩)) ∧ Tell B a c' (f (.ok R))) :
    ∀ (n : Nat) (out : List α) (i : Int) (c : GBits) (s : RS), i + n = many → 0 ≤ i → i + n ≤ 1000 → out.length + n ≤ 1000 → Rep B c s →
      ∃ l c', loopG none step (out, i, ⟨c⟩) = some (out ++ l, ⟨c'⟩) ∧ Tell B l c' (goneS f n s)
  | 0, out, i, c, s, hm, _, _, _, hr => ⟨[], c, by rw [loop_inr (h1 out i c (by omega))]; simp, hr, fun R h => rfl⟩
  | n + 1, out, i, c, .error e, hm, _, _, _, hr => ⟨[], c, by rw [loop_inr (h2 out i c e (by omega) hr)]; simp, hr, fun R h => by cases h⟩
  | n + 1, out, i, c, .ok R, hm, h0, hi, ho, hr => by
    obtain ⟨a, c', q1, q2, q3⟩ := h3 out i c R h0 (by omega) (by omega) (by omega) hr
    rw [loop_inl q1]
    obtain ⟨l, c2, r1, r2, r3⟩ := some_loop h1 h2 h3 n (out ++ [a]) (i + 1) c' _ (by omega) (by omega) (by omega) (by simp; omega) q2
    refine ⟨a :: l, c2, by rw [r1]; simp, r2, fun S hS => ?_⟩
    change (goneS f n (f (.ok R)).2).2 = _ at hS
    cases hz : (f (.ok R)).2 with
    | error e => rw [hz, ErrP.gone] at hS; cases hS
    | ok T => rw [r3 S hS, q3 T hz]; rfl
theorem marksR {B : List Int} (hB : By B) {many : Int} (hm : 0 ≤ many ∧ many ≤ 100) {c : GBits} {s : RS} (hr : Rep B c s) :
    ∃ l c', templ_eye_some_y2 none many ⟨c⟩ = some (l, ⟨c'⟩) ∧ Tell B l c' (goneS (gN 2) many.toNat s) := by
  unfold templ_eye_some_y2 templ_eye_some_y2_l1
  have := some_loop (B := B) (f := gN 2) (many := many) (step := fun (s : List Int × Int × templ_eye) => templ_eye_some_y2_s1 none many s.1 s.2.1 s.2.2)
    (fun out i c h => by
      show templ_eye_some_y2_s1 none many out i ⟨c⟩ = _
      unfold templ_eye_some_y2_s1
      rw [if_neg (by rw [cm_lss]; simp; omega)]; rfl)
    (fun out i c e h hr => by
      show templ_eye_some_y2_s1 none many out i ⟨c⟩ = _
      unfold templ_eye_some_y2_s1
      rw [if_neg (by rw [fine_err hr]; simp)]; rfl)
    (fun out i c R h0 h h1 ho hr => by
      obtain ⟨c', q1, q2, _⟩ := numR hB (w := 2) (wi := 2) rfl (by decide) hr
      refine ⟨_, c', ?_, q2, fun _ _ => rfl⟩
      show templ_eye_some_y2_s1 none many out i ⟨c⟩ = _
      unfold templ_eye_some_y2_s1 templ_eye_read_1_y1
      rw [if_pos (by rw [fine_ok hr, cm_lss]; simpa using h), bnd (show Option.bind (templ_eye_num_y1 none 2 ⟨c⟩) _ = some ((gN 2 (.ok R)).1, ⟨c'⟩) by rw [bnd q1]), bnd (app_some (by simp; omega)), ar_add, w_i64 (by omega) (by omega)])
    many.toNat [] 0 c s (by omega) (by omega) (by omega) (by simp; omega) hr
  simpa using this
theorem chainsR {B : List Int} (hB : By B) {many : Int} (hm : 0 ≤ many ∧ many ≤ 100) {c : GBits} {s : RS} (hr : Rep B c s) :
    ∃ l c', templ_eye_some_y4 none many ⟨c⟩ = some (l, ⟨c'⟩) ∧ Tell B l c' (goneS (gN 4) many.toNat s) := by
  unfold templ_eye_some_y4 templ_eye_some_y4_l1
  have := some_loop (B := B) (f := gN 4) (many := many) (step := fun (s : List Int × Int × templ_eye) => templ_eye_some_y4_s1 none many s.1 s.2.1 s.2.2)
    (fun out i c h => by
      show templ_eye_some_y4_s1 none many out i ⟨c⟩ = _
      unfold templ_eye_some_y4_s1
      rw [if_neg (by rw [cm_lss]; simp; omega)]; rfl)
    (fun out i c e h hr => by
      show templ_eye_some_y4_s1 none many out i ⟨c⟩ = _
      unfold templ_eye_some_y4_s1
      rw [if_neg (by rw [fine_err hr]; simp)]; rfl)
    (fun out i c R h0 h h1 ho hr => by
      obtain ⟨c', q1, q2, _⟩ := numR hB (w := 4) (wi := 4) rfl (by decide) hr
      refine ⟨_, c', ?_, q2, fun _ _ => rfl⟩
      show templ_eye_some_y4_s1 none many out i ⟨c⟩ = _
      unfold templ_eye_some_y4_s1 templ_eye_read_3_y1
      rw [if_pos (by rw [fine_ok hr, cm_lss]; simpa using h), bnd (show Option.bind (templ_eye_num_y1 none 4 ⟨c⟩) _ = some ((gN 4 (.ok R)).1, ⟨c'⟩) by rw [bnd q1]), bnd (app_some (by simp; omega)), ar_add, w_i64 (by omega) (by omega)])
    many.toNat [] 0 c s (by omega) (by omega) (by omega) (by simp; omega) hr
  simpa using this
theorem protR {B : List Int} (hB : By B) {many : Int} (hm : 0 ≤ many ∧ many ≤ 100) {st : Structure} (hc : 1 ≤ st.chains ∧ st.chains ≤ 100) {c : GBits} {s : RS} (hr : Rep B c s) :
    ∃ l c', templ_eye_some_y5 none many ⟨c⟩ st = some (l, ⟨c'⟩) ∧ Tell B l c' (goneS (rgS st.chains.toNat) many.toNat s) := by
  unfold templ_eye_some_y5 templ_eye_some_y5_l1
  have := some_loop (B := B) (f := rgS st.chains.toNat) (many := many) (step := fun (s : List Int × Int × templ_eye) => templ_eye_some_y5_s1 none many st s.1 s.2.1 s.2.2)
    (fun out i c h => by
      show templ_eye_some_y5_s1 none many st out i ⟨c⟩ = _
      unfold templ_eye_some_y5_s1
      rw [if_neg (by rw [cm_lss]; simp; omega)]; rfl)
    (fun out i c e h hr => by
      show templ_eye_some_y5_s1 none many st out i ⟨c⟩ = _
      unfold templ_eye_some_y5_s1
      rw [if_neg (by rw [fine_err hr]; simp)]; rfl)
    (fun out i c R h0 h h1 ho hr => by
      obtain ⟨a, c', q1, q2, _⟩ := rangeR hB (n := st.chains.toNat) (by omega) (by omega) hr
      rw [show ((st.chains.toNat : Nat) : Int) = st.chains by omega] at q1
      refine ⟨a, c', ?_, q2⟩
      show templ_eye_some_y5_s1 none many st out i ⟨c⟩ = _
      unfold templ_eye_some_y5_s1 templ_eye_read_2_y1
      rw [if_pos (by rw [fine_ok hr, cm_lss]; simpa using h), bnd (show Option.bind (templ_eye_ranged_y1 none st.chains ⟨c⟩) _ = some (a, ⟨c'⟩) by rw [bnd q1]), bnd (app_some (by simp; omega)), ar_add, w_i64 (by omega) (by omega)])
    many.toNat [] 0 c s (by omega) (by omega) (by omega) (by simp; omega) hr
  simpa using this
theorem diffs_loop {B : List Int} (hB : By B) : ∀ (j : Nat) (out : List Int) (c : GBits) (s : RS), out.length + j = 16 → Rep B c s →
    ∃ l c', loopG none (fun (s : List Int × templ_eye) => templ_eye_diffs_y2_s1 none s.1 s.2) (out, ⟨c⟩) = some (out ++ l, ⟨c'⟩) ∧ Tell B l c' (difS j s) := by
  have stop : ∀ (out : List Int) (c : GBits) (s : RS), Rep B c s → ¬ ((gN 1 s).1 = 1 ∧ ∃ R, (gN 1 s).2 = .ok R) → ∃ c', loopG none (fun (s : List Int × templ_eye) => templ_eye_diffs_y2_s1 none s.1 s.2) (out, ⟨c⟩) = some (out, ⟨c'⟩) ∧ Rep B c' (gN 1 s).2 := by
    intro out c s hr hn
    obtain ⟨c', q1, q2, _⟩ := numR hB (w := 1) (wi := 1) rfl (by decide) hr
    refine ⟨c', loop_inr ?_, q2⟩
    show templ_eye_diffs_y2_s1 none out ⟨c⟩ = _
    unfold templ_eye_diffs_y2_s1
    rw [bnd q1]
    simp only
    rw [if_neg ?_]
    · rfl
    · rw [cm_eql]
      intro h
      simp only [Bool.and_eq_true, decide_eq_true_eq] at h
      refine hn ⟨h.1, ?_⟩
      cases hz : (gN 1 s).2 with
      | ok R => exact ⟨R, rfl⟩
      | error e => rw [hz] at q2; rw [fine_err q2] at h; simp at h
  intro j
  induction j with
  | zero =>
    intro out c s hj hr
    by_cases hc : (gN 1 s).1 = 1 ∧ ∃ R, (gN 1 s).2 = .ok R
    · obtain ⟨h1, R, h2⟩ := hc
      obtain ⟨c1, q1, q2, _⟩ := numR hB (w := 1) (wi := 1) rfl (by decide) hr
      rw [h2] at q2
      obtain ⟨c2, r1, r2⟩ := needR q2 (cm .lss (out.length : Int) 16)
      have hlt : cm .lss (out.length : Int) 16 = false := by rw [cm_lss]; simp; omega
      rw [hlt] at r1 r2
      simp only [Bool.false_eq_true, if_false] at r2
      obtain ⟨c3, t1, t2, _⟩ := numR hB (w := 4) (wi := 4) rfl (by decide) r2
      have st : templ_eye_diffs_y2_s1 none out ⟨c⟩ = some (.inl (out ++ [(gN 4 (badS (.ok R))).1 + 1], ⟨c3⟩)) := by
        unfold templ_eye_diffs_y2_s1
        rw [bnd q1]
        simp only
        rw [if_pos (by rw [cm_eql, h1, fine_ok q2]; rfl), hlt, bnd r1, bnd t1, bnd (app_some (by simp; omega)), ar_add, w_i64 (by show -9223372036854775808 ≤ (0 : Int) + 1; decide) (by show (0 : Int) + 1 ≤ _; decide)]
      rw [loop_inl (s' := (out ++ [(gN 4 (badS (.ok R))).1 + 1], (⟨c3⟩ : templ_eye))) st]
      have t3 : Rep B c3 (.error 6) := t2
      obtain ⟨c4, u1, u2⟩ := stop (out ++ [(gN 4 (badS (.ok R))).1 + 1]) c3 (.error 6) t3 (fun h => by obtain ⟨_, R, hR⟩ := h; cases hR)
      have hd : (difS 0 s).2 = .error 6 := by
        show ((fun b => if b = 1 then failS [] else pr []) (gN 1 s).1 (gN 1 s).2).2 = _
        rw [h1, h2]; rfl
      refine ⟨[(gN 4 (badS (.ok R))).1 + 1], c4, by rw [u1], by rw [hd]; exact u2, fun S hS => by rw [hd] at hS; cases hS⟩
    · obtain ⟨c', u1, u2⟩ := stop out c s hr hc
      have hd : (difS 0 s).2 = (gN 1 s).2 ∧ ∀ R, (difS 0 s).2 = .ok R → (difS 0 s).1 = [] := by
        show ((fun b => if b = 1 then failS [] else pr []) (gN 1 s).1 (gN 1 s).2).2 = _ ∧ ∀ R, ((fun b => if b = 1 then failS [] else pr []) (gN 1 s).1 (gN 1 s).2).2 = .ok R → ((fun b => if b = 1 then failS ([] : List Int) else pr []) (gN 1 s).1 (gN 1 s).2).1 = []
        by_cases h1 : (gN 1 s).1 = 1
        · cases hz : (gN 1 s).2 with
          | ok R => exact absurd ⟨h1, R, hz⟩ hc
          | error e => simp only; rw [if_pos h1]; exact ⟨rfl, fun R h => by cases h⟩
        · simp only; rw [if_neg h1]; exact ⟨rfl, fun R h => rfl⟩
      exact ⟨[], c', by rw [u1]; simp, by rw [hd.1]; exact u2, fun R h => (hd.2 R h).symm⟩
  | succ j ih =>
    intro out c s hj hr
    by_cases hc : (gN 1 s).1 = 1 ∧ ∃ R, (gN 1 s).2 = .ok R
    · obtain ⟨h1, R, h2⟩ := hc
      obtain ⟨c1, q1, q2, _⟩ := numR hB (w := 1) (wi := 1) rfl (by decide) hr
      rw [h2] at q2
      obtain ⟨c2, r1, r2⟩ := needR q2 (cm .lss (out.length : Int) 16)
      have hlt : cm .lss (out.length : Int) 16 = true := by rw [cm_lss]; simp; omega
      rw [hlt] at r1 r2
      simp only [if_true] at r2
      obtain ⟨c3, t1, t2, t3⟩ := numR hB (w := 4) (wi := 4) rfl (by decide) r2
      have t4 : (gN 4 (.ok R)).1 < 16 := t3.2
      have st : templ_eye_diffs_y2_s1 none out ⟨c⟩ = some (.inl (out ++ [(gN 4 (.ok R)).1 + 1], ⟨c3⟩)) := by
        unfold templ_eye_diffs_y2_s1
        rw [bnd q1]
        simp only
        rw [if_pos (by rw [cm_eql, h1, fine_ok q2]; rfl), hlt, bnd r1, bnd t1, bnd (app_some (by simp; omega)), ar_add, w_i64 (by omega) (by omega)]
      rw [loop_inl (s' := (out ++ [(gN 4 (.ok R)).1 + 1], (⟨c3⟩ : templ_eye))) st]
      obtain ⟨l, c4, u1, u2, u3⟩ := ih (out ++ [(gN 4 (.ok R)).1 + 1]) c3 _ (by simp; omega) t2
      have hd : difS (j + 1) s = (((gN 4 (.ok R)).1 + 1) :: (difS j (gN 4 (.ok R)).2).1, (difS j (gN 4 (.ok R)).2).2) := by
        show (fun b => if b = 1 then bdR (gN 4) fun a => bdR (difS j) fun l => pr ((a + 1) :: l) else pr []) (gN 1 s).1 (gN 1 s).2 = _
        rw [h1, h2]; rfl
      rw [hd]
      exact ⟨((gN 4 (.ok R)).1 + 1) :: l, c4, by rw [u1]; simp, u2, fun S hS => by rw [u3 S hS]⟩
    · obtain ⟨c', u1, u2⟩ := stop out c s hr hc
      have hd : (difS (j + 1) s).2 = (gN 1 s).2 ∧ ∀ R, (difS (j + 1) s).2 = .ok R → (difS (j + 1) s).1 = [] := by
        show ((fun b => if b = 1 then bdR (gN 4) fun a => bdR (difS j) fun l => pr ((a + 1) :: l) else pr []) (gN 1 s).1 (gN 1 s).2).2 = _ ∧ ∀ R, ((fun b => if b = 1 then bdR (gN 4) fun a => bdR (difS j) fun l => pr ((a + 1) :: l) else pr []) (gN 1 s).1 (gN 1 s).2).2 = .ok R → ((fun b => if b = 1 then bdR (gN 4) fun a => bdR (difS j) fun l => pr ((a + 1) :: l) else pr []) (gN 1 s).1 (gN 1 s).2).1 = []
        by_cases h1 : (gN 1 s).1 = 1
        · cases hz : (gN 1 s).2 with
          | ok R => exact absurd ⟨h1, R, hz⟩ hc
          | error e =>
            simp only; rw [if_pos h1]
            have : ∀ (f : Int → RD (List Int)), (∀ a, ErrP (f a)) → (bdR (gN 4) f (.error e)).2 = .error e := fun f hf => ErrP.bd (.gN 4) hf e
            have h9 := this (fun a => bdR (difS j) fun l => pr ((a + 1) :: l)) fun _ => .bd (.dif j) fun _ => .pr _
            exact ⟨h9, fun R h => by rw [h9] at h; cases h⟩
        · simp only; rw [if_neg h1]; exact ⟨rfl, fun R h => rfl⟩
      exact ⟨[], c', by rw [u1]; simp, by rw [hd.1]; exact u2, fun R h => (hd.2 R h).symm⟩
theorem diffsR {B : List Int} (hB : By B) {c : GBits} {s : RS} (hr : Rep B c s) : ∃ l c', templ_eye_diffs_y2 none ⟨c⟩ = some (l, ⟨c'⟩) ∧ Tell B l c' (difS 16 s) := by
  have := diffs_loop hB 16 [] c s rfl hr
  unfold templ_eye_diffs_y2 templ_eye_diffs_y2_l1
  simpa using this
end Xb

namespace Xb
open Go

def mkT (a : Int × Int) : Template := ⟨a.1, a.2, [], [], []⟩
def okL (l : List Template) : Prop := ∀ t, t ∈ l → 0 ≤ t.sid ∧ t.sid ≤ 100
theorem lays_loop {B : List Int} (hB : By B) : ∀ (j : Nat) (init : List Template) (t : Int × Int) (c : GBits) (s : RS), init.length + 1 + j = 64 → inT t → okL init → Rep B c s →
    ∃ l c', loopG none (fun (s : List Template × templ_eye) => templ_eye_layers_y1_s1 none s.1 s.2) (init ++ [mkT t], ⟨c⟩) = some (init ++ mkT t :: l, ⟨c'⟩) ∧ okL (init ++ mkT t :: l) ∧ l.length ≤ j + 1 ∧ Rep B c' (laysS j t s).2 ∧ ∀ R, (laysS j t s).2 = .ok R → l = (laysS j t s).1.map mkT := by
  have hmk : ∀ t, inT t → ∀ init, okL init → okL (init ++ [mkT t]) := fun t ht init hi x hx => by
    rcases List.mem_append.1 hx with hx | hx
    · exact hi x hx
    · rw [List.mem_singleton] at hx; subst hx
      have := ht.1; exact ⟨this.1, by show t.1 ≤ 100; omega⟩
  have stopE : ∀ (L : List Template) (c : GBits) (e : Int), Rep B c (.error e) → loopG none (fun (s : List Template × templ_eye) => templ_eye_layers_y1_s1 none s.1 s.2) (L, ⟨c⟩) = some (L, ⟨c⟩) := fun L c e hr => by
    refine loop_inr ?_
    show templ_eye_layers_y1_s1 none L ⟨c⟩ = _
    unfold templ_eye_layers_y1_s1
    rw [if_neg (by rw [fine_err hr]; decide)]; rfl
  have one : ∀ (init : List Template) (t : Int × Int) (c : GBits) (R : List Int), init.length ≤ 64 → inT t → Rep B c (.ok R) →
      (gN 2 (.ok R)).1 ≠ 3 → ∃ c', templ_eye_layers_y1_s1 none (init ++ [mkT t]) ⟨c⟩ = some (.inl (init ++ [mkT t] ++ [mkT (stepT (gN 2 (.ok R)).1 t)], ⟨c'⟩)) ∧ Rep B c' (if goodT (stepT (gN 2 (.ok R)).1 t) && decide (init.length + 1 < 64) then (gN 2 (.ok R)).2 else badS (gN 2 (.ok R)).2) := by
    intro init t c R hi ht hr h3
    obtain ⟨c1, q1, q2, q3⟩ := numR hB (w := 2) (wi := 2) rfl (by decide) hr
    have q4 : (gN 2 (.ok R)).1 < 4 := q3.2
    have hlast : ix (init ++ [mkT t]) (ar .sub .i64 ((init ++ [mkT t]).length : Int) 1) = some (mkT t) := by
      have h2 : (init ++ [mkT t]).length = init.length + 1 := by simp
      rw [ar_sub, w_i64 (by omega) (by omega), ix_some (n := init.length) (by omega) (by omega)]
      simp
    have hj : ∀ v, v = mkT (stepT (gN 2 (.ok R)).1 t) → ∃ c', templ_eye_layers_y1_j2 none (init ++ [mkT t]) ((gN 2 (.ok R)).1, ⟨c1⟩) v = some (.inl (init ++ [mkT t] ++ [mkT (stepT (gN 2 (.ok R)).1 t)], ⟨c'⟩)) ∧ Rep B c' (if goodT (stepT (gN 2 (.ok R)).1 t) && decide (init.length + 1 < 64) then (gN 2 (.ok R)).2 else badS (gN 2 (.ok R)).2) := by
      intro v hv
      subst hv
      unfold templ_eye_layers_y1_j2
      have e : ((((cm .leq (mkT (stepT (gN 2 (.ok R)).1 t)).tid 7) && (cm .leq (mkT (stepT (gN 2 (.ok R)).1 t)).sid 3)) && (cm .lss ((init ++ [mkT t]).length : Int) 64))) = (goodT (stepT (gN 2 (.ok R)).1 t) && decide (init.length + 1 < 64)) := by
        rw [cm_leq, cm_leq, cm_lss]
        unfold goodT mkT
        congr 1
        rw [Bool.eq_iff_iff]; simp only [decide_eq_true_eq, List.length_append, List.length_singleton]; omega
      rw [e]
      obtain ⟨c2, r1, r2⟩ := needR q2 (goodT (stepT (gN 2 (.ok R)).1 t) && decide (init.length + 1 < 64))
      exact ⟨c2, by simp only; rw [bnd r1, bnd (app_some (by simp; omega))], r2⟩
    unfold templ_eye_layers_y1_s1
    rw [if_pos (fine_ok hr), bnd hlast, bnd q1]
    simp only
    obtain ⟨t1, t2⟩ := ht
    by_cases h1 : (gN 2 (.ok R)).1 = 1
    · rw [if_pos (by rw [cm_eql]; simpa using h1)]
      refine hj _ ?_
      rw [h1, ar_add, w_i64 (by show _ ≤ t.2 + 1; omega) (by show t.2 + 1 ≤ _; omega)]; rfl
    · rw [if_neg (by rw [cm_eql]; simpa using h1)]
      by_cases h2 : (gN 2 (.ok R)).1 = 2
      · rw [if_pos (by rw [cm_eql]; simpa using h2)]
        refine hj _ ?_
        rw [h2, ar_add, w_i64 (by show _ ≤ t.1 + 1; omega) (by show t.1 + 1 ≤ _; omega)]; rfl
      · rw [if_neg (by rw [cm_eql]; simpa using h2), if_neg (by rw [cm_eql]; simpa using h3)]
        refine hj _ ?_
        unfold stepT
        rw [if_neg h1, if_neg h2]
  have three : ∀ (init : List Template) (t : Int × Int) (c : GBits) (R : List Int), init.length ≤ 64 → Rep B c (.ok R) → (gN 2 (.ok R)).1 = 3 → ∃ c', loopG none (fun (s : List Template × templ_eye) => templ_eye_layers_y1_s1 none s.1 s.2) (init ++ [mkT t], ⟨c⟩) = some (init ++ [mkT t], ⟨c'⟩) ∧ Rep B c' (gN 2 (.ok R)).2 := by
    intro init t c R hi hr h3
    obtain ⟨c1, q1, q2, q3⟩ := numR hB (w := 2) (wi := 2) rfl (by decide) hr
    have hlast : ix (init ++ [mkT t]) (ar .sub .i64 ((init ++ [mkT t]).length : Int) 1) = some (mkT t) := by
      have h2 : (init ++ [mkT t]).length = init.length + 1 := by simp
      rw [ar_sub, w_i64 (by omega) (by omega), ix_some (n := init.length) (by omega) (by omega)]
      simp
    refine ⟨c1, loop_inr ?_, q2⟩
    show templ_eye_layers_y1_s1 none (init ++ [mkT t]) ⟨c⟩ = _
    unfold templ_eye_layers_y1_s1
    rw [if_pos (fine_ok hr), bnd hlast, bnd q1]
    simp only
    rw [h3]; rfl
  have after : ∀ (init : List Template) (t : Int × Int) (v : Int), 0 ≤ v → okL init → inT t → okL (init ++ [mkT t] ++ [mkT (stepT v t)]) := fun init t v _ hi ht x hx => by
    rcases List.mem_append.1 hx with hx | hx
    · exact hmk t ht init hi x hx
    · rw [List.mem_singleton] at hx; subst hx
      have := ht.1
      show 0 ≤ (stepT v t).1 ∧ (stepT v t).1 ≤ 100
      unfold stepT; split
      · exact ⟨this.1, by show t.1 ≤ 100; omega⟩
      · split
        · exact ⟨by show 0 ≤ t.1 + 1; omega, by show t.1 + 1 ≤ 100; omega⟩
        · exact ⟨this.1, by omega⟩
  intro j
  induction j with
  | zero =>
    intro init t c s hj ht hi hr
    cases s with
    | error e => exact ⟨[], c, stopE _ c e hr, hmk t ht init hi, by simp, by rw [ErrP.lays]; exact hr, fun R h => by rw [ErrP.lays] at h; cases h⟩
    | ok R =>
      have hap : laysS 0 t (.ok R) = (if (gN 2 (.ok R)).1 = 3 then (pr [] : RD (List (Int × Int))) else failS []) (gN 2 (.ok R)).2 := rfl
      by_cases h3 : (gN 2 (.ok R)).1 = 3
      · obtain ⟨c', q1, q2⟩ := three init t c R (by omega) hr h3
        rw [hap, if_pos h3]
        exact ⟨[], c', q1, hmk t ht init hi, by simp, q2, fun _ _ => rfl⟩
      · obtain ⟨c', q1, q2⟩ := one init t c R (by omega) ht hr h3
        have hlt : decide (init.length + 1 < 64) = false := by simp; omega
        rw [hlt, Bool.and_false] at q2
        simp only [Bool.false_eq_true, if_false] at q2
        rw [loop_inl (s' := (init ++ [mkT t] ++ [mkT (stepT (gN 2 (.ok R)).1 t)], (⟨c'⟩ : templ_eye))) q1, hap, if_neg h3]
        have hE : ∃ e, badS (gN 2 (.ok R)).2 = .error e := by cases (gN 2 (.ok R)).2 <;> exact ⟨_, rfl⟩
        obtain ⟨e, he⟩ := hE
        rw [he] at q2
        refine ⟨[mkT (stepT (gN 2 (.ok R)).1 t)], c', ?_, ?_, by simp, ?_, fun S hS => ?_⟩
        · rw [stopE _ c' e q2]; simp
        · have := after init t (gN 2 (.ok R)).1 (gN_bd hr.bin).1 hi ht
          simpa using this
        · show Rep B c' (badS _); rw [he]; exact q2
        · change badS _ = _ at hS; rw [he] at hS; cases hS
  | succ j ih =>
    intro init t c s hj ht hi hr
    cases s with
    | error e => exact ⟨[], c, stopE _ c e hr, hmk t ht init hi, by simp, by rw [ErrP.lays]; exact hr, fun R h => by rw [ErrP.lays] at h; cases h⟩
    | ok R =>
      have hap : laysS (j + 1) t (.ok R) = (if (gN 2 (.ok R)).1 = 3 then (pr [] : RD (List (Int × Int))) else if goodT (stepT (gN 2 (.ok R)).1 t) = true then bdR (laysS j (stepT (gN 2 (.ok R)).1 t)) (fun l => pr (stepT (gN 2 (.ok R)).1 t :: l)) else failS []) (gN 2 (.ok R)).2 := rfl
      by_cases h3 : (gN 2 (.ok R)).1 = 3
      · obtain ⟨c', q1, q2⟩ := three init t c R (by omega) hr h3
        rw [hap, if_pos h3]
        exact ⟨[], c', q1, hmk t ht init hi, by simp, q2, fun _ _ => rfl⟩
      · obtain ⟨c', q1, q2⟩ := one init t c R (by omega) ht hr h3
        have hlt : decide (init.length + 1 < 64) = true := by simp; omega
        rw [hlt, Bool.and_true] at q2
        rw [loop_inl (s' := (init ++ [mkT t] ++ [mkT (stepT (gN 2 (.ok R)).1 t)], (⟨c'⟩ : templ_eye))) q1, hap, if_neg h3]
        by_cases hg : goodT (stepT (gN 2 (.ok R)).1 t) = true
        · rw [if_pos hg] at q2 ⊢
          have ht' := (step_ok ht hg).inT ht
          obtain ⟨l, c2, r1, r2, r3, r4, r5⟩ := ih (init ++ [mkT t]) (stepT (gN 2 (.ok R)).1 t) c' _ (by simp; omega) ht' (hmk t ht init hi) q2
          refine ⟨mkT (stepT (gN 2 (.ok R)).1 t) :: l, c2, by rw [r1]; simp, by simpa using r2, by simp; omega, r4, fun S hS => ?_⟩
          rw [r5 S hS]; rfl
        · rw [if_neg hg] at q2 ⊢
          have hE : ∃ e, badS (gN 2 (.ok R)).2 = .error e := by cases (gN 2 (.ok R)).2 <;> exact ⟨_, rfl⟩
          obtain ⟨e, he⟩ := hE
          rw [he] at q2
          refine ⟨[mkT (stepT (gN 2 (.ok R)).1 t)], c', ?_, ?_, by simp, ?_, fun S hS => ?_⟩
          · rw [stopE _ c' e q2]; simp
          · have := after init t (gN 2 (.ok R)).1 (gN_bd hr.bin).1 hi ht
            simpa using this
          · show Rep B c' (badS _); rw [he]; exact q2
          · change badS _ = _ at hS; rw [he] at hS; cases hS
theorem laysR {B : List Int} (hB : By B) {c : GBits} {s : RS} (hr : Rep B c s) :
    ∃ L c', templ_eye_layers_y1 none ⟨c⟩ = some (L, ⟨c'⟩) ∧ okL L ∧ (1 ≤ L.length ∧ L.length ≤ 66) ∧ Rep B c' (lsS s).2 ∧ ∀ R, (lsS s).2 = .ok R → L = (lsS s).1.map mkT := by
  obtain ⟨l, c', q1, q2, q3, q4, q5⟩ := lays_loop hB 63 [] (0, 0) c s rfl (by unfold inT; decide) (fun _ h => absurd h List.not_mem_nil) hr
  refine ⟨mkT (0, 0) :: l, c', q1, q2, by simp; omega, q4, fun R h => ?_⟩
  rw [q5 R h]; rfl

/-- each element gets what is read for it -/
theorem upd_loop {β ρ : Type} {B : List Int} {upd : Template → β → Template} {g : RD β} (eg : ErrP g) {v : Structure} {N : Nat} {step : Int × Structure × templ_eye → Option ((Int × Structure × templ_eye) ⊕ ρ)}
    (h : ∀ (done : List Template) (t : Template) (rest : List Template) c s, Rep B c s → done.length + (rest.length + 1) = N → ∃ b c', step ((done.length : Int), { v with templates := done ++ t :: rest }, ⟨c⟩) = some (.inl (((done.length + 1 : Nat) : Int), { v with templates := done ++ upd t b :: rest }, ⟨c'⟩)) ∧ Tell B b c' (g s)) :
    ∀ (rest done : List Template) (c : GBits) (s : RS), done.length + rest.length = N → Rep B c s →
      ∃ bs c', bs.length = rest.length ∧ loopG none step ((done.length : Int), { v with templates := done ++ rest }, ⟨c⟩) = loopG none step ((N : Int), { v with templates := done ++ List.zipWith upd rest bs }, ⟨c'⟩) ∧ Tell B bs c' (goneS g rest.length s)
  | [], done, c, s, hN, hr => by
    refine ⟨[], c, rfl, ?_, hr, fun R _ => rfl⟩
    have : done.length = N := by simpa using hN
    rw [this]; rfl
  | t :: rest, done, c, s, hN, hr => by
    obtain ⟨b, c1, q1, q2, q3⟩ := h done t rest c s hr (by simpa using hN)
    rw [loop_inl q1]
    obtain ⟨bs, c2, r0, r1, r2, r3⟩ := upd_loop eg h rest (done ++ [upd t b]) c1 (g s).2 (by simp at hN ⊢; omega) q2
    have e1 : ((done ++ [upd t b]).length : Int) = ((done.length + 1 : Nat) : Int) := by simp
    have e2 : done ++ [upd t b] ++ rest = done ++ upd t b :: rest := by simp
    rw [e1, e2] at r1
    refine ⟨b :: bs, c2, by simp [r0], by rw [r1]; simp, ?_⟩
    cases s with
    | error e =>
      have he := eg e
      rw [he] at r2
      rw [ErrP.gone] at r2
      exact ⟨r2, fun R h => by cases h⟩
    | ok R =>
      refine ⟨r2, fun S hS => ?_⟩
      change (goneS g rest.length (g (.ok R)).2).2 = _ at hS
      cases hz : (g (.ok R)).2 with
      | error e => rw [hz, ErrP.gone] at hS; cases hS
      | ok T => rw [r3 S hS, q3 T hz]; rfl
def updM (t : Template) (m : List Int) : Template := { t with marks := m }
def updD (t : Template) (m : List Int) : Template := { t with diffs := m }
def updC (t : Template) (m : List Int) : Template := { t with chains := m }
theorem zip3 : ∀ {ls : List (Int × Int)} {ms ds cs : List (List Int)}, ms.length = ls.length → ds.length = ls.length → cs.length = ls.length →
    List.zipWith updC (List.zipWith updD (List.zipWith updM (ls.map mkT) ms) ds) cs = zipT ls ms ds cs
  | [], _, _, _, _, _, _ => rfl
  | x :: a, y :: m, z :: d, w :: c, h1, h2, h3 => by
    have := zip3 (ls := a) (ms := m) (ds := d) (cs := c) (by simpa using h1) (by simpa using h2) (by simpa using h3)
    simp only [List.map_cons, List.zipWith_cons_cons, this]; rfl
  | _ :: _, [], _, _, h, _, _ => by simp at h
  | _ :: _, _ :: _, [], _, _, h, _ => by simp at h
  | _ :: _, _ :: _, _ :: _, [], _, _, h => by simp at h
theorem zip_st {upd : Template → List Int → Template} (hu : ∀ t b, stP (upd t b) = stP t) : ∀ {l : List Template} {b : List (List Int)}, b.length = l.length → (List.zipWith upd l b).map stP = l.map stP
  | [], _, _ => rfl
  | t :: l, b :: bs, h => by simp only [List.zipWith_cons_cons, List.map_cons, hu, zip_st hu (show bs.length = l.length by simpa using h)]
  | _ :: _, [], h => by simp at h
theorem zip_len {upd : Template → List Int → Template} {l : List Template} {b : List (List Int)} (h : b.length = l.length) : (List.zipWith upd l b).length = l.length := by simp [h]
theorem okL_st {l m : List Template} (h : l.map stP = m.map stP) (hm : okL m) : okL l := by
  intro t ht
  have : stP t ∈ m.map stP := by rw [← h]; exact List.mem_map_of_mem ht
  obtain ⟨x, hx, hxt⟩ := List.mem_map.1 this
  have := hm x hx
  have e : x.sid = t.sid := congrArg Prod.fst hxt
  rw [← e]; exact this
end Xb

namespace Xb
open Go

theorem loop_map {σ ρ : Type} {step : σ → Option (σ ⊕ ρ)} {s : σ} {m : Option ρ} (h : step s = Option.map Sum.inr m) : loopG none step s = m := by
  rw [loopG_eq, h]
  cases m <;> rfl
theorem sizes_loop {B : List Int} (hB : By B) {v : Structure} {x : Template} (hx : 0 ≤ x.sid ∧ x.sid ≤ 100) : ∀ (n : Nat) (i : Int) (out : List Size) (c : GBits) (s : RS), i + n = x.sid + 1 → 0 ≤ i → out.length = i.toNat → Rep B c s →
    ∃ l c', loopG none (fun (s : Int × Structure × templ_eye) => templ_eye_read_y1_s5 none x s.1 s.2.1 s.2.2) (i, { v with sizes := out }, ⟨c⟩) = some ({ v with sizes := out ++ l }, ⟨c'⟩) ∧ Tell B l c' (goneS szS n s)
  | 0, i, out, c, s, hi, h0, ho, hr => by
    refine ⟨[], c, ?_, hr, fun R _ => rfl⟩
    rw [List.append_nil]
    refine loop_inr ?_
    show templ_eye_read_y1_s5 none x i { v with sizes := out } ⟨c⟩ = _
    unfold templ_eye_read_y1_s5
    rw [ar_add, w_i64 (by omega) (by omega), if_neg (by rw [cm_lss]; simp; omega)]; rfl
  | n + 1, i, out, c, s, hi, h0, ho, hr => by
    obtain ⟨c1, a1, b1, d1⟩ := numR hB (w := 16) (wi := 16) rfl (by decide) hr
    obtain ⟨c2, a2, b2, d2⟩ := numR hB (w := 16) (wi := 16) rfl (by decide) b1
    have st : templ_eye_read_y1_s5 none x i { v with sizes := out } ⟨c⟩ = some (.inl (i + 1, { v with sizes := out ++ [(szS s).1] }, ⟨c2⟩)) := by
      unfold templ_eye_read_y1_s5
      simp only [ar_add]
      rw [w_i64 (n := x.sid + 1) (by omega) (by omega), if_pos (by rw [cm_lss]; simp; omega), bnd a1, bnd a2]
      simp only
      rw [w_i64 (n := (gN 16 s).1 + 1) (by omega) (by omega), w_i64 (n := (gN 16 (gN 16 s).2).1 + 1) (by omega) (by omega), bnd (app_some (by simp; omega)), w_i64 (n := i + 1) (by omega) (by omega)]
      rfl
    rw [loop_inl (s' := (i + 1, { v with sizes := out ++ [(szS s).1] }, (⟨c2⟩ : templ_eye))) st]
    obtain ⟨l, c3, r1, r2, r3⟩ := sizes_loop hB hx n (i + 1) (out ++ [(szS s).1]) c2 (szS s).2 (by omega) (by omega) (by simp; omega) b2
    refine ⟨(szS s).1 :: l, c3, by rw [r1]; simp, ?_⟩
    cases s with
    | error e =>
      have he : (szS (.error e)).2 = .error e := ErrP.sz e
      rw [he, ErrP.gone] at r2
      exact ⟨r2, fun R h => by cases h⟩
    | ok R =>
      refine ⟨r2, fun S hS => ?_⟩
      rw [r3 S hS]; rfl
abbrev RX := List (List Int) × List (List Int) × Int × List Int × List (List Int) × List Size
def endG (n : Nat) (last : Int) (ms ds : List (List Int)) (c : Int) (ps : List Int) : RD RX :=
  bdR (goneS (goneS (gN 4) c.toNat) n) fun cs => bdR (gN 1) fun z => bdR (sizesS (last + 1).toNat z) fun sz => pr (ms, ds, c, ps, cs, sz)
def restG (t : Int) (n : Nat) (last : Int) : RD RX :=
  bdR (goneS (goneS (gN 2) t.toNat) n) fun ms => bdR (goneS (difS 16) n) fun ds => bdR (rgS (t + 1).toNat) fun c => bdR (opt (decide (0 < c)) (goneS (rgS c.toNat) t.toNat) []) fun ps => endG n last ms ds c ps
theorem ErrP.endG {n : Nat} {last : Int} {ms ds : List (List Int)} {c : Int} {ps : List Int} : ErrP (endG n last ms ds c ps) := .bd (.gone _ _) fun _ => .bd (.gN 1) fun _ => .bd (.opt (.gone _ _)) fun _ => .pr _
theorem ErrP.restG {t : Int} {n : Nat} {last : Int} : ErrP (restG t n last) := .bd (.gone _ _) fun _ => .bd (.gone _ _) fun _ => .bd (.rg _) fun _ => .bd (.opt (.gone _ _)) fun _ => .endG
theorem structS_eq (s : RS) : structS s = bdR (Xb.gN 6) (fun id => bdR (Xb.gN 5) fun t => bdR lsS fun ls => bdR (restG (t + 1) ls.length (lastS ls)) fun x => Xb.pr (⟨id, t + 1, x.2.2.1, x.2.2.2.1, zipT ls x.1 x.2.1 x.2.2.2.2.1, x.2.2.2.2.2⟩ : Structure)) s := rfl
theorem getLast_ix {L : List Template} (h : 1 ≤ L.length) (h2 : L.length ≤ 1000) : ∃ x, ix L (ar .sub .i64 (L.length : Int) 1) = some x ∧ x ∈ L ∧ x.sid = lastS (L.map stP) := by
  have hi : L.length - 1 < L.length := by omega
  refine ⟨L[L.length - 1], ?_, List.getElem_mem _, ?_⟩
  · rw [ar_sub, w_i64 (by omega) (by omega), ix_some (n := L.length - 1) (by omega) hi]
  · unfold lastS
    rw [List.getLast?_eq_getElem?, List.length_map, List.getElem?_map, List.getElem?_eq_getElem hi]; rfl
theorem endR {B : List Int} (hB : By B) {V : Structure} (hV : 0 ≤ V.chains ∧ V.chains ≤ 100) (hs0 : V.sizes = []) (hT : okL V.templates) (hl : 1 ≤ V.templates.length ∧ V.templates.length ≤ 66) (ms ds : List (List Int)) {c : GBits} {s : RS} (hr : Rep B c s) :
    ∃ cs sz c', templ_eye_read_y1_j3 none V ⟨c⟩ = some ({ V with templates := List.zipWith updC V.templates cs, sizes := sz }, ⟨c'⟩) ∧ cs.length = V.templates.length ∧
      Tell B (ms, ds, V.chains, V.protect, cs, sz) c' (endG V.templates.length (lastS (V.templates.map stP)) ms ds V.chains V.protect s) := by
  unfold templ_eye_read_y1_j3 templ_eye_read_y1_l4
  obtain ⟨cs, c1, r0, r1, r2, r3⟩ := upd_loop (B := B) (upd := updC) (g := goneS (Xb.gN 4) V.chains.toNat) (.gone _ _) (v := V) (N := V.templates.length) (step := fun (s : Int × Structure × templ_eye) => templ_eye_read_y1_s4 none V s.1 s.2.1 s.2.2) (fun done t rest c s hr hN => by
    obtain ⟨b, c', q1, q2⟩ := chainsR hB (many := V.chains) hV hr
    refine ⟨b, c', ?_, q2⟩
    show templ_eye_read_y1_s4 none V done.length { V with templates := done ++ t :: rest } ⟨c⟩ = _
    unfold templ_eye_read_y1_s4
    rw [if_pos (by rw [cm_lss]; simp; omega)]
    simp only
    have hix : ix (done ++ t :: rest) (done.length : Int) = some t := by rw [ix_some (n := done.length) rfl (by simp)]; simp
    have hset : ∀ y, (done ++ t :: rest).set done.length y = done ++ y :: rest := fun y => by
      rw [List.set_append_right _ _ (Nat.le_refl _), Nat.sub_self]; rfl
    rw [bnd q1, bnd hix, Int.toNat_natCast, hset, ar_add, w_i64 (by omega) (by omega)]; rfl) V.templates [] c s (by simp) hr
  have e0 : ({ V with templates := [] ++ V.templates } : Structure) = V := rfl
  rw [e0] at r1
  rw [show ((([] : List Template).length : Nat) : Int) = 0 from rfl] at r1
  rw [r1, List.nil_append]
  have hlen := zip_len (upd := updC) r0
  have hst : (List.zipWith updC V.templates cs).map stP = V.templates.map stP := zip_st (upd := updC) (fun _ _ => rfl) r0
  have hT2 : okL (List.zipWith updC V.templates cs) := okL_st hst hT
  obtain ⟨x, x1, x2, x3⟩ := getLast_ix (L := List.zipWith updC V.templates cs) (by omega) (by omega)
  rw [hst] at x3
  obtain ⟨c2, a2, b2, d2⟩ := numR hB (w := 1) (wi := 1) rfl (by decide) r2
  have d22 : (Xb.gN 1 (goneS (goneS (Xb.gN 4) V.chains.toNat) V.templates.length s).2).1 < 2 := d2.2
  have step0 : ∀ m, (Option.bind (templ_eye_num_y1 none 1 ⟨c1⟩) fun x22 => if (cm .eql x22.1 0) then some (({ V with templates := List.zipWith updC V.templates cs } : Structure), x22.2) else Option.bind (ix (List.zipWith updC V.templates cs) (ar .sub .i64 ((List.zipWith updC V.templates cs).length : Int) 1)) fun x23 => templ_eye_read_y1_l5 none x23 0 { V with templates := List.zipWith updC V.templates cs } x22.2) = m →
      loopG none (fun (s : Int × Structure × templ_eye) => templ_eye_read_y1_s4 none V s.1 s.2.1 s.2.2) ((V.templates.length : Int), { V with templates := List.zipWith updC V.templates cs }, ⟨c1⟩) = m := fun m hm => by
    refine loop_map ?_
    show templ_eye_read_y1_s4 none V V.templates.length { V with templates := List.zipWith updC V.templates cs } ⟨c1⟩ = _
    unfold templ_eye_read_y1_s4
    rw [if_neg (by rw [cm_lss]; simp), ← hm]
  have okcs : ∀ R, (endG V.templates.length (lastS (V.templates.map stP)) ms ds V.chains V.protect s).2 = .ok R → cs = (goneS (goneS (Xb.gN 4) V.chains.toNat) V.templates.length s).1 := fun R h => by
    obtain ⟨S, hS⟩ := ok_bd (f := goneS (goneS (Xb.gN 4) V.chains.toNat) V.templates.length) (fun _ => .bd (.gN 1) fun _ => .bd (.opt (.gone _ _)) fun _ => .pr _) h
    exact r3 S hS
  generalize hs1 : (goneS (goneS (Xb.gN 4) V.chains.toNat) V.templates.length s) = X1 at *
  have hend : endG V.templates.length (lastS (V.templates.map stP)) ms ds V.chains V.protect s = ((ms, ds, V.chains, V.protect, X1.1, (sizesS (lastS (V.templates.map stP) + 1).toNat (Xb.gN 1 X1.2).1 (Xb.gN 1 X1.2).2).1), (sizesS (lastS (V.templates.map stP) + 1).toNat (Xb.gN 1 X1.2).1 (Xb.gN 1 X1.2).2).2) := by
    rw [← hs1]; rfl
  rw [hend] at okcs ⊢
  generalize hz : (Xb.gN 1 X1.2).1 = z at *
  by_cases h0 : z = 0
  · refine ⟨cs, [], c2, step0 _ ?_, r0, ?_, fun R h => ?_⟩
    · rw [bnd a2]
      simp only
      rw [if_pos (by rw [cm_eql]; simpa using h0)]
      have : V = { V with sizes := [] } := by rw [← hs0]
      conv => lhs; rw [this]
    · unfold sizesS opt; rw [if_neg (by simpa using h0)]; exact b2
    · rw [okcs R h]
      unfold sizesS opt; rw [if_neg (by simpa using h0)]; rfl
  · obtain ⟨l, c3, q1, q2, q3⟩ := sizes_loop hB (v := { V with templates := List.zipWith updC V.templates cs }) (x := x) (hT2 x x2) (x.sid + 1).toNat 0 [] c2 _ (by have := hT2 x x2; omega) (by omega) rfl b2
    refine ⟨cs, l, c3, step0 _ ?_, r0, ?_, fun R h => ?_⟩
    · rw [bnd a2]
      simp only
      rw [if_neg (by rw [cm_eql]; simpa using h0), bnd x1]
      unfold templ_eye_read_y1_l5
      have : ({ V with templates := List.zipWith updC V.templates cs } : Structure) = { V with templates := List.zipWith updC V.templates cs, sizes := [] } := by rw [← hs0]
      rw [this]
      exact q1
    · unfold sizesS opt; rw [if_pos (by simpa using h0), ← x3]; exact q2
    · rw [okcs R h]
      simp only at h ⊢
      unfold sizesS opt at h ⊢; rw [if_pos (by simpa using h0), ← x3] at h ⊢
      rw [q3 R h]
theorem restR {B : List Int} (hB : By B) {id t : Int} (ht : 1 ≤ t ∧ t ≤ 32) {L : List Template} (hT : okL L) (hl : 1 ≤ L.length ∧ L.length ≤ 66) {c : GBits} {s : RS} (hr : Rep B c s) :
    ∃ (x : RX) (c' : GBits), templ_eye_read_y1_l1 none (L, ⟨c⟩) 0 ⟨id, t, 0, [], L, []⟩ ⟨c⟩ = some (⟨id, t, x.2.2.1, x.2.2.2.1, List.zipWith updC (List.zipWith updD (List.zipWith updM L x.1) x.2.1) x.2.2.2.2.1, x.2.2.2.2.2⟩, ⟨c'⟩) ∧
      x.1.length = L.length ∧ x.2.1.length = L.length ∧ x.2.2.2.2.1.length = L.length ∧ Tell B x c' (restG t L.length (lastS (L.map stP)) s) := by
  unfold templ_eye_read_y1_l1
  obtain ⟨ms, c1, m0, m1, m2, m3⟩ := upd_loop (B := B) (upd := updM) (g := goneS (Xb.gN 2) t.toNat) (.gone _ _) (v := ⟨id, t, 0, [], L, []⟩) (N := L.length) (step := fun (s : Int × Structure × templ_eye) => templ_eye_read_y1_s1 none (L, ⟨c⟩) s.1 s.2.1 s.2.2) (fun done x rest c' s hr hN => by
    obtain ⟨b, c'', q1, q2⟩ := marksR hB (many := t) (by omega) hr
    refine ⟨b, c'', ?_, q2⟩
    show templ_eye_read_y1_s1 none (L, ⟨c⟩) done.length ⟨id, t, 0, [], done ++ x :: rest, []⟩ ⟨c'⟩ = _
    unfold templ_eye_read_y1_s1
    rw [if_pos (by rw [cm_lss]; simp; omega)]
    simp only
    have hix : ix (done ++ x :: rest) (done.length : Int) = some x := by rw [ix_some (n := done.length) rfl (by simp)]; simp
    have hset : ∀ y, (done ++ x :: rest).set done.length y = done ++ y :: rest := fun y => by
      rw [List.set_append_right _ _ (Nat.le_refl _), Nat.sub_self]; rfl
    rw [bnd q1, bnd hix, Int.toNat_natCast, hset, ar_add, w_i64 (by omega) (by omega)]; rfl) L [] c s (by simp) hr
  rw [show ((([] : List Template).length : Nat) : Int) = 0 from rfl] at m1
  simp only [List.nil_append] at m1
  rw [m1]
  have hl1 := zip_len (upd := updM) m0
  have hst1 : (List.zipWith updM L ms).map stP = L.map stP := zip_st (upd := updM) (fun _ _ => rfl) m0
  have step1 : ∀ m, templ_eye_read_y1_l2 none ⟨id, t, 0, [], List.zipWith updM L ms, []⟩ 0 ⟨id, t, 0, [], List.zipWith updM L ms, []⟩ ⟨c1⟩ = m →
      loopG none (fun (s : Int × Structure × templ_eye) => templ_eye_read_y1_s1 none (L, ⟨c⟩) s.1 s.2.1 s.2.2) ((L.length : Int), ⟨id, t, 0, [], List.zipWith updM L ms, []⟩, ⟨c1⟩) = m := fun m hm => by
    refine loop_map ?_
    show templ_eye_read_y1_s1 none (L, ⟨c⟩) L.length ⟨id, t, 0, [], List.zipWith updM L ms, []⟩ ⟨c1⟩ = _
    unfold templ_eye_read_y1_s1
    rw [if_neg (by rw [cm_lss]; simp), ← hm]
  -- diffs
  obtain ⟨ds, c2, d0, d1, d2, d3⟩ := upd_loop (B := B) (upd := updD) (g := difS 16) (.dif 16) (v := ⟨id, t, 0, [], List.zipWith updM L ms, []⟩) (N := L.length) (step := fun (s : Int × Structure × templ_eye) => templ_eye_read_y1_s2 none ⟨id, t, 0, [], List.zipWith updM L ms, []⟩ s.1 s.2.1 s.2.2) (fun done x rest c' s hr hN => by
    obtain ⟨b, c'', q1, q2⟩ := diffsR hB hr
    refine ⟨b, c'', ?_, q2⟩
    show templ_eye_read_y1_s2 none ⟨id, t, 0, [], List.zipWith updM L ms, []⟩ done.length ⟨id, t, 0, [], done ++ x :: rest, []⟩ ⟨c'⟩ = _
    unfold templ_eye_read_y1_s2
    rw [if_pos (by rw [cm_lss]; simp only [hl1]; simp; omega)]
    simp only
    have hix : ix (done ++ x :: rest) (done.length : Int) = some x := by rw [ix_some (n := done.length) rfl (by simp)]; simp
    have hset : ∀ y, (done ++ x :: rest).set done.length y = done ++ y :: rest := fun y => by
      rw [List.set_append_right _ _ (Nat.le_refl _), Nat.sub_self]; rfl
    rw [bnd q1, bnd hix, Int.toNat_natCast, hset, ar_add, w_i64 (by omega) (by omega)]; rfl) (List.zipWith updM L ms) [] c1 _ (by simp only [List.length_nil, Nat.zero_add]; exact hl1) m2
  rw [show ((([] : List Template).length : Nat) : Int) = 0 from rfl] at d1
  simp only [List.nil_append] at d1
  rw [hl1] at d0 d2 d3
  have hl2 : (List.zipWith updD (List.zipWith updM L ms) ds).length = L.length := by rw [zip_len (by rw [hl1]; exact d0), hl1]
  have hst2 : (List.zipWith updD (List.zipWith updM L ms) ds).map stP = L.map stP := (zip_st (upd := updD) (fun _ _ => rfl) (by rw [hl1]; exact d0)).trans hst1
  have hT2 : okL (List.zipWith updD (List.zipWith updM L ms) ds) := okL_st hst2 hT
  generalize hT3 : List.zipWith updD (List.zipWith updM L ms) ds = T2 at *
  have step2 : ∀ m, (Option.bind (templ_eye_ranged_y1 none (ar .add .i64 t 1) ⟨c2⟩) fun x14 => if (cm .gtr x14.1 0) then Option.bind (templ_eye_some_y5 none t x14.2 ⟨id, t, x14.1, [], T2, []⟩) fun x30 => templ_eye_read_y1_j3 none ⟨id, t, x14.1, x30.1, T2, []⟩ x30.2 else templ_eye_read_y1_j3 none ⟨id, t, x14.1, [], T2, []⟩ x14.2) = m →
      templ_eye_read_y1_l2 none ⟨id, t, 0, [], List.zipWith updM L ms, []⟩ 0 ⟨id, t, 0, [], List.zipWith updM L ms, []⟩ ⟨c1⟩ = m := fun m hm => by
    unfold templ_eye_read_y1_l2
    rw [d1]
    refine loop_map ?_
    show templ_eye_read_y1_s2 none ⟨id, t, 0, [], List.zipWith updM L ms, []⟩ L.length ⟨id, t, 0, [], T2, []⟩ ⟨c2⟩ = _
    unfold templ_eye_read_y1_s2
    rw [if_neg (by rw [cm_lss]; simp only [hl1]; simp), ← hm]
  obtain ⟨cc, c3, e1, ⟨e2, e3⟩, e4, e5⟩ := rangeR hB (n := (t + 1).toNat) (by omega) (by omega) d2
  have et : ((t + 1).toNat : Int) = ar .add .i64 t 1 := by rw [ar_add, w_i64 (by omega) (by omega)]; omega
  rw [et] at e1
  have e5' : cc ≤ t := by omega
  have fin : ∀ (ps : List Int) (c4 : GBits), Tell B ps c4 (opt (decide (0 < cc)) (goneS (rgS cc.toNat) t.toNat) [] (rgS (t + 1).toNat (goneS (difS 16) L.length (goneS (goneS (Xb.gN 2) t.toNat) L.length s).2).2).2) →
      ∃ (x : RX) (c' : GBits), templ_eye_read_y1_j3 none ⟨id, t, cc, ps, T2, []⟩ ⟨c4⟩ = some (⟨id, t, x.2.2.1, x.2.2.2.1, List.zipWith updC (List.zipWith updD (List.zipWith updM L x.1) x.2.1) x.2.2.2.2.1, x.2.2.2.2.2⟩, ⟨c'⟩) ∧
      x.1.length = L.length ∧ x.2.1.length = L.length ∧ x.2.2.2.2.1.length = L.length ∧ Tell B x c' (restG t L.length (lastS (L.map stP)) s) := by
    intro ps c4 hps
    obtain ⟨cs, sz, c5, f1, f2, f3, f4⟩ := endR hB (V := ⟨id, t, cc, ps, T2, []⟩) ⟨e4, by show cc ≤ 100; omega⟩ rfl hT2 (by show 1 ≤ T2.length ∧ T2.length ≤ 66; omega) ms ds hps.1
    refine ⟨(ms, ds, cc, ps, cs, sz), c5, ?_, m0, d0, by rw [f2]; exact hl2, ?_⟩
    · rw [f1, hT3]
    · change T2.map stP = _ at hst2
      change Rep B c5 (endG T2.length (lastS (T2.map stP)) ms ds cc ps _).2 at f3
      change ∀ R, (endG T2.length (lastS (T2.map stP)) ms ds cc ps _).2 = .ok R → _ at f4
      rw [hst2, hl2] at f3 f4
      generalize hA : goneS (goneS (Xb.gN 2) t.toNat) L.length s = A at *
      generalize hD : goneS (difS 16) L.length A.2 = D at *
      generalize hC : rgS (t + 1).toNat D.2 = C at *
      generalize hP : opt (decide (0 < cc)) (goneS (rgS cc.toNat) t.toNat) [] C.2 = P at *
      have hG : restG t L.length (lastS (L.map stP)) s = endG L.length (lastS (L.map stP)) A.1 D.1 C.1 (opt (decide (0 < C.1)) (goneS (rgS C.1.toNat) t.toNat) [] C.2).1 (opt (decide (0 < C.1)) (goneS (rgS C.1.toNat) t.toNat) [] C.2).2 := by
        rw [← hC, ← hD, ← hA]; rfl
      cases hC2 : C.2 with
      | error e =>
        have hPe : ∀ b (f : RD (List Int)), ErrP f → (opt b f [] C.2).2 = .error e := fun b f hf => by rw [hC2]; exact ErrP.opt hf e
        have h1 : P.2 = .error e := by rw [← hP]; exact hPe _ _ (.gone _ _)
        have h2 : (restG t L.length (lastS (L.map stP)) s).2 = .error e := by rw [hG, hPe _ _ (.gone _ _), ErrP.endG]
        rw [h1, ErrP.endG] at f3
        exact ⟨by rw [h2]; exact f3, fun R h => by rw [h2] at h; cases h⟩
      | ok S =>
        have hcc := e3 S hC2
        rw [← hcc, hP] at hG
        have okA : ∃ S, A.2 = .ok S := by
          cases hA2 : A.2 with
          | ok S => exact ⟨S, rfl⟩
          | error e =>
            exfalso
            rw [hA2] at hD
            have h1 : D.2 = .error e := by rw [← hD]; exact ErrP.gone _ _ e
            rw [h1] at hC
            have h2 : C.2 = .error e := by rw [← hC]; exact ErrP.rg _ e
            rw [h2] at hC2; cases hC2
        have okD : ∃ S, D.2 = .ok S := by
          cases hD2 : D.2 with
          | ok S => exact ⟨S, rfl⟩
          | error e =>
            exfalso
            rw [hD2] at hC
            have h2 : C.2 = .error e := by rw [← hC]; exact ErrP.rg _ e
            rw [h2] at hC2; cases hC2
        obtain ⟨SA, hSA⟩ := okA
        obtain ⟨SD, hSD⟩ := okD
        have hms := m3 SA hSA
        have hds := d3 SD hSD
        cases hP2 : P.2 with
        | error e =>
          have h2 : (restG t L.length (lastS (L.map stP)) s).2 = .error e := by rw [hG, hP2, ErrP.endG]
          rw [hP2, ErrP.endG] at f3
          exact ⟨by rw [h2]; exact f3, fun R h => by rw [h2] at h; cases h⟩
        | ok SP =>
          have hpp := hps.2 SP hP2
          rw [← hms, ← hds, ← hpp] at hG
          rw [hG]
          exact ⟨f3, f4⟩
  by_cases hpos : 0 < cc
  · obtain ⟨ps, c4, p1, p2⟩ := protR hB (many := t) (by omega) (st := ⟨id, t, cc, [], T2, []⟩) ⟨by show 1 ≤ cc; omega, by show cc ≤ 100; omega⟩ e2
    obtain ⟨x, c', g1, g2⟩ := fin ps c4 (by rw [decide_eq_true hpos]; exact p2)
    refine ⟨x, c', step1 _ (step2 _ ?_), g2⟩
    rw [bnd e1]
    simp only
    rw [if_pos (by rw [cm_gtr]; simpa using hpos), bnd p1]
    exact g1
  · obtain ⟨x, c', g1, g2⟩ := fin [] c3 (by rw [decide_eq_false hpos]; exact ⟨e2, fun _ _ => rfl⟩)
    refine ⟨x, c', step1 _ (step2 _ ?_), g2⟩
    rw [bnd e1]
    simp only
    rw [if_neg (by rw [cm_gtr]; simpa using hpos)]
    exact g1
def zT : Structure := ⟨0, 0, 0, [], [], []⟩
theorem mkT_st (l : List (Int × Int)) : (l.map mkT).map stP = l := by
  rw [List.map_map]
  conv => rhs; rw [← List.map_id l]
  exact List.map_congr_left fun x _ => rfl
theorem readR {B : List Int} (hB : By B) {c : GBits} {s : RS} (hr : RepX B c s) : ∃ st c', templ_eye_read_y1 none ⟨c⟩ = some (st, ⟨c'⟩) ∧ Tell B st c' (structS s) := by
  unfold templ_eye_read_y1
  obtain ⟨c1, a1, b1, d1⟩ := numX hB (w := 6) (wi := 6) rfl (by decide) hr
  obtain ⟨c2, a2, b2, d2⟩ := numR hB (w := 5) (wi := 5) rfl (by decide) b1
  obtain ⟨L, c3, a3, hT, hl, b3, d3⟩ := laysR hB b2
  rw [bnd a1, bnd a2, bnd a3]
  simp only
  have d22 : (Xb.gN 5 (Xb.gN 6 s).2).1 < 32 := d2.2
  rw [ar_add, w_i64 (by omega) (by omega)]
  obtain ⟨x, c4, e1, e2, e3, e4, e5, e6⟩ := restR hB (id := (Xb.gN 6 s).1) (t := (Xb.gN 5 (Xb.gN 6 s).2).1 + 1) (by omega) hT hl b3
  refine ⟨_, c4, e1, ?_⟩
  rw [structS_eq]
  generalize hI : Xb.gN 6 s = I at *
  generalize hU : Xb.gN 5 I.2 = U at *
  generalize hV : lsS U.2 = V at *
  have hG : bdR (Xb.gN 6) (fun id => bdR (Xb.gN 5) fun t => bdR lsS fun ls => bdR (restG (t + 1) ls.length (lastS ls)) fun x => Xb.pr (⟨id, t + 1, x.2.2.1, x.2.2.2.1, zipT ls x.1 x.2.1 x.2.2.2.2.1, x.2.2.2.2.2⟩ : Structure)) s =
      bdR (restG (U.1 + 1) V.1.length (lastS V.1)) (fun x => Xb.pr (⟨I.1, U.1 + 1, x.2.2.1, x.2.2.2.1, zipT V.1 x.1 x.2.1 x.2.2.2.2.1, x.2.2.2.2.2⟩ : Structure)) V.2 := by
    rw [← hV, ← hU, ← hI]; rfl
  rw [hG]
  cases hV2 : V.2 with
  | error e =>
    rw [hV2, ErrP.restG] at e5
    have : ∀ g : RX → Structure, (bdR (restG (U.1 + 1) V.1.length (lastS V.1)) (fun x => Xb.pr (g x)) (.error e)).2 = .error e := fun g => ErrP.bd .restG (fun _ => .pr _) e
    have h9 := this fun x => ⟨I.1, U.1 + 1, x.2.2.1, x.2.2.2.1, zipT V.1 x.1 x.2.1 x.2.2.2.2.1, x.2.2.2.2.2⟩
    exact ⟨by rw [h9]; exact e5, fun R h => by rw [h9] at h; cases h⟩
  | ok S =>
    have hL := d3 S hV2
    have hLl : L.length = V.1.length := by rw [hL, List.length_map]
    have hLs : L.map stP = V.1 := by rw [hL]; exact mkT_st _
    rw [hLl, hLs, hV2] at e5 e6
    refine ⟨e5, fun R h => ?_⟩
    have hx := e6 R h
    show _ = (⟨I.1, U.1 + 1, (restG (U.1 + 1) V.1.length (lastS V.1) (.ok S)).1.2.2.1, (restG (U.1 + 1) V.1.length (lastS V.1) (.ok S)).1.2.2.2.1, zipT V.1 (restG (U.1 + 1) V.1.length (lastS V.1) (.ok S)).1.1 (restG (U.1 + 1) V.1.length (lastS V.1) (.ok S)).1.2.1 (restG (U.1 + 1) V.1.length (lastS V.1) (.ok S)).1.2.2.2.2.1, (restG (U.1 + 1) V.1.length (lastS V.1) (.ok S)).1.2.2.2.2.2⟩ : Structure)
    rw [← hx]
    have := zip3 (ls := V.1) (ms := x.1) (ds := x.2.1) (cs := x.2.2.2.2.1) (by omega) (by omega) (by omega)
    rw [← this, hL]
/-- what Get tells -/
def getT (c : GBits) (s : RS) : GBits × Structure :=
  match structS s with
  | (st, .ok R) => (⟨c.bytes, 8 * c.bytes.length - R.length, 0⟩, st)
  | (_, .error e) => ({ c with err := e }, zT)
theorem get_eq {c : GBits} (hc : By c.bytes) {s : RS} (hr : RepX c.bytes c s) : templ_Get none c = some (getT c s) := by
  unfold templ_Get getT
  obtain ⟨st, c', a, b, d⟩ := readR hc hr
  rw [bnd a]
  simp only
  generalize structS s = X at *
  obtain ⟨t, z⟩ := X
  cases z with
  | ok R =>
    rw [fine_ok b, if_neg (by decide), d R rfl]
    have h := b.at_ok
    have hb := b.by_
    obtain ⟨x, y, w⟩ := c'
    simp only at h hb ⊢
    rw [hb, h.1, h.2]
  | error e =>
    rw [fine_err b, if_pos (by rfl)]
    have := b.st.1
    simp only at this ⊢
    rw [this]; rfl
end Xb

namespace Xb
open Go

structure SmT (s : Structure) : Prop where
  protect : s.protect.length ≤ 1000
  sizes : s.sizes.length ≤ 1000
  templates : s.templates.length ≤ 1000
  each : ∀ t, t ∈ s.templates → t.marks.length ≤ 1000 ∧ t.diffs.length ≤ 1000 ∧ t.chains.length ≤ 1000 ∧ inK .i64 t.sid ∧ inK .i64 t.tid
theorem gand {α : Type} [Inhabited α] {b : Bool} {m : Option α} {x : α} {F : α → Bool} (h : b = true → m = some x) : (Option.bind (gT b m) fun y => some (b && F y)) = some (b && F x) := by
  cases b
  · rw [gTF]; rfl
  · rw [gTT, h rfl]; rfl
theorem IndexFunc_int_eq {l : List Int} {f : Int → Option Bool} {p : Int → Bool} (hl : l.length ≤ 100000000) (h : ∀ x, x ∈ l → f x = some (p x)) :
    slices_IndexFunc none l f = some (match l.findIdx? p with | some i => (i : Int) | none => -1) := by
  unfold slices_IndexFunc slices_IndexFunc_l1
  exact find_loop (step := fun (s : Int) => slices_IndexFunc_s1 none l f s) (p := p) (hit := fun i => (i : Int)) (miss := -1) (by
    simp only [slices_IndexFunc_s1, cm_lss, decide_eq_true_eq]
    rw [if_neg (by omega)]; rfl) (fun i hi => by
    simp only [slices_IndexFunc_s1, cm_lss, decide_eq_true_eq]
    rw [if_pos (by omega), bnd (ix_some rfl hi), bnd (h _ (List.getElem_mem hi))]
    by_cases hp : p l[i] = true
    · rw [if_pos hp, if_pos hp]; rfl
    · rw [if_neg hp, if_neg hp, ar_add, w_i64 (by omega) (by omega)]; rfl)
theorem ContainsFunc_int_eq {l : List Int} {f : Int → Option Bool} {p : Int → Bool} (hl : l.length ≤ 100000000) (h : ∀ x, x ∈ l → f x = some (p x)) :
    slices_ContainsFunc none l f = some (l.any p) := by
  unfold slices_ContainsFunc
  rw [bnd (IndexFunc_int_eq hl h), cm_geq]
  congr 1
  cases hf : l.findIdx? p with
  | none =>
    rw [List.findIdx?_eq_none_iff] at hf
    have : l.any p = false := by simpa using hf
    rw [this]; decide
  | some i =>
    rw [List.findIdx?_eq_some_iff_getElem] at hf
    obtain ⟨hi, hp, _⟩ := hf
    have : l.any p = true := List.any_eq_true.2 ⟨l[i], List.getElem_mem hi, hp⟩
    rw [this]; simp
def wi (l : List Int) (a b : Int) : Bool := l.all fun n => decide (a ≤ n ∧ n ≤ b)
theorem wi_iff {l : List Int} {a b : Int} : wi l a b = true ↔ ∀ n, n ∈ l → a ≤ n ∧ n ≤ b := by simp [wi]
theorem within_eq {l : List Int} (hl : l.length ≤ 1000) (a b : Int) : templ_within none l a b = some (wi l a b) := by
  unfold templ_within
  rw [bnd (ContainsFunc_int_eq (p := fun n => templ_within_1 n a b) (by omega) fun _ _ => rfl)]
  congr 1
  unfold wi
  rw [Bool.eq_iff_iff]
  simp only [Bool.not_eq_true', List.any_eq_false, List.all_eq_true, templ_within_1, cm_lss, cm_gtr, Bool.or_eq_true, decide_eq_true_eq]
  exact ⟨fun h x hx => by have := h x hx; omega, fun h x hx => by have := h x hx; omega⟩
theorem wrap_pred {n a : Int} (h : inK .i64 n) (ha : 0 ≤ a ∧ a ≤ 1000) : IntKind.i64.wrap (n - 1) = a ↔ n - 1 = a := by
  have := in_i64.1 h
  by_cases h1 : n = -9223372036854775808
  · subst h1
    have : IntKind.i64.wrap (-9223372036854775808 - 1) = 9223372036854775807 := by decide +kernel
    rw [this]; omega
  · rw [w_i64 (by omega) (by omega)]
theorem follows_eq {a b : Template} (ha : inT (stP a)) (h1 : inK .i64 b.sid) (h2 : inK .i64 b.tid) : (templ_follows a b ≠ 3 ↔ okStep (stP a) (stP b)) ∧ (okStep (stP a) (stP b) → templ_follows a b = codeT (stP a) (stP b)) ∧ (templ_follows a b = 0 ↔ stP b = stP a) := by
  obtain ⟨⟨a1, a2⟩, a3, a4⟩ := ha
  change 0 ≤ a.sid at a1; change a.sid ≤ 3 at a2; change 0 ≤ a.tid at a3; change a.tid ≤ 7 at a4
  have e1 : (stP b = stP a) ↔ (b.sid = a.sid ∧ b.tid = a.tid) := by simp [stP]
  have e2 : (stP b = ((stP a).1, (stP a).2 + 1)) ↔ (b.sid = a.sid ∧ b.tid = a.tid + 1) := by simp [stP]
  have e3 : (stP b = ((stP a).1 + 1, 0)) ↔ (b.sid = a.sid + 1 ∧ b.tid = 0) := by simp [stP]
  have f1 : okStep (stP a) (stP b) ↔ ((b.sid = a.sid ∧ b.tid = a.tid) ∨ ((b.sid = a.sid ∧ b.tid = a.tid + 1) ∧ a.tid + 1 ≤ 7) ∨ ((b.sid = a.sid + 1 ∧ b.tid = 0) ∧ a.sid + 1 ≤ 3)) := by
    unfold okStep; rw [e1, e2, e3]; rfl
  have f2 : templ_follows a b = if b.sid = a.sid ∧ b.tid = a.tid then 0 else if b.sid = a.sid ∧ b.tid - 1 = a.tid ∧ b.tid ≤ 7 then 1 else if b.sid - 1 = a.sid ∧ b.sid ≤ 3 ∧ b.tid = 0 then 2 else 3 := by
    unfold templ_follows
    simp only [cm_eql, cm_leq, ar_sub, Bool.and_eq_true, decide_eq_true_eq, and_assoc, wrap_pred h2 (show 0 ≤ a.tid ∧ a.tid ≤ 1000 by omega), wrap_pred h1 (show 0 ≤ a.sid ∧ a.sid ≤ 1000 by omega)]
  rw [f2, f1, e1]
  have f3 : codeT (stP a) (stP b) = if b.sid = a.sid ∧ b.tid = a.tid then 0 else if b.sid = a.sid then 1 else 2 := by
    unfold codeT; simp only [e1]; rfl
  rw [f3]
  refine ⟨?_, ?_, ?_⟩
  · split
    · rename_i h; exact ⟨fun _ => .inl h, fun _ => by decide⟩
    · rename_i g1
      split
      · rename_i h; exact ⟨fun _ => .inr (.inl ⟨⟨h.1, by omega⟩, by omega⟩), fun _ => by decide⟩
      · rename_i g2
        split
        · rename_i h; exact ⟨fun _ => .inr (.inr ⟨⟨by omega, h.2.2⟩, by omega⟩), fun _ => by decide⟩
        · rename_i g3
          refine ⟨fun h => absurd rfl h, fun h => ?_⟩
          omega
  · intro h
    by_cases g1 : b.sid = a.sid ∧ b.tid = a.tid
    · rw [if_pos g1, if_pos g1]
    · rw [if_neg g1, if_neg g1]
      by_cases g2 : b.sid = a.sid
      · rw [if_pos g2, if_pos (by omega)]
      · rw [if_neg g2, if_neg (by omega), if_pos (by omega)]
  · by_cases g1 : b.sid = a.sid ∧ b.tid = a.tid
    · rw [if_pos g1]; exact ⟨fun _ => g1, fun _ => rfl⟩
    · rw [if_neg g1]
      refine ⟨fun h => ?_, fun h => absurd h g1⟩
      split at h
      · cases h
      · split at h <;> cases h
noncomputable def rM (s : Structure) (t : Template) : Bool := @decide (RightM s t) (Classical.propDecidable _)
theorem rM_iff {s : Structure} {t : Template} : rM s t = true ↔ RightM s t := by simp [rM]
theorem template_eq {s : Structure} {t : Template} (h1 : t.marks.length ≤ 1000) (h2 : t.diffs.length ≤ 1000) (h3 : t.chains.length ≤ 1000) : templ_template none s t = some (rM s t) := by
  unfold templ_template
  have key : ∀ (b1 b2 b3 : Bool) (m1 m2 m3 : Option Bool) (x1 x2 x3 : Bool), m1 = some x1 → m2 = some x2 → m3 = some x3 →
      (Option.bind (gT b1 m1) fun y1 => Option.bind (gT ((b1 && y1) && b2) m2) fun y2 => Option.bind (gT ((((b1 && y1) && b2) && y2) && b3) m3) fun y3 => some (((((b1 && y1) && b2) && y2) && b3) && y3)) = some (((((b1 && x1) && b2) && x2) && b3) && x3) := by
    intro b1 b2 b3 m1 m2 m3 x1 x2 x3 e1 e2 e3
    subst e1; subst e2; subst e3
    cases b1 <;> cases x1 <;> cases b2 <;> cases x2 <;> cases b3 <;> cases x3 <;> simp [gTT, gTF]
  rw [key _ _ _ _ _ _ _ _ _ (within_eq h1 0 3) (within_eq h2 1 16) (within_eq h3 0 15)]
  congr 1
  rw [Bool.eq_iff_iff, rM_iff]
  simp only [Bool.and_eq_true, cm_eql, cm_leq, decide_eq_true_eq, wi_iff]
  constructor
  · rintro ⟨⟨⟨⟨⟨a, b⟩, c⟩, d⟩, e⟩, f⟩
    exact ⟨⟨a, b⟩, ⟨by omega, d⟩, ⟨e, f⟩⟩
  · rintro ⟨⟨a, b⟩, ⟨c, d⟩, ⟨e, f⟩⟩
    exact ⟨⟨⟨⟨⟨a, b⟩, by omega⟩, d⟩, e⟩, f⟩
def sizesOk (l : List Size) (last : Int) : Prop := (∀ x, x ∈ l → RightZ x) ∧ (l = [] ∨ (l.length : Int) = last + 1)
theorem right_l2 {s : Structure} (hs : s.sizes.length ≤ 1000) {t : Template} (ht : 0 ≤ t.sid ∧ t.sid ≤ 100) : ∃ x, templ_Right_l2 none s t 0 = some x ∧ (x = true ↔ sizesOk s.sizes t.sid) := by
  unfold templ_Right_l2
  have key : ∀ (m i : Nat), i + m = s.sizes.length → ∃ x, loopG none (fun (q : Int) => templ_Right_s2 none s t q) (i : Int) = some x ∧ (x = true ↔ (∀ z, z ∈ s.sizes.drop i → RightZ z) ∧ (s.sizes = [] ∨ (s.sizes.length : Int) = t.sid + 1)) := by
    intro m
    induction m with
    | zero =>
      intro i hi
      refine ⟨_, loop_inr (r := (cm .eql (s.sizes.length : Int) 0) || (cm .eql (s.sizes.length : Int) (ar .add .i64 t.sid 1))) ?_, ?_⟩
      · unfold templ_Right_s2
        rw [if_neg (by rw [cm_lss]; simp; omega)]; rfl
      · rw [ar_add, w_i64 (by omega) (by omega), cm_eql, cm_eql, List.drop_eq_nil_of_le (by omega)]
        simp only [Bool.or_eq_true, decide_eq_true_eq, Int.natCast_eq_zero, List.length_eq_zero_iff]
        exact ⟨fun h => ⟨fun _ h => absurd h List.not_mem_nil, h⟩, fun h => h.2⟩
    | succ m ih =>
      intro i hi
      have hil : i < s.sizes.length := by omega
      have hd : s.sizes.drop i = s.sizes[i] :: s.sizes.drop (i + 1) := List.drop_eq_getElem_cons hil
      have st : templ_Right_s2 none s t (i : Int) = if wi [s.sizes[i].wide, s.sizes[i].high] 1 65536 = true then some (.inl ((i + 1 : Nat) : Int)) else some (.inr false) := by
        unfold templ_Right_s2
        rw [if_pos (by rw [cm_lss]; simpa using hil), bnd (ix_some rfl hil), bnd (within_eq (by simp) _ _), ar_add, w_i64 (by omega) (by omega)]
        cases wi [s.sizes[i].wide, s.sizes[i].high] 1 65536 <;> rfl
      have hz : wi [s.sizes[i].wide, s.sizes[i].high] 1 65536 = true ↔ RightZ s.sizes[i] := by
        rw [wi_iff]; unfold RightZ
        constructor
        · intro h; exact ⟨h _ (by simp), h _ (by simp)⟩
        · rintro ⟨h1, h2⟩ n hn
          simp only [List.mem_cons, List.not_mem_nil, or_false] at hn
          rcases hn with rfl | rfl
          · exact h1
          · exact h2
      by_cases h : wi [s.sizes[i].wide, s.sizes[i].high] 1 65536 = true
      · obtain ⟨x, e1, e2⟩ := ih (i + 1) (by omega)
        rw [if_pos h] at st
        refine ⟨x, by rw [loop_inl st]; exact e1, ?_⟩
        rw [e2, hd]
        constructor
        · rintro ⟨a, b⟩
          refine ⟨fun z hz' => ?_, b⟩
          rcases List.mem_cons.1 hz' with rfl | hz'
          · exact hz.1 h
          · exact a z hz'
        · rintro ⟨a, b⟩; exact ⟨fun z hz' => a z (List.mem_cons_of_mem _ hz'), b⟩
      · rw [if_neg h] at st
        refine ⟨false, loop_inr st, ?_⟩
        simp only [Bool.false_eq_true, false_iff]
        rintro ⟨a, _⟩
        exact h (hz.2 (a s.sizes[i] (by rw [hd]; exact List.mem_cons_self)))
  have := key s.sizes.length 0 (by omega)
  simpa [sizesOk] using this
instance (t t' : Int × Int) : Decidable (okStep t t') := by unfold okStep; infer_instance
def lastQ (t : Int × Int) (l : List (Int × Int)) : Int := (l.getLast?.getD t).1
theorem lastQ_cons (t a : Int × Int) (l : List (Int × Int)) : lastQ t (a :: l) = lastQ a l := by
  unfold lastQ
  cases l with
  | nil => rfl
  | cons b r => simp [List.getLast?_cons]
theorem right_loop {s : Structure} (hs : SmT s) : ∀ (rest done : List Template) (last : Template), s.templates = done ++ rest → 1 ≤ done.length → inT (stP last) →
    ∃ x, loopG none (fun (q : Int × Structure × Template) => templ_Right_s1 none s q.1 q.2.1 q.2.2) ((done.length : Int), s, last) = some x ∧
      (x = true ↔ (∀ t, t ∈ rest → RightM s t) ∧ chainT (stP last) (rest.map stP) ∧ sizesOk s.sizes (lastQ (stP last) (rest.map stP)))
  | [], done, last, hl, hd, hi => by
    obtain ⟨x, a, b⟩ := right_l2 hs.sizes (t := last) (by have := hi.1; exact ⟨this.1, by have : (stP last).1 ≤ 3 := this.2; change last.sid ≤ 3 at this; omega⟩)
    refine ⟨x, loop_map ?_, ?_⟩
    · show templ_Right_s1 none s done.length s last = _
      unfold templ_Right_s1
      have : s.templates.length = done.length := by rw [hl]; simp
      rw [if_neg (by rw [cm_lss]; simp; omega), a]
    · rw [b]
      exact ⟨fun h => ⟨fun _ h => absurd h List.not_mem_nil, trivial, h⟩, fun h => h.2.2⟩
  | t :: rest, done, last, hl, hd, hi => by
    have ht := hs.each t (by rw [hl]; simp)
    have hlen : s.templates.length = done.length + (rest.length + 1) := by rw [hl]; simp
    have hsm := hs.templates
    obtain ⟨f1, f2, f3⟩ := follows_eq hi ht.2.2.2.1 ht.2.2.2.2
    have hix : ix s.templates (done.length : Int) = some t := by
      rw [hl, ix_some (n := done.length) rfl (by simp)]; simp
    have st : templ_Right_s1 none s (done.length : Int) s last = if rM s t = true ∧ okStep (stP last) (stP t) then some (.inl (((done.length + 1 : Nat) : Int), s, t)) else some (.inr false) := by
      unfold templ_Right_s1
      rw [if_pos (by rw [cm_lss]; simp; omega), bnd hix, bnd (template_eq ht.1 ht.2.1 ht.2.2.1), ar_add, w_i64 (by omega) (by omega)]
      have c0 : cm .eql (done.length : Int) 0 = false := by rw [cm_eql]; exact decide_eq_false (by omega)
      rw [c0, Bool.false_and, Bool.or_false, cm_eql]
      by_cases h : rM s t = true ∧ okStep (stP last) (stP t)
      · rw [if_pos h, if_neg (by simp [h.1, f1.2 h.2])]; rfl
      · rw [if_neg h, if_pos ?_]
        · rfl
        · simp only [Bool.or_eq_true, Bool.not_eq_true', decide_eq_true_eq]
          by_cases h1 : rM s t = true
          · right
            exact Classical.byContradiction fun h2 => h ⟨h1, f1.1 h2⟩
          · left; simpa using h1
    by_cases h : rM s t = true ∧ okStep (stP last) (stP t)
    · rw [if_pos h] at st
      obtain ⟨x, a, b⟩ := right_loop hs rest (done ++ [t]) t (by rw [hl]; simp) (by simp) (h.2.inT hi)
      have e : ((done ++ [t]).length : Int) = ((done.length + 1 : Nat) : Int) := by simp
      rw [e] at a
      refine ⟨x, by rw [loop_inl (s' := (((done.length + 1 : Nat) : Int), s, t)) st]; exact a, ?_⟩
      rw [b]
      simp only [List.map_cons, lastQ_cons]
      constructor
      · rintro ⟨a, b, c⟩
        refine ⟨fun y hy => ?_, ⟨h.2, b⟩, c⟩
        rcases List.mem_cons.1 hy with rfl | hy
        · exact rM_iff.1 h.1
        · exact a y hy
      · rintro ⟨a, b, c⟩
        exact ⟨fun y hy => a y (List.mem_cons_of_mem _ hy), b.2, c⟩
    · rw [if_neg h] at st
      refine ⟨false, loop_inr st, ?_⟩
      simp only [Bool.false_eq_true, false_iff]
      rintro ⟨a, b, c⟩
      exact h ⟨rM_iff.2 (a t (by simp)), b.1⟩
noncomputable def rT (s : Structure) : Bool := @decide (RightT s) (Classical.propDecidable _)
theorem rT_iff {s : Structure} : rT s = true ↔ RightT s := by simp [rT]
theorem lastS_cons (a : Int × Int) (l : List (Int × Int)) : lastS (a :: l) = lastQ a l := by
  unfold lastS
  cases l with
  | nil => rfl
  | cons b r => unfold lastQ; simp [List.getLast?_cons]
theorem right_eq {s : Structure} (hs : SmT s) : templ_Right none s = some (rT s) := by
  suffices h : ∃ x, templ_Right none s = some x ∧ (x = true ↔ RightT s) by
    obtain ⟨x, a, b⟩ := h
    rw [a]; congr 1; rw [Bool.eq_iff_iff, b, rT_iff]
  unfold templ_Right
  have e1 : templ_within none [s.id_] 0 63 = some (decide (0 ≤ s.id_ ∧ s.id_ ≤ 63)) := by rw [within_eq (by simp)]; simp [wi]
  have e2 : templ_within none [s.targets] 1 32 = some (decide (1 ≤ s.targets ∧ s.targets ≤ 32)) := by rw [within_eq (by simp)]; simp [wi]
  have e3 : templ_within none [s.chains] 0 s.targets = some (decide (0 ≤ s.chains ∧ s.chains ≤ s.targets)) := by rw [within_eq (by simp)]; simp [wi]
  rw [bnd e1, e2, e3]
  by_cases c1 : 0 ≤ s.id_ ∧ s.id_ ≤ 63
  · by_cases c2 : 1 ≤ s.targets ∧ s.targets ≤ 32
    · by_cases c3 : 0 ≤ s.chains ∧ s.chains ≤ s.targets
      · rw [decide_eq_true c1, decide_eq_true c2, decide_eq_true c3]
        simp only [gTT, Option.bind_some, Bool.and_self, Bool.not_true, Bool.not_false, Bool.false_or]
        have hp : ∃ y, templ_protected none s = some y ∧ (y = true ↔ if 0 < s.chains then (s.protect.length : Int) = s.targets ∧ ∀ n, n ∈ s.protect → 0 ≤ n ∧ n < s.chains else s.protect = []) := by
          unfold templ_protected
          by_cases hc : s.chains = 0
          · refine ⟨_, if_pos (by rw [cm_eql]; simpa using hc), ?_⟩
            rw [if_neg (by omega), cm_eql]; simp
          · rw [if_neg (by rw [cm_eql]; simpa using hc), if_pos (by omega)]
            refine ⟨_, gand (F := fun x => x) (fun _ => within_eq hs.protect 0 _), ?_⟩
            rw [ar_sub, w_i64 (by omega) (by omega)]
            simp only [Bool.and_eq_true, cm_eql, decide_eq_true_eq, wi_iff]
            exact ⟨fun h => ⟨h.1, fun n hn => by have := h.2 n hn; omega⟩, fun h => ⟨h.1, fun n hn => by have := h.2 n hn; omega⟩⟩
        obtain ⟨y, p1, p2⟩ := hp
        rw [bnd p1]
        cases y with
        | false =>
          refine ⟨false, by simp, ?_⟩
          simp only [Bool.false_eq_true, false_iff] at p2 ⊢
          exact fun h => p2 h.protect
        | true =>
          have p3 := p2.1 rfl
          by_cases hn : 1 ≤ s.templates.length ∧ s.templates.length ≤ 64
          · rw [if_neg (by simp [cm_lss, cm_gtr]; omega)]
            unfold templ_Right_l1
            cases hT : s.templates with
            | nil => rw [hT] at hn; simp at hn
            | cons t rest =>
              have ht := hs.each t (by rw [hT]; simp)
              have hz : inT (stP (Template.mk 0 0 [] [] [])) := by unfold inT stP; decide
              obtain ⟨f1, f2, f3⟩ := follows_eq (b := t) hz ht.2.2.2.1 ht.2.2.2.2
              have st : templ_Right_s1 none s 0 s (Template.mk 0 0 [] [] []) = if rM s t = true ∧ stP t = (0, 0) then some (.inl (((1 : Nat) : Int), s, t)) else some (.inr false) := by
                unfold templ_Right_s1
                have hix : ix s.templates 0 = some t := by rw [hT]; rfl
                rw [if_pos (by rw [cm_lss]; simp; omega), bnd hix, bnd (template_eq ht.1 ht.2.1 ht.2.2.1), ar_add, w_i64 (by omega) (by omega), cm_eql, cm_neq]
                have c0 : cm .eql (0 : Int) 0 = true := rfl
                rw [c0, Bool.true_and]
                by_cases h : rM s t = true ∧ stP t = (0, 0)
                · have : templ_follows (Template.mk 0 0 [] [] []) t = 0 := f3.2 h.2
                  rw [if_pos h, if_neg (by simp [h.1, this])]; rfl
                · rw [if_neg h, if_pos ?_]
                  · rfl
                  · simp only [Bool.or_eq_true, Bool.not_eq_true', decide_eq_true_eq, decide_eq_false_iff_not]
                    by_cases h1 : rM s t = true
                    · right
                      exact fun h2 => h ⟨h1, f3.1 h2⟩
                    · left; left; simpa using h1
              by_cases h : rM s t = true ∧ stP t = (0, 0)
              · rw [if_pos h] at st
                obtain ⟨x, a, b⟩ := right_loop hs rest [t] t (by rw [hT]; rfl) (by simp) (by rw [h.2]; unfold inT; decide)
                refine ⟨x, by rw [loop_inl (s' := (((1 : Nat) : Int), s, t)) st]; exact a, ?_⟩
                rw [b, h.2]
                constructor
                · rintro ⟨g1, g2, g3⟩
                  refine ⟨c1, c2, c3, p3, hn.2, ?_, fun y hy => ?_, ?_⟩
                  · rw [hT]; exact ⟨h.2, g2⟩
                  · rw [hT] at hy
                    rcases List.mem_cons.1 hy with rfl | hy
                    · exact rM_iff.1 h.1
                    · exact g1 y hy
                  · rw [hT, List.map_cons, lastS_cons, h.2]; exact g3
                · rintro ⟨_, _, _, _, _, g6, g7, g8⟩
                  rw [hT] at g6 g7 g8
                  rw [List.map_cons, lastS_cons, h.2] at g8
                  exact ⟨fun y hy => g7 y (List.mem_cons_of_mem _ hy), g6.2, g8⟩
              · rw [if_neg h] at st
                refine ⟨false, loop_inr st, ?_⟩
                simp only [Bool.false_eq_true, false_iff]
                rintro ⟨_, _, _, _, _, g6, g7, _⟩
                rw [hT] at g6 g7
                exact h ⟨rM_iff.2 (g7 t (by simp)), g6.1⟩
          · rw [if_pos (by simp [cm_lss, cm_gtr]; omega)]
            refine ⟨false, rfl, ?_⟩
            simp only [Bool.false_eq_true, false_iff]
            intro h
            have := h.len
            have h6 := h.lays
            refine hn ⟨?_, this⟩
            cases hT : s.templates with
            | nil => rw [hT] at h6; exact h6.elim
            | cons t r => simp
      · rw [decide_eq_true c1, decide_eq_true c2, decide_eq_false c3]
        simp only [gTT, gTF, Option.bind_some, Bool.and_self, Bool.and_false, Bool.not_true, Bool.not_false, Bool.true_or]
        exact ⟨false, by simp, by simp only [Bool.false_eq_true, false_iff]; exact fun h => c3 h.chains⟩
    · rw [decide_eq_true c1, decide_eq_false c2]
      simp only [gTT, gTF, Option.bind_some, Bool.and_self, Bool.and_false, Bool.false_and, Bool.not_true, Bool.not_false, Bool.true_or]
      exact ⟨false, by simp, by simp only [Bool.false_eq_true, false_iff]; exact fun h => c2 h.targets⟩
  · rw [decide_eq_false c1]
    simp only [gTT, gTF, Option.bind_some, Bool.and_self, Bool.and_false, Bool.false_and, Bool.not_true, Bool.not_false, Bool.true_or]
    exact ⟨false, by simp, by simp only [Bool.false_eq_true, false_iff]; exact fun h => c1 h.id⟩
end Xb

namespace Xb
open Go

theorem numK {n : Int} {w : Nat} {wi : Int} (hw : wi = w) (h : w ≤ 62) (h0 : 0 ≤ n) (h1 : n < 2 ^ w) {k : Ink} {L : List Int} (hr : RepK k L) (hl : L.length + (nb w n).length ≤ 500000000) :
    ∃ k', templ_pen_num_y1 none n wi ⟨k⟩ = some ⟨k'⟩ ∧ RepK k' (L ++ nb w n) := by
  subst hw
  rw [nb_len] at hl
  have hp := pow_le64 (n := w + 1) (by omega)
  have e : (2 : Int) ^ (w + 1) = 2 ^ w * 2 := Int.pow_succ _ _
  obtain ⟨k', a, b⟩ := add_rep hr (by omega) h0 h1 (by omega)
  refine ⟨k', ?_, b⟩
  unfold templ_pen_num_y1
  rw [w_u64 h0 (by omega)]
  show (Option.bind (bits_Add none k n w) fun x1 => _) = _
  rw [bnd a]
theorem rangeK {v : Int} {n : Nat} (hn : 1 ≤ n) (hn2 : n ≤ 1000) (h0 : 0 ≤ v) (h1 : v < n) {k : Ink} {L : List Int} (hr : RepK k L) (hl : L.length + (rgW n v).length ≤ 500000000) :
    ∃ k', templ_pen_ranged_y1 none v (n : Int) ⟨k⟩ = some ⟨k'⟩ ∧ RepK k' (L ++ rgW n v) := by
  obtain ⟨q, hq, q1, q2⟩ := bl_facts hn
  have e : (2 : Int) ^ (q + 1) = 2 ^ q * 2 := Int.pow_succ _ _
  have hqle : q ≤ 10 := by
    have := bl_le_of_lt (n := n) (k := 11) (by omega)
    omega
  have hm := hr.many
  have hu := hr.ok.u8
  have hle := hr.ok.le; have hge := hr.ok.ge
  have hlen : L.length ≤ 500000000 := by omega
  have hkl : k.bytes.length ≤ 100000000 := by omega
  have hmi : inK .i64 k.many := in_i64.2 (by omega)
  have hp := pow_le64 (n := q + 1) (by omega)
  unfold templ_pen_ranged_y1
  rw [w_u64 h0 (by omega), w_u64 (by omega) (by omega)]
  show ∃ k', (Option.bind (bits_AddRange none k v n) fun x1 => _) = _ ∧ _
  rw [bnd (bits_AddRange_eq hu hkl hmi (in_u64.2 (by omega)) _)]
  have hadd : ∀ (x : Int) (w : Nat), 0 ≤ x → x < 2 ^ w → w ≤ 20 → L.length + w ≤ 500000000 → ∃ k', addK k x w = (k', 0) ∧ RepK k' (L ++ nb w x) := by
    intro x w x0 x1 hw hlw
    obtain ⟨k', a, b⟩ := add_rep hr (by omega) x0 x1 (by omega)
    have hp2 := pow_le64 (n := w) (by omega)
    rw [bits_Add_eq hu hkl hmi (in_u64.2 (by omega))] at a
    exact ⟨k', Option.some.inj a, b⟩
  have hA : addRangeK k v n = if v < 2 ^ (q + 1) - (n : Int) then addK k v q else addK k (v + (2 ^ (q + 1) - (n : Int))) (q + 1) := by
    unfold addRangeK
    rw [if_neg (by rw [hr.okK]; simp; omega), if_neg (by omega), Int.toNat_natCast, hq, Nat.add_sub_cancel]
  rw [hA]
  unfold rgW at hl ⊢
  rw [hq, Nat.add_sub_cancel] at hl ⊢
  by_cases hc : v < 2 ^ (q + 1) - (n : Int)
  · simp only [if_pos hc] at hl ⊢
    rw [nb_len] at hl
    obtain ⟨k', a, b⟩ := hadd v q h0 (by omega) (by omega) hl
    exact ⟨k', by rw [a], b⟩
  · simp only [if_neg hc] at hl ⊢
    rw [nb_len] at hl
    obtain ⟨k', a, b⟩ := hadd (v + (2 ^ (q + 1) - (n : Int))) (q + 1) (by omega) (by omega) (by omega) hl
    exact ⟨k', by rw [show ((q : Int) + 1) = ((q + 1 : Nat) : Int) from rfl, a], b⟩
theorem pen_loop {α σ ρ : Type} {l : List α} {W : α → List α → List Int} {F : List α → List Int} (F0 : F [] = []) (F1 : ∀ a r, F (a :: r) = W a r ++ F r) (st : Nat → templ_pen → σ) {step : σ → Option (σ ⊕ ρ)}
    (h : ∀ done a r k L, l = done ++ a :: r → RepK k L → L.length + (W a r).length ≤ 500000000 → ∃ k', step (st done.length ⟨k⟩) = some (.inl (st (done.length + 1) ⟨k'⟩)) ∧ RepK k' (L ++ W a r)) :
    ∀ (rest done : List α) (k : Ink) (L : List Int), l = done ++ rest → RepK k L → L.length + (F rest).length ≤ 500000000 → ∃ k', loopG none step (st done.length ⟨k⟩) = loopG none step (st l.length ⟨k'⟩) ∧ RepK k' (L ++ F rest)
  | [], done, k, L, hl, hr, hb => by
    have : done = l := by rw [hl]; simp
    rw [this, F0, List.append_nil]
    exact ⟨k, rfl, hr⟩
  | a :: rest, done, k, L, hl, hr, hb => by
    rw [F1, List.length_append] at hb
    obtain ⟨k1, q1, q2⟩ := h done a rest k L hl hr (by omega)
    rw [loop_inl q1]
    obtain ⟨k2, r1, r2⟩ := pen_loop F0 F1 st h rest (done ++ [a]) k1 (L ++ W a rest) (by rw [hl]; simp) q2 (by rw [List.length_append]; omega)
    rw [List.length_append, List.length_singleton] at r1
    exact ⟨k2, r1, by rw [F1, ← List.append_assoc]; exact r2⟩
theorem ix_done {α : Type} {l done r : List α} {a : α} (hl : l = done ++ a :: r) : ix l (done.length : Int) = some a := by
  rw [hl, ix_some (n := done.length) rfl (by simp)]; simp
theorem lt_done {α : Type} {l done r : List α} {a : α} (hl : l = done ++ a :: r) : cm .lss (done.length : Int) (l.length : Int) = true := by
  rw [hl, cm_lss]; simp; omega
theorem ge_done {α : Type} (l : List α) : ¬ (cm .lss (l.length : Int) (l.length : Int) = true) := by
  rw [cm_lss]; simp
def layF : List Template → List Int
  | [] => []
  | t :: r => (match r with | [] => nb 2 3 | t' :: _ => nb 2 (codeT (stP t) (stP t'))) ++ layF r
theorem layF_eq : ∀ (t : Template) (r : List Template), layF (t :: r) = laysW (stP t) (r.map stP)
  | t, [] => by simp [layF, laysW]
  | t, t' :: r => by rw [layF, layF_eq t' r]; rfl
theorem code_bd {t t' : Int × Int} (h : okStep t t') : 0 ≤ codeT t t' ∧ codeT t t' < 2 ^ 2 := by
  have := code_step h
  exact ⟨this.2.1, by show _ < (4 : Int); omega⟩
theorem layersK {l : List Template} (hl : l.length ≤ 1000) (hw : ∀ t, t ∈ l → inK .i64 t.sid ∧ inK .i64 t.tid) (hc : ∀ done a b r, l = done ++ a :: b :: r → okStep (stP a) (stP b) ∧ inT (stP a)) {k : Ink} {L : List Int} (hr : RepK k L) (hb : L.length + (layF l).length ≤ 500000000) :
    ∃ k', templ_pen_layers_y1 none l ⟨k⟩ = some ⟨k'⟩ ∧ RepK k' (L ++ layF l) := by
  unfold templ_pen_layers_y1 templ_pen_layers_y1_l1
  obtain ⟨k', a, b⟩ := pen_loop (ρ := templ_pen) (l := l) (W := fun t r => match r with | [] => nb 2 3 | t' :: _ => nb 2 (codeT (stP t) (stP t'))) (F := layF) rfl (fun _ _ => rfl) (fun i p => (((i : Nat) : Int), p)) (step := fun (s : Int × templ_pen) => templ_pen_layers_y1_s1 none l s.1 s.2) (fun done a r k L hd hr hb => by
    show ∃ k', templ_pen_layers_y1_s1 none l done.length ⟨k⟩ = _ ∧ _
    have hlen : l.length = done.length + (r.length + 1) := by rw [hd]; simp
    unfold templ_pen_layers_y1_s1
    rw [if_pos (lt_done hd), bnd (ix_done hd), ar_add, w_i64 (by omega) (by omega)]
    have hj : ∀ v, 0 ≤ v → v < 2 ^ 2 → L.length + (nb 2 v).length ≤ 500000000 → ∃ k', templ_pen_layers_y1_j2 none done.length ⟨k⟩ v = some (.inl (((done.length + 1 : Nat) : Int), ⟨k'⟩)) ∧ RepK k' (L ++ nb 2 v) := by
      intro v v0 v1 hb
      obtain ⟨k', q1, q2⟩ := numK (w := 2) (wi := 2) rfl (by decide) v0 v1 hr hb
      refine ⟨k', ?_, q2⟩
      unfold templ_pen_layers_y1_j2
      rw [bnd q1, ar_add, w_i64 (by omega) (by omega)]; rfl
    cases r with
    | nil =>
      rw [if_neg (by rw [cm_lss, hlen]; simp)]
      exact hj 3 (by decide) (by decide) hb
    | cons t' r =>
      have hd2 : l = (done ++ [a]) ++ t' :: r := by rw [hd]; simp
      obtain ⟨h1, h2⟩ := hc done a t' r hd
      have hx : ix l ((done.length : Int) + 1) = some t' := by
        have := ix_done hd2
        rw [List.length_append, List.length_singleton] at this
        exact this
      have hwt := hw t' (by rw [hd]; simp)
      rw [if_pos (by rw [cm_lss, hlen]; simp; omega), bnd hx, (follows_eq h2 hwt.1 hwt.2).2.1 h1]
      exact hj _ (code_bd h1).1 (code_bd h1).2 hb) l [] k L rfl hr hb
  refine ⟨k', ?_, b⟩
  refine a.trans (loop_inr ?_)
  show templ_pen_layers_y1_s1 none l l.length ⟨k'⟩ = _
  unfold templ_pen_layers_y1_s1
  rw [if_neg (ge_done l)]; rfl
theorem marksK {v1 : Int} {t : Template} (hl : t.marks.length ≤ 1000) (hm : ∀ n, n ∈ t.marks → 0 ≤ n ∧ n ≤ 3) (hv : 0 ≤ v1 ∧ v1 ≤ 1000) {k : Ink} {L : List Int} (hr : RepK k L) (hb : L.length + (t.marks.flatMap (nb 2)).length ≤ 500000000) :
    ∃ k', templ_pen_lists_y1_l2 none v1 t 0 ⟨k⟩ = some (.inl (v1 + 1, ⟨k'⟩)) ∧ RepK k' (L ++ t.marks.flatMap (nb 2)) := by
  unfold templ_pen_lists_y1_l2
  obtain ⟨k', a, b⟩ := pen_loop (ρ := (Int × templ_pen) ⊕ templ_pen) (l := t.marks) (W := fun n _ => nb 2 n) (F := fun r => r.flatMap (nb 2)) rfl (fun _ _ => rfl) (fun i p => (((i : Nat) : Int), p)) (step := fun (s : Int × templ_pen) => templ_pen_lists_y1_s2 none v1 t s.1 s.2) (fun done n r k L hd hr hb => by
    show ∃ k', templ_pen_lists_y1_s2 none v1 t done.length ⟨k⟩ = _ ∧ _
    have hlen : t.marks.length = done.length + (r.length + 1) := by rw [hd]; simp
    have hn := hm n (by rw [hd]; simp)
    obtain ⟨k', q1, q2⟩ := numK (w := 2) (wi := 2) rfl (by decide) hn.1 (by show n < (4 : Int); omega) hr hb
    refine ⟨k', ?_, q2⟩
    unfold templ_pen_lists_y1_s2
    rw [if_pos (lt_done hd), bnd (ix_done hd), bnd q1, ar_add, w_i64 (by omega) (by omega)]; rfl) t.marks [] k L rfl hr hb
  refine ⟨k', a.trans (loop_inr ?_), b⟩
  show templ_pen_lists_y1_s2 none v1 t t.marks.length ⟨k'⟩ = _
  unfold templ_pen_lists_y1_s2
  rw [if_neg (ge_done t.marks), ar_add, w_i64 (by omega) (by omega)]; rfl
theorem diffsK {v8 : Int} {t : Template} (hl : t.diffs.length ≤ 1000) (hm : ∀ n, n ∈ t.diffs → 1 ≤ n ∧ n ≤ 16) (hv : 0 ≤ v8 ∧ v8 ≤ 1000) {k : Ink} {L : List Int} (hr : RepK k L) (hb : L.length + (difW t.diffs).length ≤ 500000000) :
    ∃ k', templ_pen_lists_y1_l4 none v8 t 0 ⟨k⟩ = some (.inl (v8 + 1, ⟨k'⟩)) ∧ RepK k' (L ++ difW t.diffs) := by
  unfold templ_pen_lists_y1_l4
  unfold difW at hb ⊢
  rw [List.length_append] at hb
  obtain ⟨k', a, b⟩ := pen_loop (ρ := (Int × templ_pen) ⊕ templ_pen) (l := t.diffs) (W := fun n _ => nb 1 1 ++ nb 4 (n - 1)) (F := fun r => r.flatMap (fun n => nb 1 1 ++ nb 4 (n - 1))) rfl (fun _ _ => rfl) (fun i p => (((i : Nat) : Int), p)) (step := fun (s : Int × templ_pen) => templ_pen_lists_y1_s4 none v8 t s.1 s.2) (fun done n r k L hd hr hb => by
    show ∃ k', templ_pen_lists_y1_s4 none v8 t done.length ⟨k⟩ = _ ∧ _
    have hlen : t.diffs.length = done.length + (r.length + 1) := by rw [hd]; simp
    have hn := hm n (by rw [hd]; simp)
    rw [List.length_append] at hb
    obtain ⟨k1, q1, q2⟩ := numK (n := 1) (w := 1) (wi := 1) rfl (by decide) (by decide) (by decide) hr (by omega)
    obtain ⟨k2, r1, r2⟩ := numK (n := n - 1) (w := 4) (wi := 4) rfl (by decide) (by omega) (by show n - 1 < (16 : Int); omega) q2 (by rw [List.length_append]; omega)
    refine ⟨k2, ?_, by rw [← List.append_assoc]; exact r2⟩
    unfold templ_pen_lists_y1_s4
    rw [if_pos (lt_done hd), bnd (ix_done hd), bnd q1, ar_sub, w_i64 (n := n - 1) (by omega) (by omega), bnd r1, ar_add, w_i64 (by omega) (by omega)]; rfl) t.diffs [] k L rfl hr (by omega)
  obtain ⟨k2, r1, r2⟩ := numK (n := 0) (w := 1) (wi := 1) rfl (by decide) (by decide) (by decide) b (by rw [List.length_append]; omega)
  refine ⟨k2, a.trans (loop_inr ?_), by rw [← List.append_assoc]; exact r2⟩
  show templ_pen_lists_y1_s4 none v8 t t.diffs.length ⟨k'⟩ = _
  unfold templ_pen_lists_y1_s4
  rw [if_neg (ge_done t.diffs), bnd r1, ar_add, w_i64 (by omega) (by omega)]; rfl
theorem listsK {l : List Template} (hl : l.length ≤ 1000) (hm : ∀ t, t ∈ l → (t.marks.length ≤ 1000 ∧ ∀ n, n ∈ t.marks → 0 ≤ n ∧ n ≤ 3) ∧ t.diffs.length ≤ 1000 ∧ ∀ n, n ∈ t.diffs → 1 ≤ n ∧ n ≤ 16) {k : Ink} {L : List Int} (hr : RepK k L)
    (hb : L.length + (l.flatMap (fun t => t.marks.flatMap (nb 2)) ++ l.flatMap (fun t => difW t.diffs)).length ≤ 500000000) :
    ∃ k', templ_pen_lists_y1 none l ⟨k⟩ = some ⟨k'⟩ ∧ RepK k' (L ++ (l.flatMap (fun t => t.marks.flatMap (nb 2)) ++ l.flatMap (fun t => difW t.diffs))) := by
  rw [List.length_append] at hb
  unfold templ_pen_lists_y1 templ_pen_lists_y1_l1
  obtain ⟨k1, a1, b1⟩ := pen_loop (ρ := templ_pen) (l := l) (W := fun t _ => t.marks.flatMap (nb 2)) (F := fun r => r.flatMap (fun t => t.marks.flatMap (nb 2))) rfl (fun _ _ => rfl) (fun i p => (((i : Nat) : Int), p)) (step := fun (s : Int × templ_pen) => templ_pen_lists_y1_s1 none l s.1 s.2) (fun done t r k L hd hr hb => by
    show ∃ k', templ_pen_lists_y1_s1 none l done.length ⟨k⟩ = _ ∧ _
    have hlen : l.length = done.length + (r.length + 1) := by rw [hd]; simp
    have ht := hm t (by rw [hd]; simp)
    obtain ⟨k', q1, q2⟩ := marksK (v1 := done.length) ht.1.1 ht.1.2 (by omega) hr hb
    refine ⟨k', ?_, q2⟩
    unfold templ_pen_lists_y1_s1
    rw [if_pos (lt_done hd), bnd (ix_done hd), q1]; rfl) l [] k L rfl hr (by omega)
  obtain ⟨k2, a2, b2⟩ := pen_loop (ρ := templ_pen) (l := l) (W := fun t _ => difW t.diffs) (F := fun r => r.flatMap (fun t => difW t.diffs)) rfl (fun _ _ => rfl) (fun i p => (((i : Nat) : Int), p)) (step := fun (s : Int × templ_pen) => templ_pen_lists_y1_s3 none l s.1 s.2) (fun done t r k L hd hr hb => by
    show ∃ k', templ_pen_lists_y1_s3 none l done.length ⟨k⟩ = _ ∧ _
    have hlen : l.length = done.length + (r.length + 1) := by rw [hd]; simp
    have ht := hm t (by rw [hd]; simp)
    obtain ⟨k', q1, q2⟩ := diffsK (v8 := done.length) ht.2.1 ht.2.2 (by omega) hr hb
    refine ⟨k', ?_, q2⟩
    unfold templ_pen_lists_y1_s3
    rw [if_pos (lt_done hd), bnd (ix_done hd), q1]; rfl) l [] k1 _ rfl b1 (by rw [List.length_append]; omega)
  refine ⟨k2, a1.trans (loop_map ?_), by rw [← List.append_assoc]; exact b2⟩
  show templ_pen_lists_y1_s1 none l l.length ⟨k1⟩ = _
  unfold templ_pen_lists_y1_s1
  rw [if_neg (ge_done l)]
  congr 1
  unfold templ_pen_lists_y1_l3
  refine a2.trans (loop_inr ?_)
  show templ_pen_lists_y1_s3 none l l.length ⟨k2⟩ = _
  unfold templ_pen_lists_y1_s3
  rw [if_neg (ge_done l)]; rfl
theorem chK {v7 : Int} {t : Template} (hl : t.chains.length ≤ 1000) (hm : ∀ n, n ∈ t.chains → 0 ≤ n ∧ n ≤ 15) (hv : 0 ≤ v7 ∧ v7 ≤ 1000) {k : Ink} {L : List Int} (hr : RepK k L) (hb : L.length + (t.chains.flatMap (nb 4)).length ≤ 500000000) :
    ∃ k', templ_pen_chains_y1_l3 none v7 t 0 ⟨k⟩ = some (.inl (v7 + 1, ⟨k'⟩)) ∧ RepK k' (L ++ t.chains.flatMap (nb 4)) := by
  unfold templ_pen_chains_y1_l3
  obtain ⟨k', a, b⟩ := pen_loop (ρ := (Int × templ_pen) ⊕ templ_pen) (l := t.chains) (W := fun n _ => nb 4 n) (F := fun r => r.flatMap (nb 4)) rfl (fun _ _ => rfl) (fun i p => (((i : Nat) : Int), p)) (step := fun (s : Int × templ_pen) => templ_pen_chains_y1_s3 none v7 t s.1 s.2) (fun done n r k L hd hr hb => by
    show ∃ k', templ_pen_chains_y1_s3 none v7 t done.length ⟨k⟩ = _ ∧ _
    have hlen : t.chains.length = done.length + (r.length + 1) := by rw [hd]; simp
    have hn := hm n (by rw [hd]; simp)
    obtain ⟨k', q1, q2⟩ := numK (w := 4) (wi := 4) rfl (by decide) hn.1 (by show n < (16 : Int); omega) hr hb
    refine ⟨k', ?_, q2⟩
    unfold templ_pen_chains_y1_s3
    rw [if_pos (lt_done hd), bnd (ix_done hd), bnd q1, ar_add, w_i64 (by omega) (by omega)]; rfl) t.chains [] k L rfl hr hb
  refine ⟨k', a.trans (loop_inr ?_), b⟩
  show templ_pen_chains_y1_s3 none v7 t t.chains.length ⟨k'⟩ = _
  unfold templ_pen_chains_y1_s3
  rw [if_neg (ge_done t.chains), ar_add, w_i64 (by omega) (by omega)]; rfl
theorem chainsK {s : Structure} (hs : RightT s) {k : Ink} {L : List Int} (hr : RepK k L)
    (hb : L.length + (rgW (s.targets + 1).toNat s.chains ++ ((if 0 < s.chains then s.protect.flatMap (rgW s.chains.toNat) else []) ++ s.templates.flatMap (fun t => t.chains.flatMap (nb 4)))).length ≤ 500000000) :
    ∃ k', templ_pen_chains_y1 none s ⟨k⟩ = some ⟨k'⟩ ∧ RepK k' (L ++ (rgW (s.targets + 1).toNat s.chains ++ ((if 0 < s.chains then s.protect.flatMap (rgW s.chains.toNat) else []) ++ s.templates.flatMap (fun t => t.chains.flatMap (nb 4))))) := by
  rw [List.length_append, List.length_append] at hb
  have h2 := hs.targets; have h3 := hs.chains; have h5 := hs.len
  unfold templ_pen_chains_y1
  obtain ⟨k1, a1, b1⟩ := rangeK (v := s.chains) (n := (s.targets + 1).toNat) (by omega) (by omega) h3.1 (by omega) hr (by omega)
  have et : ((s.targets + 1).toNat : Int) = ar .add .i64 s.targets 1 := by rw [ar_add, w_i64 (by omega) (by omega)]; omega
  rw [et] at a1
  rw [bnd a1]
  have hprot : s.protect.length ≤ 1000 ∧ ∀ n, n ∈ s.protect → 0 < s.chains ∧ 0 ≤ n ∧ n < s.chains := by
    have := hs.protect
    split at this
    · rename_i h; exact ⟨by omega, fun n hn => ⟨h, this.2 n hn⟩⟩
    · rw [this]; exact ⟨by simp, fun n hn => absurd hn List.not_mem_nil⟩
  have hpe : (if 0 < s.chains then s.protect.flatMap (rgW s.chains.toNat) else []) = s.protect.flatMap (rgW s.chains.toNat) := by
    split
    · rfl
    · rename_i h
      have := hs.protect
      rw [if_neg h] at this
      rw [this]; rfl
  rw [hpe] at hb ⊢
  unfold templ_pen_chains_y1_l1
  obtain ⟨k2, a2, b2⟩ := pen_loop (ρ := templ_pen) (l := s.protect) (W := fun n _ => rgW s.chains.toNat n) (F := fun r => r.flatMap (rgW s.chains.toNat)) rfl (fun _ _ => rfl) (fun i p => ((((i : Nat) : Int), s, p) : Int × Structure × templ_pen)) (step := fun (q : Int × Structure × templ_pen) => templ_pen_chains_y1_s1 none s q.1 q.2.1 q.2.2) (fun done n r k L hd hr hb => by
    show ∃ k', templ_pen_chains_y1_s1 none s done.length s ⟨k⟩ = _ ∧ _
    have hlen : s.protect.length = done.length + (r.length + 1) := by rw [hd]; simp
    have hn := hprot.2 n (by rw [hd]; simp)
    obtain ⟨k', q1, q2⟩ := rangeK (v := n) (n := s.chains.toNat) (by omega) (by omega) hn.2.1 (by omega) hr hb
    rw [show ((s.chains.toNat : Nat) : Int) = s.chains by omega] at q1
    refine ⟨k', ?_, q2⟩
    unfold templ_pen_chains_y1_s1
    rw [if_pos (lt_done hd), bnd (ix_done hd), bnd q1, ar_add, w_i64 (by omega) (by omega)]; rfl) s.protect [] k1 _ rfl b1 (by rw [List.length_append]; omega)
  obtain ⟨k3, a3, b3⟩ := pen_loop (ρ := templ_pen) (l := s.templates) (W := fun t _ => t.chains.flatMap (nb 4)) (F := fun r => r.flatMap (fun t => t.chains.flatMap (nb 4))) rfl (fun _ _ => rfl) (fun i p => (((i : Nat) : Int), p)) (step := fun (q : Int × templ_pen) => templ_pen_chains_y1_s2 none s q.1 q.2) (fun done t r k L hd hr hb => by
    show ∃ k', templ_pen_chains_y1_s2 none s done.length ⟨k⟩ = _ ∧ _
    have hlen : s.templates.length = done.length + (r.length + 1) := by rw [hd]; simp
    have ht := (hs.all t (by rw [hd]; simp)).chains
    obtain ⟨k', q1, q2⟩ := chK (v7 := done.length) (t := t) (by omega) ht.2 (by omega) hr hb
    refine ⟨k', ?_, q2⟩
    unfold templ_pen_chains_y1_s2
    rw [if_pos (lt_done hd), bnd (ix_done hd), q1]; rfl) s.templates [] k2 _ rfl b2 (by rw [List.length_append, List.length_append]; omega)
  refine ⟨k3, a2.trans (loop_map ?_), by simp only [List.append_assoc] at b3 ⊢; exact b3⟩
  show templ_pen_chains_y1_s1 none s s.protect.length s ⟨k2⟩ = _
  unfold templ_pen_chains_y1_s1
  rw [if_neg (ge_done s.protect)]
  congr 1
  unfold templ_pen_chains_y1_l2
  refine a3.trans (loop_inr ?_)
  show templ_pen_chains_y1_s2 none s s.templates.length ⟨k3⟩ = _
  unfold templ_pen_chains_y1_s2
  rw [if_neg (ge_done s.templates)]; rfl
theorem sizesK {s : Structure} {k0 : Ink} (hs : ∀ x, x ∈ s.sizes → RightZ x) (hl : s.sizes.length ≤ 1000) {k : Ink} {L : List Int} (hr : RepK k L) (hb : L.length + (s.sizes.flatMap szW).length ≤ 500000000) :
    ∃ k', templ_Put_l1 none k0 s 0 ⟨k⟩ = some (k', 0) ∧ RepK k' (L ++ s.sizes.flatMap szW) := by
  unfold templ_Put_l1
  obtain ⟨k', a, b⟩ := pen_loop (ρ := Ink × Int) (l := s.sizes) (W := fun x _ => szW x) (F := fun r => r.flatMap szW) rfl (fun _ _ => rfl) (fun i p => (((i : Nat) : Int), p)) (step := fun (q : Int × templ_pen) => templ_Put_s1 none k0 s q.1 q.2) (fun done x r k L hd hr hb => by
    show ∃ k', templ_Put_s1 none k0 s done.length ⟨k⟩ = _ ∧ _
    have hlen : s.sizes.length = done.length + (r.length + 1) := by rw [hd]; simp
    obtain ⟨⟨x1, x2⟩, x3, x4⟩ := hs x (by rw [hd]; simp)
    unfold szW at hb ⊢
    rw [List.length_append] at hb
    obtain ⟨k1, q1, q2⟩ := numK (n := x.wide - 1) (w := 16) (wi := 16) rfl (by decide) (by omega) (by omega) hr (by omega)
    obtain ⟨k2, r1, r2⟩ := numK (n := x.high - 1) (w := 16) (wi := 16) rfl (by decide) (by omega) (by omega) q2 (by rw [List.length_append]; omega)
    refine ⟨k2, ?_, by rw [← List.append_assoc]; exact r2⟩
    unfold templ_Put_s1
    simp only [ar_sub, ar_add]
    rw [if_pos (lt_done hd), bnd (ix_done hd), w_i64 (n := x.wide - 1) (by omega) (by omega), bnd q1, w_i64 (n := x.high - 1) (by omega) (by omega), bnd r1, w_i64 (by omega) (by omega)]; rfl) s.sizes [] k L rfl hr hb
  refine ⟨k', a.trans (loop_inr ?_), b⟩
  show templ_Put_s1 none k0 s s.sizes.length ⟨k'⟩ = _
  unfold templ_Put_s1
  rw [if_neg (ge_done s.sizes)]; rfl
theorem chain_adj : ∀ {done : List Template} {a b : Template} {r : List Template}, chain0 ((done ++ a :: b :: r).map stP) → okStep (stP a) (stP b) ∧ inT (stP a) := by
  have key : ∀ (done : List Template) (t : Int × Int) (a b : Template) (r : List Template), inT t → chainT t ((done ++ a :: b :: r).map stP) → okStep (stP a) (stP b) ∧ inT (stP a) := by
    intro done
    induction done with
    | nil => intro t a b r ht h; exact ⟨h.2.1, h.1.inT ht⟩
    | cons x done ih => intro t a b r ht h; exact ih (stP x) a b r (h.1.inT ht) h.2
  intro done a b r h
  have h0 : inT (0, 0) := by unfold inT; decide
  cases done with
  | nil =>
    obtain ⟨h1, h2⟩ := h
    rw [h1]; exact ⟨h2.1, h0⟩
  | cons x done => exact key done (0, 0) a b r h0 h.2
theorem RightT.sm {s : Structure} (h : RightT s) : SmT s := by
  have h2 := h.targets; have h3 := h.chains; have h6 := h.lays.last
  refine ⟨?_, ?_, by have := h.len; omega, fun t ht => ?_⟩
  · have := h.protect
    split at this
    · omega
    · rw [this]; simp
  · rcases h.sizes.2 with h | h
    · rw [h]; simp
    · omega
  · have hm := h.all t ht
    have h1 := hm.marks; have h4 := hm.diffs; have h5 := hm.chains
    have hi := h.lays.all (stP t) (List.mem_map_of_mem ht)
    obtain ⟨⟨i1, i2⟩, i3, i4⟩ := hi
    change 0 ≤ t.sid at i1; change t.sid ≤ 3 at i2; change 0 ≤ t.tid at i3; change t.tid ≤ 7 at i4
    exact ⟨by omega, by omega, by omega, in_i64.2 (by omega), in_i64.2 (by omega)⟩
theorem stW_eq {s : Structure} (h : RightT s) : stW s = nb 6 s.id_ ++ (nb 5 (s.targets - 1) ++ (layF s.templates ++ ((s.templates.flatMap (fun t => t.marks.flatMap (nb 2)) ++ s.templates.flatMap (fun t => difW t.diffs)) ++
    ((rgW (s.targets + 1).toNat s.chains ++ ((if 0 < s.chains then s.protect.flatMap (rgW s.chains.toNat) else []) ++ s.templates.flatMap (fun t => t.chains.flatMap (nb 4)))) ++ (nb 1 (if s.sizes = [] then 0 else 1) ++ s.sizes.flatMap szW))))) := by
  have e1 : layF s.templates = laysW (0, 0) (s.templates.map stP).tail := by
    have := h.lays
    cases hT : s.templates with
    | nil => rw [hT] at this; exact this.elim
    | cons t r =>
      rw [hT] at this
      rw [layF_eq, this.1]; rfl
  rw [stW, e1]
  simp only [List.flatMap_map, List.append_assoc]
theorem put_ok {s : Structure} (h : RightT s) {k : Ink} {L : List Int} (hr : RepK k L) (hb : L.length + (stW s).length ≤ 500000000) : ∃ k', templ_Put none k s = some (k', 0) ∧ RepK k' (L ++ stW s) := by
  have hsm := h.sm
  have h2 := h.targets; have h1 := h.id
  have hle := hr.ok.le; have hge := hr.ok.ge; have hm := hr.many
  have hkl : k.bytes.length ≤ 100000000 := by omega
  rw [stW_eq h] at hb ⊢
  simp only [List.length_append] at hb
  unfold templ_Put
  have hkr : bits_Right k = some true := by
    rw [bits_Right_eq ⟨hr.ok.u8, by omega⟩ (in_i64.2 (by omega)), hr.okK]
  rw [bnd hkr]
  simp only [Bool.not_true, Bool.not_false, gTT, Bool.false_or]
  rw [bnd (right_eq hsm), rT_iff.2 h, if_neg (by decide)]
  obtain ⟨k1, a1, b1⟩ := numK (n := s.id_) (w := 6) (wi := 6) rfl (by decide) h1.1 (by show _ < (64 : Int); omega) hr (by omega)
  obtain ⟨k2, a2, b2⟩ := numK (n := s.targets - 1) (w := 5) (wi := 5) rfl (by decide) (by omega) (by show _ < (32 : Int); omega) b1 (by simp only [List.length_append]; omega)
  obtain ⟨k3, a3, b3⟩ := layersK (l := s.templates) (by have := h.len; omega) (fun t ht => (hsm.each t ht).2.2.2) (fun done a b r hd => by
    have := h.lays; rw [hd] at this; exact chain_adj this) b2 (by simp only [List.length_append]; omega)
  obtain ⟨k4, a4, b4⟩ := listsK (l := s.templates) (by have := h.len; omega) (fun t ht => by
    have hm := h.all t ht
    have h1 := hm.marks; have h4 := hm.diffs
    exact ⟨⟨by omega, h1.2⟩, by omega, h4.2⟩) b3 (by simp only [List.length_append]; omega)
  obtain ⟨k5, a5, b5⟩ := chainsK h b4 (by simp only [List.length_append]; omega)
  have ez : imin (s.sizes.length : Int) 1 = if s.sizes = [] then 0 else 1 := by
    rw [imin_eq]
    split
    · rename_i h; rw [h]; rfl
    · rename_i h; have := List.length_pos_iff.2 h; omega
  obtain ⟨k6, a6, b6⟩ := numK (n := if s.sizes = [] then 0 else 1) (w := 1) (wi := 1) rfl (by decide) (by split <;> decide) (by split <;> decide) b5 (by simp only [List.length_append]; omega)
  obtain ⟨k7, a7, b7⟩ := sizesK (k0 := k) h.sizes.1 hsm.sizes b6 (by simp only [List.length_append]; omega)
  refine ⟨k7, ?_, by simp only [List.append_assoc] at b7 ⊢; exact b7⟩
  rw [bnd a1, ar_sub, w_i64 (by omega) (by omega), bnd a2, bnd a3, bnd a4, bnd a5, ez, bnd a6]
  exact a7
theorem put_no {s : Structure} (hs : SmT s) {k : Ink} (hu : U8 k.bytes) (hl : k.bytes.length ≤ 100000000) (hm : inK .i64 k.many) (h : ¬ (okK k = true ∧ RightT s)) : templ_Put none k s = some (k, 1) := by
  unfold templ_Put
  rw [bnd (bits_Right_eq ⟨hu, by omega⟩ hm)]
  cases hk : okK k with
  | false => simp only [Bool.not_false, Bool.not_true, gTF, Option.bind_some, Bool.true_or]; rw [if_pos trivial]
  | true =>
    have : rT s = false := by rw [← Bool.not_eq_true, rT_iff]; exact fun q => h ⟨hk, q⟩
    simp only [Bool.not_true, Bool.not_false, gTT, Bool.false_or]
    rw [bnd (right_eq hs), this]; rfl
end Xb

namespace Xb
open Go
/-- texts are the same when the octets are -/
theorem b2s_inj {a b : List Int} (ha : ∀ x, x ∈ a → 0 ≤ x ∧ x ≤ 255) (hb : ∀ x, x ∈ b → 0 ≤ x ∧ x ≤ 255) : b2s a = b2s b ↔ a = b := by
  refine ⟨fun h => ?_, fun h => by rw [h]⟩
  have hi : ∀ (l : List Int), (∀ x, x ∈ l → 0 ≤ x ∧ x ≤ 255) → (b2s l).map (fun u => (u.toNat : Int)) = l := by
    intro l hl
    unfold b2s
    rw [List.map_map]
    conv => rhs; rw [← List.map_id l]
    apply List.map_congr_left
    intro x hx
    obtain ⟨h0, h1⟩ := hl x hx
    simp
    omega
  rw [← hi a ha, ← hi b hb, h]
theorem sc_b2s {a b : List Int} (ha : ∀ x, x ∈ a → 0 ≤ x ∧ x ≤ 255) (hb : ∀ x, x ∈ b → 0 ≤ x ∧ x ≤ 255) : sc .eql (b2s a) (b2s b) = decide (a = b) := by
  simp only [sc]
  by_cases h : a = b
  · subst h; simp
  · simp [h]; exact fun e => h ((b2s_inj ha hb).1 e)
end Xb

namespace Xb
open Go

theorem flat_le {α : Type} {W : α → List Int} {n : Nat} : ∀ {l : List α}, (∀ a, a ∈ l → (W a).length ≤ n) → (l.flatMap W).length ≤ n * l.length
  | [], _ => by simp
  | a :: l, h => by
    have h1 := h a (by simp)
    have h2 := flat_le (l := l) fun x hx => h x (by simp [hx])
    rw [List.flatMap_cons, List.length_append, List.length_cons, Nat.mul_succ]; omega
theorem layF_len : ∀ l : List Template, (layF l).length = 2 * l.length
  | [] => rfl
  | [t] => by simp [layF, nb_len]
  | t :: t' :: r => by
    have := layF_len (t' :: r)
    rw [layF, List.length_append, this]
    simp only [nb_len, List.length_cons]; omega
theorem bl_small {n : Nat} (h : n ≤ 63) : bl n ≤ 6 := bl_le_of_lt (k := 6) (by omega)
theorem stW_len {s : Structure} (h : RightT s) : (stW s).length ≤ 40000 ∧ 1 ≤ (stW s).length := by
  rw [stW_eq h]
  have h2 := h.targets; have h3 := h.chains; have h5 := h.len; have h6 := h.lays.last
  have a1 : (s.templates.flatMap (fun t => t.marks.flatMap (nb 2))).length ≤ 64 * s.templates.length := flat_le fun t ht => by
    have := (h.all t ht).marks.1
    have := flat_le (W := nb 2) (n := 2) (l := t.marks) fun _ _ => by rw [nb_len]; exact Nat.le_refl _
    omega
  have a2 : (s.templates.flatMap (fun t => difW t.diffs)).length ≤ 81 * s.templates.length := flat_le fun t ht => by
    have := (h.all t ht).diffs.1
    have := flat_le (W := fun n => nb 1 1 ++ nb 4 (n - 1)) (n := 5) (l := t.diffs) fun _ _ => by rw [List.length_append, nb_len, nb_len]; exact Nat.le_refl _
    unfold difW
    rw [List.length_append, nb_len]; omega
  have a3 : (s.templates.flatMap (fun t => t.chains.flatMap (nb 4))).length ≤ 128 * s.templates.length := flat_le fun t ht => by
    have := (h.all t ht).chains.1
    have := flat_le (W := nb 4) (n := 4) (l := t.chains) fun _ _ => by rw [nb_len]; exact Nat.le_refl _
    omega
  have a4 : (rgW (s.targets + 1).toNat s.chains).length ≤ 6 := Nat.le_trans (rgW_len (by omega) _) (bl_small (by omega))
  have a5 : (if 0 < s.chains then s.protect.flatMap (rgW s.chains.toNat) else []).length ≤ 200 := by
    have hp := h.protect
    split
    · rename_i hc
      rw [if_pos hc] at hp
      have := flat_le (W := rgW s.chains.toNat) (n := 6) (l := s.protect) fun _ _ => Nat.le_trans (rgW_len (by omega) _) (bl_small (by omega))
      omega
    · simp
  have a6 : (s.sizes.flatMap szW).length ≤ 32 * s.sizes.length := flat_le fun x _ => by rw [szW, List.length_append, nb_len, nb_len]; exact Nat.le_refl _
  have a7 : s.sizes.length ≤ 4 := by
    rcases h.sizes.2 with e | e
    · rw [e]; simp
    · omega
  simp only [List.length_append, nb_len, layF_len]
  omega

theorem same_loopG {α σ : Type} [DecidableEq α] {a b : List α} (hl : a.length = b.length) {step : σ → Option (σ ⊕ Bool)} (st : Nat → σ) {r : Bool} (hend : step (st a.length) = some (.inr r))
    (h : ∀ i (hi : i < a.length) (hi' : i < b.length), step (st i) = if a[i] ≠ b[i] then some (.inr false) else some (.inl (st (i + 1)))) :
    loopG none step (st 0) = some (decide (a = b) && r) := by
  have key : ∀ m i, i + m = a.length → a.take i = b.take i → loopG none step (st i) = some (decide (a = b) && r) := by
    intro m
    induction m with
    | zero =>
      intro i hi ht
      have e : i = a.length := by omega
      rw [loopG_eq, e, hend]
      rw [List.take_of_length_le (by omega), List.take_of_length_le (by omega)] at ht
      simp [ht]
    | succ m ih =>
      intro i hi ht
      have hia : i < a.length := by omega
      have hib : i < b.length := by omega
      rw [loopG_eq, h i hia hib]
      by_cases hne : a[i] = b[i]
      · rw [if_neg (by simpa using hne)]
        refine ih (i + 1) (by omega) ?_
        rw [List.take_add_one, List.take_add_one, ht, List.getElem?_eq_getElem hia, List.getElem?_eq_getElem hib, hne]
      · rw [if_pos (by simpa using hne)]
        have : a ≠ b := fun e => hne (by subst e; rfl)
        simp [this]
  exact key a.length 0 (by omega) (by simp)
theorem equal_eq {a b : List Int} (ha : a.length ≤ 100000) : slices_Equal_int none a b = some (decide (a = b)) := by
  unfold slices_Equal_int slices_Equal_int_l1
  by_cases hl : a.length = b.length
  · rw [if_neg (by rw [cm_neq]; simp; omega)]
    refine same_loop (step := fun (s : Int) => slices_Equal_int_s1 none a b s) hl (by
      simp only [slices_Equal_int_s1, cm_lss, decide_eq_true_eq]
      rw [if_neg (by omega)]; rfl) (fun i hi hi' => by
      simp only [slices_Equal_int_s1, cm_lss, decide_eq_true_eq]
      rw [if_pos (by omega), bnd (ix_some rfl hi), bnd (ix_some rfl hi'), cm_neq]
      by_cases hp : a[i] = b[i]
      · rw [if_neg (by simpa using hp), if_neg (by simpa using hp), ar_add, w_i64 (by omega) (by omega)]; rfl
      · rw [if_pos (by simpa using hp), if_pos (by simpa using hp)]; rfl)
  · rw [if_pos (by rw [cm_neq]; simp; omega)]
    have : a ≠ b := fun e => hl (by rw [e])
    simp [this]
theorem equalZ_eq {a b : List Size} (ha : a.length ≤ 100000) : slices_Equal_Size none a b = some (decide (a = b)) := by
  unfold slices_Equal_Size slices_Equal_Size_l1
  by_cases hl : a.length = b.length
  · rw [if_neg (by rw [cm_neq]; simp; omega)]
    refine same_loop (step := fun (s : Int) => slices_Equal_Size_s1 none a b s) hl (by
      simp only [slices_Equal_Size_s1, cm_lss, decide_eq_true_eq]
      rw [if_neg (by omega)]; rfl) (fun i hi hi' => by
      simp only [slices_Equal_Size_s1, cm_lss, decide_eq_true_eq]
      rw [if_pos (by omega), bnd (ix_some rfl hi), bnd (ix_some rfl hi')]
      have e : (!(a[i].wide == b[i].wide && (a[i].high == b[i].high && true))) = decide (a[i] ≠ b[i]) := by
        rw [Bool.eq_iff_iff]
        generalize a[i] = x
        generalize b[i] = y
        obtain ⟨x1, x2⟩ := x; obtain ⟨y1, y2⟩ := y
        simp
      rw [e]
      by_cases hp : a[i] = b[i]
      · rw [if_neg (by simpa using hp), if_neg (by simpa using hp), ar_add, w_i64 (by omega) (by omega)]; rfl
      · rw [if_pos (by simpa using hp), if_pos (by simpa using hp)]; rfl)
  · rw [if_pos (by rw [cm_neq]; simp; omega)]
    have : a ≠ b := fun e => hl (by rw [e])
    simp [this]
theorem gT3 {b1 : Bool} {m1 m2 m3 : Option Bool} {x1 x2 x3 : Bool} (e1 : m1 = some x1) (e2 : m2 = some x2) (e3 : m3 = some x3) :
    (Option.bind (gT b1 m1) fun y1 => Option.bind (gT (b1 && y1) m2) fun y2 => Option.bind (gT ((b1 && y1) && y2) m3) fun y3 => some (((b1 && y1) && y2) && y3)) = some (((b1 && x1) && x2) && x3) := by
  subst e1; subst e2; subst e3
  cases b1 <;> cases x1 <;> cases x2 <;> cases x3 <;> simp [gTT, gTF]
theorem same1_eq {x y : Template} (h1 : x.marks.length ≤ 1000) (h2 : x.diffs.length ≤ 1000) (h3 : x.chains.length ≤ 1000) : templ_Same_1 none x y = some (decide (x = y)) := by
  unfold templ_Same_1
  rw [gT3 (equal_eq (by omega)) (equal_eq (by omega)) (equal_eq (by omega))]
  congr 1
  rw [Bool.eq_iff_iff]
  obtain ⟨a1, a2, a3, a4, a5⟩ := x; obtain ⟨b1, b2, b3, b4, b5⟩ := y
  simp only [Bool.and_eq_true, cm_eql, decide_eq_true_eq, Template.mk.injEq, and_assoc]
theorem equalF_eq {a b : List Template} (ha : a.length ≤ 1000) (h : ∀ t, t ∈ a → t.marks.length ≤ 1000 ∧ t.diffs.length ≤ 1000 ∧ t.chains.length ≤ 1000) : slices_EqualFunc_f0 none a b = some (decide (a = b)) := by
  unfold slices_EqualFunc_f0 slices_EqualFunc_f0_l1
  by_cases hl : a.length = b.length
  · rw [if_neg (by rw [cm_neq]; simp; omega)]
    refine same_loop (step := fun (s : Int) => slices_EqualFunc_f0_s1 none a b s) hl (by
      simp only [slices_EqualFunc_f0_s1, cm_lss, decide_eq_true_eq]
      rw [if_neg (by omega)]; rfl) (fun i hi hi' => by
      simp only [slices_EqualFunc_f0_s1, cm_lss, decide_eq_true_eq]
      have ht := h a[i] (List.getElem_mem hi)
      rw [if_pos (by omega), bnd (ix_some rfl hi), bnd (ix_some rfl hi'), bnd (same1_eq ht.1 ht.2.1 ht.2.2)]
      by_cases hp : a[i] = b[i]
      · rw [if_neg (by simpa using hp), if_neg (by simpa using hp), ar_add, w_i64 (by omega) (by omega)]; rfl
      · rw [if_pos (by simpa using hp), if_pos (by simpa using hp)]; rfl)
  · rw [if_pos (by rw [cm_neq]; simp; omega)]
    have : a ≠ b := fun e => hl (by rw [e])
    simp [this]
theorem tsame_eq {a b : Structure} (ha : SmT a) : templ_Same none a b = some (decide (a = b)) := by
  have h1 := ha.protect; have h2 := ha.sizes
  unfold templ_Same
  rw [gT3 (equal_eq (by omega)) (equalZ_eq (by omega)) (equalF_eq ha.templates fun t ht => by have := ha.each t ht; exact ⟨this.1, this.2.1, this.2.2.1⟩)]
  congr 1
  rw [Bool.eq_iff_iff]
  obtain ⟨a1, a2, a3, a4, a5, a6⟩ := a; obtain ⟨b1, b2, b3, b4, b5, b6⟩ := b
  simp only [Bool.and_eq_true, cm_eql, decide_eq_true_eq, Structure.mk.injEq, and_assoc]
  constructor
  · rintro ⟨a, b, c, d, e, f⟩; exact ⟨a, b, c, d, f, e⟩
  · rintro ⟨a, b, c, d, f, e⟩; exact ⟨a, b, c, d, e, f⟩
theorem all_loopG {α σ : Type} {a : List α} {step : σ → Option (σ ⊕ Bool)} (st : Nat → σ) {p : α → Bool} {r : Bool} (hend : step (st a.length) = some (.inr r))
    (h : ∀ i (hi : i < a.length), step (st i) = if p a[i] = true then some (.inl (st (i + 1))) else some (.inr false)) :
    loopG none step (st 0) = some (a.all p && r) := by
  have key : ∀ m i, i + m = a.length → (∀ x, x ∈ a.take i → p x = true) → loopG none step (st i) = some (a.all p && r) := by
    intro m
    induction m with
    | zero =>
      intro i hi ht
      have e : i = a.length := by omega
      rw [loopG_eq, e, hend]
      rw [List.take_of_length_le (by omega)] at ht
      have : a.all p = true := List.all_eq_true.2 ht
      simp [this]
    | succ m ih =>
      intro i hi ht
      have hia : i < a.length := by omega
      rw [loopG_eq, h i hia]
      by_cases hne : p a[i] = true
      · rw [if_pos hne]
        refine ih (i + 1) (by omega) fun x hx => ?_
        rw [List.take_add_one, List.getElem?_eq_getElem hia] at hx
        rcases List.mem_append.1 hx with hx | hx
        · exact ht x hx
        · simp at hx; rw [hx]; exact hne
      · rw [if_neg hne]
        have : a.all p = false := by
          rw [← Bool.not_eq_true, List.all_eq_true]
          exact fun q => hne (q _ (List.getElem_mem hia))
        simp [this]
  exact key a.length 0 (by omega) (by simp)
theorem tshort_eq {s : Structure} (hw : wf_Structure s) : ∃ x, ref26_Short none s = some x ∧ (x = true → SmT s) := by
  unfold ref26_Short ref26_Short_l1
  have hwt : s.templates.length ≤ maxLen ∧ ∀ x, x ∈ s.templates → wf_Template x := hw.2.2.2.2.1
  have st : ∀ i : Nat, i < 99 → ∀ hi : i < s.templates.length, ref26_Short_s1 none s (i : Int) = if decide (s.templates[i].marks.length ≤ 99 ∧ s.templates[i].diffs.length ≤ 99 ∧ s.templates[i].chains.length ≤ 99) = true then some (.inl ((i + 1 : Nat) : Int)) else some (.inr false) := by
    intro i h2 hi
    unfold ref26_Short_s1
    rw [if_pos (by simp [cm_lss, hi]; omega), bnd (ix_some rfl hi), cm_gtr, cm_gtr, cm_gtr]
    by_cases q : s.templates[i].marks.length ≤ 99 ∧ s.templates[i].diffs.length ≤ 99 ∧ s.templates[i].chains.length ≤ 99
    · rw [if_neg (by simp; omega), if_pos (by simpa using q), ar_add, w_i64 (by omega) (by omega)]; rfl
    · rw [if_pos (by simp only [Bool.or_eq_true, decide_eq_true_eq]; omega), if_neg (by simp only [decide_eq_true_eq]; exact q)]; rfl
  have en : ∀ i : Nat, ¬ (i < s.templates.length ∧ i < 99) → ref26_Short_s1 none s (i : Int) = some (.inr (decide (s.templates.length ≤ 99 ∧ s.protect.length ≤ 99 ∧ s.sizes.length ≤ 99))) := by
    intro i h
    unfold ref26_Short_s1
    rw [if_neg (by simp [cm_lss]; omega)]
    show some (Sum.inr _) = _
    congr 2
    rw [Bool.eq_iff_iff]
    simp only [cm_leq, Bool.and_eq_true, decide_eq_true_eq]; omega
  by_cases hc : s.templates.length ≤ 99
  · have := all_loopG (step := fun (q : Int) => ref26_Short_s1 none s q) (a := s.templates) (fun i => ((i : Nat) : Int)) (p := fun t => decide (t.marks.length ≤ 99 ∧ t.diffs.length ≤ 99 ∧ t.chains.length ≤ 99)) (en s.templates.length (by omega)) (fun i hi => st i (by omega) hi)
    refine ⟨_, this, fun h => ?_⟩
    simp only [Bool.and_eq_true, List.all_eq_true, decide_eq_true_eq] at h
    refine ⟨by omega, by omega, by omega, fun t ht => ?_⟩
    have := h.1 t ht
    have hwx := hwt.2 t ht
    exact ⟨by omega, by omega, by omega, hwx.1, hwx.2.1⟩
  · have hlen : (s.templates.take 99).length = 99 := by rw [List.length_take]; omega
    have := all_loopG (step := fun (q : Int) => ref26_Short_s1 none s q) (a := s.templates.take 99) (fun i => ((i : Nat) : Int)) (p := fun t => decide (t.marks.length ≤ 99 ∧ t.diffs.length ≤ 99 ∧ t.chains.length ≤ 99)) (en _ (by omega)) (fun i hi => by
      rw [List.getElem_take]; exact st i (by omega) (by omega))
    refine ⟨_, this, fun h => ?_⟩
    simp only [Bool.and_eq_true, decide_eq_true_eq] at h
    omega
end Xb

namespace Xb
open Go

/-! frames -/
def tS : RD Bool := bdR (gN 1) fun a => pr (decide (a = 1))
def wb (b : Bool) : List Int := nb 1 (if b then 1 else 0)
theorem ErrP.tS : ErrP tS := .bd (.gN 1) fun _ => .pr _
theorem Ex.tS : Ex tS (fun b X => X = wb b) := by
  refine (Ex.bd (.gN 1) (fun _ => .pr _) fun a _ _ => Ex.pr (decide (a = 1))).iff fun b X => ⟨?_, ?_⟩
  · rintro ⟨a, X1, X2, ⟨⟨a0, a1⟩, rfl⟩, ⟨rfl, rfl⟩, rfl⟩
    have a2 : a < 2 := a1
    have : a = 0 ∨ a = 1 := by omega
    rcases this with rfl | rfl <;> rfl
  · rintro rfl
    exact ⟨if b then 1 else 0, _, [], ⟨by cases b <;> decide, rfl⟩, ⟨by cases b <;> rfl, rfl⟩, by rw [List.append_nil]; rfl⟩
def needS (ok : Bool) (e : Int) : RD Unit := fun s => ((), if ok then s else match s with | .error x => .error x | .ok _ => .error e)
theorem ErrP.need (ok : Bool) (e : Int) : ErrP (needS ok e) := fun x => by unfold needS; cases ok <;> rfl
theorem Ex.need (ok : Bool) (e : Int) : Ex (needS ok e) (fun _ X => ok = true ∧ X = []) := by
  refine ⟨.need ok e, fun a X h => ?_, fun R a rest _ h => ?_⟩
  · obtain ⟨rfl, rfl⟩ := h
    exact ⟨fun _ => rfl, fun R T h hT => absurd (List.append_eq_nil_iff.1 h.symm).2 hT⟩
  · unfold needS at h
    cases ok with
    | true => cases h; exact ⟨[], rfl, rfl, rfl⟩
    | false => cases h
/-- diffs of a frame: each in groups of four bits -/
def difA : Nat → RD (List Int)
  | 0 => bdR (gN 2) fun g => if g = 0 then pr [] else failS []
  | j + 1 => bdR (gN 2) fun g => if g = 0 then pr [] else bdR (gN (4 * g).toNat) fun a => bdR (difA j) fun l => pr ((a + 1) :: l)
inductive DifQ : Nat → List Int → List Int → Prop
  | nil (j : Nat) : DifQ j [] (nb 2 0)
  | cons {j : Nat} {n g : Int} {l D : List Int} : 1 ≤ g → g ≤ 3 → 1 ≤ n → n ≤ 2 ^ (4 * g).toNat → DifQ j l D → DifQ (j + 1) (n :: l) (nb 2 g ++ (nb (4 * g).toNat (n - 1) ++ D))
theorem ErrP.difA : ∀ j, ErrP (difA j)
  | 0 => .bd (.gN 2) fun _ => .ite (.pr _) (.fail _)
  | j + 1 => .bd (.gN 2) fun _ => .ite (.pr _) (.bd (.gN _) fun _ => .bd (ErrP.difA j) fun _ => .pr _)
theorem Ex.difA : ∀ j, Ex (difA j) (DifQ j)
  | 0 => by
    refine (Ex.bd (Q := fun g l X => if g = 0 then l = [] ∧ X = [] else False) (.gN 2) (fun _ => .ite (.pr _) (.fail _)) (fun g X _ => ?_)).iff fun l X => ⟨?_, ?_⟩
    · split
      · exact (Ex.pr ([] : List Int)).iff fun _ _ => Iff.rfl
      · exact (Ex.fail ([] : List Int)).iff fun _ _ => Iff.rfl
    · rintro ⟨g, X1, X2, ⟨_, e1⟩, h, e2⟩
      split at h
      · rename_i hg
        rw [e2, e1, h.1, h.2, hg, List.append_nil]; exact .nil 0
      · exact h.elim
    · intro h
      cases h
      exact ⟨0, _, [], ⟨by decide, rfl⟩, by rw [if_pos rfl]; exact ⟨rfl, rfl⟩, by rw [List.append_nil]⟩
  | j + 1 => by
    refine (Ex.bd (Q := fun g l X => if g = 0 then l = [] ∧ X = [] else ∃ a X1 X2, ((0 ≤ a ∧ a < 2 ^ (4 * g).toNat) ∧ X1 = nb (4 * g).toNat a) ∧ (∃ q Y1 Y2, DifQ j q Y1 ∧ (l = (a + 1) :: q ∧ Y2 = []) ∧ X2 = Y1 ++ Y2) ∧ X = X1 ++ X2) (.gN 2) (fun _ => .ite (.pr _) (.bd (.gN _) fun _ => .bd (.difA j) fun _ => .pr _)) (fun g X _ => ?_)).iff fun l X => ⟨?_, ?_⟩
    · split
      · exact (Ex.pr ([] : List Int)).iff fun _ _ => Iff.rfl
      · exact (Ex.bd (.gN _) (fun _ => .bd (.difA j) fun _ => .pr _) fun a _ _ => Ex.bd (Ex.difA j) (fun _ => .pr _) fun q _ _ => Ex.pr ((a + 1) :: q)).iff fun _ _ => Iff.rfl
    · rintro ⟨g, X1, X2, ⟨⟨g0, g1⟩, e1⟩, h, e2⟩
      have g2 : g < 4 := g1
      split at h
      · rename_i hg
        rw [e2, e1, h.1, h.2, hg, List.append_nil]; exact .nil _
      · rename_i hg
        obtain ⟨a, Y1, Y2, ⟨⟨a0, a1⟩, e3⟩, ⟨q, Z1, Z2, hq, ⟨e4, e5⟩, e6⟩, e7⟩ := h
        rw [e2, e1, e7, e3, e6, e5, e4, List.append_nil]
        have := DifQ.cons (n := a + 1) (g := g) (by omega) (by omega) (by omega) (by omega) hq
        rwa [Int.add_sub_cancel] at this
    · intro h
      cases h with
      | nil => exact ⟨0, _, [], ⟨by decide, rfl⟩, by rw [if_pos rfl]; exact ⟨rfl, rfl⟩, by rw [List.append_nil]⟩
      | cons h1 h2 h3 h4 h5 =>
        rename_i n g q D
        refine ⟨g, _, _, ⟨⟨by omega, by show g < (4 : Int); omega⟩, rfl⟩, ?_, rfl⟩
        rw [if_neg (by omega)]
        exact ⟨n - 1, _, _, ⟨⟨by omega, by omega⟩, rfl⟩, ⟨q, D, [], h5, ⟨by rw [Int.sub_add_cancel], rfl⟩, by rw [List.append_nil]⟩, rfl⟩
theorem pow4g {g : Int} (h1 : 1 ≤ g) (h2 : g ≤ 3) : (2 : Int) ^ (4 * g).toNat ≤ 4096 := by
  have : g = 1 ∨ g = 2 ∨ g = 3 := by omega
  rcases this with rfl | rfl | rfl <;> decide
theorem DifQ.right {j : Nat} {l D : List Int} (h : DifQ j l D) : l.length ≤ j ∧ ∀ n, n ∈ l → 1 ≤ n ∧ n ≤ 4096 := by
  induction h with
  | nil => exact ⟨by simp, fun _ h => absurd h List.not_mem_nil⟩
  | cons h1 h2 h3 h4 _ ih =>
    refine ⟨by simp; omega, fun n hn => ?_⟩
    rcases List.mem_cons.1 hn with rfl | hn
    · have := pow4g h1 h2; omega
    · exact ih.2 n hn
/-- groups that a diff needs -/
def grp (n : Int) : Int := if n ≤ 16 then 1 else if n ≤ 256 then 2 else 3
def difAW (l : List Int) : List Int := l.flatMap (fun n => nb 2 (grp n) ++ nb (4 * grp n).toNat (n - 1)) ++ nb 2 0
theorem grp_bd {n : Int} (h2 : n ≤ 4096) : 1 ≤ grp n ∧ grp n ≤ 3 ∧ n ≤ 2 ^ (4 * grp n).toNat := by
  unfold grp
  split
  · exact ⟨by decide, by decide, by show n ≤ 2 ^ 4; omega⟩
  · split
    · exact ⟨by decide, by decide, by show n ≤ 2 ^ 8; omega⟩
    · exact ⟨by decide, by decide, by show n ≤ 2 ^ 12; omega⟩
theorem DifQ.of : ∀ {l : List Int} {j : Nat}, l.length ≤ j → (∀ n, n ∈ l → 1 ≤ n ∧ n ≤ 4096) → DifQ j l (difAW l)
  | [], j, _, _ => .nil j
  | n :: l, 0, h, _ => absurd h (by simp)
  | n :: l, j + 1, h, hl => by
    have hn := hl n (by simp)
    obtain ⟨g1, g2, g3⟩ := grp_bd hn.2
    have := DifQ.cons g1 g2 hn.1 g3 (DifQ.of (l := l) (j := j) (by simpa using h) fun x hx => hl x (by simp [hx]))
    rw [difAW, List.flatMap_cons, List.append_assoc, List.append_assoc]
    exact this

abbrev FL := Bool × Bool × Bool × Bool × Bool × Structure
def zFL : FL := (false, false, false, false, false, zT)
def flS1 : RD FL := bdR tS fun hs => bdR tS fun ha => bdR tS fun om => bdR tS fun od => bdR tS fun oc => bdR (opt hs structS zT) fun st => pr (hs, ha, om, od, oc, st)
def flS (more : Bool) : RD FL := opt more flS1 zFL
def flW (x : FL) : List Int := wb x.1 ++ (wb x.2.1 ++ (wb x.2.2.1 ++ (wb x.2.2.2.1 ++ (wb x.2.2.2.2.1 ++ (if x.1 then stW x.2.2.2.2.2 else [])))))
theorem ErrP.fl1 : ErrP flS1 := .bd .tS fun _ => .bd .tS fun _ => .bd .tS fun _ => .bd .tS fun _ => .bd .tS fun _ => .bd (.opt .structS) fun _ => .pr _
theorem ExF.fl1 : ExF flS1 (fun x => if x.1 then RightT x.2.2.2.2.2 else x.2.2.2.2.2 = zT) flW := by
  refine (Ex.bd Ex.tS (fun _ => .bd .tS fun _ => .bd .tS fun _ => .bd .tS fun _ => .bd .tS fun _ => .bd (.opt .structS) fun _ => .pr _) fun hs _ _ =>
    Ex.bd Ex.tS (fun _ => .bd .tS fun _ => .bd .tS fun _ => .bd .tS fun _ => .bd (.opt .structS) fun _ => .pr _) fun ha _ _ =>
    Ex.bd Ex.tS (fun _ => .bd .tS fun _ => .bd .tS fun _ => .bd (.opt .structS) fun _ => .pr _) fun om _ _ =>
    Ex.bd Ex.tS (fun _ => .bd .tS fun _ => .bd (.opt .structS) fun _ => .pr _) fun od _ _ =>
    Ex.bd Ex.tS (fun _ => .bd (.opt .structS) fun _ => .pr _) fun oc _ _ =>
    Ex.bd (Ex.opt .structS fun _ => ExF.struct) (fun _ => .pr _) fun st _ _ => Ex.pr ((hs, ha, om, od, oc, st) : FL)).iff fun x X => ⟨?_, ?_⟩
  · rintro ⟨hs, X1, _, rfl, ⟨ha, X2, _, rfl, ⟨om, X3, _, rfl, ⟨od, X4, _, rfl, ⟨oc, X5, _, rfl, ⟨st, X6, X7, h, ⟨rfl, rfl⟩, rfl⟩, rfl⟩, rfl⟩, rfl⟩, rfl⟩, rfl⟩
    cases hs with
    | true =>
      simp only [if_true] at h
      exact ⟨h.1, by simp [flW, h.2]⟩
    | false =>
      simp only [Bool.false_eq_true, if_false] at h
      exact ⟨h.1, by simp [flW, h.2]⟩
  · obtain ⟨hs, ha, om, od, oc, st⟩ := x
    rintro ⟨h, rfl⟩
    refine ⟨hs, _, _, rfl, ⟨ha, _, _, rfl, ⟨om, _, _, rfl, ⟨od, _, _, rfl, ⟨oc, _, _, rfl, ⟨st, if hs then stW st else [], [], ?_, ⟨rfl, rfl⟩, by rw [List.append_nil]⟩, rfl⟩, rfl⟩, rfl⟩, rfl⟩, rfl⟩
    cases hs with
    | true => exact ⟨h, rfl⟩
    | false => exact ⟨h, rfl⟩
abbrev RE := Int × List Int × List Int × List Int
def rsS (s : Structure) (ha om od oc : Bool) : RD RE := bdR (opt ha (gN s.targets.toNat) 0) fun a => bdR (opt om (goneS (gN 2) s.targets.toNat) []) fun m => bdR (opt od (difA 16) []) fun d => bdR (opt oc (goneS (gN 8) s.chains.toNat) []) fun c => pr (a, m, d, c)
theorem ErrP.rs {s : Structure} {ha om od oc : Bool} : ErrP (rsS s ha om od oc) := .bd (.opt (.gN _)) fun _ => .bd (.opt (.gone _ _)) fun _ => .bd (.opt (.difA _)) fun _ => .bd (.opt (.gone _ _)) fun _ => .pr _
structure RsQ (s : Structure) (ha om od oc : Bool) (x : RE) (X : List Int) : Prop where
  act : if ha then 0 ≤ x.1 ∧ x.1 < 2 ^ s.targets.toNat else x.1 = 0
  marks : if om then x.2.1.length = s.targets.toNat ∧ ∀ n, n ∈ x.2.1 → 0 ≤ n ∧ n ≤ 3 else x.2.1 = []
  chains : if oc then x.2.2.2.length = s.chains.toNat ∧ ∀ n, n ∈ x.2.2.2 → 0 ≤ n ∧ n ≤ 255 else x.2.2.2 = []
  bits : ∃ D, (if od then DifQ 16 x.2.2.1 D else x.2.2.1 = [] ∧ D = []) ∧ X = (if ha then nb s.targets.toNat x.1 else []) ++ (x.2.1.flatMap (nb 2) ++ (D ++ x.2.2.2.flatMap (nb 8)))
theorem Ex.rs {s : Structure} {ha om od oc : Bool} : Ex (rsS s ha om od oc) (RsQ s ha om od oc) := by
  have g2 : ExF (Xb.gN 2) (fun n => 0 ≤ n ∧ n < 2 ^ 2) (nb 2) := .gN 2
  have g8 : ExF (Xb.gN 8) (fun n => 0 ≤ n ∧ n < 2 ^ 8) (nb 8) := .gN 8
  refine (Ex.bd (Ex.opt (.gN _) fun _ => .gN _) (fun _ => .bd (.opt (.gone _ _)) fun _ => .bd (.opt (.difA _)) fun _ => .bd (.opt (.gone _ _)) fun _ => .pr _) fun a _ _ =>
    Ex.bd (Ex.opt (.gone _ _) fun _ => g2.gone _) (fun _ => .bd (.opt (.difA _)) fun _ => .bd (.opt (.gone _ _)) fun _ => .pr _) fun m _ _ =>
    Ex.bd (Ex.opt (.difA _) fun _ => Ex.difA _) (fun _ => .bd (.opt (.gone _ _)) fun _ => .pr _) fun d _ _ =>
    Ex.bd (Ex.opt (.gone _ _) fun _ => g8.gone _) (fun _ => .pr _) fun c _ _ => Ex.pr ((a, m, d, c) : RE)).iff fun x X => ⟨?_, ?_⟩
  · rintro ⟨a, X1, _, h1, ⟨m, X2, _, h2, ⟨d, X3, _, h3, ⟨c, X4, X5, h4, ⟨rfl, rfl⟩, rfl⟩, rfl⟩, rfl⟩, rfl⟩
    have e2 : X2 = m.flatMap (nb 2) := by
      cases om
      · rw [h2.1]; exact h2.2
      · exact h2.2
    have e4 : X4 = c.flatMap (nb 8) := by
      cases oc
      · rw [h4.1]; exact h4.2
      · exact h4.2
    refine ⟨?_, ?_, ?_, X3, ?_, ?_⟩
    · cases ha
      · exact h1.1
      · exact h1.1
    · cases om
      · exact h2.1
      · exact ⟨h2.1.1, fun n hn => by have := h2.1.2 n hn; have h9 : n < 4 := this.2; omega⟩
    · cases oc
      · exact h4.1
      · exact ⟨h4.1.1, fun n hn => by have := h4.1.2 n hn; have h9 : n < 256 := this.2; omega⟩
    · cases od
      · exact h3
      · exact h3
    · rw [e2, e4]
      cases ha
      · rw [h1.2]; simp
      · rw [h1.2]; simp
  · obtain ⟨a, m, d, c⟩ := x
    rintro ⟨h1, h2, h4, D, h3, rfl⟩
    refine ⟨a, _, _, ?_, ⟨m, _, _, ?_, ⟨d, D, _, ?_, ⟨c, _, [], ?_, ⟨rfl, rfl⟩, by rw [List.append_nil]⟩, rfl⟩, rfl⟩, rfl⟩
    · cases ha
      · exact ⟨h1, rfl⟩
      · exact ⟨h1, rfl⟩
    · cases om
      · simp only [Bool.false_eq_true, if_false] at h2 ⊢; exact ⟨h2, by rw [h2]; rfl⟩
      · exact ⟨⟨h2.1, fun n hn => ⟨(h2.2 n hn).1, by have := (h2.2 n hn).2; show n < (4 : Int); omega⟩⟩, rfl⟩
    · cases od
      · exact h3
      · exact h3
    · cases oc
      · simp only [Bool.false_eq_true, if_false] at h4 ⊢; exact ⟨h4, by rw [h4]; rfl⟩
      · exact ⟨⟨h4.1, fun n hn => ⟨(h4.2 n hn).1, by have := (h4.2 n hn).2; show n < (256 : Int); omega⟩⟩, rfl⟩
def sOf (hs : Bool) (st known : Structure) : Structure := if hs then st else known
def plc (t : Int) (s : Structure) : Int := (t - s.id_ + 64) % 64
def tailS (known : Structure) (a b : Bool) (t n : Int) (x : FL) : RD Frame :=
  bdR (needS (decide (0 < (sOf x.1 x.2.2.2.2.2 known).templates.length)) 8) fun _ => bdR (needS (decide (plc t (sOf x.1 x.2.2.2.2.2 known) < (sOf x.1 x.2.2.2.2.2 known).templates.length)) 6) fun _ =>
    bdR (rsS (sOf x.1 x.2.2.2.2.2 known) x.2.1 x.2.2.1 x.2.2.2.1 x.2.2.2.2.1) fun r => pr ⟨a, b, t, n, x.1, x.2.2.2.2.2, x.2.1, r.1, x.2.2.1, r.2.1, x.2.2.2.1, r.2.2.1, x.2.2.2.2.1, r.2.2.2⟩
def frameS (known : Structure) (more : Bool) : RD Frame := bdR tS fun a => bdR tS fun b => bdR (gN 6) fun t => bdR (gN 16) fun n => bdR (flS more) fun x => tailS known a b t n x
def May (s : Structure) : Prop := RightT s ∨ s = zT
def flOf (f : Frame) : FL := (f.hasStructure, f.hasActive, f.ownMarks, f.ownDiffs, f.ownChains, f.structure_)
abbrev stOf (f : Frame) (known : Structure) : Structure := sOf f.hasStructure f.structure_ known
structure RightF (f : Frame) (known : Structure) : Prop where
  may : May known
  st : RightT (stOf f known)
  own : f.hasStructure = true ∨ f.structure_ = zT
  templ : 0 ≤ f.template ∧ f.template < 64
  number : 0 ≤ f.number ∧ f.number ≤ 65535
  active : (0 ≤ f.active ∧ f.active < 2 ^ (stOf f known).targets.toNat) ∧ (f.hasActive = true ∨ f.active = 0)
  place : plc f.template (stOf f known) < (stOf f known).templates.length
  marks : if f.ownMarks then (f.marks.length : Int) = (stOf f known).targets ∧ ∀ n, n ∈ f.marks → 0 ≤ n ∧ n ≤ 3 else f.marks = []
  diffs : if f.ownDiffs then f.diffs.length ≤ 16 ∧ ∀ n, n ∈ f.diffs → 1 ≤ n ∧ n ≤ 4096 else f.diffs = []
  chains : if f.ownChains then (f.chains.length : Int) = (stOf f known).chains ∧ ∀ n, n ∈ f.chains → 0 ≤ n ∧ n ≤ 255 else f.chains = []
def frW (more : Bool) (f : Frame) (known : Structure) (D : List Int) : List Int :=
  wb f.start ++ (wb f.end_ ++ (nb 6 f.template ++ (nb 16 f.number ++ ((if more then flW (flOf f) else []) ++ ((if f.hasActive then nb (stOf f known).targets.toNat f.active else []) ++ (f.marks.flatMap (nb 2) ++ (D ++ f.chains.flatMap (nb 8))))))))
theorem ErrP.tail {known : Structure} {a b : Bool} {t n : Int} {x : FL} : ErrP (tailS known a b t n x) := .bd (.need _ _) fun _ => .bd (.need _ _) fun _ => .bd .rs fun _ => .pr _
theorem ErrP.fl (more : Bool) : ErrP (flS more) := .opt .fl1
theorem ErrP.frame (known : Structure) (more : Bool) : ErrP (frameS known more) := .bd .tS fun _ => .bd .tS fun _ => .bd (.gN 6) fun _ => .bd (.gN 16) fun _ => .bd (.fl _) fun _ => .tail
theorem Ex.frame {known : Structure} (hk : May known) (more : Bool) : Ex (frameS known more) (fun f X => RightF f known ∧ (more = true ∨ flOf f = zFL) ∧ ∃ D, (if f.ownDiffs then DifQ 16 f.diffs D else D = []) ∧ X = frW more f known D) := by
  refine (Ex.bd Ex.tS (fun _ => .bd .tS fun _ => .bd (.gN 6) fun _ => .bd (.gN 16) fun _ => .bd (.fl _) fun _ => .tail) fun a _ _ =>
    Ex.bd Ex.tS (fun _ => .bd (.gN 6) fun _ => .bd (.gN 16) fun _ => .bd (.fl _) fun _ => .tail) fun b _ _ =>
    Ex.bd (.gN 6) (fun _ => .bd (.gN 16) fun _ => .bd (.fl _) fun _ => .tail) fun t _ _ => Ex.bd (.gN 16) (fun _ => .bd (.fl _) fun _ => .tail) fun n _ _ =>
    Ex.bd (Ex.opt .fl1 fun _ => ExF.fl1) (fun _ => .tail) fun x _ _ => Ex.bd (Ex.need _ _) (fun _ => .bd (.need _ _) fun _ => .bd .rs fun _ => .pr _) fun _ _ _ => Ex.bd (Ex.need _ _) (fun _ => .bd .rs fun _ => .pr _) fun _ _ _ =>
    Ex.bd Ex.rs (fun _ => .pr _) fun r _ _ => Ex.pr (⟨a, b, t, n, x.1, x.2.2.2.2.2, x.2.1, r.1, x.2.2.1, r.2.1, x.2.2.2.1, r.2.2.1, x.2.2.2.2.1, r.2.2.2⟩ : Frame)).iff fun f X => ⟨?_, ?_⟩
  · rintro ⟨a, X1, _, h1, ⟨b, X2, _, h2, ⟨t, X3, _, ⟨⟨t0, t1⟩, h3⟩, ⟨n, X4, _, ⟨⟨n0, n1⟩, h4⟩, ⟨x, X5, _, hx, ⟨_, X6, _, ⟨p1, h6⟩, ⟨_, X7, _, ⟨p2, h7⟩, ⟨r, X8, X9, hr, ⟨hf, h9⟩, e8⟩, e7⟩, e6⟩, e5⟩, e4⟩, e3⟩, e2⟩, e1⟩
    have t2 : t < 64 := t1
    have n2 : n < 65536 := by omega
    have p1' := of_decide_eq_true p1
    have p2' := of_decide_eq_true p2
    obtain ⟨hs, ha, om, od, oc, st⟩ := x
    simp only at hr p1' p2' hf hx
    have hst : RightT (sOf hs st known) ∧ (hs = true ∨ st = zT) := by
      cases more with
      | true =>
        simp only [if_true] at hx
        cases hs with
        | true => exact ⟨hx.1, .inl rfl⟩
        | false =>
          refine ⟨?_, .inr hx.1⟩
          rcases hk with h | h
          · exact h
          · exfalso
            have : (sOf false st known).templates = [] := by show known.templates = []; rw [h]; rfl
            rw [this] at p1'; simp at p1'
      | false =>
        simp only [Bool.false_eq_true, if_false] at hx
        have hz : (hs, ha, om, od, oc, st) = zFL := hx.1
        simp only [zFL, Prod.mk.injEq] at hz
        obtain ⟨rfl, rfl, rfl, rfl, rfl, rfl⟩ := hz
        refine ⟨?_, .inr rfl⟩
        rcases hk with h | h
        · exact h
        · exfalso
          have : (sOf false zT known).templates = [] := by show known.templates = []; rw [h]; rfl
          rw [this] at p1'; simp at p1'
    have htg := hst.1.targets
    have hch := hst.1.chains
    obtain ⟨r1, r2, r4, D, r3, rb⟩ := hr
    subst hf
    refine ⟨⟨hk, hst.1, hst.2, ⟨t0, t2⟩, ⟨n0, by show n ≤ 65535; omega⟩, ?_, p2', ?_, ?_, ?_⟩, ?_, D, ?_, ?_⟩
    · show (0 ≤ r.1 ∧ r.1 < 2 ^ (sOf hs st known).targets.toNat) ∧ (ha = true ∨ r.1 = 0)
      cases ha with
      | true => exact ⟨r1, .inl rfl⟩
      | false =>
        simp only [Bool.false_eq_true, if_false] at r1
        rw [r1]; exact ⟨⟨by decide, Int.pow_pos (by decide)⟩, .inr rfl⟩
    · show if om then (r.2.1.length : Int) = (sOf hs st known).targets ∧ ∀ n, n ∈ r.2.1 → 0 ≤ n ∧ n ≤ 3 else r.2.1 = []
      cases om with
      | true => exact ⟨by have := r2.1; omega, r2.2⟩
      | false => exact r2
    · show if od then r.2.2.1.length ≤ 16 ∧ ∀ n, n ∈ r.2.2.1 → 1 ≤ n ∧ n ≤ 4096 else r.2.2.1 = []
      cases od with
      | true => exact DifQ.right r3
      | false => exact r3.1
    · show if oc then (r.2.2.2.length : Int) = (sOf hs st known).chains ∧ ∀ n, n ∈ r.2.2.2 → 0 ≤ n ∧ n ≤ 255 else r.2.2.2 = []
      cases oc with
      | true => exact ⟨by have := r4.1; omega, r4.2⟩
      | false => exact r4
    · cases more with
      | true => exact .inl rfl
      | false => right; exact hx.1
    · show if od then DifQ 16 r.2.2.1 D else D = []
      cases od with
      | true => exact r3
      | false => exact r3.2
    · rw [e1, h1, e2, h2, e3, h3, e4, h4, e5, e6, h6, e7, h7, e8, h9, rb]
      have : X5 = if more then flW (hs, ha, om, od, oc, st) else [] := by
        cases more with
        | true => exact hx.2
        | false => exact hx.2
      rw [this]
      simp only [List.nil_append, List.append_nil]
      rfl
  · rintro ⟨⟨q1, q2, q3, q4, q5, q6, q7, q8, q9, q10⟩, hm, D, hD, rfl⟩
    have htg := q2.targets
    have hch := q2.chains
    obtain ⟨a, b, t, n, hs, st, ha, act, om, marks, od, diffs, oc, chains⟩ := f
    simp only [stOf] at q1 q2 q3 q4 q5 q6 q7 q8 q9 q10 hm hD htg hch
    refine ⟨a, _, _, rfl, ⟨b, _, _, rfl, ⟨t, _, _, ⟨⟨q4.1, by show t < (64 : Int); omega⟩, rfl⟩, ⟨n, _, _, ⟨⟨q5.1, by omega⟩, rfl⟩, ⟨(hs, ha, om, od, oc, st), if more then flW (hs, ha, om, od, oc, st) else [], _, ?_, ⟨(), [], _, ⟨decide_eq_true ?_, rfl⟩, ⟨(), [], _, ⟨decide_eq_true q7, rfl⟩, ⟨(act, marks, diffs, chains), _, [], ⟨?_, ?_, ?_, D, ?_, rfl⟩, ⟨rfl, rfl⟩, rfl⟩, rfl⟩, rfl⟩, rfl⟩, rfl⟩, rfl⟩, rfl⟩, ?_⟩
    · cases more with
      | true =>
        refine ⟨?_, rfl⟩
        cases hs with
        | true => exact q2
        | false => exact q3.resolve_left (by decide)
      | false =>
        rcases hm with h | h
        · cases h
        · exact ⟨h, rfl⟩
    · show 0 < (sOf hs st known).templates.length
      have := q2.lays
      cases hT : (sOf hs st known).templates with
      | nil => rw [hT] at this; exact this.elim
      | cons x r => simp
    · cases ha with
      | true => exact q6.1
      | false => exact q6.2.resolve_left (by decide)
    · cases om with
      | true => exact ⟨by have := q8.1; simp only; omega, q8.2⟩
      | false => exact q8
    · cases oc with
      | true => exact ⟨by have := q10.1; simp only; omega, q10.2⟩
      | false => exact q10
    · cases od with
      | true => exact hD
      | false => exact ⟨q9, hD⟩
    · simp only [frW, flOf, stOf, List.nil_append, List.append_nil]
end Xb

namespace Xb
open Go

theorem numA {B : List Int} (hB : By B) {w : Nat} {wi : Int} (hw : wi = w) (h : w ≤ 62) {c : GBits} {s : RS} (hr : Rep B c s) :
    ∃ c', av1_eye_num_y1 none wi ⟨c⟩ = some ((gN w s).1, ⟨c'⟩) ∧ Rep B c' (gN w s).2 ∧ 0 ≤ (gN w s).1 ∧ (gN w s).1 < 2 ^ w := by
  subst hw
  obtain ⟨c', h1, h2⟩ := get_rep hB hr (w := w) (by omega)
  have hb := gN_bd (w := w) hr.bin
  have hp := pow_le64 (n := w + 1) (by omega)
  have e : (2 : Int) ^ (w + 1) = 2 ^ w * 2 := Int.pow_succ _ _
  refine ⟨c', ?_, h2, hb⟩
  unfold av1_eye_num_y1
  show Option.bind (bits_Get none c (w : Int)) _ = _
  rw [bnd h1]
  simp only
  rw [w_i64 (by omega) (by omega)]
theorem truthA {B : List Int} (hB : By B) {c : GBits} {s : RS} (hr : Rep B c s) : ∃ c', av1_eye_truth_y1 none ⟨c⟩ = some ((tS s).1, ⟨c'⟩) ∧ Rep B c' (tS s).2 := by
  obtain ⟨c', a, b, _⟩ := numA hB (w := 1) (wi := 1) rfl (by decide) hr
  refine ⟨c', ?_, b⟩
  unfold av1_eye_truth_y1
  rw [bnd a, cm_eql]; rfl
theorem fineA_err {B : List Int} {c : GBits} {e : Int} (h : Rep B c (.error e)) : av1_eye_fine_p ⟨c⟩ = false := by
  obtain ⟨_, h1, h2⟩ := h
  unfold av1_eye_fine_p
  rw [cm_eql]; simp [h1, h2]
theorem fineA_ok {B : List Int} {c : GBits} {R : List Int} (h : Rep B c (.ok R)) : av1_eye_fine_p ⟨c⟩ = true := by
  have := h.at_ok.2
  unfold av1_eye_fine_p
  rw [cm_eql]; simp [this]
theorem needA {B : List Int} {c : GBits} {s : RS} (h : Rep B c s) (ok : Bool) {e : Int} (he : e ≠ 0) : ∃ c', av1_eye_need_y1 none ok e ⟨c⟩ = some ⟨c'⟩ ∧ Rep B c' (needS ok e s).2 := by
  unfold av1_eye_need_y1 needS
  cases s with
  | error x =>
    rw [fineA_err h]
    refine ⟨c, by rw [if_neg (by simp)], ?_⟩
    cases ok <;> exact h
  | ok R =>
    rw [fineA_ok h]
    cases ok with
    | true => exact ⟨c, by rw [if_neg (by simp)], h⟩
    | false => exact ⟨{ c with err := e }, by rw [if_pos (by simp)], h.by_, rfl, he⟩
theorem someA_loop {α : Type} {B : List Int} {f : RD α} {many : Int} {step : List α × Int × av1_eye → Option ((List α × Int × av1_eye) ⊕ (List α × av1_eye))}
    (h1 : ∀ out i c, ¬ i < many → step (out, i, ⟨c⟩) = some (.inr (out, ⟨c⟩)))
    (h2 : ∀ out i c e, i < many → Rep B c (.error e) → step (out, i, ⟨c⟩) = some (.inr (out, ⟨c⟩)))
    (h3 : ∀ out i c R, 0 ≤ i → i < many → i ≤ 1000 → out.length ≤ 1000 → Rep B c (.ok R) → ∃ a c', step (out, i, ⟨c⟩) = some (.inl (out ++ [a], i + 1, ⟨c'⟩)) ∧ Tell B a c' (f (.ok R))) :
    ∀ (n : Nat) (out : List α) (i : Int) (c : GBits) (s : RS), i + n = many → 0 ≤ i → i + n ≤ 1000 → out.length + n ≤ 1000 → Rep B c s →
      ∃ l c', loopG none step (out, i, ⟨c⟩) = some (out ++ l, ⟨c'⟩) ∧ Tell B l c' (goneS f n s)
  | 0, out, i, c, s, hm, _, _, _, hr => ⟨[], c, by rw [loop_inr (h1 out i c (by omega))]; simp, hr, fun R h => rfl⟩
  | n + 1, out, i, c, .error e, hm, _, _, _, hr => ⟨[], c, by rw [loop_inr (h2 out i c e (by omega) hr)]; simp, hr, fun R h => by cases h⟩
  | n + 1, out, i, c, .ok R, hm, h0, hi, ho, hr => by
    obtain ⟨a, c', q1, q2, q3⟩ := h3 out i c R h0 (by omega) (by omega) (by omega) hr
    rw [loop_inl q1]
    obtain ⟨l, c2, r1, r2, r3⟩ := someA_loop h1 h2 h3 n (out ++ [a]) (i + 1) c' _ (by omega) (by omega) (by omega) (by simp; omega) q2
    refine ⟨a :: l, c2, by rw [r1]; simp, r2, fun S hS => ?_⟩
    change (goneS f n (f (.ok R)).2).2 = _ at hS
    cases hz : (f (.ok R)).2 with
    | error e => rw [hz, ErrP.gone] at hS; cases hS
    | ok T => rw [r3 S hS, q3 T hz]; rfl
theorem someA {B : List Int} (hB : By B) {many wi : Int} {w : Nat} (hw : wi = w) (hw2 : w ≤ 62) (hm : 0 ≤ many ∧ many ≤ 100) {c : GBits} {s : RS} (hr : Rep B c s) :
    ∃ l c', av1_eye_some_y1 none many wi ⟨c⟩ = some (l, ⟨c'⟩) ∧ Tell B l c' (goneS (gN w) many.toNat s) := by
  unfold av1_eye_some_y1 av1_eye_some_y1_l1
  have := someA_loop (B := B) (f := gN w) (many := many) (step := fun (s : List Int × Int × av1_eye) => av1_eye_some_y1_s1 none many wi s.1 s.2.1 s.2.2)
    (fun out i c h => by
      show av1_eye_some_y1_s1 none many wi out i ⟨c⟩ = _
      unfold av1_eye_some_y1_s1
      rw [if_neg (by rw [cm_lss]; simp; omega)]; rfl)
    (fun out i c e h hr => by
      show av1_eye_some_y1_s1 none many wi out i ⟨c⟩ = _
      unfold av1_eye_some_y1_s1
      rw [if_neg (by rw [fineA_err hr]; simp)]; rfl)
    (fun out i c R h0 h h1 ho hr => by
      obtain ⟨c', q1, q2, _⟩ := numA hB hw hw2 hr
      refine ⟨_, c', ?_, q2, fun _ _ => rfl⟩
      show av1_eye_some_y1_s1 none many wi out i ⟨c⟩ = _
      unfold av1_eye_some_y1_s1
      rw [if_pos (by rw [fineA_ok hr, cm_lss]; simpa using h), bnd q1, bnd (app_some (by simp; omega)), ar_add, w_i64 (by omega) (by omega)])
    many.toNat [] 0 c s (by omega) (by omega) (by omega) (by simp; omega) hr
  simpa using this
/-- diffs: the number of groups has been read -/
def difG (j : Nat) (g : Int) : RD (List Int) := if g = 0 then pr [] else match j with
  | 0 => failS []
  | j + 1 => bdR (gN (4 * g).toNat) fun a => bdR (difA j) fun l => pr ((a + 1) :: l)
theorem difA_eq (j : Nat) (s : RS) : difA j s = difG j (gN 2 s).1 (gN 2 s).2 := by
  cases j with
  | zero => unfold difA difG; rfl
  | succ j => unfold difA difG; rfl
theorem ErrP.difG (j : Nat) (g : Int) : ErrP (difG j g) := by
  unfold Xb.difG
  cases j with
  | zero => exact .ite (.pr _) (.fail _)
  | succ j => exact .ite (.pr _) (.bd (.gN _) fun _ => .bd (.difA j) fun _ => .pr _)
theorem diffsA_loop {B : List Int} (hB : By B) : ∀ (j : Nat) (out : List Int) (g : Int) (c : GBits) (s : RS), out.length + j = 16 → 0 ≤ g → g ≤ 3 → Rep B c s →
    ∃ l c', loopG none (fun (s : List Int × Int × av1_eye) => av1_eye_diffs_y1_s1 none s.1 s.2.1 s.2.2) (out, g, ⟨c⟩) = some (out ++ l, ⟨c'⟩) ∧ Tell B l c' (difG j g s) := by
  have stop : ∀ (out : List Int) (g : Int) (c : GBits) (s : RS), Rep B c s → (g = 0 ∨ ∃ e, s = .error e) → loopG none (fun (s : List Int × Int × av1_eye) => av1_eye_diffs_y1_s1 none s.1 s.2.1 s.2.2) (out, g, ⟨c⟩) = some (out, ⟨c⟩) := by
    intro out g c s hr hn
    refine loop_inr ?_
    show av1_eye_diffs_y1_s1 none out g ⟨c⟩ = _
    unfold av1_eye_diffs_y1_s1
    rw [if_neg ?_]
    · rfl
    · rcases hn with rfl | ⟨e, rfl⟩
      · rw [cm_gtr]; simp
      · rw [fineA_err hr]; simp
  intro j
  induction j with
  | zero =>
    intro out g c s hj g0 g3 hr
    by_cases hg : g = 0
    · refine ⟨[], c, by rw [stop out g c s hr (.inl hg)]; simp, ?_⟩
      unfold difG; rw [if_pos hg]; exact ⟨hr, fun _ _ => rfl⟩
    · cases s with
      | error e =>
        refine ⟨[], c, by rw [stop out g c _ hr (.inr ⟨e, rfl⟩)]; simp, ?_⟩
        exact ⟨by rw [ErrP.difG]; exact hr, fun R h => by rw [ErrP.difG] at h; cases h⟩
      | ok R =>
        have hlt : cm .lss (out.length : Int) 16 = false := by rw [cm_lss]; simp; omega
        obtain ⟨c1, r1, r2⟩ := needA hr false (e := 6) (by decide)
        have r3 : Rep B c1 (.error 6) := r2
        have e4 : ar .mul .i64 4 g = ((4 * g).toNat : Nat) := by rw [ar_mul, w_i64 (by omega) (by omega)]; omega
        obtain ⟨c2, t1, t2, _⟩ := numA hB (w := (4 * g).toNat) (wi := ((4 * g).toNat : Nat)) rfl (by omega) r3
        have t3 : Rep B c2 (.error 6) := t2
        obtain ⟨c3, u1, u2, _⟩ := numA hB (w := 2) (wi := 2) rfl (by decide) t3
        have u3 : Rep B c3 (.error 6) := u2
        have st : av1_eye_diffs_y1_s1 none out g ⟨c⟩ = some (.inl (out ++ [1], 0, ⟨c3⟩)) := by
          unfold av1_eye_diffs_y1_s1
          rw [if_pos (by rw [cm_gtr, fineA_ok hr]; simp; omega), hlt, bnd r1, e4, bnd t1]
          simp only
          rw [show ar .add .i64 (gN (4 * g).toNat (.error 6)).1 1 = 1 from by show ar .add .i64 0 1 = 1; rfl, bnd (app_some (by simp; omega)), bnd u1]; rfl
        rw [loop_inl (s' := (out ++ [1], (0 : Int), (⟨c3⟩ : av1_eye))) st, stop _ _ c3 _ u3 (.inl rfl)]
        refine ⟨[1], c3, rfl, ?_⟩
        unfold difG; rw [if_neg hg]
        exact ⟨u3, fun R h => by cases h⟩
  | succ j ih =>
    intro out g c s hj g0 g3 hr
    by_cases hg : g = 0
    · refine ⟨[], c, by rw [stop out g c s hr (.inl hg)]; simp, ?_⟩
      unfold difG; rw [if_pos hg]; exact ⟨hr, fun _ _ => rfl⟩
    · cases s with
      | error e =>
        refine ⟨[], c, by rw [stop out g c _ hr (.inr ⟨e, rfl⟩)]; simp, ?_⟩
        exact ⟨by rw [ErrP.difG]; exact hr, fun R h => by rw [ErrP.difG] at h; cases h⟩
      | ok R =>
        have hlt : cm .lss (out.length : Int) 16 = true := by rw [cm_lss]; simp; omega
        obtain ⟨c1, r1, r2⟩ := needA hr true (e := 6) (by decide)
        have r3 : Rep B c1 (.ok R) := r2
        have e4 : ar .mul .i64 4 g = ((4 * g).toNat : Nat) := by rw [ar_mul, w_i64 (by omega) (by omega)]; omega
        obtain ⟨c2, t1, t2, t3⟩ := numA hB (w := (4 * g).toNat) (wi := ((4 * g).toNat : Nat)) rfl (by omega) r3
        have tb := pow4g (g := g) (by omega) (by omega)
        obtain ⟨c3, u1, u2, u3⟩ := numA hB (w := 2) (wi := 2) rfl (by decide) t2
        have u4 : (gN 2 (gN (4 * g).toNat (.ok R)).2).1 < 4 := u3.2
        have st : av1_eye_diffs_y1_s1 none out g ⟨c⟩ = some (.inl (out ++ [(gN (4 * g).toNat (.ok R)).1 + 1], (gN 2 (gN (4 * g).toNat (.ok R)).2).1, ⟨c3⟩)) := by
          unfold av1_eye_diffs_y1_s1
          rw [if_pos (by rw [cm_gtr, fineA_ok hr]; simp; omega), hlt, bnd r1, e4, bnd t1]
          simp only
          rw [ar_add, w_i64 (by omega) (by omega), bnd (app_some (by simp; omega)), bnd u1]
        rw [loop_inl (s' := (out ++ [(gN (4 * g).toNat (.ok R)).1 + 1], (gN 2 (gN (4 * g).toNat (.ok R)).2).1, (⟨c3⟩ : av1_eye))) st]
        obtain ⟨l, c4, v1, v2, v3⟩ := ih (out ++ [(gN (4 * g).toNat (.ok R)).1 + 1]) (gN 2 (gN (4 * g).toNat (.ok R)).2).1 c3 _ (by simp; omega) u3.1 (by omega) u2
        rw [← difA_eq] at v2 v3
        refine ⟨((gN (4 * g).toNat (.ok R)).1 + 1) :: l, c4, by rw [v1]; simp, ?_⟩
        unfold difG; rw [if_neg hg]
        exact ⟨v2, fun S h => by rw [v3 S h]; rfl⟩
theorem diffsA {B : List Int} (hB : By B) {c : GBits} {s : RS} (hr : Rep B c s) : ∃ l c', av1_eye_diffs_y1 none ⟨c⟩ = some (l, ⟨c'⟩) ∧ Tell B l c' (difA 16 s) := by
  unfold av1_eye_diffs_y1
  obtain ⟨c1, a1, b1, d1⟩ := numA hB (w := 2) (wi := 2) rfl (by decide) hr
  have d2 : (gN 2 s).1 < 4 := d1.2
  obtain ⟨l, c2, q1, q2⟩ := diffsA_loop hB 16 [] _ c1 _ rfl d1.1 (by omega) b1
  rw [bnd a1]
  refine ⟨l, c2, ?_, by rw [difA_eq]; exact q2⟩
  unfold av1_eye_diffs_y1_l1
  simpa using q1
theorem pow32 {n : Nat} (h : n ≤ 32) : (2 : Int) ^ n ≤ 4294967296 := by
  have : (2 : Nat) ^ n ≤ 2 ^ 32 := Nat.pow_le_pow_right (by omega) h
  have : ((2 ^ n : Nat) : Int) ≤ ((2 ^ 32 : Nat) : Int) := by exact_mod_cast this
  simpa using this
theorem restA {B : List Int} (hB : By B) {st : Structure} (ht : 0 ≤ st.targets ∧ st.targets ≤ 32) (hc : 0 ≤ st.chains ∧ st.chains ≤ 32) {f : Frame} (hz : f.active = 0 ∧ f.marks = [] ∧ f.diffs = [] ∧ f.chains = []) {c : GBits} {s : RS} (hr : Rep B c s) :
    ∃ r c', av1_eye_rest_y1 none st ⟨c⟩ f = some (⟨c'⟩, { f with active := r.1, marks := r.2.1, diffs := r.2.2.1, chains := r.2.2.2 }) ∧ Tell B r c' (rsS st f.hasActive f.ownMarks f.ownDiffs f.ownChains s) := by
  obtain ⟨z1, z2, z3, z4⟩ := hz
  have j3 : ∀ (g : Frame) (c : GBits) (s : RS), g.chains = [] → Rep B c s → ∃ l c', av1_eye_rest_y1_j3 none st ⟨c⟩ g = some (⟨c'⟩, { g with chains := l }) ∧ Tell B l c' (opt g.ownChains (goneS (gN 8) st.chains.toNat) [] s) := by
    intro g c s hg hr
    unfold av1_eye_rest_y1_j3
    by_cases h : g.ownChains = true
    · obtain ⟨l, c', a, b⟩ := someA hB (wi := 8) (w := 8) rfl (by decide) (many := st.chains) (by omega) hr
      exact ⟨l, c', by rw [if_pos h, bnd a], by unfold opt; rw [if_pos h]; exact b⟩
    · exact ⟨[], c, by rw [if_neg h, ← hg], by unfold opt; rw [if_neg h]; exact ⟨hr, fun _ _ => rfl⟩⟩
  have j2 : ∀ (g : Frame) (c : GBits) (s : RS), g.diffs = [] → g.chains = [] → Rep B c s → ∃ d l c' s', av1_eye_rest_y1_j2 none st ⟨c⟩ g = some (⟨c'⟩, { g with diffs := d, chains := l }) ∧ (opt g.ownDiffs (difA 16) [] s).2 = s' ∧ (∀ R, s' = .ok R → d = (opt g.ownDiffs (difA 16) [] s).1) ∧ Tell B l c' (opt g.ownChains (goneS (gN 8) st.chains.toNat) [] s') := by
    intro g c s hg hg2 hr
    unfold av1_eye_rest_y1_j2
    by_cases h : g.ownDiffs = true
    · obtain ⟨d, c1, a, b1, b2⟩ := diffsA hB hr
      obtain ⟨l, c2, a2, b3⟩ := j3 { g with diffs := d } c1 _ hg2 b1
      refine ⟨d, l, c2, _, by rw [if_pos h, bnd a]; exact a2, rfl, ?_, ?_⟩
      · unfold opt; rw [if_pos h]; exact b2
      · unfold opt; rw [if_pos h]; exact b3
    · obtain ⟨l, c2, a2, b3⟩ := j3 g c s hg2 hr
      refine ⟨[], l, c2, _, by rw [if_neg h, a2, ← hg], rfl, ?_, ?_⟩
      · unfold opt; rw [if_neg h]; exact fun _ _ => rfl
      · unfold opt; rw [if_neg h]; exact b3
  have j1 : ∀ (g : Frame) (c : GBits) (s : RS), g.marks = [] → g.diffs = [] → g.chains = [] → Rep B c s → ∃ m d l c' s1 s2, av1_eye_rest_y1_j1 none st ⟨c⟩ g = some (⟨c'⟩, { g with marks := m, diffs := d, chains := l }) ∧ (opt g.ownMarks (goneS (gN 2) st.targets.toNat) [] s).2 = s1 ∧ (∀ R, s1 = .ok R → m = (opt g.ownMarks (goneS (gN 2) st.targets.toNat) [] s).1) ∧
      (opt g.ownDiffs (difA 16) [] s1).2 = s2 ∧ (∀ R, s2 = .ok R → d = (opt g.ownDiffs (difA 16) [] s1).1) ∧ Tell B l c' (opt g.ownChains (goneS (gN 8) st.chains.toNat) [] s2) := by
    intro g c s hg hg2 hg3 hr
    unfold av1_eye_rest_y1_j1
    by_cases h : g.ownMarks = true
    · obtain ⟨m, c1, a, b1, b2⟩ := someA hB (wi := 2) (w := 2) rfl (by decide) (many := st.targets) (by omega) hr
      obtain ⟨d, l, c2, s2, a2, b3, b4, b5⟩ := j2 { g with marks := m } c1 _ hg2 hg3 b1
      refine ⟨m, d, l, c2, _, s2, by rw [if_pos h, bnd a]; exact a2, rfl, ?_, ?_, ?_, b5⟩
      · unfold opt; rw [if_pos h]; exact b2
      · have e : (opt g.ownMarks (goneS (gN 2) st.targets.toNat) [] s).2 = (goneS (gN 2) st.targets.toNat s).2 := by unfold opt; rw [if_pos h]
        rw [e]; exact b3
      · have e : (opt g.ownMarks (goneS (gN 2) st.targets.toNat) [] s).2 = (goneS (gN 2) st.targets.toNat s).2 := by unfold opt; rw [if_pos h]
        rw [e]; exact b4
    · obtain ⟨d, l, c2, s2, a2, b3, b4, b5⟩ := j2 g c s hg2 hg3 hr
      have e : (opt g.ownMarks (goneS (gN 2) st.targets.toNat) [] s) = ([], s) := by unfold opt; rw [if_neg h]; rfl
      refine ⟨[], d, l, c2, _, s2, by rw [if_neg h, a2, ← hg], rfl, ?_, ?_, ?_, b5⟩
      · rw [e]; exact fun _ _ => rfl
      · rw [e]; exact b3
      · rw [e]; exact b4
  have fin : ∀ (act : Int) (c0 : GBits) (s0 : RS), Rep B c0 s0 → (opt f.hasActive (gN st.targets.toNat) 0 s) = (act, s0) → av1_eye_rest_y1 none st ⟨c⟩ f = av1_eye_rest_y1_j1 none st ⟨c0⟩ { f with active := act } →
      ∃ r c', av1_eye_rest_y1 none st ⟨c⟩ f = some (⟨c'⟩, { f with active := r.1, marks := r.2.1, diffs := r.2.2.1, chains := r.2.2.2 }) ∧ Tell B r c' (rsS st f.hasActive f.ownMarks f.ownDiffs f.ownChains s) := by
    intro act c0 s0 hr0 h0 hrun
    obtain ⟨m, d, l, c', s1, s2, a, b1, b2, b3, b4, b5, b6⟩ := j1 { f with active := act } c0 s0 z2 z3 z4 hr0
    refine ⟨(act, m, d, l), c', by rw [hrun, a], ?_⟩
    have hrs : rsS st f.hasActive f.ownMarks f.ownDiffs f.ownChains s = ((act, (opt f.ownMarks (goneS (gN 2) st.targets.toNat) [] s0).1, (opt f.ownDiffs (difA 16) [] s1).1, (opt f.ownChains (goneS (gN 8) st.chains.toNat) [] s2).1), (opt f.ownChains (goneS (gN 8) st.chains.toNat) [] s2).2) := by
      have e1 : s1 = (opt f.ownMarks (goneS (gN 2) st.targets.toNat) [] s0).2 := b1.symm
      have e2 : s2 = (opt f.ownDiffs (difA 16) [] s1).2 := b3.symm
      unfold rsS
      simp only [bdR, h0]
      rw [← e1, ← e2]; rfl
    rw [hrs]
    refine ⟨b5, fun R h => ?_⟩
    have hl := b6 R h
    have ok2 : ∃ S, s2 = .ok S := by
      cases s2 with
      | ok S => exact ⟨S, rfl⟩
      | error e => rw [ErrP.opt (.gone _ _)] at h; cases h
    obtain ⟨S2, h2⟩ := ok2
    have hd := b4 S2 h2
    have ok1 : ∃ S, s1 = .ok S := by
      cases s1 with
      | ok S => exact ⟨S, rfl⟩
      | error e =>
        rw [ErrP.opt (.difA _)] at b3
        rw [← b3] at h2; cases h2
    obtain ⟨S1, h1⟩ := ok1
    have hm := b2 S1 h1
    rw [hm, hd, hl]
  by_cases h : f.hasActive = true
  · obtain ⟨c1, a1, b1, d1⟩ := numA hB (w := st.targets.toNat) (wi := st.targets) (by omega) (by omega) hr
    have hp := pow32 (n := st.targets.toNat) (by omega)
    refine fin (gN st.targets.toNat s).1 c1 _ b1 (by unfold opt; rw [if_pos h]) ?_
    unfold av1_eye_rest_y1
    rw [if_pos h, bnd a1]
    simp only
    rw [w_u32 (by omega) (by omega)]
  · refine fin 0 c s hr (by unfold opt; rw [if_neg h]; rfl) ?_
    unfold av1_eye_rest_y1
    rw [if_neg h, ← z1]
end Xb

namespace Xb
open Go

theorem getA {B : List Int} (hB : By B) {c : GBits} {s : RS} (hr : Rep B c s) : ∃ st c', templ_Get none c = some (c', st) ∧ Tell B st c' (structS s) ∧ May st := by
  obtain ⟨st, c', a, b, d⟩ := readR hB (.inl hr)
  unfold templ_Get
  rw [bnd a]
  simp only
  cases hs : structS s with
  | mk t z =>
    rw [hs] at b d
    cases z with
    | ok R =>
      rw [fine_ok b, if_neg (by decide)]
      refine ⟨st, c', rfl, ⟨b, d⟩, .inl ?_⟩
      rw [d R rfl]
      cases s with
      | error e => have := ErrP.structS e; rw [hs] at this; cases this
      | ok S =>
        obtain ⟨X, _, h2, _⟩ := ExF.struct.dec _ _ _ (hr.bin S rfl) hs
        exact h2
    | error e =>
      rw [fine_err b, if_pos (by rfl)]
      refine ⟨zT, _, rfl, ⟨⟨hr.by_, ?_⟩, fun R h => by cases h⟩, .inr rfl⟩
      exact b.st
theorem flagsA {B : List Int} (hB : By B) {f : Frame} (hf : f.structure_ = zT) {c : GBits} {s : RS} (hr : Rep B c s) :
    ∃ (x : FL) (c' : GBits), av1_eye_flags_y1 none ⟨c⟩ f = some (⟨c'⟩, { f with hasStructure := x.1, structure_ := x.2.2.2.2.2, hasActive := x.2.1, ownMarks := x.2.2.1, ownDiffs := x.2.2.2.1, ownChains := x.2.2.2.2.1 }) ∧ Tell B x c' (flS1 s) ∧ May x.2.2.2.2.2 := by
  unfold av1_eye_flags_y1
  obtain ⟨c1, a1, b1⟩ := truthA hB hr
  obtain ⟨c2, a2, b2⟩ := truthA hB b1
  obtain ⟨c3, a3, b3⟩ := truthA hB b2
  obtain ⟨c4, a4, b4⟩ := truthA hB b3
  obtain ⟨c5, a5, b5⟩ := truthA hB b4
  rw [bnd a1, bnd a2, bnd a3, bnd a4, bnd a5]
  simp only
  have hfl : flS1 s = (((tS s).1, (tS (tS s).2).1, (tS (tS (tS s).2).2).1, (tS (tS (tS (tS s).2).2).2).1, (tS (tS (tS (tS (tS s).2).2).2).2).1, (opt (tS s).1 structS zT (tS (tS (tS (tS (tS s).2).2).2).2).2).1), (opt (tS s).1 structS zT (tS (tS (tS (tS (tS s).2).2).2).2).2).2) := rfl
  rw [hfl]
  cases h : (tS s).1 with
  | true =>
    obtain ⟨st, c6, g1, g2, g3⟩ := getA hB b5
    refine ⟨(true, _, _, _, _, st), c6, by rw [if_pos rfl, bnd g1], ⟨g2.1, fun R hR => ?_⟩, g3⟩
    rw [g2.2 R hR]; rfl
  | false =>
    refine ⟨(false, _, _, _, _, zT), c5, by rw [if_neg (by decide), ← hf], ⟨b5, fun R hR => rfl⟩, .inr rfl⟩
theorem May.bd {s : Structure} (h : May s) : (0 ≤ s.id_ ∧ s.id_ ≤ 63) ∧ (0 ≤ s.targets ∧ s.targets ≤ 32) ∧ (0 ≤ s.chains ∧ s.chains ≤ 32) ∧ s.templates.length ≤ 64 := by
  rcases h with h | rfl
  · have h1 := h.id; have h2 := h.targets; have h3 := h.chains
    exact ⟨h1, by omega, by omega, h.len⟩
  · simp [zT]
theorem place_eq {f : Frame} {s : Structure} (ht : 0 ≤ f.template ∧ f.template < 64) (hi : 0 ≤ s.id_ ∧ s.id_ ≤ 63) : av1_place f s = if plc f.template s < s.templates.length then plc f.template s else -1 := by
  unfold av1_place plc
  simp only [ar_sub, ar_add]
  rw [w_i64 (n := f.template - s.id_) (by omega) (by omega), w_i64 (by omega) (by omega), dv_rem (by omega), cm_geq]
  by_cases h : (f.template - s.id_ + 64) % 64 < (s.templates.length : Int)
  · rw [if_neg (by simp; omega), if_pos h]
  · rw [if_pos (by simp; omega), if_neg h]
theorem place_ne {f : Frame} {s : Structure} (ht : 0 ≤ f.template ∧ f.template < 64) (hi : 0 ≤ s.id_ ∧ s.id_ ≤ 63) : cm .neq (av1_place f s) (-1) = decide (plc f.template s < s.templates.length) := by
  rw [place_eq ht hi, cm_neq]
  by_cases h : plc f.template s < (s.templates.length : Int)
  · rw [if_pos h, decide_eq_true h]
    unfold plc
    simp; omega
  · rw [if_neg h, decide_eq_false h]; rfl
theorem May.sOf {hs : Bool} {st known : Structure} (h1 : May st) (h2 : May known) : May (sOf hs st known) := by
  unfold Xb.sOf; cases hs
  · exact h2
  · exact h1
theorem tailA {B : List Int} (hB : By B) {known : Structure} (hk : May known) {f : Frame} (x : FL) (hx : May x.2.2.2.2.2) (hf : f = ⟨f.start, f.end_, f.template, f.number, x.1, x.2.2.2.2.2, x.2.1, 0, x.2.2.1, [], x.2.2.2.1, [], x.2.2.2.2.1, []⟩) (ht : 0 ≤ f.template ∧ f.template < 64) {c : GBits} {s : RS} (hr : Rep B c s) :
    ∃ g c', av1_eye_read_y1_j1 none known f ⟨c⟩ = some (g, ⟨c'⟩) ∧ Tell B g c' (tailS known f.start f.end_ f.template f.number x s) := by
  have e0 : av1_structure f known = sOf x.1 x.2.2.2.2.2 known := by rw [hf]; rfl
  have hm : May (sOf x.1 x.2.2.2.2.2 known) := May.sOf hx hk
  obtain ⟨h1, h2, h3, h4⟩ := hm.bd
  unfold av1_eye_read_y1_j1
  rw [e0]
  obtain ⟨c1, a1, b1⟩ := needA hr (decide (0 < (sOf x.1 x.2.2.2.2.2 known).templates.length)) (e := 8) (by decide)
  have e1 : cm .gtr ((sOf x.1 x.2.2.2.2.2 known).templates.length : Int) 0 = decide (0 < (sOf x.1 x.2.2.2.2.2 known).templates.length) := by
    rw [cm_gtr, Bool.eq_iff_iff]; simp
  obtain ⟨c2, a2, b2⟩ := needA b1 (decide (plc f.template (sOf x.1 x.2.2.2.2.2 known) < (sOf x.1 x.2.2.2.2.2 known).templates.length)) (e := 6) (by decide)
  rw [e1, bnd a1, place_ne ht h1, bnd a2]
  have hz : f.active = 0 ∧ f.marks = [] ∧ f.diffs = [] ∧ f.chains = [] := by rw [hf]; exact ⟨rfl, rfl, rfl, rfl⟩
  obtain ⟨r, c3, a3, b3, b4⟩ := restA hB h2 h3 hz b2
  rw [bnd a3]
  have f1 : f.hasActive = x.2.1 := by rw [hf]
  have f2 : f.ownMarks = x.2.2.1 := by rw [hf]
  have f3 : f.ownDiffs = x.2.2.2.1 := by rw [hf]
  have f4 : f.ownChains = x.2.2.2.2.1 := by rw [hf]
  rw [f1, f2, f3, f4] at b3 b4
  refine ⟨_, c3, rfl, b3, fun R h => ?_⟩
  rw [b4 R h]
  have hg : ∀ r : RE, ({ f with active := r.1, marks := r.2.1, diffs := r.2.2.1, chains := r.2.2.2 } : Frame) = ⟨f.start, f.end_, f.template, f.number, x.1, x.2.2.2.2.2, x.2.1, r.1, x.2.2.1, r.2.1, x.2.2.2.1, r.2.2.1, x.2.2.2.2.1, r.2.2.2⟩ := fun r => by
    conv => lhs; rw [hf]
  rw [hg]; rfl
def zF : Frame := ⟨false, false, 0, 0, false, zT, false, 0, false, [], false, [], false, []⟩
theorem frameA {B : List Int} (hB : By B) {known : Structure} (hk : May known) (more : Bool) {c : GBits} {s : RS} (hr : Rep B c s) :
    ∃ g c', av1_eye_read_y1 none known more ⟨c⟩ = some (g, ⟨c'⟩) ∧ Tell B g c' (frameS known more s) := by
  unfold av1_eye_read_y1
  obtain ⟨c1, a1, b1⟩ := truthA hB hr
  obtain ⟨c2, a2, b2⟩ := truthA hB b1
  obtain ⟨c3, a3, b3, d3⟩ := numA hB (w := 6) (wi := 6) rfl (by decide) b2
  obtain ⟨c4, a4, b4, d4⟩ := numA hB (w := 16) (wi := 16) rfl (by decide) b3
  rw [bnd a1, bnd a2, bnd a3, bnd a4]
  simp only
  have d32 : (gN 6 (tS (tS s).2).2).1 < 64 := d3.2
  have hfr : frameS known more s = tailS known (tS s).1 (tS (tS s).2).1 (gN 6 (tS (tS s).2).2).1 (gN 16 (gN 6 (tS (tS s).2).2).2).1 (flS more (gN 16 (gN 6 (tS (tS s).2).2).2).2).1 (flS more (gN 16 (gN 6 (tS (tS s).2).2).2).2).2 := rfl
  rw [hfr]
  generalize (tS s).1 = p1 at *
  generalize (tS (tS s).2).1 = p2 at *
  generalize (gN 6 (tS (tS s).2).2).1 = p3 at *
  generalize (gN 16 (gN 6 (tS (tS s).2).2).2).1 = p4 at *
  generalize (gN 16 (gN 6 (tS (tS s).2).2).2).2 = s4 at *
  cases more with
  | false =>
    rw [if_neg (by decide)]
    exact tailA hB hk zFL (.inr rfl) (f := ⟨p1, p2, p3, p4, false, zT, false, 0, false, [], false, [], false, []⟩) rfl ⟨d3.1, d32⟩ b4
  | true =>
    rw [if_pos rfl]
    obtain ⟨x, c5, a5, ⟨b5, b6⟩, b7⟩ := flagsA hB (f := ⟨p1, p2, p3, p4, false, zT, false, 0, false, [], false, [], false, []⟩) rfl b4
    change av1_eye_flags_y1 none ⟨c4⟩ ⟨p1, p2, p3, p4, false, ⟨0, 0, 0, [], [], []⟩, false, 0, false, [], false, [], false, []⟩ = _ at a5
    rw [bnd a5]
    obtain ⟨g, c6, a6, b8, b9⟩ := tailA hB hk x b7 (f := ⟨p1, p2, p3, p4, x.1, x.2.2.2.2.2, x.2.1, 0, x.2.2.1, [], x.2.2.2.1, [], x.2.2.2.2.1, []⟩) rfl ⟨d3.1, d32⟩ b5
    refine ⟨g, c6, a6, ?_⟩
    have hfl : flS true s4 = flS1 s4 := rfl
    rw [hfl]
    cases h5 : (flS1 s4).2 with
    | ok S =>
      have hx := b6 S h5
      rw [h5] at b8 b9
      rw [← hx]
      exact ⟨b8, b9⟩
    | error e =>
      rw [h5, ErrP.tail] at b8
      exact ⟨by rw [ErrP.tail]; exact b8, fun R h => by rw [ErrP.tail] at h; cases h⟩
/-- what Read tells -/
def rdF (b : List Int) (known : Structure) : Frame × Int :=
  if b.length < 3 then (zF, 2) else match frameS known (decide (3 < b.length)) (.ok (bitsOf b)) with
  | (f, .ok R) => if R.length < 8 then (f, 0) else (zF, 4)
  | (_, .error e) => (zF, e)
noncomputable def rMay (s : Structure) : Bool := @decide (May s) (Classical.propDecidable _)
theorem rMay_iff {s : Structure} : rMay s = true ↔ May s := by simp [rMay]
theorem may_eq {known : Structure} (hk : SmT known) : av1_may none known = some (rMay known) := by
  unfold av1_may
  rw [bnd (right_eq hk)]
  cases h : rT known with
  | true =>
    simp only [Bool.not_true, gTF, Option.bind_some, Bool.true_or]
    congr 1
    exact (rMay_iff.2 (.inl (rT_iff.1 h))).symm
  | false =>
    simp only [Bool.not_false, gTT]
    rw [bnd (tsame_eq hk)]
    congr 1
    rw [Bool.false_or, Bool.eq_iff_iff, decide_eq_true_eq, rMay_iff]
    exact ⟨fun h => .inr h, fun h9 => h9.resolve_left fun q => by rw [rT_iff.2 q] at h; cases h⟩
theorem aread_no {b : List Int} {known : Structure} (hk : SmT known) (h : ¬ May known) : av1_Read none b known = some (zF, 1) := by
  unfold av1_Read
  rw [bnd (may_eq hk)]
  have : rMay known = false := by rw [← Bool.not_eq_true, rMay_iff]; exact h
  rw [this, if_pos (by rfl)]; rfl
theorem aread_eq {b : List Int} (hb : By b) {known : Structure} (hk : SmT known) (hm : May known) : av1_Read none b known = some (rdF b known) := by
  have hl := hb.len
  unfold av1_Read rdF
  rw [bnd (may_eq hk)]
  have : rMay known = true := rMay_iff.2 hm
  rw [this, if_neg (by decide)]
  by_cases h3 : b.length < 3
  · rw [if_pos (by rw [cm_lss]; simp; omega), if_pos h3]; rfl
  · rw [if_neg (by rw [cm_lss]; simp; omega), if_neg h3]
    have e1 : cm .gtr (b.length : Int) 3 = decide (3 < b.length) := by rw [cm_gtr, Bool.eq_iff_iff]; simp; omega
    rw [e1]
    obtain ⟨g, c', a, b1, d⟩ := frameA hb hm (decide (3 < b.length)) (Rep.start b)
    unfold bits_Start
    rw [bnd a]
    simp only
    have hc : By c'.bytes := by rw [b1.by_]; exact hb
    cases hs : frameS known (decide (3 < b.length)) (.ok (bitsOf b)) with
    | mk t z =>
      rw [hs] at b1 d
      cases z with
      | error e =>
        have ho : okG c' = false := by have := b1.st; unfold okG; rw [decide_eq_false (by omega)]; rfl
        have hleft : bits_Left c' = 0 := by rw [bits_Left_eq hc, ho]; rfl
        obtain ⟨c2, q1, q2⟩ := needA b1 true (e := 4) (by decide)
        have q3 : Rep b c2 (.error e) := q2
        rw [hleft, show cm .lss (0 : Int) 8 = true from rfl, bnd q1, fineA_err q3, if_pos (by rfl), q3.st.1]; rfl
      | ok R =>
        have hat := b1.at_ok
        obtain ⟨g1, g2, g3, g4, g5⟩ := b1
        have ho : okG c' = true := by unfold okG; rw [g1, decide_eq_true g2, decide_eq_true g3, decide_eq_true g4]; rfl
        have hleft : bits_Left c' = R.length := by rw [bits_Left_eq hc, ho, if_pos rfl, g1, hat.1]; omega
        have b1' : Rep b c' (.ok R) := ⟨g1, g2, g3, g4, g5⟩
        rw [hleft]
        by_cases h8 : R.length < 8
        · obtain ⟨c2, q1, q2⟩ := needA b1' true (e := 4) (by decide)
          have q3 : Rep b c2 (.ok R) := q2
          rw [show cm .lss (R.length : Int) 8 = true by rw [cm_lss]; simp; omega, bnd q1, fineA_ok q3, if_neg (by decide)]
          show _ = some (if R.length < 8 then (t, 0) else (zF, 4))
          rw [if_pos h8, d R rfl]
        · obtain ⟨c2, q1, q2⟩ := needA b1' false (e := 4) (by decide)
          have q3 : Rep b c2 (.error 4) := q2
          rw [show cm .lss (R.length : Int) 8 = false by rw [cm_lss]; simp; omega, bnd q1, fineA_err q3, if_pos (by rfl)]
          show _ = some (if R.length < 8 then (t, 0) else (zF, 4))
          rw [if_neg h8]
          show some (zF, c2.err) = _
          rw [q3.st.1]
end Xb

