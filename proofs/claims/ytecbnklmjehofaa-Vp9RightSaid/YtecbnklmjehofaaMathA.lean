/- Own text: MathA. -/
import Derived.Test.YtecbnklmjehofaaCore16
import Derived.Test.YtecbnklmjehofaaVModels
import Derived.Test.YtecbnklmjehofaaVWf
set_option linter.all false
set_option linter.unusedVariables false
set_option linter.unusedSimpArgs false
set_option linter.unnecessarySimpa false
set_option linter.deprecated false
/-! Plain arithmetic and loops, for the models. -/
namespace Xb
open Go

/-! wraps -/
theorem w_i64 {n : Int} (h1 : -9223372036854775808 ≤ n) (h2 : n ≤ 9223372036854775807) : IntKind.i64.wrap n = n := by
  simp only [IntKind.wrap, IntKind.signed, IntKind.bits]; simp; split <;> omega
theorem w_i32 {n : Int} (h1 : -2147483648 ≤ n) (h2 : n ≤ 2147483647) : IntKind.i32.wrap n = n := by
  simp only [IntKind.wrap, IntKind.signed, IntKind.bits]; simp; split <;> omega
theorem wu64 (n : Int) : IntKind.u64.wrap n = n % 18446744073709551616 := by
  simp [IntKind.wrap, IntKind.signed, IntKind.bits]
theorem wu32 (n : Int) : IntKind.u32.wrap n = n % 4294967296 := by
  simp [IntKind.wrap, IntKind.signed, IntKind.bits]
theorem wu16 (n : Int) : IntKind.u16.wrap n = n % 65536 := by
  simp [IntKind.wrap, IntKind.signed, IntKind.bits]
theorem wu8 (n : Int) : IntKind.u8.wrap n = n % 256 := by
  simp [IntKind.wrap, IntKind.signed, IntKind.bits]
theorem w_u64 {n : Int} (h1 : 0 ≤ n) (h2 : n ≤ 18446744073709551615) : IntKind.u64.wrap n = n := by rw [wu64]; omega
theorem w_u32 {n : Int} (h1 : 0 ≤ n) (h2 : n ≤ 4294967295) : IntKind.u32.wrap n = n := by rw [wu32]; omega
theorem w_u16 {n : Int} (h1 : 0 ≤ n) (h2 : n ≤ 65535) : IntKind.u16.wrap n = n := by rw [wu16]; omega
theorem w_u8 {n : Int} (h1 : 0 ≤ n) (h2 : n ≤ 255) : IntKind.u8.wrap n = n := by rw [wu8]; omega

theorem in_i64 {n : Int} : inK .i64 n ↔ -9223372036854775808 ≤ n ∧ n ≤ 9223372036854775807 := Iff.rfl
theorem in_i32 {n : Int} : inK .i32 n ↔ -2147483648 ≤ n ∧ n ≤ 2147483647 := Iff.rfl
theorem in_u64 {n : Int} : inK .u64 n ↔ 0 ≤ n ∧ n ≤ 18446744073709551615 := Iff.rfl
theorem in_u32 {n : Int} : inK .u32 n ↔ 0 ≤ n ∧ n ≤ 4294967295 := Iff.rfl
theorem in_u16 {n : Int} : inK .u16 n ↔ 0 ≤ n ∧ n ≤ 65535 := Iff.rfl
theorem in_u8 {n : Int} : inK .u8 n ↔ 0 ≤ n ∧ n ≤ 255 := Iff.rfl

theorem ar_add {k : IntKind} {x y : Int} : ar .add k x y = k.wrap (x + y) := by cases k <;> rfl
theorem ar_sub {k : IntKind} {x y : Int} : ar .sub k x y = k.wrap (x - y) := by cases k <;> rfl
theorem ar_mul {k : IntKind} {x y : Int} : ar .mul k x y = k.wrap (x * y) := by cases k <;> rfl
theorem cm_eql {x y : Int} : cm .eql x y = decide (x = y) := by simp only [cm]; by_cases h : x = y <;> simp [h]
theorem cm_neq {x y : Int} : cm .neq x y = !decide (x = y) := by simp only [cm]; by_cases h : x = y <;> simp [h]
theorem cm_lss {x y : Int} : cm .lss x y = decide (x < y) := by simp only [cm, gt_iff_lt, ge_iff_le]
theorem cm_leq {x y : Int} : cm .leq x y = decide (x ≤ y) := by simp only [cm, gt_iff_lt, ge_iff_le]
theorem cm_gtr {x y : Int} : cm .gtr x y = decide (y < x) := by simp only [cm, gt_iff_lt, ge_iff_le]
theorem cm_geq {x y : Int} : cm .geq x y = decide (y ≤ x) := by simp only [cm, gt_iff_lt, ge_iff_le]
theorem dv_quo {k : IntKind} {x y : Int} (h : 0 ≤ x) : dv .quo k x y = k.wrap (x / y) := by simp only [dv, Int.tdiv_eq_ediv_of_nonneg h]
theorem dv_rem {k : IntKind} {x y : Int} (h : 0 ≤ x) : dv .rem k x y = x % y := by simp only [dv, Int.tmod_eq_emod_of_nonneg h]

theorem sf_shl {k : IntKind} {x y : Int} {n : Nat} (h : y = n) (hn : n ≤ k.bits) : sf .shl k x y = k.wrap (x * 2 ^ n) := by
  subst h; simp only [sf, Int.toNat_natCast]; rw [Nat.min_eq_left hn]
theorem sf_shr {k : IntKind} {x y : Int} {n : Nat} (h : y = n) (hn : n ≤ k.bits) : sf .shr k x y = x / 2 ^ n := by
  subst h; simp only [sf, Int.toNat_natCast]; rw [Nat.min_eq_left hn, Int.fdiv_eq_ediv_of_nonneg _ (Int.le_of_lt (Int.pow_pos (by omega)))]
theorem sfO_nn {op : BinOp} {k : IntKind} {x y : Int} (h : 0 ≤ y) : sfO op k x y = some (sf op k x y) := by simp [sfO]; omega
theorem dvO_nz {op : BinOp} {k : IntKind} {x y : Int} (h : y ≠ 0) : dvO op k x y = some (dv op k x y) := by simp [dvO, h]

/-- and with a mask of ones -/
theorem nat_and_mask (x n : Nat) : x &&& (2 ^ n - 1) = x % 2 ^ n := Nat.and_two_pow_sub_one_eq_mod x n
theorem ar_and_nat {k : IntKind} (hs : k.signed = false) {x y : Nat} (hx : x < 2 ^ k.bits) (hy : y < 2 ^ k.bits) : ar .and k (x : Int) (y : Int) = ((x &&& y : Nat) : Int) := by
  simp only [ar, BitVec.toNat_and, BitVec.toNat_ofInt]
  have e1 : ((x : Int) % ((2 ^ k.bits : Nat) : Int)).toNat = x := by
    rw [← Int.natCast_emod, Int.toNat_natCast, Nat.mod_eq_of_lt hx]
  have e2 : ((y : Int) % ((2 ^ k.bits : Nat) : Int)).toNat = y := by
    rw [← Int.natCast_emod, Int.toNat_natCast, Nat.mod_eq_of_lt hy]
  rw [e1, e2]
  have hlt : x &&& y < 2 ^ k.bits := Nat.lt_of_le_of_lt Nat.and_le_left hx
  simp only [IntKind.wrap, hs, Bool.false_and, Bool.false_eq_true, if_false]
  have : ((x &&& y : Nat) : Int) % ((2 : Int) ^ k.bits) = ((x &&& y : Nat) : Int) := by
    apply Int.emod_eq_of_lt (by omega)
    have : ((x &&& y : Nat) : Int) < ((2 ^ k.bits : Nat) : Int) := by exact_mod_cast hlt
    simpa using this
  exact this
theorem ar_or_nat {k : IntKind} (hs : k.signed = false) {x y : Nat} (hx : x < 2 ^ k.bits) (hy : y < 2 ^ k.bits) : ar .or k (x : Int) (y : Int) = ((x ||| y : Nat) : Int) := by
  simp only [ar, BitVec.toNat_or, BitVec.toNat_ofInt]
  have e1 : ((x : Int) % ((2 ^ k.bits : Nat) : Int)).toNat = x := by
    rw [← Int.natCast_emod, Int.toNat_natCast, Nat.mod_eq_of_lt hx]
  have e2 : ((y : Int) % ((2 ^ k.bits : Nat) : Int)).toNat = y := by
    rw [← Int.natCast_emod, Int.toNat_natCast, Nat.mod_eq_of_lt hy]
  rw [e1, e2]
  have hlt : x ||| y < 2 ^ k.bits := Nat.or_lt_two_pow hx hy
  simp only [IntKind.wrap, hs, Bool.false_and, Bool.false_eq_true, if_false]
  have : ((x ||| y : Nat) : Int) % ((2 : Int) ^ k.bits) = ((x ||| y : Nat) : Int) := by
    apply Int.emod_eq_of_lt (by omega)
    have : ((x ||| y : Nat) : Int) < ((2 ^ k.bits : Nat) : Int) := by exact_mod_cast hlt
    simpa using this
  exact this

/-- and with a mask, of numbers without a sign -/
theorem ar_mask {k : IntKind} (hs : k.signed = false) {x y : Int} {n : Nat} (hy : y = 2 ^ n - 1) (hn : n ≤ k.bits) (h0 : 0 ≤ x) (hx : x < 2 ^ k.bits) : ar .and k x y = x % 2 ^ n := by
  obtain ⟨x, rfl⟩ := Int.eq_ofNat_of_zero_le h0
  have h2 : (1 : Nat) ≤ 2 ^ n := Nat.one_le_two_pow
  have e : y = ((2 ^ n - 1 : Nat) : Int) := by rw [hy, Int.natCast_sub h2]; simp
  have hle : 2 ^ n ≤ 2 ^ k.bits := Nat.pow_le_pow_right (by omega) hn
  rw [e, ar_and_nat hs (by exact_mod_cast hx) (Nat.lt_of_lt_of_le (Nat.sub_lt (by omega) (by omega)) hle), nat_and_mask]
  simp
/-- or, where the lower one is below all ones of the higher one -/
theorem nat_or_add {a b n : Nat} (hb : b < 2 ^ n) : a * 2 ^ n ||| b = a * 2 ^ n + b := by
  rw [← Nat.shiftLeft_eq, Nat.shiftLeft_add_eq_or_of_lt hb]
theorem ar_or_add {k : IntKind} (hs : k.signed = false) {x y a : Int} {n : Nat} (hx : x = a * 2 ^ n) (ha : 0 ≤ a) (h0 : 0 ≤ y) (hy : y < 2 ^ n) (hx2 : x < 2 ^ k.bits) (hn : n ≤ k.bits) : ar .or k x y = x + y := by
  obtain ⟨a, rfl⟩ := Int.eq_ofNat_of_zero_le ha
  obtain ⟨y, rfl⟩ := Int.eq_ofNat_of_zero_le h0
  have hle : 2 ^ n ≤ 2 ^ k.bits := Nat.pow_le_pow_right (by omega) hn
  have hy' : y < 2 ^ n := by exact_mod_cast hy
  have e : x = ((a * 2 ^ n : Nat) : Int) := by rw [hx]; simp
  rw [e] at hx2 ⊢
  rw [ar_or_nat hs (by exact_mod_cast hx2) (by omega), nat_or_add hy']
  simp

/-! lists -/
theorem ix_some {α : Type} {l : List α} {i : Int} {n : Nat} (h : i = n) (hn : n < l.length) : ix l i = some l[n] := by
  subst h; simp [ix, hn]
theorem ix_getD {l : List Int} {i : Int} (h : 0 ≤ i) (hn : i < l.length) : ix l i = some (l.getD i.toNat 0) := by
  have : i.toNat < l.length := by omega
  simp [ix, h, List.getD, this]
theorem app_some {α : Type} {l m : List α} (h : l.length + m.length ≤ 4294967296) : app l m = some (l ++ m) := by simp [app, h]
theorem sub_some {α : Type} {l : List α} {a b : Int} (h1 : 0 ≤ a) (h2 : a ≤ b) (h3 : b ≤ l.length) : sub l a b = some ((l.drop a.toNat).take (b.toNat - a.toNat)) := by simp [sub, h1, h2, h3]
theorem cat_some {l m : List UInt8} (h : l.length + m.length ≤ 4294967296) : cat l m = some (l ++ m) := by simp [cat, h]
theorem bnd {α β : Type} {m : Option α} {x : α} (h : m = some x) (f : α → Option β) : Option.bind m f = f x := by subst h; rfl
theorem gT_true {α : Type} [Inhabited α] {b : Bool} {m : Option α} (h : b = true) : gT b m = m := by subst h; rfl
theorem gT_false {α : Type} [Inhabited α] {b : Bool} {m : Option α} (h : b = false) : gT b m = some default := by subst h; rfl
theorem gTT {α : Type} [Inhabited α] {m : Option α} : gT true m = m := by cases m <;> rfl
theorem gTF {α : Type} [Inhabited α] {m : Option α} : gT false m = some default := by cases m <;> rfl
theorem sc_self {s : List UInt8} : sc .eql s s = true := by simp [sc]

/-! loops -/
/-- a loop whose states are known ahead -/
theorem loop_seq {σ ρ : Type} {step : σ → Option (σ ⊕ ρ)} {r : ρ} (f : Nat → σ) (N : Nat) (h : ∀ i, i < N → step (f i) = some (.inl (f (i + 1)))) (he : step (f N) = some (.inr r)) : loopG none step (f 0) = some r := by
  have key : ∀ k, k ≤ N → loopG none step (f (N - k)) = some r := by
    intro k
    induction k with
    | zero => intro _; rw [loopG_eq]; simp [he]
    | succ k ih =>
      intro hk
      rw [loopG_eq, h (N - (k + 1)) (by omega)]
      have e : N - (k + 1) + 1 = N - k := by omega
      simp only [e]
      exact ih (by omega)
  have := key N (Nat.le_refl _)
  simpa using this

/-- a loop by what stands at its head -/
theorem loop_inv {σ ρ : Type} {step : σ → Option (σ ⊕ ρ)} {Q : ρ → Prop} (Inv : σ → Prop) (μ : σ → Nat) (s0 : σ) (h0 : Inv s0)
    (h : ∀ s, Inv s → (∃ s', step s = some (.inl s') ∧ Inv s' ∧ μ s' < μ s) ∨ (∃ r, step s = some (.inr r) ∧ Q r)) : ∃ r, loopG none step s0 = some r ∧ Q r := by
  have key : ∀ n s, μ s < n → Inv s → ∃ r, loopG none step s = some r ∧ Q r := by
    intro n
    induction n with
    | zero => intro s hs; omega
    | succ n ih =>
      intro s hs hi
      rcases h s hi with ⟨s', h1, h2, h3⟩ | ⟨r, h1, h2⟩
      · obtain ⟨r, hr, hq⟩ := ih s' (by omega) h2
        exact ⟨r, by rw [loopG_eq, h1]; exact hr, hq⟩
      · exact ⟨r, by rw [loopG_eq, h1], h2⟩
  exact key (μ s0 + 1) s0 (by omega) h0

end Xb

/-! Loops along lists; bits of signed numbers. -/
namespace Xb
open Go

theorem ar_and_i64_nat {x y : Nat} (hx : x < 2 ^ 63) (hy : y < 2 ^ 63) : ar .and .i64 (x : Int) (y : Int) = ((x &&& y : Nat) : Int) := by
  have hb : IntKind.i64.bits = 64 := rfl
  simp only [ar, BitVec.toNat_and, BitVec.toNat_ofInt, hb]
  have e1 : ((x : Int) % ((2 ^ 64 : Nat) : Int)).toNat = x := by rw [← Int.natCast_emod, Int.toNat_natCast, Nat.mod_eq_of_lt (by omega)]
  have e2 : ((y : Int) % ((2 ^ 64 : Nat) : Int)).toNat = y := by rw [← Int.natCast_emod, Int.toNat_natCast, Nat.mod_eq_of_lt (by omega)]
  rw [e1, e2]
  have hlt : x &&& y < 2 ^ 63 := Nat.lt_of_le_of_lt Nat.and_le_left hx
  exact w_i64 (by omega) (by omega)
theorem ar_or_i64_nat {x y : Nat} (hx : x < 2 ^ 63) (hy : y < 2 ^ 63) : ar .or .i64 (x : Int) (y : Int) = ((x ||| y : Nat) : Int) := by
  have hb : IntKind.i64.bits = 64 := rfl
  simp only [ar, BitVec.toNat_or, BitVec.toNat_ofInt, hb]
  have e1 : ((x : Int) % ((2 ^ 64 : Nat) : Int)).toNat = x := by rw [← Int.natCast_emod, Int.toNat_natCast, Nat.mod_eq_of_lt (by omega)]
  have e2 : ((y : Int) % ((2 ^ 64 : Nat) : Int)).toNat = y := by rw [← Int.natCast_emod, Int.toNat_natCast, Nat.mod_eq_of_lt (by omega)]
  rw [e1, e2]
  have hlt : x ||| y < 2 ^ 63 := Nat.or_lt_two_pow hx hy
  exact w_i64 (by omega) (by omega)
/-- and with a mask of ones, signed -/
theorem ar_mask_i64 {x y : Int} {n : Nat} (hy : y = 2 ^ n - 1) (hn : n ≤ 62) (h0 : 0 ≤ x) (hx : x < 2 ^ 63) : ar .and .i64 x y = x % 2 ^ n := by
  obtain ⟨x, rfl⟩ := Int.eq_ofNat_of_zero_le h0
  have h2 : (1 : Nat) ≤ 2 ^ n := Nat.one_le_two_pow
  have e : y = ((2 ^ n - 1 : Nat) : Int) := by rw [hy, Int.natCast_sub h2]; simp
  have hle : 2 ^ n ≤ 2 ^ 62 := Nat.pow_le_pow_right (by omega) hn
  rw [e, ar_and_i64_nat (by omega) (by omega), nat_and_mask]
  simp
theorem ar_or_add_i64 {x y a : Int} {n : Nat} (hx : x = a * 2 ^ n) (ha : 0 ≤ a) (h0 : 0 ≤ y) (hy : y < 2 ^ n) (hx2 : x < 2 ^ 63) (hn : n ≤ 63) : ar .or .i64 x y = x + y := by
  obtain ⟨a, rfl⟩ := Int.eq_ofNat_of_zero_le ha
  obtain ⟨y, rfl⟩ := Int.eq_ofNat_of_zero_le h0
  have hle : 2 ^ n ≤ 2 ^ 63 := Nat.pow_le_pow_right (by omega) hn
  have hy' : y < 2 ^ n := by exact_mod_cast hy
  have e : x = ((a * 2 ^ n : Nat) : Int) := by rw [hx]; simp
  rw [e] at hx2 ⊢
  rw [ar_or_i64_nat (by exact_mod_cast hx2) (by omega), nat_or_add hy']
  simp

theorem nat_and_bit (x n : Nat) : x &&& 2 ^ n = x / 2 ^ n % 2 * 2 ^ n := by
  have hb : (x.testBit n) = decide (x / 2 ^ n % 2 = 1) := Nat.testBit_eq_decide_div_mod_eq
  have key : x &&& 2 ^ n = if x.testBit n = true then 2 ^ n else 0 := by
    apply Nat.eq_of_testBit_eq
    intro i
    rw [Nat.testBit_and, Nat.testBit_two_pow]
    by_cases hi : n = i
    · subst hi
      cases hx : x.testBit n <;> simp [Nat.testBit_two_pow]
    · cases hx : x.testBit n <;> simp [hi, Nat.testBit_two_pow]
  rw [key]
  rcases Nat.mod_two_eq_zero_or_one (x / 2 ^ n) with h | h
  · rw [hb, h]; simp
  · rw [hb, h]; simp

/-- a bit by itself -/
theorem ar_bit {k : IntKind} (hs : k.signed = false) {x : Int} {n : Nat} (hn : n < k.bits) (h0 : 0 ≤ x) (hx : x < 2 ^ k.bits) : ar .and k x (2 ^ n) = x / 2 ^ n % 2 * 2 ^ n := by
  obtain ⟨x, rfl⟩ := Int.eq_ofNat_of_zero_le h0
  have e : ((2 : Int) ^ n) = ((2 ^ n : Nat) : Int) := by simp
  rw [e, ar_and_nat hs (by exact_mod_cast hx) (Nat.pow_lt_pow_right (by omega) hn), nat_and_bit]
  simp

theorem loop_inl {σ ρ : Type} {step : σ → Option (σ ⊕ ρ)} {s s' : σ} (h : step s = some (.inl s')) : loopG none step s = loopG none step s' := by rw [loopG_eq, h]
theorem loop_inr {σ ρ : Type} {step : σ → Option (σ ⊕ ρ)} {s : σ} {r : ρ} (h : step s = some (.inr r)) : loopG none step s = some r := by rw [loopG_eq, h]

/-- a search along a list -/
theorem find_loop {α ρ : Type} {l : List α} {step : Int → Option (Int ⊕ ρ)} {p : α → Bool} {hit : Nat → ρ} {miss : ρ} (hmiss : step (l.length : Nat) = some (.inr miss))
    (h : ∀ i (hi : i < l.length), step (i : Nat) = if p l[i] = true then some (.inr (hit i)) else some (.inl ((i + 1 : Nat) : Int))) :
    loopG none step 0 = some (match l.findIdx? p with | some i => hit i | none => miss) := by
  have key : ∀ m i, i + m = l.length → (∀ j (hj : j < i) (hl : j < l.length), p l[j] = false) → loopG none step (i : Nat) = some (match l.findIdx? p with | some i => hit i | none => miss) := by
    intro m
    induction m with
    | zero =>
      intro i hi hn
      rw [loopG_eq]
      have : i = l.length := by omega
      rw [this, hmiss]
      have : l.findIdx? p = none := by
        rw [List.findIdx?_eq_none_iff]
        intro x hx
        obtain ⟨j, hj, rfl⟩ := List.getElem_of_mem hx
        exact hn j (by omega) hj
      rw [this]
    | succ m ih =>
      intro i hi hn
      have hil : i < l.length := by omega
      rw [loopG_eq, h i hil]
      by_cases hp : p l[i] = true
      · rw [if_pos hp]
        have : l.findIdx? p = some i := by
          rw [List.findIdx?_eq_some_iff_getElem]
          exact ⟨hil, hp, fun j hj => by simpa using hn j hj (by omega)⟩
        rw [this]
      · rw [if_neg hp]
        exact ih (i + 1) (by omega) fun j hj hl => by
          by_cases hji : j = i
          · subst hji; simpa using hp
          · exact hn j (by omega) hl
  have := key l.length 0 (by omega) (fun j hj => by omega)
  simpa using this

/-- are two lists the same, one by one -/
theorem same_loop {α : Type} [DecidableEq α] {a b : List α} (hl : a.length = b.length) {step : Int → Option (Int ⊕ Bool)} (hend : step (a.length : Nat) = some (.inr true))
    (h : ∀ i (hi : i < a.length) (hi' : i < b.length), step (i : Nat) = if a[i] ≠ b[i] then some (.inr false) else some (.inl ((i + 1 : Nat) : Int))) :
    loopG none step 0 = some (decide (a = b)) := by
  have key : ∀ m i, i + m = a.length → a.take i = b.take i → loopG none step (i : Nat) = some (decide (a = b)) := by
    intro m
    induction m with
    | zero =>
      intro i hi ht
      have e : i = a.length := by omega
      rw [loopG_eq, e, hend]
      rw [List.take_of_length_le (by omega), List.take_of_length_le (by omega)] at ht
      simp [ht]
    | succ m ih =>
      intro i hi ht
      have hia : i < a.length := by omega
      have hib : i < b.length := by omega
      rw [loopG_eq, h i hia hib]
      by_cases hne : a[i] = b[i]
      · rw [if_neg (by simpa using hne)]
        refine ih (i + 1) (by omega) ?_
        rw [List.take_add_one, List.take_add_one, ht, List.getElem?_eq_getElem hia, List.getElem?_eq_getElem hib, hne]
      · rw [if_pos (by simpa using hne)]
        have : a ≠ b := fun e => hne (by subst e; rfl)
        simp [this]
  have := key a.length 0 (by omega) (by simp)
  simpa using this
end Xb

namespace Xb
open Go

/-- bytes that are bytes, and not too many -/
structure By (b : List Int) : Prop where
  u8 : ∀ y, y ∈ b → 0 ≤ y ∧ y ≤ 255
  len : b.length ≤ 100000000000
/-- the bit at a place -/
def bt1 (b : List Int) (i : Nat) : Int := b.getD (i / 8) 0 / 2 ^ (7 - i % 8) % 2
/-- the number in n bits from a place on -/
def vl (b : List Int) (at_ : Nat) : Nat → Int
  | 0 => 0
  | n + 1 => 2 * vl b at_ n + bt1 b (at_ + n)
theorem By.get {b : List Int} (h : By b) (i : Nat) : 0 ≤ b.getD i 0 ∧ b.getD i 0 ≤ 255 := by
  by_cases hi : i < b.length
  · have : b.getD i 0 ∈ b := by simp [List.getD, hi]
    exact h.u8 _ this
  · simp [List.getD, hi]
theorem bt1_in (b : List Int) (i : Nat) : 0 ≤ bt1 b i ∧ bt1 b i ≤ 1 := by unfold bt1; omega
theorem vl_in (b : List Int) (a n : Nat) : 0 ≤ vl b a n ∧ vl b a n < 2 ^ n := by
  induction n with
  | zero => simp [vl]
  | succ n ih =>
    have := bt1_in b (a + n)
    simp only [vl, Int.pow_succ]; omega
theorem pow_le64 {n : Nat} (h : n ≤ 64) : (2 : Int) ^ n ≤ 18446744073709551616 := by
  have : (2 : Nat) ^ n ≤ 2 ^ 64 := Nat.pow_le_pow_right (by omega) h
  have : ((2 ^ n : Nat) : Int) ≤ ((2 ^ 64 : Nat) : Int) := by exact_mod_cast this
  simpa using this
/-- Get's answer -/
def okG (c : GBits) : Bool := decide (c.err = 0) && decide (0 ≤ c.at_) && decide (c.at_ ≤ 8 * c.bytes.length)
def failG (c : GBits) (e : Int) : GBits × Int := (if c.err = 0 then { c with err := e } else c, 0)
def getG (c : GBits) (n : Int) : GBits × Int :=
  if okG c = false ∨ n < 0 ∨ n > 64 then failG c 1
  else if n > 8 * c.bytes.length - c.at_ then failG c 2
  else ({ c with at_ := c.at_ + n }, vl c.bytes c.at_.toNat n.toNat)
theorem bits_right_eq {c : GBits} (hb : By c.bytes) : bits_right c = okG c := by
  have := hb.len
  simp only [bits_right, okG, cm_eql, cm_geq, cm_leq, ar_mul]
  rw [w_i64 (by omega) (by omega)]
theorem bits_fail_eq (c : GBits) (e : Int) : bits_fail c e = failG c e := by
  simp only [bits_fail, bits_fail_j1, failG, cm_eql]
  by_cases h : c.err = 0 <;> simp [h]
theorem mod_two {y : Int} {t : Nat} : y / 2 % 2 ^ t * 2 + y % 2 = y % 2 ^ (t + 1) := by
  have hp : (0 : Int) < 2 ^ t := Int.pow_pos (by omega)
  generalize hm : (2 : Int) ^ t = m at hp
  have e1 : y = 2 * (y / 2) + y % 2 := by omega
  have e2 : y / 2 = m * (y / 2 / m) + y / 2 % m := (Int.mul_ediv_add_emod (y / 2) m).symm
  have h1 := Int.emod_nonneg (y / 2) (show m ≠ 0 by omega)
  have h2 := Int.emod_lt_of_pos (y / 2) hp
  rw [Int.pow_succ, hm]
  have e3 : y = (y / 2 % m * 2 + y % 2) + (m * 2) * (y / 2 / m) := by
    have : (m * 2) * (y / 2 / m) = 2 * (m * (y / 2 / m)) := by rw [Int.mul_comm m 2, Int.mul_assoc]
    omega
  have e4 : y % (m * 2) = ((y / 2 % m * 2 + y % 2) + (m * 2) * (y / 2 / m)) % (m * 2) := congrArg (· % (m * 2)) e3
  exact (e4.trans ((Int.add_mul_emod_self_left _ _ _).trans (Int.emod_eq_of_lt (by omega) (by omega)))).symm
theorem vl_add (b : List Int) (a m n : Nat) : vl b a (m + n) = vl b a m * 2 ^ n + vl b (a + m) n := by
  induction n with
  | zero => simp [vl]
  | succ n ih =>
    rw [← Nat.add_assoc]
    simp only [vl]
    rw [ih, Int.pow_succ, Nat.add_assoc, ← Int.mul_assoc]
    omega
/-- some bits out of one byte -/
theorem vl_byte (b : List Int) (p t : Nat) (h : p % 8 + t ≤ 8) : vl b p t = b.getD (p / 8) 0 / 2 ^ (8 - p % 8 - t) % 2 ^ t := by
  induction t with
  | zero => simp [vl, Int.emod_one]
  | succ t ih =>
    have e1 : (p + t) / 8 = p / 8 := by omega
    have e2 : (p + t) % 8 = p % 8 + t := by omega
    simp only [vl, bt1, e1, e2]
    rw [ih (by omega)]
    have e3 : 8 - p % 8 - t = (7 - (p % 8 + t)) + 1 := by omega
    have e4 : 8 - p % 8 - (t + 1) = 7 - (p % 8 + t) := by omega
    rw [e3, e4, Int.pow_succ, ← Int.ediv_ediv_of_nonneg (Int.le_of_lt (Int.pow_pos (by omega))), ← mod_two]
    omega
theorem mask8 {t : Nat} (h : t ≤ 8) : ar .sub .u8 (sf .shl .u8 1 (t : Int)) 1 = 2 ^ t - 1 := by
  have : ∀ t : Fin 9, ar .sub .u8 (sf .shl .u8 1 ((t.1 : Nat) : Int)) 1 = 2 ^ t.1 - 1 := by decide +kernel
  exact this ⟨t, by omega⟩
theorem imin_eq (x y : Int) : imin x y = min x y := by unfold imin; split <;> omega
theorem bits_Left_eq {c : GBits} (hb : By c.bytes) : bits_Left c = if okG c then 8 * c.bytes.length - c.at_ else 0 := by
  have hl := hb.len
  unfold bits_Left
  rw [bits_right_eq hb]
  cases ho : okG c with
  | false => simp
  | true =>
    simp only [okG, Bool.and_eq_true, decide_eq_true_eq] at ho
    simp only [ar_sub, ar_mul]
    rw [w_i64 (n := 8 * (c.bytes.length : Int)) (by omega) (by omega), w_i64 (by omega) (by omega)]
    simp
theorem bits_Get_eq {c : GBits} (hb : By c.bytes) (n : Int) : bits_Get none c n = some (getG c n) := by
  have hl := hb.len
  have hg : ∀ b : Bool, bits_Get_j1 none c n b = if b then some (failG c 1) else if n > bits_Left c then some (failG c 2) else bits_Get_l2 none n 0 c := fun b => by
    simp only [bits_Get_j1, bits_fail_eq, cm_gtr, decide_eq_true_eq]
  unfold bits_Get getG
  simp only [hg, bits_right_eq hb, cm_lss, cm_gtr]
  by_cases h1 : okG c = false ∨ n < 0 ∨ n > 64
  · rw [if_pos h1]
    rcases h1 with h1 | h1 | h1
    · simp [h1]
    · cases okG c <;> simp [h1]
    · cases okG c <;> simp
      · by_cases h : n < 0 <;> simp [h]
        omega
  · rw [if_neg h1]
    simp only [not_or, Bool.not_eq_false, Int.not_lt] at h1
    obtain ⟨ho, h0, h64⟩ := h1
    rw [bits_Left_eq hb]
    have ho' := ho
    simp only [okG, Bool.and_eq_true, decide_eq_true_eq] at ho
    obtain ⟨⟨he, ha⟩, hat⟩ := ho
    have e1 : ¬ n < 0 := by omega
    have e2 : ¬ 64 < n := by omega
    simp only [ho', e1, e2, Bool.not_true, Bool.false_eq_true, if_false, decide_false, if_true]
    by_cases h2 : n > 8 * c.bytes.length - c.at_
    · rw [if_pos h2, if_pos h2]
    · rw [if_neg h2, if_neg h2]
      unfold bits_Get_l2
      obtain ⟨N, rfl⟩ := Int.eq_ofNat_of_zero_le h0
      obtain ⟨a, hae⟩ := Int.eq_ofNat_of_zero_le ha
      obtain ⟨r, hr, hq⟩ := loop_inv (step := fun (s : Int × Int × GBits) => bits_Get_s2 none s.1 s.2.1 s.2.2) (Q := fun r => r = ({ c with at_ := c.at_ + N }, vl c.bytes a N))
        (fun s => ∃ j : Nat, j ≤ N ∧ s = (((N - j : Nat) : Int), vl c.bytes a j, { c with at_ := ((a + j : Nat) : Int) })) (fun s => s.1.toNat) (↑N, 0, c) ⟨0, by omega, by simp [vl, ← hae]⟩ (by
        rintro s ⟨j, hj, rfl⟩
        by_cases hjN : j = N
        · right
          subst hjN
          refine ⟨_, ?_, rfl⟩
          simp [bits_Get_s2, cm_gtr, hae]
        · left
          have hgt : (0 : Int) < ((N - j : Nat) : Int) := by omega
          have hv := vl_in c.bytes a j
          let t : Nat := min (8 - (a + j) % 8) (N - j)
          have ht : t ≤ 8 ∧ 1 ≤ t ∧ (a + j) % 8 + t ≤ 8 ∧ j + t ≤ N := by omega
          have et : imin (ar .sub .i64 8 (dv .rem .i64 ((a + j : Nat) : Int) 8)) ((N - j : Nat) : Int) = (t : Int) := by
            rw [imin_eq, ar_sub, dv_rem (by omega), w_i64 (by omega) (by omega)]
            omega
          have ea : ar .sub .i64 (ar .sub .i64 8 (dv .rem .i64 ((a + j : Nat) : Int) 8)) (t : Int) = ((8 - (a + j) % 8 - t : Nat) : Int) := by
            rw [ar_sub, ar_sub, dv_rem (by omega), w_i64 (n := 8 - _) (by omega) (by omega), w_i64 (by omega) (by omega)]
            omega
          have hby := hb.get ((a + j) / 8)
          have hvb := vl_byte c.bytes (a + j) t ht.2.2.1
          have hva := vl_add c.bytes a j t
          have hvn := vl_in c.bytes a (j + t)
          have hvt := vl_in c.bytes (a + j) t
          have hp64 := pow_le64 (n := j + t) (by omega)
          have hpt : (0 : Int) < 2 ^ (8 - (a + j) % 8 - t) := Int.pow_pos (by omega)
          have hby8 : c.bytes.getD ((a + j) / 8) 0 < 2 ^ IntKind.u8.bits := by simp only [IntKind.bits]; omega
          refine ⟨(((N - (j + t) : Nat) : Int), vl c.bytes a (j + t), { c with at_ := ((a + (j + t) : Nat) : Int) }), ?_, ⟨j + t, ht.2.2.2, rfl⟩, by simp; omega⟩
          simp only [bits_Get_s2, cm_gtr, decide_eq_true_eq]
          rw [if_pos hgt, et, ea, dv_quo (by omega), w_i64 (by omega) (by omega), bnd (ix_getD (by omega) (by omega))]
          have e0 : (((a + j : Nat) : Int) / 8).toNat = (a + j) / 8 := by omega
          rw [e0, sfO_nn (by omega), sf_shr rfl (by simp [IntKind.bits]; omega), sfO_nn (by omega), sfO_nn (by omega)]
          simp only [Option.bind_some]
          rw [mask8 ht.1, ar_mask (k := .u8) rfl rfl (by simp [IntKind.bits]; omega) (Int.ediv_nonneg hby.1 (Int.le_of_lt hpt)) (Int.lt_of_le_of_lt (Int.ediv_le_self _ hby.1) hby8), ← hvb]
          have hv8 : vl c.bytes (a + j) t ≤ 255 := by
            have : (2 : Int) ^ t ≤ 256 := by
              have : (2 : Nat) ^ t ≤ 2 ^ 8 := Nat.pow_le_pow_right (by omega) ht.1
              have : ((2 ^ t : Nat) : Int) ≤ ((2 ^ 8 : Nat) : Int) := by exact_mod_cast this
              simpa using this
            omega
          have hmul : 0 ≤ vl c.bytes a j * 2 ^ t := Int.mul_nonneg hv.1 (Int.le_of_lt (Int.pow_pos (by omega)))
          rw [w_u64 (by omega) (by omega), sf_shl rfl (by simp [IntKind.bits]; omega), w_u64 (by omega) (by omega),
            ar_or_add rfl rfl hv.1 hvt.1 hvt.2 (by simp [IntKind.bits]; omega) (by simp [IntKind.bits]; omega), ← hva, ar_sub, ar_add, w_i64 (by omega) (by omega), w_i64 (by omega) (by omega)]
          have x1 : ((N - j : Nat) : Int) - (t : Int) = ((N - (j + t) : Nat) : Int) := by omega
          have x2 : ((a + j : Nat) : Int) + (t : Int) = ((a + (j + t) : Nat) : Int) := by omega
          rw [x1, x2])
      rw [hr, hq]
      simp [hae]
/-- how many binary digits -/
def bl (n : Nat) : Nat := if n = 0 then 0 else n.log2 + 1
theorem bl_lt (n : Nat) : n < 2 ^ bl n := by
  unfold bl; split
  · subst_vars; simp
  · exact Nat.lt_log2_self
theorem bl_le {n : Nat} (h : n ≠ 0) : 2 ^ (bl n - 1) ≤ n := by
  unfold bl; rw [if_neg h]; simpa using Nat.log2_self_le h
theorem bl_pos {n : Nat} (h : n ≠ 0) : 1 ≤ bl n := by unfold bl; rw [if_neg h]; omega
theorem bl_uniq {n k : Nat} (h1 : 2 ^ k ≤ n) (h2 : n < 2 ^ (k + 1)) : bl n = k + 1 := by
  have h0 : n ≠ 0 := by have := Nat.one_le_two_pow (n := k); omega
  have a := bl_lt n; have b := bl_le h0; have c := bl_pos h0
  have x1 : k < bl n := (Nat.pow_lt_pow_iff_right (a := 2) (by omega)).1 (Nat.lt_of_le_of_lt h1 a)
  have x2 : bl n - 1 < k + 1 := (Nat.pow_lt_pow_iff_right (a := 2) (by omega)).1 (Nat.lt_of_le_of_lt b h2)
  omega
theorem bl_shift {x k : Nat} (h : 2 ^ k ≤ x) : bl x = bl (x / 2 ^ k) + k := by
  have hp : 0 < 2 ^ k := Nat.pow_pos (by omega)
  have h0 : x / 2 ^ k ≠ 0 := by
    have := (Nat.le_div_iff_mul_le hp).2 (show 1 * 2 ^ k ≤ x by omega)
    omega
  have a := bl_lt (x / 2 ^ k); have b := bl_le h0; have c := bl_pos h0
  have e : bl x = (bl (x / 2 ^ k) - 1 + k) + 1 := by
    apply bl_uniq
    · rw [Nat.pow_add]
      exact Nat.le_trans (Nat.mul_le_mul_right _ b) (Nat.div_mul_le_self x (2 ^ k))
    · have : bl (x / 2 ^ k) - 1 + k + 1 = bl (x / 2 ^ k) + k := by omega
      rw [this, Nat.pow_add]
      exact (Nat.div_lt_iff_lt_mul hp).1 a
  omega
theorem bl_le_of_lt {n k : Nat} (h : n < 2 ^ k) : bl n ≤ k := by
  by_cases h0 : n = 0
  · subst h0; simp [bl]
  · have b := bl_le h0
    have : bl n - 1 < k := (Nat.pow_lt_pow_iff_right (a := 2) (by omega)).1 (Nat.lt_of_le_of_lt b h)
    omega
theorem len8 (x : Nat) (h : x < 256) (n : Int) (hn : 0 ≤ n ∧ n ≤ 1000) : math_bits_Len64_j3 x n = some (n + bl x) := by
  have key : ∀ x : Fin 256, math_bits_Len64_j3 ((x.1 : Nat) : Int) 0 = some ((bl x.1 : Nat) : Int) := by decide +kernel
  have := key ⟨x, h⟩
  unfold math_bits_Len64_j3 at this ⊢
  generalize ix _ (IntKind.u8.wrap (x : Int)) = o at this ⊢
  cases o with
  | none => cases this
  | some c =>
    have hc := c.toNat_lt
    simp only [Option.bind_some, ar_add, Option.some.injEq] at this ⊢
    rw [w_i64 (n := (c.toNat : Int)) (by omega) (by omega), w_i64 (by omega) (by omega)] at *
    omega
theorem len64_eq (x : Nat) (h : x < 18446744073709551616) : math_bits_Len64 x = some (bl x : Int) := by
  have sh : ∀ (x k : Nat) , k ≤ 64 → sf .shr .u64 (x : Int) (k : Int) = ((x / 2 ^ k : Nat) : Int) := fun x k hk => by
    rw [sf_shr rfl (by simpa [IntKind.bits] using hk)]; simp
  have h2 : ∀ (x : Nat) (n : Int), x < 65536 → 0 ≤ n ∧ n ≤ 500 → math_bits_Len64_j2 x n = some (n + bl x) := fun x n hx hn => by
    unfold math_bits_Len64_j2
    simp only [cm_geq, decide_eq_true_eq]
    by_cases hc : (256 : Int) ≤ x
    · rw [if_pos hc, show (8 : Int) = ((8 : Nat) : Int) from rfl, sh x 8 (by omega), ar_add, w_i64 (by omega) (by omega), len8 _ (by omega) _ (by omega), bl_shift (x := x) (k := 8) (by omega)]
      simp; omega
    · rw [if_neg hc, len8 _ (by omega) _ (by omega)]
  have h1 : ∀ (x : Nat) (n : Int), x < 4294967296 → 0 ≤ n ∧ n ≤ 200 → math_bits_Len64_j1 x n = some (n + bl x) := fun x n hx hn => by
    unfold math_bits_Len64_j1
    simp only [cm_geq, decide_eq_true_eq]
    by_cases hc : (65536 : Int) ≤ x
    · rw [if_pos hc, show (16 : Int) = ((16 : Nat) : Int) from rfl, sh x 16 (by omega), ar_add, w_i64 (by omega) (by omega), h2 _ _ (by omega) (by omega), bl_shift (x := x) (k := 16) (by omega)]
      simp; omega
    · rw [if_neg hc, h2 _ _ (by omega) (by omega)]
  unfold math_bits_Len64
  simp only [cm_geq, decide_eq_true_eq]
  by_cases hc : (4294967296 : Int) ≤ x
  · rw [if_pos hc, show (32 : Int) = ((32 : Nat) : Int) from rfl, sh x 32 (by omega), h1 _ _ (by omega) (by omega), bl_shift (x := x) (k := 32) (by omega)]
    simp; omega
  · rw [if_neg hc, h1 _ _ (by omega) (by omega)]; simp
theorem pow_int (n : Nat) : ((2 ^ n : Nat) : Int) = 2 ^ n := by simp
theorem getG_ok {c : GBits} {n : Int} {q : Nat} (ho : okG c = true) (hn : n = q) (h64 : q ≤ 64) : getG c n = if (q : Int) > 8 * c.bytes.length - c.at_ then ({ c with err := 2 }, 0) else ({ c with at_ := c.at_ + q }, vl c.bytes c.at_.toNat q) := by
  have he : c.err = 0 := by simp only [okG, Bool.and_eq_true, decide_eq_true_eq] at ho; exact ho.1.1
  subst hn
  unfold getG
  rw [if_neg (by simp [ho]; omega)]
  simp [failG, he]
def U8 (b : List Int) : Prop := ∀ y, y ∈ b → 0 ≤ y ∧ y ≤ 255
theorem U8.get {b : List Int} (h : U8 b) (i : Nat) : 0 ≤ b.getD i 0 ∧ b.getD i 0 ≤ 255 := by
  by_cases hi : i < b.length
  · have : b.getD i 0 ∈ b := by simp [List.getD, hi]
    exact h _ this
  · simp [List.getD, hi]
theorem U8.set {b : List Int} (h : U8 b) {i : Nat} {x : Int} (hx : 0 ≤ x ∧ x ≤ 255) : U8 (b.set i x) := fun y hy => by
  rcases List.mem_or_eq_of_mem_set hy with hy | rfl
  · exact h y hy
  · exact hx
theorem U8.app {b c : List Int} (h : U8 b) (h' : U8 c) : U8 (b ++ c) := fun y hy => (List.mem_append.1 hy).elim (h y) (h' y)
def lastB (b : List Int) : Int := b.getD (b.length - 1) 0
/-- ink that is right, so many bits of it -/
structure OkB (b : List Int) (m : Nat) : Prop where
  u8 : U8 b
  le : m ≤ 8 * b.length
  ge : 8 * b.length ≤ m + 7
  low : lastB b % 2 ^ (8 * b.length - m) = 0
def okK (k : Ink) : Bool := decide (0 ≤ k.many) && decide (k.many ≤ 8 * k.bytes.length) && decide (8 * k.bytes.length ≤ k.many + 7) && decide (lastB k.bytes % 2 ^ (8 * k.bytes.length - k.many.toNat) = 0)
theorem okK_ok {k : Ink} (hu : U8 k.bytes) (h : okK k = true) : OkB k.bytes k.many.toNat ∧ 0 ≤ k.many := by
  simp only [okK, Bool.and_eq_true, decide_eq_true_eq] at h
  obtain ⟨⟨⟨h0, h1⟩, h2⟩, h3⟩ := h
  exact ⟨⟨hu, by omega, by omega, h3⟩, h0⟩
theorem shl1 {t : Nat} (h : t ≤ 7) : sf .shl .u8 1 (t : Int) = 2 ^ t := by
  have : ∀ t : Fin 8, sf .shl .u8 1 ((t.1 : Nat) : Int) = 2 ^ t.1 := by decide +kernel
  exact this ⟨t, by omega⟩
theorem bits_Right_eq {k : Ink} (hb : By k.bytes) (hm : inK .i64 k.many) : bits_Right k = some (okK k) := by
  have hl := hb.len
  rw [in_i64] at hm
  unfold bits_Right
  by_cases h0 : k.many < 0
  · simp [cm_lss, h0, okK]; omega
  · have e1 : ar .add .i64 (dv .quo .i64 k.many 8) (imin (dv .rem .i64 k.many 8) 1) = (k.many + 7) / 8 := by
      rw [imin_eq, dv_quo (by omega), dv_rem (by omega), ar_add, w_i64 (n := k.many / 8) (by omega) (by omega), w_i64 (by omega) (by omega)]
      omega
    have e0 : ar .sub .i64 (ar .mul .i64 8 (k.bytes.length : Int)) k.many = 8 * (k.bytes.length : Int) - k.many := by
      rw [ar_mul, w_i64 (by omega) (by omega), ar_sub, w_i64 (by omega) (by omega)]
    rw [e1, e0]
    simp only [cm_lss, cm_neq, cm_eql]
    by_cases h1 : (k.bytes.length : Int) = (k.many + 7) / 8
    · have hc : (decide (k.many < 0) || !decide ((k.bytes.length : Int) = (k.many + 7) / 8)) = false := by simp [h1]; omega
      rw [hc]
      simp only [Bool.false_eq_true, if_false, ar_sub]
      obtain ⟨m, hme⟩ := Int.eq_ofNat_of_zero_le (show 0 ≤ k.many by omega)
      obtain ⟨r, hr⟩ : ∃ r : Nat, 8 * (k.bytes.length : Int) - k.many = r := ⟨8 * k.bytes.length - m, by omega⟩
      have hr7 : r ≤ 7 := by omega
      have ho : okK k = decide (lastB k.bytes % 2 ^ r = 0) := by
        have e : 8 * k.bytes.length - k.many.toNat = r := by omega
        simp only [okK, e]
        simp; omega
      rw [hr, ho]
      by_cases hr0 : r = 0
      · subst hr0
        simp [gTF, Int.emod_one]
      · have hne : decide ((r : Int) = 0) = false := by simp; omega
        rw [hne]
        simp only [Bool.not_false, Bool.false_or, gTT]
        rw [w_i64 (by omega) (by omega), bnd (ix_getD (by omega) (by omega)), sfO_nn (by omega), Option.bind_some, shl1 hr7]
        have hg := hb.get (k.bytes.length - 1)
        have e2 : ((k.bytes.length : Int) - 1).toNat = k.bytes.length - 1 := by omega
        have hp : (2 : Int) ^ r ≤ 128 ∧ 1 ≤ (2 : Int) ^ r := by
          have a : (2 : Nat) ^ r ≤ 2 ^ 7 := Nat.pow_le_pow_right (by omega) hr7
          have b : 1 ≤ 2 ^ r := Nat.one_le_two_pow
          rw [← pow_int]; omega
        rw [e2, w_u8 (n := 2 ^ r - 1) (by omega) (by omega), ar_mask (k := .u8) (n := r) rfl rfl (by simp only [IntKind.bits]; omega) hg.1 (by simp only [IntKind.bits]; omega)]
        simp [lastB]
    · have hc : (decide (k.many < 0) || !decide ((k.bytes.length : Int) = (k.many + 7) / 8)) = true := by simp [h1]
      rw [hc, if_pos rfl]
      have : okK k = false := by
        cases hh : okK k with
        | false => rfl
        | true =>
          simp only [okK, Bool.and_eq_true, decide_eq_true_eq] at hh
          omega
      rw [this]
theorem vl_zero (b : List Int) (p : Nat) : ∀ t, vl b p t = 0 ↔ ∀ i, i < t → bt1 b (p + i) = 0
  | 0 => by simp [vl]
  | t + 1 => by
    have ih := vl_zero b p t
    have h1 := vl_in b p t
    have h2 := bt1_in b (p + t)
    simp only [vl]
    constructor
    · intro h i hi
      have a : vl b p t = 0 := by omega
      have c : bt1 b (p + t) = 0 := by omega
      by_cases hit : i = t
      · subst hit; exact c
      · exact ih.1 a i (by omega)
    · intro h
      have a := ih.2 (fun i hi => h i (by omega))
      have c := h t (by omega)
      omega
def addL (b : List Int) (x : Int) : List Int := b.set (b.length - 1) (lastB b + x)
def grow (b : List Int) (m : Nat) : List Int := if m % 8 = 0 then b ++ [0] else b
def putB (b : List Int) (m : Nat) (x : Int) : List Int := addL (grow b m) (x * 2 ^ (7 - m % 8))
def PB (b : List Int) (m : Nat) (v : Int) (n : Nat) : Nat → List Int
  | 0 => b
  | j + 1 => putB (PB b m v n j) (m + j) (v / 2 ^ (n - (j + 1)) % 2)
theorem len_addL (b : List Int) (x : Int) : (addL b x).length = b.length := by simp [addL]
theorem lastB_addL {b : List Int} (h : b ≠ []) (x : Int) : lastB (addL b x) = lastB b + x := by
  have : 0 < b.length := List.length_pos_iff.2 h
  simp only [lastB, addL, List.length_set, List.getD]
  rw [List.getElem?_set_self (by omega)]
  simp
theorem addL_addL {b : List Int} (h : b ≠ []) (x y : Int) : addL (addL b x) y = addL b (x + y) := by
  have e := lastB_addL h x
  simp only [addL] at e ⊢
  rw [e]
  simp only [List.length_set, List.set_set]
  congr 1; omega
theorem addL_ne {b : List Int} (h : b ≠ []) (x : Int) : addL b x ≠ [] := fun hh => by
  have := len_addL b x; rw [hh] at this; simp at this; exact h (List.eq_nil_of_length_eq_zero this.symm)
theorem lastB_app (b : List Int) (x : Int) : lastB (b ++ [x]) = x := by simp [lastB, List.getD]
theorem pow8 {r : Nat} (h : r ≤ 8) : (2 : Int) ^ r ≤ 256 ∧ 1 ≤ (2 : Int) ^ r := by
  have a : (2 : Nat) ^ r ≤ 2 ^ 8 := Nat.pow_le_pow_right (by omega) h
  have b : 1 ≤ 2 ^ r := Nat.one_le_two_pow
  rw [← pow_int]; omega
theorem top {r : Nat} (h : r ≤ 8) {y : Int} (h0 : 0 ≤ y) (h1 : y ≤ 255) (hz : y % 2 ^ r = 0) : y + 2 ^ r ≤ 256 := by
  have hr : r = 0 ∨ r = 1 ∨ r = 2 ∨ r = 3 ∨ r = 4 ∨ r = 5 ∨ r = 6 ∨ r = 7 ∨ r = 8 := by omega
  rcases hr with rfl | rfl | rfl | rfl | rfl | rfl | rfl | rfl | rfl <;> simp at hz ⊢ <;> omega
/-- a list with room in its last byte -/
structure Rm (b : List Int) (r : Nat) : Prop where
  ne : b ≠ []
  u8 : U8 b
  r8 : r ≤ 8
  low : lastB b % 2 ^ r = 0
theorem Rm.last {b : List Int} {r : Nat} (h : Rm b r) : 0 ≤ lastB b ∧ lastB b + 2 ^ r ≤ 256 := by
  have hg := h.u8.get (b.length - 1)
  exact ⟨hg.1, top h.r8 hg.1 hg.2 h.low⟩
theorem Rm.add {b : List Int} {r t : Nat} (h : Rm b r) (ht : t ≤ r) {w : Int} (h0 : 0 ≤ w) (h1 : w < 2 ^ t) : Rm (addL b (w * 2 ^ (r - t))) (r - t) ∧ w * 2 ^ (r - t) < 2 ^ r ∧ 0 ≤ w * 2 ^ (r - t) := by
  have hl := h.last
  have hp := pow8 (r := r - t) (by have := h.r8; omega)
  have e : (2 : Int) ^ r = 2 ^ t * 2 ^ (r - t) := by rw [← Int.pow_add]; congr 1; omega
  have hw0 : 0 ≤ w * 2 ^ (r - t) := Int.mul_nonneg h0 (by omega)
  have hw : w * 2 ^ (r - t) < 2 ^ r := by
    rw [e]; exact Int.mul_lt_mul_of_pos_right h1 (by omega)
  refine ⟨⟨addL_ne h.ne _, h.u8.set (by omega), by have := h.r8; omega, ?_⟩, hw, hw0⟩
  rw [lastB_addL h.ne]
  have hlow := h.low
  have : lastB b % 2 ^ (r - t) = 0 := by
    have hd : (2 : Int) ^ r ∣ lastB b := Int.dvd_of_emod_eq_zero hlow
    rw [e] at hd
    exact Int.emod_eq_zero_of_dvd (Int.dvd_trans (Int.dvd_mul_left _ _) hd)
  rw [Int.add_mul_emod_self_right]
  exact this
theorem OkB.grow {b : List Int} {m : Nat} (h : OkB b m) : Rm (grow b m) (8 - m % 8) ∧ 8 * (grow b m).length = m + (8 - m % 8) := by
  have h1 := h.le
  have h2 := h.ge
  unfold Xb.grow
  by_cases hm : m % 8 = 0
  · rw [if_pos hm]
    refine ⟨⟨by simp, h.u8.app (by intro y hy; simp at hy; omega), by omega, ?_⟩, by simp; omega⟩
    rw [lastB_app]; simp
  · rw [if_neg hm]
    have e : 8 * b.length - m = 8 - m % 8 := by omega
    refine ⟨⟨?_, h.u8, by omega, e ▸ h.low⟩, by omega⟩
    rintro rfl; simp at h1; omega
theorem OkB.put {b : List Int} {m : Nat} (h : OkB b m) {x : Int} (h0 : 0 ≤ x) (h1 : x ≤ 1) : OkB (putB b m x) (m + 1) := by
  obtain ⟨hr, hl⟩ := h.grow
  have ha := hr.add (t := 1) (by omega) h0 (by omega)
  have e : 8 - m % 8 - 1 = 7 - m % 8 := by omega
  rw [e] at ha
  have hlen := len_addL (Xb.grow b m) (x * 2 ^ (7 - m % 8))
  refine ⟨ha.1.u8, ?_, ?_, ?_⟩
  · unfold putB; omega
  · unfold putB; omega
  · have e2 : 8 * (putB b m x).length - (m + 1) = 7 - m % 8 := by unfold putB; omega
    rw [e2]; exact ha.1.low
theorem PB_ok {b : List Int} {m : Nat} (h : OkB b m) (v : Int) (n : Nat) : ∀ j, OkB (PB b m v n j) (m + j)
  | 0 => h
  | j + 1 => (PB_ok h v n j).put (by omega) (by omega)
/-- some bits into one byte -/
theorem PB_byte {b : List Int} {m : Nat} (h : OkB b m) (v : Int) (n j : Nat) : ∀ t, t + 1 ≤ 8 - (m + j) % 8 → j + (t + 1) ≤ n →
    PB b m v n (j + (t + 1)) = addL (grow (PB b m v n j) (m + j)) ((v / 2 ^ (n - (j + (t + 1))) % 2 ^ (t + 1)) * 2 ^ (8 - (m + j) % 8 - (t + 1)))
  | 0, h1, h2 => by
    show putB _ _ _ = _
    unfold putB
    have e : 8 - (m + j) % 8 - (0 + 1) = 7 - (m + j) % 8 := by omega
    rw [e]
    simp
  | t + 1, h1, h2 => by
    have ih := PB_byte h v n j t (by omega) (by omega)
    have hr := (PB_ok h v n j).grow.1
    have e1 : j + (t + 1 + 1) = (j + (t + 1)) + 1 := by omega
    rw [e1]
    show putB _ _ _ = _
    rw [ih]
    unfold putB
    have e2 : (m + (j + (t + 1))) % 8 = (m + j) % 8 + (t + 1) := by omega
    have hg : ∀ l : List Int, grow l (m + (j + (t + 1))) = l := fun l => by unfold grow; rw [if_neg (by omega)]
    rw [hg, e2, addL_addL hr.ne]
    congr 1
    have e3 : 8 - (m + j) % 8 - (t + 1) = (7 - ((m + j) % 8 + (t + 1))) + 1 := by omega
    have e4 : 8 - (m + j) % 8 - (t + 1 + 1) = 7 - ((m + j) % 8 + (t + 1)) := by omega
    have e5 : n - (j + (t + 1)) = (n - (j + (t + 1) + 1)) + 1 := by omega
    have p1 : (2 : Int) ^ (7 - ((m + j) % 8 + (t + 1)) + 1) = 2 ^ (7 - ((m + j) % 8 + (t + 1))) * 2 := Int.pow_succ _ _
    have p2 : (2 : Int) ^ (n - (j + (t + 1) + 1) + 1) = 2 ^ (n - (j + (t + 1) + 1)) * 2 := Int.pow_succ _ _
    rw [e3, e4, e5, p1, p2, ← mod_two (t := t + 1), ← Int.ediv_ediv_of_nonneg (Int.le_of_lt (Int.pow_pos (by omega))), Int.add_mul]
    congr 1
    rw [Int.mul_assoc _ 2, Int.mul_comm 2]
/-- a number of so many bits, written -/
def addK (k : Ink) (v n : Int) : Ink × Int :=
  if okK k = false ∨ n < 0 ∨ n > 64 then (k, 1)
  else if 2 ^ n.toNat ≤ v then (k, 6)
  else ({ bytes := PB k.bytes k.many.toNat v n.toNat n.toNat, many := k.many + n }, 0)
theorem bits_Add_eq {k : Ink} (hu : U8 k.bytes) (hl : k.bytes.length ≤ 100000000) (hm : inK .i64 k.many) {v : Int} (hv : inK .u64 v) (n : Int) : bits_Add none k v n = some (addK k v n) := by
  have hb : By k.bytes := ⟨hu, by omega⟩
  rw [in_u64] at hv
  unfold bits_Add addK
  rw [bnd (bits_Right_eq hb hm)]
  simp only [bits_Add_j1, cm_lss, cm_gtr]
  by_cases h1 : okK k = false ∨ n < 0 ∨ n > 64
  · rw [if_pos h1]
    rcases h1 with h1 | h1 | h1
    · simp [h1]
    · cases okK k <;> simp [h1]
    · cases okK k <;> simp
      by_cases h : n < 0 <;> simp [h]
      omega
  · rw [if_neg h1]
    simp only [not_or, Bool.not_eq_false, Int.not_lt] at h1
    obtain ⟨ho, h0, h64⟩ := h1
    have e1 : ¬ n < 0 := by omega
    have e2 : ¬ 64 < n := by omega
    simp only [ho, e1, e2, Bool.not_true, Bool.false_eq_true, if_false, decide_false, decide_eq_true_eq]
    obtain ⟨hok, hm0⟩ := okK_ok hu ho
    obtain ⟨N, rfl⟩ := Int.eq_ofNat_of_zero_le h0
    obtain ⟨V, rfl⟩ := Int.eq_ofNat_of_zero_le hv.1
    obtain ⟨m, hme⟩ := Int.eq_ofNat_of_zero_le hm0
    rw [bnd (len64_eq V (by omega))]
    simp only [Int.toNat_natCast]
    have hp64 := pow_le64 (n := N) (by omega)
    have hbl : (N : Int) < bl V ↔ (2 : Int) ^ N ≤ V := by
      rw [← pow_int]
      constructor
      · intro h
        by_cases hV : V = 0
        · subst hV; simp [bl] at h; omega
        · have a := bl_le hV
          have b : 2 ^ N ≤ 2 ^ (bl V - 1) := Nat.pow_le_pow_right (by omega) (by omega)
          omega
      · intro h
        have a := bl_lt V
        have b : 2 ^ N < 2 ^ bl V := by omega
        have := (Nat.pow_lt_pow_iff_right (a := 2) (by omega)).1 b
        omega
    by_cases h2 : (2 : Int) ^ N ≤ V
    · rw [if_pos (hbl.2 h2), if_pos h2]
    · rw [if_neg (fun h => h2 (hbl.1 h)), if_neg h2]
      have hcl : slices_Clone k.bytes = some k.bytes := by simp [slices_Clone, app]; omega
      rw [bnd hcl]
      unfold bits_Add_l2
      rw [hme] at hok ⊢
      simp only [Int.toNat_natCast] at hok ⊢
      obtain ⟨r, hr, hq⟩ := loop_inv (step := fun (s : Int × List Int × Ink) => bits_Add_s2 none V s.1 s.2.1 s.2.2) (Q := fun r => r = (({ bytes := PB k.bytes m V N N, many := (m : Int) + N } : Ink), (0 : Int)))
        (fun s => ∃ j : Nat, j ≤ N ∧ s = (((N - j : Nat) : Int), PB k.bytes m V N j, { k with many := ((m + j : Nat) : Int) })) (fun s => s.1.toNat) (↑N, k.bytes, k) ⟨0, by omega, by simp [PB, ← hme]⟩ (by
        rintro s ⟨j, hj, rfl⟩
        by_cases hjN : j = N
        · right
          subst hjN
          refine ⟨_, ?_, rfl⟩
          simp [bits_Add_s2, cm_gtr]
        · left
          have hgt : (0 : Int) < ((N - j : Nat) : Int) := by omega
          have hokj := PB_ok hok V N j
          have hle := hokj.le
          have hge := hokj.ge
          obtain ⟨hrm, hrl⟩ := hokj.grow
          have hlen : 8 * k.bytes.length ≤ m + 7 := hok.ge
          have hlen2 : m ≤ 8 * k.bytes.length := hok.le
          let t : Nat := min (8 - (m + j) % 8) (N - j)
          have ht : t ≤ 8 ∧ 1 ≤ t ∧ t ≤ 8 - (m + j) % 8 ∧ j + t ≤ N := by omega
          have hPB : PB k.bytes m V N (j + t) = addL (grow (PB k.bytes m V N j) (m + j)) ((V / 2 ^ (N - (j + t)) % 2 ^ t) * 2 ^ (8 - (m + j) % 8 - t)) := by
            have := PB_byte hok V N j (t - 1) (by omega) (by omega)
            rwa [show t - 1 + 1 = t by omega] at this
          have hw : 0 ≤ (V : Int) / 2 ^ (N - (j + t)) % 2 ^ t ∧ (V : Int) / 2 ^ (N - (j + t)) % 2 ^ t < 2 ^ t :=
            ⟨Int.emod_nonneg _ (by have := (pow8 ht.1).2; omega), Int.emod_lt_of_pos _ (by have := (pow8 ht.1).2; omega)⟩
          have hpt := pow8 ht.1
          obtain ⟨ha, hw1, hw2⟩ := hrm.add ht.2.2.1 hw.1 hw.2
          have hlast := hrm.last
          have hpr := pow8 (r := 8 - (m + j) % 8) (by omega)
          have et : imin ((8 - (m + j) % 8 : Nat) : Int) ((N - j : Nat) : Int) = (t : Int) := by rw [imin_eq]; omega
          have core : ∀ l : List Int, l = grow (PB k.bytes m V N j) (m + j) → bits_Add_j3 none V ((N - j : Nat) : Int) { k with many := ((m + j : Nat) : Int) } l ((8 - (m + j) % 8 : Nat) : Int) =
              some (Sum.inl (((N - (j + t) : Nat) : Int), PB k.bytes m V N (j + t), { k with many := ((m + (j + t) : Nat) : Int) })) := by
            rintro l rfl
            have hll : 0 < (grow (PB k.bytes m V N j) (m + j)).length := List.length_pos_iff.2 hrm.ne
            generalize hg : grow (PB k.bytes m V N j) (m + j) = l at *
            unfold bits_Add_j3
            have ei : ar .sub .i64 (l.length : Int) 1 = ((l.length - 1 : Nat) : Int) := by rw [ar_sub, w_i64 (by omega) (by omega)]; omega
            have en : ar .sub .i64 ((N - j : Nat) : Int) (t : Int) = ((N - (j + t) : Nat) : Int) := by rw [ar_sub, w_i64 (by omega) (by omega)]; omega
            have er : ar .sub .i64 ((8 - (m + j) % 8 : Nat) : Int) (t : Int) = ((8 - (m + j) % 8 - t : Nat) : Int) := by rw [ar_sub, w_i64 (by omega) (by omega)]; omega
            have em : ar .add .i64 ((m + j : Nat) : Int) (t : Int) = ((m + (j + t) : Nat) : Int) := by rw [ar_add, w_i64 (by omega) (by omega)]; omega
            have esh : sf .shl .u64 1 (t : Int) = 2 ^ t := by rw [sf_shl rfl (by simp only [IntKind.bits]; omega), w_u64 (by omega) (by omega)]; omega
            have emk : ar .sub .u64 ((2 : Int) ^ t) 1 = 2 ^ t - 1 := by rw [ar_sub, w_u64 (by omega) (by omega)]
            rw [et, ei, en, er, em, bnd (ix_getD (by omega) (by omega)), sfO_nn (by omega), Option.bind_some, sfO_nn (by omega), Option.bind_some, sfO_nn (by omega), Option.bind_some, bnd (ix_getD (by omega) (by omega)), esh, emk,
              sf_shr rfl (by simp only [IntKind.bits]; omega), ar_mask (k := .u64) (n := t) rfl rfl (by simp only [IntKind.bits]; omega) (Int.ediv_nonneg (by omega) (Int.le_of_lt (Int.pow_pos (by omega)))) (Int.lt_of_le_of_lt (Int.ediv_le_self _ (by omega)) (by simp only [IntKind.bits]; omega)),
              w_u8 (by omega) (by omega), sf_shl rfl (by simp only [IntKind.bits]; omega), w_u8 (by omega) (by omega)]
            have eq1 : ((l.length - 1 : Nat) : Int).toNat = l.length - 1 := by omega
            rw [eq1]
            have elb : l.getD (l.length - 1) 0 = lastB l := rfl
            rw [elb]
            obtain ⟨q, hq⟩ : ∃ q : Int, lastB l = q * 2 ^ (8 - (m + j) % 8) := by
              obtain ⟨q, hq⟩ := Int.dvd_of_emod_eq_zero hrm.low
              exact ⟨q, by rw [hq, Int.mul_comm]⟩
            have hq0 : 0 ≤ q := by
              rcases Int.lt_or_le q 0 with hneg | h
              · have := Int.mul_neg_of_neg_of_pos hneg (show (0 : Int) < 2 ^ (8 - (m + j) % 8) by omega)
                omega
              · exact h
            rw [ar_or_add (k := .u8) rfl hq hq0 hw2 hw1 (by simp only [IntKind.bits]; omega) (by simp only [IntKind.bits]; omega), hPB]
            rfl
          refine ⟨(((N - (j + t) : Nat) : Int), PB k.bytes m V N (j + t), { k with many := ((m + (j + t) : Nat) : Int) }), ?_, ⟨j + t, ht.2.2.2, rfl⟩, by simp; omega⟩
          simp only [bits_Add_s2, cm_gtr, decide_eq_true_eq]
          rw [if_pos hgt]
          have erest : ar .sub .i64 (ar .mul .i64 8 ((PB k.bytes m V N j).length : Int)) ((m + j : Nat) : Int) = ((8 * (PB k.bytes m V N j).length - (m + j) : Nat) : Int) := by
            rw [ar_mul, w_i64 (by omega) (by omega), ar_sub, w_i64 (by omega) (by omega)]; omega
          rw [erest]
          simp only [cm_eql, decide_eq_true_eq]
          by_cases hr0 : (m + j) % 8 = 0
          · rw [if_pos (by omega), bnd (app_some (by simp; omega))]
            have := core (PB k.bytes m V N j ++ [0]) (by unfold grow; rw [if_pos hr0])
            rw [hr0] at this
            exact this
          · rw [if_neg (by omega)]
            have := core (PB k.bytes m V N j) (by unfold grow; rw [if_neg hr0])
            rw [show 8 - (m + j) % 8 = 8 * (PB k.bytes m V N j).length - (m + j) by omega] at this
            exact this)
      rw [hr, hq]
theorem getD_app_lt {b : List Int} {c : List Int} {i : Nat} (h : i < b.length) : (b ++ c).getD i 0 = b.getD i 0 := by
  simp only [List.getD]; rw [List.getElem?_append_left h]
theorem bt1_grow {b : List Int} {m : Nat} (h : OkB b m) {i : Nat} (hi : i < m) : bt1 (grow b m) i = bt1 b i := by
  have := h.le
  unfold grow
  split
  · unfold bt1
    rw [getD_app_lt (by omega)]
  · rfl
theorem bt1_addL {b : List Int} {i : Nat} {x : Int} (h : i / 8 < b.length - 1) : bt1 (addL b x) i = bt1 b i := by
  unfold bt1 addL
  simp only [List.getD]
  rw [List.getElem?_set_ne (by omega)]
theorem bt1_put {b : List Int} {m : Nat} (h : OkB b m) {x : Int} (h0 : 0 ≤ x) (h1 : x ≤ 1) :
    (∀ i, i < m → bt1 (putB b m x) i = bt1 b i) ∧ bt1 (putB b m x) m = x := by
  obtain ⟨hr, hl⟩ := h.grow
  have hpos : 0 < (grow b m).length := List.length_pos_iff.2 hr.ne
  have hlast : lastB (addL (grow b m) (x * 2 ^ (7 - m % 8))) = lastB (grow b m) + x * 2 ^ (7 - m % 8) := lastB_addL hr.ne _
  obtain ⟨q, hq⟩ : ∃ q : Int, lastB (grow b m) = q * 2 ^ (8 - m % 8) := by
    obtain ⟨q, hq⟩ := Int.dvd_of_emod_eq_zero hr.low
    exact ⟨q, by rw [hq, Int.mul_comm]⟩
  have e8 : (2 : Int) ^ (8 - m % 8) = 2 ^ (7 - m % 8) * 2 := by rw [← Int.pow_succ]; congr 1; omega
  have hp : (0 : Int) < 2 ^ (7 - m % 8) := Int.pow_pos (by omega)
  have hlen := len_addL (grow b m) (x * 2 ^ (7 - m % 8))
  constructor
  · intro i hi
    rw [← bt1_grow h hi]
    unfold putB
    by_cases hi8 : i / 8 < (grow b m).length - 1
    · exact bt1_addL hi8
    · have e : i / 8 = (grow b m).length - 1 := by omega
      unfold bt1
      have e1 : (addL (grow b m) (x * 2 ^ (7 - m % 8))).getD (i / 8) 0 = lastB (addL (grow b m) (x * 2 ^ (7 - m % 8))) := by unfold lastB; rw [hlen, e]
      have e2 : (grow b m).getD (i / 8) 0 = lastB (grow b m) := by unfold lastB; rw [e]
      rw [e1, e2, hlast, hq]
      have e3 : 7 - i % 8 = (8 - m % 8) + (m % 8 - 1 - i % 8) := by omega
      have hp8 : (0 : Int) < 2 ^ (8 - m % 8) := Int.pow_pos (by omega)
      rw [e3, Int.pow_add, ← Int.ediv_ediv_of_nonneg (Int.le_of_lt hp8), ← Int.ediv_ediv_of_nonneg (Int.le_of_lt hp8)]
      congr 2
      rw [Int.mul_ediv_cancel _ (by omega), Int.add_comm, Int.add_mul_ediv_right _ _ (by omega), Int.ediv_eq_zero_of_lt, Int.zero_add]
      · exact Int.mul_nonneg h0 (Int.le_of_lt hp)
      · rw [e8]
        rcases (show x = 0 ∨ x = 1 by omega) with rfl | rfl <;> omega
  · have e : m / 8 = (grow b m).length - 1 := by omega
    unfold putB bt1
    have e1 : (addL (grow b m) (x * 2 ^ (7 - m % 8))).getD (m / 8) 0 = lastB (addL (grow b m) (x * 2 ^ (7 - m % 8))) := by unfold lastB; rw [hlen, e]
    rw [e1, hlast, hq, e8, Int.mul_comm (2 ^ (7 - m % 8)) 2, ← Int.mul_assoc, ← Int.add_mul, Int.mul_ediv_cancel _ (by omega)]
    omega
theorem bt1_PB {b : List Int} {m : Nat} (h : OkB b m) (v : Int) (n : Nat) : ∀ j, (∀ i, i < m → bt1 (PB b m v n j) i = bt1 b i)
  | 0 => fun _ _ => rfl
  | j + 1 => fun i hi => by
    have := (bt1_put (PB_ok h v n j) (x := v / 2 ^ (n - (j + 1)) % 2) (by omega) (by omega)).1 i (by omega)
    rw [show PB b m v n (j + 1) = putB (PB b m v n j) (m + j) (v / 2 ^ (n - (j + 1)) % 2) from rfl, this]
    exact bt1_PB h v n j i hi
theorem vl_congr {b c : List Int} {p : Nat} : ∀ {n : Nat}, (∀ i, p ≤ i → i < p + n → bt1 b i = bt1 c i) → vl b p n = vl c p n
  | 0, _ => rfl
  | n + 1, h => by
    simp only [vl]
    rw [vl_congr (n := n) (fun i h1 h2 => h i h1 (by omega)), h (p + n) (by omega) (by omega)]
theorem vl_PB {b : List Int} {m : Nat} (h : OkB b m) (v : Int) (n : Nat) : ∀ j, j ≤ n → vl (PB b m v n j) m j = v / 2 ^ (n - j) % 2 ^ j
  | 0, _ => by simp [vl, Int.emod_one]
  | j + 1, hj => by
    have hput := bt1_put (PB_ok h v n j) (x := v / 2 ^ (n - (j + 1)) % 2) (by omega) (by omega)
    have ih := vl_PB h v n j (by omega)
    have e : vl (PB b m v n (j + 1)) m j = vl (PB b m v n j) m j := vl_congr fun i h1 h2 => hput.1 i h2
    simp only [vl]
    rw [e, ih, show PB b m v n (j + 1) = putB (PB b m v n j) (m + j) (v / 2 ^ (n - (j + 1)) % 2) from rfl, hput.2, ← mod_two, show n - j = n - (j + 1) + 1 by omega, Int.pow_succ, ← Int.ediv_ediv_of_nonneg (Int.le_of_lt (Int.pow_pos (by omega)))]
    omega
/-- what is written reads as what it was -/
theorem vl_put {b : List Int} {m : Nat} (h : OkB b m) {v : Int} {n : Nat} (h0 : 0 ≤ v) (h1 : v < 2 ^ n) : vl (PB b m v n n) m n = v := by
  rw [vl_PB h v n n (Nat.le_refl _)]
  simp [Int.emod_eq_of_lt h0 h1]

end Xb

namespace Xb
open Go

/-! bits, the highest first -/
def nb : Nat → Int → List Int
  | 0, _ => []
  | n + 1, v => nb n (v / 2) ++ [v % 2]
def num (l : List Int) : Int := l.foldl (fun a x => a * 2 + x) 0
def bin (l : List Int) : Prop := ∀ x, x ∈ l → 0 ≤ x ∧ x ≤ 1
theorem nb_len : ∀ (n : Nat) (v : Int), (nb n v).length = n
  | 0, _ => rfl
  | n + 1, v => by simp [nb, nb_len n]
theorem nb_bin : ∀ (n : Nat) (v : Int), bin (nb n v)
  | 0, _, x, h => absurd h List.not_mem_nil
  | n + 1, v, x, h => by
    simp only [nb, List.mem_append, List.mem_singleton] at h
    rcases h with h | h
    · exact nb_bin n _ x h
    · omega
theorem num_snoc (l : List Int) (x : Int) : num (l ++ [x]) = num l * 2 + x := by simp [num]
theorem num_nb : ∀ (n : Nat) (v : Int), 0 ≤ v → v < 2 ^ n → num (nb n v) = v
  | 0, v, h0, h1 => by simp at h1; have : v = 0 := by omega
                       subst this; rfl
  | n + 1, v, h0, h1 => by
    have e : (2 : Int) ^ (n + 1) = 2 ^ n * 2 := Int.pow_succ _ _
    rw [nb, num_snoc, num_nb n (v / 2) (by omega) (by omega)]; omega
theorem bin.left {a b : List Int} (h : bin (a ++ b)) : bin a := fun x hx => h x (List.mem_append_left _ hx)
theorem bin.right {a b : List Int} (h : bin (a ++ b)) : bin b := fun x hx => h x (List.mem_append_right _ hx)
theorem bin.app {a b : List Int} (h : bin a) (h' : bin b) : bin (a ++ b) := fun x hx => (List.mem_append.1 hx).elim (h x) (h' x)
theorem bin.drop {a : List Int} (h : bin a) (n : Nat) : bin (a.drop n) := fun x hx => h x (List.mem_of_mem_drop hx)
theorem bin.take {a : List Int} (h : bin a) (n : Nat) : bin (a.take n) := fun x hx => h x (List.mem_of_mem_take hx)
theorem nb_num_rev : ∀ (r : List Int), bin r.reverse → nb r.length (num r.reverse) = r.reverse ∧ 0 ≤ num r.reverse ∧ num r.reverse < 2 ^ r.length
  | [], _ => by simp [nb, num]
  | x :: r, h => by
    simp only [List.reverse_cons] at h ⊢
    obtain ⟨h1, h2, h3⟩ := nb_num_rev r h.left
    have hx := h x (by simp)
    have e : (2 : Int) ^ (r.length + 1) = 2 ^ r.length * 2 := Int.pow_succ _ _
    rw [List.length_cons, nb, num_snoc]
    have e1 : (num r.reverse * 2 + x) / 2 = num r.reverse := by omega
    have e2 : (num r.reverse * 2 + x) % 2 = x := by omega
    rw [e1, e2, h1]
    refine ⟨rfl, by omega, by omega⟩
theorem nb_num {l : List Int} (h : bin l) : nb l.length (num l) = l := by
  have := (nb_num_rev l.reverse (by simpa using h)).1
  simpa using this
theorem num_bd {l : List Int} (h : bin l) : 0 ≤ num l ∧ num l < 2 ^ l.length := by
  have := (nb_num_rev l.reverse (by simpa using h)).2
  simpa using this

def bitsOf (B : List Int) : List Int := (List.range (8 * B.length)).map (bt1 B)
theorem bitsOf_len (B : List Int) : (bitsOf B).length = 8 * B.length := by simp [bitsOf]
theorem bitsOf_bin (B : List Int) : bin (bitsOf B) := fun x hx => by
  obtain ⟨i, _, rfl⟩ := List.mem_map.1 hx
  exact bt1_in B i
theorem bits_piece {B : List Int} {p n : Nat} (h : p + n ≤ 8 * B.length) : ((bitsOf B).drop p).take n = (List.range n).map fun i => bt1 B (p + i) := by
  apply List.ext_getElem
  · simp [bitsOf_len]; omega
  · intro i h1 h2
    simp only [List.length_map, List.length_range] at h2
    simp [bitsOf]
theorem num_range (f : Nat → Int) : ∀ n, num ((List.range (n + 1)).map f) = num ((List.range n).map f) * 2 + f n := fun n => by
  rw [List.range_succ, List.map_append, List.map_singleton, num_snoc]
theorem vl_range (B : List Int) (p : Nat) : ∀ n, num ((List.range n).map fun i => bt1 B (p + i)) = vl B p n
  | 0 => rfl
  | n + 1 => by rw [num_range, vl_range B p n]; simp only [vl]; omega
theorem vl_num {B : List Int} {p n : Nat} (h : p + n ≤ 8 * B.length) : vl B p n = num (((bitsOf B).drop p).take n) := by
  rw [bits_piece h, vl_range]
theorem bits_get {B : List Int} {i : Nat} (h : i < (bitsOf B).length) : (bitsOf B)[i] = bt1 B i := by simp [bitsOf]

theorem nb8 (x : Int) : nb 8 x = [x / 128 % 2, x / 64 % 2, x / 32 % 2, x / 16 % 2, x / 8 % 2, x / 4 % 2, x / 2 % 2, x % 2] := by
  simp only [nb, List.nil_append, List.cons_append]
  have e : ∀ a b : Int, x / a / b = x / (a * b) ∨ True := fun _ _ => .inr trivial
  refine List.cons_eq_cons.2 ⟨by omega, List.cons_eq_cons.2 ⟨by omega, List.cons_eq_cons.2 ⟨by omega, List.cons_eq_cons.2 ⟨by omega, List.cons_eq_cons.2 ⟨by omega, List.cons_eq_cons.2 ⟨by omega, rfl⟩⟩⟩⟩⟩⟩
theorem bitsOf_cons (x : Int) (B : List Int) : bitsOf (x :: B) = nb 8 x ++ bitsOf B := by
  apply List.ext_getElem
  · simp [bitsOf_len, nb_len]; omega
  · intro i h1 h2
    rw [bits_get h1]
    by_cases h : i < 8
    · rw [List.getElem_append_left (by rw [nb_len]; exact h)]
      have : i = 0 ∨ i = 1 ∨ i = 2 ∨ i = 3 ∨ i = 4 ∨ i = 5 ∨ i = 6 ∨ i = 7 := by omega
      have g : ∀ {k : Nat} (hk : k < (nb 8 x).length) (y : Int), (nb 8 x)[k]? = some y → (nb 8 x)[k] = y := fun hk y hy => by
        rw [List.getElem?_eq_getElem hk] at hy; exact Option.some.inj hy
      rcases this with rfl | rfl | rfl | rfl | rfl | rfl | rfl | rfl <;> (rw [g _ _ (by rw [nb8]; rfl)]; simp [bt1])
    · rw [List.getElem_append_right (by rw [nb_len]; omega)]
      rw [bits_get]
      unfold bt1
      rw [nb_len]
      have e1 : i / 8 = (i - 8) / 8 + 1 := by omega
      have e2 : i % 8 = (i - 8) % 8 := by omega
      rw [e1, e2, List.getD_cons_succ]
theorem bitsOf_app : ∀ (A B : List Int), bitsOf (A ++ B) = bitsOf A ++ bitsOf B
  | [], B => by simp [bitsOf]
  | x :: A, B => by rw [List.cons_append, bitsOf_cons, bitsOf_app A B, bitsOf_cons, List.append_assoc]

theorem byte_vl {b : List Int} (hb : U8 b) (i : Nat) : b.getD i 0 = vl b (8 * i) 8 := by
  have h := vl_byte b (8 * i) 8 (by omega)
  have h1 : 8 * i / 8 = i := by omega
  have h2 : 8 * i % 8 = 0 := by omega
  rw [h1, h2] at h
  have := hb.get i
  rw [h]
  show b.getD i 0 = b.getD i 0 / 2 ^ 0 % 2 ^ 8
  rw [Int.pow_zero, Int.ediv_one]; omega
theorem bytes_ext {b c : List Int} (hb : U8 b) (hc : U8 c) (h : bitsOf b = bitsOf c) : b = c := by
  have hl : b.length = c.length := by
    have := congrArg List.length h
    rw [bitsOf_len, bitsOf_len] at this; omega
  apply List.ext_getElem hl
  intro i h1 h2
  have e1 : b[i] = b.getD i 0 := by rw [List.getD_eq_getElem?_getD, List.getElem?_eq_getElem h1]; rfl
  have e2 : c[i] = c.getD i 0 := by rw [List.getD_eq_getElem?_getD, List.getElem?_eq_getElem h2]; rfl
  rw [e1, e2, byte_vl hb, byte_vl hc, vl_num (by omega), vl_num (by omega), h]

theorem OkB.zero {b : List Int} {m : Nat} (h : OkB b m) {i : Nat} (h1 : m ≤ i) (h2 : i < 8 * b.length) : bt1 b i = 0 := by
  have hle := h.le; have hge := h.ge; have hlow := h.low
  have e : i / 8 = b.length - 1 := by omega
  unfold bt1
  rw [e]
  change lastB b / 2 ^ (7 - i % 8) % 2 = 0
  have hr : 8 * b.length - m = (7 - i % 8) + 1 + (i - m) := by omega
  rw [hr] at hlow
  generalize lastB b = y at *
  generalize 7 - i % 8 = t at *
  generalize i - m = u at *
  have e2 : (2 : Int) ^ (t + 1 + u) = 2 ^ t * (2 * 2 ^ u) := by rw [Int.pow_add, Int.pow_succ, Int.mul_assoc]
  rw [e2] at hlow
  have hp : (0 : Int) < 2 ^ t := Int.pow_pos (by omega)
  have hd : (2 : Int) ^ t * (2 * 2 ^ u) ∣ y := Int.dvd_of_emod_eq_zero hlow
  obtain ⟨q, rfl⟩ := hd
  rw [Int.mul_assoc, Int.mul_ediv_cancel_left _ (by omega), Int.mul_assoc]
  exact Int.mul_emod_right _ _

/-- ink that holds these bits -/
structure RepK (k : Ink) (L : List Int) : Prop where
  many : k.many = L.length
  ok : OkB k.bytes L.length
  bits : (bitsOf k.bytes).take L.length = L
theorem RepK.all {k : Ink} {L : List Int} (h : RepK k L) : bitsOf k.bytes = L ++ List.replicate (8 * k.bytes.length - L.length) 0 := by
  have hle := h.ok.le
  conv => lhs; rw [← List.take_append_drop L.length (bitsOf k.bytes), h.bits]
  congr 1
  apply List.ext_getElem
  · simp [bitsOf_len]
  · intro i h1 h2
    simp only [List.length_drop, bitsOf_len] at h1
    rw [List.getElem_drop, bits_get, List.getElem_replicate]
    exact h.ok.zero (by omega) (by omega)
theorem RepK.ext {k j : Ink} {L : List Int} (h : RepK k L) (h' : RepK j L) : k.bytes = j.bytes := by
  apply bytes_ext h.ok.u8 h'.ok.u8
  have a1 := h.ok.le; have a2 := h.ok.ge; have b1 := h'.ok.le; have b2 := h'.ok.ge
  have e : k.bytes.length = j.bytes.length := by omega
  rw [h.all, h'.all, e]
theorem RepK.okK {k : Ink} {L : List Int} (h : RepK k L) : okK k = true := by
  have h1 := h.ok.le; have h2 := h.ok.ge; have h3 := h.ok.low; have h4 := h.many
  unfold Xb.okK
  simp only [Bool.and_eq_true, decide_eq_true_eq]
  have e : k.many.toNat = L.length := by omega
  rw [e]
  exact ⟨⟨⟨by omega, by omega⟩, by omega⟩, h3⟩
theorem RepK.nil : RepK ⟨[], 0⟩ [] := ⟨rfl, ⟨fun _ h => absurd h List.not_mem_nil, by simp, by simp, by simp [lastB]⟩, by simp⟩

theorem add_rep {k : Ink} {L : List Int} (h : RepK k L) (hl : L.length ≤ 500000000) {v : Int} {n : Nat} (h0 : 0 ≤ v) (h1 : v < 2 ^ n) (hn : n ≤ 64) :
    ∃ k', bits_Add none k v n = some (k', 0) ∧ RepK k' (L ++ nb n v) := by
  have hle := h.ok.le; have hge := h.ok.ge; have hm := h.many
  have hp := pow_le64 hn
  have hA := bits_Add_eq (k := k) h.ok.u8 (by omega) (in_i64.2 (by omega)) (v := v) (in_u64.2 (by omega)) n
  have e : k.many.toNat = L.length := by omega
  refine ⟨⟨PB k.bytes L.length v n n, k.many + n⟩, ?_, ⟨?_, ?_, ?_⟩⟩
  · rw [hA]
    unfold addK
    rw [if_neg (by rw [h.okK]; simp; omega), if_neg (by simp; omega), e]
    simp
  · simp [nb_len, hm]
  · rw [List.length_append, nb_len]; exact PB_ok h.ok v n n
  · have hok := PB_ok h.ok v n n
    have hok1 := hok.le
    have g1 := bt1_PB h.ok v n n
    have hv := vl_put h.ok h0 h1
    rw [List.length_append, nb_len]
    have key : ∀ (X : List Int), X.take (L.length + n) = X.take L.length ++ (X.drop L.length).take n := fun X => by
      rw [List.take_add]
    rw [key]
    have e1 : (bitsOf (PB k.bytes L.length v n n)).take L.length = L := by
      conv => rhs; rw [← h.bits]
      apply List.ext_getElem
      · simp [bitsOf_len]; omega
      · intro i q1 q2
        simp only [List.length_take, bitsOf_len] at q1
        rw [List.getElem_take, List.getElem_take, bits_get, bits_get]
        exact g1 i (by omega)
    have hb := (bitsOf_bin (PB k.bytes L.length v n n)).drop L.length |>.take n
    have hlen : (((bitsOf (PB k.bytes L.length v n n)).drop L.length).take n).length = n := by simp [bitsOf_len]; omega
    have e2 : ((bitsOf (PB k.bytes L.length v n n)).drop L.length).take n = nb n v := by
      have := nb_num hb
      rw [hlen, ← vl_num (by omega), hv] at this
      exact this.symm
    show (bitsOf (PB k.bytes L.length v n n)).take L.length ++ ((bitsOf (PB k.bytes L.length v n n)).drop L.length).take n = _
    rw [e1, e2]

/-! reading -/
abbrev RS := Except Int (List Int)
def gN (w : Nat) (s : RS) : Int × RS :=
  match s with
  | .error e => (0, .error e)
  | .ok R => if R.length < w then (0, .error 2) else (num (R.take w), .ok (R.drop w))
structure Rep (B : List Int) (c : GBits) (s : RS) : Prop where
  by_ : c.bytes = B
  st : match s with
    | .ok R => c.err = 0 ∧ 0 ≤ c.at_ ∧ c.at_ ≤ 8 * B.length ∧ R = (bitsOf B).drop c.at_.toNat
    | .error e => c.err = e ∧ e ≠ 0
theorem Rep.start (B : List Int) : Rep B ⟨B, 0, 0⟩ (.ok (bitsOf B)) := ⟨rfl, rfl, Int.le_refl _, by show (0 : Int) ≤ 8 * (B.length : Int); omega, by simp⟩
theorem Rep.at_ok {B : List Int} {c : GBits} {R : List Int} (h : Rep B c (.ok R)) : c.at_ = 8 * B.length - R.length ∧ c.err = 0 := by
  obtain ⟨h1, h2, h3, h4, h5⟩ := h
  refine ⟨?_, h2⟩
  rw [h5, List.length_drop, bitsOf_len]; omega

theorem get_rep {B : List Int} (hB : By B) {c : GBits} {s : RS} (h : Rep B c s) {w : Nat} (hw : w ≤ 64) :
    ∃ c', bits_Get none c w = some (c', (gN w s).1) ∧ Rep B c' (gN w s).2 := by
  have hc : By c.bytes := by rw [h.by_]; exact hB
  rw [bits_Get_eq hc]
  cases s with
  | error e =>
    obtain ⟨h1, h2, h3⟩ := h
    have ho : okG c = false := by unfold okG; rw [decide_eq_false (by omega)]; rfl
    refine ⟨c, ?_, h1, h2, h3⟩
    unfold getG failG
    rw [if_pos (.inl ho), if_neg (by omega)]; rfl
  | ok R =>
    obtain ⟨h1, h2, h3, h4, h5⟩ := h
    have ho : okG c = true := by
      unfold okG; rw [h1, decide_eq_true h2, decide_eq_true h3, decide_eq_true h4]; rfl
    have hlen : R.length = 8 * B.length - c.at_.toNat := by rw [h5, List.length_drop, bitsOf_len]
    rw [getG_ok ho rfl hw, h1]
    by_cases hs : R.length < w
    · rw [if_pos (by omega)]
      unfold gN
      simp only [if_pos hs]
      exact ⟨⟨B, c.at_, 2⟩, rfl, rfl, rfl, by decide⟩
    · rw [if_neg (by omega)]
      unfold gN
      simp only [if_neg hs]
      refine ⟨⟨B, c.at_ + w, c.err⟩, by rw [vl_num (by omega), h5], rfl, h2, by show (0 : Int) ≤ c.at_ + w; omega, by show c.at_ + w ≤ (8 * B.length : Int); omega, ?_⟩
      rw [h5, List.drop_drop]
      congr 1
      show _ = (c.at_ + (w : Int)).toNat
      omega
theorem gN_bd {w : Nat} {s : RS} (hs : ∀ R, s = .ok R → bin R) : 0 ≤ (gN w s).1 ∧ (gN w s).1 < 2 ^ w := by
  have hp : (0 : Int) < 2 ^ w := Int.pow_pos (by omega)
  unfold gN
  cases s with
  | error e => exact ⟨by simp, by simpa using hp⟩
  | ok R =>
    simp only
    by_cases h : R.length < w
    · rw [if_pos h]; exact ⟨by simp, by simpa using hp⟩
    · rw [if_neg h]
      have := num_bd ((hs R rfl).take w)
      rw [List.length_take, Nat.min_eq_left (by omega)] at this
      exact this
end Xb

namespace Xb
open Go

/-! readers of bits -/
abbrev RD (α : Type) := RS → α × RS
def pr {α : Type} (a : α) : RD α := fun s => (a, s)
def bdR {α β : Type} (f : RD α) (g : α → RD β) : RD β := fun s => g (f s).1 (f s).2

/-- an error stays -/
def ErrP {α : Type} (f : RD α) : Prop := ∀ e, (f (.error e)).2 = .error e
/-- it reads just these bits as that -/
structure Cod {α : Type} (f : RD α) (W : List Int) (a : α) : Prop where
  full : ∀ rest, f (.ok (W ++ rest)) = (a, .ok rest)
  cut : ∀ R T, W = R ++ T → T ≠ [] → (f (.ok R)).2 = .error 2
/-- what it reads is so, and it takes so many bits at least -/
def Pst {α : Type} (f : RD α) (P : α → Prop) (n : Nat) : Prop := ∀ R a rest, bin R → f (.ok R) = (a, .ok rest) → P a ∧ bin rest ∧ rest.length + n ≤ R.length

theorem ErrP.pr {α : Type} (a : α) : ErrP (pr a) := fun _ => rfl
theorem ErrP.bd {α β : Type} {f : RD α} {g : α → RD β} (hf : ErrP f) (hg : ∀ a, ErrP (g a)) : ErrP (bdR f g) := fun e => by
  show (g (f (.error e)).1 (f (.error e)).2).2 = _
  rw [hf e]; exact hg _ e
theorem Cod.pr {α : Type} (a : α) : Cod (pr a) [] a := ⟨fun _ => rfl, fun R T h hT => absurd (List.append_eq_nil_iff.1 h.symm).2 hT⟩
theorem Cod.bd {α β : Type} {f : RD α} {g : α → RD β} {W V : List Int} {a : α} {b : β} (hf : Cod f W a) (hg : Cod (g a) V b) (he : ∀ x, ErrP (g x)) : Cod (bdR f g) (W ++ V) b := by
  refine ⟨fun rest => ?_, fun R T h hT => ?_⟩
  · show g (f (.ok (W ++ V ++ rest))).1 (f (.ok (W ++ V ++ rest))).2 = _
    rw [List.append_assoc, hf.full]; exact hg.full rest
  · show (g (f (.ok R)).1 (f (.ok R)).2).2 = _
    rcases List.append_eq_append_iff.1 h with ⟨X, h1, h2⟩ | ⟨X, h1, h2⟩
    · -- R = W ++ X
      rw [h1, hf.full]
      exact hg.cut X T h2 hT
    · by_cases hX : X = []
      · subst hX
        simp only [List.append_nil, List.nil_append] at h1 h2
        have := hf.full []
        rw [List.append_nil] at this
        rw [← h1, this]
        exact hg.cut [] V rfl (by rw [← h2]; exact hT)
      · have := hf.cut R X h1 hX
        have e : (f (.ok R)).2 = .error 2 := this
        rw [e]; exact he _ 2
theorem Pst.pr {α : Type} {P : α → Prop} {a : α} (h : P a) : Pst (pr a) P 0 := fun R a' rest hb e => by
  cases e; exact ⟨h, hb, Nat.le_refl _⟩
theorem Pst.bd {α β : Type} {f : RD α} {g : α → RD β} {P : α → Prop} {Q : β → Prop} {m n : Nat} (hf : Pst f P m) (hg : ∀ a, P a → Pst (g a) Q n) (he : ∀ a, ErrP (g a)) : Pst (bdR f g) Q (m + n) := by
  intro R b rest hb e
  change g (f (.ok R)).1 (f (.ok R)).2 = _ at e
  cases hr : (f (.ok R)).2 with
  | error x =>
    rw [hr] at e
    have := he (f (.ok R)).1 x
    rw [e] at this; cases this
  | ok S =>
    rw [hr] at e
    obtain ⟨h1, h2, h3⟩ := hf R (f (.ok R)).1 S hb (by rw [← hr])
    obtain ⟨q1, q2, q3⟩ := hg _ h1 S b rest h2 e
    exact ⟨q1, q2, by omega⟩
theorem Pst.le {α : Type} {f : RD α} {P Q : α → Prop} {m n : Nat} (h : Pst f P m) (hn : n ≤ m) (hq : ∀ a, P a → Q a) : Pst f Q n := fun R a rest hb e => by
  obtain ⟨h1, h2, h3⟩ := h R a rest hb e
  exact ⟨hq a h1, h2, by omega⟩

theorem ErrP.gN (w : Nat) : ErrP (gN w) := fun _ => rfl
theorem Cod.gN {w : Nat} {v : Int} (h0 : 0 ≤ v) (h1 : v < 2 ^ w) : Cod (gN w) (nb w v) v := by
  refine ⟨fun rest => ?_, fun R T h hT => ?_⟩
  · unfold Xb.gN
    simp only
    rw [if_neg (by simp [nb_len]), List.take_left' (nb_len w v), List.drop_left' (nb_len w v), num_nb w v h0 h1]
  · have hl := congrArg List.length h
    rw [nb_len, List.length_append] at hl
    have : 0 < T.length := List.length_pos_iff.2 hT
    unfold Xb.gN
    simp only
    rw [if_pos (by omega)]
theorem Pst.gN (w : Nat) : Pst (gN w) (fun a => 0 ≤ a ∧ a < 2 ^ w) w := fun R a rest hb e => by
  have hbd := gN_bd (w := w) (s := .ok R) (fun R' h => by cases h; exact hb)
  rw [e] at hbd
  unfold Xb.gN at e
  simp only at e
  by_cases h : R.length < w
  · rw [if_pos h] at e; cases e
  · rw [if_neg h] at e
    cases e
    exact ⟨hbd, hb.drop w, by rw [List.length_drop]; omega⟩

def tS : RD Bool := bdR (gN 1) fun a => pr (decide (a = 1))
def wb (b : Bool) : List Int := nb 1 (if b then 1 else 0)
theorem ErrP.tS : ErrP tS := .bd (.gN 1) fun _ => .pr _
theorem Cod.tS (b : Bool) : Cod tS (wb b) b := by
  have h : Cod (Xb.gN 1) (wb b) (if b then 1 else 0) := .gN (by cases b <;> simp) (by cases b <;> simp)
  have := h.bd (g := fun a => Xb.pr (decide (a = 1))) (.pr _) (fun _ => .pr _)
  rw [List.append_nil] at this
  cases b <;> exact this
theorem Pst.tS : Pst tS (fun _ => True) 1 := .bd (n := 0) (.gN 1) (fun _ _ => .pr trivial) (fun _ => .pr _)

/-! many, one by one -/
def goneS {α : Type} (f : RD α) : Nat → RD (List α)
  | 0, s => ([], s)
  | _ + 1, .error e => ([], .error e)
  | n + 1, .ok R => ((f (.ok R)).1 :: (goneS f n (f (.ok R)).2).1, (goneS f n (f (.ok R)).2).2)
theorem ErrP.gone {α : Type} (f : RD α) : ∀ n, ErrP (goneS f n)
  | 0, _ => rfl
  | _ + 1, _ => rfl
theorem Cod.gone {α : Type} {f : RD α} (hE : ErrP f) {W : α → List Int} : ∀ {l : List α}, (∀ a, a ∈ l → Cod f (W a) a) → Cod (goneS f l.length) (l.flatMap W) l
  | [], _ => ⟨fun _ => rfl, fun R T h hT => absurd (List.append_eq_nil_iff.1 h.symm).2 hT⟩
  | a :: l, h => by
    have ih := Cod.gone hE (l := l) fun x hx => h x (by simp [hx])
    have h1 := h a (by simp)
    have hs := h1.bd (g := fun x => bdR (goneS f l.length) fun q => Xb.pr (x :: q)) (ih.bd (.pr (a :: l)) fun _ => .pr _) (fun _ => .bd (.gone f _) fun _ => .pr _)
    rw [List.append_nil] at hs
    refine ⟨fun rest => ?_, fun R T hR hT => ?_⟩
    · exact hs.full rest
    · exact hs.cut R T hR hT
theorem Pst.gone {α : Type} {f : RD α} {P : α → Prop} (hE : ErrP f) (hf : Pst f P 0) : ∀ n, Pst (goneS f n) (fun l => l.length = n ∧ ∀ a, a ∈ l → P a) 0
  | 0 => fun R a rest hb e => by cases e; exact ⟨⟨rfl, fun _ h => absurd h List.not_mem_nil⟩, hb, Nat.le_refl _⟩
  | n + 1 => by
    have h := Pst.bd (Q := fun l => l.length = n + 1 ∧ ∀ a, a ∈ l → P a) (g := fun x => bdR (goneS f n) fun q => Xb.pr (x :: q)) hf (fun a ha => Pst.bd (n := 0) (Pst.gone hE hf n) (fun q hq => Pst.pr (a := a :: q) ⟨by simp [hq.1], fun x hx => by
      rcases List.mem_cons.1 hx with rfl | hx
      · exact ha
      · exact hq.2 x hx⟩) (fun _ => .pr _)) (fun _ => .bd (.gone f n) fun _ => .pr _)
    exact h

/-! the descriptor -/
def badS : RS → RS
  | .error e => .error e
  | .ok _ => .error 6
def sizeS : RD Size := bdR (gN 16) fun a => bdR (gN 16) fun b => pr ⟨a, b⟩
def picS : RD Group := bdR (gN 3) fun a => bdR tS fun u => bdR (gN 2) fun m => bdR (gN 2) fun _ => bdR (goneS (gN 8) m.toNat) fun l => pr ⟨a, u, l⟩
def opt {α : Type} (b : Bool) (f : RD α) (z : α) : RD α := if b then f else pr z
def scaleS : RD Scale := bdR (gN 3) fun a => bdR tS fun hs => bdR tS fun hp => bdR (gN 3) fun _ =>
  bdR (opt hs (goneS sizeS (a + 1).toNat) []) fun sz => bdR (opt hp (bdR (gN 8) fun m => goneS picS m.toNat) []) fun pc => pr ⟨a + 1, hs, sz, hp, pc⟩
def refsS : Nat → RD (List Int)
  | 0, s => ([], s)
  | _ + 1, .error e => ([], .error e)
  | j + 1, .ok R =>
    let a := gN 7 (.ok R)
    let m := tS a.2
    let s' := if a.1 = 0 ∨ (m.1 = true ∧ j = 0) then badS m.2 else m.2
    if m.1 then (a.1 :: (refsS j s').1, (refsS j s').2) else ([a.1], s')
def hdS : RD (Bool × Int) := bdR tS fun w => bdR (gN (if w then 15 else 7)) fun p => pr (w, p)
def layS (fl : Bool) : RD (Int × Bool × Int × Bool × Int) := bdR (gN 3) fun t => bdR tS fun u => bdR (gN 3) fun s => bdR tS fun d => bdR (opt (!fl) (gN 8) 0) fun l => pr (t, u, s, d, l)
def zSc : Scale := ⟨0, false, [], false, []⟩
def zD : Vp9 := ⟨false, false, 0, false, false, 0, 0, false, false, false, 0, [], false, false, false, zSc, false⟩
def tailS (h1 h2 h3 h4 h5 h6 h7 h8 : Bool) (p : Bool × Int) (y : Int × Bool × Int × Bool × Int) : RD Vp9 :=
  bdR (opt (h4 && h2) (refsS 3) []) fun r => bdR (opt h7 scaleS zSc) fun c =>
    pr ⟨h1, p.1, p.2, h2, h3, y.1, y.2.2.1, y.2.1, y.2.2.2.1, h4, y.2.2.2.2, r, h5, h6, h7, c, h8⟩
def thrS : RD Vp9 := bdR tS fun h1 => bdR tS fun h2 => bdR tS fun h3 => bdR tS fun h4 => bdR tS fun h5 => bdR tS fun h6 => bdR tS fun h7 => bdR tS fun h8 =>
  bdR (opt h1 hdS (false, 0)) fun p => bdR (opt h3 (layS h4) (0, false, 0, false, 0)) fun y => tailS h1 h2 h3 h4 h5 h6 h7 h8 p y

theorem ErrP.opt {α : Type} {b : Bool} {f : RD α} {z : α} (h : ErrP f) : ErrP (opt b f z) := by
  unfold Xb.opt; split
  · exact h
  · exact .pr z
theorem Pst.opt {α : Type} {b : Bool} {f : RD α} {z : α} {P : α → Prop} (h : b = true → Pst f P 0) (hz : b = false → P z) : Pst (opt b f z) P 0 := by
  unfold Xb.opt
  cases b with
  | true => exact h rfl
  | false => exact .pr (hz rfl)
theorem ErrP.refs : ∀ j, ErrP (refsS j)
  | 0, _ => rfl
  | _ + 1, _ => rfl
theorem ErrP.size : ErrP sizeS := .bd (.gN _) fun _ => .bd (.gN _) fun _ => .pr _
theorem ErrP.pic : ErrP picS := .bd (.gN _) fun _ => .bd .tS fun _ => .bd (.gN _) fun _ => .bd (.gN _) fun _ => .bd (.gone _ _) fun _ => .pr _
theorem ErrP.scale : ErrP scaleS := .bd (.gN _) fun _ => .bd .tS fun _ => .bd .tS fun _ => .bd (.gN _) fun _ => .bd (.opt (.gone _ _)) fun _ => .bd (.opt (.bd (.gN _) fun _ => .gone _ _)) fun _ => .pr _
theorem ErrP.hd : ErrP hdS := .bd .tS fun _ => .bd (.gN _) fun _ => .pr _
theorem ErrP.lay (fl : Bool) : ErrP (layS fl) := .bd (.gN _) fun _ => .bd .tS fun _ => .bd (.gN _) fun _ => .bd .tS fun _ => .bd (.opt (.gN _)) fun _ => .pr _
theorem ErrP.tail {h1 h2 h3 h4 h5 h6 h7 h8 : Bool} {p : Bool × Int} {y : Int × Bool × Int × Bool × Int} : ErrP (tailS h1 h2 h3 h4 h5 h6 h7 h8 p y) :=
  .bd (.opt (.refs 3)) fun _ => .bd (.opt .scale) fun _ => .pr _
theorem ErrP.thr : ErrP thrS := .bd .tS fun _ => .bd .tS fun _ => .bd .tS fun _ => .bd .tS fun _ => .bd .tS fun _ => .bd .tS fun _ => .bd .tS fun _ => .bd .tS fun _ =>
  .bd (.opt .hd) fun _ => .bd (.opt (.lay _)) fun _ => .tail

/-! what is right -/
def RightG (g : Group) : Prop := (0 ≤ g.tid ∧ g.tid ≤ 7) ∧ g.refs.length ≤ 3 ∧ ∀ n, n ∈ g.refs → 0 ≤ n ∧ n ≤ 255
def RightZ (x : Size) : Prop := (0 ≤ x.wide ∧ x.wide ≤ 65535) ∧ 0 ≤ x.high ∧ x.high ≤ 65535
def RightS (s : Scale) : Prop := (1 ≤ s.layers ∧ s.layers ≤ 8) ∧ (s.sizes.length : Int) = (if s.hasSizes then s.layers else 0) ∧ (s.pics.length : Int) ≤ (if s.hasPics then 255 else 0) ∧
  (∀ x, x ∈ s.sizes → RightZ x) ∧ ∀ g, g ∈ s.pics → RightG g
def mostP (d : Vp9) : Int := if d.hasPic then (if d.wide then 32767 else 127) else 0
def LayD (d : Vp9) : Prop := if d.hasLayer then (0 ≤ d.tid ∧ d.tid ≤ 7) ∧ (0 ≤ d.sid ∧ d.sid ≤ 7) ∧ (0 ≤ d.level ∧ d.level ≤ 255) ∧ (d.flexible = false ∨ d.level = 0)
  else d.tid = 0 ∧ d.sid = 0 ∧ d.up = false ∧ d.depends = false ∧ d.level = 0
def RefD (d : Vp9) : Prop := if d.flexible && d.inter then (1 ≤ d.refs.length ∧ d.refs.length ≤ 3) ∧ ∀ n, n ∈ d.refs → 1 ≤ n ∧ n ≤ 127 else d.refs = []
def ScD (d : Vp9) : Prop := if d.hasScale then RightS d.scale else d.scale = zSc
def RightD (d : Vp9) : Prop := (0 ≤ d.pic ∧ d.pic ≤ mostP d) ∧ (d.hasPic = true ∨ d.wide = false) ∧ LayD d ∧ RefD d ∧ ScD d

def picW (g : Group) : List Int := nb 3 g.tid ++ (wb g.up ++ (nb 2 g.refs.length ++ (nb 2 0 ++ g.refs.flatMap (nb 8))))
def sizeW (x : Size) : List Int := nb 16 x.wide ++ nb 16 x.high
def optW (b : Bool) (l : List Int) : List Int := if b then l else []
def scaleW (s : Scale) : List Int := nb 3 (s.layers - 1) ++ (wb s.hasSizes ++ (wb s.hasPics ++ (nb 3 0 ++ (optW s.hasSizes (s.sizes.flatMap sizeW) ++ optW s.hasPics (nb 8 s.pics.length ++ s.pics.flatMap picW)))))
def refsW : List Int → List Int
  | [] => []
  | a :: l => nb 7 a ++ (wb (!l.isEmpty) ++ refsW l)
def hdW (d : Vp9) : List Int := wb d.wide ++ nb (if d.wide then 15 else 7) d.pic
def layW (d : Vp9) : List Int := nb 3 d.tid ++ (wb d.up ++ (nb 3 d.sid ++ (wb d.depends ++ optW (!d.flexible) (nb 8 d.level))))
def tailW (d : Vp9) : List Int := optW (d.flexible && d.inter) (refsW d.refs) ++ optW d.hasScale (scaleW d.scale)
def thrW (d : Vp9) : List Int := wb d.hasPic ++ (wb d.inter ++ (wb d.hasLayer ++ (wb d.flexible ++ (wb d.begin ++ (wb d.end_ ++ (wb d.hasScale ++ (wb d.notRef ++
  (optW d.hasPic (hdW d) ++ (optW d.hasLayer (layW d) ++ tailW d)))))))))

theorem Cod.opt {α : Type} {b : Bool} {f : RD α} {z a : α} {W : List Int} (h : b = true → Cod f W a) (hz : b = false → a = z) : Cod (opt b f z) (optW b W) a := by
  unfold Xb.opt optW
  cases b with
  | true => exact h rfl
  | false => rw [hz rfl]; exact .pr z
theorem nilR {α : Type} {f : RD α} {W : List Int} {a : α} (h : Cod f (W ++ []) a) : Cod f W a := by rwa [List.append_nil] at h
theorem Cod.size {x : Size} (h : RightZ x) : Cod sizeS (sizeW x) x := by
  obtain ⟨⟨a, b⟩, c, d⟩ := h
  exact Cod.bd (Cod.gN a (by omega)) (nilR (Cod.bd (Cod.gN c (by omega)) (.pr _) fun _ => .pr _)) (fun _ => .bd (.gN _) fun _ => .pr _)
theorem Cod.pic {g : Group} (h : RightG g) : Cod picS (picW g) g := by
  obtain ⟨⟨a, b⟩, c, d⟩ := h
  refine Cod.bd (Cod.gN a (by omega)) (Cod.bd (Cod.tS _) (Cod.bd (Cod.gN (by omega) (by omega)) (Cod.bd (a := 0) (Cod.gN (by omega) (by omega)) (nilR (Cod.bd (a := g.refs) ?_ (.pr _) fun _ => .pr _)) ?_) ?_) ?_) ?_
  · have : ((g.refs.length : Int)).toNat = g.refs.length := by omega
    rw [this]
    exact Cod.gone (.gN 8) fun a ha => .gN (d a ha).1 (by have := (d a ha).2; omega)
  · exact fun _ => .bd (.gone _ _) fun _ => .pr _
  · exact fun _ => .bd (.gN _) fun _ => .bd (.gone _ _) fun _ => .pr _
  · exact fun _ => .bd (.gN _) fun _ => .bd (.gN _) fun _ => .bd (.gone _ _) fun _ => .pr _
  · exact fun _ => .bd .tS fun _ => .bd (.gN _) fun _ => .bd (.gN _) fun _ => .bd (.gone _ _) fun _ => .pr _
theorem Cod.scale {s : Scale} (h : RightS s) : Cod scaleS (scaleW s) s := by
  obtain ⟨⟨a, b⟩, c, d, e, f⟩ := h
  have e1 : s.layers - 1 + 1 = s.layers := by omega
  refine Cod.bd (Cod.gN (v := s.layers - 1) (by omega) (by omega)) (Cod.bd (Cod.tS _) (Cod.bd (Cod.tS _) (Cod.bd (a := 0) (Cod.gN (by omega) (by omega)) (Cod.bd (a := s.sizes) ?_ (nilR (Cod.bd (a := s.pics) ?_ (b := s) ?_ fun _ => .pr _)) ?_) ?_) ?_) ?_) ?_
  · refine Cod.opt (fun h => ?_) (fun h => ?_)
    · rw [h] at c
      simp only [if_true] at c
      have : (s.layers - 1 + 1).toNat = s.sizes.length := by omega
      rw [this]
      exact Cod.gone .size fun x hx => Cod.size (e x hx)
    · rw [h] at c
      exact List.length_eq_zero_iff.1 (by simpa using c)
  · refine Cod.opt (fun h => ?_) (fun h => ?_)
    · rw [h] at d
      simp only [if_true] at d
      refine Cod.bd (Cod.gN (v := s.pics.length) (by omega) (by omega)) ?_ (fun _ => .gone _ _)
      have : ((s.pics.length : Int)).toNat = s.pics.length := by omega
      rw [this]
      exact Cod.gone .pic fun x hx => Cod.pic (f x hx)
    · rw [h] at d
      exact List.length_eq_zero_iff.1 (by simp at d; simpa using d)
  · rw [e1]; exact .pr s
  · exact fun _ => .bd (.opt (.bd (.gN _) fun _ => .gone _ _)) fun _ => .pr _
  · exact fun _ => .bd (.opt (.gone _ _)) fun _ => .bd (.opt (.bd (.gN _) fun _ => .gone _ _)) fun _ => .pr _
  · exact fun _ => .bd (.gN _) fun _ => .bd (.opt (.gone _ _)) fun _ => .bd (.opt (.bd (.gN _) fun _ => .gone _ _)) fun _ => .pr _
  · exact fun _ => .bd .tS fun _ => .bd (.gN _) fun _ => .bd (.opt (.gone _ _)) fun _ => .bd (.opt (.bd (.gN _) fun _ => .gone _ _)) fun _ => .pr _
  · exact fun _ => .bd .tS fun _ => .bd .tS fun _ => .bd (.gN _) fun _ => .bd (.opt (.gone _ _)) fun _ => .bd (.opt (.bd (.gN _) fun _ => .gone _ _)) fun _ => .pr _
end Xb

namespace Xb
open Go

def gR (j : Nat) (a : Int) (m : Bool) : RD (List Int) := fun s =>
  if m then (a :: (refsS j (if a = 0 ∨ (m = true ∧ j = 0) then badS s else s)).1, (refsS j (if a = 0 ∨ (m = true ∧ j = 0) then badS s else s)).2) else ([a], if a = 0 ∨ (m = true ∧ j = 0) then badS s else s)
theorem refs_ok (j : Nat) (R : List Int) : refsS (j + 1) (.ok R) = bdR (gN 7) (fun a => bdR tS fun m => gR j a m) (.ok R) := rfl
theorem ErrP.gR (j : Nat) (a : Int) (m : Bool) : ErrP (gR j a m) := fun e => by
  unfold Xb.gR
  have h : (if a = 0 ∨ (m = true ∧ j = 0) then badS (.error e) else (.error e : RS)) = .error e := by split <;> rfl
  rw [h]
  cases m with
  | true => exact ErrP.refs j e
  | false => rfl
theorem Cod.refs : ∀ {l : List Int} {j : Nat}, l ≠ [] → l.length ≤ j → (∀ n, n ∈ l → 1 ≤ n ∧ n ≤ 127) → Cod (refsS j) (refsW l) l
  | [], _, h, _, _ => absurd rfl h
  | a :: l, 0, _, h, _ => absurd h (by simp)
  | a :: l, j + 1, _, hj, hl => by
    have ha := hl a (by simp)
    have hG : Cod (Xb.gR j a (!l.isEmpty)) (refsW l) (a :: l) := by
      by_cases he : l = []
      · subst he
        refine ⟨fun rest => ?_, fun R T h hT => absurd (List.append_eq_nil_iff.1 h.symm).2 hT⟩
        unfold Xb.gR
        have hc : ¬ (a = 0 ∨ ((!([] : List Int).isEmpty) = true ∧ j = 0)) := by simp; omega
        rw [if_neg hc]
        rfl
      · have hm : (!l.isEmpty) = true := by cases l <;> simp at he ⊢
        have hlen : l.length ≤ j := by simp at hj; omega
        have hp : 0 < l.length := List.length_pos_iff.2 he
        have ih := Cod.refs (l := l) (j := j) he hlen fun n hn => hl n (by simp [hn])
        have := ih.bd (g := fun q => Xb.pr (a :: q)) (.pr (a :: l)) (fun _ => .pr _)
        rw [List.append_nil] at this
        rw [hm]
        have e : Xb.gR j a true = bdR (refsS j) fun q => Xb.pr (a :: q) := by
          funext s
          unfold Xb.gR
          have hc : ¬ (a = 0 ∨ (true = true ∧ j = 0)) := by omega
          rw [if_neg hc]; rfl
        rw [e]; exact this
    have h := Cod.bd (g := fun a => bdR Xb.tS fun m => Xb.gR j a m) (Cod.gN (w := 7) (v := a) (by omega) (by omega)) (Cod.bd (Cod.tS (!l.isEmpty)) hG fun m => .gR j a m) (fun a => .bd .tS fun m => .gR j a m)
    exact ⟨fun rest => h.full rest, fun R T hR hT => h.cut R T hR hT⟩
theorem Pst.refs : ∀ j, Pst (refsS j) (fun l => l.length ≤ j ∧ (0 < j → 1 ≤ l.length) ∧ ∀ n, n ∈ l → 1 ≤ n ∧ n ≤ 127) 0
  | 0 => fun R a rest hb e => by cases e; exact ⟨⟨by simp, by simp, fun _ h => absurd h List.not_mem_nil⟩, hb, Nat.le_refl _⟩
  | j + 1 => by
    have hG : ∀ a m, 0 ≤ a ∧ a < 2 ^ 7 → Pst (Xb.gR j a m) (fun l => l.length ≤ j + 1 ∧ (0 < j + 1 → 1 ≤ l.length) ∧ ∀ n, n ∈ l → 1 ≤ n ∧ n ≤ 127) 0 := by
      intro a m ha R l rest hb e
      unfold Xb.gR at e
      by_cases hc : a = 0 ∨ (m = true ∧ j = 0)
      · rw [if_pos hc] at e
        exfalso
        cases m with
        | true =>
          simp only [if_true, badS] at e
          have := ErrP.refs j 6
          have e2 := congrArg Prod.snd e
          simp only at e2
          rw [this] at e2; cases e2
        | false => simp [badS] at e
      · rw [if_neg hc] at e
        cases m with
        | true =>
          simp only [if_true] at e
          have e1 := congrArg Prod.fst e
          have e2 := congrArg Prod.snd e
          simp only at e1 e2
          obtain ⟨⟨q1, q2, q3⟩, q4, q5⟩ := Pst.refs j R (refsS j (.ok R)).1 rest hb (by rw [← e2])
          subst e1
          refine ⟨⟨by simp; omega, fun _ => by simp, fun n hn => ?_⟩, q4, q5⟩
          rcases List.mem_cons.1 hn with rfl | hn
          · omega
          · exact q3 n hn
        | false =>
          simp only [Bool.false_eq_true, if_false, Prod.mk.injEq, Except.ok.injEq] at e
          obtain ⟨rfl, rfl⟩ := e
          exact ⟨⟨by simp, fun _ => by simp, fun n hn => by simp at hn; omega⟩, hb, Nat.le_refl _⟩
    have h := Pst.bd (g := fun a => bdR Xb.tS fun m => Xb.gR j a m) (Pst.gN 7) (fun a ha => Pst.bd Pst.tS (fun m _ => hG a m ha) fun m => .gR j a m) (fun a => .bd .tS fun m => .gR j a m)
    exact fun R a rest hb e => (h.le (Nat.zero_le _) fun _ h => h) R a rest hb e

theorem Pst.zero {α : Type} {f : RD α} {P : α → Prop} {n : Nat} (h : Pst f P n) : Pst f P 0 := h.le (Nat.zero_le _) fun _ h => h
theorem Pst.size : Pst sizeS RightZ 0 :=
  Pst.zero (Pst.bd (n := 16 + 0) (Pst.gN 16) (fun a ha => Pst.bd (Pst.gN 16) (fun b hb => Pst.pr ⟨⟨ha.1, by have := ha.2; show a ≤ 65535; omega⟩, hb.1, by have := hb.2; show b ≤ 65535; omega⟩) fun _ => .pr _) fun _ => .bd (.gN _) fun _ => .pr _)
theorem Pst.pic : Pst picS RightG 0 := by
  refine Pst.zero (Pst.bd (n := 0) (Pst.gN 3) (fun a ha => Pst.zero (Pst.bd (n := 0) Pst.tS (fun u _ => Pst.zero (Pst.bd (n := 0) (Pst.gN 2) (fun m hm => Pst.zero (Pst.bd (n := 0) (Pst.gN 2) (fun _ _ =>
    Pst.zero (Pst.bd (n := 0) (Pst.gone (.gN 8) (Pst.gN 8).zero m.toNat) (fun l hl => Pst.pr ⟨⟨ha.1, ?_⟩, ?_, fun n hn => ?_⟩) ?_)) ?_)) ?_)) ?_)) ?_)
  · have := ha.2; show a ≤ 7; omega
  · have := hl.1; have := hm.2; show l.length ≤ 3; omega
  · have := hl.2 n hn; omega
  · exact fun _ => .pr _
  · exact fun _ => .bd (.gone _ _) fun _ => .pr _
  · exact fun _ => .bd (.gN _) fun _ => .bd (.gone _ _) fun _ => .pr _
  · exact fun _ => .bd (.gN _) fun _ => .bd (.gN _) fun _ => .bd (.gone _ _) fun _ => .pr _
  · exact fun _ => .bd .tS fun _ => .bd (.gN _) fun _ => .bd (.gN _) fun _ => .bd (.gone _ _) fun _ => .pr _
theorem Pst.scale : Pst scaleS RightS 0 := by
  refine Pst.zero (Pst.bd (n := 0) (Pst.gN 3) (fun a ha => Pst.zero (Pst.bd (n := 0) Pst.tS (fun hs _ => Pst.zero (Pst.bd (n := 0) Pst.tS (fun hp _ => Pst.zero (Pst.bd (n := 0) (Pst.gN 3) (fun _ _ =>
    Pst.zero (Pst.bd (n := 0) (P := fun sz => (sz.length : Int) = (if hs then a + 1 else 0) ∧ ∀ x, x ∈ sz → RightZ x) (Pst.opt (fun h => ?_) (fun h => ?_)) (fun sz hsz =>
      Pst.zero (Pst.bd (n := 0) (P := fun pc => (pc.length : Int) ≤ (if hp then 255 else 0) ∧ ∀ x, x ∈ pc → RightG x) (Pst.opt (fun h => ?_) (fun h => ?_)) (fun pc hpc => Pst.pr ⟨⟨?_, ?_⟩, hsz.1, hpc.1, hsz.2, hpc.2⟩) ?_)) ?_)) ?_)) ?_)) ?_)) ?_)
  · have := Pst.gone .size Pst.size (a + 1).toNat
    exact this.le (Nat.zero_le _) fun l hl => ⟨by rw [if_pos h, hl.1]; omega, hl.2⟩
  · exact ⟨by rw [h]; rfl, fun _ h => absurd h List.not_mem_nil⟩
  · refine Pst.zero (Pst.bd (n := 0) (Pst.gN 8) (fun m hm => ?_) fun _ => .gone _ _)
    have := Pst.gone .pic Pst.pic m.toNat
    exact this.le (Nat.zero_le _) fun l hl => ⟨by have := hm.2; rw [if_pos h, hl.1]; omega, hl.2⟩
  · exact ⟨by rw [h]; decide, fun _ h => absurd h List.not_mem_nil⟩
  · show 1 ≤ a + 1; omega
  · have := ha.2; show a + 1 ≤ 8; omega
  · exact fun _ => .pr _
  · exact fun _ => .bd (.opt (.bd (.gN _) fun _ => .gone _ _)) fun _ => .pr _
  · exact fun _ => .bd (.opt (.gone _ _)) fun _ => .bd (.opt (.bd (.gN _) fun _ => .gone _ _)) fun _ => .pr _
  · exact fun _ => .bd (.gN _) fun _ => .bd (.opt (.gone _ _)) fun _ => .bd (.opt (.bd (.gN _) fun _ => .gone _ _)) fun _ => .pr _
  · exact fun _ => .bd .tS fun _ => .bd (.gN _) fun _ => .bd (.opt (.gone _ _)) fun _ => .bd (.opt (.bd (.gN _) fun _ => .gone _ _)) fun _ => .pr _
  · exact fun _ => .bd .tS fun _ => .bd .tS fun _ => .bd (.gN _) fun _ => .bd (.opt (.gone _ _)) fun _ => .bd (.opt (.bd (.gN _) fun _ => .gone _ _)) fun _ => .pr _
def HdP (h1 : Bool) (p : Bool × Int) : Prop := (0 ≤ p.2 ∧ p.2 ≤ if h1 then (if p.1 then 32767 else 127) else 0) ∧ (h1 = true ∨ p.1 = false)
theorem Pst.hd {h1 : Bool} : Pst (Xb.opt h1 hdS (false, 0)) (HdP h1) 0 := by
  refine Pst.opt (fun h => ?_) (fun h => ?_)
  · subst h
    refine Pst.zero (Pst.bd (n := 0) Pst.tS (fun w _ => Pst.zero (Pst.bd (n := 0) (Pst.gN _) (fun p hp => Pst.pr ⟨⟨hp.1, ?_⟩, .inl rfl⟩) fun _ => .pr _)) fun _ => .bd (.gN _) fun _ => .pr _)
    have := hp.2
    cases w
    · simp at this ⊢; omega
    · simp at this ⊢; omega
  · subst h; exact ⟨⟨by decide, by decide⟩, .inr rfl⟩
def LayP (h3 h4 : Bool) (y : Int × Bool × Int × Bool × Int) : Prop := if h3 then (0 ≤ y.1 ∧ y.1 ≤ 7) ∧ (0 ≤ y.2.2.1 ∧ y.2.2.1 ≤ 7) ∧ (0 ≤ y.2.2.2.2 ∧ y.2.2.2.2 ≤ 255) ∧ (h4 = false ∨ y.2.2.2.2 = 0)
  else y.1 = 0 ∧ y.2.2.1 = 0 ∧ y.2.1 = false ∧ y.2.2.2.1 = false ∧ y.2.2.2.2 = 0
theorem Pst.lay {h3 h4 : Bool} : Pst (Xb.opt h3 (layS h4) (0, false, 0, false, 0)) (LayP h3 h4) 0 := by
  refine Pst.opt (fun h => ?_) (fun h => ?_)
  · subst h
    refine Pst.zero (Pst.bd (n := 0) (Pst.gN 3) (fun a ha => Pst.zero (Pst.bd (n := 0) Pst.tS (fun u _ => Pst.zero (Pst.bd (n := 0) (Pst.gN 3) (fun s hs => Pst.zero (Pst.bd (n := 0) Pst.tS (fun d _ =>
      Pst.zero (Pst.bd (n := 0) (P := fun l => (0 ≤ l ∧ l ≤ 255) ∧ (h4 = false ∨ l = 0)) (Pst.opt (fun h => (Pst.gN 8).le (Nat.zero_le _) fun l hl => ⟨⟨hl.1, by have := hl.2; omega⟩, .inl (by simpa using h)⟩) (fun h => ⟨⟨by decide, by decide⟩, .inr rfl⟩)) (fun l hl =>
        Pst.pr ⟨⟨ha.1, ?_⟩, ⟨hs.1, ?_⟩, hl.1, hl.2⟩) ?_)) ?_)) ?_)) ?_)) ?_)
    · have := ha.2; show a ≤ 7; omega
    · have := hs.2; show s ≤ 7; omega
    · exact fun _ => .pr _
    · exact fun _ => .bd (.opt (.gN _)) fun _ => .pr _
    · exact fun _ => .bd .tS fun _ => .bd (.opt (.gN _)) fun _ => .pr _
    · exact fun _ => .bd (.gN _) fun _ => .bd .tS fun _ => .bd (.opt (.gN _)) fun _ => .pr _
    · exact fun _ => .bd .tS fun _ => .bd (.gN _) fun _ => .bd .tS fun _ => .bd (.opt (.gN _)) fun _ => .pr _
  · subst h; exact ⟨rfl, rfl, rfl, rfl, rfl⟩
theorem Pst.tail {h1 h2 h3 h4 h5 h6 h7 h8 : Bool} {p : Bool × Int} {y : Int × Bool × Int × Bool × Int} (hp : HdP h1 p) (hy : LayP h3 h4 y) : Pst (tailS h1 h2 h3 h4 h5 h6 h7 h8 p y) RightD 0 := by
  refine Pst.zero (Pst.bd (n := 0) (P := fun r : List Int => if h4 && h2 then (1 ≤ r.length ∧ r.length ≤ 3) ∧ ∀ n, n ∈ r → 1 ≤ n ∧ n ≤ 127 else r = []) (Pst.opt (fun h => ?_) (fun h => by rw [h]; rfl)) (fun r hr =>
    Pst.zero (Pst.bd (n := 0) (P := fun c : Scale => if h7 then RightS c else c = zSc) (Pst.opt (fun h => Pst.scale.le (Nat.zero_le _) fun c hc => by rw [if_pos h]; exact hc) (fun h => by rw [h]; rfl)) (fun c hc => Pst.pr ⟨hp.1, hp.2, hy, hr, hc⟩) fun _ => .pr _)) fun _ => .bd (.opt .scale) fun _ => .pr _)
  exact (Pst.refs 3).le (Nat.zero_le _) fun r hr => by rw [if_pos h]; exact ⟨⟨hr.2.1 (by decide), hr.1⟩, hr.2.2⟩
theorem Pst.thr : Pst thrS RightD 8 := by
  refine Pst.bd (n := 7) Pst.tS (fun h1 _ => Pst.bd (n := 6) Pst.tS (fun h2 _ => Pst.bd (n := 5) Pst.tS (fun h3 _ => Pst.bd (n := 4) Pst.tS (fun h4 _ => Pst.bd (n := 3) Pst.tS (fun h5 _ => Pst.bd (n := 2) Pst.tS (fun h6 _ => Pst.bd (n := 1) Pst.tS (fun h7 _ => Pst.bd (n := 0) Pst.tS (fun h8 _ =>
    Pst.bd (n := 0) Pst.hd (fun p hp => Pst.bd (n := 0) Pst.lay (fun y hy => Pst.tail hp hy) ?_) ?_) ?_) ?_) ?_) ?_) ?_) ?_) ?_) ?_
  · exact fun _ => .tail
  · exact fun _ => .bd (.opt (.lay _)) fun _ => .tail
  · exact fun _ => .bd (.opt .hd) fun _ => .bd (.opt (.lay _)) fun _ => .tail
  · exact fun _ => .bd .tS fun _ => .bd (.opt .hd) fun _ => .bd (.opt (.lay _)) fun _ => .tail
  · exact fun _ => .bd .tS fun _ => .bd .tS fun _ => .bd (.opt .hd) fun _ => .bd (.opt (.lay _)) fun _ => .tail
  · exact fun _ => .bd .tS fun _ => .bd .tS fun _ => .bd .tS fun _ => .bd (.opt .hd) fun _ => .bd (.opt (.lay _)) fun _ => .tail
  · exact fun _ => .bd .tS fun _ => .bd .tS fun _ => .bd .tS fun _ => .bd .tS fun _ => .bd (.opt .hd) fun _ => .bd (.opt (.lay _)) fun _ => .tail
  · exact fun _ => .bd .tS fun _ => .bd .tS fun _ => .bd .tS fun _ => .bd .tS fun _ => .bd .tS fun _ => .bd (.opt .hd) fun _ => .bd (.opt (.lay _)) fun _ => .tail
  · exact fun _ => .bd .tS fun _ => .bd .tS fun _ => .bd .tS fun _ => .bd .tS fun _ => .bd .tS fun _ => .bd .tS fun _ => .bd (.opt .hd) fun _ => .bd (.opt (.lay _)) fun _ => .tail
  · exact fun _ => .bd .tS fun _ => .bd .tS fun _ => .bd .tS fun _ => .bd .tS fun _ => .bd .tS fun _ => .bd .tS fun _ => .bd .tS fun _ => .bd (.opt .hd) fun _ => .bd (.opt (.lay _)) fun _ => .tail

/-! what is right comes back -/
theorem Cod.hd {d : Vp9} (h0 : 0 ≤ d.pic ∧ d.pic ≤ mostP d) (h1 : d.hasPic = true ∨ d.wide = false) : Cod (Xb.opt d.hasPic hdS (false, 0)) (optW d.hasPic (hdW d)) (d.wide, d.pic) := by
  refine Cod.opt (fun h => ?_) (fun h => ?_)
  · refine Cod.bd (Cod.tS d.wide) (nilR (Cod.bd (Cod.gN h0.1 ?_) (.pr _) fun _ => .pr _)) fun _ => .bd (.gN _) fun _ => .pr _
    have := h0.2
    unfold mostP at this
    rw [h] at this
    cases hw : d.wide <;> rw [hw] at this <;> simp at this ⊢ <;> omega
  · unfold mostP at h0
    rw [h] at h0 h1
    simp at h0 h1
    rw [h1]
    have : d.pic = 0 := by omega
    rw [this]
theorem Cod.lay {d : Vp9} (h : LayD d) : Cod (Xb.opt d.hasLayer (layS d.flexible) (0, false, 0, false, 0)) (optW d.hasLayer (layW d)) (d.tid, d.up, d.sid, d.depends, d.level) := by
  unfold LayD at h
  refine Cod.opt (fun hh => ?_) (fun hh => ?_)
  · rw [if_pos hh] at h
    obtain ⟨a, b, c, e⟩ := h
    refine Cod.bd (Cod.gN a.1 (by omega)) (Cod.bd (Cod.tS _) (Cod.bd (Cod.gN b.1 (by omega)) (Cod.bd (Cod.tS _) (nilR (Cod.bd (a := d.level) (Cod.opt (fun q => Cod.gN c.1 (by omega)) (fun q => ?_)) (.pr _) ?_)) ?_) ?_) ?_) ?_
    · rcases e with e | e
      · rw [e] at q; cases q
      · exact e
    · exact fun _ => .pr _
    · exact fun _ => .bd (.opt (.gN _)) fun _ => .pr _
    · exact fun _ => .bd .tS fun _ => .bd (.opt (.gN _)) fun _ => .pr _
    · exact fun _ => .bd (.gN _) fun _ => .bd .tS fun _ => .bd (.opt (.gN _)) fun _ => .pr _
    · exact fun _ => .bd .tS fun _ => .bd (.gN _) fun _ => .bd .tS fun _ => .bd (.opt (.gN _)) fun _ => .pr _
  · rw [if_neg (by rw [hh]; decide)] at h
    obtain ⟨a, b, c, e, f⟩ := h
    rw [a, b, c, e, f]
theorem Cod.tail {d : Vp9} (hr : RefD d) (hs : ScD d) : Cod (tailS d.hasPic d.inter d.hasLayer d.flexible d.begin d.end_ d.hasScale d.notRef (d.wide, d.pic) (d.tid, d.up, d.sid, d.depends, d.level)) (tailW d) d := by
  unfold RefD at hr
  unfold ScD at hs
  refine Cod.bd (a := d.refs) (Cod.opt (fun h => ?_) (fun h => ?_)) (nilR (Cod.bd (a := d.scale) (Cod.opt (fun h => ?_) (fun h => ?_)) (.pr d) fun _ => .pr _)) fun _ => .bd (.opt .scale) fun _ => .pr _
  · rw [if_pos h] at hr
    exact Cod.refs (fun e => by rw [e] at hr; simp at hr) hr.1.2 hr.2
  · rw [if_neg (by rw [h]; decide)] at hr; exact hr
  · rw [if_pos h] at hs; exact Cod.scale hs
  · rw [if_neg (by rw [h]; decide)] at hs; exact hs
theorem Cod.thr {d : Vp9} (h : RightD d) : Cod thrS (thrW d) d := by
  obtain ⟨a, b, c, e, f⟩ := h
  refine Cod.bd (Cod.tS _) (Cod.bd (Cod.tS _) (Cod.bd (Cod.tS _) (Cod.bd (Cod.tS _) (Cod.bd (Cod.tS _) (Cod.bd (Cod.tS _) (Cod.bd (Cod.tS _) (Cod.bd (Cod.tS _)
    (Cod.bd (Cod.hd a b) (Cod.bd (Cod.lay c) (Cod.tail e f) ?_) ?_) ?_) ?_) ?_) ?_) ?_) ?_) ?_) ?_
  · exact fun _ => .tail
  · exact fun _ => .bd (.opt (.lay _)) fun _ => .tail
  · exact fun _ => .bd (.opt .hd) fun _ => .bd (.opt (.lay _)) fun _ => .tail
  · exact fun _ => .bd .tS fun _ => .bd (.opt .hd) fun _ => .bd (.opt (.lay _)) fun _ => .tail
  · exact fun _ => .bd .tS fun _ => .bd .tS fun _ => .bd (.opt .hd) fun _ => .bd (.opt (.lay _)) fun _ => .tail
  · exact fun _ => .bd .tS fun _ => .bd .tS fun _ => .bd .tS fun _ => .bd (.opt .hd) fun _ => .bd (.opt (.lay _)) fun _ => .tail
  · exact fun _ => .bd .tS fun _ => .bd .tS fun _ => .bd .tS fun _ => .bd .tS fun _ => .bd (.opt .hd) fun _ => .bd (.opt (.lay _)) fun _ => .tail
  · exact fun _ => .bd .tS fun _ => .bd .tS fun _ => .bd .tS fun _ => .bd .tS fun _ => .bd .tS fun _ => .bd (.opt .hd) fun _ => .bd (.opt (.lay _)) fun _ => .tail
  · exact fun _ => .bd .tS fun _ => .bd .tS fun _ => .bd .tS fun _ => .bd .tS fun _ => .bd .tS fun _ => .bd .tS fun _ => .bd (.opt .hd) fun _ => .bd (.opt (.lay _)) fun _ => .tail
  · exact fun _ => .bd .tS fun _ => .bd .tS fun _ => .bd .tS fun _ => .bd .tS fun _ => .bd .tS fun _ => .bd .tS fun _ => .bd .tS fun _ => .bd (.opt .hd) fun _ => .bd (.opt (.lay _)) fun _ => .tail
theorem scaleW_len (s : Scale) : (scaleW s).length % 8 = 0 := by
  have hs : ∀ x, (sizeW x).length = 32 := fun x => by simp [sizeW, nb_len]
  have hp : ∀ g, (picW g).length % 8 = 0 := fun g => by
    have : (g.refs.flatMap (nb 8)).length = 8 * g.refs.length := by
      induction g.refs with
      | nil => rfl
      | cons a l ih => rw [List.flatMap_cons, List.length_append, ih, nb_len, List.length_cons]; omega
    simp only [picW, wb, List.length_append, nb_len, this]; omega
  have h1 : (s.sizes.flatMap sizeW).length % 8 = 0 := by
    induction s.sizes with
    | nil => rfl
    | cons a l ih => rw [List.flatMap_cons, List.length_append, hs]; omega
  have h2 : (s.pics.flatMap picW).length % 8 = 0 := by
    induction s.pics with
    | nil => rfl
    | cons a l ih => rw [List.flatMap_cons, List.length_append]; have := hp a; omega
  have ho : ∀ b (l : List Int), l.length % 8 = 0 → (optW b l).length % 8 = 0 := fun b l h => by cases b <;> simp [optW, h]
  have o1 := ho s.hasSizes _ h1
  have o2 := ho s.hasPics (nb 8 s.pics.length ++ s.pics.flatMap picW) (by rw [List.length_append, nb_len]; omega)
  simp only [scaleW, wb, List.length_append, nb_len] at o2 ⊢; omega
theorem thrW_len (d : Vp9) : (thrW d).length % 8 = 0 ∧ 8 ≤ (thrW d).length := by
  have ho : ∀ b (l : List Int), l.length % 8 = 0 → (optW b l).length % 8 = 0 := fun b l h => by cases b <;> simp [optW, h]
  have h1 := ho d.hasPic (hdW d) (by cases hw : d.wide <;> simp [hdW, wb, nb_len, hw])
  have h2 := ho d.hasLayer (layW d) (by
    have : (optW (!d.flexible) (nb 8 d.level)).length % 8 = 0 := ho _ _ (by rw [nb_len])
    simp only [layW, wb, List.length_append, nb_len]; omega)
  have h3 := ho d.hasScale _ (scaleW_len d.scale)
  have hr : ∀ l : List Int, (refsW l).length % 8 = 0 := fun l => by
    induction l with
    | nil => rfl
    | cons a l ih => simp only [refsW, wb, List.length_append, nb_len]; omega
  have h4 := ho (d.flexible && d.inter) _ (hr d.refs)
  simp only [thrW, tailW, wb, List.length_append, nb_len] at h1 h2 h3 h4 ⊢; omega
end Xb

namespace Xb
open Go

def ImpR {α : Type} (B : List Int) (m : vp9_reader → Option (α × vp9_reader)) (f : RD α) : Prop :=
  ∀ c s, Rep B c s → ∃ c', m ⟨c⟩ = some ((f s).1, ⟨c'⟩) ∧ Rep B c' (f s).2
theorem Rep.bin {B : List Int} {c : GBits} {s : RS} (h : Rep B c s) : ∀ R, s = .ok R → bin R := fun R e => by
  subst e
  obtain ⟨_, _, _, _, h5⟩ := h
  rw [h5]; exact (bitsOf_bin B).drop _
theorem num_imp {B : List Int} (hB : By B) {w : Nat} {wi : Int} (hw : wi = w) (h : w ≤ 62) (p : Int) : ImpR B (fun x => vp9_reader_num_y1 none p wi x) (gN w) := by
  intro c s hr
  subst hw
  obtain ⟨c', h1, h2⟩ := get_rep hB hr (w := w) (by omega)
  have hb := gN_bd (w := w) hr.bin
  have hp := pow_le64 (n := w + 1) (by omega)
  have e : (2 : Int) ^ (w + 1) = 2 ^ w * 2 := Int.pow_succ _ _
  refine ⟨c', ?_, h2⟩
  show vp9_reader_num_y1 none p (w : Int) ⟨c⟩ = _
  unfold vp9_reader_num_y1
  rw [bnd h1]
  simp only
  rw [w_i64 (by omega) (by omega)]
theorem truth_imp {B : List Int} (hB : By B) (b : Bool) : ImpR B (fun x => vp9_truth_y2 none b x) tS := by
  intro c s hr
  show ∃ c', vp9_truth_y2 none b ⟨c⟩ = _ ∧ _
  unfold vp9_truth_y2 vp9_truth_y2_j1
  cases b with
  | true =>
    obtain ⟨c', h1, h2⟩ := num_imp hB (w := 1) (wi := 1) rfl (by decide) 1 c s hr
    exact ⟨c', by rw [if_pos rfl, bnd h1, cm_eql]; rfl, h2⟩
  | false =>
    obtain ⟨c', h1, h2⟩ := num_imp hB (w := 1) (wi := 1) rfl (by decide) 0 c s hr
    exact ⟨c', by rw [if_neg (by decide), bnd h1, cm_eql]; rfl, h2⟩

theorem gone_loop {α : Type} {B : List Int} {f : RD α} {many : Int} {step : List α × Int × vp9_reader → Option ((List α × Int × vp9_reader) ⊕ (List α × vp9_reader))}
    (h1 : ∀ out i c, many ≤ i → step (out, i, ⟨c⟩) = some (.inr (out, ⟨c⟩)))
    (h2 : ∀ out i c e, i < many → Rep B c (.error e) → step (out, i, ⟨c⟩) = some (.inr (out, ⟨c⟩)))
    (h3 : ∀ out (i : Int) c R, 0 ≤ i → i < many → i ≤ 1000 → out.length ≤ 1000 → Rep B c (.ok R) → ∃ c', step (out, i, ⟨c⟩) = some (.inl (out ++ [(f (.ok R)).1], i + 1, ⟨c'⟩)) ∧ Rep B c' (f (.ok R)).2) :
    ∀ (n : Nat) (out : List α) (i : Int) c s, 0 ≤ i → i + n = many → i ≤ 1000 → out.length + n ≤ 1000 → i + n ≤ 1000 → Rep B c s →
      ∃ c', loopG none step (out, i, ⟨c⟩) = some (out ++ (goneS f n s).1, ⟨c'⟩) ∧ Rep B c' (goneS f n s).2
  | 0, out, i, c, s, h0, hm, _, _, _, hr => ⟨c, by rw [loop_inr (h1 out i c (by omega))]; simp [goneS], hr⟩
  | n + 1, out, i, c, .error e, h0, hm, _, _, _, hr => ⟨c, by rw [loop_inr (h2 out i c e (by omega) hr)]; simp [goneS], hr⟩
  | n + 1, out, i, c, .ok R, h0, hm, hi, ho, hin, hr => by
    obtain ⟨c', q1, q2⟩ := h3 out i c R h0 (by omega) hi (by omega) hr
    rw [loop_inl q1]
    obtain ⟨c2, r1, r2⟩ := gone_loop h1 h2 h3 n (out ++ [(f (.ok R)).1]) (i + 1) c' _ (by omega) (by omega) (by omega) (by simp; omega) (by omega) q2
    exact ⟨c2, by rw [r1]; simp [goneS], r2⟩

theorem failed_err {B : List Int} {c : GBits} {e : Int} (h : Rep B c (.error e)) : vp9_reader_failed_y1 none ⟨c⟩ = some (true, ⟨c⟩) := by
  obtain ⟨_, h1, h2⟩ := h
  unfold vp9_reader_failed_y1
  rw [cm_neq]; simp [h1, h2]
theorem failed_ok {B : List Int} {c : GBits} {R : List Int} (h : Rep B c (.ok R)) : vp9_reader_failed_y1 none ⟨c⟩ = some (false, ⟨c⟩) := by
  have := h.at_ok.2
  unfold vp9_reader_failed_y1
  rw [cm_neq]; simp [this]

theorem goneInt_imp {B : List Int} (hB : By B) {many : Int} (hm : 0 ≤ many ∧ many ≤ 900) : ImpR B (fun x => vp9_gone_int_y2 none [] many x) (goneS (gN 8) many.toNat) := by
  intro c s hr
  show ∃ c', vp9_gone_int_y2 none [] many ⟨c⟩ = _ ∧ _
  unfold vp9_gone_int_y2 vp9_gone_int_y2_l1
  have := gone_loop (B := B) (f := gN 8) (many := many) (step := fun (s : List Int × Int × vp9_reader) => vp9_gone_int_y2_s1 none [] many s.1 s.2.1 s.2.2)
    (fun out i c h => by
      show vp9_gone_int_y2_s1 none [] many out i ⟨c⟩ = _
      unfold vp9_gone_int_y2_s1
      rw [if_neg (by rw [cm_lss]; simp; omega)]; rfl)
    (fun out i c e h hr => by
      show vp9_gone_int_y2_s1 none [] many out i ⟨c⟩ = _
      unfold vp9_gone_int_y2_s1
      rw [if_pos (by rw [cm_lss]; simpa using h), bnd (failed_err hr), if_neg (by simp)]; rfl)
    (fun out i c R h0 h h1 ho hr => by
      obtain ⟨c', q1, q2⟩ := num_imp hB (w := 8) (wi := 8) rfl (by decide) 0 c _ hr
      refine ⟨c', ?_, q2⟩
      show vp9_gone_int_y2_s1 none [] many out i ⟨c⟩ = _
      unfold vp9_gone_int_y2_s1
      rw [if_pos (by rw [cm_lss]; simpa using h), bnd (failed_ok hr), if_pos (by rfl), if_neg (by rw [cm_lss]; simp; omega)]
      unfold vp9_gone_int_y2_j2 vp9_picture_1_y2
      rw [bnd (show Option.bind (vp9_reader_num_y1 none 0 8 ⟨c⟩) _ = some ((gN 8 (.ok R)).1, ⟨c'⟩) by rw [bnd q1]), bnd (app_some (by simp; omega)), ar_add, w_i64 (by omega) (by omega)])
    many.toNat [] 0 c s (by omega) (by omega) (by omega) (by simp; omega) (by omega) hr
  obtain ⟨c', r1, r2⟩ := this
  exact ⟨c', by simpa using r1, r2⟩

theorem size_imp {B : List Int} (hB : By B) (x : Size) : ImpR B (fun y => vp9_scale_1_y2 none x y) sizeS := by
  intro c s hr
  show ∃ c', vp9_scale_1_y2 none x ⟨c⟩ = _ ∧ _
  unfold vp9_scale_1_y2
  obtain ⟨c1, a1, b1⟩ := num_imp hB (w := 16) (wi := 16) rfl (by decide) x.wide c s hr
  obtain ⟨c2, a2, b2⟩ := num_imp hB (w := 16) (wi := 16) rfl (by decide) x.high c1 _ b1
  exact ⟨c2, by rw [bnd a1, bnd a2]; rfl, b2⟩
theorem goneSize_imp {B : List Int} (hB : By B) {many : Int} (hm : 0 ≤ many ∧ many ≤ 900) : ImpR B (fun x => vp9_gone_Size_y2 none [] many x) (goneS sizeS many.toNat) := by
  intro c s hr
  show ∃ c', vp9_gone_Size_y2 none [] many ⟨c⟩ = _ ∧ _
  unfold vp9_gone_Size_y2 vp9_gone_Size_y2_l1
  have := gone_loop (B := B) (f := sizeS) (many := many) (step := fun (s : List Size × Int × vp9_reader) => vp9_gone_Size_y2_s1 none [] many s.1 s.2.1 s.2.2)
    (fun out i c h => by
      show vp9_gone_Size_y2_s1 none [] many out i ⟨c⟩ = _
      unfold vp9_gone_Size_y2_s1
      rw [if_neg (by rw [cm_lss]; simp; omega)]; rfl)
    (fun out i c e h hr => by
      show vp9_gone_Size_y2_s1 none [] many out i ⟨c⟩ = _
      unfold vp9_gone_Size_y2_s1
      rw [if_pos (by rw [cm_lss]; simpa using h), bnd (failed_err hr), if_neg (by simp)]; rfl)
    (fun out i c R h0 h h1 ho hr => by
      obtain ⟨c', q1, q2⟩ := size_imp hB ⟨0, 0⟩ c _ hr
      refine ⟨c', ?_, q2⟩
      show vp9_gone_Size_y2_s1 none [] many out i ⟨c⟩ = _
      unfold vp9_gone_Size_y2_s1
      rw [if_pos (by rw [cm_lss]; simpa using h), bnd (failed_ok hr), if_pos (by rfl), if_neg (by rw [cm_lss]; simp; omega)]
      unfold vp9_gone_Size_y2_j2
      rw [bnd q1, bnd (app_some (by simp; omega)), ar_add, w_i64 (by omega) (by omega)])
    many.toNat [] 0 c s (by omega) (by omega) (by omega) (by simp; omega) (by omega) hr
  obtain ⟨c', r1, r2⟩ := this
  exact ⟨c', by simpa using r1, r2⟩
theorem pic_imp {B : List Int} (hB : By B) : ImpR B (fun y => vp9_picture_y2 none ⟨0, false, []⟩ y) picS := by
  intro c s hr
  show ∃ c', vp9_picture_y2 none ⟨0, false, []⟩ ⟨c⟩ = _ ∧ _
  unfold vp9_picture_y2
  obtain ⟨c1, a1, b1⟩ := num_imp hB (w := 3) (wi := 3) rfl (by decide) 0 c s hr
  obtain ⟨c2, a2, b2⟩ := truth_imp hB false c1 _ b1
  obtain ⟨c3, a3, b3⟩ := num_imp hB (w := 2) (wi := 2) rfl (by decide) (([] : List Int).length : Int) c2 _ b2
  obtain ⟨c4, a4, b4⟩ := num_imp hB (w := 2) (wi := 2) rfl (by decide) 0 c3 _ b3
  have hbd := gN_bd (w := 2) b2.bin
  obtain ⟨c5, a5, b5⟩ := goneInt_imp hB (many := (gN 2 (tS (gN 3 s).2).2).1) (by omega) c4 _ b4
  exact ⟨c5, by rw [bnd a1, bnd a2, bnd a3, bnd a4, bnd a5]; rfl, b5⟩
theorem gonePic_imp {B : List Int} (hB : By B) {many : Int} (hm : 0 ≤ many ∧ many ≤ 900) : ImpR B (fun x => vp9_gone_Group_y2 none [] many x) (goneS picS many.toNat) := by
  intro c s hr
  show ∃ c', vp9_gone_Group_y2 none [] many ⟨c⟩ = _ ∧ _
  unfold vp9_gone_Group_y2 vp9_gone_Group_y2_l1
  have := gone_loop (B := B) (f := picS) (many := many) (step := fun (s : List Group × Int × vp9_reader) => vp9_gone_Group_y2_s1 none [] many s.1 s.2.1 s.2.2)
    (fun out i c h => by
      show vp9_gone_Group_y2_s1 none [] many out i ⟨c⟩ = _
      unfold vp9_gone_Group_y2_s1
      rw [if_neg (by rw [cm_lss]; simp; omega)]; rfl)
    (fun out i c e h hr => by
      show vp9_gone_Group_y2_s1 none [] many out i ⟨c⟩ = _
      unfold vp9_gone_Group_y2_s1
      rw [if_pos (by rw [cm_lss]; simpa using h), bnd (failed_err hr), if_neg (by simp)]; rfl)
    (fun out i c R h0 h h1 ho hr => by
      obtain ⟨c', q1, q2⟩ := pic_imp hB c _ hr
      refine ⟨c', ?_, q2⟩
      show vp9_gone_Group_y2_s1 none [] many out i ⟨c⟩ = _
      unfold vp9_gone_Group_y2_s1
      rw [if_pos (by rw [cm_lss]; simpa using h), bnd (failed_ok hr), if_pos (by rfl), if_neg (by rw [cm_lss]; simp; omega)]
      unfold vp9_gone_Group_y2_j2 vp9_scale_2_y2
      rw [bnd (show Option.bind (vp9_picture_y2 none ⟨0, false, []⟩ ⟨c⟩) _ = some ((picS (.ok R)).1, ⟨c'⟩) by rw [bnd q1]), bnd (app_some (by simp; omega)), ar_add, w_i64 (by omega) (by omega)])
    many.toNat [] 0 c s (by omega) (by omega) (by omega) (by simp; omega) (by omega) hr
  obtain ⟨c', r1, r2⟩ := this
  exact ⟨c', by simpa using r1, r2⟩

theorem scale_imp {B : List Int} (hB : By B) : ImpR B (fun y => vp9_scale_y2 none zSc y) scaleS := by
  intro c s hr
  show ∃ c', vp9_scale_y2 none zSc ⟨c⟩ = _ ∧ _
  unfold vp9_scale_y2
  obtain ⟨c1, a1, b1⟩ := num_imp hB (w := 3) (wi := 3) rfl (by decide) (ar .sub .i64 zSc.layers 1) c s hr
  obtain ⟨c2, a2, b2⟩ := truth_imp hB zSc.hasSizes c1 _ b1
  obtain ⟨c3, a3, b3⟩ := truth_imp hB zSc.hasPics c2 _ b2
  obtain ⟨c4, a4, b4⟩ := num_imp hB (w := 3) (wi := 3) rfl (by decide) 0 c3 _ b3
  have hbd := gN_bd (w := 3) hr.bin
  rw [bnd a1, bnd a2, bnd a3, bnd a4]
  simp only
  rw [ar_add, w_i64 (by omega) (by omega)]
  have key : ∀ (sz : List Size) (c5 : GBits) (s5 : RS), Rep B c5 s5 → ∃ c', vp9_scale_y2_j1 none ⟨(gN 3 s).1 + 1, (tS (gN 3 s).2).1, sz, (tS (tS (gN 3 s).2).2).1, []⟩ ⟨c5⟩ =
      some (((bdR (opt (tS (tS (gN 3 s).2).2).1 (bdR (gN 8) fun m => goneS picS m.toNat) []) fun pc => pr (⟨(gN 3 s).1 + 1, (tS (gN 3 s).2).1, sz, (tS (tS (gN 3 s).2).2).1, pc⟩ : Scale)) s5).1, ⟨c'⟩) ∧
      Rep B c' ((bdR (opt (tS (tS (gN 3 s).2).2).1 (bdR (gN 8) fun m => goneS picS m.toNat) []) fun pc => pr (⟨(gN 3 s).1 + 1, (tS (gN 3 s).2).1, sz, (tS (tS (gN 3 s).2).2).1, pc⟩ : Scale)) s5).2 := by
    intro sz c5 s5 hr5
    unfold vp9_scale_y2_j1 vp9_scale_y2_j2
    cases hp : (tS (tS (gN 3 s).2).2).1 with
    | true =>
      obtain ⟨c6, a6, b6⟩ := num_imp hB (w := 8) (wi := 8) rfl (by decide) (([] : List Group).length : Int) c5 s5 hr5
      have hb8 := gN_bd (w := 8) hr5.bin
      obtain ⟨c7, a7, b7⟩ := gonePic_imp hB (many := (gN 8 s5).1) (by omega) c6 _ b6
      exact ⟨c7, by simp only [if_true]; rw [bnd a6]; simp only; rw [bnd a7]; rfl, b7⟩
    | false => exact ⟨c5, rfl, hr5⟩
  cases hh : (tS (gN 3 s).2).1 with
  | true =>
    obtain ⟨c5, a5, b5⟩ := goneSize_imp hB (many := (gN 3 s).1 + 1) (by omega) c4 _ b4
    obtain ⟨c6, a6, b6⟩ := key _ c5 _ b5
    rw [hh] at a6 b6
    refine ⟨c6, ?_, ?_⟩
    · rw [if_pos rfl]
      show Option.bind (vp9_gone_Size_y2 none [] ((gN 3 s).1 + 1) ⟨c4⟩) _ = _
      rw [bnd a5]
      refine a6.trans ?_
      unfold scaleS
      simp only [bdR]
      rw [hh]; rfl
    · unfold scaleS
      simp only [bdR]
      rw [hh]; exact b6
  | false =>
    obtain ⟨c6, a6, b6⟩ := key [] c4 _ b4
    rw [hh] at a6 b6
    refine ⟨c6, ?_, ?_⟩
    · rw [if_neg (by decide)]
      refine a6.trans ?_
      unfold scaleS
      simp only [bdR]
      rw [hh]; rfl
    · unfold scaleS
      simp only [bdR]
      rw [hh]; exact b6

theorem refs_loop {B : List Int} (hB : By B) : ∀ (j : Nat) (out : List Int) (c : GBits) (s : RS), out.length + j = 3 → Rep B c s → (j = 0 → ∃ e, s = .error e) →
    ∃ c', loopG none (fun (s : List Int × Bool × vp9_reader) => vp9_references_y2_s1 none [] s.1 s.2.1 s.2.2) (out, true, ⟨c⟩) = some (out ++ (refsS j s).1, ⟨c'⟩) ∧ Rep B c' (refsS j s).2
  | j, out, c, .error e, _, hr, _ => by
    have st : vp9_references_y2_s1 none [] out true ⟨c⟩ = some (.inr (out, ⟨c⟩)) := by
      unfold vp9_references_y2_s1
      rw [if_pos rfl, bnd (failed_err hr), if_neg (by simp)]; rfl
    have e1 : refsS j (.error e) = ([], .error e) := by cases j <;> rfl
    exact ⟨c, by rw [loop_inr st, e1]; simp, by rw [e1]; exact hr⟩
  | 0, out, c, .ok R, _, hr, h0 => by obtain ⟨e, he⟩ := h0 rfl; cases he
  | j + 1, out, c, .ok R, hj, hr, _ => by
    obtain ⟨c1, a1, b1⟩ := num_imp hB (w := 7) (wi := 7) rfl (by decide) 0 c _ hr
    have hc0 : cm .lss ((out ++ [(gN 7 (.ok R)).1]).length : Int) (([] : List Int).length : Int) = false := by rw [cm_lss]; simp; omega
    obtain ⟨c2, a2, b2⟩ := truth_imp hB (cm .lss ((out ++ [(gN 7 (.ok R)).1]).length : Int) (([] : List Int).length : Int)) c1 _ b1
    have hlen : (out ++ [(gN 7 (.ok R)).1]).length = out.length + 1 := by simp
    have hlast : ix (out ++ [(gN 7 (.ok R)).1]) (ar .sub .i64 ((out ++ [(gN 7 (.ok R)).1]).length : Int) 1) = some (gN 7 (.ok R)).1 := by
      rw [ar_sub, w_i64 (by omega) (by omega), ix_some (n := out.length) (by omega) (by omega)]
      simp
    have hcond : ((cm .eql (gN 7 (.ok R)).1 0) || ((tS (gN 7 (.ok R)).2).1 && (cm .eql ((out ++ [(gN 7 (.ok R)).1]).length : Int) 3))) = decide ((gN 7 (.ok R)).1 = 0 ∨ ((tS (gN 7 (.ok R)).2).1 = true ∧ j = 0)) := by
      rw [cm_eql, cm_eql]
      have : (((out ++ [(gN 7 (.ok R)).1]).length : Int) = 3) ↔ j = 0 := by omega
      rw [Bool.eq_iff_iff]
      simp only [Bool.or_eq_true, Bool.and_eq_true, decide_eq_true_eq]
      rw [this]
    have hbad : ∀ c s, Rep B c s → ∃ c', vp9_reader_bad_y1 none ⟨c⟩ = some ⟨c'⟩ ∧ Rep B c' (badS s) := by
      intro c s hr
      unfold vp9_reader_bad_y1
      cases s with
      | error e =>
        obtain ⟨g1, g2, g3⟩ := hr
        exact ⟨c, by rw [if_neg (by rw [cm_eql]; simp; omega)], g1, g2, g3⟩
      | ok R =>
        obtain ⟨g1, g2, _⟩ := hr
        exact ⟨{ c with err := 6 }, by rw [if_pos (by rw [cm_eql]; simpa using g2)], g1, rfl, by decide⟩
    obtain ⟨c3, st, b3⟩ : ∃ c3, vp9_references_y2_s1 none [] out true ⟨c⟩ = some (.inl (out ++ [(gN 7 (.ok R)).1], (tS (gN 7 (.ok R)).2).1, ⟨c3⟩)) ∧
        Rep B c3 (if (gN 7 (.ok R)).1 = 0 ∨ ((tS (gN 7 (.ok R)).2).1 = true ∧ j = 0) then badS (tS (gN 7 (.ok R)).2).2 else (tS (gN 7 (.ok R)).2).2) := by
      unfold vp9_references_y2_s1
      rw [if_pos rfl, bnd (failed_ok hr), if_pos (by rfl), if_neg (by rw [cm_lss]; simp)]
      unfold vp9_references_y2_j2
      rw [bnd a1, bnd (app_some (by simp; omega))]
      rw [bnd a2, bnd hlast]
      simp only
      rw [hcond]
      by_cases hc : (gN 7 (.ok R)).1 = 0 ∨ ((tS (gN 7 (.ok R)).2).1 = true ∧ j = 0)
      · obtain ⟨c3, a3, b3⟩ := hbad c2 _ b2
        rw [if_pos hc]
        exact ⟨c3, by rw [if_pos (decide_eq_true hc), bnd a3], b3⟩
      · rw [if_neg hc]
        exact ⟨c2, by rw [if_neg (by simpa using hc)], b2⟩
    rw [loop_inl st]
    generalize hS : (if (gN 7 (.ok R)).1 = 0 ∨ ((tS (gN 7 (.ok R)).2).1 = true ∧ j = 0) then badS (tS (gN 7 (.ok R)).2).2 else (tS (gN 7 (.ok R)).2).2) = S at b3
    have hrefs : refsS (j + 1) (.ok R) = if (tS (gN 7 (.ok R)).2).1 then ((gN 7 (.ok R)).1 :: (refsS j S).1, (refsS j S).2) else ([(gN 7 (.ok R)).1], S) := by
      rw [← hS]; rfl
    rw [hrefs]
    cases hm : (tS (gN 7 (.ok R)).2).1 with
    | true =>
      have hz : j = 0 → ∃ e, S = .error e := by
        intro h0
        rw [← hS, if_pos (.inr ⟨hm, h0⟩)]
        cases (tS (gN 7 (.ok R)).2).2 with
        | error e => exact ⟨e, rfl⟩
        | ok _ => exact ⟨6, rfl⟩
      obtain ⟨c4, a4, b4⟩ := refs_loop hB j (out ++ [(gN 7 (.ok R)).1]) c3 S (by simp; omega) b3 hz
      exact ⟨c4, by rw [a4]; simp, b4⟩
    | false =>
      have st2 : vp9_references_y2_s1 none [] (out ++ [(gN 7 (.ok R)).1]) false ⟨c3⟩ = some (.inr (out ++ [(gN 7 (.ok R)).1], ⟨c3⟩)) := by
        unfold vp9_references_y2_s1
        rw [if_neg (by decide)]; rfl
      exact ⟨c3, by rw [loop_inr st2]; rfl, b3⟩
theorem refs_imp {B : List Int} (hB : By B) : ImpR B (fun y => vp9_references_y2 none [] y) (refsS 3) := by
  intro c s hr
  obtain ⟨c', a, b⟩ := refs_loop hB 3 [] c s rfl hr (fun h => by cases h)
  refine ⟨c', ?_, b⟩
  show vp9_references_y2 none [] ⟨c⟩ = _
  unfold vp9_references_y2 vp9_references_y2_l1
  exact a

theorem lay_imp {B : List Int} (hB : By B) (d : Vp9) (c : GBits) (s : RS) (hr : Rep B c s) : ∃ c', vp9_layers_y2 none ⟨c⟩ d = some (⟨c'⟩, { d with tid := (layS d.flexible s).1.1, sid := (layS d.flexible s).1.2.2.1, up := (layS d.flexible s).1.2.1, depends := (layS d.flexible s).1.2.2.2.1, level := if d.flexible then d.level else (layS d.flexible s).1.2.2.2.2 }) ∧ Rep B c' (layS d.flexible s).2 := by
  unfold vp9_layers_y2
  obtain ⟨c1, a1, b1⟩ := num_imp hB (w := 3) (wi := 3) rfl (by decide) d.tid c s hr
  obtain ⟨c2, a2, b2⟩ := truth_imp hB d.up c1 _ b1
  obtain ⟨c3, a3, b3⟩ := num_imp hB (w := 3) (wi := 3) rfl (by decide) d.sid c2 _ b2
  obtain ⟨c4, a4, b4⟩ := truth_imp hB d.depends c3 _ b3
  rw [bnd a1, bnd a2, bnd a3, bnd a4]
  cases hf : d.flexible with
  | true => exact ⟨c4, rfl, b4⟩
  | false =>
    obtain ⟨c5, a5, b5⟩ := num_imp hB (w := 8) (wi := 8) rfl (by decide) d.level c4 _ b4
    exact ⟨c5, by rw [if_pos (by rfl), bnd a5]; rfl, b5⟩
end Xb

namespace Xb
open Go

theorem j3_imp {B : List Int} (hB : By B) {v : Vp9} (hs : v.scale = zSc) (c : GBits) (s : RS) (hr : Rep B c s) :
    ∃ c', vp9_through_y2_j3 none v ⟨c⟩ = some ({ v with scale := (opt v.hasScale scaleS zSc s).1 }, ⟨c'⟩) ∧ Rep B c' (opt v.hasScale scaleS zSc s).2 := by
  unfold vp9_through_y2_j3 vp9_through_y2_j4
  cases h : v.hasScale with
  | true =>
    obtain ⟨c1, a1, b1⟩ := scale_imp hB c s hr
    refine ⟨c1, ?_, b1⟩
    rw [if_pos rfl, hs, bnd a1]; rfl
  | false =>
    refine ⟨c, ?_, hr⟩
    rw [if_neg (by decide)]
    have e : v = { v with hasScale := false, scale := zSc } := by rw [← hs, ← h]
    exact congrArg (fun q => some (q, (⟨c⟩ : vp9_reader))) e
theorem j2_imp {B : List Int} (hB : By B) {v : Vp9} (hs : v.scale = zSc) (hf : v.refs = []) (c : GBits) (s : RS) (hr : Rep B c s) :
    ∃ c', vp9_through_y2_j2 none v ⟨c⟩ = some ({ v with refs := (opt (v.flexible && v.inter) (refsS 3) [] s).1, scale := (opt v.hasScale scaleS zSc (opt (v.flexible && v.inter) (refsS 3) [] s).2).1 }, ⟨c'⟩) ∧
      Rep B c' (opt v.hasScale scaleS zSc (opt (v.flexible && v.inter) (refsS 3) [] s).2).2 := by
  unfold vp9_through_y2_j2
  cases h : (v.flexible && v.inter) with
  | true =>
    obtain ⟨c1, a1, b1⟩ := refs_imp hB c s hr
    obtain ⟨c2, a2, b2⟩ := j3_imp hB (v := { v with refs := (refsS 3 s).1 }) hs c1 _ b1
    refine ⟨c2, ?_, b2⟩
    rw [if_pos rfl, hf]
    rw [bnd a1]; exact a2
  | false =>
    obtain ⟨c2, a2, b2⟩ := j3_imp hB (v := v) hs c s hr
    refine ⟨c2, ?_, b2⟩
    rw [if_neg (by decide)]
    refine a2.trans ?_
    have e : ({ v with scale := (opt v.hasScale scaleS zSc s).1 } : Vp9) = { v with refs := [], scale := (opt v.hasScale scaleS zSc s).1 } := by rw [← hf]
    exact congrArg (fun q => some (q, (⟨c2⟩ : vp9_reader))) e
def vS (h1 h2 h3 h4 h5 h6 h7 h8 : Bool) (p : Bool × Int) : Vp9 := ⟨h1, p.1, p.2, h2, h3, 0, 0, false, false, h4, 0, [], h5, h6, h7, zSc, h8⟩
theorem j1_imp {B : List Int} (hB : By B) (h1 h2 h3 h4 h5 h6 h7 h8 : Bool) (p : Bool × Int) (c : GBits) (s : RS) (hr : Rep B c s) :
    ∃ c', vp9_through_y2_j1 none (vS h1 h2 h3 h4 h5 h6 h7 h8 p) ⟨c⟩ = some ((bdR (opt h3 (layS h4) (0, false, 0, false, 0)) (fun y => tailS h1 h2 h3 h4 h5 h6 h7 h8 p y) s).1, ⟨c'⟩) ∧
      Rep B c' (bdR (opt h3 (layS h4) (0, false, 0, false, 0)) (fun y => tailS h1 h2 h3 h4 h5 h6 h7 h8 p y) s).2 := by
  unfold vp9_through_y2_j1
  cases h3 with
  | true =>
    obtain ⟨c1, a1, b1⟩ := lay_imp hB (vS h1 h2 true h4 h5 h6 h7 h8 p) c s hr
    have e1 : (if (vS h1 h2 true h4 h5 h6 h7 h8 p).flexible then (vS h1 h2 true h4 h5 h6 h7 h8 p).level else (layS (vS h1 h2 true h4 h5 h6 h7 h8 p).flexible s).1.2.2.2.2) = (layS h4 s).1.2.2.2.2 := by
      cases h4 <;> rfl
    rw [e1] at a1
    obtain ⟨c2, a2, b2⟩ := j2_imp hB (v := { vS h1 h2 true h4 h5 h6 h7 h8 p with tid := (layS h4 s).1.1, sid := (layS h4 s).1.2.2.1, up := (layS h4 s).1.2.1, depends := (layS h4 s).1.2.2.2.1, level := (layS h4 s).1.2.2.2.2 }) rfl rfl c1 _ b1
    refine ⟨c2, ?_, b2⟩
    rw [if_pos (by rfl), bnd a1]
    exact a2
  | false =>
    obtain ⟨c2, a2, b2⟩ := j2_imp hB (v := vS h1 h2 false h4 h5 h6 h7 h8 p) rfl rfl c s hr
    refine ⟨c2, ?_, b2⟩
    rw [if_neg (show ¬ (vS h1 h2 false h4 h5 h6 h7 h8 p).hasLayer = true by simp [vS])]
    exact a2
theorem thr_imp {B : List Int} (hB : By B) : ImpR B (fun y => vp9_through_y2 none zD y) thrS := by
  intro c s hr
  show ∃ c', vp9_through_y2 none zD ⟨c⟩ = _ ∧ _
  obtain ⟨c1, a1, b1⟩ := truth_imp hB false c s hr
  obtain ⟨c2, a2, b2⟩ := truth_imp hB false c1 _ b1
  obtain ⟨c3, a3, b3⟩ := truth_imp hB false c2 _ b2
  obtain ⟨c4, a4, b4⟩ := truth_imp hB false c3 _ b3
  obtain ⟨c5, a5, b5⟩ := truth_imp hB false c4 _ b4
  obtain ⟨c6, a6, b6⟩ := truth_imp hB false c5 _ b5
  obtain ⟨c7, a7, b7⟩ := truth_imp hB false c6 _ b6
  obtain ⟨c8, a8, b8⟩ := truth_imp hB false c7 _ b7
  unfold vp9_through_y2
  show ∃ c', (Option.bind (vp9_truth_y2 none false ⟨c⟩) fun x1 => _) = _ ∧ _
  rw [bnd a1]
  show ∃ c', (Option.bind (vp9_truth_y2 none false ⟨c1⟩) fun x1 => _) = _ ∧ _
  rw [bnd a2]
  show ∃ c', (Option.bind (vp9_truth_y2 none false ⟨c2⟩) fun x1 => _) = _ ∧ _
  rw [bnd a3]
  show ∃ c', (Option.bind (vp9_truth_y2 none false ⟨c3⟩) fun x1 => _) = _ ∧ _
  rw [bnd a4]
  show ∃ c', (Option.bind (vp9_truth_y2 none false ⟨c4⟩) fun x1 => _) = _ ∧ _
  rw [bnd a5]
  show ∃ c', (Option.bind (vp9_truth_y2 none false ⟨c5⟩) fun x1 => _) = _ ∧ _
  rw [bnd a6]
  show ∃ c', (Option.bind (vp9_truth_y2 none false ⟨c6⟩) fun x1 => _) = _ ∧ _
  rw [bnd a7]
  show ∃ c', (Option.bind (vp9_truth_y2 none false ⟨c7⟩) fun x1 => _) = _ ∧ _
  rw [bnd a8]
  simp only
  unfold thrS
  simp only [bdR]
  generalize (tS s).1 = h1 at *
  generalize (tS (tS s).2).1 = h2 at *
  generalize (tS (tS (tS s).2).2).1 = h3 at *
  generalize (tS (tS (tS (tS s).2).2).2).1 = h4 at *
  generalize (tS (tS (tS (tS (tS s).2).2).2).2).1 = h5 at *
  generalize (tS (tS (tS (tS (tS (tS s).2).2).2).2).2).1 = h6 at *
  generalize (tS (tS (tS (tS (tS (tS (tS s).2).2).2).2).2).2).1 = h7 at *
  generalize (tS (tS (tS (tS (tS (tS (tS (tS s).2).2).2).2).2).2).2).1 = h8 at *
  generalize (tS (tS (tS (tS (tS (tS (tS (tS s).2).2).2).2).2).2).2).2 = S at *
  cases h1 with
  | true =>
    obtain ⟨d1, e1, f1⟩ := truth_imp hB false c8 _ b8
    rw [if_pos rfl]
    show ∃ c', (Option.bind (vp9_truth_y2 none false ⟨c8⟩) fun x1 => _) = _ ∧ _
    rw [bnd e1]
    have key : ∀ w : Bool, (tS S).1 = w → ∃ c', vp9_through_y2_j5 none zD (true, ⟨c1⟩) (h2, ⟨c2⟩) (h3, ⟨c3⟩) (h4, ⟨c4⟩) (h5, ⟨c5⟩) (h6, ⟨c6⟩) (h7, ⟨c7⟩) (h8, ⟨c8⟩) ((tS S).1, ⟨d1⟩) (if w then 15 else 7) =
        some ((bdR (opt h3 (layS h4) (0, false, 0, false, 0)) (fun y => tailS true h2 h3 h4 h5 h6 h7 h8 (hdS S).1 y) (hdS S).2).1, ⟨c'⟩) ∧
        Rep B c' (bdR (opt h3 (layS h4) (0, false, 0, false, 0)) (fun y => tailS true h2 h3 h4 h5 h6 h7 h8 (hdS S).1 y) (hdS S).2).2 := by
      intro w hw
      have hh : hdS S = ((w, (gN (if w then 15 else 7) (tS S).2).1), (gN (if w then 15 else 7) (tS S).2).2) := by
        unfold hdS; simp only [bdR, pr]; rw [hw]
      obtain ⟨d2, e2, f2⟩ := num_imp hB (w := if w then 15 else 7) (wi := if w then 15 else 7) (by cases w <;> rfl) (by cases w <;> decide) 0 d1 _ f1
      obtain ⟨d3, e3, f3⟩ := j1_imp hB true h2 h3 h4 h5 h6 h7 h8 (w, (gN (if w then 15 else 7) (tS S).2).1) d2 _ f2
      rw [hh]
      refine ⟨d3, ?_, f3⟩
      unfold vp9_through_y2_j5
      show (Option.bind (vp9_reader_num_y1 none 0 (if w then 15 else 7) ⟨d1⟩) fun x22 => _) = _
      rw [bnd e2]
      rw [← hw] at e3 ⊢
      exact e3
    cases hw : (tS S).1 with
    | true => have := key true hw; rw [hw] at this; exact this
    | false => have := key false hw; rw [hw] at this; exact this
  | false =>
    obtain ⟨d3, e3, f3⟩ := j1_imp hB false h2 h3 h4 h5 h6 h7 h8 (false, 0) c8 _ b8
    refine ⟨d3, ?_, ?_⟩
    · rw [if_neg (by decide)]
      exact e3
    · exact f3

/-- what bytes begin with -/
def rdV (b : List Int) : Vp9 × Int × Int :=
  match thrS (.ok (bitsOf b)) with
  | (d, .ok R) => (d, (8 * b.length - R.length) / 8, 0)
  | (_, .error e) => (zD, 0, e)
theorem read_eq {b : List Int} (hb : By b) : vp9_Read none b = some (rdV b) := by
  have hb' := hb
  obtain ⟨hu, hl⟩ := hb'
  unfold vp9_Read bits_Start
  obtain ⟨c, a1, b1⟩ := thr_imp hb ⟨b, 0, 0⟩ (.ok (bitsOf b)) (Rep.start b)
  change vp9_through_y2 none zD ⟨⟨b, 0, 0⟩⟩ = _ at a1
  show (Option.bind (vp9_through_y2 none zD ⟨⟨b, 0, 0⟩⟩) fun x1 => _) = _
  rw [bnd a1]
  unfold rdV
  generalize thrS (.ok (bitsOf b)) = X at *
  obtain ⟨d, s⟩ := X
  cases s with
  | ok R =>
    have h := b1.at_ok
    obtain ⟨_, _, h3, h4, h5⟩ := b1
    simp only at h3 h4 h5 h ⊢
    rw [if_neg (by rw [cm_neq, h.2]; decide)]
    rw [dv_quo h3, w_i64 (by omega) (by omega), h.1]
  | error e =>
    obtain ⟨_, h3, h4⟩ := b1
    simp only at h3 h4 ⊢
    rw [if_pos (by rw [cm_neq, h3]; simpa using h4), h3]; rfl
end Xb

namespace Xb
open Go

/-! writing -/
def ImpW {α : Type} (m : vp9_writer → Option (α × vp9_writer)) (a : α) (W : List Int) : Prop :=
  ∀ k L, RepK k L → L.length + W.length ≤ 500000000 → ∃ k', m ⟨k⟩ = some (a, ⟨k'⟩) ∧ RepK k' (L ++ W)
theorem numW {n : Int} {w : Nat} {wi : Int} (hw : wi = w) (h : w ≤ 62) (h0 : 0 ≤ n) (h1 : n < 2 ^ w) : ImpW (fun x => vp9_writer_num_y1 none n wi x) n (nb w n) := by
  intro k L hr hl
  subst hw
  rw [nb_len] at hl
  have hp := pow_le64 (n := w + 1) (by omega)
  have e : (2 : Int) ^ (w + 1) = 2 ^ w * 2 := Int.pow_succ _ _
  obtain ⟨k', a, b⟩ := add_rep hr (by omega) h0 h1 (by omega)
  refine ⟨k', ?_, b⟩
  show vp9_writer_num_y1 none n (w : Int) ⟨k⟩ = _
  unfold vp9_writer_num_y1
  rw [w_u64 h0 (by omega)]
  show (Option.bind (bits_Add none k n w) fun x1 => _) = _
  rw [bnd a]
theorem truthW (b : Bool) : ImpW (fun x => vp9_truth_y1 none b x) b (wb b) := by
  intro k L hr hl
  show ∃ k', vp9_truth_y1 none b ⟨k⟩ = _ ∧ _
  unfold vp9_truth_y1 vp9_truth_y1_j1
  cases b with
  | true =>
    obtain ⟨k', a, b⟩ := numW (w := 1) (wi := 1) (n := 1) rfl (by decide) (by decide) (by decide) k L hr hl
    exact ⟨k', by rw [if_pos rfl, bnd a]; rfl, b⟩
  | false =>
    obtain ⟨k', a, b⟩ := numW (w := 1) (wi := 1) (n := 0) rfl (by decide) (by decide) (by decide) k L hr hl
    exact ⟨k', by rw [if_neg (by decide), bnd a]; rfl, b⟩

theorem goneW_loop {α : Type} {l : List α} {W : α → List Int} {step : List α × Int × vp9_writer → Option ((List α × Int × vp9_writer) ⊕ (List α × vp9_writer))}
    (h1 : ∀ out x, step (out, (l.length : Int), x) = some (.inr (out, x)))
    (h3 : ∀ (i : Nat) (hi : i < l.length) out k L, out.length = i → RepK k L → L.length + (W l[i]).length ≤ 500000000 → ∃ k', step (out, (i : Int), ⟨k⟩) = some (.inl (out ++ [l[i]], (i : Int) + 1, ⟨k'⟩)) ∧ RepK k' (L ++ W l[i])) :
    ∀ (rest done : List α) k L, l = done ++ rest → RepK k L → L.length + (rest.flatMap W).length ≤ 500000000 →
      ∃ k', loopG none step (done, (done.length : Int), ⟨k⟩) = some (l, ⟨k'⟩) ∧ RepK k' (L ++ rest.flatMap W)
  | [], done, k, L, hl, hr, hb => by
    have e : done = l := by rw [hl]; simp
    rw [e]
    exact ⟨k, by rw [loop_inr (h1 l ⟨k⟩)], by simpa using hr⟩
  | a :: rest, done, k, L, hl, hr, hb => by
    rw [List.flatMap_cons, List.length_append] at hb
    have hi : done.length < l.length := by rw [hl]; simp
    have ha : l[done.length] = a := by simp [hl]
    obtain ⟨k', q1, q2⟩ := h3 done.length hi done k L rfl hr (by rw [ha]; omega)
    rw [ha] at q1 q2
    rw [loop_inl q1]
    obtain ⟨k2, r1, r2⟩ := goneW_loop h1 h3 rest (done ++ [a]) k' (L ++ W a) (by rw [hl]; simp) q2 (by rw [List.length_append]; omega)
    refine ⟨k2, ?_, by rw [List.flatMap_cons, ← List.append_assoc]; exact r2⟩
    rw [← r1]
    simp
theorem failedW (x : vp9_writer) : vp9_writer_failed_y1 none x = some (false, x) := rfl
theorem goneIntW {l : List Int} (hl : l.length ≤ 1000) (h : ∀ n, n ∈ l → 0 ≤ n ∧ n ≤ 255) : ImpW (fun x => vp9_gone_int_y1 none l l.length x) l (l.flatMap (nb 8)) := by
  intro k L hr hb
  refine goneW_loop (l := l) (W := nb 8) (step := fun (s : List Int × Int × vp9_writer) => vp9_gone_int_y1_s1 none l l.length s.1 s.2.1 s.2.2) (fun out x => ?_) (fun i hi out k L ho hr hb => ?_) l [] k L rfl hr hb
  · show vp9_gone_int_y1_s1 none l l.length out l.length x = _
    unfold vp9_gone_int_y1_s1
    rw [if_neg (by rw [cm_lss]; simp)]; rfl
  · have hm := h l[i] (List.getElem_mem hi)
    obtain ⟨k', a, b⟩ := numW (w := 8) (wi := 8) rfl (by decide) hm.1 (by omega) k L hr hb
    refine ⟨k', ?_, b⟩
    show vp9_gone_int_y1_s1 none l l.length out i ⟨k⟩ = _
    unfold vp9_gone_int_y1_s1
    rw [if_pos (by rw [cm_lss]; simpa using hi), bnd (failedW _), if_pos (by rfl), if_pos (by rw [cm_lss]; simpa using hi), bnd (ix_some rfl hi)]
    unfold vp9_gone_int_y1_j2 vp9_picture_1_y1
    rw [bnd (show Option.bind (vp9_writer_num_y1 none l[i] 8 ⟨k⟩) _ = some (l[i], ⟨k'⟩) by rw [bnd a]), bnd (app_some (by simp; omega)), ar_add, w_i64 (by omega) (by omega)]
theorem sizeW_imp {x : Size} (h : RightZ x) : ImpW (fun y => vp9_scale_1_y1 none x y) x (sizeW x) := by
  intro k L hr hb
  simp only [sizeW, List.length_append, nb_len] at hb
  show ∃ k', vp9_scale_1_y1 none x ⟨k⟩ = _ ∧ _
  unfold vp9_scale_1_y1
  obtain ⟨⟨a, b⟩, c, d⟩ := h
  obtain ⟨k1, a1, b1⟩ := numW (w := 16) (wi := 16) rfl (by decide) a (by omega) k L hr (by rw [nb_len]; omega)
  obtain ⟨k2, a2, b2⟩ := numW (w := 16) (wi := 16) rfl (by decide) c (by omega) k1 _ b1 (by rw [List.length_append, nb_len, nb_len]; omega)
  exact ⟨k2, by rw [bnd a1, bnd a2], by rw [sizeW, ← List.append_assoc]; exact b2⟩
theorem goneSizeW {l : List Size} (hl : l.length ≤ 1000) (h : ∀ n, n ∈ l → RightZ n) : ImpW (fun x => vp9_gone_Size_y1 none l l.length x) l (l.flatMap sizeW) := by
  intro k L hr hb
  refine goneW_loop (l := l) (W := sizeW) (step := fun (s : List Size × Int × vp9_writer) => vp9_gone_Size_y1_s1 none l l.length s.1 s.2.1 s.2.2) (fun out x => ?_) (fun i hi out k L ho hr hb => ?_) l [] k L rfl hr hb
  · show vp9_gone_Size_y1_s1 none l l.length out l.length x = _
    unfold vp9_gone_Size_y1_s1
    rw [if_neg (by rw [cm_lss]; simp)]; rfl
  · have hm : RightZ (l[i]'hi) := h (l[i]'hi) (List.getElem_mem hi)
    obtain ⟨k', a, b⟩ := sizeW_imp hm k L hr hb
    refine ⟨k', ?_, b⟩
    show vp9_gone_Size_y1_s1 none l l.length out i ⟨k⟩ = _
    unfold vp9_gone_Size_y1_s1
    rw [if_pos (by rw [cm_lss]; simpa using hi), bnd (failedW _), if_pos (by rfl), if_pos (by rw [cm_lss]; simpa using hi), bnd (ix_some rfl hi)]
    unfold vp9_gone_Size_y1_j2
    rw [bnd a, bnd (app_some (by simp; omega)), ar_add, w_i64 (by omega) (by omega)]
theorem picW_imp {g : Group} (h : RightG g) : ImpW (fun y => vp9_picture_y1 none g y) g (picW g) := by
  intro k L hr hb
  obtain ⟨⟨a, b⟩, c, d⟩ := h
  simp only [picW, wb, List.length_append, nb_len] at hb
  show ∃ k', vp9_picture_y1 none g ⟨k⟩ = _ ∧ _
  unfold vp9_picture_y1
  obtain ⟨k1, a1, b1⟩ := numW (w := 3) (wi := 3) rfl (by decide) a (by omega) k L hr (by rw [nb_len]; omega)
  obtain ⟨k2, a2, b2⟩ := truthW g.up k1 _ b1 (by simp only [wb, List.length_append, nb_len]; omega)
  obtain ⟨k3, a3, b3⟩ := numW (w := 2) (wi := 2) rfl (by decide) (n := (g.refs.length : Int)) (by omega) (by omega) k2 _ b2 (by simp only [wb, List.length_append, nb_len]; omega)
  obtain ⟨k4, a4, b4⟩ := numW (w := 2) (wi := 2) rfl (by decide) (n := 0) (by omega) (by omega) k3 _ b3 (by simp only [wb, List.length_append, nb_len]; omega)
  obtain ⟨k5, a5, b5⟩ := goneIntW (l := g.refs) (by omega) d k4 _ b4 (by simp only [wb, List.length_append, nb_len]; omega)
  refine ⟨k5, by rw [bnd a1, bnd a2, bnd a3, bnd a4, bnd a5], ?_⟩
  simp only [picW, List.append_assoc] at b5 ⊢; exact b5
theorem gonePicW {l : List Group} (hl : l.length ≤ 1000) (h : ∀ n, n ∈ l → RightG n) : ImpW (fun x => vp9_gone_Group_y1 none l l.length x) l (l.flatMap picW) := by
  intro k L hr hb
  refine goneW_loop (l := l) (W := picW) (step := fun (s : List Group × Int × vp9_writer) => vp9_gone_Group_y1_s1 none l l.length s.1 s.2.1 s.2.2) (fun out x => ?_) (fun i hi out k L ho hr hb => ?_) l [] k L rfl hr hb
  · show vp9_gone_Group_y1_s1 none l l.length out l.length x = _
    unfold vp9_gone_Group_y1_s1
    rw [if_neg (by rw [cm_lss]; simp)]; rfl
  · have hm : RightG (l[i]'hi) := h _ (List.getElem_mem hi)
    obtain ⟨k', a, b⟩ := picW_imp hm k L hr hb
    refine ⟨k', ?_, b⟩
    show vp9_gone_Group_y1_s1 none l l.length out i ⟨k⟩ = _
    unfold vp9_gone_Group_y1_s1
    rw [if_pos (by rw [cm_lss]; simpa using hi), bnd (failedW _), if_pos (by rfl), if_pos (by rw [cm_lss]; simpa using hi), bnd (ix_some rfl hi)]
    unfold vp9_gone_Group_y1_j2 vp9_scale_2_y1
    rw [bnd (show Option.bind (vp9_picture_y1 none l[i] ⟨k⟩) _ = some (l[i], ⟨k'⟩) by rw [bnd a]), bnd (app_some (by simp; omega)), ar_add, w_i64 (by omega) (by omega)]
theorem optW_len (b : Bool) (l : List Int) : (optW b l).length = if b then l.length else 0 := by cases b <;> rfl
theorem scaleW_imp {s : Scale} (h : RightS s) : ImpW (fun y => vp9_scale_y1 none s y) s (scaleW s) := by
  intro k L hr hb
  obtain ⟨⟨a, b⟩, c, d, e, f⟩ := h
  simp only [scaleW, wb, List.length_append, nb_len] at hb
  show ∃ k', vp9_scale_y1 none s ⟨k⟩ = _ ∧ _
  unfold vp9_scale_y1
  have e0 : ar .sub .i64 s.layers 1 = s.layers - 1 := by rw [ar_sub, w_i64 (by omega) (by omega)]
  rw [e0]
  obtain ⟨k1, a1, b1⟩ := numW (w := 3) (wi := 3) rfl (by decide) (n := s.layers - 1) (by omega) (by omega) k L hr (by rw [nb_len]; omega)
  obtain ⟨k2, a2, b2⟩ := truthW s.hasSizes k1 _ b1 (by simp only [wb, List.length_append, nb_len]; omega)
  obtain ⟨k3, a3, b3⟩ := truthW s.hasPics k2 _ b2 (by simp only [wb, List.length_append, nb_len]; omega)
  obtain ⟨k4, a4, b4⟩ := numW (w := 3) (wi := 3) rfl (by decide) (n := 0) (by omega) (by omega) k3 _ b3 (by simp only [wb, List.length_append, nb_len]; omega)
  rw [bnd a1, bnd a2, bnd a3, bnd a4]
  simp only
  have e1 : ar .add .i64 (s.layers - 1) 1 = s.layers := by rw [ar_add, w_i64 (by omega) (by omega)]; omega
  rw [e1]
  have key : ∀ k5 L5, RepK k5 L5 → L5.length + (optW s.hasPics (nb 8 s.pics.length ++ s.pics.flatMap picW)).length ≤ 500000000 →
      ∃ k', vp9_scale_y1_j1 none s ⟨k5⟩ = some (s, ⟨k'⟩) ∧ RepK k' (L5 ++ optW s.hasPics (nb 8 s.pics.length ++ s.pics.flatMap picW)) := by
    intro k5 L5 hr5 hb5
    unfold vp9_scale_y1_j1 vp9_scale_y1_j2
    cases hp : s.hasPics with
    | true =>
      rw [hp] at hb5 d
      simp only [optW, if_true, List.length_append, nb_len] at hb5 d ⊢
      obtain ⟨k6, a6, b6⟩ := numW (w := 8) (wi := 8) rfl (by decide) (n := (s.pics.length : Int)) (by omega) (by omega) k5 L5 hr5 (by rw [nb_len]; omega)
      obtain ⟨k7, a7, b7⟩ := gonePicW (l := s.pics) (by omega) f k6 _ b6 (by simp only [List.length_append, nb_len]; omega)
      refine ⟨k7, ?_, by rw [List.append_assoc] at b7; exact b7⟩
      rw [bnd a6]
      show (Option.bind (vp9_gone_Group_y1 none s.pics s.pics.length ⟨k6⟩) fun x10 => _) = _
      rw [bnd a7]
      simp only
      rw [← hp]
    | false =>
      refine ⟨k5, ?_, by simpa [optW] using hr5⟩
      rw [if_neg (by decide)]
  have fin : ∀ k7 : Ink, RepK k7 (L ++ nb 3 (s.layers - 1) ++ wb s.hasSizes ++ wb s.hasPics ++ nb 3 0 ++ optW s.hasSizes (s.sizes.flatMap sizeW) ++ optW s.hasPics (nb 8 s.pics.length ++ s.pics.flatMap picW)) → RepK k7 (L ++ scaleW s) := fun k7 h => by
    simp only [scaleW, List.append_assoc] at h ⊢; exact h
  cases hh : s.hasSizes with
  | true =>
    rw [hh] at c hb
    simp only [if_true] at c
    rw [show optW true (s.sizes.flatMap sizeW) = s.sizes.flatMap sizeW from rfl] at hb
    obtain ⟨k5, a5, b5⟩ := goneSizeW (l := s.sizes) (by omega) e k4 _ b4 (by simp only [wb, List.length_append, nb_len]; omega)
    obtain ⟨k6, a6, b6⟩ := key k5 _ b5 (by simp only [wb, List.length_append, nb_len]; omega)
    refine ⟨k6, ?_, fin k6 (by rw [hh] at b6 ⊢; exact b6)⟩
    rw [if_pos rfl, ← c]
    show (Option.bind (vp9_gone_Size_y1 none s.sizes s.sizes.length ⟨k4⟩) fun x10 => _) = _
    rw [bnd a5]
    simp only
    rw [c, ← hh]
    exact a6
  | false =>
    rw [hh] at c hb
    rw [show optW false (s.sizes.flatMap sizeW) = [] from rfl] at hb
    obtain ⟨k6, a6, b6⟩ := key k4 _ b4 (by simp only [wb, List.length_append, nb_len]; simp only [List.length_nil] at hb; omega)
    refine ⟨k6, ?_, fin k6 (by rw [hh] at b6 ⊢; rw [show optW false (s.sizes.flatMap sizeW) = [] from rfl, List.append_nil]; exact b6)⟩
    rw [if_neg (by decide), ← hh]
    exact a6

theorem refsW_loop {l : List Int} (hl : l.length ≤ 3) (h : ∀ n, n ∈ l → 1 ≤ n ∧ n ≤ 127) : ∀ (rest done : List Int) k L, rest ≠ [] → l = done ++ rest → RepK k L → L.length + (refsW rest).length ≤ 500000000 →
    ∃ k', loopG none (fun (s : List Int × Bool × vp9_writer) => vp9_references_y1_s1 none l s.1 s.2.1 s.2.2) (done, true, ⟨k⟩) = some (l, ⟨k'⟩) ∧ RepK k' (L ++ refsW rest)
  | [], _, _, _, h, _, _, _ => absurd rfl h
  | a :: rest, done, k, L, _, hd, hr, hb => by
    simp only [refsW, wb, List.length_append, nb_len] at hb
    have hi : done.length < l.length := by rw [hd]; simp
    have hlen : l.length = done.length + 1 + rest.length := by rw [hd]; simp; omega
    have ha : l[done.length] = a := by simp [hd]
    have hm := h a (by rw [hd]; simp)
    obtain ⟨k1, a1, b1⟩ := numW (w := 7) (wi := 7) rfl (by decide) (n := a) (by omega) (by omega) k L hr (by rw [nb_len]; omega)
    obtain ⟨k2, a2, b2⟩ := truthW (!rest.isEmpty) k1 _ b1 (by simp only [wb, List.length_append, nb_len]; omega)
    have hc : cm .lss ((done ++ [a]).length : Int) (l.length : Int) = !rest.isEmpty := by
      rw [cm_lss, hlen]
      cases rest with
      | nil => simp
      | cons x r => simp; omega
    have hlast : ix (done ++ [a]) (ar .sub .i64 ((done ++ [a]).length : Int) 1) = some a := by
      have h2 : (done ++ [a]).length = done.length + 1 := by simp
      rw [ar_sub, w_i64 (by omega) (by omega), ix_some (n := done.length) (by omega) (by omega)]
      simp
    have st : vp9_references_y1_s1 none l done true ⟨k⟩ = some (.inl (done ++ [a], !rest.isEmpty, ⟨k2⟩)) := by
      unfold vp9_references_y1_s1
      rw [if_pos rfl, bnd (failedW _), if_pos (by rfl), if_pos (by rw [cm_lss]; simpa using hi), bnd (ix_some rfl hi), ha]
      unfold vp9_references_y1_j2
      rw [bnd a1, bnd (app_some (by simp; omega)), hc, bnd a2, bnd hlast]
      simp only
      split
      · rfl
      · rfl
    rw [loop_inl st]
    cases rest with
    | nil =>
      have e : done ++ [a] = l := hd.symm
      rw [e]
      refine ⟨k2, ?_, ?_⟩
      · have : vp9_references_y1_s1 none l l false ⟨k2⟩ = some (.inr (l, ⟨k2⟩)) := by
          unfold vp9_references_y1_s1
          rw [if_neg (by decide)]; rfl
        exact loop_inr this
      · simp only [refsW, List.append_assoc, List.append_nil] at b2 ⊢; exact b2
    | cons x r =>
      obtain ⟨k3, a3, b3⟩ := refsW_loop hl h (x :: r) (done ++ [a]) k2 _ (by simp) (by rw [hd]; simp) b2 (by simp only [wb, List.length_append, nb_len] at hb ⊢; omega)
      exact ⟨k3, a3, by rw [refsW]; simp only [List.append_assoc] at b3 ⊢; exact b3⟩
theorem refsW_imp {l : List Int} (h0 : l ≠ []) (hl : l.length ≤ 3) (h : ∀ n, n ∈ l → 1 ≤ n ∧ n ≤ 127) : ImpW (fun y => vp9_references_y1 none l y) l (refsW l) := by
  intro k L hr hb
  exact refsW_loop hl h l [] k L h0 rfl hr hb
theorem layW_imp {d : Vp9} (hL : d.hasLayer = true) (h : LayD d) (k : Ink) (L : List Int) (hr : RepK k L) (hb : L.length + (layW d).length ≤ 500000000) :
    ∃ k', vp9_layers_y1 none ⟨k⟩ d = some (⟨k'⟩, d) ∧ RepK k' (L ++ layW d) := by
  unfold LayD at h
  rw [if_pos hL] at h
  obtain ⟨a, b, c, e⟩ := h
  simp only [layW, wb, List.length_append, nb_len] at hb
  unfold vp9_layers_y1
  obtain ⟨k1, a1, b1⟩ := numW (w := 3) (wi := 3) rfl (by decide) a.1 (by omega) k L hr (by rw [nb_len]; omega)
  obtain ⟨k2, a2, b2⟩ := truthW d.up k1 _ b1 (by simp only [wb, List.length_append, nb_len]; omega)
  obtain ⟨k3, a3, b3⟩ := numW (w := 3) (wi := 3) rfl (by decide) b.1 (by omega) k2 _ b2 (by simp only [wb, List.length_append, nb_len]; omega)
  obtain ⟨k4, a4, b4⟩ := truthW d.depends k3 _ b3 (by simp only [wb, List.length_append, nb_len]; omega)
  rw [bnd a1, bnd a2, bnd a3, bnd a4]
  cases hf : d.flexible with
  | true =>
    refine ⟨k4, by rw [if_neg (by decide)]; simp only; rw [← hf], ?_⟩
    simp only [layW, hf, optW, List.append_assoc, Bool.not_true, Bool.false_eq_true, if_false, List.append_nil] at b4 ⊢; exact b4
  | false =>
    rw [hf] at hb
    rw [show optW (!false) (nb 8 d.level) = nb 8 d.level from rfl, nb_len] at hb
    obtain ⟨k5, a5, b5⟩ := numW (w := 8) (wi := 8) rfl (by decide) c.1 (by omega) k4 _ b4 (by simp only [wb, List.length_append, nb_len]; omega)
    refine ⟨k5, by rw [if_pos (by rfl), bnd a5]; simp only; rw [← hf], ?_⟩
    simp only [layW, hf, optW, List.append_assoc, Bool.not_false, if_true] at b5 ⊢; exact b5

theorem w3 {d : Vp9} (hs : ScD d) (k : Ink) (L : List Int) (hr : RepK k L) (hb : L.length + (optW d.hasScale (scaleW d.scale)).length ≤ 500000000) :
    ∃ k', vp9_through_y1_j3 none d ⟨k⟩ = some (d, ⟨k'⟩) ∧ RepK k' (L ++ optW d.hasScale (scaleW d.scale)) := by
  unfold vp9_through_y1_j3 vp9_through_y1_j4
  unfold ScD at hs
  cases h : d.hasScale with
  | true =>
    rw [h] at hs hb
    obtain ⟨k', a, b⟩ := scaleW_imp hs k L hr hb
    exact ⟨k', by rw [if_pos rfl, bnd a]; simp only; rw [← h], b⟩
  | false => exact ⟨k, by rw [if_neg (by decide)], by simpa [optW] using hr⟩
theorem w2 {d : Vp9} (hf : RefD d) (hs : ScD d) (k : Ink) (L : List Int) (hr : RepK k L) (hb : L.length + (tailW d).length ≤ 500000000) :
    ∃ k', vp9_through_y1_j2 none d ⟨k⟩ = some (d, ⟨k'⟩) ∧ RepK k' (L ++ tailW d) := by
  unfold vp9_through_y1_j2
  unfold RefD at hf
  simp only [tailW, List.length_append] at hb
  cases h : (d.flexible && d.inter) with
  | true =>
    rw [h] at hf hb
    simp only [if_true] at hf
    rw [show ∀ l, optW true l = l from fun _ => rfl] at hb
    obtain ⟨k1, a1, b1⟩ := refsW_imp (l := d.refs) (fun e => by rw [e] at hf; simp at hf) hf.1.2 hf.2 k L hr (by omega)
    obtain ⟨k2, a2, b2⟩ := w3 hs k1 _ b1 (by rw [List.length_append]; omega)
    refine ⟨k2, ?_, ?_⟩
    · rw [if_pos rfl, bnd a1]; exact a2
    · rw [tailW, h, ← List.append_assoc]; exact b2
  | false =>
    rw [h] at hb
    obtain ⟨k2, a2, b2⟩ := w3 hs k L hr (by omega)
    refine ⟨k2, ?_, ?_⟩
    · rw [if_neg (by decide)]; exact a2
    · rw [tailW, h]; exact b2
theorem w1 {d : Vp9} (hl : LayD d) (hf : RefD d) (hs : ScD d) (k : Ink) (L : List Int) (hr : RepK k L) (hb : L.length + (optW d.hasLayer (layW d) ++ tailW d).length ≤ 500000000) :
    ∃ k', vp9_through_y1_j1 none d ⟨k⟩ = some (d, ⟨k'⟩) ∧ RepK k' (L ++ (optW d.hasLayer (layW d) ++ tailW d)) := by
  unfold vp9_through_y1_j1
  rw [List.length_append] at hb
  cases h : d.hasLayer with
  | true =>
    rw [h] at hb
    rw [show ∀ l, optW true l = l from fun _ => rfl] at hb ⊢
    obtain ⟨k1, a1, b1⟩ := layW_imp h hl k L hr (by omega)
    obtain ⟨k2, a2, b2⟩ := w2 hf hs k1 _ b1 (by rw [List.length_append]; omega)
    exact ⟨k2, by rw [if_pos rfl, bnd a1]; exact a2, by rw [← List.append_assoc]; exact b2⟩
  | false =>
    rw [h] at hb
    obtain ⟨k2, a2, b2⟩ := w2 hf hs k L hr (by omega)
    exact ⟨k2, by rw [if_neg (by decide)]; exact a2, b2⟩
theorem thrW_imp {d : Vp9} (h : RightD d) : ImpW (fun y => vp9_through_y1 none d y) d (thrW d) := by
  intro k L hr hb
  obtain ⟨⟨p0, p1⟩, hw, hl, hf, hs⟩ := h
  simp only [thrW, wb, List.length_append, nb_len] at hb
  show ∃ k', vp9_through_y1 none d ⟨k⟩ = _ ∧ _
  unfold vp9_through_y1
  obtain ⟨k1, a1, b1⟩ := truthW d.hasPic k L hr (by simp only [wb, List.length_append, nb_len]; omega)
  obtain ⟨k2, a2, b2⟩ := truthW d.inter k1 _ b1 (by simp only [wb, List.length_append, nb_len]; omega)
  obtain ⟨k3, a3, b3⟩ := truthW d.hasLayer k2 _ b2 (by simp only [wb, List.length_append, nb_len]; omega)
  obtain ⟨k4, a4, b4⟩ := truthW d.flexible k3 _ b3 (by simp only [wb, List.length_append, nb_len]; omega)
  obtain ⟨k5, a5, b5⟩ := truthW d.begin k4 _ b4 (by simp only [wb, List.length_append, nb_len]; omega)
  obtain ⟨k6, a6, b6⟩ := truthW d.end_ k5 _ b5 (by simp only [wb, List.length_append, nb_len]; omega)
  obtain ⟨k7, a7, b7⟩ := truthW d.hasScale k6 _ b6 (by simp only [wb, List.length_append, nb_len]; omega)
  obtain ⟨k8, a8, b8⟩ := truthW d.notRef k7 _ b7 (by simp only [wb, List.length_append, nb_len]; omega)
  rw [bnd a1, bnd a2, bnd a3, bnd a4, bnd a5, bnd a6, bnd a7, bnd a8]
  simp only
  have hlen8 : (L ++ wb d.hasPic ++ wb d.inter ++ wb d.hasLayer ++ wb d.flexible ++ wb d.begin ++ wb d.end_ ++ wb d.hasScale ++ wb d.notRef).length = L.length + 8 := by simp only [wb, List.length_append, nb_len]
  have fin : ∀ k7 : Ink, RepK k7 (L ++ wb d.hasPic ++ wb d.inter ++ wb d.hasLayer ++ wb d.flexible ++ wb d.begin ++ wb d.end_ ++ wb d.hasScale ++ wb d.notRef ++ optW d.hasPic (hdW d) ++ (optW d.hasLayer (layW d) ++ tailW d)) → RepK k7 (L ++ thrW d) := fun k7 h => by
    simp only [thrW, List.append_assoc] at h ⊢; exact h
  cases hp : d.hasPic with
  | true =>
    rw [hp] at hb
    rw [show ∀ l, optW true l = l from fun _ => rfl] at hb
    simp only [hdW, wb, List.length_append, nb_len] at hb
    obtain ⟨k9, a9, b9⟩ := truthW d.wide k8 _ b8 (by simp only [wb, List.length_append, nb_len] at hlen8 ⊢; omega)
    rw [if_pos rfl, bnd a9]
    simp only
    have hpw : d.pic < 2 ^ (if d.wide then 15 else 7) := by
      unfold mostP at p1
      rw [hp] at p1
      cases hw : d.wide <;> rw [hw] at p1 <;> simp at p1 ⊢ <;> omega
    obtain ⟨k10, a10, b10⟩ := numW (w := if d.wide then 15 else 7) (wi := if d.wide then 15 else 7) (by cases d.wide <;> rfl) (by cases d.wide <;> decide) (n := d.pic) p0 hpw k9 _ b9 (by simp only [wb, List.length_append, nb_len] at hlen8 ⊢; omega)
    obtain ⟨k11, a11, b11⟩ := w1 hl hf hs k10 _ b10 (by simp only [wb, List.length_append, nb_len] at hlen8 ⊢; omega)
    refine ⟨k11, ?_, fin k11 ?_⟩
    · have : vp9_through_y1_j5 none d (true, ⟨k1⟩) (d.inter, ⟨k2⟩) (d.hasLayer, ⟨k3⟩) (d.flexible, ⟨k4⟩) (d.begin, ⟨k5⟩) (d.end_, ⟨k6⟩) (d.hasScale, ⟨k7⟩) (d.notRef, ⟨k8⟩) (d.wide, ⟨k9⟩) (if d.wide then 15 else 7) = some (d, ⟨k11⟩) := by
        unfold vp9_through_y1_j5
        show (Option.bind (vp9_writer_num_y1 none d.pic (if d.wide then 15 else 7) ⟨k9⟩) fun x22 => _) = _
        rw [bnd a10]
        simp only
        rw [← hp]
        exact a11
      cases hw : d.wide <;> rw [hw] at this <;> simpa using this
    · rw [hp]
      rw [show ∀ l, optW true l = l from fun _ => rfl]
      rw [hp] at b11
      simp only [hdW, List.append_assoc] at b11 ⊢; exact b11
  | false =>
    rw [hp] at hb
    rw [show ∀ l, optW false l = [] from fun _ => rfl, List.length_nil] at hb
    obtain ⟨k11, a11, b11⟩ := w1 hl hf hs k8 _ b8 (by rw [hlen8, List.length_append]; omega)
    refine ⟨k11, ?_, fin k11 ?_⟩
    · rw [if_neg (by decide), ← hp]
      exact a11
    · rw [hp]
      rw [show ∀ l, optW false l = [] from fun _ => rfl, List.append_nil, ← hp]; exact b11
theorem flat_le {α : Type} {W : α → List Int} {n : Nat} : ∀ {l : List α}, (∀ a, a ∈ l → (W a).length ≤ n) → (l.flatMap W).length ≤ n * l.length
  | [], _ => by simp
  | a :: l, h => by
    have h1 := h a (by simp)
    have h2 := flat_le (l := l) fun x hx => h x (by simp [hx])
    rw [List.flatMap_cons, List.length_append, List.length_cons, Nat.mul_succ]; omega
theorem thrW_le {d : Vp9} (h : RightD d) : (thrW d).length ≤ 20000 := by
  obtain ⟨_, _, _, hf, hs⟩ := h
  have h1 : (optW d.hasPic (hdW d)).length ≤ 16 := by
    rw [optW_len]
    split
    · simp only [hdW, wb, List.length_append, nb_len]; split <;> omega
    · omega
  have h2 : (optW d.hasLayer (layW d)).length ≤ 16 := by
    rw [optW_len]
    split
    · simp only [layW, wb, List.length_append, nb_len, optW_len]; split <;> omega
    · omega
  have h3 : (optW (d.flexible && d.inter) (refsW d.refs)).length ≤ 24 := by
    rw [optW_len]
    unfold RefD at hf
    split
    · rename_i hh
      rw [if_pos hh] at hf
      have : ∀ l : List Int, (refsW l).length = 8 * l.length := fun l => by
        induction l with
        | nil => rfl
        | cons a l ih => simp only [refsW, wb, List.length_append, nb_len, ih, List.length_cons]; omega
      rw [this]; omega
    · omega
  have h4 : (optW d.hasScale (scaleW d.scale)).length ≤ 19000 := by
    rw [optW_len]
    unfold ScD at hs
    split
    · rename_i hh
      rw [if_pos hh] at hs
      obtain ⟨⟨a, b⟩, c, d', e, f⟩ := hs
      have q1 : (d.scale.sizes.flatMap sizeW).length ≤ 32 * d.scale.sizes.length := flat_le fun x _ => by simp [sizeW, nb_len]
      have q2 : (d.scale.pics.flatMap picW).length ≤ 32 * d.scale.pics.length := flat_le fun x hx => by
        have hg := (f x hx).2.1
        have := flat_le (W := nb 8) (n := 8) (l := x.refs) fun _ _ => by rw [nb_len]; exact Nat.le_refl _
        simp only [picW, wb, List.length_append, nb_len]; omega
      have q3 : (optW d.scale.hasSizes (d.scale.sizes.flatMap sizeW)).length ≤ 256 := by
        rw [optW_len]; split
        · rename_i hx; rw [if_pos hx] at c; omega
        · omega
      have q4 : (optW d.scale.hasPics (nb 8 d.scale.pics.length ++ d.scale.pics.flatMap picW)).length ≤ 8200 := by
        rw [optW_len]; split
        · rename_i hx; rw [if_pos hx] at d'; rw [List.length_append, nb_len]; omega
        · omega
      simp only [scaleW, wb, List.length_append, nb_len] at q4 ⊢; omega
    · omega
  simp only [thrW, tailW, wb, List.length_append, nb_len]; omega
/-- its bytes -/
theorem through_bytes {d : Vp9} (h : RightD d) : ∃ k', vp9_through_y1 none d ⟨⟨[], 0⟩⟩ = some (d, ⟨k'⟩) ∧ U8 k'.bytes ∧ bitsOf k'.bytes = thrW d := by
  obtain ⟨k', a, b⟩ := thrW_imp h ⟨[], 0⟩ [] RepK.nil (by have := thrW_le h; simp; omega)
  refine ⟨k', a, b.ok.u8, ?_⟩
  have h1 := b.all
  have h2 := thrW_len d
  have h3 := b.ok.le; have h4 := b.ok.ge
  simp only [List.nil_append] at h1 h3 h4
  have e : 8 * k'.bytes.length - (thrW d).length = 0 := by omega
  rw [e] at h1
  simpa using h1
end Xb

namespace Xb
open Go

theorem gand {α : Type} [Inhabited α] {b : Bool} {m : Option α} {x : α} {F : α → Bool} (h : m = some x) : (Option.bind (gT b m) fun y => some (b && F y)) = some (b && F x) := by
  subst h
  cases b
  · rw [gTF]; rfl
  · rw [gTT]; rfl
theorem IndexFunc_int_eq {l : List Int} {f : Int → Option Bool} {p : Int → Bool} (hl : l.length ≤ 100000000) (h : ∀ x, x ∈ l → f x = some (p x)) :
    slices_IndexFunc_int none l f = some (match l.findIdx? p with | some i => (i : Int) | none => -1) := by
  unfold slices_IndexFunc_int slices_IndexFunc_int_l1
  exact find_loop (step := fun (s : Int) => slices_IndexFunc_int_s1 none l f s) (p := p) (hit := fun i => (i : Int)) (miss := -1) (by
    simp only [slices_IndexFunc_int_s1, cm_lss, decide_eq_true_eq]
    rw [if_neg (by omega)]; rfl) (fun i hi => by
    simp only [slices_IndexFunc_int_s1, cm_lss, decide_eq_true_eq]
    rw [if_pos (by omega), bnd (ix_some rfl hi), bnd (h _ (List.getElem_mem hi))]
    by_cases hp : p l[i] = true
    · rw [if_pos hp, if_pos hp]; rfl
    · rw [if_neg hp, if_neg hp, ar_add, w_i64 (by omega) (by omega)]; rfl)
theorem ContainsFunc_int_eq {l : List Int} {f : Int → Option Bool} {p : Int → Bool} (hl : l.length ≤ 100000000) (h : ∀ x, x ∈ l → f x = some (p x)) :
    slices_ContainsFunc_int none l f = some (l.any p) := by
  unfold slices_ContainsFunc_int
  rw [bnd (IndexFunc_int_eq hl h), cm_geq]
  congr 1
  cases hf : l.findIdx? p with
  | none =>
    rw [List.findIdx?_eq_none_iff] at hf
    have : l.any p = false := by simpa using hf
    rw [this]; decide
  | some i =>
    rw [List.findIdx?_eq_some_iff_getElem] at hf
    obtain ⟨hi, hp, _⟩ := hf
    have : l.any p = true := List.any_eq_true.2 ⟨l[i], List.getElem_mem hi, hp⟩
    rw [this]; simp
theorem IndexFunc_Size_eq {l : List Size} {f : Size → Option Bool} {p : Size → Bool} (hl : l.length ≤ 100000000) (h : ∀ x, x ∈ l → f x = some (p x)) :
    slices_IndexFunc_Size none l f = some (match l.findIdx? p with | some i => (i : Int) | none => -1) := by
  unfold slices_IndexFunc_Size slices_IndexFunc_Size_l1
  exact find_loop (step := fun (s : Int) => slices_IndexFunc_Size_s1 none l f s) (p := p) (hit := fun i => (i : Int)) (miss := -1) (by
    simp only [slices_IndexFunc_Size_s1, cm_lss, decide_eq_true_eq]
    rw [if_neg (by omega)]; rfl) (fun i hi => by
    simp only [slices_IndexFunc_Size_s1, cm_lss, decide_eq_true_eq]
    rw [if_pos (by omega), bnd (ix_some rfl hi), bnd (h _ (List.getElem_mem hi))]
    by_cases hp : p l[i] = true
    · rw [if_pos hp, if_pos hp]; rfl
    · rw [if_neg hp, if_neg hp, ar_add, w_i64 (by omega) (by omega)]; rfl)
theorem ContainsFunc_Size_eq {l : List Size} {f : Size → Option Bool} {p : Size → Bool} (hl : l.length ≤ 100000000) (h : ∀ x, x ∈ l → f x = some (p x)) :
    slices_ContainsFunc_Size none l f = some (l.any p) := by
  unfold slices_ContainsFunc_Size
  rw [bnd (IndexFunc_Size_eq hl h), cm_geq]
  congr 1
  cases hf : l.findIdx? p with
  | none =>
    rw [List.findIdx?_eq_none_iff] at hf
    have : l.any p = false := by simpa using hf
    rw [this]; decide
  | some i =>
    rw [List.findIdx?_eq_some_iff_getElem] at hf
    obtain ⟨hi, hp, _⟩ := hf
    have : l.any p = true := List.any_eq_true.2 ⟨l[i], List.getElem_mem hi, hp⟩
    rw [this]; simp
theorem IndexFunc_Group_eq {l : List Group} {f : Group → Option Bool} {p : Group → Bool} (hl : l.length ≤ 100000000) (h : ∀ x, x ∈ l → f x = some (p x)) :
    slices_IndexFunc_Group none l f = some (match l.findIdx? p with | some i => (i : Int) | none => -1) := by
  unfold slices_IndexFunc_Group slices_IndexFunc_Group_l1
  exact find_loop (step := fun (s : Int) => slices_IndexFunc_Group_s1 none l f s) (p := p) (hit := fun i => (i : Int)) (miss := -1) (by
    simp only [slices_IndexFunc_Group_s1, cm_lss, decide_eq_true_eq]
    rw [if_neg (by omega)]; rfl) (fun i hi => by
    simp only [slices_IndexFunc_Group_s1, cm_lss, decide_eq_true_eq]
    rw [if_pos (by omega), bnd (ix_some rfl hi), bnd (h _ (List.getElem_mem hi))]
    by_cases hp : p l[i] = true
    · rw [if_pos hp, if_pos hp]; rfl
    · rw [if_neg hp, if_neg hp, ar_add, w_i64 (by omega) (by omega)]; rfl)
theorem ContainsFunc_Group_eq {l : List Group} {f : Group → Option Bool} {p : Group → Bool} (hl : l.length ≤ 100000000) (h : ∀ x, x ∈ l → f x = some (p x)) :
    slices_ContainsFunc_Group none l f = some (l.any p) := by
  unfold slices_ContainsFunc_Group
  rw [bnd (IndexFunc_Group_eq hl h), cm_geq]
  congr 1
  cases hf : l.findIdx? p with
  | none =>
    rw [List.findIdx?_eq_none_iff] at hf
    have : l.any p = false := by simpa using hf
    rw [this]; decide
  | some i =>
    rw [List.findIdx?_eq_some_iff_getElem] at hf
    obtain ⟨hi, hp, _⟩ := hf
    have : l.any p = true := List.any_eq_true.2 ⟨l[i], List.getElem_mem hi, hp⟩
    rw [this]; simp

theorem vin {n a b : Int} : vp9_in n a b = decide (a ≤ n ∧ n ≤ b) := by
  unfold vp9_in
  rw [cm_geq, cm_leq, ← Bool.decide_and]
structure SmS (s : Scale) : Prop where
  pics : s.pics.length ≤ 1000
  sizes : s.sizes.length ≤ 1000
  each : ∀ g, g ∈ s.pics → g.refs.length ≤ 1000
structure SmD (d : Vp9) : Prop where
  refs : d.refs.length ≤ 1000
  sc : SmS d.scale

theorem vgroup {g : Group} (hg : g.refs.length ≤ 1000) : ∃ x, vp9_group none g = some x ∧ (x = true ↔ RightG g) := by
  refine ⟨_, gand (ContainsFunc_int_eq (p := vp9_group_1) (by omega) fun _ _ => rfl), ?_⟩
  simp only [Bool.and_eq_true, Bool.not_eq_true', List.any_eq_false, vin, cm_leq, decide_eq_true_eq, RightG, vp9_group_1, Bool.not_eq_true, Bool.not_eq_false]
  constructor
  · rintro ⟨⟨a, b⟩, c⟩
    exact ⟨a, by omega, c⟩
  · rintro ⟨a, b, c⟩
    exact ⟨⟨a, by omega⟩, c⟩
noncomputable def rG (g : Group) : Bool := @decide (RightG g) (Classical.propDecidable _)
theorem rG_iff {g : Group} : rG g = true ↔ RightG g := by simp [rG]
theorem vgroup_eq {g : Group} (hg : g.refs.length ≤ 1000) : vp9_group none g = some (rG g) := by
  obtain ⟨x, a, b⟩ := vgroup hg
  rw [a]
  congr 1
  rw [Bool.eq_iff_iff, b, rG_iff]
theorem vscale_j2 {s : Scale} (hs : SmS s) (a b : Int) : ∃ x, vp9_RightScale_j2 none s a b = some x ∧
    (x = true ↔ ((1 ≤ s.layers ∧ s.layers ≤ 8) ∧ (s.sizes.length : Int) = a ∧ (s.pics.length : Int) ≤ b ∧ (∀ x, x ∈ s.sizes → RightZ x) ∧ ∀ g, g ∈ s.pics → RightG g)) := by
  unfold vp9_RightScale_j2
  have e : (((!(vp9_in s.layers 1 8)) || (cm .neq (s.sizes.length : Int) a)) || (cm .gtr (s.pics.length : Int) b)) = !decide ((1 ≤ s.layers ∧ s.layers ≤ 8) ∧ (s.sizes.length : Int) = a ∧ (s.pics.length : Int) ≤ b) := by
    rw [vin, cm_neq, cm_gtr, Bool.eq_iff_iff]
    simp only [Bool.or_eq_true, Bool.not_eq_true', decide_eq_false_iff_not, decide_eq_true_eq]
    omega
  rw [e]
  by_cases hc : (1 ≤ s.layers ∧ s.layers ≤ 8) ∧ (s.sizes.length : Int) = a ∧ (s.pics.length : Int) ≤ b
  · rw [decide_eq_true hc, if_neg (by decide), bnd (ContainsFunc_Size_eq (p := vp9_RightScale_1) (by have := hs.sizes; omega) fun _ _ => rfl)]
    refine ⟨_, gand (ContainsFunc_Group_eq (p := fun g => !rG g) (by have := hs.pics; omega) fun g hg => ?_), ?_⟩
    · show vp9_RightScale_2 none g = _
      unfold vp9_RightScale_2
      rw [bnd (vgroup_eq (hs.each g hg))]
    · simp only [Bool.and_eq_true, Bool.not_eq_true', List.any_eq_false, Bool.not_eq_true, Bool.not_eq_false, vp9_RightScale_1, Bool.or_eq_false_iff, vin, decide_eq_true_eq, rG_iff, Bool.not_eq_false']
      exact ⟨fun h => ⟨hc.1, hc.2.1, hc.2.2, h.1, h.2⟩, fun h => ⟨h.2.2.2.1, h.2.2.2.2⟩⟩
  · rw [decide_eq_false hc, if_pos (by rfl)]
    exact ⟨false, rfl, by simp only [Bool.false_eq_true, false_iff]; exact fun h => hc ⟨h.1, h.2.1, h.2.2.1⟩⟩
theorem vscale {s : Scale} (hs : SmS s) : ∃ x, vp9_RightScale none s = some x ∧ (x = true ↔ RightS s) := by
  unfold vp9_RightScale vp9_RightScale_j1 RightS
  cases s.hasSizes <;> cases s.hasPics <;> exact vscale_j2 hs _ _
noncomputable def rS (s : Scale) : Bool := @decide (RightS s) (Classical.propDecidable _)
theorem rS_iff {g : Scale} : rS g = true ↔ RightS g := by simp [rS]
theorem vscale_eq {s : Scale} (hs : SmS s) : vp9_RightScale none s = some (rS s) := by
  obtain ⟨x, a, b⟩ := vscale hs
  rw [a]
  congr 1
  rw [Bool.eq_iff_iff, b, rS_iff]
theorem vref {d : Vp9} (hs : d.refs.length ≤ 1000) : ∃ x, vp9_referring none d = some x ∧ (x = true ↔ RefD d) := by
  unfold vp9_referring RefD
  have e : ((!d.flexible) || (!d.inter)) = !(d.flexible && d.inter) := by cases d.flexible <;> cases d.inter <;> rfl
  rw [e]
  cases (d.flexible && d.inter) with
  | false => exact ⟨_, if_pos rfl, by rw [cm_eql]; simp⟩
  | true =>
    rw [if_neg (by decide)]
    refine ⟨_, gand (ContainsFunc_int_eq (p := vp9_referring_1) (by omega) fun _ _ => rfl), ?_⟩
    simp only [Bool.and_eq_true, Bool.not_eq_true', List.any_eq_false, vin, decide_eq_true_eq, vp9_referring_1, Bool.not_eq_true, Bool.not_eq_false, if_true]
    constructor
    · rintro ⟨a, b⟩; exact ⟨by omega, b⟩
    · rintro ⟨a, b⟩; exact ⟨by omega, b⟩
theorem vlay {d : Vp9} : vp9_layered d = true ↔ LayD d := by
  unfold vp9_layered LayD
  cases d.hasLayer <;> simp [vin, cm_eql]
  · constructor
    · rintro ⟨⟨⟨⟨a, b⟩, c⟩, e⟩, f⟩; exact ⟨a, b, c, e, f⟩
    · rintro ⟨a, b, c, e, f⟩; exact ⟨⟨⟨⟨a, b⟩, c⟩, e⟩, f⟩
  · constructor
    · rintro ⟨⟨⟨a, b⟩, c⟩, e⟩; exact ⟨a, b, c, e⟩
    · rintro ⟨a, b, c, e⟩; exact ⟨⟨⟨a, b⟩, c⟩, e⟩
theorem vmost {d : Vp9} : vp9_most d = mostP d := by
  unfold vp9_most mostP
  cases d.hasPic <;> cases d.wide <;> rfl
theorem zSc_iff {s : Scale} : s = zSc ↔ s.layers = 0 ∧ s.hasSizes = false ∧ s.hasPics = false ∧ s.sizes = [] ∧ s.pics = [] := by
  obtain ⟨a, b, c, d, e⟩ := s
  simp only [zSc, Scale.mk.injEq]
  constructor
  · rintro ⟨a, b, c, d, e⟩; exact ⟨a, b, d, c, e⟩
  · rintro ⟨a, b, d, c, e⟩; exact ⟨a, b, c, d, e⟩
theorem vright {d : Vp9} (hs : SmD d) : ∃ x, vp9_Right none d = some x ∧ (x = true ↔ RightD d) := by
  unfold vp9_Right
  obtain ⟨r, h1, h2⟩ := vref hs.refs
  rw [h1]
  have e : (((!(vp9_in d.pic 0 (vp9_most d))) || ((!d.hasPic) && d.wide)) || (!(vp9_layered d))) = !@decide ((0 ≤ d.pic ∧ d.pic ≤ mostP d) ∧ (d.hasPic = true ∨ d.wide = false) ∧ LayD d) (Classical.propDecidable _) := by
    rw [Bool.eq_iff_iff, vin, vmost]
    simp only [Bool.or_eq_true, Bool.not_eq_true', decide_eq_false_iff_not, Bool.and_eq_true]
    have hl := vlay (d := d)
    cases hp : d.hasPic <;> cases hw : d.wide <;> cases hh : vp9_layered d <;> rw [hh] at hl <;> simp at hl ⊢ <;> simp [hl] <;> omega
  rw [e]
  by_cases hc : (0 ≤ d.pic ∧ d.pic ≤ mostP d) ∧ (d.hasPic = true ∨ d.wide = false) ∧ LayD d
  · have hd : @decide _ (Classical.propDecidable ((0 ≤ d.pic ∧ d.pic ≤ mostP d) ∧ (d.hasPic = true ∨ d.wide = false) ∧ LayD d)) = true := by simpa using hc
    rw [hd]
    show ∃ x, (Option.bind (gT true (some r)) fun x1 => _) = _ ∧ _
    rw [gTT]
    show ∃ x, (if (false || !r) = true then _ else _) = _ ∧ _
    cases r with
    | false => exact ⟨false, rfl, by simp only [Bool.false_eq_true, false_iff] at h2 ⊢; exact fun h => h2 h.2.2.2.1⟩
    | true =>
      rw [if_neg (by decide)]
      have hr : RefD d := h2.1 rfl
      have base : ∀ P, (P ↔ ScD d) → (P ↔ RightD d) := fun P h => ⟨fun p => ⟨hc.1, hc.2.1, hc.2.2, hr, h.1 p⟩, fun q => h.2 q.2.2.2.2⟩
      cases hh : d.hasScale with
      | false =>
        refine ⟨_, if_pos rfl, base _ ?_⟩
        unfold ScD
        rw [hh]
        simp only [Bool.false_eq_true, if_false, zSc_iff, cm_eql, Bool.and_eq_true, decide_eq_true_eq, Bool.not_eq_true', Int.natCast_eq_zero, List.length_eq_zero_iff]
        exact ⟨fun ⟨⟨⟨⟨a, b⟩, c⟩, d⟩, e⟩ => ⟨a, b, c, d, e⟩, fun ⟨a, b, c, d, e⟩ => ⟨⟨⟨⟨a, b⟩, c⟩, d⟩, e⟩⟩
      | true =>
        obtain ⟨y, g1, g2⟩ := vscale hs.sc
        refine ⟨y, by rw [if_neg (by decide), bnd g1], base _ ?_⟩
        unfold ScD
        rw [hh, g2]; rfl
  · have hd : @decide _ (Classical.propDecidable ((0 ≤ d.pic ∧ d.pic ≤ mostP d) ∧ (d.hasPic = true ∨ d.wide = false) ∧ LayD d)) = false := by simpa using hc
    rw [hd]
    show ∃ x, (Option.bind (gT false (some r)) fun x1 => _) = _ ∧ _
    rw [gTF]
    exact ⟨false, rfl, by simp only [Bool.false_eq_true, false_iff]; exact fun h => hc ⟨h.1, h.2.1, h.2.2.1⟩⟩
noncomputable def rD (d : Vp9) : Bool := @decide (RightD d) (Classical.propDecidable _)
theorem rD_iff {g : Vp9} : rD g = true ↔ RightD g := by simp [rD]
theorem vright_eq {d : Vp9} (hs : SmD d) : vp9_Right none d = some (rD d) := by
  obtain ⟨x, a, b⟩ := vright hs
  rw [a]
  congr 1
  rw [Bool.eq_iff_iff, b, rD_iff]
theorem RightD.sm {d : Vp9} (h : RightD d) : SmD d := by
  obtain ⟨_, _, _, hf, hs⟩ := h
  unfold RefD at hf
  unfold ScD at hs
  refine ⟨?_, ?_⟩
  · by_cases c : (d.flexible && d.inter) = true
    · rw [if_pos c] at hf; omega
    · rw [if_neg c] at hf; rw [hf]; simp
  · by_cases c : d.hasScale = true
    · rw [if_pos c] at hs
      obtain ⟨a, b, e, f, g⟩ := hs
      refine ⟨?_, ?_, fun x hx => ?_⟩
      · split at e <;> omega
      · split at b <;> omega
      · have := (g x hx).2.1; omega
    · rw [if_neg c] at hs
      rw [hs]
      exact ⟨by simp [zSc], by simp [zSc], fun x hx => by simp [zSc] at hx⟩

open Classical in
/-- the bytes of bits -/
noncomputable def wrD (d : Vp9) : List Int := if h : RightD d then ((through_bytes h).choose).bytes else []
theorem wrD_spec {d : Vp9} (h : RightD d) : U8 (wrD d) ∧ bitsOf (wrD d) = thrW d := by
  unfold wrD
  rw [dif_pos h]
  exact (through_bytes h).choose_spec.2
theorem write_eq {d : Vp9} (hs : SmD d) : vp9_Write none d = some (if rD d then (wrD d, 0) else ([], 1)) := by
  unfold vp9_Write
  rw [bnd (vright_eq hs)]
  cases h : rD d with
  | false => rfl
  | true =>
    have hr := rD_iff.1 h
    rw [if_neg (by decide), bnd (through_bytes hr).choose_spec.1]
    unfold wrD
    rw [dif_pos hr]; rfl
theorem wrD_len {d : Vp9} (h : RightD d) : 8 * (wrD d).length = (thrW d).length := by
  rw [← (wrD_spec h).2, bitsOf_len]
end Xb

namespace Xb
open Go

theorem same_loopG {α σ : Type} [DecidableEq α] {a b : List α} (hl : a.length = b.length) {step : σ → Option (σ ⊕ Bool)} (st : Nat → σ) {r : Bool} (hend : step (st a.length) = some (.inr r))
    (h : ∀ i (hi : i < a.length) (hi' : i < b.length), step (st i) = if a[i] ≠ b[i] then some (.inr false) else some (.inl (st (i + 1)))) :
    loopG none step (st 0) = some (decide (a = b) && r) := by
  have key : ∀ m i, i + m = a.length → a.take i = b.take i → loopG none step (st i) = some (decide (a = b) && r) := by
    intro m
    induction m with
    | zero =>
      intro i hi ht
      have e : i = a.length := by omega
      rw [loopG_eq, e, hend]
      rw [List.take_of_length_le (by omega), List.take_of_length_le (by omega)] at ht
      simp [ht]
    | succ m ih =>
      intro i hi ht
      have hia : i < a.length := by omega
      have hib : i < b.length := by omega
      rw [loopG_eq, h i hia hib]
      by_cases hne : a[i] = b[i]
      · rw [if_neg (by simpa using hne)]
        refine ih (i + 1) (by omega) ?_
        rw [List.take_add_one, List.take_add_one, ht, List.getElem?_eq_getElem hia, List.getElem?_eq_getElem hib, hne]
      · rw [if_pos (by simpa using hne)]
        have : a ≠ b := fun e => hne (by subst e; rfl)
        simp [this]
  exact key a.length 0 (by omega) (by simp)
/-- a search along a list, whatever the state -/
theorem all_loopG {α σ : Type} {a : List α} {step : σ → Option (σ ⊕ Bool)} (st : Nat → σ) {p : α → Bool} {r : Bool} (hend : step (st a.length) = some (.inr r))
    (h : ∀ i (hi : i < a.length), step (st i) = if p a[i] = true then some (.inl (st (i + 1))) else some (.inr false)) :
    loopG none step (st 0) = some (a.all p && r) := by
  have key : ∀ m i, i + m = a.length → (∀ x, x ∈ a.take i → p x = true) → loopG none step (st i) = some (a.all p && r) := by
    intro m
    induction m with
    | zero =>
      intro i hi ht
      have e : i = a.length := by omega
      rw [loopG_eq, e, hend]
      rw [List.take_of_length_le (by omega)] at ht
      have : a.all p = true := List.all_eq_true.2 ht
      simp [this]
    | succ m ih =>
      intro i hi ht
      have hia : i < a.length := by omega
      rw [loopG_eq, h i hia]
      by_cases hne : p a[i] = true
      · rw [if_pos hne]
        refine ih (i + 1) (by omega) fun x hx => ?_
        rw [List.take_add_one, List.getElem?_eq_getElem hia] at hx
        rcases List.mem_append.1 hx with hx | hx
        · exact ht x hx
        · simp at hx; rw [hx]; exact hne
      · rw [if_neg hne]
        have : a.all p = false := by
          rw [← Bool.not_eq_true, List.all_eq_true]
          exact fun q => hne (q _ (List.getElem_mem hia))
        simp [this]
  exact key a.length 0 (by omega) (by simp)

theorem ints_eq {a b : List Int} (ha : a.length ≤ 100000000) : ref24_Ints none a b = some (decide (a = b)) := by
  unfold ref24_Ints ref24_Ints_l1
  by_cases hl : a.length = b.length
  · rw [if_neg (by rw [cm_neq]; simp; omega)]
    refine same_loop (step := fun (s : Int) => ref24_Ints_s1 none a b s) hl (by
      simp only [ref24_Ints_s1, cm_lss, decide_eq_true_eq]
      rw [if_neg (by omega)]; rfl) (fun i hi hi' => by
      simp only [ref24_Ints_s1, cm_lss, decide_eq_true_eq]
      rw [if_pos (by omega), bnd (ix_some rfl hi), bnd (ix_some rfl hi'), cm_neq]
      by_cases hp : a[i] = b[i]
      · rw [if_neg (by simpa using hp), if_neg (by simpa using hp), ar_add, w_i64 (by omega) (by omega)]; rfl
      · rw [if_pos (by simpa using hp), if_pos (by simpa using hp)]; rfl)
  · rw [if_pos (by rw [cm_neq]; simp; omega)]
    have : a ≠ b := fun e => hl (by rw [e])
    simp [this]
theorem bq_neq {a b : Bool} : bq .neq a b = !decide (a = b) := by cases a <;> cases b <;> rfl
theorem bq_eql {a b : Bool} : bq .eql a b = decide (a = b) := by cases a <;> cases b <;> rfl
theorem grp_ext {a b : Group} : a = b ↔ a.tid = b.tid ∧ a.up = b.up ∧ a.refs = b.refs := by
  obtain ⟨a1, a2, a3⟩ := a; obtain ⟨b1, b2, b3⟩ := b; simp
theorem sc_ext {a b : Scale} : a = b ↔ a.layers = b.layers ∧ a.hasSizes = b.hasSizes ∧ a.hasPics = b.hasPics ∧ a.sizes = b.sizes ∧ a.pics = b.pics := by
  obtain ⟨a1, a2, a3, a4, a5⟩ := a; obtain ⟨b1, b2, b3, b4, b5⟩ := b
  simp only [Scale.mk.injEq]
  constructor
  · rintro ⟨a, b, c, d, e⟩; exact ⟨a, b, d, c, e⟩
  · rintro ⟨a, b, d, c, e⟩; exact ⟨a, b, c, d, e⟩
theorem gT_bnd {α β : Type} [Inhabited α] {b : Bool} {m : Option α} {x : α} (hb : b = true) (h : m = some x) (f : α → Option β) : Option.bind (gT b m) f = f x := by subst h; subst hb; rw [gTT]; rfl
theorem sameSc_eq {a b : Scale} (ha : SmS a) : ref24_SameScale none a b = some (decide (a = b)) := by
  unfold ref24_SameScale
  have hA := ha.sizes; have hB := ha.pics
  by_cases hc : a.layers = b.layers ∧ a.hasSizes = b.hasSizes ∧ a.hasPics = b.hasPics ∧ a.sizes.length = b.sizes.length ∧ a.pics.length = b.pics.length
  · obtain ⟨c1, c2, c3, c4, c5⟩ := hc
    rw [if_neg (by simp [cm_neq, bq_neq, c1, c2, c3, c4, c5])]
    unfold ref24_SameScale_l1
    have h2 : ref24_SameScale_l2 none 0 a b = some (decide (a.pics = b.pics)) := by
      unfold ref24_SameScale_l2
      have := same_loopG (step := fun (s : Int × Scale × Scale) => ref24_SameScale_s2 none s.1 s.2.1 s.2.2) (a := a.pics) (b := b.pics) c5 (fun i => (((i : Nat) : Int), a, b)) (r := true) (by
        show ref24_SameScale_s2 none (a.pics.length : Int) a b = _
        unfold ref24_SameScale_s2
        rw [if_neg (by rw [cm_lss]; simp)]; rfl) (fun i hi hi' => by
        show ref24_SameScale_s2 none (i : Int) a b = _
        unfold ref24_SameScale_s2
        rw [if_pos (by rw [cm_lss]; simpa using hi), bnd (ix_some rfl hi), bnd (ix_some rfl hi')]
        by_cases t : a.pics[i].tid = b.pics[i].tid
        · have n1 : (!(cm .neq a.pics[i].tid b.pics[i].tid)) = true := by rw [cm_neq]; simpa using t
          rw [gT_bnd n1 (ix_some rfl hi), gT_bnd n1 (ix_some rfl hi')]
          by_cases u : a.pics[i].up = b.pics[i].up
          · have n2 : (!((cm .neq a.pics[i].tid b.pics[i].tid) || (bq .neq a.pics[i].up b.pics[i].up))) = true := by rw [cm_neq, bq_neq]; simp [t, u]
            have hr := ha.each _ (List.getElem_mem hi)
            rw [gT_bnd n2 (ix_some rfl hi), gT_bnd n2 (ix_some rfl hi'), gT_bnd n2 (ints_eq (by omega))]
            simp only [Bool.not_eq_true'] at n2
            rw [n2]
            by_cases v : a.pics[i].refs = b.pics[i].refs
            · rw [if_neg (by simp [v]), if_neg (by simpa using grp_ext.2 ⟨t, u, v⟩), ar_add, w_i64 (by omega) (by omega)]; rfl
            · rw [if_pos (by simp [v]), if_pos (fun e => v (grp_ext.1 e).2.2)]; rfl
          · have n2 : (!((cm .neq a.pics[i].tid b.pics[i].tid) || (bq .neq a.pics[i].up b.pics[i].up))) = false := by rw [cm_neq, bq_neq]; simp [u]
            rw [n2]
            simp only [Bool.not_eq_false'] at n2
            simp only [gTF, Option.bind_some]
            rw [n2, if_pos (by rfl), if_pos (fun e => u (grp_ext.1 e).2.1)]; rfl
        · have n1 : cm .neq a.pics[i].tid b.pics[i].tid = true := by rw [cm_neq]; simpa using t
          rw [n1]
          simp only [Bool.true_or, Bool.not_true, gTF, Option.bind_some, if_true]
          rw [if_pos (fun e => t (grp_ext.1 e).1)]; rfl)
      simpa using this
    have := same_loopG (step := fun (s : Int) => ref24_SameScale_s1 none a b s) (a := a.sizes) (b := b.sizes) c4 (fun i => ((i : Nat) : Int)) (r := decide (a.pics = b.pics)) (by
      show ref24_SameScale_s1 none a b (a.sizes.length : Int) = _
      unfold ref24_SameScale_s1
      rw [if_neg (by rw [cm_lss]; simp), h2]; rfl) (fun i hi hi' => by
      show ref24_SameScale_s1 none a b (i : Int) = _
      unfold ref24_SameScale_s1
      rw [if_pos (by rw [cm_lss]; simpa using hi), bnd (ix_some rfl hi), bnd (ix_some rfl hi')]
      have e : (!(a.sizes[i].wide == b.sizes[i].wide && (a.sizes[i].high == b.sizes[i].high && true))) = decide (a.sizes[i] ≠ b.sizes[i]) := by
        rw [Bool.eq_iff_iff]
        generalize a.sizes[i] = x
        generalize b.sizes[i] = y
        obtain ⟨x1, x2⟩ := x; obtain ⟨y1, y2⟩ := y
        simp
      rw [e, ar_add, w_i64 (by omega) (by omega)]
      by_cases q : a.sizes[i] = b.sizes[i]
      · rw [if_neg (by simpa using q), if_neg (by simpa using q)]; rfl
      · rw [if_pos (by simpa using q), if_pos (by simpa using q)]; rfl)
    refine this.trans ?_
    congr 1
    rw [Bool.eq_iff_iff]
    simp only [Bool.and_eq_true, decide_eq_true_eq, sc_ext]
    exact ⟨fun ⟨x, y⟩ => ⟨c1, c2, c3, x, y⟩, fun ⟨_, _, _, x, y⟩ => ⟨x, y⟩⟩
  · rw [if_pos ?_]
    · have : a ≠ b := fun e => hc (by subst e; exact ⟨rfl, rfl, rfl, rfl, rfl⟩)
      simp [this]
    · simp only [cm_neq, bq_neq, Bool.or_eq_true, Bool.not_eq_true', decide_eq_false_iff_not, Int.natCast_inj]
      exact Classical.byContradiction fun h => hc (by
        simp only [not_or, Classical.not_not] at h
        exact ⟨h.1.1.1.1, h.1.1.1.2, h.1.1.2, h.1.2, h.2⟩)
theorem same_eq {a b : Vp9} (ha : SmD a) : ref24_Same none a b = some (decide (a = b)) := by
  unfold ref24_Same
  have hr := ha.refs
  obtain ⟨a1, a2, a3, a4, a5, a6, a7, a8, a9, a10, a11, a12, a13, a14, a15, a16, a17⟩ := a
  obtain ⟨b1, b2, b3, b4, b5, b6, b7, b8, b9, b10, b11, b12, b13, b14, b15, b16, b17⟩ := b
  simp only [Vp9.mk.injEq]
  simp only at hr
  have hsc : SmS a16 := ha.sc
  by_cases h1 : a1 = b1 ∧ a2 = b2 ∧ a3 = b3 ∧ a4 = b4 ∧ a5 = b5 ∧ a6 = b6 ∧ a7 = b7 ∧ a8 = b8 ∧ a9 = b9
  · obtain ⟨c1, c2, c3, c4, c5, c6, c7, c8, c9⟩ := h1
    rw [if_neg (by simp [cm_neq, bq_neq, c1, c2, c3, c4, c5, c6, c7, c8, c9])]
    by_cases h2 : a10 = b10 ∧ a11 = b11 ∧ a13 = b13 ∧ a14 = b14 ∧ a15 = b15 ∧ a17 = b17
    · obtain ⟨d1, d2, d3, d4, d5, d6⟩ := h2
      rw [if_neg (by simp [cm_neq, bq_neq, d1, d2, d3, d4, d5, d6]), bnd (ints_eq (by omega))]
      rw [gand (b := decide (a12 = b12)) (F := fun x => x) (sameSc_eq hsc)]
      congr 1
      rw [Bool.eq_iff_iff]
      simp only [Bool.and_eq_true, decide_eq_true_eq]
      exact ⟨fun ⟨x, y⟩ => ⟨c1, c2, c3, c4, c5, c6, c7, c8, c9, d1, d2, x, d3, d4, d5, y, d6⟩, fun h => ⟨h.2.2.2.2.2.2.2.2.2.2.2.1, h.2.2.2.2.2.2.2.2.2.2.2.2.2.2.2.1⟩⟩
    · rw [if_pos ?_]
      · congr 1
        rw [eq_comm, decide_eq_false_iff_not]
        exact fun ⟨_, _, _, _, _, _, _, _, _, d1, d2, _, d3, d4, d5, _, d6⟩ => h2 ⟨d1, d2, d3, d4, d5, d6⟩
      · simp only [cm_neq, bq_neq, Bool.or_eq_true, Bool.not_eq_true', decide_eq_false_iff_not]
        exact Classical.byContradiction fun h => h2 (by
          simp only [not_or, Classical.not_not] at h
          exact ⟨h.1.1.1.1.1, h.1.1.1.1.2, h.1.1.1.2, h.1.1.2, h.1.2, h.2⟩)
  · rw [if_pos ?_]
    · congr 1
      rw [eq_comm, decide_eq_false_iff_not]
      exact fun ⟨c1, c2, c3, c4, c5, c6, c7, c8, c9, _⟩ => h1 ⟨c1, c2, c3, c4, c5, c6, c7, c8, c9⟩
    · simp only [cm_neq, bq_neq, Bool.or_eq_true, Bool.not_eq_true', decide_eq_false_iff_not]
      exact Classical.byContradiction fun h => h1 (by
        simp only [not_or, Classical.not_not] at h
        exact ⟨h.1.1.1.1.1.1.1.1, h.1.1.1.1.1.1.1.2, h.1.1.1.1.1.1.2, h.1.1.1.1.1.2, h.1.1.1.1.2, h.1.1.1.2, h.1.1.2, h.1.2, h.2⟩)

theorem short_eq {d : Vp9} (hw : d.scale.pics.length ≤ maxLen) : ∃ x, ref24_Short none d = some x ∧ (x = true → SmD d) := by
  unfold ref24_Short ref24_Short_l1
  have st : ∀ i : Nat, i < d.scale.pics.length → i < 400 → ∀ hi : i < d.scale.pics.length, ref24_Short_s1 none d (i : Int) = if decide (d.scale.pics[i].refs.length ≤ 99) = true then some (.inl ((i + 1 : Nat) : Int)) else some (.inr false) := by
    intro i h1 h2 hi
    unfold ref24_Short_s1
    rw [if_pos (by simp [cm_lss, h1]; omega), bnd (ix_some rfl hi), cm_gtr]
    by_cases q : d.scale.pics[i].refs.length ≤ 99
    · rw [if_neg (by simp; omega), if_pos (by simpa using q), ar_add, w_i64 (by omega) (by omega)]; rfl
    · rw [if_pos (by simp; omega), if_neg (by simpa using q)]; rfl
  have en : ∀ i : Nat, ¬ (i < d.scale.pics.length ∧ i < 400) → ref24_Short_s1 none d (i : Int) = some (.inr (decide (d.refs.length ≤ 99 ∧ d.scale.sizes.length ≤ 99 ∧ d.scale.pics.length ≤ 400))) := by
    intro i h
    unfold ref24_Short_s1
    rw [if_neg (by simp [cm_lss]; omega)]
    show some (Sum.inr _) = _
    congr 2
    rw [Bool.eq_iff_iff]
    simp only [cm_leq, Bool.and_eq_true, decide_eq_true_eq]; omega
  by_cases hc : d.scale.pics.length ≤ 400
  · have := all_loopG (step := fun (s : Int) => ref24_Short_s1 none d s) (a := d.scale.pics) (fun i => ((i : Nat) : Int)) (p := fun g => decide (g.refs.length ≤ 99)) (en d.scale.pics.length (by omega)) (fun i hi => st i hi (by omega) hi)
    refine ⟨_, this, fun h => ?_⟩
    simp only [Bool.and_eq_true, List.all_eq_true, decide_eq_true_eq] at h
    exact ⟨by omega, by omega, by omega, fun g hg => by have := h.1 g hg; omega⟩
  · have hlen : (d.scale.pics.take 400).length = 400 := by rw [List.length_take]; omega
    have := all_loopG (step := fun (s : Int) => ref24_Short_s1 none d s) (a := d.scale.pics.take 400) (fun i => ((i : Nat) : Int)) (p := fun g => decide (g.refs.length ≤ 99)) (en _ (by omega)) (fun i hi => by
      rw [List.getElem_take]; exact st i (by omega) (by omega) (by omega))
    refine ⟨_, this, fun h => ?_⟩
    simp only [Bool.and_eq_true, decide_eq_true_eq] at h
    omega

theorem equal_eq {a b : List Int} (ha : a.length ≤ 100000000000) : slices_Equal_byte none a b = some (decide (a = b)) := by
  unfold slices_Equal_byte slices_Equal_byte_l1
  by_cases hl : a.length = b.length
  · rw [if_neg (by rw [cm_neq]; simp; omega)]
    refine same_loop (step := fun (s : Int) => slices_Equal_byte_s1 none a b s) hl (by
      simp only [slices_Equal_byte_s1, cm_lss, decide_eq_true_eq]
      rw [if_neg (by omega)]; rfl) (fun i hi hi' => by
      simp only [slices_Equal_byte_s1, cm_lss, decide_eq_true_eq]
      rw [if_pos (by omega), bnd (ix_some rfl hi), bnd (ix_some rfl hi'), cm_neq]
      by_cases hp : a[i] = b[i]
      · rw [if_neg (by simpa using hp), if_neg (by simpa using hp), ar_add, w_i64 (by omega) (by omega)]; rfl
      · rw [if_pos (by simpa using hp), if_pos (by simpa using hp)]; rfl)
  · rw [if_pos (by rw [cm_neq]; simp; omega)]
    have : a ≠ b := fun e => hl (by rw [e])
    simp [this]
/-- what is read -/
theorem rdV_cases {b : List Int} : (∃ d R, thrS (.ok (bitsOf b)) = (d, .ok R) ∧ rdV b = (d, (8 * (b.length : Int) - R.length) / 8, 0) ∧ RightD d ∧ R.length + 8 ≤ 8 * b.length) ∨
    (∃ d e, thrS (.ok (bitsOf b)) = (d, .error e) ∧ rdV b = (zD, 0, e)) := by
  unfold rdV
  cases h : thrS (.ok (bitsOf b)) with
  | mk d s =>
    cases s with
    | ok R =>
      obtain ⟨h1, _, h3⟩ := Pst.thr _ _ _ (bitsOf_bin b) h
      rw [bitsOf_len] at h3
      exact .inl ⟨d, R, rfl, rfl, h1, h3⟩
    | error e => exact .inr ⟨d, e, rfl, rfl⟩
end Xb

namespace Xb
open Go

theorem zD_sm : SmD zD := ⟨by simp [zD], ⟨by simp [zD, zSc], by simp [zD, zSc], fun g hg => by simp [zD, zSc] at hg⟩⟩
theorem err_ne {b : List Int} (hb : By b) {d : Vp9} {e : Int} (h : thrS (.ok (bitsOf b)) = (d, .error e)) : e ≠ 0 := by
  obtain ⟨c, _, b1⟩ := thr_imp hb ⟨b, 0, 0⟩ (.ok (bitsOf b)) (Rep.start b)
  rw [h] at b1
  exact b1.st.2
theorem canon_eq {b : List Int} (hb : By b) : vp9_Canon none b = some (decide ((rdV b).2.2 = 0 ∧ wrD (rdV b).1 = b.take (rdV b).2.1.toNat)) := by
  unfold vp9_Canon
  rw [bnd (read_eq hb)]
  rcases rdV_cases (b := b) with ⟨d, R, _, h2, h3, h4⟩ | ⟨d, e, h1, h2⟩
  · rw [h2]
    simp only
    rw [if_neg (by decide), bnd (write_eq h3.sm), rD_iff.2 h3, if_pos rfl]
    simp only
    rw [bnd (sub_some (by omega) (by omega) (by omega)), Int.toNat_zero, List.drop_zero, Nat.sub_zero]
    have := wrD_len h3; have := thrW_le h3
    rw [bnd (equal_eq (by omega))]
    simp
  · rw [h2]
    have := err_ne hb h1
    simp only
    rw [if_pos (by rw [cm_neq]; simpa using this)]
    simp [this]

/-! what is read, exactly -/
def Dec {α : Type} (f : RD α) (Q : α → List Int → Prop) : Prop := ∀ R a rest, bin R → f (.ok R) = (a, .ok rest) → ∃ X, R = X ++ rest ∧ Q a X
theorem Dec.pr {α : Type} {a : α} {Q : α → List Int → Prop} (h : Q a []) : Dec (pr a) Q := fun R a' rest _ e => by
  cases e; exact ⟨[], rfl, h⟩
theorem Dec.bd {α β : Type} {f : RD α} {g : α → RD β} {P : α → List Int → Prop} {Q : β → List Int → Prop} (hf : Dec f P) (hg : ∀ a X, P a X → Dec (g a) (fun b Y => Q b (X ++ Y))) (he : ∀ a, ErrP (g a)) : Dec (bdR f g) Q := by
  intro R b rest hb e
  change g (f (.ok R)).1 (f (.ok R)).2 = _ at e
  cases hr : (f (.ok R)).2 with
  | error x =>
    rw [hr] at e
    have := he (f (.ok R)).1 x
    rw [e] at this; cases this
  | ok S =>
    rw [hr] at e
    obtain ⟨X, h1, h2⟩ := hf R (f (.ok R)).1 S hb (by rw [← hr])
    rw [h1] at hb
    obtain ⟨Y, q1, q2⟩ := hg _ X h2 S b rest hb.right e
    exact ⟨X ++ Y, by rw [h1, q1, List.append_assoc], q2⟩
theorem Dec.gN (w : Nat) : Dec (gN w) (fun a X => X = nb w a ∧ 0 ≤ a ∧ a < 2 ^ w) := by
  intro R a rest hb e
  have hbd := gN_bd (w := w) (s := .ok R) (fun R' h => by cases h; exact hb)
  rw [e] at hbd
  unfold Xb.gN at e
  simp only at e
  by_cases h : R.length < w
  · rw [if_pos h] at e; cases e
  · rw [if_neg h] at e
    cases e
    refine ⟨R.take w, (List.take_append_drop w R).symm, ?_, hbd⟩
    have := nb_num (hb.take w)
    rw [List.length_take, Nat.min_eq_left (by omega)] at this
    exact this.symm
theorem Dec.tS : Dec tS (fun a X => X = wb a) := by
  refine Dec.bd (.gN 1) (fun a X h => ?_) fun _ => .pr _
  refine .pr ?_
  obtain ⟨h1, h2, h3⟩ := h
  rw [List.append_nil, h1]
  have : a = 0 ∨ a = 1 := by omega
  rcases this with rfl | rfl <;> rfl
theorem Dec.opt {α : Type} {b : Bool} {f : RD α} {z : α} {Q : α → List Int → Prop} (h : b = true → Dec f Q) (hz : b = false → Q z []) : Dec (opt b f z) Q := by
  unfold Xb.opt
  cases b with
  | true => exact h rfl
  | false => exact .pr (hz rfl)
def hdX (h : Bool) (p : Bool × Int) : List Int := if h then wb p.1 ++ nb (if p.1 then 15 else 7) p.2 else []
def layX (h fl : Bool) (y : Int × Bool × Int × Bool × Int) : List Int := if h then nb 3 y.1 ++ (wb y.2.1 ++ (nb 3 y.2.2.1 ++ (wb y.2.2.2.1 ++ optW (!fl) (nb 8 y.2.2.2.2)))) else []
theorem Dec.hd {h : Bool} : Dec (Xb.opt h hdS (false, 0)) (fun p X => X = hdX h p) := by
  refine .opt (fun e => ?_) (fun e => by subst e; rfl)
  subst e
  refine Dec.bd .tS (fun w X hX => ?_) fun _ => .bd (.gN _) fun _ => .pr _
  refine Dec.bd (.gN _) (fun p Y hY => ?_) fun _ => .pr _
  refine .pr ?_
  rw [List.append_nil, hX, hY.1]; rfl
theorem Dec.lay {h fl : Bool} : Dec (Xb.opt h (layS fl) (0, false, 0, false, 0)) (fun y X => X = layX h fl y) := by
  refine .opt (fun e => ?_) (fun e => by subst e; rfl)
  subst e
  refine Dec.bd (.gN _) (fun a X hX => ?_) fun _ => .bd .tS fun _ => .bd (.gN _) fun _ => .bd .tS fun _ => .bd (.opt (.gN _)) fun _ => .pr _
  refine Dec.bd .tS (fun b X2 hX2 => ?_) fun _ => .bd (.gN _) fun _ => .bd .tS fun _ => .bd (.opt (.gN _)) fun _ => .pr _
  refine Dec.bd (.gN _) (fun c X3 hX3 => ?_) fun _ => .bd .tS fun _ => .bd (.opt (.gN _)) fun _ => .pr _
  refine Dec.bd .tS (fun d X4 hX4 => ?_) fun _ => .bd (.opt (.gN _)) fun _ => .pr _
  refine Dec.bd (P := fun l Y => Y = optW (!fl) (nb 8 l)) (.opt (fun e => fun R a rest hb q => ?_) fun e => ?_) (fun l X5 hX5 => ?_) fun _ => .pr _
  · obtain ⟨X, h1, h2, _⟩ := Dec.gN 8 R a rest hb q
    exact ⟨X, h1, by rw [e]; exact h2⟩
  · rw [e]; rfl
  · refine .pr ?_
    rw [List.append_nil, hX.1, hX2, hX3.1, hX4, hX5]; rfl

/-- the octets ahead -/
def hbD (d : Vp9) : List Int := [(if d.hasPic then 128 else 0) + (if d.inter then 64 else 0) + (if d.hasLayer then 32 else 0) + (if d.flexible then 16 else 0) + (if d.begin then 8 else 0) + (if d.end_ then 4 else 0) + (if d.hasScale then 2 else 0) + (if d.notRef then 1 else 0)]
def pbD (d : Vp9) : List Int := if d.hasPic then (if d.wide then [128 + d.pic / 256, d.pic % 256] else [d.pic]) else []
def lbD (d : Vp9) : List Int := if d.hasLayer then (if d.flexible then [32 * d.tid + (if d.up then 16 else 0) + 2 * d.sid + (if d.depends then 1 else 0)] else [32 * d.tid + (if d.up then 16 else 0) + 2 * d.sid + (if d.depends then 1 else 0), d.level]) else []
def h8 (d : Vp9) : List Int := wb d.hasPic ++ (wb d.inter ++ (wb d.hasLayer ++ (wb d.flexible ++ (wb d.begin ++ (wb d.end_ ++ (wb d.hasScale ++ wb d.notRef))))))
theorem wb_eq (b : Bool) : wb b = [if b then 1 else 0] := by cases b <;> rfl
theorem hbD_bits (d : Vp9) : bitsOf (hbD d) = h8 d := by
  rw [hbD, bitsOf_cons, nb8]
  simp only [h8, wb_eq]
  cases d.hasPic <;> cases d.inter <;> cases d.hasLayer <;> cases d.flexible <;> cases d.begin <;> cases d.end_ <;> cases d.hasScale <;> cases d.notRef <;> rfl
theorem nb_split (a b : Nat) (v : Int) : nb (a + b) v = nb a (v / 2 ^ b) ++ nb b v := by
  induction b generalizing v with
  | zero => simp [nb]
  | succ b ih =>
    have e : (2 : Int) ^ (b + 1) = 2 * 2 ^ b := by rw [Int.pow_succ, Int.mul_comm]
    have e2 : v / 2 / 2 ^ b = v / 2 ^ (b + 1) := by rw [e, Int.ediv_ediv_of_nonneg (by decide)]
    rw [← Nat.add_assoc, nb, ih, nb, e2, List.append_assoc]
theorem nb_mod (b : Nat) (v w : Int) (h : v % 2 ^ b = w % 2 ^ b) : nb b v = nb b w := by
  induction b generalizing v w with
  | zero => rfl
  | succ b ih =>
    have e : (2 : Int) ^ (b + 1) = 2 * 2 ^ b := by rw [Int.pow_succ, Int.mul_comm]
    rw [e] at h
    have hp : (0 : Int) < 2 ^ b := Int.pow_pos (by decide)
    have m1 : ∀ x : Int, x % (2 * 2 ^ b) % 2 = x % 2 := fun x => Int.emod_emod_of_dvd x ⟨2 ^ b, rfl⟩
    have m2 : ∀ x : Int, x % (2 * 2 ^ b) / 2 = x / 2 % 2 ^ b := fun x => by
      have h1 := Int.emod_add_mul_ediv x (2 * 2 ^ b)
      have h2 : x / (2 * 2 ^ b) = x / 2 / 2 ^ b := (Int.ediv_ediv_of_nonneg (by decide)).symm
      have h3 := Int.emod_add_mul_ediv (x / 2) (2 ^ b)
      rw [h2] at h1
      generalize x % (2 * 2 ^ b) = r at *
      generalize x / 2 / 2 ^ b = q at *
      generalize x / 2 % 2 ^ b = s at *
      rw [Int.mul_assoc] at h1
      generalize 2 ^ b * q = t at *
      omega
    rw [nb, nb, ih (v / 2) (w / 2) (by rw [← m2, ← m2, h])]
    rw [← m1 v, ← m1 w, h]
theorem bits1 (v : Int) : bitsOf [v] = nb 8 v := by rw [bitsOf_cons]; simp [bitsOf]
theorem bits2 (v w : Int) : bitsOf [v, w] = nb 8 v ++ nb 8 w := by rw [bitsOf_cons, bits1]
theorem pbD_bits {d : Vp9} (h0 : 0 ≤ d.pic ∧ d.pic ≤ mostP d) : bitsOf (pbD d) = hdX d.hasPic (d.wide, d.pic) := by
  unfold pbD hdX
  unfold mostP at h0
  cases d.hasPic with
  | false => rfl
  | true =>
    simp only [if_true] at h0 ⊢
    cases hw : d.wide with
    | true =>
      rw [hw] at h0
      simp only [if_true] at h0 ⊢
      rw [bits2, show nb 8 (128 + d.pic / 256) = nb (1 + 7) (128 + d.pic / 256) from rfl, nb_split, wb_eq]
      rw [show nb 15 d.pic = nb (7 + 8) d.pic from rfl, nb_split 7 8]
      have e1 : nb 1 ((128 + d.pic / 256) / 2 ^ 7) = [1] := by
        show [(128 + d.pic / 256) / 2 ^ 7 % 2] = [1]
        congr 1; omega
      have e2 : nb 7 (128 + d.pic / 256) = nb 7 (d.pic / 2 ^ 8) := nb_mod 7 _ _ (by omega)
      have e3 : nb 8 (d.pic % 256) = nb 8 d.pic := nb_mod 8 _ _ (by omega)
      rw [e1, e2, e3]; simp
    | false =>
      rw [hw] at h0
      simp only [Bool.false_eq_true, if_false] at h0 ⊢
      rw [bits1, show nb 8 d.pic = nb (1 + 7) d.pic from rfl, nb_split, wb_eq]
      have e1 : nb 1 (d.pic / 2 ^ 7) = [0] := by
        show [d.pic / 2 ^ 7 % 2] = [0]
        congr 1; omega
      rw [e1]; rfl
theorem lbD_bits {d : Vp9} (h : LayD d) : bitsOf (lbD d) = layX d.hasLayer d.flexible (d.tid, d.up, d.sid, d.depends, d.level) := by
  unfold lbD layX
  unfold LayD at h
  cases hl : d.hasLayer with
  | false => rfl
  | true =>
    rw [hl] at h
    simp only [if_true] at h ⊢
    obtain ⟨a, b, c, e⟩ := h
    have key : nb 8 (32 * d.tid + (if d.up then 16 else 0) + 2 * d.sid + (if d.depends then 1 else 0)) = nb 3 d.tid ++ (wb d.up ++ (nb 3 d.sid ++ wb d.depends)) := by
      have s1 : ∀ v : Int, nb 8 v = nb 3 (v / 2 ^ 5) ++ (nb 1 (v / 2 ^ 4) ++ (nb 3 (v / 2 ^ 1) ++ nb 1 v)) := fun v => by
        rw [show nb 8 v = nb (3 + 5) v from rfl, nb_split, show nb 5 v = nb (1 + 4) v from rfl, nb_split, show nb 4 v = nb (3 + 1) v from rfl, nb_split]
      rw [s1]
      have hu : ∀ b : Bool, (0 : Int) ≤ (if b then 1 else 0) ∧ (if b then 1 else 0 : Int) ≤ 1 := fun b => by cases b <;> decide
      have hu16 : (if d.up then 16 else 0 : Int) = 16 * (if d.up then 1 else 0) := by cases d.up <;> rfl
      rw [wb, wb, hu16]
      have q1 := hu d.up; have q2 := hu d.depends
      generalize (if d.up then 1 else 0 : Int) = u at *
      generalize (if d.depends then 1 else 0 : Int) = p at *
      rw [nb_mod 3 ((32 * d.tid + 16 * u + 2 * d.sid + p) / 2 ^ 5) d.tid (by omega), nb_mod 1 ((32 * d.tid + 16 * u + 2 * d.sid + p) / 2 ^ 4) u (by omega),
        nb_mod 3 ((32 * d.tid + 16 * u + 2 * d.sid + p) / 2 ^ 1) d.sid (by omega), nb_mod 1 (32 * d.tid + 16 * u + 2 * d.sid + p) p (by omega)]
    cases hf : d.flexible with
    | true => simp only [if_true]; rw [bits1, key]; simp [optW]
    | false => simp only [Bool.false_eq_true, if_false]; rw [bits2, key]; simp [optW]
def tailD (d : Vp9) : RD Vp9 := tailS d.hasPic d.inter d.hasLayer d.flexible d.begin d.end_ d.hasScale d.notRef (d.wide, d.pic) (d.tid, d.up, d.sid, d.depends, d.level)
theorem bd_inv {α β : Type} {f : RD α} {g : α → RD β} {P : α → List Int → Prop} {R rest : List Int} {b : β} (hb : bin R) (e : bdR f g (.ok R) = (b, .ok rest)) (he : ∀ a, ErrP (g a)) (hf : Dec f P) :
    ∃ a X S, R = X ++ S ∧ P a X ∧ bin S ∧ g a (.ok S) = (b, .ok rest) := by
  change g (f (.ok R)).1 (f (.ok R)).2 = _ at e
  cases hr : (f (.ok R)).2 with
  | error x =>
    rw [hr] at e
    have := he (f (.ok R)).1 x
    rw [e] at this; cases this
  | ok S =>
    rw [hr] at e
    obtain ⟨X, h1, h2⟩ := hf R (f (.ok R)).1 S hb (by rw [← hr])
    exact ⟨_, X, S, h1, h2, by rw [h1] at hb; exact hb.right, e⟩
/-- what was read stands there -/
theorem thr_dec {R rest : List Int} {d : Vp9} (hb : bin R) (e : thrS (.ok R) = (d, .ok rest)) :
    ∃ T, R = h8 d ++ (hdX d.hasPic (d.wide, d.pic) ++ (layX d.hasLayer d.flexible (d.tid, d.up, d.sid, d.depends, d.level) ++ T)) ∧ tailD d (.ok T) = (d, .ok rest) := by
  obtain ⟨b1, X1, S1, r1, p1, c1, e1⟩ := bd_inv hb e (fun _ => .bd .tS fun _ => .bd .tS fun _ => .bd .tS fun _ => .bd .tS fun _ => .bd .tS fun _ => .bd .tS fun _ => .bd .tS fun _ => .bd (.opt .hd) fun _ => .bd (.opt (.lay _)) fun _ => .tail) .tS
  obtain ⟨b2, X2, S2, r2, p2, c2, e2⟩ := bd_inv c1 e1 (fun _ => .bd .tS fun _ => .bd .tS fun _ => .bd .tS fun _ => .bd .tS fun _ => .bd .tS fun _ => .bd .tS fun _ => .bd (.opt .hd) fun _ => .bd (.opt (.lay _)) fun _ => .tail) .tS
  obtain ⟨b3, X3, S3, r3, p3, c3, e3⟩ := bd_inv c2 e2 (fun _ => .bd .tS fun _ => .bd .tS fun _ => .bd .tS fun _ => .bd .tS fun _ => .bd .tS fun _ => .bd (.opt .hd) fun _ => .bd (.opt (.lay _)) fun _ => .tail) .tS
  obtain ⟨b4, X4, S4, r4, p4, c4, e4⟩ := bd_inv c3 e3 (fun _ => .bd .tS fun _ => .bd .tS fun _ => .bd .tS fun _ => .bd .tS fun _ => .bd (.opt .hd) fun _ => .bd (.opt (.lay _)) fun _ => .tail) .tS
  obtain ⟨b5, X5, S5, r5, p5, c5, e5⟩ := bd_inv c4 e4 (fun _ => .bd .tS fun _ => .bd .tS fun _ => .bd .tS fun _ => .bd (.opt .hd) fun _ => .bd (.opt (.lay _)) fun _ => .tail) .tS
  obtain ⟨b6, X6, S6, r6, p6, c6, e6⟩ := bd_inv c5 e5 (fun _ => .bd .tS fun _ => .bd .tS fun _ => .bd (.opt .hd) fun _ => .bd (.opt (.lay _)) fun _ => .tail) .tS
  obtain ⟨b7, X7, S7, r7, p7, c7, e7⟩ := bd_inv c6 e6 (fun _ => .bd .tS fun _ => .bd (.opt .hd) fun _ => .bd (.opt (.lay _)) fun _ => .tail) .tS
  obtain ⟨b8, X8, S8, r8, p8, c8, e8⟩ := bd_inv c7 e7 (fun _ => .bd (.opt .hd) fun _ => .bd (.opt (.lay _)) fun _ => .tail) .tS
  obtain ⟨b9, X9, S9, r9, p9, c9, e9⟩ := bd_inv c8 e8 (fun _ => .bd (.opt (.lay _)) fun _ => .tail) .hd
  obtain ⟨ba, Xa, Sa, ra, pa, ca, ea⟩ := bd_inv c9 e9 (fun _ => .tail) .lay
  have hd : d = (tailS b1 b2 b3 b4 b5 b6 b7 b8 b9 ba (.ok Sa)).1 := by rw [ea]
  have ea' := ea
  rw [hd] at ea'
  subst hd
  refine ⟨Sa, ?_, ea⟩
  rw [r1, r2, r3, r4, r5, r6, r7, r8, r9, ra, p1, p2, p3, p4, p5, p6, p7, p8, p9, pa]
  simp only [h8, List.append_assoc]
  rfl
theorem thr_cod {k : Vp9} (h0 : 0 ≤ k.pic ∧ k.pic ≤ mostP k) (h1 : k.hasPic = true ∨ k.wide = false) (h2 : LayD k) (T : List Int) :
    thrS (.ok (h8 k ++ (hdX k.hasPic (k.wide, k.pic) ++ (layX k.hasLayer k.flexible (k.tid, k.up, k.sid, k.depends, k.level) ++ T)))) = tailD k (.ok T) := by
  unfold thrS h8
  simp only [List.append_assoc]
  have st : ∀ {β : Type} (b : Bool) (g : Bool → RD β) (S : List Int), bdR tS g (.ok (wb b ++ S)) = g b (.ok S) := fun b g S => by
    show g (tS (.ok (wb b ++ S))).1 (tS (.ok (wb b ++ S))).2 = _
    rw [(Cod.tS b).full]
  rw [st, st, st, st, st, st, st, st]
  show (fun p => bdR _ _) (Xb.opt k.hasPic hdS (false, 0) (.ok (hdX k.hasPic (k.wide, k.pic) ++ _))).1 (Xb.opt k.hasPic hdS (false, 0) (.ok (hdX k.hasPic (k.wide, k.pic) ++ _))).2 = _
  rw [show hdX k.hasPic (k.wide, k.pic) = optW k.hasPic (hdW k) from rfl, (Cod.hd h0 h1).full]
  show (fun p => tailS _ _ _ _ _ _ _ _ _ p) (Xb.opt k.hasLayer (layS k.flexible) (0, false, 0, false, 0) (.ok (layX k.hasLayer k.flexible (k.tid, k.up, k.sid, k.depends, k.level) ++ T))).1 (Xb.opt k.hasLayer (layS k.flexible) (0, false, 0, false, 0) (.ok (layX k.hasLayer k.flexible (k.tid, k.up, k.sid, k.depends, k.level) ++ T))).2 = _
  rw [show layX k.hasLayer k.flexible (k.tid, k.up, k.sid, k.depends, k.level) = optW k.hasLayer (layW k) from rfl, (Cod.lay h2).full]
  rfl
theorem tailD_with (d : Vp9) (p l : Int) (s : RS) : tailD { d with pic := p, level := l } s = ({ (tailD d s).1 with pic := p, level := l }, (tailD d s).2) := rfl
theorem bits_split {b c T : List Int} (hb : U8 b) (hc : U8 c) (h : bitsOf b = bitsOf c ++ T) : b = c ++ b.drop c.length ∧ T = bitsOf (b.drop c.length) := by
  have hl := congrArg List.length h
  rw [List.length_append, bitsOf_len, bitsOf_len] at hl
  have e : b = b.take c.length ++ b.drop c.length := (List.take_append_drop _ _).symm
  rw [e, bitsOf_app] at h
  have hl2 : (b.take c.length).length = c.length := by rw [List.length_take]; omega
  obtain ⟨q1, q2⟩ := List.append_inj h (by rw [bitsOf_len, bitsOf_len, hl2])
  have q3 : b.take c.length = c := bytes_ext (fun x hx => hb x (List.mem_of_mem_take hx)) hc q1
  exact ⟨by conv => lhs; rw [e, q3], q2.symm⟩
theorem hbD_u8 (d : Vp9) : U8 (hbD d) := fun x hx => by
  simp only [hbD, List.mem_singleton] at hx
  subst hx
  have h2 : ∀ (b : Bool) (n : Int), 0 ≤ n → 0 ≤ (if b then n else 0) ∧ (if b then n else 0) ≤ n := fun b n hn => by cases b <;> simp [hn]
  have a1 := h2 d.hasPic 128 (by decide); have a2 := h2 d.inter 64 (by decide); have a3 := h2 d.hasLayer 32 (by decide); have a4 := h2 d.flexible 16 (by decide)
  have a5 := h2 d.begin 8 (by decide); have a6 := h2 d.end_ 4 (by decide); have a7 := h2 d.hasScale 2 (by decide); have a8 := h2 d.notRef 1 (by decide)
  omega
theorem pbD_u8 {d : Vp9} (h0 : 0 ≤ d.pic ∧ d.pic ≤ mostP d) : U8 (pbD d) := by
  unfold pbD
  unfold mostP at h0
  intro x hx
  cases hp : d.hasPic <;> rw [hp] at hx h0
  · simp at hx
  · cases hw : d.wide <;> rw [hw] at hx h0 <;> simp at hx h0 <;> omega
theorem lbD_u8 {d : Vp9} (h : LayD d) : U8 (lbD d) := by
  unfold lbD
  unfold LayD at h
  intro x hx
  cases hp : d.hasLayer <;> rw [hp] at hx h
  · simp at hx
  · simp only [if_true] at h
    have h2 : ∀ (b : Bool) (n : Int), 0 ≤ n → 0 ≤ (if b then n else 0) ∧ (if b then n else 0) ≤ n := fun b n hn => by cases b <;> simp [hn]
    have a1 := h2 d.up 16 (by decide); have a2 := h2 d.depends 1 (by decide)
    obtain ⟨p1, p2, p3, _⟩ := h
    cases hw : d.flexible <;> rw [hw] at hx <;> simp only [if_true, Bool.false_eq_true, if_false, List.mem_cons, List.mem_singleton, List.not_mem_nil, or_false] at hx
    · rcases hx with hx | hx <;> omega
    · omega
def headD (d : Vp9) : List Int := hbD d ++ (pbD d ++ lbD d)
theorem headD_u8 {d : Vp9} (h0 : 0 ≤ d.pic ∧ d.pic ≤ mostP d) (h : LayD d) : U8 (headD d) := (hbD_u8 d).app ((pbD_u8 h0).app (lbD_u8 h))
theorem headD_bits {d : Vp9} (h0 : 0 ≤ d.pic ∧ d.pic ≤ mostP d) (h : LayD d) : bitsOf (headD d) = h8 d ++ (hdX d.hasPic (d.wide, d.pic) ++ layX d.hasLayer d.flexible (d.tid, d.up, d.sid, d.depends, d.level)) := by
  rw [headD, bitsOf_app, bitsOf_app, hbD_bits, pbD_bits h0, lbD_bits h]
/-- bytes that are read begin with its head -/
theorem read_head {b : List Int} (hb : U8 b) {d : Vp9} {R : List Int} (e : thrS (.ok (bitsOf b)) = (d, .ok R)) (hd : RightD d) :
    ∃ tb, b = headD d ++ tb ∧ tailD d (.ok (bitsOf tb)) = (d, .ok R) := by
  obtain ⟨T, h1, h2⟩ := thr_dec (bitsOf_bin b) e
  obtain ⟨q1, q2⟩ := bits_split hb (headD_u8 hd.1 hd.2.2.1) (T := T) (by rw [h1, headD_bits hd.1 hd.2.2.1]; simp only [List.append_assoc])
  exact ⟨_, q1, by rw [← q2]; exact h2⟩
theorem head_read {k : Vp9} (h0 : 0 ≤ k.pic ∧ k.pic ≤ mostP k) (h1 : k.hasPic = true ∨ k.wide = false) (h2 : LayD k) (tb : List Int) : thrS (.ok (bitsOf (headD k ++ tb))) = tailD k (.ok (bitsOf tb)) := by
  rw [bitsOf_app, headD_bits h0 h2]
  have := thr_cod h0 h1 h2 (bitsOf tb)
  simpa only [List.append_assoc] using this
end Xb

namespace Xb
open Go

/-- the descriptor with other numbers -/
def spD (d : Vp9) (pic : Int) : Bool := d.hasPic && decide (pic ≠ -1)
def slD (d : Vp9) (level : Int) : Bool := d.hasLayer && !d.flexible && decide (level ≠ -1)
def kD (d : Vp9) (pic level : Int) : Vp9 := { d with pic := if spD d pic then pic else d.pic, level := if slD d level then level else d.level }
theorem kD_right {d : Vp9} (h : RightD d) (pic level : Int) : RightD (kD d pic level) ↔ (spD d pic = true → 0 ≤ pic ∧ pic ≤ mostP d) ∧ (slD d level = true → 0 ≤ level ∧ level ≤ 255) := by
  obtain ⟨a, b, c, e, f⟩ := h
  have hm : mostP (kD d pic level) = mostP d := rfl
  constructor
  · rintro ⟨a', b', c', _, _⟩
    rw [hm] at a'
    refine ⟨fun hp => ?_, fun hl => ?_⟩
    · simp only [kD, hp, if_true] at a'; exact a'
    · have hl2 := hl
      simp only [slD, Bool.and_eq_true] at hl2
      unfold LayD at c'
      simp only [kD, hl, if_true, hl2.1.1] at c'
      exact c'.2.2.1
  · rintro ⟨hp, hl⟩
    refine ⟨?_, b, ?_, e, f⟩
    · rw [hm]
      show 0 ≤ (if spD d pic then pic else d.pic) ∧ (if spD d pic then pic else d.pic) ≤ mostP d
      split
      · rename_i q; exact hp q
      · exact a
    · unfold LayD at c ⊢
      show if d.hasLayer then (0 ≤ d.tid ∧ d.tid ≤ 7) ∧ (0 ≤ d.sid ∧ d.sid ≤ 7) ∧ (0 ≤ (if slD d level then level else d.level) ∧ (if slD d level then level else d.level) ≤ 255) ∧ (d.flexible = false ∨ (if slD d level then level else d.level) = 0) else d.tid = 0 ∧ d.sid = 0 ∧ d.up = false ∧ d.depends = false ∧ (if slD d level then level else d.level) = 0
      by_cases q : slD d level = true
      · simp only [q, if_true]
        have q2 := q
        simp only [slD, Bool.and_eq_true, Bool.not_eq_true'] at q2
        rw [if_pos q2.1.1] at c ⊢
        exact ⟨c.1, c.2.1, hl q, .inl q2.1.2⟩
      · rw [if_neg q]; exact c

theorem pbD_len (d : Vp9) : (pbD d).length = if d.hasPic then (if d.wide then 2 else 1) else 0 := by unfold pbD; cases d.hasPic <;> cases d.wide <;> rfl
theorem set_at {A B : List Int} {x y : Int} : (A ++ x :: B).set A.length y = A ++ y :: B := by
  rw [List.set_append_right _ _ (Nat.le_refl _), Nat.sub_self]; rfl
theorem ix_at {A B : List Int} {x : Int} {i : Int} (h : i = A.length) : ix (A ++ x :: B) i = some x := by
  rw [ix_some (n := A.length) h (by simp)]; simp
theorem setj1 {d : Vp9} {pic level : Int} {A tb : List Int} {v4 : Int} (n e : Int) (hv : v4 = A.length) (hA : A.length ≤ 10) (hl : slD d level = true → 0 ≤ level ∧ level ≤ 255) :
    vp9_Set_j1 none level (d, n, e) (A ++ (lbD d ++ tb)) v4 = some (A ++ (lbD (kD d pic level) ++ tb), 0) := by
  unfold vp9_Set_j1 vp9_Set_j2
  have e0 : ((d.hasLayer && (!d.flexible)) && (cm .neq level (-1))) = slD d level := by rw [slD, cm_neq]; simp
  rw [e0]
  cases q : slD d level with
  | false =>
    rw [if_neg (by decide)]
    have : lbD (kD d pic level) = lbD d := by simp only [kD, q, Bool.false_eq_true, if_false]; rfl
    rw [this]
  | true =>
    have q2 := q
    simp only [slD, Bool.and_eq_true, Bool.not_eq_true'] at q2
    obtain ⟨⟨hL, hF⟩, _⟩ := q2
    have hlv := hl q
    have e1 : lbD (kD d pic level) = [32 * d.tid + (if d.up then 16 else 0) + 2 * d.sid + (if d.depends then 1 else 0), level] := by
      unfold lbD kD
      rw [q]
      simp [hL, hF]
    have e2 : lbD d = [32 * d.tid + (if d.up then 16 else 0) + 2 * d.sid + (if d.depends then 1 else 0), d.level] := by
      unfold lbD
      simp [hL, hF]
    rw [e1, e2, if_pos rfl]
    generalize 32 * d.tid + (if d.up then 16 else 0) + 2 * d.sid + (if d.depends then 1 else 0) = x
    have ev : ar .add .i64 v4 1 = ((A ++ [x]).length : Nat) := by rw [ar_add, w_i64 (by omega) (by omega), hv]; simp
    have el : ∀ y : Int, A ++ ([x, y] ++ tb) = (A ++ [x]) ++ y :: tb := fun y => by simp
    rw [ev, el, bnd (ix_at rfl), Int.toNat_natCast, set_at, w_u8 hlv.1 hlv.2, el]
theorem setj3 {d : Vp9} {pic level : Int} {L : List Int} {h0 : Int} (n e : Int) (hp : d.hasPic = true) (hr : spD d pic = true → 0 ≤ pic ∧ pic ≤ mostP d) :
    vp9_Set_j3 none pic level (d, n, e) (h0 :: (pbD d ++ L)) (if d.wide then 2 else 1) = vp9_Set_j1 none level (d, n, e) (h0 :: (pbD (kD d pic level) ++ L)) (1 + (pbD d).length) := by
  unfold vp9_Set_j3 vp9_Set_j4 vp9_Set_j5
  have e0 : (d.hasPic && (cm .neq pic (-1))) = spD d pic := by rw [spD, cm_neq]; simp
  simp only [e0]
  unfold mostP at hr
  rw [hp] at hr
  cases hw : d.wide with
  | true =>
    rw [hw] at hr
    simp only [if_true] at hr
    have lb : (pbD d).length = 2 := by unfold pbD; rw [hp, hw]; rfl
    cases q : spD d pic with
    | true =>
      have hq := hr q
      simp only [Bool.and_true, if_true]
      have e1 : pbD (kD d pic level) = [128 + pic / 256, pic % 256] := by
        unfold pbD kD; rw [q]; simp [hp, hw]
      have e2 : pbD d = [128 + d.pic / 256, d.pic % 256] := by unfold pbD; simp [hp, hw]
      have e3 : ar .sub .i64 2 1 = 1 := by rfl
      have e4 : ar .or .i64 128 (sf .shr .i64 pic 8) = 128 + pic / 256 := by
        have es : sf .shr .i64 pic 8 = pic / 2 ^ 8 := sf_shr (n := 8) rfl (by decide)
        rw [es]
        exact ar_or_add_i64 (a := 1) (n := 7) (by decide) (by decide) (by omega) (by omega) (by decide) (by decide)
      rw [e3, e4, w_u8 (by omega) (by omega), wu8, e1, e2]
      rfl
    | false =>
      simp only [Bool.and_true, Bool.false_eq_true, if_false]
      have e1 : pbD (kD d pic level) = pbD d := by unfold kD; rw [q]; rfl
      rw [e1, lb]; rfl
  | false =>
    rw [hw] at hr
    simp only [if_true, Bool.false_eq_true, if_false] at hr
    have lb : (pbD d).length = 1 := by unfold pbD; rw [hp, hw]; rfl
    simp only [Bool.and_false, Bool.false_eq_true, if_false]
    cases q : spD d pic with
    | true =>
      have hq := hr q
      simp only [if_true]
      have e1 : pbD (kD d pic level) = [pic] := by
        unfold pbD kD; rw [q]; simp [hp, hw]
      have e2 : pbD d = [d.pic] := by unfold pbD; simp [hp, hw]
      rw [w_u8 (by omega) (by omega), e1, e2]
      rfl
    | false =>
      simp only [Bool.false_eq_true, if_false]
      have e1 : pbD (kD d pic level) = pbD d := by unfold kD; rw [q]; rfl
      rw [e1, lb]; rfl

open Classical in
noncomputable def setV (b : List Int) (pic level : Int) : List Int × Int :=
  if (rdV b).2.2 ≠ 0 then ([], (rdV b).2.2)
  else if RightD (kD (rdV b).1 pic level) then (headD (kD (rdV b).1 pic level) ++ b.drop (headD (rdV b).1).length, 0) else ([], 6)
theorem headD_len (d : Vp9) : 1 ≤ (headD d).length ∧ (headD d).length ≤ 5 := by
  unfold headD hbD pbD lbD
  cases d.hasPic <;> cases d.wide <;> cases d.hasLayer <;> cases d.flexible <;> simp
theorem set_eq {b : List Int} (hb : By b) (hl : b.length ≤ 4000000000) (pic level : Int) : vp9_Set none b pic level = some (setV b pic level) := by
  unfold vp9_Set setV
  rw [bnd (read_eq hb)]
  rcases rdV_cases (b := b) with ⟨d, R, h1, h2, h3, h4⟩ | ⟨d, e, h1, h2⟩
  · obtain ⟨tb, g1, g2⟩ := read_head hb.u8 h1 h3
    rw [h2]
    simp only
    rw [if_neg (show ¬ (cm .neq 0 0 = true) by decide), if_neg (show ¬ ((0 : Int) ≠ 0) by decide)]
    have hk := kD_right h3 pic level
    have e0 : (d.hasPic && (cm .neq pic (-1))) = spD d pic := by rw [spD, cm_neq]; simp
    have e1 : ((d.hasLayer && (!d.flexible)) && (cm .neq level (-1))) = slD d level := by rw [slD, cm_neq]; simp
    have hcond : ((((d.hasPic && (cm .neq pic (-1))) && (!(vp9_in pic 0 (vp9_most d)))) || (((d.hasLayer && (!d.flexible)) && (cm .neq level (-1))) && (!(vp9_in level 0 255)))) = true) ↔ ¬ RightD (kD d pic level) := by
      rw [e0, e1, hk, vin, vin, vmost]
      simp only [Bool.or_eq_true, Bool.and_eq_true, Bool.not_eq_true', decide_eq_false_iff_not]
      generalize (0 ≤ pic ∧ pic ≤ mostP d) = P
      generalize (0 ≤ level ∧ level ≤ 255) = Q
      by_cases p : P <;> by_cases q : Q <;> cases spD d pic <;> cases slD d level <;> simp [p, q]
    by_cases hr : RightD (kD d pic level)
    · rw [if_neg (fun h => hcond.1 h hr), if_pos hr]
      have hh := hk.1 hr
      rw [bnd (show slices_Clone b = some b by unfold slices_Clone; rw [app_some (by simp; omega)]; rfl)]
      have hbk : hbD (kD d pic level) = hbD d := rfl
      have hfin : headD (kD d pic level) ++ b.drop (headD d).length = hbD d ++ (pbD (kD d pic level) ++ (lbD (kD d pic level) ++ tb)) := by
        conv => lhs; rw [g1]
        rw [List.drop_left' rfl, headD, hbk]
        simp only [List.append_assoc]
      rw [hfin]
      have hb' : b = hbD d ++ (pbD d ++ (lbD d ++ tb)) := by rw [g1, headD]; simp only [List.append_assoc]
      have main : ∀ n e : Int, (if d.hasPic then (if d.wide then vp9_Set_j3 none pic level (d, n, e) b (ar .add .i64 1 1) else vp9_Set_j3 none pic level (d, n, e) b 1) else vp9_Set_j1 none level (d, n, e) b 1) = some (hbD d ++ (pbD (kD d pic level) ++ (lbD (kD d pic level) ++ tb)), 0) := by
        intro n e
        cases hp : d.hasPic with
        | true =>
          have hj := setj3 (L := lbD d ++ tb) (level := level) (h0 := (hbD d).headD 0) n e hp hh.1
          have hcons : ∀ X, (hbD d).headD 0 :: X = hbD d ++ X := fun X => rfl
          rw [hcons, hcons, ← hb'] at hj
          have e2 : (if true = true then (if d.wide then vp9_Set_j3 none pic level (d, n, e) b (ar .add .i64 1 1) else vp9_Set_j3 none pic level (d, n, e) b 1) else vp9_Set_j1 none level (d, n, e) b 1) = vp9_Set_j3 none pic level (d, n, e) b (if d.wide then 2 else 1) := by
            cases d.wide <;> rfl
          rw [e2, hj]
          have hlen : (pbD (kD d pic level)).length = (pbD d).length := by rw [pbD_len, pbD_len]; rfl
          have hle : (pbD d).length ≤ 2 := by unfold pbD; cases d.hasPic <;> cases d.wide <;> simp
          have := setj1 (d := d) (pic := pic) (level := level) (A := hbD d ++ pbD (kD d pic level)) (tb := tb) (v4 := 1 + (pbD d).length) n e (by rw [List.length_append, hlen]; simp [hbD]) (by rw [List.length_append, hlen]; simp [hbD]; omega) hh.2
          simpa only [List.append_assoc] using this
        | false =>
          have ep : pbD d = [] := by unfold pbD; rw [hp]; rfl
          have epk : pbD (kD d pic level) = [] := by unfold pbD kD; rw [hp]; rfl
          rw [if_neg (by decide), epk, List.nil_append, hb', ep, List.nil_append]
          exact setj1 (A := hbD d) n e (by simp [hbD]) (by simp [hbD]) hh.2
      exact main _ _
    · rw [if_pos (hcond.2 hr), if_neg hr]
  · rw [h2]
    have := err_ne hb h1
    simp only
    rw [if_pos (by rw [cm_neq]; simpa using this), if_pos this]
end Xb

namespace Xb
open Go
/-- texts are the same when the octets are -/
theorem b2s_inj {a b : List Int} (ha : ∀ x, x ∈ a → 0 ≤ x ∧ x ≤ 255) (hb : ∀ x, x ∈ b → 0 ≤ x ∧ x ≤ 255) : b2s a = b2s b ↔ a = b := by
  refine ⟨fun h => ?_, fun h => by rw [h]⟩
  have hi : ∀ (l : List Int), (∀ x, x ∈ l → 0 ≤ x ∧ x ≤ 255) → (b2s l).map (fun u => (u.toNat : Int)) = l := by
    intro l hl
    unfold b2s
    rw [List.map_map]
    conv => rhs; rw [← List.map_id l]
    apply List.map_congr_left
    intro x hx
    obtain ⟨h0, h1⟩ := hl x hx
    simp
    omega
  rw [← hi a ha, ← hi b hb, h]
theorem sc_b2s {a b : List Int} (ha : ∀ x, x ∈ a → 0 ≤ x ∧ x ≤ 255) (hb : ∀ x, x ∈ b → 0 ≤ x ∧ x ≤ 255) : sc .eql (b2s a) (b2s b) = decide (a = b) := by
  simp only [sc]
  by_cases h : a = b
  · subst h; simp
  · simp [h]; exact fun e => h ((b2s_inj ha hb).1 e)
end Xb

namespace Xb
open Go

theorem rdV_wr {d : Vp9} (h : RightD d) (b : List Int) : rdV (wrD d ++ b) = (d, ((wrD d).length : Int), 0) := by
  unfold rdV
  rw [bitsOf_app, (wrD_spec h).2, (Cod.thr h).full]
  simp only [bitsOf_len, List.length_append]
  congr 2
  omega
theorem rdV_wr0 {d : Vp9} (h : RightD d) : rdV (wrD d) = (d, ((wrD d).length : Int), 0) := by
  have := rdV_wr h []
  rwa [List.append_nil] at this
theorem wrD_bd {d : Vp9} (h : RightD d) : 1 ≤ (wrD d).length ∧ (wrD d).length ≤ 2500 := by
  have := wrD_len h; have := thrW_le h; have := thrW_len d; omega
theorem rdV_cut {d : Vp9} (h : RightD d) {m : Nat} (hm : m < (wrD d).length) : rdV ((wrD d).take m) = (zD, 0, 2) := by
  have e : thrW d = bitsOf ((wrD d).take m) ++ bitsOf ((wrD d).drop m) := by rw [← bitsOf_app, List.take_append_drop, (wrD_spec h).2]
  have hT : bitsOf ((wrD d).drop m) ≠ [] := fun h0 => by
    have := congrArg List.length h0
    rw [bitsOf_len, List.length_drop, List.length_nil] at this; omega
  have := (Cod.thr h).cut _ _ e hT
  unfold rdV
  generalize thrS (.ok (bitsOf ((wrD d).take m))) = X at *
  obtain ⟨a, s⟩ := X
  simp only at this
  subst this; rfl
theorem wrD_inj {d k : Vp9} (h : RightD d) (h' : RightD k) : wrD d = wrD k ↔ d = k := by
  refine ⟨fun e => ?_, fun e => by rw [e]⟩
  have h1 := rdV_wr0 h
  have h2 := rdV_wr0 h'
  rw [e, h2] at h1
  exact (congrArg Prod.fst h1).symm
theorem zz : decide (zD = Vp9.mk false false 0 false false 0 0 false false false 0 [] false false false (Scale.mk 0 false [] false []) false) = true := decide_eq_true rfl
theorem By.of {b : List Int} (h : U8 b) (hl : b.length ≤ 100000000000) : By b := ⟨h, hl⟩
/-- what is set is read -/
theorem rdV_set {b : List Int} (hb : U8 b) {d : Vp9} {R : List Int} (e : thrS (.ok (bitsOf b)) = (d, .ok R)) (hd : RightD d) {pic level : Int} (hk : RightD (kD d pic level)) :
    thrS (.ok (bitsOf (headD (kD d pic level) ++ b.drop (headD d).length))) = (kD d pic level, .ok R) ∧ (headD (kD d pic level)).length = (headD d).length ∧ (headD (kD d pic level) ++ b.drop (headD d).length).length = b.length := by
  obtain ⟨tb, g1, g2⟩ := read_head hb e hd
  have hlen : (headD (kD d pic level)).length = (headD d).length := by
    have lb : ∀ d : Vp9, (lbD d).length = if d.hasLayer then (if d.flexible then 1 else 2) else 0 := fun d => by
      unfold lbD; cases d.hasLayer <;> cases d.flexible <;> rfl
    simp only [headD, List.length_append, pbD_len, lb]; rfl
  have hdr : b.drop (headD d).length = tb := by conv => lhs; rw [g1]
                                                exact List.drop_left' rfl
  refine ⟨?_, hlen, ?_⟩
  · rw [hdr, head_read hk.1 hk.2.1 hk.2.2.1]
    have := tailD_with d (kD d pic level).pic (kD d pic level).level (.ok (bitsOf tb))
    rw [g2] at this
    exact this
  · rw [hdr, List.length_append, hlen]
    conv => rhs; rw [g1]
    rw [List.length_append]
theorem rdV_of {b : List Int} {d : Vp9} {R : List Int} (e : thrS (.ok (bitsOf b)) = (d, .ok R)) : rdV b = (d, (8 * (b.length : Int) - R.length) / 8, 0) := by
  unfold rdV; rw [e]
open Classical in
theorem setV_of {b : List Int} {d : Vp9} {R : List Int} (e : thrS (.ok (bitsOf b)) = (d, .ok R)) (pic level : Int) :
    setV b pic level = if RightD (kD d pic level) then (headD (kD d pic level) ++ b.drop (headD d).length, 0) else ([], 6) := by
  unfold setV; rw [rdV_of e]
  exact if_neg (fun h => h rfl)
theorem setV_ok {b : List Int} {d : Vp9} {R : List Int} (e : thrS (.ok (bitsOf b)) = (d, .ok R)) {pic level : Int} (h : RightD (kD d pic level)) : setV b pic level = (headD (kD d pic level) ++ b.drop (headD d).length, 0) := by
  rw [setV_of e, if_pos h]
theorem setV_no {b : List Int} {d : Vp9} {R : List Int} (e : thrS (.ok (bitsOf b)) = (d, .ok R)) {pic level : Int} (h : ¬ RightD (kD d pic level)) : setV b pic level = ([], 6) := by
  rw [setV_of e, if_neg h]
theorem kD_none (d : Vp9) : kD d (-1) (-1) = d := by
  have h1 : spD d (-1) = false := by simp [spD]
  have h2 : slD d (-1) = false := by simp [slD]
  unfold kD; rw [h1, h2]; rfl
theorem kD_back {d : Vp9} (hR : RightD d) (pic level : Int) : kD (kD d pic level) d.pic d.level = d := by
  have h1 : spD (kD d pic level) d.pic = d.hasPic := by
    show (d.hasPic && decide (d.pic ≠ -1)) = d.hasPic
    have := hR.1.1
    rw [decide_eq_true (by omega)]; simp
  have h2 : slD (kD d pic level) d.level = (d.hasLayer && !d.flexible) := by
    show (d.hasLayer && !d.flexible && decide (d.level ≠ -1)) = _
    have hl := hR.2.2.1
    unfold LayD at hl
    cases hh : d.hasLayer with
    | false => rfl
    | true =>
      rw [if_pos hh] at hl
      rw [decide_eq_true (by omega)]; simp
  unfold kD at h1 h2 ⊢
  rw [h1, h2]
  have e1 : (if d.hasPic = true then d.pic else (if spD d pic = true then pic else d.pic)) = d.pic := by
    cases hp : d.hasPic with
    | true => rfl
    | false =>
      have : spD d pic = false := by simp [spD, hp]
      rw [this]; rfl
  have e2 : (if (d.hasLayer && !d.flexible) = true then d.level else (if slD d level = true then level else d.level)) = d.level := by
    cases hp : (d.hasLayer && !d.flexible) with
    | true => rfl
    | false =>
      have : slD d level = false := by simp [slD, hp]
      rw [this]; rfl
  simp only [e1, e2]
theorem kD_two (d : Vp9) (pic level : Int) : kD (kD d (-1) level) pic (-1) = kD d pic level := by
  have h1 : spD d (-1) = false := by simp [spD]
  have h2 : ∀ q : Vp9, slD q (-1) = false := fun q => by simp [slD]
  unfold kD
  rw [h2, h1]
  rfl
theorem law_k {d : Vp9} {pic level : Int} :
    (if (d.hasPic && (cm .neq pic (-1))) then
        (if ((d.hasLayer && (!d.flexible)) && (cm .neq level (-1))) then ({ d with pic := pic, level := level } : Vp9) else { d with pic := pic })
      else (if ((d.hasLayer && (!d.flexible)) && (cm .neq level (-1))) then { d with level := level } else d)) = kD d pic level := by
  have e0 : (d.hasPic && (cm .neq pic (-1))) = spD d pic := by rw [spD, cm_neq]; simp
  have e1 : ((d.hasLayer && (!d.flexible)) && (cm .neq level (-1))) = slD d level := by rw [slD, cm_neq]; simp
  rw [e0, e1]
  unfold kD
  cases spD d pic <;> cases slD d level <;> rfl
end Xb

namespace Xb
open Go

theorem num_app (l : List Int) : ∀ m : List Int, num (l ++ m) = num l * 2 ^ m.length + num m := by
  intro m
  rw [← List.reverse_reverse m]
  induction m.reverse with
  | nil => simp [num]
  | cons x r ih =>
    rw [List.reverse_cons, ← List.append_assoc, num_snoc, ih, num_snoc]
    simp only [List.length_append, List.length_reverse, List.length_singleton, Int.pow_succ]
    generalize (2 : Int) ^ r.length = p
    rw [Int.add_mul, Int.mul_assoc]; omega
def binS (s : RS) : Prop := ∀ R, s = .ok R → bin R
theorem binS.gN {s : RS} (h : binS s) (w : Nat) : binS (gN w s).2 := by
  intro R e
  cases s with
  | error x => cases e
  | ok S =>
    unfold Xb.gN at e
    simp only at e
    by_cases hl : S.length < w
    · rw [if_pos hl] at e; cases e
    · rw [if_neg hl] at e; cases e; exact (h S rfl).drop w
theorem gN_split (a b : Nat) (s : RS) : (gN b (gN a s).2).2 = (gN (a + b) s).2 ∧ ∀ R, (gN (a + b) s).2 = .ok R → (gN (a + b) s).1 = (gN a s).1 * 2 ^ b + (gN b (gN a s).2).1 := by
  cases s with
  | error e => exact ⟨rfl, fun R h => by cases h⟩
  | ok R =>
    unfold gN
    simp only
    by_cases h1 : R.length < a
    · rw [if_pos h1, if_pos (by omega)]
      exact ⟨rfl, fun R h => by cases h⟩
    · rw [if_neg h1]
      simp only [List.length_drop]
      by_cases h2 : R.length - a < b
      · rw [if_pos h2, if_pos (by omega)]
        exact ⟨rfl, fun R h => by cases h⟩
      · rw [if_neg h2, if_neg (by omega)]
        refine ⟨by rw [List.drop_drop], fun _ _ => ?_⟩
        simp only
        rw [List.take_add, num_app]
        congr 2
        rw [List.length_take, List.length_drop]; congr 1; omega
/-- the same, but for what is told beside an error -/
def EqR {α : Type} (f g : RD α) : Prop := ∀ s, binS s → (f s).2 = (g s).2 ∧ ∀ R, (f s).2 = .ok R → (f s).1 = (g s).1 ∧ bin R
theorem EqR.trans {α : Type} {f g h : RD α} (h1 : EqR f g) (h2 : EqR g h) : EqR f h := fun s hs => by
  obtain ⟨a, b⟩ := h1 s hs
  obtain ⟨c, d⟩ := h2 s hs
  refine ⟨a.trans c, fun R e => ⟨(b R e).1.trans (d R (a ▸ e)).1, (b R e).2⟩⟩
theorem EqR.pr {α : Type} (a : α) : EqR (pr a) (pr a) := fun s hs => ⟨rfl, fun R e => ⟨rfl, hs R e⟩⟩
theorem EqR.gN (w : Nat) : EqR (gN w) (gN w) := fun s hs => ⟨rfl, fun R e => ⟨rfl, hs.gN w R e⟩⟩
theorem EqR.bdP {α β : Type} {f g : RD α} {F G : α → RD β} {P : α → Prop} (hf : EqR f g) (hp : ∀ s, binS s → P (f s).1) (hF : ∀ a, P a → EqR (F a) (G a)) (eF : ∀ a, ErrP (F a)) (eG : ∀ a, ErrP (G a)) : EqR (bdR f F) (bdR g G) := by
  intro s hs
  obtain ⟨a, b⟩ := hf s hs
  show (F (f s).1 (f s).2).2 = (G (g s).1 (g s).2).2 ∧ ∀ R, (F (f s).1 (f s).2).2 = .ok R → (F (f s).1 (f s).2).1 = (G (g s).1 (g s).2).1 ∧ bin R
  rw [← a]
  cases hr : (f s).2 with
  | error e =>
    rw [eF, eG]
    exact ⟨rfl, fun R h => by cases h⟩
  | ok S =>
    obtain ⟨q1, q2⟩ := b S hr
    rw [← q1]
    exact hF _ (hp s hs) (.ok S) (fun R e => by cases e; exact q2)
theorem EqR.bd {α β : Type} {f g : RD α} {F G : α → RD β} (hf : EqR f g) (hF : ∀ a, EqR (F a) (G a)) (eF : ∀ a, ErrP (F a)) (eG : ∀ a, ErrP (G a)) : EqR (bdR f F) (bdR g G) :=
  EqR.bdP (P := fun _ => True) hf (fun _ _ => trivial) (fun a _ => hF a) eF eG
theorem gN_bdS {s : RS} (hs : binS s) (w : Nat) : 0 ≤ (gN w s).1 ∧ (gN w s).1 < 2 ^ w := gN_bd hs
theorem EqR.split {α : Type} (a b : Nat) {k k' : Int → Int → RD α} (hk : ∀ x y, 0 ≤ x ∧ x < 2 ^ a → 0 ≤ y ∧ y < 2 ^ b → EqR (k x y) (k' x y)) (ek : ∀ x y, ErrP (k x y)) (ek' : ∀ x y, ErrP (k' x y)) :
    EqR (bdR (Xb.gN a) fun x => bdR (Xb.gN b) fun y => k x y) (bdR (Xb.gN (a + b)) fun m => k' (m / 2 ^ b) (m % 2 ^ b)) := by
  intro s hs
  obtain ⟨h1, h2⟩ := gN_split a b s
  have b1 := gN_bdS hs a
  have b2 := gN_bdS (hs.gN a) b
  have hs2 := (hs.gN a).gN b
  show (k (Xb.gN a s).1 (Xb.gN b (Xb.gN a s).2).1 (Xb.gN b (Xb.gN a s).2).2).2 = (k' _ _ (Xb.gN (a + b) s).2).2 ∧ ∀ R, (k (Xb.gN a s).1 (Xb.gN b (Xb.gN a s).2).1 (Xb.gN b (Xb.gN a s).2).2).2 = .ok R → (k _ _ (Xb.gN b (Xb.gN a s).2).2).1 = (k' _ _ (Xb.gN (a + b) s).2).1 ∧ bin R
  rw [h1] at hs2 ⊢
  cases hr : (Xb.gN (a + b) s).2 with
  | error e =>
    rw [ek, ek']
    exact ⟨rfl, fun R h => by cases h⟩
  | ok S =>
    have hv := h2 S hr
    rw [hr] at hs2
    have hp : (0 : Int) < 2 ^ b := Int.pow_pos (by decide)
    have e1 : (Xb.gN (a + b) s).1 / 2 ^ b = (Xb.gN a s).1 := by
      rw [hv, Int.add_comm, Int.add_mul_ediv_right _ _ (by omega), Int.ediv_eq_zero_of_lt b2.1 b2.2, Int.zero_add]
    have e2 : (Xb.gN (a + b) s).1 % 2 ^ b = (Xb.gN b (Xb.gN a s).2).1 := by
      rw [hv, Int.add_comm, Int.add_mul_emod_self_right, Int.emod_eq_of_lt b2.1 b2.2]
    rw [e1, e2]
    exact hk _ _ b1 b2 (.ok S) hs2

/-! octet by octet -/
abbrev H8 := Bool × Bool × Bool × Bool × Bool × Bool × Bool × Bool
def hdr8 : RD H8 := bdR tS fun h1 => bdR tS fun h2 => bdR tS fun h3 => bdR tS fun h4 => bdR tS fun h5 => bdR tS fun h6 => bdR tS fun h7 => bdR tS fun h8 => pr (h1, h2, h3, h4, h5, h6, h7, h8)
def thr2 (h : H8) : RD Vp9 := bdR (opt h.1 hdS (false, 0)) fun p => bdR (opt h.2.2.1 (layS h.2.2.2.1) (0, false, 0, false, 0)) fun y => tailS h.1 h.2.1 h.2.2.1 h.2.2.2.1 h.2.2.2.2.1 h.2.2.2.2.2.1 h.2.2.2.2.2.2.1 h.2.2.2.2.2.2.2 p y
theorem thrS_eq : thrS = bdR hdr8 thr2 := rfl
def o1 (x : Int) : Bool := decide (x = 1)
def hdrB : RD H8 := bdR (gN 8) fun m => pr (o1 (m / 128), o1 (m / 64 % 2), o1 (m / 32 % 2), o1 (m / 16 % 2), o1 (m / 8 % 2), o1 (m / 4 % 2), o1 (m / 2 % 2), o1 (m % 2))
theorem EqR.hdr : EqR hdr8 hdrB := by
  have e0 : hdr8 = bdR (Xb.gN 1) fun a1 => bdR (Xb.gN 1) fun a2 => bdR (Xb.gN 1) fun a3 => bdR (Xb.gN 1) fun a4 => bdR (Xb.gN 1) fun a5 => bdR (Xb.gN 1) fun a6 => bdR (Xb.gN 1) fun a7 => bdR (Xb.gN 1) fun a8 => Xb.pr (o1 a1, o1 a2, o1 a3, o1 a4, o1 a5, o1 a6, o1 a7, o1 a8) := rfl
  rw [e0]
  have rf : ∀ {α : Type} {f : RD α}, (∀ s, binS s → binS (f s).2) → EqR f f := fun h s hs => ⟨rfl, fun R e => ⟨rfl, h s hs R e⟩⟩
  have bb : ∀ {α β : Type} {f : RD α} {g : α → RD β}, (∀ s, binS s → binS (f s).2) → (∀ a s, binS s → binS (g a s).2) → ∀ s, binS s → binS (bdR f g s).2 := fun hf hg s hs => hg _ _ (hf s hs)
  have b0 : ∀ (w : Nat) s, binS s → binS (Xb.gN w s).2 := fun w s hs => hs.gN w
  have bp : ∀ {α : Type} (a : α) s, binS s → binS (Xb.pr a s).2 := fun a s hs => hs
  refine (EqR.split 1 1 (fun x y _ _ => rf ?_) ?_ ?_).trans ?_
  · exact bb (b0 1) fun _ => bb (b0 1) fun _ => bb (b0 1) fun _ => bb (b0 1) fun _ => bb (b0 1) fun _ => bb (b0 1) fun _ => bp _
  · exact fun _ _ => .bd (.gN 1) fun _ => .bd (.gN 1) fun _ => .bd (.gN 1) fun _ => .bd (.gN 1) fun _ => .bd (.gN 1) fun _ => .bd (.gN 1) fun _ => .pr _
  · exact fun _ _ => .bd (.gN 1) fun _ => .bd (.gN 1) fun _ => .bd (.gN 1) fun _ => .bd (.gN 1) fun _ => .bd (.gN 1) fun _ => .bd (.gN 1) fun _ => .pr _
  refine (EqR.split 2 1 (fun x y _ _ => rf ?_) ?_ ?_).trans ?_
  · exact bb (b0 1) fun _ => bb (b0 1) fun _ => bb (b0 1) fun _ => bb (b0 1) fun _ => bb (b0 1) fun _ => bp _
  · exact fun _ _ => .bd (.gN 1) fun _ => .bd (.gN 1) fun _ => .bd (.gN 1) fun _ => .bd (.gN 1) fun _ => .bd (.gN 1) fun _ => .pr _
  · exact fun _ _ => .bd (.gN 1) fun _ => .bd (.gN 1) fun _ => .bd (.gN 1) fun _ => .bd (.gN 1) fun _ => .bd (.gN 1) fun _ => .pr _
  refine (EqR.split 3 1 (fun x y _ _ => rf ?_) ?_ ?_).trans ?_
  · exact bb (b0 1) fun _ => bb (b0 1) fun _ => bb (b0 1) fun _ => bb (b0 1) fun _ => bp _
  · exact fun _ _ => .bd (.gN 1) fun _ => .bd (.gN 1) fun _ => .bd (.gN 1) fun _ => .bd (.gN 1) fun _ => .pr _
  · exact fun _ _ => .bd (.gN 1) fun _ => .bd (.gN 1) fun _ => .bd (.gN 1) fun _ => .bd (.gN 1) fun _ => .pr _
  refine (EqR.split 4 1 (fun x y _ _ => rf ?_) ?_ ?_).trans ?_
  · exact bb (b0 1) fun _ => bb (b0 1) fun _ => bb (b0 1) fun _ => bp _
  · exact fun _ _ => .bd (.gN 1) fun _ => .bd (.gN 1) fun _ => .bd (.gN 1) fun _ => .pr _
  · exact fun _ _ => .bd (.gN 1) fun _ => .bd (.gN 1) fun _ => .bd (.gN 1) fun _ => .pr _
  refine (EqR.split 5 1 (fun x y _ _ => rf ?_) ?_ ?_).trans ?_
  · exact bb (b0 1) fun _ => bb (b0 1) fun _ => bp _
  · exact fun _ _ => .bd (.gN 1) fun _ => .bd (.gN 1) fun _ => .pr _
  · exact fun _ _ => .bd (.gN 1) fun _ => .bd (.gN 1) fun _ => .pr _
  refine (EqR.split 6 1 (fun x y _ _ => rf ?_) ?_ ?_).trans ?_
  · exact bb (b0 1) fun _ => bp _
  · exact fun _ _ => .bd (.gN 1) fun _ => .pr _
  · exact fun _ _ => .bd (.gN 1) fun _ => .pr _
  refine (EqR.split 7 1 (fun x y _ _ => rf (bp _)) (fun _ _ => .pr _) (fun _ _ => .pr _)).trans ?_
  unfold hdrB
  refine EqR.bdP (P := fun m => 0 ≤ m ∧ m < 2 ^ 8) (.gN 8) (fun s hs => gN_bdS hs 8) (fun m hm => ?_) (fun _ => .pr _) (fun _ => .pr _)
  have e1 : m / 2 ^ 1 / 2 ^ 1 / 2 ^ 1 / 2 ^ 1 / 2 ^ 1 / 2 ^ 1 / 2 ^ 1 = m / 128 := by omega
  have e2 : m / 2 ^ 1 / 2 ^ 1 / 2 ^ 1 / 2 ^ 1 / 2 ^ 1 / 2 ^ 1 % 2 ^ 1 = m / 64 % 2 := by omega
  have e3 : m / 2 ^ 1 / 2 ^ 1 / 2 ^ 1 / 2 ^ 1 / 2 ^ 1 % 2 ^ 1 = m / 32 % 2 := by omega
  have e4 : m / 2 ^ 1 / 2 ^ 1 / 2 ^ 1 / 2 ^ 1 % 2 ^ 1 = m / 16 % 2 := by omega
  have e5 : m / 2 ^ 1 / 2 ^ 1 / 2 ^ 1 % 2 ^ 1 = m / 8 % 2 := by omega
  have e6 : m / 2 ^ 1 / 2 ^ 1 % 2 ^ 1 = m / 4 % 2 := by omega
  have e7 : m / 2 ^ 1 % 2 ^ 1 = m / 2 % 2 := by omega
  have e8 : m % 2 ^ 1 = m % 2 := by omega
  rw [e1, e2, e3, e4, e5, e6, e7, e8]
  exact .pr _
def hdC (p : Int) : RD (Bool × Int) := if 128 ≤ p then bdR (gN 8) fun q => pr (true, 256 * (p - 128) + q) else pr (false, p)
def hdB : RD (Bool × Int) := bdR (gN 8) hdC
theorem hdC_err (p : Int) (e : Int) : (hdC p (.error e)).2 = .error e := by unfold hdC; split <;> rfl
def hdA (w : Bool) : RD (Bool × Int) := bdR (gN (if w then 15 else 7)) fun p => pr (w, p)
theorem EqR.hd : EqR hdS hdB := by
  intro s hs
  show (hdA (decide ((Xb.gN 1 s).1 = 1)) (Xb.gN 1 s).2).2 = (hdC (Xb.gN 8 s).1 (Xb.gN 8 s).2).2 ∧ ∀ R, (hdA (decide ((Xb.gN 1 s).1 = 1)) (Xb.gN 1 s).2).2 = .ok R → (hdA (decide ((Xb.gN 1 s).1 = 1)) (Xb.gN 1 s).2).1 = (hdC (Xb.gN 8 s).1 (Xb.gN 8 s).2).1 ∧ bin R
  have b1 := gN_bdS hs 1
  obtain ⟨q1, q2⟩ := gN_split 1 7 s
  have b7 := gN_bdS (hs.gN 1) 7
  have b71 := b7.1
  have b72 : (Xb.gN 7 (Xb.gN 1 s).2).1 < 128 := b7.2
  have hcase : (Xb.gN 1 s).1 = 0 ∨ (Xb.gN 1 s).1 = 1 := by have := b1.2; omega
  change _ = (Xb.gN 8 s).2 at q1
  change ∀ R, (Xb.gN 8 s).2 = .ok R → (Xb.gN 8 s).1 = _ at q2
  rcases hcase with h | h
  · rw [h]
    show (Xb.gN 7 (Xb.gN 1 s).2).2 = _ ∧ ∀ R, (Xb.gN 7 (Xb.gN 1 s).2).2 = .ok R → (false, (Xb.gN 7 (Xb.gN 1 s).2).1) = _ ∧ bin R
    have hb := ((hs.gN 1).gN 7)
    rw [q1] at hb ⊢
    cases hr : (Xb.gN 8 s).2 with
    | error e =>
      rw [hdC_err]
      exact ⟨rfl, fun R h => by cases h⟩
    | ok S =>
      have hv := q2 S hr
      rw [h] at hv
      have hv' : (Xb.gN 8 s).1 = (Xb.gN 7 (Xb.gN 1 s).2).1 := by rw [hv]; omega
      rw [hv']
      unfold hdC
      rw [if_neg (by omega)]
      exact ⟨rfl, fun R e => ⟨rfl, hb R (by rw [hr]; exact e)⟩⟩
  · rw [h]
    show (Xb.gN 15 (Xb.gN 1 s).2).2 = _ ∧ ∀ R, (Xb.gN 15 (Xb.gN 1 s).2).2 = .ok R → (true, (Xb.gN 15 (Xb.gN 1 s).2).1) = _ ∧ bin R
    obtain ⟨r1, r2⟩ := gN_split 7 8 (Xb.gN 1 s).2
    rw [q1] at r1 r2
    change (Xb.gN 8 (Xb.gN 8 s).2).2 = (Xb.gN 15 (Xb.gN 1 s).2).2 at r1
    change ∀ R, (Xb.gN 15 (Xb.gN 1 s).2).2 = .ok R → (Xb.gN 15 (Xb.gN 1 s).2).1 = (Xb.gN 7 (Xb.gN 1 s).2).1 * 2 ^ 8 + (Xb.gN 8 (Xb.gN 8 s).2).1 at r2
    have hb := (hs.gN 1).gN 15
    cases hr : (Xb.gN 8 s).2 with
    | error e =>
      rw [hr] at r1
      change Except.error e = _ at r1
      rw [← r1, hdC_err]
      exact ⟨rfl, fun R h => by cases h⟩
    | ok S =>
      have hv := q2 S hr
      rw [h] at hv
      have hv' : (Xb.gN 8 s).1 = 128 + (Xb.gN 7 (Xb.gN 1 s).2).1 := by rw [hv]; omega
      rw [hr] at r1 r2
      rw [hv']
      unfold hdC
      rw [if_pos (by omega)]
      refine ⟨r1.symm, fun R e => ⟨?_, hb R e⟩⟩
      rw [r2 R e]
      show (true, _) = (true, 256 * (128 + (Xb.gN 7 (Xb.gN 1 s).2).1 - 128) + (Xb.gN 8 (.ok S)).1)
      congr 1; omega
def layB (fl : Bool) : RD (Int × Bool × Int × Bool × Int) := bdR (gN 8) fun m => bdR (opt (!fl) (gN 8) 0) fun l => pr (m / 32, o1 (m / 16 % 2), m / 2 % 8, o1 (m % 2), l)
def BinP {α : Type} (f : RD α) : Prop := ∀ s, binS s → binS (f s).2
theorem EqR.self {α : Type} {f : RD α} (h : BinP f) : EqR f f := fun s hs => ⟨rfl, fun R e => ⟨rfl, h s hs R e⟩⟩
theorem BinP.bd {α β : Type} {f : RD α} {g : α → RD β} (hf : BinP f) (hg : ∀ a, BinP (g a)) : BinP (bdR f g) := fun s hs => hg _ _ (hf s hs)
theorem BinP.gN (w : Nat) : BinP (gN w) := fun _ hs => hs.gN w
theorem BinP.pr {α : Type} (a : α) : BinP (pr a) := fun _ hs => hs
theorem BinP.opt {α : Type} {b : Bool} {f : RD α} {z : α} (h : BinP f) : BinP (opt b f z) := by
  unfold Xb.opt; split
  · exact h
  · exact .pr z
theorem EqR.lay (fl : Bool) : EqR (layS fl) (layB fl) := by
  have e0 : layS fl = bdR (Xb.gN 3) fun a => bdR (Xb.gN 1) fun b => bdR (Xb.gN 3) fun c => bdR (Xb.gN 1) fun d => bdR (Xb.opt (!fl) (Xb.gN 8) 0) fun l => Xb.pr (a, o1 b, c, o1 d, l) := rfl
  rw [e0]
  refine (EqR.split 3 1 (fun x y _ _ => .self (BinP.bd (.gN 3) fun _ => BinP.bd (.gN 1) fun _ => BinP.bd (.opt (.gN 8)) fun _ => .pr _)) ?_ ?_).trans ?_
  · exact fun _ _ => .bd (.gN 3) fun _ => .bd (.gN 1) fun _ => .bd (.opt (.gN 8)) fun _ => .pr _
  · exact fun _ _ => .bd (.gN 3) fun _ => .bd (.gN 1) fun _ => .bd (.opt (.gN 8)) fun _ => .pr _
  refine (EqR.split 4 3 (fun x y _ _ => .self (BinP.bd (.gN 1) fun _ => BinP.bd (.opt (.gN 8)) fun _ => .pr _)) ?_ ?_).trans ?_
  · exact fun _ _ => .bd (.gN 1) fun _ => .bd (.opt (.gN 8)) fun _ => .pr _
  · exact fun _ _ => .bd (.gN 1) fun _ => .bd (.opt (.gN 8)) fun _ => .pr _
  refine (EqR.split 7 1 (fun x y _ _ => .self (BinP.bd (.opt (.gN 8)) fun _ => .pr _)) ?_ ?_).trans ?_
  · exact fun _ _ => .bd (.opt (.gN 8)) fun _ => .pr _
  · exact fun _ _ => .bd (.opt (.gN 8)) fun _ => .pr _
  unfold layB
  refine EqR.bdP (P := fun m => 0 ≤ m ∧ m < 2 ^ 8) (.gN 8) (fun s hs => gN_bdS hs 8) (fun m hm => ?_) (fun _ => .bd (.opt (.gN 8)) fun _ => .pr _) (fun _ => .bd (.opt (.gN 8)) fun _ => .pr _)
  have e1 : m / 2 ^ 1 / 2 ^ 3 / 2 ^ 1 = m / 32 := by omega
  have e2 : m / 2 ^ 1 / 2 ^ 3 % 2 ^ 1 = m / 16 % 2 := by omega
  have e3 : m / 2 ^ 1 % 2 ^ 3 = m / 2 % 8 := by omega
  have e4 : m % 2 ^ 1 = m % 2 := by omega
  rw [e1, e2, e3, e4]
  exact .self (BinP.bd (.opt (.gN 8)) fun _ => .pr _)
def sizeB : RD Size := bdR (gN 8) fun a => bdR (gN 8) fun b => bdR (gN 8) fun c => bdR (gN 8) fun d => pr ⟨256 * a + b, 256 * c + d⟩
theorem EqR.symm {α : Type} {f g : RD α} (h : EqR f g) : EqR g f := fun s hs => by
  obtain ⟨a, b⟩ := h s hs
  exact ⟨a.symm, fun R e => ⟨(b R (a.trans e)).1.symm, (b R (a.trans e)).2⟩⟩
theorem EqR.size : EqR sizeS sizeB := by
  refine EqR.symm ?_
  unfold sizeB sizeS
  refine (EqR.split 8 8 (k' := fun a b => bdR (Xb.gN 16) fun y => Xb.pr (⟨256 * a + b, y⟩ : Size)) (fun x y _ _ => ?_) (fun _ _ => .bd (.gN 8) fun _ => .bd (.gN 8) fun _ => .pr _) (fun _ _ => .bd (.gN 16) fun _ => .pr _)).trans ?_
  · refine (EqR.split 8 8 (k' := fun c d => Xb.pr (⟨256 * x + y, 256 * c + d⟩ : Size)) (fun _ _ _ _ => .pr _) (fun _ _ => .pr _) (fun _ _ => .pr _)).trans ?_
    refine EqR.bdP (P := fun m => 0 ≤ m ∧ m < 2 ^ 16) (.gN 16) (fun s hs => gN_bdS hs 16) (fun m hm => ?_) (fun _ => .pr _) (fun _ => .pr _)
    have : 256 * (m / 2 ^ 8) + m % 2 ^ 8 = m := by omega
    rw [this]; exact .pr _
  · refine EqR.bdP (P := fun m => 0 ≤ m ∧ m < 2 ^ 16) (.gN 16) (fun s hs => gN_bdS hs 16) (fun m hm => ?_) (fun _ => .bd (.gN 16) fun _ => .pr _) (fun _ => .bd (.gN 16) fun _ => .pr _)
    have : 256 * (m / 2 ^ 8) + m % 2 ^ 8 = m := by omega
    rw [this]; exact .self (BinP.bd (.gN 16) fun _ => .pr _)
theorem EqR.gone {α : Type} {f g : RD α} (h : EqR f g) (ef : ErrP f) (eg : ErrP g) : ∀ n, EqR (goneS f n) (goneS g n)
  | 0 => fun s hs => ⟨rfl, fun R e => ⟨rfl, hs R e⟩⟩
  | n + 1 => by
    have := EqR.bd (F := fun x => bdR (goneS f n) fun q => Xb.pr (x :: q)) (G := fun x => bdR (goneS g n) fun q => Xb.pr (x :: q)) h (fun a => EqR.bd (EqR.gone h ef eg n) (fun _ => .pr _) (fun _ => .pr _) (fun _ => .pr _)) (fun _ => .bd (.gone _ _) fun _ => .pr _) (fun _ => .bd (.gone _ _) fun _ => .pr _)
    intro s hs
    cases s with
    | error e => exact ⟨rfl, fun R e => by cases e⟩
    | ok R => exact this (.ok R) hs
def picB : RD Group := bdR (gN 8) fun m => bdR (goneS (gN 8) (m / 4 % 4).toNat) fun l => pr ⟨m / 32, o1 (m / 16 % 2), l⟩
theorem BinP.gone {α : Type} {f : RD α} (h : BinP f) : ∀ (n : Nat), BinP (goneS f n)
  | 0, s, hs => hs
  | n + 1, .error e, hs => hs
  | n + 1, .ok R, hs => BinP.gone h n _ (h _ hs)
theorem EqR.pic : EqR picS picB := by
  have e0 : picS = bdR (Xb.gN 3) fun a => bdR (Xb.gN 1) fun u => bdR (Xb.gN 2) fun m => bdR (Xb.gN 2) fun _ => bdR (goneS (Xb.gN 8) m.toNat) fun l => Xb.pr ⟨a, o1 u, l⟩ := rfl
  rw [e0]
  refine (EqR.split 3 1 (fun x y _ _ => .self (BinP.bd (.gN 2) fun _ => BinP.bd (.gN 2) fun _ => BinP.bd (.gone (.gN 8) _) fun _ => .pr _)) ?_ ?_).trans ?_
  · exact fun _ _ => .bd (.gN 2) fun _ => .bd (.gN 2) fun _ => .bd (.gone _ _) fun _ => .pr _
  · exact fun _ _ => .bd (.gN 2) fun _ => .bd (.gN 2) fun _ => .bd (.gone _ _) fun _ => .pr _
  refine (EqR.split 4 2 (fun x y _ _ => .self (BinP.bd (.gN 2) fun _ => BinP.bd (.gone (.gN 8) _) fun _ => .pr _)) ?_ ?_).trans ?_
  · exact fun _ _ => .bd (.gN 2) fun _ => .bd (.gone _ _) fun _ => .pr _
  · exact fun _ _ => .bd (.gN 2) fun _ => .bd (.gone _ _) fun _ => .pr _
  refine (EqR.split 6 2 (fun x y _ _ => .self (BinP.bd (.gone (.gN 8) _) fun _ => .pr _)) ?_ ?_).trans ?_
  · exact fun _ _ => .bd (.gone _ _) fun _ => .pr _
  · exact fun _ _ => .bd (.gone _ _) fun _ => .pr _
  unfold picB
  refine EqR.bdP (P := fun m => 0 ≤ m ∧ m < 2 ^ 8) (.gN 8) (fun s hs => gN_bdS hs 8) (fun m hm => ?_) (fun _ => .bd (.gone _ _) fun _ => .pr _) (fun _ => .bd (.gone _ _) fun _ => .pr _)
  have e1 : m / 2 ^ 2 / 2 ^ 2 / 2 ^ 1 = m / 32 := by omega
  have e2 : m / 2 ^ 2 / 2 ^ 2 % 2 ^ 1 = m / 16 % 2 := by omega
  have e3 : m / 2 ^ 2 % 2 ^ 2 = m / 4 % 4 := by omega
  rw [e1, e2, e3]
  exact .self (BinP.bd (.gone (.gN 8) _) fun _ => .pr _)
theorem ErrP.picB : ErrP picB := .bd (.gN 8) fun _ => .bd (.gone _ _) fun _ => .pr _
theorem ErrP.sizeB : ErrP sizeB := .bd (.gN 8) fun _ => .bd (.gN 8) fun _ => .bd (.gN 8) fun _ => .bd (.gN 8) fun _ => .pr _
theorem EqR.opt {α : Type} {b : Bool} {f g : RD α} {z : α} (h : EqR f g) : EqR (opt b f z) (opt b g z) := by
  unfold Xb.opt; cases b
  · exact .pr z
  · exact h
def scaleB : RD Scale := bdR (gN 8) fun n => bdR (opt (o1 (n / 16 % 2)) (goneS sizeB (n / 32 + 1).toNat) []) fun sz => bdR (opt (o1 (n / 8 % 2)) (bdR (gN 8) fun m => goneS picB m.toNat) []) fun pc => pr ⟨n / 32 + 1, o1 (n / 16 % 2), sz, o1 (n / 8 % 2), pc⟩
theorem EqR.scale : EqR scaleS scaleB := by
  have e0 : scaleS = bdR (Xb.gN 3) fun a => bdR (Xb.gN 1) fun hs => bdR (Xb.gN 1) fun hp => bdR (Xb.gN 3) fun _ => bdR (Xb.opt (o1 hs) (goneS sizeS (a + 1).toNat) []) fun sz => bdR (Xb.opt (o1 hp) (bdR (Xb.gN 8) fun m => goneS picS m.toNat) []) fun pc => Xb.pr ⟨a + 1, o1 hs, sz, o1 hp, pc⟩ := rfl
  have bs : BinP sizeS := BinP.bd (.gN _) fun _ => BinP.bd (.gN _) fun _ => .pr _
  have bp : BinP picS := BinP.bd (.gN _) fun _ => BinP.bd (BinP.bd (.gN _) fun _ => .pr _) fun _ => BinP.bd (.gN _) fun _ => BinP.bd (.gN _) fun _ => BinP.bd (.gone (.gN 8) _) fun _ => .pr _
  rw [e0]
  refine (EqR.split 3 1 (fun x y _ _ => .self (BinP.bd (.gN 1) fun _ => BinP.bd (.gN 3) fun _ => BinP.bd (.opt (.gone bs _)) fun _ => BinP.bd (.opt (BinP.bd (.gN 8) fun _ => .gone bp _)) fun _ => .pr _)) ?_ ?_).trans ?_
  · exact fun _ _ => .bd (.gN 1) fun _ => .bd (.gN 3) fun _ => .bd (.opt (.gone _ _)) fun _ => .bd (.opt (.bd (.gN 8) fun _ => .gone _ _)) fun _ => .pr _
  · exact fun _ _ => .bd (.gN 1) fun _ => .bd (.gN 3) fun _ => .bd (.opt (.gone _ _)) fun _ => .bd (.opt (.bd (.gN 8) fun _ => .gone _ _)) fun _ => .pr _
  refine (EqR.split 4 1 (fun x y _ _ => .self (BinP.bd (.gN 3) fun _ => BinP.bd (.opt (.gone bs _)) fun _ => BinP.bd (.opt (BinP.bd (.gN 8) fun _ => .gone bp _)) fun _ => .pr _)) ?_ ?_).trans ?_
  · exact fun _ _ => .bd (.gN 3) fun _ => .bd (.opt (.gone _ _)) fun _ => .bd (.opt (.bd (.gN 8) fun _ => .gone _ _)) fun _ => .pr _
  · exact fun _ _ => .bd (.gN 3) fun _ => .bd (.opt (.gone _ _)) fun _ => .bd (.opt (.bd (.gN 8) fun _ => .gone _ _)) fun _ => .pr _
  refine (EqR.split 5 3 (fun x y _ _ => .self (BinP.bd (.opt (.gone bs _)) fun _ => BinP.bd (.opt (BinP.bd (.gN 8) fun _ => .gone bp _)) fun _ => .pr _)) ?_ ?_).trans ?_
  · exact fun _ _ => .bd (.opt (.gone _ _)) fun _ => .bd (.opt (.bd (.gN 8) fun _ => .gone _ _)) fun _ => .pr _
  · exact fun _ _ => .bd (.opt (.gone _ _)) fun _ => .bd (.opt (.bd (.gN 8) fun _ => .gone _ _)) fun _ => .pr _
  unfold scaleB
  refine EqR.bdP (P := fun m => 0 ≤ m ∧ m < 2 ^ 8) (.gN 8) (fun s hs => gN_bdS hs 8) (fun m hm => ?_) (fun _ => .bd (.opt (.gone _ _)) fun _ => .bd (.opt (.bd (.gN 8) fun _ => .gone _ _)) fun _ => .pr _) (fun _ => .bd (.opt (.gone _ _)) fun _ => .bd (.opt (.bd (.gN 8) fun _ => .gone _ _)) fun _ => .pr _)
  have e1 : m / 2 ^ 3 / 2 ^ 1 / 2 ^ 1 = m / 32 := by omega
  have e2 : m / 2 ^ 3 / 2 ^ 1 % 2 ^ 1 = m / 16 % 2 := by omega
  have e3 : m / 2 ^ 3 % 2 ^ 1 = m / 8 % 2 := by omega
  rw [e1, e2, e3]
  refine EqR.bd (.opt (.gone .size .size .sizeB _)) (fun _ => EqR.bd (.opt (EqR.bd (.gN 8) (fun _ => .gone .pic .pic .picB _) (fun _ => .gone _ _) fun _ => .gone _ _)) (fun _ => .pr _) (fun _ => .pr _) fun _ => .pr _) (fun _ => .bd (.opt (.bd (.gN 8) fun _ => .gone _ _)) fun _ => .pr _) (fun _ => .bd (.opt (.bd (.gN 8) fun _ => .gone _ _)) fun _ => .pr _)
def tailB (h : H8) (p : Bool × Int) (y : Int × Bool × Int × Bool × Int) : RD Vp9 :=
  bdR (opt (h.2.2.2.1 && h.2.1) (refsS 3) []) fun r => bdR (opt h.2.2.2.2.2.2.1 scaleB zSc) fun c =>
    pr ⟨h.1, p.1, p.2, h.2.1, h.2.2.1, y.1, y.2.2.1, y.2.1, y.2.2.2.1, h.2.2.2.1, y.2.2.2.2, r, h.2.2.2.2.1, h.2.2.2.2.2.1, h.2.2.2.2.2.2.1, c, h.2.2.2.2.2.2.2⟩
theorem ErrP.scaleB : ErrP scaleB := .bd (.gN 8) fun _ => .bd (.opt (.gone _ _)) fun _ => .bd (.opt (.bd (.gN 8) fun _ => .gone _ _)) fun _ => .pr _
theorem ErrP.tailB {h : H8} {p : Bool × Int} {y : Int × Bool × Int × Bool × Int} : ErrP (tailB h p y) := .bd (.opt (.refs 3)) fun _ => .bd (.opt .scaleB) fun _ => .pr _
theorem ErrP.layB (fl : Bool) : ErrP (layB fl) := .bd (.gN 8) fun _ => .bd (.opt (.gN 8)) fun _ => .pr _
theorem ErrP.hdB : ErrP hdB := .bd (.gN 8) fun p e => hdC_err p e
def thrB : RD Vp9 := bdR hdrB fun h => bdR (opt h.1 hdB (false, 0)) fun p => bdR (opt h.2.2.1 (layB h.2.2.2.1) (0, false, 0, false, 0)) fun y => tailB h p y
theorem bad_bin {s : RS} (h : binS s) : binS (badS s) := by
  cases s with
  | error e => exact h
  | ok R => exact fun R e => by cases e
theorem BinP.refs : ∀ (j : Nat), BinP (refsS j)
  | 0, s, hs => hs
  | j + 1, .error e, hs => hs
  | j + 1, .ok R, hs => by
    have h1 : binS (tS (Xb.gN 7 (.ok R)).2).2 := (hs.gN 7).gN 1
    have h2 : binS (if (Xb.gN 7 (.ok R)).1 = 0 ∨ ((tS (Xb.gN 7 (.ok R)).2).1 = true ∧ j = 0) then badS (tS (Xb.gN 7 (.ok R)).2).2 else (tS (Xb.gN 7 (.ok R)).2).2) := by
      split
      · exact bad_bin h1
      · exact h1
    unfold refsS
    simp only
    split
    · exact BinP.refs j _ h2
    · exact h2
theorem EqR.thr : EqR thrS thrB := by
  rw [thrS_eq]
  unfold thrB
  refine EqR.bd .hdr (fun h => ?_) (fun h => .bd (.opt .hd) fun _ => .bd (.opt (.lay _)) fun _ => .tail) (fun h => .bd (.opt .hdB) fun _ => .bd (.opt (.layB _)) fun _ => .tailB)
  refine EqR.bd (.opt .hd) (fun p => ?_) (fun p => .bd (.opt (.lay _)) fun _ => .tail) (fun p => .bd (.opt (.layB _)) fun _ => .tailB)
  refine EqR.bd (.opt (.lay _)) (fun y => ?_) (fun p => .tail) (fun p => .tailB)
  exact EqR.bd (.opt (.self (BinP.refs 3))) (fun _ => EqR.bd (.opt .scale) (fun _ => .pr _) (fun _ => .pr _) fun _ => .pr _) (fun _ => .bd (.opt .scale) fun _ => .pr _) (fun _ => .bd (.opt .scaleB) fun _ => .pr _)
end Xb

namespace Xb
open Go

theorem all_loopQ {α σ ρ : Type} {a : List α} {step : σ → Option (σ ⊕ ρ)} (st : Nat → σ) {p : α → Bool} {r r0 : ρ} (hend : step (st a.length) = some (.inr r))
    (h : ∀ i (hi : i < a.length), step (st i) = if p a[i] = true then some (.inl (st (i + 1))) else some (.inr r0)) :
    loopG none step (st 0) = some (if a.all p then r else r0) := by
  have key : ∀ m i, i + m = a.length → (∀ x, x ∈ a.take i → p x = true) → loopG none step (st i) = some (if a.all p then r else r0) := by
    intro m
    induction m with
    | zero =>
      intro i hi ht
      have e : i = a.length := by omega
      rw [loopG_eq, e, hend]
      rw [List.take_of_length_le (by omega)] at ht
      have : a.all p = true := List.all_eq_true.2 ht
      simp [this]
    | succ m ih =>
      intro i hi ht
      have hia : i < a.length := by omega
      rw [loopG_eq, h i hia]
      by_cases hne : p a[i] = true
      · rw [if_pos hne]
        refine ih (i + 1) (by omega) fun x hx => ?_
        rw [List.take_add_one, List.getElem?_eq_getElem hia] at hx
        rcases List.mem_append.1 hx with hx | hx
        · exact ht x hx
        · simp at hx; rw [hx]; exact hne
      · rw [if_neg hne]
        have : a.all p = false := by
          rw [← Bool.not_eq_true, List.all_eq_true]
          exact fun q => hne (q _ (List.getElem_mem hia))
        simp [this]
  exact key a.length 0 (by omega) (by simp)
theorem rin {n a b : Int} : ref24_in n a b = decide (a ≤ n ∧ n ≤ b) := by
  unfold ref24_in
  rw [cm_geq, cm_leq, ← Bool.decide_and]
theorem rs3 {s : Scale} {i : Nat} (hi : i < s.pics.length) (hl : s.pics[i].refs.length ≤ 1000) (hs : s.pics.length ≤ 1000) :
    ref24_RightScale_l3 none (i : Int) 0 s = some (if s.pics[i].refs.all (fun n => decide (0 ≤ n ∧ n ≤ 255)) then .inl (((i + 1 : Nat) : Int), s) else .inr false) := by
  unfold ref24_RightScale_l3
  refine all_loopQ (step := fun (q : Int × Scale) => ref24_RightScale_s3 none i q.1 q.2) (a := s.pics[i].refs) (fun k => (((k : Nat) : Int), s)) ?_ (fun k hk => ?_)
  · show ref24_RightScale_s3 none i (s.pics[i].refs.length : Int) s = _
    unfold ref24_RightScale_s3
    rw [bnd (ix_some rfl hi), if_neg (by rw [cm_lss]; simp), ar_add, w_i64 (by omega) (by omega)]; rfl
  · show ref24_RightScale_s3 none i (k : Int) s = _
    unfold ref24_RightScale_s3
    rw [bnd (ix_some rfl hi), if_pos (by rw [cm_lss]; simpa using hk), bnd (ix_some rfl hi), bnd (ix_some rfl hk), rin]
    by_cases q : 0 ≤ s.pics[i].refs[k] ∧ s.pics[i].refs[k] ≤ 255
    · rw [if_neg (by simp [q]), if_pos (by simp [q]), ar_add, w_i64 (by omega) (by omega)]; rfl
    · rw [if_pos (by simp [decide_eq_false q]), if_neg (by simp only [decide_eq_true_eq]; exact q)]; rfl
theorem rs2 {s : Scale} (hs : SmS s) : ref24_RightScale_l2 none 0 s = some (if s.pics.all rG then true else false) := by
  unfold ref24_RightScale_l2
  have hp := hs.pics
  refine all_loopQ (step := fun (q : Int × Scale) => ref24_RightScale_s2 none q.1 q.2) (a := s.pics) (fun k => (((k : Nat) : Int), s)) ?_ (fun k hk => ?_)
  · show ref24_RightScale_s2 none (s.pics.length : Int) s = _
    unfold ref24_RightScale_s2
    rw [if_neg (by rw [cm_lss]; simp)]; rfl
  · show ref24_RightScale_s2 none (k : Int) s = _
    unfold ref24_RightScale_s2
    rw [if_pos (by rw [cm_lss]; simpa using hk), bnd (ix_some rfl hk), rin]
    have hr := hs.each _ (List.getElem_mem hk)
    by_cases q : 0 ≤ s.pics[k].tid ∧ s.pics[k].tid ≤ 7
    · rw [decide_eq_true q]
      simp only [Bool.not_true, Bool.not_false, gTT, Bool.false_or]
      rw [bnd (ix_some rfl hk)]
      by_cases q2 : s.pics[k].refs.length ≤ 3
      · rw [if_neg (by simp [cm_gtr]; omega), rs3 hk hr (by omega)]
        by_cases q3 : s.pics[k].refs.all (fun n => decide (0 ≤ n ∧ n ≤ 255)) = true
        · rw [if_pos q3, if_pos (rG_iff.2 ⟨q, q2, fun n hn => by simpa using List.all_eq_true.1 q3 n hn⟩)]
        · rw [if_neg q3, if_neg (fun h => q3 (List.all_eq_true.2 fun n hn => by simpa using (rG_iff.1 h).2.2 n hn))]
      · rw [if_pos (by simp [cm_gtr]; omega), if_neg (fun h => q2 (rG_iff.1 h).2.1)]; rfl
    · rw [decide_eq_false q]
      simp only [Bool.not_true, Bool.not_false, gTF, Bool.true_or, Option.bind_some]
      rw [if_pos trivial, if_neg (fun h => q (rG_iff.1 h).1)]; rfl
noncomputable def rZ (x : Size) : Bool := @decide (RightZ x) (Classical.propDecidable _)
theorem rZ_iff {g : Size} : rZ g = true ↔ RightZ g := by simp [rZ]
theorem rs1 {s : Scale} (hs : SmS s) : ref24_RightScale_l1 none 0 s = some (if s.sizes.all rZ then (if s.pics.all rG then true else false) else false) := by
  unfold ref24_RightScale_l1
  have hp := hs.sizes
  refine all_loopQ (step := fun (q : Int × Scale) => ref24_RightScale_s1 none q.1 q.2) (a := s.sizes) (fun k => (((k : Nat) : Int), s)) ?_ (fun k hk => ?_)
  · show ref24_RightScale_s1 none (s.sizes.length : Int) s = _
    unfold ref24_RightScale_s1
    rw [if_neg (by rw [cm_lss]; simp), rs2 hs]; rfl
  · show ref24_RightScale_s1 none (k : Int) s = _
    unfold ref24_RightScale_s1
    rw [if_pos (by rw [cm_lss]; simpa using hk), bnd (ix_some rfl hk), rin]
    by_cases q : 0 ≤ s.sizes[k].wide ∧ s.sizes[k].wide ≤ 65535
    · rw [decide_eq_true q]
      simp only [Bool.not_true, Bool.not_false, gTT, Bool.false_or]
      rw [bnd (ix_some rfl hk), rin]
      by_cases q2 : 0 ≤ s.sizes[k].high ∧ s.sizes[k].high ≤ 65535
      · rw [if_neg (by simp [q2]), if_pos (rZ_iff.2 ⟨q, q2⟩), ar_add, w_i64 (by omega) (by omega)]; rfl
      · rw [if_pos (by simp [decide_eq_false q2]), if_neg (fun h => q2 (rZ_iff.1 h).2)]; rfl
    · rw [decide_eq_false q]
      simp only [Bool.not_true, Bool.not_false, gTF, Bool.true_or, Option.bind_some]
      rw [if_pos trivial, if_neg (fun h => q (rZ_iff.1 h).1)]; rfl
theorem rscale_eq {s : Scale} (hs : SmS s) : ref24_RightScale none s = some (rS s) := by
  unfold ref24_RightScale
  by_cases c1 : (1 ≤ s.layers ∧ s.layers ≤ 8) ∧ (s.pics.length : Int) ≤ 255 ∧ (s.pics.length = 0 ∨ s.hasPics = true)
  · rw [if_neg ?_]
    · by_cases c2 : (s.sizes.length : Int) = if s.hasSizes then s.layers else 0
      · rw [if_neg ?_, rs1 hs]
        · congr 1
          rw [Bool.eq_iff_iff, rS_iff]
          have ha : s.sizes.all rZ = true ↔ ∀ x, x ∈ s.sizes → RightZ x := by rw [List.all_eq_true]; exact ⟨fun h x hx => rZ_iff.1 (h x hx), fun h x hx => rZ_iff.2 (h x hx)⟩
          have hb : s.pics.all rG = true ↔ ∀ x, x ∈ s.pics → RightG x := by rw [List.all_eq_true]; exact ⟨fun h x hx => rG_iff.1 (h x hx), fun h x hx => rG_iff.2 (h x hx)⟩
          have hc : (s.pics.length : Int) ≤ if s.hasPics then 255 else 0 := by
            rcases c1.2.2 with h | h
            · rw [h]; split <;> simp
            · rw [h]; exact c1.2.1
          constructor
          · intro h
            by_cases z1 : s.sizes.all rZ = true
            · by_cases z2 : s.pics.all rG = true
              · exact ⟨c1.1, c2, hc, ha.1 z1, hb.1 z2⟩
              · rw [if_pos z1, if_neg z2] at h; cases h
            · rw [if_neg z1] at h; cases h
          · rintro ⟨_, _, _, z1, z2⟩
            rw [if_pos (ha.2 z1), if_pos (hb.2 z2)]
        · simp only [cm_neq, cm_gtr]
          cases hh : s.hasSizes <;> rw [hh] at c2 <;> simp at c2 ⊢
          · exact c2
          · exact c2
      · rw [if_pos ?_]
        · congr 1
          rw [eq_comm, ← Bool.not_eq_true, rS_iff]
          exact fun h => c2 h.2.1
        · simp only [cm_neq, cm_gtr]
          cases hh : s.hasSizes <;> rw [hh] at c2 <;> simp at c2 ⊢
          · exact List.length_pos_iff.2 c2
          · exact c2
    · simp only [cm_lss, cm_gtr, Bool.or_eq_true, Bool.and_eq_true, decide_eq_true_eq, Bool.not_eq_true']
      rintro (((h | h) | h) | ⟨h, h2⟩)
      · omega
      · omega
      · omega
      · rcases c1.2.2 with h3 | h3
        · omega
        · rw [h3] at h2; cases h2
  · rw [if_pos ?_]
    · congr 1
      rw [eq_comm, ← Bool.not_eq_true, rS_iff]
      rintro ⟨h1, h2, h3, _⟩
      refine c1 ⟨h1, ?_, ?_⟩
      · split at h3 <;> omega
      · cases hh : s.hasPics with
        | true => exact .inr rfl
        | false => rw [hh] at h3; simp at h3; left; simp [h3]
    · simp only [cm_lss, cm_gtr, Bool.or_eq_true, Bool.and_eq_true, decide_eq_true_eq, Bool.not_eq_true']
      refine Classical.byContradiction fun h => c1 ?_
      simp only [not_or, not_and, Bool.not_eq_false] at h
      obtain ⟨⟨⟨a, b⟩, c⟩, e⟩ := h
      refine ⟨by omega, by omega, ?_⟩
      by_cases z : s.pics.length = 0
      · exact .inl z
      · exact .inr (e (by omega))
theorem rj1 {d : Vp9} (hs : SmD d) : ∃ x, ref24_Right_j1 none d = some x ∧ (x = true ↔ ScD d) := by
  unfold ref24_Right_j1 ScD
  cases d.hasScale with
  | true => exact ⟨_, by rw [if_pos rfl, bnd (rscale_eq hs.sc)], by rw [rS_iff]; rfl⟩
  | false => exact ⟨_, by rw [if_neg (by decide), bnd (sameSc_eq hs.sc)], by rw [decide_eq_true_eq]; rfl⟩
theorem rright_eq {d : Vp9} (hs : SmD d) : ref24_Right none d = some (rD d) := by
  have hr := hs.refs
  suffices h : ∃ x, ref24_Right none d = some x ∧ (x = true ↔ RightD d) by
    obtain ⟨x, a, b⟩ := h
    rw [a]
    congr 1
    rw [Bool.eq_iff_iff, b, rD_iff]
  unfold ref24_Right
  have no : ∀ {P : Prop}, (RightD d → ¬ P) → P → ∃ x, some false = some x ∧ (x = true ↔ RightD d) := fun h p => ⟨false, rfl, by simp only [Bool.false_eq_true, false_iff]; exact fun q => h q p⟩
  split
  · rename_i h
    refine no (P := _) ?_ h
    rintro ⟨h0, h1, _⟩
    unfold mostP at h0
    simp only [cm_neq, cm_lss, cm_gtr, Bool.or_eq_true, Bool.and_eq_true, decide_eq_true_eq, Bool.not_eq_true', decide_eq_false_iff_not]
    cases hp : d.hasPic <;> cases hw : d.wide <;> rw [hp, hw] at h0 <;> simp at h0 ⊢ <;> try omega
    all_goals (rw [hp, hw] at h1; simp at h1)
  · rename_i c1
    split
    · rename_i h
      refine no (P := _) ?_ h
      rintro ⟨_, _, hl, _⟩
      unfold LayD at hl
      simp only [rin, cm_neq, Bool.or_eq_true, Bool.and_eq_true, decide_eq_true_eq, Bool.not_eq_true', decide_eq_false_iff_not]
      cases hh : d.hasLayer <;> cases hf : d.flexible <;> rw [hh] at hl <;> simp [hf] at hl ⊢ <;> omega
    · rename_i c2
      split
      · rename_i h
        refine no (P := _) ?_ h
        rintro ⟨_, _, hl, _⟩
        unfold LayD at hl
        simp only [cm_neq, Bool.or_eq_true, Bool.and_eq_true, decide_eq_true_eq, Bool.not_eq_true', decide_eq_false_iff_not]
        cases hh : d.hasLayer <;> rw [hh] at hl <;> simp at hl ⊢
        exact ⟨⟨⟨⟨hl.1, hl.2.1⟩, hl.2.2.2.2⟩, hl.2.2.1⟩, hl.2.2.2.1⟩
      · rename_i c3
        have base : (0 ≤ d.pic ∧ d.pic ≤ mostP d) ∧ (d.hasPic = true ∨ d.wide = false) ∧ LayD d := by
          simp only [rin, cm_neq, cm_lss, cm_gtr, Bool.or_eq_true, Bool.and_eq_true, decide_eq_true_eq, Bool.not_eq_true', decide_eq_false_iff_not, not_or, not_and] at c1 c2 c3
          refine ⟨?_, ?_, ?_⟩
          · unfold mostP
            cases hp : d.hasPic <;> cases hw : d.wide <;> simp [hp, hw] at c1 ⊢ <;> omega
          · cases hp : d.hasPic <;> cases hw : d.wide <;> simp [hp, hw] at c1 ⊢
          · unfold LayD
            cases hh : d.hasLayer <;> simp [hh] at c3 ⊢
            · exact ⟨c3.1.1.1.1, c3.1.1.1.2, c3.1.2, c3.2, c3.1.1.2⟩
            · cases hf : d.flexible <;> simp [hf] at c2 ⊢ <;> omega
        have fin : ∀ {m : Option Bool} {P : Prop}, (P ↔ (RefD d ∧ ScD d)) → (∃ x, m = some x ∧ (x = true ↔ P)) → ∃ x, m = some x ∧ (x = true ↔ RightD d) := by
          rintro m P h ⟨x, a, b⟩
          exact ⟨x, a, b.trans (h.trans ⟨fun q => ⟨base.1, base.2.1, base.2.2, q.1, q.2⟩, fun q => ⟨q.2.2.2.1, q.2.2.2.2⟩⟩)⟩
        obtain ⟨y, j1, j2⟩ := rj1 hs
        cases hf : (d.flexible && d.inter) with
        | true =>
          rw [if_pos rfl]
          have hRef : RefD d ↔ (1 ≤ d.refs.length ∧ d.refs.length ≤ 3) ∧ ∀ n, n ∈ d.refs → 1 ≤ n ∧ n ≤ 127 := by unfold RefD; rw [hf]; rfl
          split
          · rename_i h
            refine no (P := _) ?_ h
            rintro ⟨_, _, _, q, _⟩
            rw [hRef] at q
            simp only [cm_lss, cm_gtr, Bool.or_eq_true, decide_eq_true_eq]; omega
          · rename_i h
            simp only [cm_lss, cm_gtr, Bool.or_eq_true, decide_eq_true_eq, not_or] at h
            have hloop : ref24_Right_l2 none 0 d = some (if d.refs.all (fun n => decide (1 ≤ n ∧ n ≤ 127)) then y else false) := by
              unfold ref24_Right_l2
              refine all_loopQ (step := fun (q : Int × Vp9) => ref24_Right_s2 none q.1 q.2) (a := d.refs) (fun k => (((k : Nat) : Int), d)) ?_ (fun k hk => ?_)
              · show ref24_Right_s2 none (d.refs.length : Int) d = _
                unfold ref24_Right_s2
                rw [if_neg (by rw [cm_lss]; simp), j1]; rfl
              · show ref24_Right_s2 none (k : Int) d = _
                unfold ref24_Right_s2
                rw [if_pos (by rw [cm_lss]; simpa using hk), bnd (ix_some rfl hk), rin]
                by_cases q : 1 ≤ d.refs[k] ∧ d.refs[k] ≤ 127
                · rw [if_neg (by simp [q]), if_pos (by simp [q]), ar_add, w_i64 (by omega) (by omega)]; rfl
                · rw [if_pos (by simp [decide_eq_false q]), if_neg (by simp only [decide_eq_true_eq]; exact q)]; rfl
            refine fin (P := RefD d ∧ ScD d) Iff.rfl ⟨_, hloop, ?_⟩
            by_cases q : d.refs.all (fun n => decide (1 ≤ n ∧ n ≤ 127)) = true
            · rw [if_pos q, j2]
              refine ⟨fun hsc => ⟨hRef.2 ⟨by omega, fun n hn => by simpa using List.all_eq_true.1 q n hn⟩, hsc⟩, fun h => h.2⟩
            · rw [if_neg q]
              simp only [Bool.false_eq_true, false_iff]
              exact fun h => q (List.all_eq_true.2 fun n hn => by simpa using (hRef.1 h.1).2 n hn)
        | false =>
          rw [if_neg (by decide)]
          have hRef : RefD d ↔ d.refs = [] := by unfold RefD; rw [hf]; rfl
          split
          · rename_i h
            refine no (P := _) ?_ h
            rintro ⟨_, _, _, q, _⟩
            rw [hRef] at q
            simp [cm_gtr, q]
          · rename_i h
            refine fin (P := RefD d ∧ ScD d) Iff.rfl ⟨y, j1, j2.trans ⟨fun q => ⟨hRef.2 ?_, q⟩, fun q => q.2⟩⟩
            simp only [cm_gtr, decide_eq_true_eq] at h
            exact List.length_eq_zero_iff.1 (by omega)
end Xb

namespace Xb
open Go

structure RepE (B : List Int) (y : crossbarref24_Eye) (s : RS) : Prop where
  by_ : y.b = B
  st : match s with
    | .ok R => y.e = 0 ∧ 0 ≤ y.at_ ∧ y.at_ ≤ B.length ∧ R = (bitsOf B).drop (8 * y.at_.toNat)
    | .error e => y.e = e ∧ e ≠ 0
theorem RepE.binS {B : List Int} {y : crossbarref24_Eye} {s : RS} (h : RepE B y s) : binS s := by
  intro R e
  subst e
  obtain ⟨_, _, _, _, h5⟩ := h
  rw [h5]; exact (bitsOf_bin B).drop _
theorem gN8_bd {B : List Int} {y : crossbarref24_Eye} {s : RS} (h : RepE B y s) : 0 ≤ (gN 8 s).1 ∧ (gN 8 s).1 ≤ 255 := by
  have := gN_bdS h.binS 8
  exact ⟨this.1, by have := this.2; omega⟩
theorem byteE {B : List Int} (hB : By B) {y : crossbarref24_Eye} {s : RS} (h : RepE B y s) : ∃ y', ref24_Eye_byte_y1 none y = some ((gN 8 s).1, y') ∧ RepE B y' (gN 8 s).2 := by
  have hl := hB.len
  unfold ref24_Eye_byte_y1 ref24_Eye_byte_y1_j1
  cases s with
  | error e =>
    obtain ⟨h1, h2, h3⟩ := h
    refine ⟨y, ?_, h1, h2, h3⟩
    rw [if_pos (by simp [cm_neq, h2, h3]), if_neg (by rw [cm_eql, h2]; simpa using h3)]
    rfl
  | ok R =>
    obtain ⟨h1, h2, h3, h4, h5⟩ := h
    have hR : R.length = 8 * B.length - 8 * y.at_.toNat := by rw [h5, List.length_drop, bitsOf_len]
    by_cases hc : y.at_ = B.length
    · have e1 : gN 8 (.ok R) = (0, .error 2) := by unfold gN; simp only; rw [if_pos (by omega)]
      rw [e1]
      refine ⟨{ y with e := 2 }, ?_, h1, rfl, by decide⟩
      rw [if_pos (by rw [h1]; simp [cm_geq, hc]), if_pos (by rw [cm_eql, h2]; rfl)]
    · have e1 : gN 8 (.ok R) = (B.getD y.at_.toNat 0, .ok ((bitsOf B).drop (8 * (y.at_ + 1).toNat))) := by
        unfold gN
        simp only
        rw [if_neg (by omega), h5, ← vl_num (by omega), byte_vl hB.u8, List.drop_drop]
        congr 3; omega
      rw [e1]
      refine ⟨{ y with at_ := y.at_ + 1 }, ?_, h1, h2, by show 0 ≤ y.at_ + 1; omega, by show y.at_ + 1 ≤ (B.length : Int); omega, rfl⟩
      have a1 : ar .add .i64 y.at_ 1 = y.at_ + 1 := by rw [ar_add, w_i64 (by omega) (by omega)]
      have a2 : ar .sub .i64 (y.at_ + 1) 1 = y.at_ := by rw [ar_sub, w_i64 (by omega) (by omega)]; omega
      have hb := hB.get y.at_.toNat
      rw [if_neg (by rw [h1]; simp [cm_neq, cm_geq, h2]; omega), a1, a2, bnd (ix_getD h3 (by rw [h1]; omega)), h1, w_i64 (by omega) (by omega)]
/-- told right, or an error -/
def TellE {α : Type} (B : List Int) (a : α) (y : crossbarref24_Eye) (x : α × RS) : Prop := RepE B y x.2 ∧ ∀ R, x.2 = .ok R → a = x.1
theorem dq {m : Int} (h : 0 ≤ m) (h2 : m ≤ 65535) (k : Int) (hk : 0 < k) : dv .quo .i64 m k = m / k := by
  rw [dv_quo h, w_i64]
  · have := Int.ediv_nonneg h (Int.le_of_lt hk); omega
  · have := Int.ediv_le_self k h; omega
theorem dr {m : Int} (h : 0 ≤ m) (k : Int) : dv .rem .i64 m k = m % k := dv_rem h
theorem sizesE {B : List Int} (hB : By B) {s0 : Scale} (hs : s0.hasSizes = true) {r : Scale → crossbarref24_Eye → Option (Scale × crossbarref24_Eye)}
    (hr : ∀ (i : Int) (v : Scale) (y : crossbarref24_Eye), v.layers ≤ i → ref24_Eye_scale_y1_s1 none i v y = Option.map Sum.inr (r v y)) (hL : s0.layers ≤ 100) :
    ∀ (n : Nat) (i : Int) (out : List Size) (y : crossbarref24_Eye) (s : RS), i + n = s0.layers → 0 ≤ i → out.length = i.toNat → RepE B y s →
      ∃ l y', loopG none (fun (q : Int × Scale × crossbarref24_Eye) => ref24_Eye_scale_y1_s1 none q.1 q.2.1 q.2.2) (i, { s0 with sizes := out }, y) =
        loopG none (fun (q : Int × Scale × crossbarref24_Eye) => ref24_Eye_scale_y1_s1 none q.1 q.2.1 q.2.2) (s0.layers, { s0 with sizes := out ++ l }, y') ∧ TellE B l y' (goneS sizeB n s)
  | 0, i, out, y, s, hi, h0, ho, hrep => ⟨[], y, by rw [List.append_nil]; have : i = s0.layers := by omega
                                                    rw [this], hrep, fun R e => rfl⟩
  | n + 1, i, out, y, s, hi, h0, ho, hrep => by
    obtain ⟨y1, a1, b1⟩ := byteE hB hrep
    obtain ⟨y2, a2, b2⟩ := byteE hB b1
    obtain ⟨y3, a3, b3⟩ := byteE hB b2
    obtain ⟨y4, a4, b4⟩ := byteE hB b3
    have d1 := gN8_bd hrep; have d2 := gN8_bd b1; have d3 := gN8_bd b2; have d4 := gN8_bd b3
    have st : ref24_Eye_scale_y1_s1 none i { s0 with sizes := out } y = some (.inl (i + 1, { s0 with sizes := out ++ [(sizeB s).1] }, y4)) := by
      unfold ref24_Eye_scale_y1_s1
      rw [if_pos (by rw [cm_lss]; simp [hs]; omega), bnd a1, bnd a2, bnd a3, bnd a4, bnd (app_some (by simp; omega))]
      simp only [ar_add, ar_mul]
      rw [w_i64 (n := i + 1) (by omega) (by omega), w_i64 (n := 256 * (gN 8 s).1) (by omega) (by omega), w_i64 (n := 256 * (gN 8 (gN 8 (gN 8 s).2).2).1) (by omega) (by omega), w_i64 (by omega) (by omega), w_i64 (by omega) (by omega)]
      rfl
    rw [loop_inl st]
    have b4' : RepE B y4 (sizeB s).2 := b4
    obtain ⟨l, y5, q1, q2, q3⟩ := sizesE hB hs hr hL n (i + 1) (out ++ [(sizeB s).1]) y4 _ (by omega) (by omega) (by simp [ho]; omega) b4'
    rw [q1]
    cases s with
    | error e =>
      have e1 : (sizeB (.error e)).2 = .error e := ErrP.sizeB e
      rw [e1] at q2 q3
      have e2 : (goneS sizeB n (.error e)).2 = .error e := ErrP.gone _ _ e
      rw [e2] at q2
      exact ⟨(sizeB (.error e)).1 :: l, y5, by simp, q2, fun R h => by cases h⟩
    | ok R0 =>
      refine ⟨(sizeB (.ok R0)).1 :: l, y5, by simp, q2, fun R h => ?_⟩
      have := q3 R h
      rw [this]; rfl
theorem refE {B : List Int} (hB : By B) {v11 : Int} {v12 : Scale} {x14 : Int × crossbarref24_Eye} {t : Int} {u : Bool} (many : Int) (hm : dv .rem .i64 (dv .quo .i64 x14.1 4) 4 = many) (hm2 : many ≤ 100) (h1000 : v12.pics.length ≤ 1000) (hv : 0 ≤ v11 ∧ v11 ≤ 1000) :
    ∀ (n : Nat) (i : Int) (out : List Int) (y : crossbarref24_Eye) (s : RS), i + n = many → 0 ≤ i → out.length = i.toNat → RepE B y s →
      ∃ l y', loopG none (fun (q : Int × Group × crossbarref24_Eye) => ref24_Eye_scale_y1_s3 none v11 v12 x14 q.1 q.2.1 q.2.2) (i, ⟨t, u, out⟩, y) = some (.inl (v11 + 1, { v12 with pics := v12.pics ++ [⟨t, u, out ++ l⟩] }, y')) ∧ TellE B l y' (goneS (gN 8) n s)
  | 0, i, out, y, s, hi, h0, ho, hrep => by
    refine ⟨[], y, ?_, hrep, fun R e => rfl⟩
    rw [List.append_nil]
    refine loop_inr ?_
    show ref24_Eye_scale_y1_s3 none v11 v12 x14 i ⟨t, u, out⟩ y = _
    unfold ref24_Eye_scale_y1_s3
    rw [hm, if_neg (by rw [cm_lss]; simp; omega), bnd (app_some (by simp; omega)), ar_add, w_i64 (by omega) (by omega)]; rfl
  | n + 1, i, out, y, s, hi, h0, ho, hrep => by
    obtain ⟨y1, a1, b1⟩ := byteE hB hrep
    have st : ref24_Eye_scale_y1_s3 none v11 v12 x14 i ⟨t, u, out⟩ y = some (.inl (i + 1, ⟨t, u, out ++ [(gN 8 s).1]⟩, y1)) := by
      unfold ref24_Eye_scale_y1_s3
      rw [hm, if_pos (by rw [cm_lss]; simp; omega), bnd a1, bnd (app_some (by simp; omega)), ar_add, w_i64 (by omega) (by omega)]
    rw [loop_inl st]
    obtain ⟨l, y5, q1, q2, q3⟩ := refE hB many hm hm2 h1000 hv n (i + 1) (out ++ [(gN 8 s).1]) y1 _ (by omega) (by omega) (by simp [ho]; omega) b1
    rw [q1]
    cases s with
    | error e =>
      have e1 : (gN 8 (.error e)).2 = .error e := rfl
      rw [e1] at q2 q3
      have e2 : (goneS (gN 8) n (.error e)).2 = .error e := ErrP.gone _ _ e
      rw [e2] at q2
      exact ⟨(gN 8 (.error e)).1 :: l, y5, by simp, q2, fun R h => by cases h⟩
    | ok R0 =>
      refine ⟨(gN 8 (.ok R0)).1 :: l, y5, by simp, q2, fun R h => ?_⟩
      have := q3 R h
      rw [this]; rfl
theorem picsE {B : List Int} (hB : By B) {s0 : Scale} {x10 : Int × crossbarref24_Eye} (hx : x10.1 ≤ 255) :
    ∀ (n : Nat) (i : Int) (out : List Group) (y : crossbarref24_Eye) (s : RS), i + n = x10.1 → 0 ≤ i → out.length = i.toNat → RepE B y s →
      ∃ l y', loopG none (fun (q : Int × Scale × crossbarref24_Eye) => ref24_Eye_scale_y1_s2 none x10 q.1 q.2.1 q.2.2) (i, { s0 with pics := out }, y) = some ({ s0 with pics := out ++ l }, y') ∧ TellE B l y' (goneS picB n s)
  | 0, i, out, y, s, hi, h0, ho, hrep => by
    refine ⟨[], y, ?_, hrep, fun R e => rfl⟩
    rw [List.append_nil]
    refine loop_inr ?_
    show ref24_Eye_scale_y1_s2 none x10 i { s0 with pics := out } y = _
    unfold ref24_Eye_scale_y1_s2
    rw [if_neg (by rw [cm_lss]; simp; omega)]; rfl
  | n + 1, i, out, y, .error e, hi, h0, ho, hrep => by
    refine ⟨[], y, ?_, hrep, fun R e => by cases e⟩
    rw [List.append_nil]
    refine loop_inr ?_
    obtain ⟨h1, h2, h3⟩ := hrep
    show ref24_Eye_scale_y1_s2 none x10 i { s0 with pics := out } y = _
    unfold ref24_Eye_scale_y1_s2
    rw [if_neg (by rw [cm_eql, h2]; simp [h3])]; rfl
  | n + 1, i, out, y, .ok R0, hi, h0, ho, hrep => by
    obtain ⟨y1, a1, b1⟩ := byteE hB hrep
    have d1 := gN8_bd hrep
    have hm : dv .rem .i64 (dv .quo .i64 (gN 8 (.ok R0)).1 4) 4 = (gN 8 (.ok R0)).1 / 4 % 4 := by rw [dq d1.1 (by omega) 4 (by decide), dr (by omega)]
    obtain ⟨l, y2, a2, b2, c2⟩ := refE hB (v11 := i) (v12 := { s0 with pics := out }) (x14 := ((gN 8 (.ok R0)).1, y1)) (t := dv .quo .i64 (gN 8 (.ok R0)).1 32) (u := cm .eql (dv .rem .i64 (dv .quo .i64 (gN 8 (.ok R0)).1 16) 2) 1) _ hm (by omega) (by show out.length ≤ 1000; omega) (by omega) ((gN 8 (.ok R0)).1 / 4 % 4).toNat 0 [] y1 _ (by omega) (by omega) rfl b1
    have st : ref24_Eye_scale_y1_s2 none x10 i { s0 with pics := out } y = some (.inl (i + 1, { s0 with pics := out ++ [⟨(gN 8 (.ok R0)).1 / 32, o1 ((gN 8 (.ok R0)).1 / 16 % 2), l⟩] }, y2)) := by
      unfold ref24_Eye_scale_y1_s2
      rw [if_pos (by rw [cm_lss, cm_eql, hrep.st.1]; simp; omega), bnd a1]
      unfold ref24_Eye_scale_y1_l3
      rw [a2, dq d1.1 (by omega) 32 (by decide), dq d1.1 (by omega) 16 (by decide), dr (by omega), cm_eql]
      rfl
    rw [loop_inl st]
    have hpic : (picB (.ok R0)).2 = (goneS (gN 8) ((gN 8 (.ok R0)).1 / 4 % 4).toNat (gN 8 (.ok R0)).2).2 := rfl
    obtain ⟨m, y3, q1, q2, q3⟩ := picsE hB (s0 := s0) hx n (i + 1) (out ++ [⟨(gN 8 (.ok R0)).1 / 32, o1 ((gN 8 (.ok R0)).1 / 16 % 2), l⟩]) y2 (picB (.ok R0)).2 (by omega) (by omega) (by simp [ho]; omega) b2
    rw [q1]
    refine ⟨_ :: m, y3, by rw [List.append_assoc]; rfl, q2, fun R h => ?_⟩
    have hm2 := q3 R h
    have hok : ∃ S, (picB (.ok R0)).2 = .ok S := by
      cases hz : (picB (.ok R0)).2 with
      | ok S => exact ⟨S, rfl⟩
      | error e =>
        exfalso
        change (goneS picB n (picB (.ok R0)).2).2 = .ok R at h
        rw [hz, ErrP.gone] at h; cases h
    obtain ⟨S, hS⟩ := hok
    have hl := c2 S (by rw [← hpic]; exact hS)
    rw [hm2, hl]; rfl
theorem scaleE {B : List Int} (hB : By B) {y : crossbarref24_Eye} {s : RS} (h : RepE B y s) : ∃ a y', ref24_Eye_scale_y1 none y = some (a, y') ∧ TellE B a y' (scaleB s) := by
  obtain ⟨y1, a1, b1⟩ := byteE hB h
  have d1 := gN8_bd h
  unfold ref24_Eye_scale_y1
  rw [bnd a1]
  simp only
  rw [dq d1.1 (by omega) 32 (by decide), dq d1.1 (by omega) 16 (by decide), dq d1.1 (by omega) 8 (by decide), dr (by omega), dr (by omega), ar_add, w_i64 (by omega) (by omega), cm_eql, cm_eql]
  unfold scaleB
  simp only [bdR]
  generalize hn : (gN 8 s).1 = n at *
  generalize hs1 : (gN 8 s).2 = s1 at *
  have last : ∀ (sz : List Size) (y2 : crossbarref24_Eye) (s2 : RS), RepE B y2 s2 → ∃ a y', loopG none (fun (q : Int × Scale × crossbarref24_Eye) => ref24_Eye_scale_y1_s1 none q.1 q.2.1 q.2.2) (n / 32 + 1, (⟨n / 32 + 1, o1 (n / 16 % 2), sz, o1 (n / 8 % 2), []⟩ : Scale), y2) = some (a, y') ∧
      RepE B y' (opt (o1 (n / 8 % 2)) (bdR (gN 8) fun m => goneS picB m.toNat) [] s2).2 ∧ ∀ R, (opt (o1 (n / 8 % 2)) (bdR (gN 8) fun m => goneS picB m.toNat) [] s2).2 = .ok R → a = ⟨n / 32 + 1, o1 (n / 16 % 2), sz, o1 (n / 8 % 2), (opt (o1 (n / 8 % 2)) (bdR (gN 8) fun m => goneS picB m.toNat) [] s2).1⟩ := by
    intro sz y2 s2 h2
    cases hp : o1 (n / 8 % 2) with
    | false =>
      refine ⟨_, y2, loop_inr ?_, h2, fun R _ => rfl⟩
      show ref24_Eye_scale_y1_s1 none (n / 32 + 1) ⟨n / 32 + 1, o1 (n / 16 % 2), sz, false, []⟩ y2 = _
      unfold ref24_Eye_scale_y1_s1
      rw [if_neg (by rw [cm_lss]; simp)]; rfl
    | true =>
      obtain ⟨y3, a3, b3⟩ := byteE hB h2
      have d3 := gN8_bd h2
      obtain ⟨l, y4, a4, b4, c4⟩ := picsE hB (s0 := ⟨n / 32 + 1, o1 (n / 16 % 2), sz, true, []⟩) (x10 := ((gN 8 s2).1, y3)) d3.2 (gN 8 s2).1.toNat 0 [] y3 _ (by show (0 : Int) + _ = (gN 8 s2).1; omega) (by omega) rfl b3
      refine ⟨_, y4, loop_inr (r := (({ (⟨n / 32 + 1, o1 (n / 16 % 2), sz, true, []⟩ : Scale) with pics := [] ++ l } : Scale), y4)) ?_, b4, fun R hR => ?_⟩
      · show ref24_Eye_scale_y1_s1 none (n / 32 + 1) ⟨n / 32 + 1, o1 (n / 16 % 2), sz, true, []⟩ y2 = _
        unfold ref24_Eye_scale_y1_s1
        rw [if_neg (by rw [cm_lss]; simp)]
        show Option.map Sum.inr (Option.bind (ref24_Eye_byte_y1 none y2) fun x10 => ref24_Eye_scale_y1_l2 none x10 0 _ x10.2) = _
        rw [bnd a3]
        unfold ref24_Eye_scale_y1_l2
        rw [a4]; rfl
      · have := c4 R hR
        rw [List.nil_append, this]; rfl
  unfold ref24_Eye_scale_y1_l1
  cases hh : o1 (n / 16 % 2) with
  | true =>
    obtain ⟨l, y2, a2, b2, c2⟩ := sizesE hB (s0 := ⟨n / 32 + 1, true, [], o1 (n / 8 % 2), []⟩) rfl (r := fun v y => if (!v.hasPics) = true then some (v, y) else Option.bind (ref24_Eye_byte_y1 none y) fun x10 => ref24_Eye_scale_y1_l2 none x10 0 v x10.2) (fun i v y hv => by
      unfold ref24_Eye_scale_y1_s1
      rw [if_neg (by rw [cm_lss]; simp; omega)]) (by show n / 32 + 1 ≤ 100; omega) (n / 32 + 1).toNat 0 [] y1 s1 (by show (0 : Int) + _ = n / 32 + 1; omega) (by omega) rfl b1
    rw [hh] at last
    obtain ⟨a, y3, a3, b3, c3⟩ := last l y2 _ b2
    refine ⟨a, y3, ?_, b3, fun R hR => ?_⟩
    · have : decide (n / 16 % 2 = 1) = true := hh
      rw [this]
      exact a2.trans a3
    · have e1 := c3 R hR
      have hok : ∃ S, (goneS sizeB (n / 32 + 1).toNat s1).2 = .ok S := by
        cases hz : (goneS sizeB (n / 32 + 1).toNat s1).2 with
        | ok S => exact ⟨S, rfl⟩
        | error e =>
          exfalso
          change (opt (o1 (n / 8 % 2)) (bdR (gN 8) fun m => goneS picB m.toNat) [] (goneS sizeB (n / 32 + 1).toNat s1).2).2 = .ok R at hR
          rw [hz, ErrP.opt (.bd (.gN 8) fun _ => .gone _ _)] at hR; cases hR
      obtain ⟨S, hS⟩ := hok
      rw [e1, c2 S hS]; rfl
  | false =>
    rw [hh] at last
    have e0 : decide (n / 16 % 2 = 1) = false := hh
    rw [e0]
    have hskip : loopG none (fun (q : Int × Scale × crossbarref24_Eye) => ref24_Eye_scale_y1_s1 none q.1 q.2.1 q.2.2) (0, (⟨n / 32 + 1, false, [], o1 (n / 8 % 2), []⟩ : Scale), y1) = loopG none (fun (q : Int × Scale × crossbarref24_Eye) => ref24_Eye_scale_y1_s1 none q.1 q.2.1 q.2.2) (n / 32 + 1, (⟨n / 32 + 1, false, [], o1 (n / 8 % 2), []⟩ : Scale), y1) := by
      have : ∀ i, ref24_Eye_scale_y1_s1 none i (⟨n / 32 + 1, false, [], o1 (n / 8 % 2), []⟩ : Scale) y1 = ref24_Eye_scale_y1_s1 none (n / 32 + 1) (⟨n / 32 + 1, false, [], o1 (n / 8 % 2), []⟩ : Scale) y1 := fun i => by
        unfold ref24_Eye_scale_y1_s1
        simp only [Bool.false_and, Bool.false_eq_true, if_false]
      rw [loopG_eq, loopG_eq]
      simp only
      rw [this 0]
    obtain ⟨a, y3, a3, b3, c3⟩ := last [] y1 _ b1
    exact ⟨a, y3, hskip.trans a3, b3, c3⟩
end Xb

