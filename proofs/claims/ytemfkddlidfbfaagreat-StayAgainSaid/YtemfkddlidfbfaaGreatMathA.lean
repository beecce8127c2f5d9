/- Own text: MathA. -/
import Derived.Test.YtemfkddlidfbfaaGreatCore16
import Derived.Test.YtemfkddlidfbfaaGreatSModels
import Derived.Test.YtemfkddlidfbfaaGreatSWf
set_option linter.all false
set_option linter.unusedVariables false
set_option linter.unusedSimpArgs false
set_option linter.unnecessarySimpa false
set_option linter.deprecated false
/-! Plain arithmetic and loops, for the models. -/
namespace Xb
open Go

/-! wraps -/
theorem w_i64 {n : Int} (h1 : -9223372036854775808 ≤ n) (h2 : n ≤ 9223372036854775807) : IntKind.i64.wrap n = n := by
  simp only [IntKind.wrap, IntKind.signed, IntKind.bits]; simp; split <;> omega
theorem w_i32 {n : Int} (h1 : -2147483648 ≤ n) (h2 : n ≤ 2147483647) : IntKind.i32.wrap n = n := by
  simp only [IntKind.wrap, IntKind.signed, IntKind.bits]; simp; split <;> omega
theorem wu64 (n : Int) : IntKind.u64.wrap n = n % 18446744073709551616 := by
  simp [IntKind.wrap, IntKind.signed, IntKind.bits]
theorem wu32 (n : Int) : IntKind.u32.wrap n = n % 4294967296 := by
  simp [IntKind.wrap, IntKind.signed, IntKind.bits]
theorem wu16 (n : Int) : IntKind.u16.wrap n = n % 65536 := by
  simp [IntKind.wrap, IntKind.signed, IntKind.bits]
theorem wu8 (n : Int) : IntKind.u8.wrap n = n % 256 := by
  simp [IntKind.wrap, IntKind.signed, IntKind.bits]
theorem w_u64 {n : Int} (h1 : 0 ≤ n) (h2 : n ≤ 18446744073709551615) : IntKind.u64.wrap n = n := by rw [wu64]; omega
theorem w_u32 {n : Int} (h1 : 0 ≤ n) (h2 : n ≤ 4294967295) : IntKind.u32.wrap n = n := by rw [wu32]; omega
theorem w_u16 {n : Int} (h1 : 0 ≤ n) (h2 : n ≤ 65535) : IntKind.u16.wrap n = n := by rw [wu16]; omega
theorem w_u8 {n : Int} (h1 : 0 ≤ n) (h2 : n ≤ 255) : IntKind.u8.wrap n = n := by rw [wu8]; omega

theorem in_i64 {n : Int} : inK .i64 n ↔ -9223372036854775808 ≤ n ∧ n ≤ 9223372036854775807 := Iff.rfl
theorem in_i32 {n : Int} : inK .i32 n ↔ -2147483648 ≤ n ∧ n ≤ 2147483647 := Iff.rfl
theorem in_u64 {n : Int} : inK .u64 n ↔ 0 ≤ n ∧ n ≤ 18446744073709551615 := Iff.rfl
theorem in_u32 {n : Int} : inK .u32 n ↔ 0 ≤ n ∧ n ≤ 4294967295 := Iff.rfl
theorem in_u16 {n : Int} : inK .u16 n ↔ 0 ≤ n ∧ n ≤ 65535 := Iff.rfl
theorem in_u8 {n : Int} : inK .u8 n ↔ 0 ≤ n ∧ n ≤ 255 := Iff.rfl

theorem ar_add {k : IntKind} {x y : Int} : ar .add k x y = k.wrap (x + y) := by cases k <;> rfl
theorem ar_sub {k : IntKind} {x y : Int} : ar .sub k x y = k.wrap (x - y) := by cases k <;> rfl
theorem ar_mul {k : IntKind} {x y : Int} : ar .mul k x y = k.wrap (x * y) := by cases k <;> rfl
theorem cm_eql {x y : Int} : cm .eql x y = decide (x = y) := by simp only [cm]; by_cases h : x = y <;> simp [h]
theorem cm_neq {x y : Int} : cm .neq x y = !decide (x = y) := by simp only [cm]; by_cases h : x = y <;> simp [h]
theorem cm_lss {x y : Int} : cm .lss x y = decide (x < y) := by simp only [cm, gt_iff_lt, ge_iff_le]
theorem cm_leq {x y : Int} : cm .leq x y = decide (x ≤ y) := by simp only [cm, gt_iff_lt, ge_iff_le]
theorem cm_gtr {x y : Int} : cm .gtr x y = decide (y < x) := by simp only [cm, gt_iff_lt, ge_iff_le]
theorem cm_geq {x y : Int} : cm .geq x y = decide (y ≤ x) := by simp only [cm, gt_iff_lt, ge_iff_le]
theorem dv_quo {k : IntKind} {x y : Int} (h : 0 ≤ x) : dv .quo k x y = k.wrap (x / y) := by simp only [dv, Int.tdiv_eq_ediv_of_nonneg h]
theorem dv_rem {k : IntKind} {x y : Int} (h : 0 ≤ x) : dv .rem k x y = x % y := by simp only [dv, Int.tmod_eq_emod_of_nonneg h]

theorem sf_shl {k : IntKind} {x y : Int} {n : Nat} (h : y = n) (hn : n ≤ k.bits) : sf .shl k x y = k.wrap (x * 2 ^ n) := by
  subst h; simp only [sf, Int.toNat_natCast]; rw [Nat.min_eq_left hn]
theorem sf_shr {k : IntKind} {x y : Int} {n : Nat} (h : y = n) (hn : n ≤ k.bits) : sf .shr k x y = x / 2 ^ n := by
  subst h; simp only [sf, Int.toNat_natCast]; rw [Nat.min_eq_left hn, Int.fdiv_eq_ediv_of_nonneg _ (Int.le_of_lt (Int.pow_pos (by omega)))]
theorem sfO_nn {op : BinOp} {k : IntKind} {x y : Int} (h : 0 ≤ y) : sfO op k x y = some (sf op k x y) := by simp [sfO]; omega
theorem dvO_nz {op : BinOp} {k : IntKind} {x y : Int} (h : y ≠ 0) : dvO op k x y = some (dv op k x y) := by simp [dvO, h]

/-- and with a mask of ones -/
theorem nat_and_mask (x n : Nat) : x &&& (2 ^ n - 1) = x % 2 ^ n := Nat.and_two_pow_sub_one_eq_mod x n
theorem ar_and_nat {k : IntKind} (hs : k.signed = false) {x y : Nat} (hx : x < 2 ^ k.bits) (hy : y < 2 ^ k.bits) : ar .and k (x : Int) (y : Int) = ((x &&& y : Nat) : Int) := by
  simp only [ar, BitVec.toNat_and, BitVec.toNat_ofInt]
  have e1 : ((x : Int) % ((2 ^ k.bits : Nat) : Int)).toNat = x := by
    rw [← Int.natCast_emod, Int.toNat_natCast, Nat.mod_eq_of_lt hx]
  have e2 : ((y : Int) % ((2 ^ k.bits : Nat) : Int)).toNat = y := by
    rw [← Int.natCast_emod, Int.toNat_natCast, Nat.mod_eq_of_lt hy]
  rw [e1, e2]
  have hlt : x &&& y < 2 ^ k.bits := Nat.lt_of_le_of_lt Nat.and_le_left hx
  simp only [IntKind.wrap, hs, Bool.false_and, Bool.false_eq_true, if_false]
  have : ((x &&& y : Nat) : Int) % ((2 : Int) ^ k.bits) = ((x &&& y : Nat) : Int) := by
    apply Int.emod_eq_of_lt (by omega)
    have : ((x &&& y : Nat) : Int) < ((2 ^ k.bits : Nat) : Int) := by exact_mod_cast hlt
    simpa using this
  exact this
theorem ar_or_nat {k : IntKind} (hs : k.signed = false) {x y : Nat} (hx : x < 2 ^ k.bits) (hy : y < 2 ^ k.bits) : ar .or k (x : Int) (y : Int) = ((x ||| y : Nat) : Int) := by
  simp only [ar, BitVec.toNat_or, BitVec.toNat_ofInt]
  have e1 : ((x : Int) % ((2 ^ k.bits : Nat) : Int)).toNat = x := by
    rw [← Int.natCast_emod, Int.toNat_natCast, Nat.mod_eq_of_lt hx]
  have e2 : ((y : Int) % ((2 ^ k.bits : Nat) : Int)).toNat = y := by
    rw [← Int.natCast_emod, Int.toNat_natCast, Nat.mod_eq_of_lt hy]
  rw [e1, e2]
  have hlt : x ||| y < 2 ^ k.bits := Nat.or_lt_two_pow hx hy
  simp only [IntKind.wrap, hs, Bool.false_and, Bool.false_eq_true, if_false]
  have : ((x ||| y : Nat) : Int) % ((2 : Int) ^ k.bits) = ((x ||| y : Nat) : Int) := by
    apply Int.emod_eq_of_lt (by omega)
    have : ((x ||| y : Nat) : Int) < ((2 ^ k.bits : Nat) : Int) := by exact_mod_cast hlt
    simpa using this
  exact this

/-- and with a mask, of numbers without a sign -/
theorem ar_mask {k : IntKind} (hs : k.signed = false) {x y : Int} {n : Nat} (hy : y = 2 ^ n - 1) (hn : n ≤ k.bits) (h0 : 0 ≤ x) (hx : x < 2 ^ k.bits) : ar .and k x y = x % 2 ^ n := by
  obtain ⟨x, rfl⟩ := Int.eq_ofNat_of_zero_le h0
  have h2 : (1 : Nat) ≤ 2 ^ n := Nat.one_le_two_pow
  have e : y = ((2 ^ n - 1 : Nat) : Int) := by rw [hy, Int.natCast_sub h2]; simp
  have hle : 2 ^ n ≤ 2 ^ k.bits := Nat.pow_le_pow_right (by omega) hn
  rw [e, ar_and_nat hs (by exact_mod_cast hx) (Nat.lt_of_lt_of_le (Nat.sub_lt (by omega) (by omega)) hle), nat_and_mask]
  simp
/-- or, where the lower one is below all ones of the higher one -/
theorem nat_or_add {a b n : Nat} (hb : b < 2 ^ n) : a * 2 ^ n ||| b = a * 2 ^ n + b := by
  rw [← Nat.shiftLeft_eq, Nat.shiftLeft_add_eq_or_of_lt hb]
theorem ar_or_add {k : IntKind} (hs : k.signed = false) {x y a : Int} {n : Nat} (hx : x = a * 2 ^ n) (ha : 0 ≤ a) (h0 : 0 ≤ y) (hy : y < 2 ^ n) (hx2 : x < 2 ^ k.bits) (hn : n ≤ k.bits) : ar .or k x y = x + y := by
  obtain ⟨a, rfl⟩ := Int.eq_ofNat_of_zero_le ha
  obtain ⟨y, rfl⟩ := Int.eq_ofNat_of_zero_le h0
  have hle : 2 ^ n ≤ 2 ^ k.bits := Nat.pow_le_pow_right (by omega) hn
  have hy' : y < 2 ^ n := by exact_mod_cast hy
  have e : x = ((a * 2 ^ n : Nat) : Int) := by rw [hx]; simp
  rw [e] at hx2 ⊢
  rw [ar_or_nat hs (by exact_mod_cast hx2) (by omega), nat_or_add hy']
  simp

/-! lists -/
theorem ix_some {α : Type} {l : List α} {i : Int} {n : Nat} (h : i = n) (hn : n < l.length) : ix l i = some l[n] := by
  subst h; simp [ix, hn]
theorem ix_getD {l : List Int} {i : Int} (h : 0 ≤ i) (hn : i < l.length) : ix l i = some (l.getD i.toNat 0) := by
  have : i.toNat < l.length := by omega
  simp [ix, h, List.getD, this]
theorem app_some {α : Type} {l m : List α} (h : l.length + m.length ≤ 4294967296) : app l m = some (l ++ m) := by simp [app, h]
theorem sub_some {α : Type} {l : List α} {a b : Int} (h1 : 0 ≤ a) (h2 : a ≤ b) (h3 : b ≤ l.length) : sub l a b = some ((l.drop a.toNat).take (b.toNat - a.toNat)) := by simp [sub, h1, h2, h3]
theorem cat_some {l m : List UInt8} (h : l.length + m.length ≤ 4294967296) : cat l m = some (l ++ m) := by simp [cat, h]
theorem bnd {α β : Type} {m : Option α} {x : α} (h : m = some x) (f : α → Option β) : Option.bind m f = f x := by subst h; rfl
theorem gT_true {α : Type} [Inhabited α] {b : Bool} {m : Option α} (h : b = true) : gT b m = m := by subst h; rfl
theorem gT_false {α : Type} [Inhabited α] {b : Bool} {m : Option α} (h : b = false) : gT b m = some default := by subst h; rfl
theorem gTT {α : Type} [Inhabited α] {m : Option α} : gT true m = m := by cases m <;> rfl
theorem gTF {α : Type} [Inhabited α] {m : Option α} : gT false m = some default := by cases m <;> rfl
theorem sc_self {s : List UInt8} : sc .eql s s = true := by simp [sc]

/-! loops -/
/-- a loop whose states are known ahead -/
theorem loop_seq {σ ρ : Type} {step : σ → Option (σ ⊕ ρ)} {r : ρ} (f : Nat → σ) (N : Nat) (h : ∀ i, i < N → step (f i) = some (.inl (f (i + 1)))) (he : step (f N) = some (.inr r)) : loopG none step (f 0) = some r := by
  have key : ∀ k, k ≤ N → loopG none step (f (N - k)) = some r := by
    intro k
    induction k with
    | zero => intro _; rw [loopG_eq]; simp [he]
    | succ k ih =>
      intro hk
      rw [loopG_eq, h (N - (k + 1)) (by omega)]
      have e : N - (k + 1) + 1 = N - k := by omega
      simp only [e]
      exact ih (by omega)
  have := key N (Nat.le_refl _)
  simpa using this

/-- a loop by what stands at its head -/
theorem loop_inv {σ ρ : Type} {step : σ → Option (σ ⊕ ρ)} {Q : ρ → Prop} (Inv : σ → Prop) (μ : σ → Nat) (s0 : σ) (h0 : Inv s0)
    (h : ∀ s, Inv s → (∃ s', step s = some (.inl s') ∧ Inv s' ∧ μ s' < μ s) ∨ (∃ r, step s = some (.inr r) ∧ Q r)) : ∃ r, loopG none step s0 = some r ∧ Q r := by
  have key : ∀ n s, μ s < n → Inv s → ∃ r, loopG none step s = some r ∧ Q r := by
    intro n
    induction n with
    | zero => intro s hs; omega
    | succ n ih =>
      intro s hs hi
      rcases h s hi with ⟨s', h1, h2, h3⟩ | ⟨r, h1, h2⟩
      · obtain ⟨r, hr, hq⟩ := ih s' (by omega) h2
        exact ⟨r, by rw [loopG_eq, h1]; exact hr, hq⟩
      · exact ⟨r, by rw [loopG_eq, h1], h2⟩
  exact key (μ s0 + 1) s0 (by omega) h0

end Xb

/-! Loops along lists; bits of signed numbers. -/
namespace Xb
open Go

theorem ar_and_i64_nat {x y : Nat} (hx : x < 2 ^ 63) (hy : y < 2 ^ 63) : ar .and .i64 (x : Int) (y : Int) = ((x &&& y : Nat) : Int) := by
  have hb : IntKind.i64.bits = 64 := rfl
  simp only [ar, BitVec.toNat_and, BitVec.toNat_ofInt, hb]
  have e1 : ((x : Int) % ((2 ^ 64 : Nat) : Int)).toNat = x := by rw [← Int.natCast_emod, Int.toNat_natCast, Nat.mod_eq_of_lt (by omega)]
  have e2 : ((y : Int) % ((2 ^ 64 : Nat) : Int)).toNat = y := by rw [← Int.natCast_emod, Int.toNat_natCast, Nat.mod_eq_of_lt (by omega)]
  rw [e1, e2]
  have hlt : x &&& y < 2 ^ 63 := Nat.lt_of_le_of_lt Nat.and_le_left hx
  exact w_i64 (by omega) (by omega)
theorem ar_or_i64_nat {x y : Nat} (hx : x < 2 ^ 63) (hy : y < 2 ^ 63) : ar .or .i64 (x : Int) (y : Int) = ((x ||| y : Nat) : Int) := by
  have hb : IntKind.i64.bits = 64 := rfl
  simp only [ar, BitVec.toNat_or, BitVec.toNat_ofInt, hb]
  have e1 : ((x : Int) % ((2 ^ 64 : Nat) : Int)).toNat = x := by rw [← Int.natCast_emod, Int.toNat_natCast, Nat.mod_eq_of_lt (by omega)]
  have e2 : ((y : Int) % ((2 ^ 64 : Nat) : Int)).toNat = y := by rw [← Int.natCast_emod, Int.toNat_natCast, Nat.mod_eq_of_lt (by omega)]
  rw [e1, e2]
  have hlt : x ||| y < 2 ^ 63 := Nat.or_lt_two_pow hx hy
  exact w_i64 (by omega) (by omega)
/-- and with a mask of ones, signed -/
theorem ar_mask_i64 {x y : Int} {n : Nat} (hy : y = 2 ^ n - 1) (hn : n ≤ 62) (h0 : 0 ≤ x) (hx : x < 2 ^ 63) : ar .and .i64 x y = x % 2 ^ n := by
  obtain ⟨x, rfl⟩ := Int.eq_ofNat_of_zero_le h0
  have h2 : (1 : Nat) ≤ 2 ^ n := Nat.one_le_two_pow
  have e : y = ((2 ^ n - 1 : Nat) : Int) := by rw [hy, Int.natCast_sub h2]; simp
  have hle : 2 ^ n ≤ 2 ^ 62 := Nat.pow_le_pow_right (by omega) hn
  rw [e, ar_and_i64_nat (by omega) (by omega), nat_and_mask]
  simp
theorem ar_or_add_i64 {x y a : Int} {n : Nat} (hx : x = a * 2 ^ n) (ha : 0 ≤ a) (h0 : 0 ≤ y) (hy : y < 2 ^ n) (hx2 : x < 2 ^ 63) (hn : n ≤ 63) : ar .or .i64 x y = x + y := by
  obtain ⟨a, rfl⟩ := Int.eq_ofNat_of_zero_le ha
  obtain ⟨y, rfl⟩ := Int.eq_ofNat_of_zero_le h0
  have hle : 2 ^ n ≤ 2 ^ 63 := Nat.pow_le_pow_right (by omega) hn
  have hy' : y < 2 ^ n := by exact_mod_cast hy
  have e : x = ((a * 2 ^ n : Nat) : Int) := by rw [hx]; simp
  rw [e] at hx2 ⊢
  rw [ar_or_i64_nat (by exact_mod_cast hx2) (by omega), nat_or_add hy']
  simp

theorem nat_and_bit (x n : Nat) : x &&& 2 ^ n = x / 2 ^ n % 2 * 2 ^ n := by
  have hb : (x.testBit n) = decide (x / 2 ^ n % 2 = 1) := Nat.testBit_eq_decide_div_mod_eq
  have key : x &&& 2 ^ n = if x.testBit n = true then 2 ^ n else 0 := by
    apply Nat.eq_of_testBit_eq
    intro i
    rw [Nat.testBit_and, Nat.testBit_two_pow]
    by_cases hi : n = i
    · subst hi
      cases hx : x.testBit n <;> simp [Nat.testBit_two_pow]
    · cases hx : x.testBit n <;> simp [hi, Nat.testBit_two_pow]
  rw [key]
  rcases Nat.mod_two_eq_zero_or_one (x / 2 ^ n) with h | h
  · rw [hb, h]; simp
  · rw [hb, h]; simp

/-- a bit by itself -/
theorem ar_bit {k : IntKind} (hs : k.signed = false) {x : Int} {n : Nat} (hn : n < k.bits) (h0 : 0 ≤ x) (hx : x < 2 ^ k.bits) : ar .and k x (2 ^ n) = x / 2 ^ n % 2 * 2 ^ n := by
  obtain ⟨x, rfl⟩ := Int.eq_ofNat_of_zero_le h0
  have e : ((2 : Int) ^ n) = ((2 ^ n : Nat) : Int) := by simp
  rw [e, ar_and_nat hs (by exact_mod_cast hx) (Nat.pow_lt_pow_right (by omega) hn), nat_and_bit]
  simp

theorem loop_inl {σ ρ : Type} {step : σ → Option (σ ⊕ ρ)} {s s' : σ} (h : step s = some (.inl s')) : loopG none step s = loopG none step s' := by rw [loopG_eq, h]
theorem loop_inr {σ ρ : Type} {step : σ → Option (σ ⊕ ρ)} {s : σ} {r : ρ} (h : step s = some (.inr r)) : loopG none step s = some r := by rw [loopG_eq, h]

/-- a search along a list -/
theorem find_loop {α ρ : Type} {l : List α} {step : Int → Option (Int ⊕ ρ)} {p : α → Bool} {hit : Nat → ρ} {miss : ρ} (hmiss : step (l.length : Nat) = some (.inr miss))
    (h : ∀ i (hi : i < l.length), step (i : Nat) = if p l[i] = true then some (.inr (hit i)) else some (.inl ((i + 1 : Nat) : Int))) :
    loopG none step 0 = some (match l.findIdx? p with | some i => hit i | none => miss) := by
  have key : ∀ m i, i + m = l.length → (∀ j (hj : j < i) (hl : j < l.length), p l[j] = false) → loopG none step (i : Nat) = some (match l.findIdx? p with | some i => hit i | none => miss) := by
    intro m
    induction m with
    | zero =>
      intro i hi hn
      rw [loopG_eq]
      have : i = l.length := by omega
      rw [this, hmiss]
      have : l.findIdx? p = none := by
        rw [List.findIdx?_eq_none_iff]
        intro x hx
        obtain ⟨j, hj, rfl⟩ := List.getElem_of_mem hx
        exact hn j (by omega) hj
      rw [this]
    | succ m ih =>
      intro i hi hn
      have hil : i < l.length := by omega
      rw [loopG_eq, h i hil]
      by_cases hp : p l[i] = true
      · rw [if_pos hp]
        have : l.findIdx? p = some i := by
          rw [List.findIdx?_eq_some_iff_getElem]
          exact ⟨hil, hp, fun j hj => by simpa using hn j hj (by omega)⟩
        rw [this]
      · rw [if_neg hp]
        exact ih (i + 1) (by omega) fun j hj hl => by
          by_cases hji : j = i
          · subst hji; simpa using hp
          · exact hn j (by omega) hl
  have := key l.length 0 (by omega) (fun j hj => by omega)
  simpa using this

/-- are two lists the same, one by one -/
theorem same_loop {α : Type} [DecidableEq α] {a b : List α} (hl : a.length = b.length) {step : Int → Option (Int ⊕ Bool)} (hend : step (a.length : Nat) = some (.inr true))
    (h : ∀ i (hi : i < a.length) (hi' : i < b.length), step (i : Nat) = if a[i] ≠ b[i] then some (.inr false) else some (.inl ((i + 1 : Nat) : Int))) :
    loopG none step 0 = some (decide (a = b)) := by
  have key : ∀ m i, i + m = a.length → a.take i = b.take i → loopG none step (i : Nat) = some (decide (a = b)) := by
    intro m
    induction m with
    | zero =>
      intro i hi ht
      have e : i = a.length := by omega
      rw [loopG_eq, e, hend]
      rw [List.take_of_length_le (by omega), List.take_of_length_le (by omega)] at ht
      simp [ht]
    | succ m ih =>
      intro i hi ht
      have hia : i < a.length := by omega
      have hib : i < b.length := by omega
      rw [loopG_eq, h i hia hib]
      by_cases hne : a[i] = b[i]
      · rw [if_neg (by simpa using hne)]
        refine ih (i + 1) (by omega) ?_
        rw [List.take_add_one, List.take_add_one, ht, List.getElem?_eq_getElem hia, List.getElem?_eq_getElem hib, hne]
      · rw [if_pos (by simpa using hne)]
        have : a ≠ b := fun e => hne (by subst e; rfl)
        simp [this]
  have := key a.length 0 (by omega) (by simp)
  simpa using this
end Xb

set_option linter.all false
namespace Xb
open Go

theorem concat_eq {ss : List (List Int)} (h1 : ss.length ≤ 1000) (h2 : ss.flatten.length ≤ 100000000) : slices_Concat_byte none ss = some ss.flatten := by
  have hle : ∀ i, (ss.take i).flatten.length ≤ ss.flatten.length := fun i => by
    have : ss.flatten = (ss.take i).flatten ++ (ss.drop i).flatten := by rw [← List.flatten_append, List.take_append_drop]
    rw [this]; simp
  have hsucc : ∀ i (h : i < ss.length), (ss.take (i + 1)).flatten = (ss.take i).flatten ++ ss[i] := fun i h => by
    rw [List.take_add_one, List.getElem?_eq_getElem h]
    simp only [Option.toList_some, List.flatten_append, List.flatten_cons, List.flatten_nil, List.append_nil]
  unfold slices_Concat_byte slices_Concat_byte_l1
  have := loop_seq (step := fun (s : Int × Int) => slices_Concat_byte_s1 none ss s.1 s.2) (r := ss.flatten) (fun i => (((ss.take i).flatten.length : Int), (i : Int))) ss.length (fun i hi => by
    have a := hle (i + 1)
    have b := hsucc i hi
    rw [b] at a
    simp only [List.length_append] at a
    have c := congrArg List.length b
    simp only [List.length_append] at c
    simp only [slices_Concat_byte_s1, slices_Concat_byte_j2, cm_lss, decide_eq_true_eq]
    rw [if_pos (by omega), bnd (ix_some rfl hi), ar_add, w_i64 (by omega) (by omega), if_neg (by omega), ar_add, w_i64 (by omega) (by omega), c]
    simp) (by
    simp only [slices_Concat_byte_s1, cm_lss, decide_eq_true_eq]
    have hg : growL (((ss.take ss.length).flatten.length : Nat) : Int) = some () := by
      have := hle ss.length
      simp only [growL]
      rw [if_pos (by omega)]
    rw [if_neg (by omega), bnd hg]
    unfold slices_Concat_byte_l3
    have := loop_seq (step := fun (s : List Int × Int) => slices_Concat_byte_s3 none ss s.1 s.2) (r := ss.flatten) (fun i => ((ss.take i).flatten, (i : Int))) ss.length (fun i hi => by
      have a := hle (i + 1)
      have b := hsucc i hi
      rw [b] at a
      simp only [List.length_append] at a
      simp only [slices_Concat_byte_s3, cm_lss, decide_eq_true_eq]
      rw [if_pos (by omega), bnd (ix_some rfl hi), bnd (app_some (by omega)), ar_add, w_i64 (by omega) (by omega), b]
      simp) (by
      simp only [slices_Concat_byte_s3, cm_lss, decide_eq_true_eq]
      rw [if_neg (by omega)]
      simp)
    have h0 : (ss.take 0).flatten = ([] : List Int) := by simp
    rw [h0] at this
    have this' : loopG none (fun (s : List Int × Int) => slices_Concat_byte_s3 none ss s.1 s.2) (([] : List Int), (0 : Int)) = some ss.flatten := this
    rw [this']; rfl)
  simpa using this
theorem zeros_eq {n : Int} (h0 : 0 ≤ n) (h1 : n ≤ 1000000) : pad_zeros n = some (List.replicate n.toNat 0) := by
  simp only [pad_zeros, mkL]
  rw [if_pos (by omega)]; rfl
/-- how many noughts fill up -/
def fillN (n : Nat) : Nat := (4 - n % 4) % 4
theorem fill_eq {b : List Int} (h : b.length ≤ 1000000) : pad_Fill none b = some (b ++ List.replicate (fillN b.length) 0) := by
  unfold pad_Fill fillN
  have e : dv .rem .i64 (ar .sub .i64 4 (dv .rem .i64 (b.length : Int) 4)) 4 = (((4 - b.length % 4) % 4 : Nat) : Int) := by
    rw [dv_rem (x := (b.length : Int)) (by omega), ar_sub, w_i64 (by omega) (by omega), dv_rem (by omega)]; omega
  rw [e, bnd (zeros_eq (by omega) (by omega)), bnd (concat_eq (by simp) (by simp; omega))]
  simp only [Int.toNat_natCast]
  simp
theorem count_zero {b : List Int} (hb : ∀ y, y ∈ b → 0 ≤ y ∧ y ≤ 255) : (countB b 0 = b.length) ↔ ∀ y, y ∈ b → y = 0 := by
  have hz : (0 : Int).toNat.toUInt8 = 0 := rfl
  simp only [countB, Lib.countByte, Lib.bytesOf, hz]
  have hle : List.count 0 (b.map fun n => UInt8.ofNat n.toNat) ≤ b.length := by
    have := List.count_le_length (a := (0 : UInt8)) (l := b.map fun n => UInt8.ofNat n.toNat)
    simpa using this
  constructor
  · intro h y hy
    have h' : List.count 0 (b.map fun n => UInt8.ofNat n.toNat) = (b.map fun n => UInt8.ofNat n.toNat).length := by simp; omega
    have := List.count_eq_length.1 h' (UInt8.ofNat y.toNat) (List.mem_map.2 ⟨y, hy, rfl⟩)
    have hr := hb y hy
    have h2 := congrArg UInt8.toNat this
    simp at h2
    omega
  · intro h
    have h' : List.count 0 (b.map fun n => UInt8.ofNat n.toNat) = (b.map fun n => UInt8.ofNat n.toNat).length := by
      rw [List.count_eq_length]
      intro x hx
      obtain ⟨y, hy, rfl⟩ := List.mem_map.1 hx
      rw [h y hy]; rfl
    simp at h'; omega
/-- texts are the same when the octets are -/
theorem b2s_inj {a b : List Int} (ha : ∀ x, x ∈ a → 0 ≤ x ∧ x ≤ 255) (hb : ∀ x, x ∈ b → 0 ≤ x ∧ x ≤ 255) : b2s a = b2s b ↔ a = b := by
  refine ⟨fun h => ?_, fun h => by rw [h]⟩
  have hi : ∀ (l : List Int), (∀ x, x ∈ l → 0 ≤ x ∧ x ≤ 255) → (b2s l).map (fun u => (u.toNat : Int)) = l := by
    intro l hl
    unfold b2s
    rw [List.map_map]
    conv => rhs; rw [← List.map_id l]
    apply List.map_congr_left
    intro x hx
    obtain ⟨h0, h1⟩ := hl x hx
    simp
    omega
  rw [← hi a ha, ← hi b hb, h]
theorem sc_b2s {a b : List Int} (ha : ∀ x, x ∈ a → 0 ≤ x ∧ x ≤ 255) (hb : ∀ x, x ∈ b → 0 ≤ x ∧ x ≤ 255) : sc .eql (b2s a) (b2s b) = decide (a = b) := by
  simp only [sc]
  by_cases h : a = b
  · subst h; simp
  · simp [h]; exact fun e => h ((b2s_inj ha hb).1 e)

end Xb

set_option linter.all false
namespace Xb
open Go

def oct (l : List Int) : Prop := ∀ x, x ∈ l → 0 ≤ x ∧ x ≤ 255
def FitE (e : Elem) : Prop := 1 ≤ e.id_ ∧ e.id_ ≤ 255 ∧ e.data.length ≤ 255
instance (e : Elem) : Decidable (FitE e) := inferInstanceAs (Decidable (_ ∧ _))
def RightL (l : List Elem) : Prop := (∀ e, e ∈ l → FitE e) ∧ (l.map (·.id_)).Nodup
instance (l : List Elem) : Decidable (RightL l) := inferInstanceAs (Decidable (_ ∧ _))
theorem mlook_ids {l : List Elem} {k : Int} : mgetD (l.reverse.map fun e => (e.id_, true)) k false = decide (k ∈ l.map (·.id_)) := by
  have key : ∀ (m : List Elem), mgetD (m.map fun e => (e.id_, true)) k false = decide (k ∈ m.map (·.id_)) := by
    intro m
    unfold mgetD
    induction m with
    | nil => simp [mlook]
    | cons a m ih =>
      simp only [List.map_cons, mlook]
      by_cases h : a.id_ = k
      · rw [if_pos h]; simp [h]
      · rw [if_neg h, ih]
        simp [Ne.symm h]
  rw [key]
  simp
theorem right_step {l : List Elem} {i : Nat} (hl : l.length ≤ 1000000) (hi : i < l.length) :
    elem_Right_s1 none l ((l.take i).reverse.map fun e => (e.id_, true)) (i : Int) =
      if FitE l[i] ∧ l[i].id_ ∉ (l.take i).map (·.id_) then some (.inl ((l.take (i + 1)).reverse.map (fun e => (e.id_, true)), ((i + 1 : Nat) : Int))) else some (.inr false) := by
  unfold elem_Right_s1
  rw [if_pos (by rw [cm_lss]; simpa using hi), bnd (ix_some (n := i) rfl hi), mlook_ids]
  by_cases h : FitE l[i] ∧ l[i].id_ ∉ (l.take i).map (·.id_)
  · have h1 := h.1
    unfold FitE at h1
    rw [if_pos h, if_neg (by rw [decide_eq_false h.2, cm_lss, cm_gtr, cm_gtr]; simp; omega)]
    have hp : mputO ((l.take i).reverse.map fun e => (e.id_, true)) l[i].id_ true = some ((l.take (i + 1)).reverse.map fun e => (e.id_, true)) := by
      unfold mputO
      have e : l.take (i + 1) = l.take i ++ [l[i]] := by rw [List.take_add_one, List.getElem?_eq_getElem hi]; rfl
      rw [if_pos (by simp; omega), e, List.reverse_append, List.reverse_singleton, List.singleton_append, List.map_cons]
    rw [bnd hp, ar_add, w_i64 (by omega) (by omega)]
    rfl
  · rw [if_neg h, if_pos (by
      by_cases h2 : l[i].id_ ∈ (l.take i).map (·.id_)
      · rw [decide_eq_true h2, Bool.or_true]
      · have h1 : ¬ FitE l[i] := fun h1 => h ⟨h1, h2⟩
        unfold FitE at h1
        rw [decide_eq_false h2, cm_lss, cm_gtr, cm_gtr]
        simp only [Bool.or_false, Bool.or_eq_true, decide_eq_true_eq]
        omega)]
    rfl
theorem nodup_snoc {l : List Int} {x : Int} : (l ++ [x]).Nodup ↔ l.Nodup ∧ x ∉ l := by
  rw [List.nodup_append]
  constructor
  · rintro ⟨h1, _, h3⟩; exact ⟨h1, fun hx => h3 x hx x (by simp) rfl⟩
  · rintro ⟨h1, h2⟩; exact ⟨h1, by simp, fun a ha b hb e => by simp at hb; subst hb; exact h2 (e ▸ ha)⟩
theorem right_take {l : List Elem} {i : Nat} (hi : i < l.length) : RightL (l.take (i + 1)) ↔ RightL (l.take i) ∧ FitE l[i] ∧ l[i].id_ ∉ (l.take i).map (·.id_) := by
  have e : l.take (i + 1) = l.take i ++ [l[i]] := by rw [List.take_add_one, List.getElem?_eq_getElem hi]; rfl
  unfold RightL
  rw [e, List.map_append, List.map_singleton, nodup_snoc]
  constructor
  · rintro ⟨h1, h2, h3⟩; exact ⟨⟨fun e he => h1 e (List.mem_append_left _ he), h2⟩, h1 _ (List.mem_append_right _ (List.mem_singleton.2 rfl)), h3⟩
  · rintro ⟨⟨h1, h2⟩, h3, h4⟩
    refine ⟨fun e he => ?_, h2, h4⟩
    rcases List.mem_append.1 he with he | he
    · exact h1 e he
    · rw [List.mem_singleton.1 he]; exact h3
theorem right_mono {l : List Elem} {i : Nat} (h : RightL l) : RightL (l.take i) := by
  refine ⟨fun e he => h.1 e (List.mem_of_mem_take he), ?_⟩
  rw [List.map_take]
  exact List.Sublist.nodup (List.take_sublist _ _) h.2
theorem eright_eq {l : List Elem} (hl : l.length ≤ 1000000) : elem_Right none l = some (decide (RightL l)) := by
  unfold elem_Right elem_Right_l1
  have key : ∀ m i, i + m = l.length → RightL (l.take i) → loopG none (fun (s : (List (Int × Bool)) × Int) => elem_Right_s1 none l s.1 s.2) ((l.take i).reverse.map (fun e => (e.id_, true)), (i : Int)) = some (decide (RightL l)) := by
    intro m
    induction m with
    | zero =>
      intro i hi hr
      have e : i = l.length := by omega
      subst e
      rw [List.take_length] at hr ⊢
      rw [loopG_eq]
      have : elem_Right_s1 none l (l.reverse.map fun e => (e.id_, true)) (l.length : Int) = some (.inr true) := by
        unfold elem_Right_s1
        rw [if_neg (by rw [cm_lss]; simp)]; rfl
      simp only [this, decide_eq_true hr]
    | succ m ih =>
      intro i hi hr
      have hil : i < l.length := by omega
      have hs := right_step (l := l) (i := i) hl hil
      by_cases h : FitE l[i] ∧ l[i].id_ ∉ (l.take i).map (·.id_)
      · rw [if_pos h] at hs
        rw [loop_inl hs]
        exact ih (i + 1) (by omega) ((right_take hil).2 ⟨hr, h⟩)
      · rw [if_neg h] at hs
        rw [loop_inr hs]
        have : ¬ RightL l := fun hr2 => h ((right_take hil).1 (right_mono (i := i + 1) hr2)).2
        rw [decide_eq_false this]
  have := key l.length 0 (by omega) ⟨by simp, by simp⟩
  simpa using this
def Nar (e : Elem) : Prop := e.id_ ≤ 14 ∧ 1 ≤ e.data.length ∧ e.data.length ≤ 16
instance (e : Elem) : Decidable (Nar e) := inferInstanceAs (Decidable (_ ∧ _))
def NarL (l : List Elem) : Prop := ∀ e, e ∈ l → Nar e
instance (l : List Elem) : Decidable (NarL l) := inferInstanceAs (Decidable (∀ e, e ∈ l → Nar e))
def profS (l : List Elem) : Int := if RightL l then (if NarL l then 48862 else 4096) else 0
theorem containsE_eq {l : List Elem} {f : Elem → Option Bool} {p : Elem → Bool} (hf : ∀ s, f s = some (p s)) (hl : l.length ≤ 1000000) : slices_ContainsFunc_Elem none l f = some (l.any p) := by
  unfold slices_ContainsFunc_Elem slices_IndexFunc_Elem slices_IndexFunc_Elem_l1
  have := find_loop (l := l) (step := fun s => slices_IndexFunc_Elem_s1 none l f s) (p := p) (hit := fun i => (i : Int)) (miss := -1) (by
    show slices_IndexFunc_Elem_s1 none l f _ = _
    unfold slices_IndexFunc_Elem_s1
    rw [if_neg (by rw [cm_lss]; simp)]; rfl) (fun i hi => by
    show slices_IndexFunc_Elem_s1 none l f _ = _
    unfold slices_IndexFunc_Elem_s1
    rw [if_pos (by rw [cm_lss]; simpa using hi), bnd (ix_some (n := i) rfl hi), bnd (hf _)]
    by_cases hp : p l[i] = true
    · rw [if_pos hp, if_pos hp]; rfl
    · rw [if_neg hp, if_neg hp, ar_add, w_i64 (by omega) (by omega)]; rfl)
  rw [bnd this]
  congr 1
  cases h : l.findIdx? p with
  | none =>
    rw [List.findIdx?_eq_none_iff] at h
    have : l.any p = false := by rw [List.any_eq_false]; intro x hx; simp [h x hx]
    rw [this]; decide
  | some i =>
    rw [List.findIdx?_eq_some_iff_getElem] at h
    obtain ⟨hi, hp, _⟩ := h
    have : l.any p = true := List.any_eq_true.2 ⟨l[i], List.getElem_mem hi, hp⟩
    rw [this, cm_geq]; simp
theorem enarrow_eq {l : List Elem} (hl : l.length ≤ 1000000) : elem_narrow none l = some (decide (NarL l)) := by
  unfold elem_narrow
  rw [bnd (containsE_eq (p := fun e => !decide (Nar e)) (fun e => by
    congr 1
    unfold elem_narrow_1
    rw [cm_gtr, cm_lss, cm_gtr]
    by_cases h : Nar e
    · rw [decide_eq_true h]
      unfold Nar at h
      show _ = false
      rw [Bool.eq_false_iff]
      simp only [ne_eq, Bool.or_eq_true, decide_eq_true_eq]; omega
    · rw [decide_eq_false h]
      unfold Nar at h
      show _ = true
      simp only [Bool.or_eq_true, decide_eq_true_eq]; omega) hl)]
  congr 1
  rw [Bool.eq_iff_iff, decide_eq_true_iff (p := NarL l)]
  unfold NarL
  simp only [Bool.not_eq_true', List.any_eq_false]
  constructor
  · intro h e he; simpa using h e he
  · intro h e he; simpa using h e he
theorem eprof_eq {l : List Elem} (hl : l.length ≤ 1000000) : elem_Profile none l = some (profS l) := by
  unfold elem_Profile profS
  rw [bnd (eright_eq hl)]
  by_cases h : RightL l
  · rw [decide_eq_true h, if_neg (by decide), if_pos h, bnd (enarrow_eq hl)]
    by_cases h2 : NarL l
    · rw [decide_eq_true h2, if_pos rfl, if_pos h2]
    · rw [decide_eq_false h2, if_neg (by decide), if_neg h2]
  · rw [decide_eq_false h, if_pos (by decide), if_neg h]
def ShortL (l : List Elem) : Prop := l.length ≤ 300 ∧ ∀ e, e ∈ l → e.data.length ≤ 400
instance (l : List Elem) : Decidable (ShortL l) := inferInstanceAs (Decidable (_ ∧ _))
theorem short_eq {l : List Elem} (hl : l.length ≤ 9223372036854775807) : ref08_Short none l = some (decide (ShortL l)) := by
  unfold ref08_Short ref08_Short_l1
  have := find_loop (l := l) (step := fun s => ref08_Short_s1 none l s) (p := fun e => decide (400 < e.data.length)) (hit := fun _ => false) (miss := decide (l.length ≤ 300)) (by
    show ref08_Short_s1 none l _ = _
    unfold ref08_Short_s1
    rw [if_neg (by rw [cm_lss]; simp), cm_leq]
    simp only [Option.map_some]
    congr 2
    exact decide_eq_decide.2 (by omega)) (fun i hi => by
    show ref08_Short_s1 none l (i : Int) = _
    unfold ref08_Short_s1
    rw [if_pos (by rw [cm_lss]; simpa using hi), bnd (ix_some (n := i) rfl hi), cm_gtr]
    by_cases h : 400 < l[i].data.length
    · rw [if_pos (by simp; omega), if_pos (by simpa using h)]; rfl
    · rw [if_neg (by simp; omega), if_neg (by simpa using h), ar_add, w_i64 (by omega) (by omega)]; rfl)
  rw [this]
  congr 1
  cases hf : l.findIdx? (fun e => decide (400 < e.data.length)) with
  | none =>
    rw [List.findIdx?_eq_none_iff] at hf
    refine decide_eq_decide.2 ⟨fun h => ⟨h, fun e he => by have := hf e he; simp at this; omega⟩, fun h => h.1⟩
  | some j =>
    rw [List.findIdx?_eq_some_iff_getElem] at hf
    obtain ⟨hj, hp, _⟩ := hf
    exact (decide_eq_false fun h => by have := h.2 _ (List.getElem_mem hj); simp at hp; omega).symm
def hdr (nar : Bool) (e : Elem) : List Int := if nar then [16 * e.id_ + e.data.length - 1] else [e.id_, e.data.length]
def encE (nar : Bool) (e : Elem) : List Int := hdr nar e ++ e.data
def bodyL (nar : Bool) (l : List Elem) : List Int := l.flatMap (encE nar)
def fill4 (b : List Int) : List Int := b ++ List.replicate (fillN b.length) 0
def narB (l : List Elem) : Bool := decide (NarL l)
def writeL (l : List Elem) : List Int := fill4 (bodyL (narB l) l)
structure GoodE (l : List Elem) : Prop where
  d : ∀ e, e ∈ l → oct e.data
theorem bodyL_take (nar : Bool) (l : List Elem) (i : Nat) (hi : i < l.length) : bodyL nar (l.take (i + 1)) = bodyL nar (l.take i) ++ encE nar l[i] := by
  simp only [bodyL]
  rw [List.take_add_one, List.getElem?_eq_getElem hi, Option.toList_some, List.flatMap_append, List.flatMap_singleton]
theorem hdr_len (nar : Bool) (e : Elem) : (hdr nar e).length = if nar then 1 else 2 := by unfold hdr; split <;> rfl
theorem bodyL_len {nar : Bool} : ∀ {l : List Elem}, (∀ e, e ∈ l → e.data.length ≤ 400) → (bodyL nar l).length ≤ 402 * l.length
  | [], _ => by simp [bodyL]
  | a :: l, h => by
    have ih := bodyL_len (nar := nar) (l := l) fun e he => h e (by simp [he])
    have := h a (by simp)
    simp only [bodyL, List.flatMap_cons, List.length_append, encE, hdr_len, List.length_cons] at *
    split <;> omega
theorem prof_nar {l : List Elem} (hr : RightL l) : cm .eql (profS l) 48862 = narB l := by
  unfold profS narB
  rw [if_pos hr]
  by_cases h : NarL l
  · rw [if_pos h, decide_eq_true h]; decide
  · rw [if_neg h, decide_eq_false h]; decide
theorem nhdr {e : Elem} (hf : FitE e) (hn : Nar e) : IntKind.u8.wrap (ar .or .i64 (sf .shl .i64 e.id_ 4) (ar .sub .i64 (e.data.length : Int) 1)) = 16 * e.id_ + e.data.length - 1 := by
  unfold FitE at hf; unfold Nar at hn
  rw [sf_shl (y := 4) (n := 4) rfl (by decide), w_i64 (by omega) (by omega), ar_sub, w_i64 (by omega) (by omega), ar_or_add_i64 (n := 4) (a := e.id_) rfl (by omega) (by omega) (by omega) (by omega) (by omega), w_u8 (by omega) (by omega)]
  omega
theorem write_loop {l : List Elem} (hr : RightL l) (hs : ShortL l) (i : Nat) (hi : i < l.length) :
    elem_Write_s1 none l (profS l) (bodyL (narB l) (l.take i)) (i : Int) = some (.inl (bodyL (narB l) (l.take (i + 1)), ((i + 1 : Nat) : Int))) := by
  have hf := hr.1 l[i] (List.getElem_mem hi)
  have hb := bodyL_len (nar := narB l) (l := l.take i) fun e he => hs.2 e (List.mem_of_mem_take he)
  have hl := hs.1
  rw [List.length_take] at hb
  have hb2 : (bodyL (narB l) (l.take i)).length ≤ 200000 := by omega
  have hd := hf.2.2
  unfold elem_Write_s1 elem_Write_j2
  rw [if_pos (by rw [cm_lss]; simpa using hi), bnd (ix_some (n := i) rfl hi), prof_nar hr]
  rw [bodyL_take _ _ _ hi]
  unfold encE hdr
  by_cases hn : NarL l
  · have hnb : narB l = true := decide_eq_true hn
    rw [hnb] at hb2 ⊢
    rw [if_pos rfl, nhdr hf (hn _ (List.getElem_mem hi)), bnd (app_some (by simp; omega)), bnd (app_some (by simp; omega)), ar_add, w_i64 (by omega) (by omega)]
    simp
  · have hnb : narB l = false := decide_eq_false hn
    rw [hnb] at hb2 ⊢
    unfold FitE at hf
    rw [if_neg (by decide), w_u8 (by omega) (by omega), w_u8 (by omega) (by omega), bnd (app_some (by simp; omega)), bnd (app_some (by simp; omega)), ar_add, w_i64 (by omega) (by omega)]
    simp
theorem ewrite_eq {l : List Elem} (hs : ShortL l) : elem_Write none l = some (if RightL l then (profS l, writeL l, 0) else (0, [], 1)) := by
  have hl := hs.1
  unfold elem_Write
  rw [bnd (eprof_eq (by omega))]
  by_cases hr : RightL l
  · have hp : profS l ≠ 0 := by unfold profS; rw [if_pos hr]; split <;> decide
    rw [if_neg (by rw [cm_eql]; simpa using hp), if_pos hr]
    unfold elem_Write_l1
    have := loop_seq (step := fun (s : List Int × Int) => elem_Write_s1 none l (profS l) s.1 s.2) (r := (profS l, writeL l, 0)) (fun i => (bodyL (narB l) (l.take i), (i : Int))) l.length (fun i hi => write_loop hr hs i hi) (by
      show elem_Write_s1 none l (profS l) (bodyL (narB l) (l.take l.length)) (l.length : Int) = _
      have hb := bodyL_len (nar := narB l) (l := l) hs.2
      unfold elem_Write_s1
      rw [if_neg (by rw [cm_lss]; simp), List.take_length, bnd (fill_eq (by omega))]
      rfl)
    simpa [bodyL] using this
  · have hp : profS l = 0 := by unfold profS; rw [if_neg hr]
    rw [if_pos (by rw [cm_eql]; simpa using hp), if_neg hr]
theorem nat_hi (x : Nat) (hx : x < 65536) : x &&& 65520 = x / 16 * 16 := by
  have h : x &&& 65520 = (x / 2 ^ 4 &&& 4095) * 2 ^ 4 := by
    apply Nat.eq_of_testBit_eq
    intro i
    have e : (65520 : Nat) = 4095 * 2 ^ 4 := by decide
    rw [Nat.testBit_and, e, Nat.testBit_mul_two_pow, Nat.testBit_mul_two_pow, Nat.testBit_and, Nat.testBit_div_two_pow]
    by_cases hi : 4 ≤ i
    · have : i - 4 + 4 = i := by omega
      simp [hi, this]
    · simp [hi]
  rw [h]
  have e2 : (4095 : Nat) = 2 ^ 12 - 1 := by decide
  rw [e2, nat_and_mask]
  omega
theorem andNot15 {x : Int} (h0 : 0 ≤ x) (h1 : x ≤ 65535) : ar .andNot .u16 x 15 = x / 16 * 16 := by
  obtain ⟨n, rfl⟩ : ∃ n : Nat, x = n := ⟨x.toNat, by omega⟩
  have e : ~~~ (BitVec.ofInt 16 15) = 65520#16 := by decide
  have hb : IntKind.u16.bits = 16 := rfl
  show IntKind.u16.wrap ((BitVec.ofInt 16 (n : Int) &&& ~~~ BitVec.ofInt 16 15).toNat : Int) = _
  rw [e, BitVec.toNat_and]
  have e1 : (BitVec.ofInt 16 (n : Int)).toNat = n := by
    rw [BitVec.toNat_ofInt]; omega
  have e2 : (65520#16).toNat = 65520 := rfl
  rw [e1, e2, nat_hi n (by omega), w_u16 (by omega) (by omega)]
  omega
/-- where elements stand -/
def dupS (out : List Spot) (id : Int) : Bool := out.any fun s => decide (s.id_ = id)
def spotsG (nar : Bool) : Nat → Nat → List Int → List Spot → List Spot × Int
  | 0, _, _, out => (out, 0)
  | _ + 1, _, [], out => (out, 0)
  | n + 1, pos, x :: r, out =>
    if x = 0 then spotsG nar n (pos + 1) r out else
    if nar then
      if x / 16 = 0 ∨ x / 16 = 15 then (out, 0)
      else if r.length < (x % 16 + 1).toNat then ([], 4)
      else if dupS out (x / 16) then ([], 6)
      else spotsG nar n (pos + 1 + (x % 16 + 1).toNat) (r.drop (x % 16 + 1).toNat) (out ++ [⟨x / 16, pos + 1, x % 16 + 1⟩])
    else
      match r with
      | [] => ([], 4)
      | s :: r' =>
        if r'.length < s.toNat then ([], 4)
        else if dupS out x then ([], 6)
        else spotsG nar n (pos + 2 + s.toNat) (r'.drop s.toNat) (out ++ [⟨x, pos + 2, s⟩])
inductive Prof where
  | nar | wide | none
def profOf (p : Int) : Prof := if p = 48862 then .nar else if p / 16 = 256 then .wide else .none
def spotsS (p : Int) (data : List Int) : List Spot × Int :=
  match profOf p with
  | .nar => spotsG true (data.length + 1) 0 data []
  | .wide => spotsG false (data.length + 1) 0 data []
  | .none => ([], 6)
theorem containsS_eq {l : List Spot} {f : Spot → Option Bool} {p : Spot → Bool} (hf : ∀ s, f s = some (p s)) (hl : l.length ≤ 1000000) : slices_ContainsFunc_Spot none l f = some (l.any p) := by
  unfold slices_ContainsFunc_Spot slices_IndexFunc_Spot slices_IndexFunc_Spot_l1
  have := find_loop (l := l) (step := fun s => slices_IndexFunc_Spot_s1 none l f s) (p := p) (hit := fun i => (i : Int)) (miss := -1) (by
    show slices_IndexFunc_Spot_s1 none l f _ = _
    unfold slices_IndexFunc_Spot_s1
    rw [if_neg (by rw [cm_lss]; simp)]; rfl) (fun i hi => by
    show slices_IndexFunc_Spot_s1 none l f _ = _
    unfold slices_IndexFunc_Spot_s1
    rw [if_pos (by rw [cm_lss]; simpa using hi), bnd (ix_some (n := i) rfl hi), bnd (hf _)]
    by_cases hp : p l[i] = true
    · rw [if_pos hp, if_pos hp]; rfl
    · rw [if_neg hp, if_neg hp, ar_add, w_i64 (by omega) (by omega)]; rfl)
  rw [bnd this]
  congr 1
  cases h : l.findIdx? p with
  | none =>
    rw [List.findIdx?_eq_none_iff] at h
    have : l.any p = false := by rw [List.any_eq_false]; intro x hx; simp [h x hx]
    rw [this]; decide
  | some i =>
    rw [List.findIdx?_eq_some_iff_getElem] at h
    obtain ⟨hi, hp, _⟩ := h
    have : l.any p = true := List.any_eq_true.2 ⟨l[i], List.getElem_mem hi, hp⟩
    rw [this, cm_geq]; simp
theorem drop_cons {data : List Int} {pos : Nat} {x : Int} {r : List Int} (h : data.drop pos = x :: r) : ∃ hp : pos < data.length, data[pos] = x ∧ data.drop (pos + 1) = r := by
  have hp : pos < data.length := by
    refine Classical.byContradiction fun hn => ?_
    rw [List.drop_of_length_le (by omega)] at h; cases h
  rw [List.drop_eq_getElem_cons hp] at h
  simp only [List.cons.injEq] at h
  exact ⟨hp, h.1, h.2⟩
theorem walk_nar : elem_walk 48862 = .c197 ⟨⟩ := by decide
theorem walk_wide {p : Int} (h0 : 0 ≤ p) (h1 : p ≤ 65535) (h : p / 16 = 256) : elem_walk p = .c198 ⟨⟩ := by
  unfold elem_walk
  rw [if_neg (by rw [cm_eql]; simp; omega), andNot15 h0 h1, if_pos (by rw [cm_eql]; simp; omega)]
theorem walk_none {p : Int} (h0 : 0 ≤ p) (h1 : p ≤ 65535) (h : p ≠ 48862) (h2 : p / 16 ≠ 256) : elem_walk p = .nil := by
  unfold elem_walk
  rw [if_neg (by rw [cm_eql]; simpa using h), andNot15 h0 h1, if_neg (by rw [cm_eql]; simp; omega)]
theorem shr4 {x : Int} (h0 : 0 ≤ x) (h1 : x ≤ 255) : IntKind.i64.wrap (sf .shr .u8 x 4) = x / 16 := by
  rw [sf_shr (y := 4) (n := 4) rfl (by decide), w_i64 (by omega) (by omega)]
  rfl
theorem and15' {x : Int} (h0 : 0 ≤ x) (h1 : x ≤ 255) : IntKind.i64.wrap (ar .and .u8 x 15) = x % 16 := by
  have : ar .and .u8 x 15 = x % 16 := ar_mask (k := .u8) (n := 4) rfl (by decide) (by decide) h0 (by simp [IntKind.bits]; omega)
  rw [this, w_i64 (by omega) (by omega)]
theorem spots_loop {p : Int} {nar : Bool} {data : List Int} (hw : elem_walk p = if nar then .c197 ⟨⟩ else .c198 ⟨⟩) (hb : oct data) (hl : data.length ≤ 1000000) :
    ∀ (n pos : Nat) (rest : List Int) (out : List Spot), rest.length < n → data.drop pos = rest → pos ≤ data.length → out.length + rest.length ≤ 1000000 →
      elem_Spots_l2 none p data out (pos : Int) = some (spotsG nar n pos rest out)
  | 0, _, _, _, h, _, _, _ => by omega
  | n + 1, pos, [], out, _, hd, hp, _ => by
    have hpos : pos = data.length := by
      have := congrArg List.length hd
      rw [List.length_drop] at this; simp at this; omega
    unfold elem_Spots_l2
    have : elem_Spots_s2 none p data out (pos : Int) = some (.inr (out, 0)) := by
      unfold elem_Spots_s2 elem_Spots_j1
      rw [if_neg (by rw [cm_lss, hpos]; simp)]; rfl
    exact loop_inr (step := fun (s : List Spot × Int) => elem_Spots_s2 none p data s.1 s.2) (s := (out, (pos : Int))) this
  | n + 1, pos, x :: r, out, hn, hd, hp, hol => by
    obtain ⟨hpl, hx, hr⟩ := drop_cons hd
    have hxb := hb x (by rw [← hx]; exact List.getElem_mem hpl)
    have hrl : r.length = data.length - (pos + 1) := by rw [← hr, List.length_drop]
    simp only [List.length_cons] at hn hol
    have hix : ix data (pos : Int) = some x := by rw [ix_some (n := pos) rfl hpl, hx]
    unfold elem_Spots_l2
    have next : ∀ (out' : List Spot) (pos' : Nat) (rest' : List Int), elem_Spots_s2 none p data out (pos : Int) = some (.inl (out', (pos' : Int))) → rest'.length < n → data.drop pos' = rest' → pos' ≤ data.length → out'.length + rest'.length ≤ 1000000 →
        loopG none (fun (s : List Spot × Int) => elem_Spots_s2 none p data s.1 s.2) (out, (pos : Int)) = some (spotsG nar n pos' rest' out') := fun out' pos' rest' h1 h2 h3 h4 h5 => by
      rw [loop_inl (s := (out, (pos : Int))) (s' := (out', (pos' : Int))) h1]
      exact spots_loop hw hb hl n pos' rest' out' h2 h3 h4 h5
    have stop : ∀ (q : List Spot × Int), elem_Spots_s2 none p data out (pos : Int) = some (.inr q) → loopG none (fun (s : List Spot × Int) => elem_Spots_s2 none p data s.1 s.2) (out, (pos : Int)) = some q := fun q h1 => loop_inr (s := (out, (pos : Int))) h1
    have st : elem_Spots_s2 none p data out (pos : Int) = (if cm .eql x 0 = true then some (Sum.inl (out, (ar .add .i64 (pos : Int) 1)))
      else Option.bind (I_elem_walker_next (elem_walk p) data (pos : Int)) fun x5 =>
        if (!x5.2) then Option.map Sum.inr (elem_Spots_j1 none out)
        else if ((cm .gtr x5.1.at_ (data.length : Int)) || (cm .gtr x5.1.size (ar .sub .i64 (data.length : Int) x5.1.at_))) then Option.map Sum.inr (some ([], 4))
        else Option.bind (slices_ContainsFunc_Spot none out (fun (y0 : Spot) => some (elem_Spots_1 y0 x5.1))) fun x6 =>
          if x6 then Option.map Sum.inr (some ([], 6))
          else Option.bind (app out [x5.1]) fun x7 => some (Sum.inl (x7, (ar .add .i64 x5.1.at_ x5.1.size)))) := by
      conv => lhs; unfold elem_Spots_s2
      rw [if_pos (by rw [cm_lss]; simpa using hpl), bnd hix]
    have hdup : ∀ (s : Spot), slices_ContainsFunc_Spot none out (fun (y0 : Spot) => some (elem_Spots_1 y0 s)) = some (dupS out s.id_) := fun s =>
      containsS_eq (p := fun y => decide (y.id_ = s.id_)) (fun y => by unfold elem_Spots_1; rw [cm_eql]) (by omega)
    by_cases h0 : x = 0
    · have e : spotsG nar (n + 1) pos (x :: r) out = spotsG nar n (pos + 1) r out := by cases nar <;> cases r <;> simp [spotsG, h0]
      rw [e]
      refine next out (pos + 1) r ?_ (by omega) hr (by omega) (by omega)
      rw [st, if_pos (by rw [cm_eql]; simpa using h0), ar_add, w_i64 (by omega) (by omega)]
      rfl
    · have c0 : ¬ cm .eql x 0 = true := by rw [cm_eql]; simpa using h0
      rw [if_neg c0] at st
      have ep : ∀ k : Int, 0 ≤ k → k ≤ 10 → ar .add .i64 (pos : Int) k = pos + k := fun k _ _ => by rw [ar_add, w_i64 (by omega) (by omega)]
      cases nar with
      | true =>
        rw [hw] at st
        simp only [if_true, I_elem_walker_next] at st
        have hnx : elem_low_next ⟨⟩ data (pos : Int) = some (⟨x / 16, pos + 1, x % 16 + 1⟩, (cm .neq (x / 16) 0) && (cm .neq (x / 16) 15)) := by
          unfold elem_low_next
          rw [bnd hix, bnd hix, shr4 hxb.1 hxb.2, and15' hxb.1 hxb.2, ep 1 (by omega) (by omega), ar_add, w_i64 (by omega) (by omega)]
        rw [bnd hnx] at st
        have e : spotsG true (n + 1) pos (x :: r) out = if x / 16 = 0 ∨ x / 16 = 15 then (out, 0) else if r.length < (x % 16 + 1).toNat then ([], 4) else if dupS out (x / 16) then ([], 6) else spotsG true n (pos + 1 + (x % 16 + 1).toNat) (r.drop (x % 16 + 1).toNat) (out ++ [⟨x / 16, pos + 1, x % 16 + 1⟩]) := by
          cases r <;> simp [spotsG, h0]
        rw [e]
        simp only [] at st
        by_cases h1 : x / 16 = 0 ∨ x / 16 = 15
        · rw [if_pos h1]
          refine stop _ ?_
          rw [st, if_pos (by rw [cm_neq, cm_neq]; rcases h1 with h1 | h1 <;> simp [h1])]
          rfl
        · rw [if_neg h1]
          rw [if_neg (by rw [cm_neq, cm_neq]; simp; omega)] at st
          by_cases h2 : r.length < (x % 16 + 1).toNat
          · rw [if_pos h2]
            refine stop _ ?_
            rw [st, if_pos (by rw [cm_gtr, cm_gtr, ar_sub, w_i64 (by omega) (by omega)]; simp; omega)]
            rfl
          · rw [if_neg h2]
            rw [if_neg (by rw [cm_gtr, cm_gtr, ar_sub, w_i64 (by omega) (by omega)]; simp; omega), bnd (hdup _)] at st
            by_cases h3 : dupS out (x / 16) = true
            · rw [if_pos h3]
              refine stop _ ?_
              rw [st, if_pos h3]; rfl
            · rw [if_neg h3]
              rw [if_neg h3, bnd (app_some (by simp; omega)), ar_add, w_i64 (by omega) (by omega)] at st
              refine next _ _ _ (by rw [st]; congr 3; omega) (by rw [List.length_drop]; omega) ?_ (by omega) (by rw [List.length_drop, List.length_append]; simp; omega)
              rw [← hr, List.drop_drop]
      | false =>
        rw [hw] at st
        simp only [Bool.false_eq_true, if_false, I_elem_walker_next] at st
        cases r with
        | nil =>
          have hnx : elem_high_next ⟨⟩ data (pos : Int) = some (⟨x, pos + 2, 256⟩, true) := by
            unfold elem_high_next elem_high_next_j1
            rw [bnd hix, ep 1 (by omega) (by omega), if_neg (by rw [cm_lss]; simp at hrl; simp; omega), w_i64 (by omega) (by omega), ep 2 (by omega) (by omega)]
          rw [bnd hnx] at st
          have e : spotsG false (n + 1) pos [x] out = ([], 4) := by simp [spotsG, h0]
          rw [e]
          refine stop _ ?_
          simp only [List.length_nil] at hrl
          simp only [Bool.not_true] at st
          rw [st, if_neg (by decide), if_pos (by rw [cm_gtr]; simp; left; omega)]
          rfl
        | cons s r' =>
          obtain ⟨hpl2, hx2, hr2⟩ := drop_cons hr
          have hsb := hb s (by rw [← hx2]; exact List.getElem_mem hpl2)
          have hix2 : ix data ((pos + 1 : Nat) : Int) = some s := by rw [ix_some (n := pos + 1) rfl hpl2, hx2]
          simp only [List.length_cons] at hrl hn hol
          have hnx : elem_high_next ⟨⟩ data (pos : Int) = some (⟨x, pos + 2, s⟩, true) := by
            unfold elem_high_next elem_high_next_j1
            have e1 : ((pos : Int) + 1) = ((pos + 1 : Nat) : Int) := by omega
            rw [bnd hix, ep 1 (by omega) (by omega), if_pos (by rw [cm_lss]; simp; omega), e1, bnd hix2, w_i64 (by omega) (by omega), ep 2 (by omega) (by omega), w_i64 (by omega) (by omega)]
          rw [bnd hnx] at st
          have e : spotsG false (n + 1) pos (x :: s :: r') out = if r'.length < s.toNat then ([], 4) else if dupS out x then ([], 6) else spotsG false n (pos + 2 + s.toNat) (r'.drop s.toNat) (out ++ [⟨x, pos + 2, s⟩]) := by
            simp [spotsG, h0]
          rw [e]
          simp only [Bool.not_true] at st
          rw [if_neg (by decide)] at st
          by_cases h2 : r'.length < s.toNat
          · rw [if_pos h2]
            refine stop _ ?_
            rw [st, if_pos (by rw [cm_gtr, cm_gtr, ar_sub, w_i64 (by omega) (by omega)]; simp; omega)]
            rfl
          · rw [if_neg h2]
            rw [if_neg (by rw [cm_gtr, cm_gtr, ar_sub, w_i64 (by omega) (by omega)]; simp; omega), bnd (hdup _)] at st
            by_cases h3 : dupS out x = true
            · rw [if_pos h3]
              refine stop _ ?_
              rw [st, if_pos h3]; rfl
            · rw [if_neg h3]
              rw [if_neg h3, bnd (app_some (by simp; omega)), ar_add, w_i64 (by omega) (by omega)] at st
              refine next _ _ _ (by rw [st]; congr 3; omega) (by rw [List.length_drop]; omega) ?_ (by omega) (by rw [List.length_drop, List.length_append]; simp; omega)
              rw [← hr2, List.drop_drop]
theorem espots_eq {p : Int} {data : List Int} (h0 : 0 ≤ p) (h1 : p ≤ 65535) (hb : oct data) (hl : data.length ≤ 400000) : elem_Spots none p data = some (spotsS p data) := by
  unfold elem_Spots spotsS profOf
  by_cases hn : p = 48862
  · subst hn
    rw [walk_nar, if_neg (by decide), if_pos rfl]
    exact spots_loop (nar := true) walk_nar hb (by omega) (data.length + 1) 0 data [] (by omega) rfl (by omega) (by simp; omega)
  · rw [if_neg hn]
    by_cases hw : p / 16 = 256
    · rw [walk_wide h0 h1 hw, if_neg (by decide), if_pos hw]
      exact spots_loop (nar := false) (walk_wide h0 h1 hw) hb (by omega) (data.length + 1) 0 data [] (by omega) rfl (by omega) (by simp; omega)
    · rw [walk_none h0 h1 hn hw, if_pos (by decide), if_neg hw]

end Xb

set_option linter.all false
namespace Xb
open Go

def ah (nar : Bool) : Nat := if nar then 1 else 2
structure HdS (nar : Bool) (data : List Int) (s : Spot) : Prop where
  ex : ∃ a q : Nat, s.at_ = a ∧ s.size = q ∧ ah nar ≤ a ∧ a + q ≤ data.length ∧ data.drop (a - ah nar) = (if nar then [16 * s.id_ + q - 1] else [s.id_, (q : Int)]) ++ data.drop a ∧
    1 ≤ s.id_ ∧ s.id_ ≤ 255 ∧ q ≤ 255 ∧ (nar = true → s.id_ ≤ 14 ∧ 1 ≤ q ∧ q ≤ 16)
theorem dup_not {out : List Spot} {id : Int} (h : ¬ dupS out id = true) : id ∉ out.map (·.id_) := by
  intro hm
  obtain ⟨s, hs, rfl⟩ := List.mem_map.1 hm
  exact h (List.any_eq_true.2 ⟨s, hs, by simp⟩)
theorem spotsG_inv {nar : Bool} {data : List Int} (hb : oct data) : ∀ (n pos : Nat) (rest : List Int) (out : List Spot), data.drop pos = rest → (∀ s, s ∈ out → HdS nar data s) → (out.map (·.id_)).Nodup →
    (∀ s, s ∈ (spotsG nar n pos rest out).1 → HdS nar data s) ∧ ((spotsG nar n pos rest out).1.map (·.id_)).Nodup ∧ ((spotsG nar n pos rest out).2 ≠ 0 → (spotsG nar n pos rest out).1 = [])
  | 0, pos, rest, out, _, h1, h2 => by
    have : spotsG nar 0 pos rest out = (out, 0) := by cases nar <;> rfl
    rw [this]; exact ⟨h1, h2, fun h => absurd rfl h⟩
  | n + 1, pos, [], out, _, h1, h2 => by
    have : spotsG nar (n + 1) pos [] out = (out, 0) := by cases nar <;> rfl
    rw [this]; exact ⟨h1, h2, fun h => absurd rfl h⟩
  | n + 1, pos, x :: r, out, hd, h1, h2 => by
    obtain ⟨hpl, hx, hr⟩ := drop_cons hd
    have hxb := hb x (by rw [← hx]; exact List.getElem_mem hpl)
    have hrl : r.length = data.length - (pos + 1) := by rw [← hr, List.length_drop]
    have err : ∀ e : Int, (∀ s, s ∈ (([] : List Spot), e).1 → HdS nar data s) ∧ ((([] : List Spot), e).1.map (·.id_)).Nodup ∧ ((([] : List Spot), e).2 ≠ 0 → (([] : List Spot), e).1 = []) := fun e => ⟨by simp, by simp, fun _ => rfl⟩
    have fin : (∀ s, s ∈ (out, (0 : Int)).1 → HdS nar data s) ∧ ((out, (0 : Int)).1.map (·.id_)).Nodup ∧ ((out, (0 : Int)).2 ≠ 0 → (out, (0 : Int)).1 = []) := ⟨h1, h2, fun h => absurd rfl h⟩
    by_cases h0 : x = 0
    · have e : spotsG nar (n + 1) pos (x :: r) out = spotsG nar n (pos + 1) r out := by cases nar <;> cases r <;> simp [spotsG, h0]
      rw [e]; exact spotsG_inv hb n (pos + 1) r out hr h1 h2
    · cases nar with
      | true =>
        have e : spotsG true (n + 1) pos (x :: r) out = if x / 16 = 0 ∨ x / 16 = 15 then (out, 0) else if r.length < (x % 16 + 1).toNat then ([], 4) else if dupS out (x / 16) then ([], 6) else spotsG true n (pos + 1 + (x % 16 + 1).toNat) (r.drop (x % 16 + 1).toNat) (out ++ [⟨x / 16, pos + 1, x % 16 + 1⟩]) := by
          cases r <;> simp [spotsG, h0]
        rw [e]
        by_cases c1 : x / 16 = 0 ∨ x / 16 = 15
        · rw [if_pos c1]; exact fin
        · rw [if_neg c1]
          by_cases c2 : r.length < (x % 16 + 1).toNat
          · rw [if_pos c2]; exact err 4
          · rw [if_neg c2]
            by_cases c3 : dupS out (x / 16) = true
            · rw [if_pos c3]; exact err 6
            · rw [if_neg c3]
              refine spotsG_inv hb n _ _ _ (by rw [← hr, List.drop_drop]) (fun s hs => ?_) (by rw [List.map_append, List.map_singleton]; exact nodup_snoc.2 ⟨h2, dup_not c3⟩)
              rcases List.mem_append.1 hs with hs | hs
              · exact h1 s hs
              · rw [List.mem_singleton.1 hs]
                refine ⟨pos + 1, (x % 16 + 1).toNat, by simp, by simp; omega, by simp [ah], by omega, ?_, by simp; omega, by simp; omega, by omega, fun _ => ⟨by simp; omega, by omega, by omega⟩⟩
                simp only [ah, if_true, Nat.add_sub_cancel, List.singleton_append]
                rw [hd, hr]
                congr 1
                omega
      | false =>
        cases r with
        | nil =>
          have e : spotsG false (n + 1) pos [x] out = ([], 4) := by simp [spotsG, h0]
          rw [e]; exact err 4
        | cons s r' =>
          obtain ⟨hpl2, hx2, hr2⟩ := drop_cons hr
          have hsb := hb s (by rw [← hx2]; exact List.getElem_mem hpl2)
          simp only [List.length_cons] at hrl
          have e : spotsG false (n + 1) pos (x :: s :: r') out = if r'.length < s.toNat then ([], 4) else if dupS out x then ([], 6) else spotsG false n (pos + 2 + s.toNat) (r'.drop s.toNat) (out ++ [⟨x, pos + 2, s⟩]) := by
            simp [spotsG, h0]
          rw [e]
          by_cases c2 : r'.length < s.toNat
          · rw [if_pos c2]; exact err 4
          · rw [if_neg c2]
            by_cases c3 : dupS out x = true
            · rw [if_pos c3]; exact err 6
            · rw [if_neg c3]
              refine spotsG_inv hb n _ _ _ (by rw [← hr2, List.drop_drop]) (fun y hs => ?_) (by rw [List.map_append, List.map_singleton]; exact nodup_snoc.2 ⟨h2, dup_not c3⟩)
              rcases List.mem_append.1 hs with hs | hs
              · exact h1 y hs
              · rw [List.mem_singleton.1 hs]
                refine ⟨pos + 2, s.toNat, by simp, by simp; omega, by simp [ah], by omega, ?_, by simp; omega, by simp; omega, by omega, fun h => by cases h⟩
                simp only [ah, Bool.false_eq_true, if_false, Nat.add_sub_cancel]
                rw [hd]
                have e2 : data.drop (pos + 2) = r' := hr2
                rw [e2]
                simp
                omega
def elemAt (data : List Int) (s : Spot) : Elem := ⟨s.id_, (data.drop s.at_.toNat).take s.size.toNat⟩
def readS (p : Int) (data : List Int) : List Elem × Int := ((spotsS p data).1.map (elemAt data), (spotsS p data).2)
def narP (p : Int) : Bool := decide (p = 48862)
theorem spotsS_inv {p : Int} {data : List Int} (hb : oct data) : (∀ s, s ∈ (spotsS p data).1 → HdS (narP p) data s) ∧ ((spotsS p data).1.map (·.id_)).Nodup ∧ ((spotsS p data).2 ≠ 0 → (spotsS p data).1 = []) := by
  unfold spotsS profOf narP
  by_cases hn : p = 48862
  · rw [if_pos hn, decide_eq_true hn]
    exact spotsG_inv hb _ 0 data [] rfl (by simp) (by simp)
  · rw [if_neg hn, decide_eq_false hn]
    by_cases hw : p / 16 = 256
    · rw [if_pos hw]
      exact spotsG_inv hb _ 0 data [] rfl (by simp) (by simp)
    · rw [if_neg hw]
      exact ⟨by simp, by simp, fun _ => rfl⟩
theorem spotsG_len {nar : Bool} : ∀ (n pos : Nat) (rest : List Int) (out : List Spot), (spotsG nar n pos rest out).1.length ≤ out.length + rest.length
  | 0, pos, rest, out => by
    have : spotsG nar 0 pos rest out = (out, 0) := by cases nar <;> rfl
    rw [this]; simp
  | n + 1, pos, [], out => by
    have : spotsG nar (n + 1) pos [] out = (out, 0) := by cases nar <;> rfl
    rw [this]; simp
  | n + 1, pos, x :: r, out => by
    by_cases h0 : x = 0
    · have e : spotsG nar (n + 1) pos (x :: r) out = spotsG nar n (pos + 1) r out := by cases nar <;> cases r <;> simp [spotsG, h0]
      rw [e]
      have := spotsG_len (nar := nar) n (pos + 1) r out
      simp only [List.length_cons]; omega
    · cases nar with
      | true =>
        have e : spotsG true (n + 1) pos (x :: r) out = if x / 16 = 0 ∨ x / 16 = 15 then (out, 0) else if r.length < (x % 16 + 1).toNat then ([], 4) else if dupS out (x / 16) then ([], 6) else spotsG true n (pos + 1 + (x % 16 + 1).toNat) (r.drop (x % 16 + 1).toNat) (out ++ [⟨x / 16, pos + 1, x % 16 + 1⟩]) := by
          cases r <;> simp [spotsG, h0]
        rw [e]
        split
        · simp
        · split
          · simp
          · split
            · simp
            · have := spotsG_len (nar := true) n (pos + 1 + (x % 16 + 1).toNat) (r.drop (x % 16 + 1).toNat) (out ++ [⟨x / 16, pos + 1, x % 16 + 1⟩])
              simp only [List.length_append, List.length_drop, List.length_cons, List.length_nil] at this ⊢
              omega
      | false =>
        cases r with
        | nil =>
          have e : spotsG false (n + 1) pos [x] out = ([], 4) := by simp [spotsG, h0]
          rw [e]; simp
        | cons s r' =>
          have e : spotsG false (n + 1) pos (x :: s :: r') out = if r'.length < s.toNat then ([], 4) else if dupS out x then ([], 6) else spotsG false n (pos + 2 + s.toNat) (r'.drop s.toNat) (out ++ [⟨x, pos + 2, s⟩]) := by
            simp [spotsG, h0]
          rw [e]
          split
          · simp
          · split
            · simp
            · have := spotsG_len (nar := false) n (pos + 2 + s.toNat) (r'.drop s.toNat) (out ++ [⟨x, pos + 2, s⟩])
              simp only [List.length_append, List.length_drop, List.length_cons, List.length_nil] at this ⊢
              omega
theorem spotsS_len {p : Int} {data : List Int} : (spotsS p data).1.length ≤ data.length := by
  unfold spotsS
  split
  · have := spotsG_len (nar := true) (data.length + 1) 0 data []; simpa using this
  · have := spotsG_len (nar := false) (data.length + 1) 0 data []; simpa using this
  · simp
theorem sub_at {nar : Bool} {data : List Int} {s : Spot} (h : HdS nar data s) (hl : data.length ≤ 400000) : sub data s.at_ (ar .add .i64 s.at_ s.size) = some ((elemAt data s).data) := by
  obtain ⟨a, q, h1, h2, h3, h4, _⟩ := h.ex
  have e : ar .add .i64 s.at_ s.size = ((a + q : Nat) : Int) := by rw [h1, h2, ar_add, w_i64 (by omega) (by omega)]; omega
  rw [e, h1, sub_some (by omega) (by omega) (by omega)]
  unfold elemAt
  rw [h1, h2]
  simp only [Int.toNat_natCast]
  congr 2
  omega
theorem eread_eq {p : Int} {data : List Int} (h0 : 0 ≤ p) (h1 : p ≤ 65535) (hb : oct data) (hl : data.length ≤ 400000) : elem_Read none p data = some (readS p data) := by
  obtain ⟨i1, i2, i3⟩ := spotsS_inv (p := p) hb
  have hlen := spotsS_len (p := p) (data := data)
  unfold elem_Read readS
  rw [bnd (espots_eq h0 h1 hb hl)]
  by_cases he : (spotsS p data).2 = 0
  · rw [if_neg (by rw [cm_neq]; simp [he])]
    unfold elem_Read_l1
    have := loop_seq (step := fun (s : List Elem × Int) => elem_Read_s1 none data (spotsS p data) s.1 s.2) (r := ((spotsS p data).1.map (elemAt data), 0)) (fun i => (((spotsS p data).1.take i).map (elemAt data), (i : Int))) (spotsS p data).1.length (fun i hi => by
      show elem_Read_s1 none data (spotsS p data) _ (i : Int) = _
      unfold elem_Read_s1
      have hm := List.getElem_mem hi
      rw [if_pos (by rw [cm_lss]; simpa using hi), bnd (ix_some (n := i) rfl hi), bnd (sub_at (i1 _ hm) hl)]
      have hc : slices_Clone (elemAt data (spotsS p data).1[i]).data = some (elemAt data (spotsS p data).1[i]).data := by
        unfold slices_Clone
        rw [app_some (by simp [elemAt]; omega)]; rfl
      rw [bnd hc, bnd (app_some (by simp; omega)), ar_add, w_i64 (by omega) (by omega), List.take_add_one, List.getElem?_eq_getElem hi, Option.toList_some, List.map_append]
      rfl) (by
      show elem_Read_s1 none data (spotsS p data) _ _ = _
      unfold elem_Read_s1
      rw [if_neg (by rw [cm_lss]; simp), List.take_length]; rfl)
    rw [he]
    simpa using this
  · rw [if_pos (by rw [cm_neq]; simp [he]), i3 he]
    rfl
def mkSpots (nar : Bool) : Nat → List Elem → List Spot
  | _, [] => []
  | pos, e :: l => ⟨e.id_, ((pos + ah nar : Nat) : Int), (e.data.length : Int)⟩ :: mkSpots nar (pos + ah nar + e.data.length) l
theorem spots_zeros {nar : Bool} : ∀ (k n pos : Nat) (out : List Spot), k < n → spotsG nar n pos (List.replicate k 0) out = (out, 0)
  | 0, n + 1, pos, out, _ => by cases nar <;> rfl
  | k + 1, n + 1, pos, out, h => by
    have e : spotsG nar (n + 1) pos (0 :: List.replicate k 0) out = spotsG nar n (pos + 1) (List.replicate k 0) out := by
      cases nar <;> cases k <;> simp [spotsG, List.replicate_succ]
    rw [List.replicate_succ, e]
    exact spots_zeros k n (pos + 1) out (by omega)
  | _, 0, _, _, h => by omega
theorem nodup_not_dup {out : List Spot} {id : Int} (h : id ∉ out.map (·.id_)) : dupS out id = false := by
  unfold dupS
  rw [List.any_eq_false]
  intro s hs he
  exact h (List.mem_map.2 ⟨s, hs, by simpa using he⟩)
theorem spots_fwd {nar : Bool} : ∀ (l : List Elem) (n pos : Nat) (t : List Int) (out : List Spot), (∀ e, e ∈ l → FitE e) → (nar = true → ∀ e, e ∈ l → Nar e) → (out.map (·.id_) ++ l.map (·.id_)).Nodup → (bodyL nar l ++ t).length < n →
    ∃ m, t.length < m ∧ spotsG nar n pos (bodyL nar l ++ t) out = spotsG nar m (pos + (bodyL nar l).length) t (out ++ mkSpots nar pos l)
  | [], n, pos, t, out, _, _, _, hn => ⟨n, by simpa [bodyL] using hn, by simp [bodyL, mkSpots]⟩
  | e :: l, n, pos, t, out, hf, hna, hd, hn => by
    have hfe := hf e (by simp)
    unfold FitE at hfe
    have hbody : bodyL nar (e :: l) = hdr nar e ++ (e.data ++ bodyL nar l) := by simp [bodyL, encE]
    have hlen : (bodyL nar (e :: l) ++ t).length = ah nar + e.data.length + (bodyL nar l ++ t).length := by
      rw [hbody]; simp only [List.length_append, hdr_len, ah]; omega
    rw [hlen] at hn
    obtain ⟨n', rfl⟩ : ∃ n', n = n' + 1 := ⟨n - 1, by omega⟩
    have hnd : e.id_ ∉ out.map (·.id_) := by
      intro hm
      rw [List.nodup_append] at hd
      exact hd.2.2 _ hm e.id_ (by simp) rfl
    have hd' : ((out ++ [Spot.mk e.id_ ((pos + ah nar : Nat) : Int) (e.data.length : Int)]).map (·.id_) ++ l.map (·.id_)).Nodup := by
      simpa using hd
    have hpos : 1 ≤ ah nar := by unfold ah; split <;> omega
    obtain ⟨m, hm1, hm2⟩ := spots_fwd l n' (pos + ah nar + e.data.length) t (out ++ [⟨e.id_, ((pos + ah nar : Nat) : Int), (e.data.length : Int)⟩]) (fun x hx => hf x (by simp [hx])) (fun h x hx => hna h x (by simp [hx])) hd' (by omega)
    refine ⟨m, hm1, ?_⟩
    have step : spotsG nar (n' + 1) pos (bodyL nar (e :: l) ++ t) out = spotsG nar n' (pos + ah nar + e.data.length) (bodyL nar l ++ t) (out ++ [⟨e.id_, ((pos + ah nar : Nat) : Int), (e.data.length : Int)⟩]) := by
      have hsplit : bodyL nar (e :: l) ++ t = hdr nar e ++ (e.data ++ (bodyL nar l ++ t)) := by rw [hbody]; simp
      rw [hsplit]
      cases nar with
      | true =>
        have hne := hna rfl e (by simp)
        unfold Nar at hne
        have hh : hdr true e = [16 * e.id_ + e.data.length - 1] := rfl
        rw [hh, List.singleton_append]
        have h0 : ¬ (16 * e.id_ + (e.data.length : Int) - 1 = 0) := by omega
        have e1 : (16 * e.id_ + (e.data.length : Int) - 1) / 16 = e.id_ := by omega
        have e2 : (16 * e.id_ + (e.data.length : Int) - 1) % 16 + 1 = e.data.length := by omega
        have ee : ∀ (x : Int) (r : List Int), x ≠ 0 → spotsG true (n' + 1) pos (x :: r) out = if x / 16 = 0 ∨ x / 16 = 15 then (out, 0) else if r.length < (x % 16 + 1).toNat then ([], 4) else if dupS out (x / 16) then ([], 6) else spotsG true n' (pos + 1 + (x % 16 + 1).toNat) (r.drop (x % 16 + 1).toNat) (out ++ [⟨x / 16, pos + 1, x % 16 + 1⟩]) := by
          intro x r h0
          cases r <;> simp [spotsG, h0]
        rw [ee _ _ h0, e1, e2, if_neg (by omega), if_neg (by simp), nodup_not_dup hnd, if_neg (by decide), Int.toNat_natCast, List.drop_left]
        simp [ah]
      | false =>
        have hh : hdr false e = [e.id_, (e.data.length : Int)] := rfl
        rw [hh]
        have h0 : ¬ (e.id_ = 0) := by omega
        have ee : ∀ (x s : Int) (r' : List Int), x ≠ 0 → spotsG false (n' + 1) pos (x :: s :: r') out = if r'.length < s.toNat then ([], 4) else if dupS out x then ([], 6) else spotsG false n' (pos + 2 + s.toNat) (r'.drop s.toNat) (out ++ [⟨x, pos + 2, s⟩]) := by
          intro x s r' h0
          simp [spotsG, h0]
        simp only [List.cons_append, List.nil_append]
        rw [ee _ _ _ h0, if_neg (by simp), nodup_not_dup hnd, if_neg (by decide), Int.toNat_natCast, List.drop_left]
        simp [ah]
    rw [step, hm2]
    have el : (bodyL nar (e :: l)).length = ah nar + e.data.length + (bodyL nar l).length := by
      rw [hbody]; simp only [List.length_append, hdr_len, ah]; omega
    rw [el]
    congr 1
    · omega
    · simp [mkSpots]
theorem mk_at {nar : Bool} {data : List Int} : ∀ (l : List Elem) (pos : Nat) (t : List Int), data.drop pos = bodyL nar l ++ t → (mkSpots nar pos l).map (elemAt data) = l
  | [], _, _, _ => rfl
  | e :: l, pos, t, h => by
    have hbody : bodyL nar (e :: l) = hdr nar e ++ (e.data ++ bodyL nar l) := by simp [bodyL, encE]
    have hah : (hdr nar e).length = ah nar := by rw [hdr_len]; rfl
    have h1 : data.drop (pos + ah nar) = e.data ++ (bodyL nar l ++ t) := by
      rw [← List.drop_drop, h, hbody, List.append_assoc, ← hah, List.drop_left, List.append_assoc]
    have h2 : data.drop (pos + ah nar + e.data.length) = bodyL nar l ++ t := by
      rw [← List.drop_drop, h1, List.drop_left]
    simp only [mkSpots, List.map_cons]
    rw [mk_at l _ t h2]
    congr 1
    unfold elemAt
    simp only [Int.toNat_natCast]
    rw [h1, List.take_left]
theorem bodyL_oct {nar : Bool} {l : List Elem} (hg : GoodE l) (hf : ∀ e, e ∈ l → FitE e) (hn : nar = true → ∀ e, e ∈ l → Nar e) : oct (bodyL nar l) := by
  intro x hx
  obtain ⟨e, he, hx⟩ := List.mem_flatMap.1 hx
  have hfe := hf e he
  unfold FitE at hfe
  rcases List.mem_append.1 hx with hx | hx
  · unfold hdr at hx
    cases nar with
    | true =>
      have := hn rfl e he
      unfold Nar at this
      simp at hx; omega
    | false => simp at hx; omega
  · exact hg.d e he x hx
theorem fill_oct {b : List Int} (h : oct b) : oct (fill4 b) := by
  intro x hx
  rcases List.mem_append.1 hx with hx | hx
  · exact h x hx
  · rw [List.eq_of_mem_replicate hx]; omega
theorem writeL_oct {l : List Elem} (hg : GoodE l) (hr : RightL l) : oct (writeL l) :=
  fill_oct (bodyL_oct hg hr.1 fun h => of_decide_eq_true h)
theorem narP_prof {l : List Elem} (hr : RightL l) : narP (profS l) = narB l := by
  have := prof_nar hr
  rw [cm_eql] at this
  exact this
theorem spots_write {l : List Elem} (hr : RightL l) (t : List Int) : spotsS (profS l) (bodyL (narB l) l ++ List.replicate t.length 0) = (mkSpots (narB l) 0 l, 0) := by
  have hp : profOf (profS l) = if narB l then .nar else .wide := by
    unfold profOf profS narB
    rw [if_pos hr]
    by_cases h : NarL l
    · rw [if_pos h, decide_eq_true h]; rfl
    · rw [if_neg h, decide_eq_false h]; rfl
  have key : ∀ nar : Bool, nar = narB l → spotsG nar ((bodyL nar l ++ List.replicate t.length 0).length + 1) 0 (bodyL nar l ++ List.replicate t.length 0) [] = (mkSpots nar 0 l, 0) := by
    rintro nar rfl
    obtain ⟨m, hm1, hm2⟩ := spots_fwd (nar := narB l) l _ 0 (List.replicate t.length 0) [] hr.1 (fun h => of_decide_eq_true h) (by simpa using hr.2) (Nat.lt_succ_self _)
    rw [hm2, spots_zeros _ _ _ _ (by simpa using hm1)]
    simp
  unfold spotsS
  rw [hp]
  cases h : narB l
  · exact key false h.symm
  · exact key true h.symm
theorem read_write {l : List Elem} (hr : RightL l) : readS (profS l) (writeL l) = (l, 0) := by
  have e : writeL l = bodyL (narB l) l ++ List.replicate (List.replicate (fillN (bodyL (narB l) l).length) (0 : Int)).length 0 := by unfold writeL fill4; simp
  unfold readS
  rw [e, spots_write hr]
  simp only []
  rw [mk_at (nar := narB l) l 0 _ rfl]

end Xb

set_option linter.all false
namespace Xb
open Go

theorem right_read {p : Int} {data : List Int} (hb : oct data) : RightL (readS p data).1 := by
  obtain ⟨i1, i2, i3⟩ := spotsS_inv (p := p) hb
  refine ⟨fun e he => ?_, ?_⟩
  · obtain ⟨s, hs, rfl⟩ := List.mem_map.1 he
    obtain ⟨a, q, h1, h2, h3, h4, h5, h6, h7, h8, h9⟩ := (i1 s hs).ex
    refine ⟨h6, h7, ?_⟩
    show ((data.drop s.at_.toNat).take s.size.toNat).length ≤ 255
    rw [List.length_take, h2]; omega
  · show (((spotsS p data).1.map (elemAt data)).map (·.id_)).Nodup
    rw [List.map_map]
    exact i2
theorem good_read {p : Int} {data : List Int} (hb : oct data) : GoodE (readS p data).1 := ⟨fun e he => by
  obtain ⟨s, hs, rfl⟩ := List.mem_map.1 he
  intro x hx
  exact hb x (List.mem_of_mem_drop (List.mem_of_mem_take hx))⟩
theorem octs {l : List Int} (h : l.length ≤ maxLen ∧ ∀ x, x ∈ l → inK .u8 x) : oct l := fun x hx => in_u8.1 (h.2 x hx)
theorem goodE_of {l : List Elem} (h : l.length ≤ maxLen ∧ ∀ x, x ∈ l → wf_Elem x) : GoodE l := ⟨fun e he => octs (h.2 e he).2⟩
theorem len_read {p : Int} {data : List Int} : (readS p data).1.length ≤ data.length := by
  unfold readS
  rw [List.length_map]
  exact spotsS_len
theorem short_read {p : Int} {data : List Int} (hb : oct data) (hl : (readS p data).1.length ≤ 300) : ShortL (readS p data).1 :=
  ⟨hl, fun e he => by have := (right_read (p := p) hb).1 e he; unfold FitE at this; omega⟩
/-- no two alike of 255: not more than 255 -/
theorem right_len {l : List Elem} (h : RightL l) : l.length ≤ 255 := by
  have h2 : l.map (·.id_) ⊆ (List.range 255).map (fun n : Nat => ((n : Int) + 1)) := by
    intro x hx
    obtain ⟨a, ha, rfl⟩ := List.mem_map.1 hx
    have h1 := h.1 a ha
    unfold FitE at h1
    exact List.mem_map.2 ⟨a.id_.toNat - 1, List.mem_range.2 (by omega), by omega⟩
  have := List.Nodup.length_le_of_subset h.2 h2
  simpa using this
theorem short_read' {p : Int} {data : List Int} (hb : oct data) : ShortL (readS p data).1 :=
  short_read hb (by have := right_len (right_read (p := p) hb); omega)
theorem write_len {l : List Elem} (hr : RightL l) : (writeL l).length ≤ 80000 ∧ (writeL l).length % 4 = 0 := by
  have h1 := right_len hr
  have h2 := bodyL_len (nar := narB l) (l := l) fun e he => by have := hr.1 e he; unfold FitE at this; omega
  have h3 : (writeL l).length = (bodyL (narB l) l).length + fillN (bodyL (narB l) l).length := by unfold writeL fill4; simp
  rw [h3]
  have : fillN (bodyL (narB l) l).length ≤ 3 := by unfold fillN; omega
  have : 402 * l.length ≤ 80000 ∨ True := .inr trivial
  refine ⟨?_, by unfold fillN; omega⟩
  have h4 : (bodyL (narB l) l).length ≤ 257 * l.length := by
    have key : ∀ (m : List Elem), (∀ e, e ∈ m → e.data.length ≤ 255) → (bodyL (narB l) m).length ≤ 257 * m.length := by
      intro m
      induction m with
      | nil => intro _; simp [bodyL]
      | cons a m ih =>
        intro h
        have := ih fun e he => h e (by simp [he])
        have := h a (by simp)
        simp only [bodyL, List.flatMap_cons, List.length_append, encE, hdr_len, List.length_cons] at *
        split <;> omega
    exact key l fun e he => by have := hr.1 e he; unfold FitE at this; omega
  omega
theorem prof_in (l : List Elem) : 0 ≤ profS l ∧ profS l ≤ 65535 := by
  unfold profS
  split
  · split <;> omega
  · omega
theorem read_back {l : List Elem} (hg : GoodE l) (hr : RightL l) : elem_Read none (profS l) (writeL l) = some (l, 0) := by
  have := (write_len hr).1
  rw [eread_eq (prof_in l).1 (prof_in l).2 (writeL_oct hg hr) (by omega), read_write hr]
def bodyP (nar : Bool) (L : List (Nat × Elem)) : List Int := L.flatMap fun x => List.replicate x.1 0 ++ encE nar x.2
def mkP (nar : Bool) : Nat → List (Nat × Elem) → List Spot
  | _, [] => []
  | pos, x :: L => ⟨x.2.id_, ((pos + x.1 + ah nar : Nat) : Int), (x.2.data.length : Int)⟩ :: mkP nar (pos + x.1 + ah nar + x.2.data.length) L
theorem spots_skip {nar : Bool} : ∀ (k n pos : Nat) (r : List Int) (out : List Spot), k ≤ n → spotsG nar (n) pos (List.replicate k 0 ++ r) out = spotsG nar (n - k) (pos + k) r out
  | 0, n, pos, r, out, _ => by simp
  | k + 1, 0, _, _, _, h => by omega
  | k + 1, n + 1, pos, r, out, h => by
    have e : spotsG nar (n + 1) pos (0 :: (List.replicate k 0 ++ r)) out = spotsG nar n (pos + 1) (List.replicate k 0 ++ r) out := by
      cases hh : List.replicate k 0 ++ r <;> cases nar <;> simp [spotsG]
    rw [List.replicate_succ, List.cons_append, e, spots_skip k n (pos + 1) r out (by omega)]
    congr 1 <;> omega
theorem encE_len (nar : Bool) (e : Elem) : (encE nar e).length = ah nar + e.data.length := by
  unfold encE ah; rw [List.length_append, hdr_len]
theorem bodyP_cons (nar : Bool) (x : Nat × Elem) (L : List (Nat × Elem)) : bodyP nar (x :: L) = List.replicate x.1 0 ++ (encE nar x.2 ++ bodyP nar L) := by simp [bodyP]
theorem spots_fwdP {nar : Bool} : ∀ (L : List (Nat × Elem)) (n pos : Nat) (t : List Int) (out : List Spot), (∀ x, x ∈ L → FitE x.2) → (nar = true → ∀ x, x ∈ L → Nar x.2) → (out.map (·.id_) ++ L.map (·.2.id_)).Nodup → (bodyP nar L ++ t).length < n →
    ∃ m, t.length < m ∧ spotsG nar n pos (bodyP nar L ++ t) out = spotsG nar m (pos + (bodyP nar L).length) t (out ++ mkP nar pos L)
  | [], n, pos, t, out, _, _, _, hn => ⟨n, by simpa [bodyP] using hn, by simp [bodyP, mkP]⟩
  | x :: L, n, pos, t, out, hf, hna, hd, hn => by
    have hlen : (bodyP nar (x :: L) ++ t).length = x.1 + (ah nar + x.2.data.length) + (bodyP nar L ++ t).length := by
      rw [bodyP_cons]; simp only [List.length_append, List.length_replicate, encE_len]; omega
    rw [hlen] at hn
    have hsplit : bodyP nar (x :: L) ++ t = List.replicate x.1 0 ++ (bodyL nar [x.2] ++ (bodyP nar L ++ t)) := by
      rw [bodyP_cons]; simp [bodyL]
    have hd1 : (out.map (·.id_) ++ [x.2].map (·.id_)).Nodup := by
      have : (out.map (·.id_) ++ (x :: L).map (·.2.id_)) = (out.map (·.id_) ++ [x.2].map (·.id_)) ++ L.map (·.2.id_) := by simp
      rw [this, List.nodup_append] at hd
      exact hd.1
    obtain ⟨m1, h1, h2⟩ := spots_fwd (nar := nar) [x.2] (n - x.1) (pos + x.1) (bodyP nar L ++ t) out (fun e he => by rw [List.mem_singleton.1 he]; exact hf x (by simp)) (fun h e he => by rw [List.mem_singleton.1 he]; exact hna h x (by simp)) hd1 (by
      have : (bodyL nar [x.2]).length = ah nar + x.2.data.length := by simp [bodyL, encE_len]
      rw [List.length_append, this]; omega)
    have hbl : (bodyL nar [x.2]).length = ah nar + x.2.data.length := by simp [bodyL, encE_len]
    obtain ⟨m, h3, h4⟩ := spots_fwdP L m1 (pos + x.1 + ah nar + x.2.data.length) t (out ++ mkSpots nar (pos + x.1) [x.2]) (fun y hy => hf y (by simp [hy])) (fun h y hy => hna h y (by simp [hy])) (by simpa [mkSpots] using hd) h1
    refine ⟨m, h3, ?_⟩
    rw [hsplit, spots_skip _ _ _ _ _ (by omega), h2, hbl]
    have ep : pos + x.1 + (ah nar + x.2.data.length) = pos + x.1 + ah nar + x.2.data.length := by omega
    rw [ep, h4]
    have el : (bodyP nar (x :: L)).length = x.1 + (ah nar + x.2.data.length) + (bodyP nar L).length := by
      rw [bodyP_cons]; simp only [List.length_append, List.length_replicate, encE_len]; omega
    rw [el]
    congr 1
    · omega
    · simp [mkP, mkSpots]
theorem mkP_at {nar : Bool} {data : List Int} : ∀ (L : List (Nat × Elem)) (pos : Nat) (t : List Int), data.drop pos = bodyP nar L ++ t → (mkP nar pos L).map (elemAt data) = L.map (·.2)
  | [], _, _, _ => rfl
  | x :: L, pos, t, h => by
    have hah : (hdr nar x.2).length = ah nar := by rw [hdr_len]; rfl
    have h0 : data.drop (pos + x.1) = encE nar x.2 ++ (bodyP nar L ++ t) := by
      rw [← List.drop_drop, h, bodyP_cons, List.append_assoc, List.append_assoc]
      exact List.drop_left' (by simp)
    have h1 : data.drop (pos + x.1 + ah nar) = x.2.data ++ (bodyP nar L ++ t) := by
      rw [← List.drop_drop, h0]
      unfold encE
      rw [List.append_assoc]
      exact List.drop_left' hah
    have h2 : data.drop (pos + x.1 + ah nar + x.2.data.length) = bodyP nar L ++ t := by
      rw [← List.drop_drop, h1, List.drop_left]
    simp only [mkP, List.map_cons]
    rw [mkP_at L _ t h2]
    congr 1
    unfold elemAt
    simp only [Int.toNat_natCast]
    rw [h1, List.take_left]
theorem bodyP_take (nar : Bool) (L : List (Nat × Elem)) (i : Nat) (hi : i < L.length) : bodyP nar (L.take (i + 1)) = bodyP nar (L.take i) ++ (List.replicate L[i].1 0 ++ encE nar L[i].2) := by
  simp only [bodyP]
  rw [List.take_add_one, List.getElem?_eq_getElem hi, Option.toList_some, List.flatMap_append, List.flatMap_singleton]
theorem bodyP_len {nar : Bool} : ∀ {L : List (Nat × Elem)}, (∀ x, x ∈ L → x.1 ≤ 8 ∧ x.2.data.length ≤ 255) → (bodyP nar L).length ≤ 265 * L.length
  | [], _ => by simp [bodyP]
  | a :: L, h => by
    have ih := bodyP_len (nar := nar) (L := L) fun e he => h e (by simp [he])
    have := h a (by simp)
    have ha : ah nar ≤ 2 := by unfold ah; split <;> omega
    rw [bodyP_cons, List.length_append, List.length_append, List.length_replicate, encE_len, List.length_cons]
    omega
theorem bodyP_oct {nar : Bool} {L : List (Nat × Elem)} (hg : ∀ x, x ∈ L → oct x.2.data) (hf : ∀ x, x ∈ L → FitE x.2) (hn : nar = true → ∀ x, x ∈ L → Nar x.2) : oct (bodyP nar L) := by
  intro y hy
  obtain ⟨x, hx, hy⟩ := List.mem_flatMap.1 hy
  rcases List.mem_append.1 hy with hy | hy
  · rw [List.eq_of_mem_replicate hy]; omega
  · exact bodyL_oct (nar := nar) (l := [x.2]) ⟨fun e he => by rw [List.mem_singleton.1 he]; exact hg x hx⟩ (fun e he => by rw [List.mem_singleton.1 he]; exact hf x hx) (fun h e he => by rw [List.mem_singleton.1 he]; exact hn h x hx) y (by simpa [bodyL] using hy)

end Xb

set_option linter.all false
namespace Xb
open Go

theorem IndexFunc_eq {l : List Int} {f : Int → Option Bool} {p : Int → Bool} (hl : l.length ≤ 100000000) (h : ∀ x, x ∈ l → f x = some (p x)) :
    slices_IndexFunc_int none l f = some (match l.findIdx? p with | some i => (i : Int) | none => -1) := by
  unfold slices_IndexFunc_int slices_IndexFunc_int_l1
  exact find_loop (step := fun (s : Int) => slices_IndexFunc_int_s1 none l f s) (p := p) (hit := fun i => (i : Int)) (miss := -1) (by
    simp only [slices_IndexFunc_int_s1, cm_lss, decide_eq_true_eq]
    rw [if_neg (by omega)]; rfl) (fun i hi => by
    simp only [slices_IndexFunc_int_s1, cm_lss, decide_eq_true_eq]
    rw [if_pos (by omega), bnd (ix_some rfl hi), bnd (h _ (List.getElem_mem hi))]
    by_cases hp : p l[i] = true
    · rw [if_pos hp, if_pos hp]; rfl
    · rw [if_neg hp, if_neg hp, ar_add, w_i64 (by omega) (by omega)]; rfl)
theorem ContainsFunc_eq {l : List Int} {f : Int → Option Bool} {p : Int → Bool} (hl : l.length ≤ 100000000) (h : ∀ x, x ∈ l → f x = some (p x)) :
    slices_ContainsFunc_int none l f = some (l.any p) := by
  unfold slices_ContainsFunc_int
  rw [bnd (IndexFunc_eq hl h), cm_geq]
  congr 1
  cases hf : l.findIdx? p with
  | none =>
    rw [List.findIdx?_eq_none_iff] at hf
    have : l.any p = false := by simpa using hf
    rw [this]; decide
  | some i =>
    rw [List.findIdx?_eq_some_iff_getElem] at hf
    obtain ⟨hi, hp, _⟩ := hf
    have : l.any p = true := List.any_eq_true.2 ⟨l[i], List.getElem_mem hi, hp⟩
    rw [this]; simp
theorem Contains_eq {l : List Int} {v : Int} (hl : l.length ≤ 100000000) : slices_Contains none l v = some (decide (v ∈ l)) := by
  unfold slices_Contains slices_Index slices_Index_l1
  have h := find_loop (l := l) (step := fun (s : Int) => slices_Index_s1 none l v s) (p := fun x => decide (v = x)) (hit := fun i => (i : Int)) (miss := -1) (by
    simp only [slices_Index_s1, cm_lss, decide_eq_true_eq]
    rw [if_neg (by omega)]; rfl) (fun i hi => by
    simp only [slices_Index_s1, cm_lss, decide_eq_true_eq]
    rw [if_pos (by omega), bnd (ix_some rfl hi), cm_eql]
    by_cases hp : v = l[i]
    · rw [if_pos (by simpa using hp), if_pos hp]; rfl
    · rw [if_neg (by simpa using hp), if_neg hp, ar_add, w_i64 (by omega) (by omega)]; rfl)
  rw [bnd h, cm_geq]
  congr 1
  cases hf : l.findIdx? (fun x => decide (v = x)) with
  | none =>
    rw [List.findIdx?_eq_none_iff] at hf
    have : ¬ v ∈ l := fun hm => by simpa using hf v hm
    simp [this]
  | some i =>
    rw [List.findIdx?_eq_some_iff_getElem] at hf
    obtain ⟨hi, hp, _⟩ := hf
    have : v ∈ l := by simp only [decide_eq_true_eq] at hp; rw [hp]; exact List.getElem_mem hi
    simp [this]
theorem takeWhile_findIdx {p : Int → Bool} : ∀ l : List Int, (l.takeWhile fun x => !p x).length = (l.findIdx? p).getD l.length
  | [] => rfl
  | x :: l => by
    rw [List.findIdx?_cons]
    by_cases h : p x = true
    · simp [List.takeWhile_cons, h]
    · have ih := takeWhile_findIdx (p := p) l
      simp only [Bool.not_eq_true] at h
      simp only [List.takeWhile_cons, h, Bool.not_false, if_true, List.length_cons, ih]
      cases List.findIdx? p l <;> simp

end Xb

set_option linter.all false
namespace Xb
open Go

theorem concatI_eq {ss : List (List Int)} (h1 : ss.length ≤ 1000) (h2 : ss.flatten.length ≤ 100000000) : slices_Concat_int none ss = some ss.flatten := by
  have hle : ∀ i, (ss.take i).flatten.length ≤ ss.flatten.length := fun i => by
    have : ss.flatten = (ss.take i).flatten ++ (ss.drop i).flatten := by rw [← List.flatten_append, List.take_append_drop]
    rw [this]; simp
  have hsucc : ∀ i (h : i < ss.length), (ss.take (i + 1)).flatten = (ss.take i).flatten ++ ss[i] := fun i h => by
    rw [List.take_add_one, List.getElem?_eq_getElem h]
    simp only [Option.toList_some, List.flatten_append, List.flatten_cons, List.flatten_nil, List.append_nil]
  unfold slices_Concat_int slices_Concat_int_l1
  have := loop_seq (step := fun (s : Int × Int) => slices_Concat_int_s1 none ss s.1 s.2) (r := ss.flatten) (fun i => (((ss.take i).flatten.length : Int), (i : Int))) ss.length (fun i hi => by
    have a := hle (i + 1)
    have b := hsucc i hi
    rw [b] at a
    simp only [List.length_append] at a
    have c := congrArg List.length b
    simp only [List.length_append] at c
    simp only [slices_Concat_int_s1, slices_Concat_int_j2, cm_lss, decide_eq_true_eq]
    rw [if_pos (by omega), bnd (ix_some rfl hi), ar_add, w_i64 (by omega) (by omega), if_neg (by omega), ar_add, w_i64 (by omega) (by omega), c]
    simp) (by
    simp only [slices_Concat_int_s1, cm_lss, decide_eq_true_eq]
    have hg : growL (((ss.take ss.length).flatten.length : Nat) : Int) = some () := by
      have := hle ss.length
      simp only [growL]
      rw [if_pos (by omega)]
    rw [if_neg (by omega), bnd hg]
    unfold slices_Concat_int_l3
    have := loop_seq (step := fun (s : List Int × Int) => slices_Concat_int_s3 none ss s.1 s.2) (r := ss.flatten) (fun i => ((ss.take i).flatten, (i : Int))) ss.length (fun i hi => by
      have a := hle (i + 1)
      have b := hsucc i hi
      rw [b] at a
      simp only [List.length_append] at a
      simp only [slices_Concat_int_s3, cm_lss, decide_eq_true_eq]
      rw [if_pos (by omega), bnd (ix_some rfl hi), bnd (app_some (by omega)), ar_add, w_i64 (by omega) (by omega), b]
      simp) (by
      simp only [slices_Concat_int_s3, cm_lss, decide_eq_true_eq]
      rw [if_neg (by omega)]
      simp)
    have h0 : (ss.take 0).flatten = ([] : List Int) := by simp
    rw [h0] at this
    have this' : loopG none (fun (s : List Int × Int) => slices_Concat_int_s3 none ss s.1 s.2) (([] : List Int), (0 : Int)) = some ss.flatten := this
    rw [this']; rfl)
  simpa using this

end Xb

set_option linter.all false
namespace Xb
open Go

theorem samePs {a : Packet} (hl : a.head.csrc.length ≤ 1000000) : ref06_Same none a a = some true := by
  have hb : ∀ x : Bool, bq .eql x x = true := by decide
  have hc : ∀ x : Int, cm .eql x x = true := fun x => by rw [cm_eql]; simp
  have hn : ref05_Numbers none a.head.csrc a.head.csrc = some true := by
    unfold ref05_Numbers
    rw [if_neg (by rw [cm_neq]; simp)]
    unfold ref05_Numbers_l1
    have := find_loop (l := a.head.csrc) (step := fun s => ref05_Numbers_s1 none a.head.csrc a.head.csrc s) (p := fun _ => false) (hit := fun _ => false) (miss := true) (by
      show ref05_Numbers_s1 none _ _ _ = _
      unfold ref05_Numbers_s1
      rw [if_neg (by rw [cm_lss]; simp)]; rfl) (fun i hi => by
      show ref05_Numbers_s1 none _ _ (i : Int) = _
      unfold ref05_Numbers_s1
      rw [if_pos (by rw [cm_lss]; simpa using hi), bnd (ix_some (n := i) rfl hi), bnd (ix_some (n := i) rfl hi), if_neg (by rw [cm_neq]; simp), if_neg (by decide), ar_add, w_i64 (by omega) (by omega)]
      rfl)
    rw [this]
    congr 1
    have : a.head.csrc.findIdx? (fun _ => false) = none := by rw [List.findIdx?_eq_none_iff]; intros; rfl
    rw [this]
  unfold ref06_Same ref05_Same
  simp only [hb, hc, Bool.and_self, gTT]
  rw [hn]
  simp only [Option.bind_some, Bool.and_self, sc_self]
/-- what a packet's being right hangs on -/
theorem right_cong {a b : Packet} (h1 : head_Right a.head = head_Right b.head) (h2 : a.head.hasExt = b.head.hasExt) (h3 : a.head.hasPad = b.head.hasPad) (h4 : a.head.csrc = b.head.csrc) (h5 : a.profile = b.profile) (h6 : a.ext = b.ext) (h7 : a.payload = b.payload) (h8 : a.pad = b.pad) :
    packet_Right a = packet_Right b := by
  unfold packet_Right packet_extended packet_padded packet_total head_Size
  rw [h1, h2, h3, h4, h5, h6, h7, h8]
theorem right_parts {a : Packet} (h : packet_Right a = true) : head_Right a.head = true ∧ a.head.csrc.length ≤ 15 ∧ a.payload.length ≤ 65535 ∧ (0 ≤ a.head.type ∧ a.head.type ≤ 127) := by
  unfold packet_Right at h
  simp only [Bool.and_eq_true, cm_leq, decide_eq_true_eq] at h
  have h1 := h.1.1.1.1
  unfold head_Right at h1
  simp only [Bool.and_eq_true, cm_leq, cm_geq, decide_eq_true_eq] at h1
  refine ⟨h.1.1.1.1, by omega, by omega, h1.1.1, h1.1.2⟩
theorem head_right {h : Head} (h1 : 0 ≤ h.type) (h2 : h.type ≤ 127) (h3 : h.csrc.length ≤ 15) : head_Right h = true := by
  unfold head_Right
  simp only [Bool.and_eq_true, cm_leq, cm_geq, decide_eq_true_eq]
  omega
/-- single numbers -/
def OneP (p : Plan) : Prop := p.maps = [] ∧ p.over = [] ∧ p.drops = [] ∧ p.adds = []
def behS (p : Plan) (k : Packet) : Packet :=
  { k with head := { k.head with hasPad := if p.noPad then false else k.head.hasPad, marker := if p.setMarker then p.marker else k.head.marker, type := if p.setType then p.type else k.head.type, seq := if p.setSeq then p.seq else k.head.seq, time := if p.setTime then p.time else k.head.time, ssrc := if p.setSsrc then p.ssrc else k.head.ssrc }, pad := if p.noPad then 0 else k.pad }
theorem set_eq (p : Plan) (h : Head) : plan_set p h = { h with marker := if p.setMarker then p.marker else h.marker, type := if p.setType then p.type else h.type, seq := if p.setSeq then p.seq else h.seq, time := if p.setTime then p.time else h.time, ssrc := if p.setSsrc then p.ssrc else h.ssrc } := by
  obtain ⟨q1, q2, q3, q4, q5, q6, q7, q8, q9, q10, q11, q12, q13, q14, q15⟩ := p
  unfold plan_set plan_set_j1 plan_set_j2 plan_set_j3 plan_set_j4 plan_set_j5
  cases q1 <;> cases q3 <;> cases q5 <;> cases q7 <;> cases q9 <;> rfl
theorem oneRight {p : Plan} (h : OneP p) : plan_Right none p = some (plan_single p) := by
  obtain ⟨h1, h2, h3, h4⟩ := h
  have i1 : plan_ids_Map_f0 none [] = some [] := by
    unfold plan_ids_Map_f0 plan_ids_Map_f0_l1
    refine loop_inr ?_
    unfold plan_ids_Map_f0_s1; rw [if_neg (by decide)]; rfl
  have i2 : plan_ids_Map_f1 none [] = some [] := by
    unfold plan_ids_Map_f1 plan_ids_Map_f1_l1
    refine loop_inr ?_
    unfold plan_ids_Map_f1_s1; rw [if_neg (by decide)]; rfl
  have i3 : plan_ids_Elem_f0 none [] = some [] := by
    unfold plan_ids_Elem_f0 plan_ids_Elem_f0_l1
    refine loop_inr ?_
    unfold plan_ids_Elem_f0_s1; rw [if_neg (by decide)]; rfl
  have i4 : plan_apart none [] = some true := by
    unfold plan_apart plan_apart_l1
    refine loop_inr ?_
    unfold plan_apart_s1; rw [if_neg (by decide)]; rfl
  have i5 : elem_Right none [] = some true := by
    unfold elem_Right elem_Right_l1
    refine loop_inr ?_
    unfold elem_Right_s1; rw [if_neg (by decide)]; rfl
  have i6 : ∀ f, slices_ContainsFunc_int none [] f = some false := fun f => by
    unfold slices_ContainsFunc_int slices_IndexFunc_int slices_IndexFunc_int_l1
    have : loopG none (fun (s : Int) => slices_IndexFunc_int_s1 none [] f s) 0 = some (-1) := by
      refine loop_inr ?_
      unfold slices_IndexFunc_int_s1; rw [if_neg (by decide)]; rfl
    rw [bnd this]; rfl
  unfold plan_Right
  rw [h1, h2, h3, h4]
  cases hs : plan_single p with
  | false => simp only [Bool.not_false, Bool.not_true, gTF, Option.bind_some, Bool.true_or, if_true]
  | true =>
    simp only [Bool.not_true, Bool.not_false, gTT, i1, Option.bind_some, i4, Bool.or_self, i2, i5]
    rw [if_neg (by decide), i3]
    simp only [Option.bind_some]
    rw [bnd (app_some (by simp))]
    rw [bnd (i6 _)]; rfl
theorem clone_eq {l : List Int} (h : l.length ≤ 4294967296) : slices_Clone l = some l := by
  unfold slices_Clone; rw [app_some (by simpa using h)]; rfl
theorem clone2_eq {l : List Int} (h : l.length ≤ 4294967296) : slices_Clone2 l = some l := by
  unfold slices_Clone2; rw [app_some (by simpa using h)]; rfl
theorem own_eq {k : Packet} (h1 : k.head.csrc.length ≤ 4294967296) (h2 : k.ext.length ≤ 4294967296) (h3 : k.payload.length ≤ 4294967296) : plan_own k = some k := by
  unfold plan_own
  rw [bnd (clone2_eq h1), bnd (clone_eq h2), bnd (clone_eq h3)]
def zeroP : Packet := ⟨⟨false, false, false, 0, 0, 0, 0, []⟩, 0, [], [], 0⟩
theorem apply_one {p : Plan} (h : OneP p) {k : Packet} (h1 : k.head.csrc.length ≤ 4294967296) (h2 : k.ext.length ≤ 4294967296) (h3 : k.payload.length ≤ 4294967296) :
    plan_Apply none p k = some (if packet_Right k = true then (if plan_single p = true ∧ packet_Right (behS p k) = true then (behS p k, 0) else (zeroP, 9)) else (zeroP, 1)) := by
  have hE : plan_Elements p = false := by
    obtain ⟨h1, h2, h3, h4⟩ := h
    unfold plan_Elements plan_turns
    rw [h1, h2, h3, h4]; rfl
  have hb : plan_behind none p k = some (if packet_Right k = true ∧ plan_single p = true then (behS p k, packet_Right (behS p k)) else (k, false)) := by
    unfold plan_behind
    cases hr : packet_Right k with
    | false => simp only [Bool.not_false, Bool.not_true, gTF, Option.bind_some, Bool.true_or, if_true, Bool.false_eq_true, false_and, if_false]
    | true =>
      simp only [Bool.not_true, Bool.not_false, gTT, oneRight h, Option.bind_some, Bool.false_or]
      cases hs : plan_single p with
      | false => simp
      | true =>
        rw [if_neg (by decide), hE, if_neg (by decide), if_pos (by simp)]
        unfold plan_behind_j1 plan_behind_j2
        rw [set_eq]
        cases hn : p.noPad with
        | false =>
          rw [if_neg (by decide)]
          have : behS p k = { k with head := { k.head with marker := if p.setMarker then p.marker else k.head.marker, type := if p.setType then p.type else k.head.type, seq := if p.setSeq then p.seq else k.head.seq, time := if p.setTime then p.time else k.head.time, ssrc := if p.setSsrc then p.ssrc else k.head.ssrc } } := by
            unfold behS; rw [hn]; rfl
          rw [this, Bool.true_and]
        | true =>
          rw [if_pos rfl]
          have : behS p k = { k with head := { k.head with hasPad := false, marker := if p.setMarker then p.marker else k.head.marker, type := if p.setType then p.type else k.head.type, seq := if p.setSeq then p.seq else k.head.seq, time := if p.setTime then p.time else k.head.time, ssrc := if p.setSsrc then p.ssrc else k.head.ssrc }, pad := 0 } := by
            unfold behS; rw [hn]; rfl
          rw [this, Bool.true_and]
  unfold plan_Apply
  rw [bnd hb]
  cases hr : packet_Right k with
  | false => simp [zeroP]
  | true =>
    cases hs : plan_single p with
    | false => simp [zeroP]
    | true =>
      rw [if_pos (show true = true ∧ true = true from ⟨rfl, rfl⟩)]
      cases hq : packet_Right (behS p k) with
      | false => rfl
      | true =>
        have ho : plan_own (behS p k) = some (behS p k) := own_eq h1 h2 h3
        rw [if_neg (by decide), if_neg (show ¬ (!true) = true by decide)]
        simp only []
        rw [bnd ho]; rfl

end Xb

set_option linter.all false
namespace Xb
open Go

def ApartL (l : List Int) : Prop := (∀ x, x ∈ l → 1 ≤ x ∧ x ≤ 255) ∧ l.Nodup
instance (l : List Int) : Decidable (ApartL l) := inferInstanceAs (Decidable (_ ∧ _))
theorem snoc_take {α : Type} (l : List α) (i : Nat) (hi : i < l.length) : l.take (i + 1) = l.take i ++ [l[i]] := by
  rw [List.take_add_one, List.getElem?_eq_getElem hi]; rfl
theorem mlook_ones {l : List Int} {k : Int} : mgetD (l.reverse.map fun x => (x, (1 : Int))) k 0 = if k ∈ l then 1 else 0 := by
  have key : ∀ (m : List Int), mgetD (m.map fun x => (x, (1 : Int))) k 0 = if k ∈ m then 1 else 0 := by
    intro m
    unfold mgetD
    induction m with
    | nil => simp [mlook]
    | cons a m ih =>
      simp only [List.map_cons, mlook]
      by_cases h : a = k
      · rw [if_pos h]; simp [h]
      · rw [if_neg h, ih]
        simp [Ne.symm h]
  rw [key]
  simp
theorem apart_eq {l : List Int} (hl : l.length ≤ 1000000) : plan_apart none l = some (decide (ApartL l)) := by
  unfold plan_apart plan_apart_l1
  have key : ∀ m i, i + m = l.length → ApartL (l.take i) → loopG none (fun (s : (List (Int × Int)) × Int) => plan_apart_s1 none l s.1 s.2) ((l.take i).reverse.map (fun x => (x, (1 : Int))), (i : Int)) = some (decide (ApartL l)) := by
    intro m
    induction m with
    | zero =>
      intro i hi hr
      have e : i = l.length := by omega
      subst e
      rw [List.take_length] at hr ⊢
      refine loop_inr ?_
      show plan_apart_s1 none l _ _ = _
      unfold plan_apart_s1
      rw [if_neg (by rw [cm_lss]; simp), decide_eq_true hr]; rfl
    | succ m ih =>
      intro i hi hr
      have hil : i < l.length := by omega
      have hlen : ((l.take i).reverse.map fun x => (x, (1 : Int))).length ≤ 4294967296 := by simp; omega
      have hp : ∀ v, mputO ((l.take i).reverse.map fun x => (x, (1 : Int))) l[i] v = some ((l[i], v) :: (l.take i).reverse.map fun x => (x, (1 : Int))) := fun v => by unfold mputO; rw [if_pos hlen]
      have hg : ∀ v (m : List (Int × Int)), mgetD ((l[i], v) :: m) l[i] 0 = v := fun v m => by unfold mgetD; simp [mlook]
      by_cases h : (1 ≤ l[i] ∧ l[i] ≤ 255) ∧ l[i] ∉ l.take i
      · have step : plan_apart_s1 none l ((l.take i).reverse.map fun x => (x, (1 : Int))) (i : Int) = some (.inl ((l.take (i + 1)).reverse.map (fun x => (x, (1 : Int))), ((i + 1 : Nat) : Int))) := by
          unfold plan_apart_s1
          rw [if_pos (by rw [cm_lss]; simpa using hil), bnd (ix_some (n := i) rfl hil), mlook_ones, if_neg h.2, bnd (hp _), hg, if_neg (by
            have : ar .add .i64 0 1 = 1 := by decide
            rw [this, cm_lss, cm_gtr, cm_gtr]; simp; omega), ar_add, w_i64 (by omega) (by omega)]
          have : ar .add .i64 0 1 = 1 := by decide
          rw [snoc_take l i hil, List.reverse_append, List.reverse_singleton, List.singleton_append, List.map_cons, ar_add, w_i64 (by omega) (by omega)]
          rfl
        rw [loop_inl step]
        refine ih (i + 1) (by omega) ?_
        rw [snoc_take l i hil]
        refine ⟨fun x hx => ?_, nodup_snoc.2 ⟨hr.2, h.2⟩⟩
        rcases List.mem_append.1 hx with hx | hx
        · exact hr.1 x hx
        · rw [List.mem_singleton.1 hx]; exact h.1
      · refine loop_inr ?_
        show plan_apart_s1 none l ((l.take i).reverse.map fun x => (x, (1 : Int))) (i : Int) = _
        unfold plan_apart_s1
        have hn : ¬ ApartL l := by
          intro ha
          refine h ⟨ha.1 _ (List.getElem_mem hil), fun hm => ?_⟩
          have h2 : (l.take (i + 1)).Nodup := List.Sublist.nodup (List.take_sublist _ _) ha.2
          rw [snoc_take l i hil, nodup_snoc] at h2
          exact h2.2 hm
        rw [if_pos (by rw [cm_lss]; simpa using hil), bnd (ix_some (n := i) rfl hil), mlook_ones, bnd (hp _), hg, if_pos (by
          rw [cm_lss, cm_gtr, cm_gtr, ar_add]
          by_cases hm : l[i] ∈ l.take i
          · rw [if_pos hm, w_i64 (by omega) (by omega)]; simp
          · have : ¬ (1 ≤ l[i] ∧ l[i] ≤ 255) := fun h1 => h ⟨h1, hm⟩
            simp; omega), decide_eq_false hn]
        rfl
  have := key l.length 0 (by omega) ⟨by simp, by simp⟩
  simpa using this
theorem idsE_eq {l : List Elem} (hl : l.length ≤ 1000000) : plan_ids_Elem_f0 none l = some (l.map (·.id_)) := by
  unfold plan_ids_Elem_f0 plan_ids_Elem_f0_l1
  have := loop_seq (step := fun (s : List Int × Int) => plan_ids_Elem_f0_s1 none l s.1 s.2) (r := l.map (·.id_)) (fun i => ((l.take i).map (·.id_), (i : Int))) l.length (fun i hi => by
    show plan_ids_Elem_f0_s1 none l ((l.take i).map (·.id_)) (i : Int) = _
    unfold plan_ids_Elem_f0_s1 plan_ident
    rw [if_pos (by rw [cm_lss]; simpa using hi), bnd (ix_some (n := i) rfl hi), bnd (app_some (by simp; omega)), ar_add, w_i64 (by omega) (by omega), snoc_take l i hi, List.map_append]
    rfl) (by
    show plan_ids_Elem_f0_s1 none l _ _ = _
    unfold plan_ids_Elem_f0_s1
    rw [if_neg (by rw [cm_lss]; simp), List.take_length]; rfl)
  simpa using this
theorem idsF_eq {l : List GMap} (hl : l.length ≤ 1000000) : plan_ids_Map_f0 none l = some (l.map (·.from_)) := by
  unfold plan_ids_Map_f0 plan_ids_Map_f0_l1
  have := loop_seq (step := fun (s : List Int × Int) => plan_ids_Map_f0_s1 none l s.1 s.2) (r := l.map (·.from_)) (fun i => ((l.take i).map (·.from_), (i : Int))) l.length (fun i hi => by
    show plan_ids_Map_f0_s1 none l ((l.take i).map (·.from_)) (i : Int) = _
    unfold plan_ids_Map_f0_s1 plan_from
    rw [if_pos (by rw [cm_lss]; simpa using hi), bnd (ix_some (n := i) rfl hi), bnd (app_some (by simp; omega)), ar_add, w_i64 (by omega) (by omega), snoc_take l i hi, List.map_append]
    rfl) (by
    show plan_ids_Map_f0_s1 none l _ _ = _
    unfold plan_ids_Map_f0_s1
    rw [if_neg (by rw [cm_lss]; simp), List.take_length]; rfl)
  simpa using this
theorem idsT_eq {l : List GMap} (hl : l.length ≤ 1000000) : plan_ids_Map_f1 none l = some (l.map (·.to)) := by
  unfold plan_ids_Map_f1 plan_ids_Map_f1_l1
  have := loop_seq (step := fun (s : List Int × Int) => plan_ids_Map_f1_s1 none l s.1 s.2) (r := l.map (·.to)) (fun i => ((l.take i).map (·.to), (i : Int))) l.length (fun i hi => by
    show plan_ids_Map_f1_s1 none l ((l.take i).map (·.to)) (i : Int) = _
    unfold plan_ids_Map_f1_s1 plan_to
    rw [if_pos (by rw [cm_lss]; simpa using hi), bnd (ix_some (n := i) rfl hi), bnd (app_some (by simp; omega)), ar_add, w_i64 (by omega) (by omega), snoc_take l i hi, List.map_append]
    rfl) (by
    show plan_ids_Map_f1_s1 none l _ _ = _
    unfold plan_ids_Map_f1_s1
    rw [if_neg (by rw [cm_lss]; simp), List.take_length]; rfl)
  simpa using this
structure SmallP (p : Plan) : Prop where
  m : p.maps.length ≤ 300
  o : p.over.length ≤ 300
  d : p.drops.length ≤ 300
  a : p.adds.length ≤ 300
/-- whether a plan is right, as far as it is needed -/
theorem planRight {p : Plan} (h : SmallP p) : ∃ b, plan_Right none p = some b ∧ (b = true → ApartL (p.maps.map (·.from_)) ∧ RightL p.over ∧ RightL p.adds) := by
  have hm := h.m; have ho := h.o; have hd := h.d; have ha := h.a
  unfold plan_Right
  cases hs : plan_single p with
  | false => exact ⟨false, by simp only [Bool.not_false, Bool.not_true, gTF, Option.bind_some, Bool.true_or, if_true], fun h => by cases h⟩
  | true =>
    simp only [Bool.not_true, Bool.not_false, gTT]
    rw [idsF_eq (by omega)]
    simp only [Option.bind_some]
    rw [apart_eq (by simp; omega)]
    simp only [Option.bind_some, Bool.false_or]
    by_cases h1 : ApartL (p.maps.map (·.from_))
    · rw [decide_eq_true h1]
      simp only [Bool.not_true, Bool.not_false, gTT]
      rw [idsT_eq (by omega)]
      simp only [Option.bind_some]
      rw [apart_eq (by simp; omega)]
      simp only [Option.bind_some, Bool.false_or]
      by_cases h2 : ApartL (p.maps.map (·.to))
      · rw [decide_eq_true h2]
        simp only [Bool.not_true, Bool.not_false, gTT]
        rw [eright_eq (by omega)]
        simp only [Option.bind_some, Bool.false_or]
        by_cases h3 : RightL p.over
        · rw [decide_eq_true h3]
          simp only [Bool.not_true, Bool.not_false, gTT]
          rw [eright_eq (by omega)]
          simp only [Option.bind_some, Bool.false_or]
          by_cases h4 : RightL p.adds
          · rw [decide_eq_true h4]
            simp only [Bool.not_true, Bool.not_false, gTT]
            rw [apart_eq (by omega)]
            simp only [Option.bind_some, Bool.false_or]
            by_cases h5 : ApartL p.drops
            · rw [decide_eq_true h5]
              simp only [Bool.not_true]
              rw [if_neg (by decide), idsE_eq (by omega)]
              simp only [Option.bind_some]
              rw [bnd (app_some (by simp; omega)), bnd (ContainsFunc_eq (p := fun y => decide (y ∈ p.maps.map (·.from_) ++ p.over.map (·.id_))) (by omega) (fun x _ => by
                unfold plan_Right_1
                rw [bnd (Contains_eq (by simp; omega))]))]
              exact ⟨_, rfl, fun _ => ⟨h1, h3, h4⟩⟩
            · rw [decide_eq_false h5]
              exact ⟨false, rfl, fun h => by cases h⟩
          · rw [decide_eq_false h4]
            exact ⟨false, rfl, fun h => by cases h⟩
        · rw [decide_eq_false h3]
          exact ⟨false, rfl, fun h => by cases h⟩
      · rw [decide_eq_false h2]
        exact ⟨false, rfl, fun h => by cases h⟩
    · rw [decide_eq_false h1]
      exact ⟨false, rfl, fun h => by cases h⟩
def renS (p : Plan) (id : Int) : Int := match p.maps.find? (fun m => decide (m.from_ = id)) with | some m => m.to | none => id
def datS (p : Plan) (e : Elem) : List Int := match p.over.find? (fun y => decide (y.id_ = e.id_)) with | some y => y.data | none => e.data
def okS (p : Plan) (e : Elem) : Bool := match p.over.find? (fun y => decide (y.id_ = e.id_)) with | some y => decide (y.data.length = e.data.length) | none => true
def newS (p : Plan) (e : Elem) : Elem := ⟨renS p e.id_, datS p e⟩
theorem find_by {α β : Type} {l : List α} {q : α → Bool} {step : Int → Option (Int ⊕ β)} {hit : α → β} {miss : β} (hl : l.length ≤ 1000000) (h1 : ∀ i (hi : i < l.length), step (i : Nat) = if q l[i] = true then some (.inr (hit l[i])) else some (.inl (ar .add .i64 (i : Int) 1))) (h2 : step (l.length : Nat) = some (.inr miss)) :
    loopG none step 0 = some (match l.find? q with | some x => hit x | none => miss) := by
  have key : ∀ m i, i + m = l.length → loopG none step (i : Nat) = some (match (l.drop i).find? q with | some x => hit x | none => miss) := by
    intro m
    induction m with
    | zero =>
      intro i hi
      have e : i = l.length := by omega
      subst e
      rw [loop_inr h2, List.drop_length]; rfl
    | succ m ih =>
      intro i hi
      have hil : i < l.length := by omega
      have hs := h1 i hil
      rw [List.drop_eq_getElem_cons hil, List.find?_cons]
      cases hq : q l[i] with
      | true =>
        rw [hq, if_pos rfl] at hs
        rw [loop_inr hs]
      | false =>
        rw [hq, if_neg (by decide), ar_add, w_i64 (by omega) (by omega)] at hs
        rw [loop_inl hs]
        exact ih (i + 1) (by omega)
  have := key l.length 0 (by omega)
  simpa using this
theorem data_eq {p : Plan} (hl : p.over.length ≤ 300) (e : Elem) : plan_data none p e = some (datS p e, okS p e) := by
  unfold plan_data plan_data_l1
  rw [find_by (l := p.over) (q := fun y => decide (y.id_ = e.id_)) (hit := fun y => (y.data, decide (y.data.length = e.data.length))) (miss := (e.data, true)) (by omega) (fun i hi => by
    show plan_data_s1 none p e (i : Int) = _
    unfold plan_data_s1
    rw [if_pos (by rw [cm_lss]; simpa using hi), bnd (ix_some (n := i) rfl hi), cm_eql]
    by_cases h : p.over[i].id_ = e.id_
    · rw [if_pos (by simpa using h), if_pos (by simpa using h), cm_eql]
      simp; omega
    · rw [if_neg (by simpa using h), if_neg (by simpa using h)]) (by
    show plan_data_s1 none p e _ = _
    unfold plan_data_s1
    rw [if_neg (by rw [cm_lss]; simp)]; rfl)]
  unfold datS okS
  cases p.over.find? (fun y => decide (y.id_ = e.id_)) <;> rfl
theorem ren_eq {p : Plan} (hl : p.maps.length ≤ 300) (id : Int) : plan_renamed none p id = some (renS p id) := by
  unfold plan_renamed plan_renamed_l1
  rw [find_by (l := p.maps) (q := fun m => decide (m.from_ = id)) (hit := fun m => m.to) (miss := id) (by omega) (fun i hi => by
    show plan_renamed_s1 none p id (i : Int) = _
    unfold plan_renamed_s1
    rw [if_pos (by rw [cm_lss]; simpa using hi), bnd (ix_some (n := i) rfl hi), cm_eql]
    by_cases h : p.maps[i].from_ = id
    · rw [if_pos (by simpa using h), if_pos (by simpa using h)]; rfl
    · rw [if_neg (by simpa using h), if_neg (by simpa using h)]) (by
    show plan_renamed_s1 none p id _ = _
    unfold plan_renamed_s1
    rw [if_neg (by rw [cm_lss]; simp)]; rfl)]
  unfold renS
  cases p.maps.find? (fun m => decide (m.from_ = id)) <;> rfl
def keptS (p : Plan) (l : List Elem) : List Elem := l.filter fun e => !decide (e.id_ ∈ p.drops)
def wantS (p : Plan) (l : List Elem) : List Elem := (keptS p l).map (newS p) ++ p.adds
theorem left_eq {p : Plan} (h : SmallP p) {l : List Elem} (hl : l.length ≤ 300) :
    plan_left none p l = some (if (keptS p l).all (okS p) then (wantS p l, decide (ApartL ((wantS p l).map (·.id_)))) else ([], false)) := by
  have hm := h.m; have ho := h.o; have hd := h.d; have ha := h.a
  unfold plan_left plan_left_l1
  have key : ∀ m i, i + m = l.length → (keptS p (l.take i)).all (okS p) = true → loopG none (fun (s : List Elem × Int × Plan) => plan_left_s1 none l s.1 s.2.1 s.2.2) ((keptS p (l.take i)).map (newS p), (i : Int), p) = some (if (keptS p l).all (okS p) then (wantS p l, decide (ApartL ((wantS p l).map (·.id_)))) else ([], false)) := by
    intro m
    induction m with
    | zero =>
      intro i hi hok
      have e : i = l.length := by omega
      subst e
      rw [List.take_length] at hok ⊢
      refine loop_inr ?_
      show plan_left_s1 none l ((keptS p l).map (newS p)) (l.length : Int) p = _
      have hk : (keptS p l).length ≤ l.length := List.length_filter_le _ _
      unfold plan_left_s1
      rw [if_neg (by rw [cm_lss]; simp), bnd (app_some (by rw [List.length_map]; omega)), bnd (idsE_eq (by rw [List.length_append, List.length_map]; omega)), bnd (apart_eq (by simp; omega)), hok, if_pos rfl]
      rfl
    | succ m ih =>
      intro i hi hok
      have hil : i < l.length := by omega
      have hkt : keptS p (l.take (i + 1)) = keptS p (l.take i) ++ (if l[i].id_ ∈ p.drops then [] else [l[i]]) := by
        unfold keptS
        rw [snoc_take l i hil, List.filter_append]
        congr 1
        by_cases hx : l[i].id_ ∈ p.drops <;> simp [hx]
      have hk : (keptS p (l.take i)).length ≤ i := Nat.le_trans (List.length_filter_le _ _) (by rw [List.length_take]; omega)
      by_cases hx : l[i].id_ ∈ p.drops
      · have step : plan_left_s1 none l ((keptS p (l.take i)).map (newS p)) (i : Int) p = some (.inl ((keptS p (l.take (i + 1))).map (newS p), ((i + 1 : Nat) : Int), p)) := by
          unfold plan_left_s1 plan_left_j2
          rw [if_pos (by rw [cm_lss]; simpa using hil), bnd (ix_some (n := i) rfl hil), bnd (Contains_eq (by omega)), decide_eq_true hx, if_pos rfl, hkt, if_pos hx, List.append_nil, ar_add, w_i64 (by omega) (by omega)]
          rfl
        rw [loop_inl step]
        refine ih (i + 1) (by omega) ?_
        rw [hkt, if_pos hx, List.append_nil]; exact hok
      · by_cases ho' : okS p l[i] = true
        · have step : plan_left_s1 none l ((keptS p (l.take i)).map (newS p)) (i : Int) p = some (.inl ((keptS p (l.take (i + 1))).map (newS p), ((i + 1 : Nat) : Int), p)) := by
            unfold plan_left_s1 plan_left_j2
            rw [if_pos (by rw [cm_lss]; simpa using hil), bnd (ix_some (n := i) rfl hil), bnd (Contains_eq (by omega)), decide_eq_false hx, if_neg (by decide), bnd (data_eq (by omega) _), ho', if_neg (show ¬ (!true) = true by decide), bnd (ren_eq (by omega) _), bnd (app_some (by simp; omega)), hkt, if_neg hx, List.map_append, ar_add, w_i64 (by omega) (by omega)]
            rfl
          rw [loop_inl step]
          refine ih (i + 1) (by omega) ?_
          rw [hkt, if_neg hx, List.all_append, hok]; simp [ho']
        · refine loop_inr ?_
          show plan_left_s1 none l ((keptS p (l.take i)).map (newS p)) (i : Int) p = _
          have ho2 : okS p l[i] = false := by simpa using ho'
          have hall : (keptS p l).all (okS p) = false := by
            rw [List.all_eq_false]
            exact ⟨l[i], List.mem_filter.2 ⟨List.getElem_mem hil, by simp [hx]⟩, by simp [ho2]⟩
          unfold plan_left_s1
          rw [if_pos (by rw [cm_lss]; simpa using hil), bnd (ix_some (n := i) rfl hil), bnd (Contains_eq (by omega)), decide_eq_false hx, if_neg (by decide), bnd (data_eq (by omega) _), ho2, if_pos (show (!false) = true by decide), hall]
          rfl
  have := key l.length 0 (by omega) (by simp [keptS])
  simpa [keptS] using this

end Xb

set_option linter.all false
namespace Xb
open Go

theorem spotsT {n pos : Nat} {x : Int} {r : List Int} {out : List Spot} (h0 : x ≠ 0) : spotsG true (n + 1) pos (x :: r) out =
    if x / 16 = 0 ∨ x / 16 = 15 then (out, 0) else if r.length < (x % 16 + 1).toNat then ([], 4) else if dupS out (x / 16) then ([], 6)
      else spotsG true n (pos + 1 + (x % 16 + 1).toNat) (r.drop (x % 16 + 1).toNat) (out ++ [⟨x / 16, pos + 1, x % 16 + 1⟩]) := by
  cases r <;> simp [spotsG, h0]
theorem spotsF {n pos : Nat} {x s : Int} {r : List Int} {out : List Spot} (h0 : x ≠ 0) : spotsG false (n + 1) pos (x :: s :: r) out =
    if r.length < s.toNat then ([], 4) else if dupS out x then ([], 6) else spotsG false n (pos + 2 + s.toNat) (r.drop s.toNat) (out ++ [⟨x, pos + 2, s⟩]) := by
  simp [spotsG, h0]
theorem spotsF1 {n pos : Nat} {x : Int} {out : List Spot} (h0 : x ≠ 0) : spotsG false (n + 1) pos [x] out = ([], 4) := by
  simp [spotsG, h0]
/-- bytes whose elements could be read are these elements, with noughts ahead of each, and an end -/
theorem spots_dec {nar : Bool} : ∀ (n pos : Nat) (rest : List Int) (out : List Spot), rest.length < n → oct rest → (spotsG nar n pos rest out).2 = 0 →
    ∃ (L : List (Nat × Elem)) (t : List Int), rest = bodyP nar L ++ t ∧ (spotsG nar n pos rest out).1 = out ++ mkP nar pos L ∧ (∀ x, x ∈ L → FitE x.2 ∧ (nar = true → Nar x.2) ∧ oct x.2.data) ∧ ∀ m pos' out', t.length < m → spotsG nar m pos' t out' = (out', 0)
  | 0, _, _, _, h, _, _ => by omega
  | n + 1, pos, [], out, _, _, _ => by
    refine ⟨[], [], rfl, ?_, fun x hx => (List.not_mem_nil hx).elim, fun m pos' out' hm => ?_⟩
    · cases nar <;> simp [spotsG, mkP]
    · obtain ⟨m', rfl⟩ : ∃ m', m = m' + 1 := ⟨m - 1, by omega⟩
      cases nar <;> rfl
  | n + 1, pos, x :: r, out, hl, hb, he => by
    have hx := hb x (by simp)
    have hbr : oct r := fun y hy => hb y (by simp [hy])
    simp only [List.length_cons] at hl
    by_cases h0 : x = 0
    · subst h0
      have e : spotsG nar (n + 1) pos (0 :: r) out = spotsG nar n (pos + 1) r out := by
        cases r <;> cases nar <;> simp [spotsG]
      rw [e] at he ⊢
      obtain ⟨L, t, h1, h2, h3, h4⟩ := spots_dec n (pos + 1) r out (by omega) hbr he
      cases L with
      | nil =>
        refine ⟨[], 0 :: t, by rw [h1]; rfl, by rw [h2]; rfl, fun x hx => (List.not_mem_nil hx).elim, fun m pos' out' hm => ?_⟩
        obtain ⟨m', rfl⟩ : ∃ m', m = m' + 1 := ⟨m - 1, by simp at hm; omega⟩
        have e : spotsG nar (m' + 1) pos' (0 :: t) out' = spotsG nar m' (pos' + 1) t out' := by
          cases t <;> cases nar <;> simp [spotsG]
        rw [e]
        exact h4 m' _ _ (by simp at hm; omega)
      | cons y L =>
        refine ⟨(y.1 + 1, y.2) :: L, t, ?_, ?_, fun x hx => ?_, h4⟩
        · rw [h1, bodyP_cons, bodyP_cons, List.replicate_succ]; rfl
        · rw [h2]
          simp only [mkP]
          have e1 : pos + 1 + y.1 + ah nar = pos + (y.1 + 1) + ah nar := by omega
          rw [e1]
        · rcases List.mem_cons.1 hx with rfl | hx
          · exact h3 y (by simp)
          · exact h3 x (by simp [hx])
    · cases nar with
      | true =>
        rw [spotsT h0] at he ⊢
        by_cases h1 : x / 16 = 0 ∨ x / 16 = 15
        · rw [if_pos h1] at he ⊢
          refine ⟨[], x :: r, rfl, by simp [mkP], fun x hx => (List.not_mem_nil hx).elim, fun m pos' out' hm => ?_⟩
          obtain ⟨m', rfl⟩ : ∃ m', m = m' + 1 := ⟨m - 1, by simp at hm; omega⟩
          rw [spotsT h0, if_pos h1]
        · rw [if_neg h1] at he ⊢
          by_cases h2 : r.length < (x % 16 + 1).toNat
          · rw [if_pos h2] at he; cases he
          · rw [if_neg h2] at he ⊢
            by_cases h3 : dupS out (x / 16) = true
            · rw [if_pos h3] at he; cases he
            · rw [if_neg h3] at he ⊢
              obtain ⟨L, t, k1, k2, k3, k4⟩ := spots_dec n _ _ _ (by rw [List.length_drop]; omega) (fun y hy => hbr y (List.mem_of_mem_drop hy)) he
              have hq : (r.take (x % 16 + 1).toNat).length = (x % 16 + 1).toNat := by rw [List.length_take]; omega
              refine ⟨(0, ⟨x / 16, r.take (x % 16 + 1).toNat⟩) :: L, t, ?_, ?_, fun y hy => ?_, k4⟩
              · rw [bodyP_cons]
                have e : encE true ⟨x / 16, r.take (x % 16 + 1).toNat⟩ = x :: r.take (x % 16 + 1).toNat := by
                  unfold encE hdr
                  rw [if_pos rfl, hq]
                  show (16 * (x / 16) + ((x % 16 + 1).toNat : Int) - 1) :: _ = _
                  congr 1; omega
                rw [e]
                show x :: r = x :: (r.take _ ++ bodyP true L ++ t)
                rw [List.append_assoc, ← k1, List.take_append_drop]
              · rw [k2]
                have e1 : ah true = 1 := rfl
                have es : (⟨x / 16, (pos : Int) + 1, x % 16 + 1⟩ : Spot) = ⟨x / 16, ((pos + 0 + 1 : Nat) : Int), ((x % 16 + 1).toNat : Int)⟩ := by
                  rw [Spot.mk.injEq]; omega
                have ep : pos + 1 + (x % 16 + 1).toNat = pos + 0 + 1 + (x % 16 + 1).toNat := by omega
                simp only [mkP, hq, e1]
                rw [es, ep, List.append_assoc]
                rfl
              · rcases List.mem_cons.1 hy with rfl | hy
                · have hid : 1 ≤ x / 16 ∧ x / 16 ≤ 14 := by omega
                  exact ⟨⟨hid.1, Int.le_trans hid.2 (by decide), by show (r.take (x % 16 + 1).toNat).length ≤ 255; rw [hq]; omega⟩, fun _ => ⟨hid.2, by show 1 ≤ (r.take (x % 16 + 1).toNat).length; rw [hq]; omega, by show (r.take (x % 16 + 1).toNat).length ≤ 16; rw [hq]; omega⟩, fun z hz => hbr z (List.mem_of_mem_take hz)⟩
                · exact k3 y hy
      | false =>
        cases r with
        | nil =>
          rw [spotsF1 h0] at he
          cases he
        | cons s r' =>
          have hs := hb s (by simp)
          have hbr' : oct r' := fun y hy => hb y (by simp [hy])
          simp only [List.length_cons] at hl
          rw [spotsF h0] at he ⊢
          by_cases h2 : r'.length < s.toNat
          · rw [if_pos h2] at he; cases he
          · rw [if_neg h2] at he ⊢
            by_cases h3 : dupS out x = true
            · rw [if_pos h3] at he; cases he
            · rw [if_neg h3] at he ⊢
              obtain ⟨L, t, k1, k2, k3, k4⟩ := spots_dec n _ _ _ (by rw [List.length_drop]; omega) (fun y hy => hbr' y (List.mem_of_mem_drop hy)) he
              have hq : (r'.take s.toNat).length = s.toNat := by rw [List.length_take]; omega
              refine ⟨(0, ⟨x, r'.take s.toNat⟩) :: L, t, ?_, ?_, fun y hy => ?_, k4⟩
              · rw [bodyP_cons]
                have e : encE false ⟨x, r'.take s.toNat⟩ = x :: s :: r'.take s.toNat := by
                  unfold encE hdr
                  rw [if_neg (by decide), hq]
                  show x :: (s.toNat : Int) :: _ = _
                  congr 2; omega
                rw [e]
                show x :: s :: r' = x :: s :: (r'.take _ ++ bodyP false L ++ t)
                rw [List.append_assoc, ← k1, List.take_append_drop]
              · rw [k2]
                have e1 : ah false = 2 := rfl
                have es : (⟨x, (pos : Int) + 2, s⟩ : Spot) = ⟨x, ((pos + 0 + 2 : Nat) : Int), ((s.toNat : Nat) : Int)⟩ := by
                  rw [Spot.mk.injEq]; omega
                have ep : pos + 2 + s.toNat = pos + 0 + 2 + s.toNat := by omega
                simp only [mkP, hq, e1]
                rw [es, ep, List.append_assoc]
                rfl
              · rcases List.mem_cons.1 hy with rfl | hy
                · exact ⟨⟨by show 1 ≤ x; omega, by show x ≤ 255; omega, by show (r'.take s.toNat).length ≤ 255; rw [hq]; omega⟩, fun h => (by cases h), fun z hz => hbr' z (List.mem_of_mem_take hz)⟩
                · exact k3 y hy
theorem mkP_get {nar : Bool} : ∀ (L : List (Nat × Elem)) (pos i : Nat) (hi : i < L.length), (mkP nar pos L)[i]? = some ⟨L[i].2.id_, ((pos + (bodyP nar (L.take i)).length + L[i].1 + ah nar : Nat) : Int), (L[i].2.data.length : Int)⟩
  | [], _, _, h => by simp at h
  | x :: L, pos, 0, _ => by simp [mkP, bodyP]
  | x :: L, pos, i + 1, h => by
    have h' : i < L.length := by simpa using h
    have := mkP_get (nar := nar) L (pos + x.1 + ah nar + x.2.data.length) i h'
    simp only [mkP, List.getElem?_cons_succ, this, List.getElem_cons_succ]
    congr 2
    have : (bodyP nar ((x :: L).take (i + 1))).length = x.1 + (ah nar + x.2.data.length) + (bodyP nar (L.take i)).length := by
      rw [List.take_succ_cons, bodyP_cons, List.length_append, List.length_append, List.length_replicate, encE_len]; omega
    rw [this]; omega
theorem mkP_len {nar : Bool} : ∀ (L : List (Nat × Elem)) (pos : Nat), (mkP nar pos L).length = L.length
  | [], _ => rfl
  | x :: L, pos => by simp [mkP, mkP_len L]
theorem set_at {α : Type} (P Q : List α) (h x : α) : (P ++ h :: Q).set P.length x = P ++ x :: Q := by
  rw [List.set_append_right _ _ (Nat.le_refl _), Nat.sub_self]; rfl
theorem cpy_at {α : Type} {P d R q : List α} {a b : Int} (ha : a = P.length) (hb : b = (P.length + d.length : Nat)) (hq : q.length = d.length) : cpy (P ++ (d ++ R)) a b q = P ++ (q ++ R) := by
  subst ha; subst hb
  unfold cpy
  have e1 : ((P.length + d.length : Nat) : Int).toNat - (P.length : Int).toNat = d.length := by omega
  rw [e1, Int.toNat_natCast, List.take_of_length_le (show q.length ≤ d.length by omega), List.take_left, hq]
  have e2 : (P ++ (d ++ R)).drop (P.length + d.length) = R := by
    rw [← List.drop_drop, List.drop_left, List.drop_left]
  rw [e2, List.append_assoc]
theorem sub_mid {α : Type} {P d R : List α} {a b : Int} (ha : a = P.length) (hb : b = (P.length + d.length : Nat)) : sub (P ++ (d ++ R)) a b = some d := by
  subst ha; subst hb
  rw [sub_some (by omega) (by omega) (by simp only [List.length_append]; omega)]
  have e1 : ((P.length + d.length : Nat) : Int).toNat - (P.length : Int).toNat = d.length := by omega
  rw [e1, Int.toNat_natCast, List.drop_left, List.take_left]
theorem dataY_eq {p : Plan} (hl : p.over.length ≤ 300) {id a b : Int} {e : Elem} (hi : e.id_ = id) (hab : b.toNat - a.toNat = e.data.length) :
    plan_data_y1 none p id a b = some (match p.over.find? (fun y => decide (y.id_ = e.id_)) with | some y => (some y.data, okS p e) | none => (none, true)) := by
  subst hi
  unfold plan_data_y1 plan_data_y1_l1
  rw [find_by (l := p.over) (q := fun y => decide (y.id_ = e.id_)) (hit := fun y => (some y.data, decide (y.data.length = e.data.length))) (miss := (none, true)) (by omega) (fun i hi => by
    show plan_data_y1_s1 none p e.id_ a b (i : Int) = _
    unfold plan_data_y1_s1
    rw [if_pos (by rw [cm_lss]; simpa using hi), bnd (ix_some (n := i) rfl hi), cm_eql]
    by_cases h : p.over[i].id_ = e.id_
    · rw [if_pos (by simpa using h), if_pos (by simpa using h), cm_eql, hab]
      simp; omega
    · rw [if_neg (by simpa using h), if_neg (by simpa using h)]) (by
    show plan_data_y1_s1 none p e.id_ a b _ = _
    unfold plan_data_y1_s1
    rw [if_neg (by rw [cm_lss]; simp)]; rfl)]
  unfold okS
  cases p.over.find? (fun y => decide (y.id_ = e.id_)) <;> rfl
def newP (p : Plan) (x : Nat × Elem) : Nat × Elem := (x.1, newS p x.2)
theorem dat_len {p : Plan} {e : Elem} (h : okS p e = true) : (datS p e).length = e.data.length := by
  unfold okS at h; unfold datS
  cases hf : p.over.find? (fun y => decide (y.id_ = e.id_)) with
  | none => rfl
  | some y => rw [hf] at h; simpa using h
theorem bodyP_app {nar : Bool} (L M : List (Nat × Elem)) : bodyP nar (L ++ M) = bodyP nar L ++ bodyP nar M := by simp [bodyP]
theorem newP_len {nar : Bool} {p : Plan} : ∀ {L : List (Nat × Elem)}, (∀ x, x ∈ L → okS p x.2 = true) → (bodyP nar (L.map (newP p))).length = (bodyP nar L).length
  | [], _ => rfl
  | x :: L, h => by
    have ih := newP_len (nar := nar) (L := L) fun y hy => h y (by simp [hy])
    have hx := dat_len (h x (by simp))
    rw [List.map_cons, bodyP_cons, bodyP_cons, List.length_append, List.length_append, List.length_append, List.length_append, encE_len, encE_len, ih]
    simp only [newP, newS, List.length_replicate, hx]
theorem or_nib {x y : Int} (h0 : 0 ≤ x) (h1 : x ≤ 14) (h2 : 0 ≤ y) (h3 : y ≤ 255) : ar .or .u8 (IntKind.u8.wrap (sf .shl .i64 x 4)) (ar .and .u8 y 15) = 16 * x + y % 16 := by
  have key : ∀ a : Fin 15, ∀ b : Fin 256, ar .or .u8 (IntKind.u8.wrap (sf .shl .i64 (a.val : Int) 4)) (ar .and .u8 (b.val : Int) 15) = 16 * (a.val : Int) + (b.val : Int) % 16 := by decide +kernel
  have := key ⟨x.toNat, by omega⟩ ⟨y.toNat, by omega⟩
  have ex : ((x.toNat : Nat) : Int) = x := by omega
  have ey : ((y.toNat : Nat) : Int) = y := by omega
  simp only [ex, ey] at this
  exact this

end Xb

set_option linter.all false
namespace Xb
open Go

/-- half of the elements turned -/
def mixP (nar : Bool) (p : Plan) (L : List (Nat × Elem)) (t : List Int) (i : Nat) : List Int := bodyP nar ((L.take i).map (newP p)) ++ (bodyP nar (L.drop i) ++ t)
theorem mix_split {nar : Bool} {p : Plan} {L : List (Nat × Elem)} {t : List Int} {i : Nat} (hi : i < L.length) :
    mixP nar p L t i = (bodyP nar ((L.take i).map (newP p)) ++ List.replicate L[i].1 0) ++ (hdr nar L[i].2 ++ (L[i].2.data ++ (bodyP nar (L.drop (i + 1)) ++ t))) := by
  unfold mixP
  rw [List.drop_eq_getElem_cons hi, bodyP_cons]
  unfold encE
  simp only [List.append_assoc]
theorem mix_next {nar : Bool} {p : Plan} {L : List (Nat × Elem)} {t : List Int} {i : Nat} (hi : i < L.length) :
    mixP nar p L t (i + 1) = (bodyP nar ((L.take i).map (newP p)) ++ List.replicate L[i].1 0) ++ (hdr nar (newS p L[i].2) ++ (datS p L[i].2 ++ (bodyP nar (L.drop (i + 1)) ++ t))) := by
  unfold mixP
  rw [snoc_take L i hi, List.map_append, bodyP_app]
  have : bodyP nar ([L[i]].map (newP p)) = List.replicate L[i].1 0 ++ (hdr nar (newS p L[i].2) ++ datS p L[i].2) := by
    simp [bodyP, newP, encE, newS]
  rw [this]
  simp only [List.append_assoc]
structure InP (nar : Bool) (p : Plan) (L : List (Nat × Elem)) : Prop where
  fit : ∀ x, x ∈ L → FitE x.2 ∧ (nar = true → Nar x.2) ∧ oct x.2.data
  ok : ∀ x, x ∈ L → okS p x.2 = true
  ids : ∀ x, x ∈ L → 1 ≤ renS p x.2.id_ ∧ renS p x.2.id_ ≤ 255
/-- the data, copied into place -/
theorem inside_j2 {nar : Bool} {p : Plan} {L : List (Nat × Elem)} {t : List Int} {i : Nat} (hs : SmallP p) (hI : InP nar p L) (hi : i < L.length) (hiN : i ≤ 1000000) {s : Spot} {at_ : Nat} (hat : s.at_ = at_) (hsz : s.size = (L[i].2.data.length : Int)) (hid : s.id_ = L[i].2.id_)
    (hla : at_ = ((bodyP nar ((L.take i).map (newP p)) ++ List.replicate L[i].1 0) ++ hdr nar (newS p L[i].2)).length) (hbig : at_ ≤ 1000000) :
    plan_inside_j2 none (i : Int) p s ((bodyP nar ((L.take i).map (newP p)) ++ List.replicate L[i].1 0) ++ (hdr nar (newS p L[i].2) ++ (L[i].2.data ++ (bodyP nar (L.drop (i + 1)) ++ t)))) =
      some (.inl (mixP nar p L t (i + 1), ((i + 1 : Nat) : Int), p)) := by
  have hx := hI.fit _ (List.getElem_mem hi)
  have hd := hx.1.2.2
  have hok := hI.ok _ (List.getElem_mem hi)
  have hdl := dat_len hok
  have es : ar .add .i64 s.at_ s.size = ((at_ + L[i].2.data.length : Nat) : Int) := by rw [hat, hsz, ar_add, w_i64 (by omega) (by omega)]; rfl
  have ei : ar .add .i64 (i : Int) 1 = ((i + 1 : Nat) : Int) := by rw [ar_add, w_i64 (by omega) (by omega)]; rfl
  have ev : (bodyP nar ((L.take i).map (newP p)) ++ List.replicate L[i].1 0) ++ (hdr nar (newS p L[i].2) ++ (L[i].2.data ++ (bodyP nar (L.drop (i + 1)) ++ t))) = ((bodyP nar ((L.take i).map (newP p)) ++ List.replicate L[i].1 0) ++ hdr nar (newS p L[i].2)) ++ (L[i].2.data ++ (bodyP nar (L.drop (i + 1)) ++ t)) := by simp only [List.append_assoc]
  rw [mix_next hi, ev]
  unfold plan_inside_j2
  rw [es, ei, hid, hat]
  have hsub : sub (((bodyP nar ((L.take i).map (newP p)) ++ List.replicate L[i].1 0) ++ hdr nar (newS p L[i].2)) ++ (L[i].2.data ++ (bodyP nar (L.drop (i + 1)) ++ t))) (at_ : Int) ((at_ + L[i].2.data.length : Nat) : Int) = some L[i].2.data := sub_mid (by rw [hla]) (by rw [hla])
  rw [bnd hsub, bnd (dataY_eq hs.o (e := L[i].2) rfl (by omega))]
  have hcpy : ∀ q : List Int, q.length = L[i].2.data.length → cpy (((bodyP nar ((L.take i).map (newP p)) ++ List.replicate L[i].1 0) ++ hdr nar (newS p L[i].2)) ++ (L[i].2.data ++ (bodyP nar (L.drop (i + 1)) ++ t))) (at_ : Int) ((at_ + L[i].2.data.length : Nat) : Int) q = ((bodyP nar ((L.take i).map (newP p)) ++ List.replicate L[i].1 0) ++ hdr nar (newS p L[i].2)) ++ (q ++ (bodyP nar (L.drop (i + 1)) ++ t)) := fun q hq => cpy_at (by rw [hla]) (by rw [hla]) hq
  unfold datS at hdl ⊢
  cases hf : p.over.find? (fun y => decide (y.id_ = L[i].2.id_)) with
  | none =>
    simp only []
    rw [bnd hsub, hcpy _ rfl]
    simp only [List.append_assoc]
  | some y =>
    rw [hf] at hdl
    simp only []
    rw [bnd hsub, hcpy _ hdl]
    simp only [List.append_assoc]
theorem hdrl (nar : Bool) (e : Elem) : (hdr nar e).length = ah nar := by rw [hdr_len]; rfl
theorem inside_step {nar : Bool} {k : Packet} {p : Plan} {L : List (Nat × Elem)} {t : List Int} {i : Nat} (hk : k.profile = 48862 ↔ nar = true) (hs : SmallP p) (hI : InP nar p L) (hi : i < L.length) (hN : L.length ≤ 1000000) (hbig : (bodyP nar L ++ t).length ≤ 400000) :
    plan_inside_s1 none k (mkP nar 0 L, 0) (mixP nar p L t i) (i : Int) p = some (if nar = true ∧ 14 < renS p L[i].2.id_ then .inr ([], false) else .inl (mixP nar p L t (i + 1), ((i + 1 : Nat) : Int), p)) := by
  have hx := hI.fit _ (List.getElem_mem hi)
  have hf := hx.1
  unfold FitE at hf
  have hr := hI.ids _ (List.getElem_mem hi)
  have hlT : (bodyP nar ((L.take i).map (newP p))).length = (bodyP nar (L.take i)).length := newP_len fun y hy => hI.ok y (List.mem_of_mem_take hy)
  have hml : i < (mkP nar 0 L).length := by rw [mkP_len]; exact hi
  have hg := mkP_get (nar := nar) L 0 i hi
  have hS : (mkP nar 0 L)[i] = ⟨L[i].2.id_, ((0 + (bodyP nar (L.take i)).length + L[i].1 + ah nar : Nat) : Int), (L[i].2.data.length : Int)⟩ := by
    rw [List.getElem?_eq_getElem hml] at hg; exact Option.some.inj hg
  have hsp := mix_split (nar := nar) (p := p) (t := t) hi
  have hPl : (bodyP nar ((L.take i).map (newP p)) ++ List.replicate L[i].1 0).length = (bodyP nar (L.take i)).length + L[i].1 := by rw [List.length_append, hlT, List.length_replicate]
  have hle : (bodyP nar (L.take i)).length + L[i].1 + ah nar ≤ 400000 := by
    have e : bodyP nar L = bodyP nar (L.take i) ++ bodyP nar (L.drop i) := by rw [← bodyP_app, List.take_append_drop]
    rw [List.drop_eq_getElem_cons hi, bodyP_cons] at e
    have := congrArg List.length e
    simp only [List.length_append, List.length_replicate, encE_len] at this hbig
    omega
  have j2 := inside_j2 (t := t) hs hI hi (by omega) (s := ⟨L[i].2.id_, ((0 + (bodyP nar (L.take i)).length + L[i].1 + ah nar : Nat) : Int), (L[i].2.data.length : Int)⟩) (at_ := 0 + (bodyP nar (L.take i)).length + L[i].1 + ah nar) rfl rfl rfl (by rw [List.length_append, hPl, hdrl]; omega) (by omega)
  unfold plan_inside_s1
  rw [if_pos (by rw [cm_lss, mkP_len]; simpa using hi), bnd (ix_some (n := i) rfl hml), hS]
  simp only []
  rw [bnd (ren_eq hs.m _)]
  cases hn : nar with
  | true =>
    subst hn
    have hk' : k.profile = 48862 := hk.2 rfl
    rw [if_neg (by rw [cm_neq, hk']; decide)]
    by_cases h14 : 14 < renS p L[i].2.id_
    · rw [if_pos (by rw [cm_gtr]; simpa using h14), if_pos ⟨rfl, h14⟩]; rfl
    · have hnar := hx.2.1 rfl
      unfold Nar at hnar
      have eat : ar .sub .i64 ((0 + (bodyP true (L.take i)).length + L[i].1 + ah true : Nat) : Int) 1 = (((bodyP true ((L.take i).map (newP p)) ++ List.replicate L[i].1 0).length : Nat) : Int) := by
        have : ah true = 1 := rfl
        rw [hPl, ar_sub, w_i64 (by omega) (by omega)]; omega
      have hh : hdr true L[i].2 = [16 * L[i].2.id_ + L[i].2.data.length - 1] := rfl
      have hix : ix (mixP true p L t i) (((bodyP true ((L.take i).map (newP p)) ++ List.replicate L[i].1 0).length : Nat) : Int) = some (16 * L[i].2.id_ + L[i].2.data.length - 1) := by
        rw [hsp, hh]
        have hlt : (bodyP true ((L.take i).map (newP p)) ++ List.replicate L[i].1 0).length < ((bodyP true ((L.take i).map (newP p)) ++ List.replicate L[i].1 0) ++ ([16 * L[i].2.id_ + L[i].2.data.length - 1] ++ (L[i].2.data ++ (bodyP true (L.drop (i + 1)) ++ t)))).length := by simp only [List.length_append, List.length_singleton]; omega
        rw [ix_some rfl hlt, List.getElem_append_right (Nat.le_refl _)]
        simp
      have hnew : hdr true (newS p L[i].2) = [16 * renS p L[i].2.id_ + L[i].2.data.length - 1] := by
        show [16 * renS p L[i].2.id_ + (datS p L[i].2).length - 1] = _
        rw [dat_len (hI.ok _ (List.getElem_mem hi))]
      rw [if_neg (by rw [cm_gtr]; simpa using h14), eat, bnd hix, bnd hix, or_nib (by omega) (by omega) (by omega) (by omega), if_neg (fun h => h14 h.2)]
      have eset : List.set (mixP true p L t i) ((((bodyP true ((L.take i).map (newP p)) ++ List.replicate L[i].1 0).length : Nat) : Int)).toNat (16 * renS p L[i].2.id_ + (16 * L[i].2.id_ + L[i].2.data.length - 1) % 16) = (bodyP true ((L.take i).map (newP p)) ++ List.replicate L[i].1 0) ++ (hdr true (newS p L[i].2) ++ (L[i].2.data ++ (bodyP true (L.drop (i + 1)) ++ t))) := by
        rw [Int.toNat_natCast, hsp, hh, hnew]
        have : 16 * renS p L[i].2.id_ + (16 * L[i].2.id_ + (L[i].2.data.length : Int) - 1) % 16 = 16 * renS p L[i].2.id_ + L[i].2.data.length - 1 := by omega
        rw [this]
        exact set_at _ _ _ _
      rw [eset]
      exact j2
  | false =>
    subst hn
    have hk' : k.profile ≠ 48862 := fun h => by have := hk.1 h; cases this
    rw [if_pos (by rw [cm_neq]; simpa using hk'), if_neg (fun h => by cases h.1)]
    have eat : ar .sub .i64 ((0 + (bodyP false (L.take i)).length + L[i].1 + ah false : Nat) : Int) 2 = (((bodyP false ((L.take i).map (newP p)) ++ List.replicate L[i].1 0).length : Nat) : Int) := by
      have : ah false = 2 := rfl
      rw [hPl, ar_sub, w_i64 (by omega) (by omega)]; omega
    have hh : hdr false L[i].2 = [L[i].2.id_, (L[i].2.data.length : Int)] := rfl
    have hix : ix (mixP false p L t i) (((bodyP false ((L.take i).map (newP p)) ++ List.replicate L[i].1 0).length : Nat) : Int) = some L[i].2.id_ := by
      rw [hsp, hh]
      have hlt : (bodyP false ((L.take i).map (newP p)) ++ List.replicate L[i].1 0).length < ((bodyP false ((L.take i).map (newP p)) ++ List.replicate L[i].1 0) ++ ([L[i].2.id_, (L[i].2.data.length : Int)] ++ (L[i].2.data ++ (bodyP false (L.drop (i + 1)) ++ t)))).length := by simp only [List.length_append, List.length_cons, List.length_nil]; omega
      rw [ix_some rfl hlt, List.getElem_append_right (Nat.le_refl _)]
      simp
    have hnew : hdr false (newS p L[i].2) = [renS p L[i].2.id_, (L[i].2.data.length : Int)] := by
      show [renS p L[i].2.id_, ((datS p L[i].2).length : Int)] = _
      rw [dat_len (hI.ok _ (List.getElem_mem hi))]
    rw [eat, bnd hix, w_u8 (by omega) (by omega)]
    have eset : List.set (mixP false p L t i) ((((bodyP false ((L.take i).map (newP p)) ++ List.replicate L[i].1 0).length : Nat) : Int)).toNat (renS p L[i].2.id_) = (bodyP false ((L.take i).map (newP p)) ++ List.replicate L[i].1 0) ++ (hdr false (newS p L[i].2) ++ (L[i].2.data ++ (bodyP false (L.drop (i + 1)) ++ t))) := by
      rw [Int.toNat_natCast, hsp, hh, hnew]
      exact set_at _ _ _ _
    rw [eset]
    exact j2
theorem inside_eq {nar : Bool} {k : Packet} {p : Plan} {L : List (Nat × Elem)} {t : List Int} (hk : k.profile = 48862 ↔ nar = true) (hs : SmallP p) (hI : InP nar p L) (hN : L.length ≤ 1000000) (hext : k.ext = bodyP nar L ++ t) (hbig : k.ext.length ≤ 400000) (hsp : elem_Spots none k.profile k.ext = some (mkP nar 0 L, 0)) :
    ∃ r, plan_inside none p k = some r ∧ (r.2 = true → r.1 = bodyP nar (L.map (newP p)) ++ t ∧ (nar = true → ∀ x, x ∈ L → renS p x.2.id_ ≤ 14)) := by
  unfold plan_inside
  rw [bnd hsp, bnd (clone_eq (by omega))]
  unfold plan_inside_l1
  have key : ∀ m i, i + m = L.length → (nar = true → ∀ x, x ∈ L.take i → renS p x.2.id_ ≤ 14) →
      ∃ r, loopG none (fun (s : List Int × Int × Plan) => plan_inside_s1 none k (mkP nar 0 L, 0) s.1 s.2.1 s.2.2) (mixP nar p L t i, (i : Int), p) = some r ∧ (r.2 = true → r.1 = bodyP nar (L.map (newP p)) ++ t ∧ (nar = true → ∀ x, x ∈ L → renS p x.2.id_ ≤ 14)) := by
    intro m
    induction m with
    | zero =>
      intro i hi hh
      have e : i = L.length := by omega
      subst e
      refine ⟨(mixP nar p L t L.length, true), loop_inr ?_, fun _ => ⟨?_, by rw [List.take_length] at hh; exact hh⟩⟩
      · show plan_inside_s1 none k (mkP nar 0 L, 0) _ _ p = _
        unfold plan_inside_s1
        rw [if_neg (by rw [cm_lss, mkP_len]; simp)]; rfl
      · unfold mixP
        rw [List.take_length, List.drop_length]
        rfl
    | succ m ih =>
      intro i hi hh
      have hil : i < L.length := by omega
      have hst := inside_step (t := t) hk hs hI hil hN (by rw [← hext]; exact hbig)
      by_cases hb : nar = true ∧ 14 < renS p L[i].2.id_
      · rw [if_pos hb] at hst
        exact ⟨([], false), loop_inr hst, fun h => by cases h⟩
      · rw [if_neg hb] at hst
        obtain ⟨r, h1, h2⟩ := ih (i + 1) (by omega) (fun hn x hx => by
          rw [snoc_take L i hil] at hx
          rcases List.mem_append.1 hx with hx | hx
          · exact hh hn x hx
          · rw [List.mem_singleton.1 hx]
            have : ¬ 14 < renS p L[i].2.id_ := fun h => hb ⟨hn, h⟩
            omega)
        exact ⟨r, (loop_inl hst).trans h1, h2⟩
  have := key L.length 0 (by omega) (fun _ x hx => by simp at hx)
  rw [hext]
  simpa [mixP, bodyP] using this

end Xb

set_option linter.all false
namespace Xb
open Go

theorem readP {q : Int} {nar : Bool} {L : List (Nat × Elem)} {t : List Int} (hq : profOf q = if nar then .nar else .wide) (hf : ∀ x, x ∈ L → FitE x.2) (hn : nar = true → ∀ x, x ∈ L → Nar x.2) (hd : (L.map (·.2.id_)).Nodup)
    (ht : ∀ m pos out, t.length < m → spotsG nar m pos t out = (out, 0)) : readS q (bodyP nar L ++ t) = (L.map (·.2), 0) := by
  have key : spotsG nar ((bodyP nar L ++ t).length + 1) 0 (bodyP nar L ++ t) [] = (mkP nar 0 L, 0) := by
    obtain ⟨m, hm1, hm2⟩ := spots_fwdP (nar := nar) L _ 0 t [] hf hn (by simpa using hd) (Nat.lt_succ_self _)
    rw [hm2, ht _ _ _ hm1]
    simp
  have hs : spotsS q (bodyP nar L ++ t) = (mkP nar 0 L, 0) := by
    unfold spotsS
    rw [hq]
    cases nar <;> exact key
  unfold readS
  rw [hs]
  simp only []
  rw [mkP_at (nar := nar) L 0 t rfl]
theorem known_eq {p : Plan} (h : SmallP p) {l : List Elem} (hl : l.length ≤ 300) :
    plan_known none p l = some (decide (∀ x, x ∈ p.maps.map (·.from_) ++ p.over.map (·.id_) ++ p.drops → x ∈ l.map (·.id_))) := by
  have hm := h.m; have ho := h.o; have hd := h.d; have ha := h.a
  unfold plan_known
  rw [bnd (idsE_eq (by omega)), bnd (idsF_eq (by omega)), bnd (idsE_eq (by omega)), bnd (concatI_eq (by simp) (by simp; omega))]
  have e : [p.maps.map (·.from_), p.over.map (·.id_), p.drops].flatten = p.maps.map (·.from_) ++ p.over.map (·.id_) ++ p.drops := by simp
  rw [e]
  generalize hq : p.maps.map (·.from_) ++ p.over.map (·.id_) ++ p.drops = q
  have hql : q.length ≤ 900 := by rw [← hq]; simp; omega
  unfold plan_known_l1
  have := find_loop (l := q) (step := fun s => plan_known_s1 none (l.map (·.id_)) q s) (p := fun x => !decide (x ∈ l.map (·.id_))) (hit := fun _ => false) (miss := true) (by
    show plan_known_s1 none _ q _ = _
    unfold plan_known_s1
    rw [if_neg (by rw [cm_lss]; simp)]; rfl) (fun i hi => by
    show plan_known_s1 none _ q (i : Int) = _
    unfold plan_known_s1
    rw [if_pos (by rw [cm_lss]; simpa using hi), bnd (ix_some (n := i) rfl hi), bnd (Contains_eq (by simp; omega)), ar_add, w_i64 (by omega) (by omega)]
    by_cases hx : q[i] ∈ l.map (·.id_)
    · rw [decide_eq_true hx, if_neg (by decide), if_neg (by decide)]; rfl
    · rw [decide_eq_false hx, if_pos (by decide), if_pos (by decide)]; rfl)
  rw [this]
  congr 1
  cases hf : q.findIdx? (fun x => !decide (x ∈ l.map (·.id_))) with
  | none =>
    rw [List.findIdx?_eq_none_iff] at hf
    exact (decide_eq_true fun x hx => by have := hf x hx; simpa using this).symm
  | some i =>
    rw [List.findIdx?_eq_some_iff_getElem] at hf
    obtain ⟨hi, hp, _⟩ := hf
    refine (decide_eq_false fun h => ?_).symm
    have := h _ (List.getElem_mem hi)
    simp at hp
    simp at this
    obtain ⟨a, ha, hb⟩ := this
    exact hp a ha hb
theorem j1_eq (v : Bool) (p : Plan) (k : Packet) : plan_behind_j1 none v p k = some (behS p k, v && packet_Right (behS p k)) := by
  unfold plan_behind_j1 plan_behind_j2
  rw [set_eq]
  cases hn : p.noPad with
  | false =>
    rw [if_neg (by decide)]
    have : behS p k = { k with head := { k.head with marker := if p.setMarker then p.marker else k.head.marker, type := if p.setType then p.type else k.head.type, seq := if p.setSeq then p.seq else k.head.seq, time := if p.setTime then p.time else k.head.time, ssrc := if p.setSsrc then p.ssrc else k.head.ssrc } } := by
      unfold behS; rw [hn]; rfl
    rw [this]
  | true =>
    rw [if_pos rfl]
    have : behS p k = { k with head := { k.head with hasPad := false, marker := if p.setMarker then p.marker else k.head.marker, type := if p.setType then p.type else k.head.type, seq := if p.setSeq then p.seq else k.head.seq, time := if p.setTime then p.time else k.head.time, ssrc := if p.setSsrc then p.ssrc else k.head.ssrc }, pad := 0 } := by
      unfold behS; rw [hn]; rfl
    rw [this]
/-- the elements of a packet -/
def elsS (k : Packet) : List Elem := if k.head.hasExt then (readS k.profile k.ext).1 else []
structure GoodK (k : Packet) : Prop where
  b : oct k.ext
  p0 : 0 ≤ k.profile
  p1 : k.profile ≤ 65535
  l : k.ext.length ≤ 400000
theorem elements_eq {k : Packet} (h : GoodK k) : plan_elements none k = some (elsS k, !k.head.hasExt || decide ((spotsS k.profile k.ext).2 = 0)) := by
  unfold plan_elements elsS
  cases hx : k.head.hasExt with
  | false => rfl
  | true =>
    rw [if_neg (by decide), bnd (eread_eq h.p0 h.p1 h.b h.l), cm_eql]; rfl
theorem els_right {k : Packet} (h : GoodK k) : RightL (elsS k) ∧ GoodE (elsS k) := by
  unfold elsS
  split
  · exact ⟨right_read h.b, good_read h.b⟩
  · exact ⟨⟨fun e he => by simp at he, by simp⟩, ⟨fun e he => by simp at he⟩⟩
theorem turns_iff {p : Plan} (h : SmallP p) : plan_turns p = decide (p.drops ≠ [] ∨ p.adds ≠ []) := by
  have hd := h.d; have ha := h.a
  unfold plan_turns
  rw [ar_add, w_i64 (by omega) (by omega), cm_gtr]
  refine decide_eq_decide.2 ?_
  rw [← List.length_pos_iff, ← List.length_pos_iff]
  omega
theorem extend_spec {p : Plan} {k : Packet} (hs : SmallP p) (hk : GoodK k) (hfrom : ApartL (p.maps.map (·.from_))) (hov : RightL p.over) (had : RightL p.adds) (gov : GoodE p.over) (gad : GoodE p.adds) (hE : plan_Elements p = true) :
    ∃ k' b, plan_extend none p k = some (k', b) ∧ k'.head = { k.head with hasExt := k'.head.hasExt } ∧ k'.payload = k.payload ∧ (b = true → GoodK k' ∧ elsS k' = wantS p (elsS k) ∧ RightL (wantS p (elsS k)) ∧ GoodE (wantS p (elsS k)) ∧
      k'.head.hasExt = (decide (0 < (wantS p (elsS k)).length) || (!plan_turns p && k.head.hasExt))) := by
  obtain ⟨hr, hg⟩ := els_right hk
  have hll := right_len hr
  have fail : ∀ {m : Option (Packet × Bool)}, m = some (k, false) → ∃ k' b, m = some (k', b) ∧ k'.head = { k.head with hasExt := k'.head.hasExt } ∧ k'.payload = k.payload ∧ (b = true → GoodK k' ∧ elsS k' = wantS p (elsS k) ∧ RightL (wantS p (elsS k)) ∧ GoodE (wantS p (elsS k)) ∧
      k'.head.hasExt = (decide (0 < (wantS p (elsS k)).length) || (!plan_turns p && k.head.hasExt))) := fun h => ⟨k, false, h, rfl, rfl, fun h => by cases h⟩
  unfold plan_extend
  rw [bnd (elements_eq hk)]
  simp only []
  by_cases he : (!k.head.hasExt || decide ((spotsS k.profile k.ext).2 = 0)) = true
  · rw [he]
    simp only [Bool.not_true, Bool.not_false, gTT, Bool.false_or]
    rw [bnd (known_eq hs (by omega))]
    by_cases hkn : ∀ x, x ∈ p.maps.map (·.from_) ++ p.over.map (·.id_) ++ p.drops → x ∈ (elsS k).map (·.id_)
    · rw [decide_eq_true hkn, if_neg (by decide), bnd (left_eq hs (by omega))]
      by_cases hok : (keptS p (elsS k)).all (okS p) = true
      · rw [if_pos hok]
        simp only []
        by_cases hap : ApartL ((wantS p (elsS k)).map (·.id_))
        · rw [decide_eq_true hap, if_neg (by decide)]
          have hokk : ∀ e, e ∈ keptS p (elsS k) → okS p e = true := List.all_eq_true.1 hok
          have hkm : ∀ e, e ∈ keptS p (elsS k) → e ∈ elsS k := fun e he => (List.mem_filter.1 he).1
          have hW : RightL (wantS p (elsS k)) := by
            refine ⟨fun e he => ⟨(hap.1 e.id_ (List.mem_map.2 ⟨e, he, rfl⟩)).1, (hap.1 e.id_ (List.mem_map.2 ⟨e, he, rfl⟩)).2, ?_⟩, hap.2⟩
            rcases List.mem_append.1 he with h | h
            · obtain ⟨a, ha, rfl⟩ := List.mem_map.1 h
              show (datS p a).length ≤ 255
              rw [dat_len (hokk a ha)]
              exact (hr.1 a (hkm a ha)).2.2
            · exact (had.1 e h).2.2
          have hGW : GoodE (wantS p (elsS k)) := by
            refine ⟨fun e he => ?_⟩
            rcases List.mem_append.1 he with h | h
            · obtain ⟨a, ha, rfl⟩ := List.mem_map.1 h
              show oct (datS p a)
              unfold datS
              cases hf : p.over.find? (fun y => decide (y.id_ = a.id_)) with
              | none => exact hg.d a (hkm a ha)
              | some y => exact gov.d y (List.mem_of_find?_eq_some hf)
            · exact gad.d e h
          have hWl := right_len hW
          have ht := turns_iff hs
          by_cases htn : p.drops ≠ [] ∨ p.adds ≠ []
          · have ht2 : plan_turns p = true := by rw [ht]; exact decide_eq_true htn
            rw [ht2, if_neg (by decide)]
            unfold plan_extend_j1
            by_cases hpos : 0 < (wantS p (elsS k)).length
            · have hsh : ShortL (wantS p (elsS k)) := ⟨by omega, fun e he => by have := (hW.1 e he).2.2; omega⟩
              have c : cm .gtr ((wantS p (elsS k)).length : Int) 0 = true := by rw [cm_gtr]; exact decide_eq_true (by omega)
              rw [c, if_pos rfl, bnd (ewrite_eq hsh), if_pos hW]
              have hwl := (write_len hW).1
              have hrd := read_write hW
              refine ⟨_, _, rfl, rfl, rfl, fun _ => ⟨⟨writeL_oct hGW hW, (prof_in _).1, (prof_in _).2, by show (writeL _).length ≤ _; omega⟩, ?_, hW, hGW, ?_⟩⟩
              · show (if true = true then (readS (profS (wantS p (elsS k))) (writeL (wantS p (elsS k)))).1 else []) = _
                rw [if_pos rfl, hrd]
              · show true = _
                rw [decide_eq_true hpos]; rfl
            · have c : cm .gtr ((wantS p (elsS k)).length : Int) 0 = false := by rw [cm_gtr]; exact decide_eq_false (by omega)
              rw [c, if_neg (by decide)]
              have h0 : wantS p (elsS k) = [] := List.eq_nil_of_length_eq_zero (by omega)
              refine ⟨_, _, rfl, rfl, rfl, fun _ => ⟨⟨fun x hx => by simp at hx, by show (0 : Int) ≤ 0; decide, by show (0 : Int) ≤ 65535; decide, by show ([] : List Int).length ≤ _; simp⟩, ?_, hW, hGW, ?_⟩⟩
              · rw [h0]; rfl
              · show false = _
                rw [h0]; rfl
          · have ht2 : plan_turns p = false := by rw [ht]; exact decide_eq_false htn
            have hd0 : p.drops = [] := Classical.byContradiction fun h => htn (.inl h)
            have ha0 : p.adds = [] := Classical.byContradiction fun h => htn (.inr h)
            have hkept : keptS p (elsS k) = elsS k := by unfold keptS; rw [hd0]; simp
            have hwant : wantS p (elsS k) = (elsS k).map (newS p) := by unfold wantS; rw [hkept, ha0, List.append_nil]
            rw [ht2, if_pos (by decide)]
            have hx : k.head.hasExt = true := by
              refine Classical.byContradiction fun hx => ?_
              have hx0 : k.head.hasExt = false := by simpa using hx
              have hnil : elsS k = [] := by unfold elsS; rw [hx0]; rfl
              rw [hnil, hd0, List.append_nil] at hkn
              have hm0 : p.maps = [] := by
                cases hm : p.maps with
                | nil => rfl
                | cons a m => rw [hm] at hkn; have := hkn a.from_ (by simp); simp at this
              have ho0 : p.over = [] := by
                cases hm : p.over with
                | nil => rfl
                | cons a m => rw [hm] at hkn; have := hkn a.id_ (by simp); simp at this
              unfold plan_Elements at hE
              rw [ht2, hm0, ho0] at hE
              cases hE
            have hsp : (spotsS k.profile k.ext).2 = 0 := by rw [hx] at he; simpa using he
            -- the bytes are elements and an end
            have hdec : ∃ (nar : Bool) (L : List (Nat × Elem)) (t : List Int), profOf k.profile = (if nar then .nar else .wide) ∧ (k.profile = 48862 ↔ nar = true) ∧ k.ext = bodyP nar L ++ t ∧ spotsS k.profile k.ext = (mkP nar 0 L, 0) ∧ (∀ x, x ∈ L → FitE x.2 ∧ (nar = true → Nar x.2) ∧ oct x.2.data) ∧ ∀ m pos' out', t.length < m → spotsG nar m pos' t out' = (out', 0) := by
              have go : ∀ nar : Bool, profOf k.profile = (if nar then .nar else .wide) → (k.profile = 48862 ↔ nar = true) → spotsS k.profile k.ext = spotsG nar (k.ext.length + 1) 0 k.ext [] → ∃ (L : List (Nat × Elem)) (t : List Int), k.ext = bodyP nar L ++ t ∧ spotsS k.profile k.ext = (mkP nar 0 L, 0) ∧ (∀ x, x ∈ L → FitE x.2 ∧ (nar = true → Nar x.2) ∧ oct x.2.data) ∧ ∀ m pos' out', t.length < m → spotsG nar m pos' t out' = (out', 0) := by
                intro nar _ _ h3
                rw [h3] at hsp ⊢
                obtain ⟨L, t, q1, q2, q3, q4⟩ := spots_dec (nar := nar) _ 0 k.ext [] (Nat.lt_succ_self _) hk.b hsp
                refine ⟨L, t, q1, ?_, q3, q4⟩
                have : spotsG nar (k.ext.length + 1) 0 k.ext [] = ((spotsG nar (k.ext.length + 1) 0 k.ext []).1, (spotsG nar (k.ext.length + 1) 0 k.ext []).2) := rfl
                rw [this, hsp, q2, List.nil_append]
              by_cases h1 : k.profile = 48862
              · have hp : profOf k.profile = .nar := by unfold profOf; rw [if_pos h1]
                obtain ⟨L, t, q⟩ := go true hp ⟨fun _ => rfl, fun _ => h1⟩ (by unfold spotsS; rw [hp])
                exact ⟨true, L, t, hp, ⟨fun _ => rfl, fun _ => h1⟩, q⟩
              · by_cases h2 : k.profile / 16 = 256
                · have hp : profOf k.profile = .wide := by unfold profOf; rw [if_neg h1, if_pos h2]
                  obtain ⟨L, t, q⟩ := go false hp ⟨fun h => absurd h h1, fun h => by cases h⟩ (by unfold spotsS; rw [hp])
                  exact ⟨false, L, t, hp, ⟨fun h => absurd h h1, fun h => by cases h⟩, q⟩
                · have hp : profOf k.profile = .none := by unfold profOf; rw [if_neg h1, if_neg h2]
                  unfold spotsS at hsp
                  rw [hp] at hsp
                  cases hsp
            obtain ⟨nar, L, t, d1, d2, d3, d4, d5, d6⟩ := hdec
            have hels : elsS k = L.map (·.2) := by
              unfold elsS
              rw [hx, if_pos rfl]
              unfold readS
              rw [d4]
              exact mkP_at (nar := nar) L 0 t d3
            have hLl : L.length ≤ 255 := by have := congrArg List.length hels; rw [List.length_map] at this; omega
            have hI : InP nar p L := by
              refine ⟨d5, fun x hxx => hokk x.2 ?_, fun x hxx => hap.1 (renS p x.2.id_) ?_⟩
              · rw [hkept, hels]; exact List.mem_map.2 ⟨x, hxx, rfl⟩
              · rw [hwant, hels]
                exact List.mem_map.2 ⟨newS p x.2, List.mem_map.2 ⟨x.2, List.mem_map.2 ⟨x, hxx, rfl⟩, rfl⟩, rfl⟩
            have hse : elem_Spots none k.profile k.ext = some (mkP nar 0 L, 0) := by rw [espots_eq hk.p0 hk.p1 hk.b hk.l, d4]
            obtain ⟨r, e1, e2⟩ := inside_eq d2 hs hI (by omega) d3 hk.l hse
            rw [bnd e1]
            refine ⟨{ k with ext := r.1 }, r.2, rfl, rfl, rfl, fun hb => ?_⟩
            obtain ⟨f1, f2⟩ := e2 hb
            have hfit : ∀ x, x ∈ L.map (newP p) → FitE x.2 := fun x hxx => by
              obtain ⟨y, hy, rfl⟩ := List.mem_map.1 hxx
              have h1 := hI.ids y hy
              refine ⟨h1.1, h1.2, ?_⟩
              show (datS p y.2).length ≤ 255
              rw [dat_len (hI.ok y hy)]; exact (d5 y hy).1.2.2
            have hnr : nar = true → ∀ x, x ∈ L.map (newP p) → Nar x.2 := fun hn x hxx => by
              obtain ⟨y, hy, rfl⟩ := List.mem_map.1 hxx
              have h1 := (d5 y hy).2.1 hn
              refine ⟨f2 hn y hy, ?_, ?_⟩
              · show 1 ≤ (datS p y.2).length
                rw [dat_len (hI.ok y hy)]; exact h1.2.1
              · show (datS p y.2).length ≤ 16
                rw [dat_len (hI.ok y hy)]; exact h1.2.2
            have hws : (L.map (newP p)).map (·.2) = wantS p (elsS k) := by
              rw [hwant, hels, List.map_map, List.map_map]; rfl
            have hoct : oct r.1 := by
              rw [f1]
              have hbt : oct t := fun x hxx => hk.b x (by rw [d3]; exact List.mem_append_right _ hxx)
              have hbb := bodyP_oct (nar := nar) (L := L.map (newP p)) (fun x hxx => hGW.d x.2 (by rw [← hws]; exact List.mem_map.2 ⟨x, hxx, rfl⟩)) hfit hnr
              exact fun x hxx => (List.mem_append.1 hxx).elim (hbb x) (hbt x)
            have hlen : r.1.length = k.ext.length := by rw [f1, d3, List.length_append, List.length_append, newP_len hI.ok]
            refine ⟨⟨hoct, hk.p0, hk.p1, by show r.1.length ≤ _; rw [hlen]; exact hk.l⟩, ?_, hW, hGW, ?_⟩
            · show (if k.head.hasExt = true then (readS k.profile r.1).1 else []) = _
              rw [if_pos hx, f1, readP d1 hfit hnr (by
                have : (L.map (newP p)).map (·.2.id_) = (wantS p (elsS k)).map (·.id_) := by rw [← hws]; simp only [List.map_map]; rfl
                rw [this]; exact hap.2) d6]
              exact hws
            · show k.head.hasExt = _
              rw [hx]; simp
        · rw [decide_eq_false hap, if_pos (by decide)]; exact fail rfl
      · rw [if_neg hok]
        simp only []
        rw [if_pos (by decide)]; exact fail rfl
    · rw [decide_eq_false hkn, if_pos (by decide)]; exact fail rfl
  · have he0 : (!k.head.hasExt || decide ((spotsS k.profile k.ext).2 = 0)) = false := by simpa using he
    rw [he0]
    simp only [Bool.not_false, Bool.not_true, gTF, Option.bind_some, Bool.true_or, if_true]
    exact fail rfl
theorem short29 {p : Plan} (w : wf_Plan p) : ∃ b, ref29_Short none p = some b ∧ (b = true → SmallP p) := by
  have hov := w.2.2.2.2.2.2.2.2.2.2.2.1
  have had := w.2.2.2.2.2.2.2.2.2.2.2.2.2.1
  have hmax : maxLen ≤ 9223372036854775807 := by decide
  have ho := hov.1; have ha := had.1
  unfold ref29_Short
  by_cases h : p.maps.length ≤ 300 ∧ p.drops.length ≤ 300
  · have c : ((cm .leq (p.maps.length : Int) 300) && (cm .leq (p.drops.length : Int) 300)) = true := by
      simp only [cm_leq, Bool.and_eq_true, decide_eq_true_eq]; omega
    rw [c, gTT, bnd (short_eq (by omega))]
    by_cases h1 : ShortL p.over
    · rw [decide_eq_true h1]
      simp only [Bool.and_self, gTT]
      rw [bnd (short_eq (by omega))]
      exact ⟨_, rfl, fun hb => ⟨h.1, h1.1, h.2, by have : ShortL p.adds := by simpa using hb
                                                   exact this.1⟩⟩
    · rw [decide_eq_false h1]
      exact ⟨false, rfl, fun h => by cases h⟩
  · have c : ((cm .leq (p.maps.length : Int) 300) && (cm .leq (p.drops.length : Int) 300)) = false := by
      rw [Bool.eq_false_iff]
      simp only [cm_leq, ne_eq, Bool.and_eq_true, decide_eq_true_eq]; omega
    rw [c]
    exact ⟨false, rfl, fun h => by cases h⟩

end Xb

set_option linter.all false
namespace Xb.PH
open Go

/-- a number's octets, the greatest first -/
def beN : Nat → Int → List Int
  | 0, _ => []
  | n + 1, v => beN n (v / 256) ++ [v % 256]
theorem beN_len : ∀ (n : Nat) (v : Int), (beN n v).length = n
  | 0, _ => rfl
  | n + 1, v => by simp [beN, beN_len n]
theorem beN_byte : ∀ (n : Nat) (v : Int) (x : Int), x ∈ beN n v → 0 ≤ x ∧ x ≤ 255
  | 0, _, _, h => by simp [beN] at h
  | n + 1, v, x, h => by
    simp only [beN, List.mem_append, List.mem_singleton] at h
    rcases h with h | rfl
    · exact beN_byte n _ x h
    · omega
/-- the number of octets -/
def numB (l : List Int) : Int := l.foldl (fun v x => v * 256 + x) 0
theorem numB_snoc (l : List Int) (x : Int) : numB (l ++ [x]) = numB l * 256 + x := by simp [numB]
theorem num_be : ∀ (n : Nat) (v : Int), 0 ≤ v → v < 256 ^ n → numB (beN n v) = v
  | 0, v, h0, h1 => by simp at h1; simp [beN, numB]; omega
  | n + 1, v, h0, h1 => by
    rw [Int.pow_succ] at h1
    rw [beN, numB_snoc, num_be n (v / 256) (by omega) (by omega)]; omega
theorem numB_bd (l : List Int) (hl : ∀ x, x ∈ l → 0 ≤ x ∧ x ≤ 255) : 0 ≤ numB l ∧ numB l < 256 ^ l.length := by
  have key : ∀ n (l : List Int), l.length = n → (∀ x, x ∈ l → 0 ≤ x ∧ x ≤ 255) → 0 ≤ numB l ∧ numB l < 256 ^ l.length := by
    intro n
    induction n with
    | zero => intro l h _; rw [List.length_eq_zero_iff] at h; subst h; simp [numB]
    | succ n ih =>
      intro l h hb
      have hne : l ≠ [] := by intro e; subst e; simp at h
      obtain ⟨m, x, rfl⟩ : ∃ m x, l = m ++ [x] := ⟨l.dropLast, l.getLast hne, (List.dropLast_concat_getLast hne).symm⟩
      have hm : m.length = n := by simpa using h
      obtain ⟨a, b⟩ := ih m hm (fun y hy => hb y (by simp [hy]))
      obtain ⟨c, d⟩ := hb x (by simp)
      rw [numB_snoc]
      simp only [List.length_append, List.length_cons, List.length_nil, Int.pow_succ]
      omega
  exact key _ l rfl hl
theorem be_num (l : List Int) (hl : ∀ x, x ∈ l → 0 ≤ x ∧ x ≤ 255) : beN l.length (numB l) = l := by
  have key : ∀ n (l : List Int), l.length = n → (∀ x, x ∈ l → 0 ≤ x ∧ x ≤ 255) → beN n (numB l) = l := by
    intro n
    induction n with
    | zero => intro l h _; rw [List.length_eq_zero_iff] at h; subst h; rfl
    | succ n ih =>
      intro l h hb
      have hne : l ≠ [] := by intro e; subst e; simp at h
      obtain ⟨m, x, rfl⟩ : ∃ m x, l = m ++ [x] := ⟨l.dropLast, l.getLast hne, (List.dropLast_concat_getLast hne).symm⟩
      have hm : m.length = n := by simpa using h
      obtain ⟨c, d⟩ := hb x (by simp)
      have e1 : (numB m * 256 + x) / 256 = numB m := by omega
      have e2 : (numB m * 256 + x) % 256 = x := by omega
      rw [numB_snoc, beN, e1, e2, ih m hm (fun y hy => hb y (by simp [hy]))]
  exact key _ l rfl hl
theorem set_drop {α : Type} : ∀ (l : List α) (k : Nat) (x : α), k < l.length → (l.set k x).drop k = x :: l.drop (k + 1)
  | [], k, x, h => by simp at h
  | a :: l, 0, x, h => by simp
  | a :: l, k + 1, x, h => by simpa using set_drop l k x (by simpa using h)
theorem put_step {k : Nat} {v : Int} {l : List Int} (_h0 : 0 ≤ v) (hk : k < l.length) : octet_Put_s1 k v l = some (.inl (v / 256, l.set k (v % 256))) := by
  unfold octet_Put_s1
  rw [bnd (ix_some (n := k) rfl hk), sf_shr (y := 8) (n := 8) rfl (by decide), wu8]
  rfl
theorem put_fold : ∀ (k : Nat) (v : Int) (l : List Int), 0 ≤ v → k ≤ l.length →
    foldX (fun (y1 : Nat) (s : Int × List Int) => octet_Put_s1 y1 s.1 s.2) (fun (s : Int × List Int) => octet_Put_d1 s.1 s.2) (List.range k).reverse (v, l) = some (beN k v ++ l.drop k, 0)
  | 0, v, l, _, _ => by simp [foldX, octet_Put_d1, beN]
  | k + 1, v, l, h0, hk => by
    rw [List.range_succ, List.reverse_append]
    simp only [List.reverse_cons, List.reverse_nil, List.nil_append, List.cons_append, foldX]
    rw [put_step h0 (by omega)]
    simp only []
    rw [put_fold k (v / 256) (l.set k (v % 256)) (by omega) (by simp; omega), set_drop _ _ _ (by omega)]
    simp [beN]
theorem sized_eq (n : Int) : octet_sized n = decide (1 ≤ n ∧ n ≤ 8) := by
  simp only [octet_sized, cm_geq, cm_leq, Bool.decide_and]
theorem put_eq {v : Int} {n : Nat} (h0 : 0 ≤ v) (h1 : 1 ≤ n) (h2 : n ≤ 8) (hf : n = 8 ∨ v < 2 ^ (8 * n)) : octet_Put v n = some (beN n v, 0) := by
  unfold octet_Put octet_Put_l1
  rw [sized_eq, if_neg (by simp; omega)]
  have e8 : ar .mul .i64 8 (n : Int) = ((8 * n : Nat) : Int) := by rw [ar_mul, w_i64 (by omega) (by omega)]; omega
  have hl : mkL (0 : Int) n n = some (List.replicate n 0) := by
    simp only [mkL]; rw [if_pos (by omega)]; rfl
  have hlo : lnO (List.replicate n (0 : Int)) = some () := by simp [lnO]; omega
  have fin : Option.bind (mkL (0 : Int) n n) (fun x2 => Option.bind (lnO x2) fun _ => foldX (fun (y1 : Nat) (s : Int × List Int) => octet_Put_s1 y1 s.1 s.2) (fun (s : Int × List Int) => octet_Put_d1 s.1 s.2) (List.range x2.length).reverse (v, x2)) = some (beN n v, 0) := by
    rw [bnd hl, bnd hlo, List.length_replicate, put_fold n v _ h0 (by simp)]
    simp
  by_cases hn : n = 8
  · have hc : cm .lss (n : Int) 8 = false := by rw [cm_lss]; simp; omega
    rw [hc, gTF]
    simp only [Option.bind_some, Bool.false_and]
    rw [if_neg (by decide)]
    exact fin
  · have hc : cm .lss (n : Int) 8 = true := by rw [cm_lss]; simp; omega
    have hv : v < 2 ^ (8 * n) := by omega
    have hs : sf .shr .u64 v ((8 * n : Nat) : Int) = 0 := by
      rw [sf_shr (n := 8 * n) rfl (by simp [IntKind.bits]; omega)]
      exact Int.ediv_eq_zero_of_lt h0 hv
    rw [hc, gTT, e8, sfO_nn (by omega), Option.bind_some, hs]
    have : cm .gtr (0 : Int) 0 = false := by decide
    rw [this, if_neg (by decide)]
    exact fin
theorem put_no {v : Int} {n : Nat} (h0 : 0 ≤ v) (h1 : 1 ≤ n) (h2 : n < 8) (hf : 2 ^ (8 * n) ≤ v) : octet_Put v n = some ([], 6) := by
  unfold octet_Put
  rw [sized_eq, if_neg (by simp; omega)]
  have e8 : ar .mul .i64 8 (n : Int) = ((8 * n : Nat) : Int) := by rw [ar_mul, w_i64 (by omega) (by omega)]; omega
  have hc : cm .lss (n : Int) 8 = true := by rw [cm_lss]; simp; omega
  have hp : (0 : Int) < 2 ^ (8 * n) := Int.pow_pos (by decide)
  have hs : 0 < sf .shr .u64 v ((8 * n : Nat) : Int) := by
    rw [sf_shr (n := 8 * n) rfl (by simp [IntKind.bits]; omega)]
    exact by have := Int.le_ediv_of_mul_le hp (show 1 * 2 ^ (8 * n) ≤ v by omega); omega
  rw [hc, gTT, e8, sfO_nn (by omega), Option.bind_some]
  rw [if_pos (by rw [cm_gtr]; simpa using hs)]
theorem get_fold {l : List Int} (hl : ∀ x, x ∈ l → 0 ≤ x ∧ x ≤ 255) (h8 : l.length ≤ 8) : octet_Get_l2 none l 0 0 = some (numB l, 0) := by
  unfold octet_Get_l2
  have := loop_seq (step := fun (s : Int × Int) => octet_Get_s2 none l s.1 s.2) (r := (numB l, 0)) (fun i => (numB (l.take i), (i : Int))) l.length (fun i hi => by
    show octet_Get_s2 none l _ _ = _
    have hx := hl l[i] (List.getElem_mem hi)
    have hb := numB_bd (l.take i) (fun x hx => hl x (List.mem_of_mem_take hx))
    have hp : (256 : Int) ^ (l.take i).length ≤ 256 ^ 7 := by
      have h7 : (l.take i).length ≤ 7 := by rw [List.length_take]; omega
      have h3 := Nat.pow_le_pow_right (show 0 < 256 by decide) h7
      have h4 : (((256 : Nat) ^ (l.take i).length : Nat) : Int) = (256 : Int) ^ (l.take i).length := Int.natCast_pow _ _
      have h5 : (((256 : Nat) ^ 7 : Nat) : Int) = (256 : Int) ^ 7 := Int.natCast_pow _ _
      rw [← h4, ← h5]; exact Int.ofNat_le.2 h3
    have h256 : (256 : Int) ^ 7 = 72057594037927936 := by decide
    show octet_Get_s2 none l (numB (l.take i)) (i : Int) = _
    unfold octet_Get_s2
    rw [if_pos (by rw [cm_lss]; simpa using hi), bnd (ix_some (n := i) rfl hi), sf_shl (y := 8) (n := 8) rfl (by decide)]
    have e1 : IntKind.u64.wrap (numB (l.take i) * 2 ^ 8) = numB (l.take i) * 2 ^ 8 := w_u64 (by omega) (by omega)
    have e2 : IntKind.u64.wrap l[i] = l[i] := w_u64 (by omega) (by omega)
    rw [e1, e2, ar_or_add (n := 8) (a := numB (l.take i)) rfl rfl (by omega) (by omega) (by omega) (by simp [IntKind.bits]; omega) (by decide)]
    have e3 : numB (l.take (i + 1)) = numB (l.take i) * 2 ^ 8 + l[i] := by
      rw [List.take_add_one, List.getElem?_eq_getElem hi]
      exact numB_snoc _ _
    rw [e3, ar_add, w_i64 (by omega) (by omega)]
    rfl) (by
    show octet_Get_s2 none l _ _ = _
    unfold octet_Get_s2
    rw [if_neg (by rw [cm_lss]; simp)]
    simp)
  simpa [numB] using this
theorem there_eq {b : List Int} {at_ n : Int} (h0 : 0 ≤ at_) (hb : b.length ≤ 4294967296) : octet_there b at_ n = decide (at_ ≤ b.length ∧ at_ + n ≤ b.length) := by
  simp only [octet_there, cm_leq]
  by_cases h : at_ ≤ b.length
  · rw [ar_sub, w_i64 (by omega) (by omega)]
    by_cases h2 : at_ + n ≤ b.length
    · simp [h, h2]; omega
    · simp [h, h2]; omega
  · simp [h]
theorem get_eq {b : List Int} {at_ n : Nat} (h1 : 1 ≤ n) (h2 : n ≤ 8) (hb : ∀ x, x ∈ b → 0 ≤ x ∧ x ≤ 255) (hl : b.length ≤ 4294967296) (h : at_ + n ≤ b.length) :
    octet_Get none b at_ n = some (numB ((b.drop at_).take n), 0) := by
  have hs : octet_sized (n : Int) = true := by rw [sized_eq]; simp; omega
  have ht : octet_there b at_ n = true := by rw [there_eq (by omega) hl]; simp; omega
  unfold octet_Get octet_Get_j1
  rw [hs, if_neg (by decide), cm_lss, if_neg (by simp), ht, if_neg (by decide), ar_add, w_i64 (by omega) (by omega), bnd (sub_some (by omega) (by omega) (by omega))]
  have e : ((at_ : Int) + n).toNat - (at_ : Int).toNat = n := by omega
  rw [e, Int.toNat_natCast]
  exact get_fold (fun x hx => hb x (List.mem_of_mem_drop (List.mem_of_mem_take hx))) (by rw [List.length_take]; omega)
theorem get_short {b : List Int} {at_ n : Nat} (h1 : 1 ≤ n) (h2 : n ≤ 8) (hl : b.length ≤ 4294967296) (h : b.length < at_ + n) :
    octet_Get none b at_ n = some (0, 2) := by
  have hs : octet_sized (n : Int) = true := by rw [sized_eq]; simp; omega
  have ht : octet_there b at_ n = false := by rw [there_eq (by omega) hl]; simp; omega
  unfold octet_Get octet_Get_j1
  rw [hs, if_neg (by decide), cm_lss, if_neg (by simp), ht, if_pos (by decide)]

end Xb.PH

set_option linter.all false
namespace Xb.PH
open Go

theorem chunks_nil {α : Type} {n : Nat} (h : 1 ≤ n) : chunksL n ([] : List α) = [] := by
  simp only [chunksL, List.length_nil]
  rw [Nat.div_eq_of_lt (by omega)]; rfl
theorem chunks_cons {α : Type} {n : Nat} (h : 1 ≤ n) {l : List α} (hl : l ≠ []) : chunksL n l = l.take n :: chunksL n (l.drop n) := by
  have h0 := chunksL_drop h l 0 (by rw [Nat.zero_mul]; exact List.length_pos_iff.2 hl)
  simp only [List.drop_zero, Nat.zero_mul] at h0
  rw [h0]
  congr 1
  simp only [chunksL, List.length_drop, ← List.map_drop, List.drop_drop]
  have e : (l.length + n - 1) / n = (l.length - n + n - 1) / n + 1 := by
    have hp := List.length_pos_iff.2 hl
    by_cases hn : l.length ≤ n
    · have e1 : l.length - n = 0 := by omega
      rw [e1, Nat.zero_add, Nat.div_eq_of_lt (show n - 1 < n by omega)]
      exact Nat.div_eq_of_lt_le (by omega) (by omega)
    · have e1 : l.length + n - 1 = (l.length - n + n - 1) + n := by omega
      rw [e1, Nat.add_div_right _ (by omega)]
  rw [e, List.range_succ_eq_map, List.drop_one, List.tail_cons, List.map_map]
  apply List.map_congr_left
  intro i _
  simp only [Function.comp]
  congr 2
  rw [Nat.succ_mul]; omega
theorem chunks_flat {α : Type} {n : Nat} (h : 1 ≤ n) : ∀ (l : List α), (chunksL n l).flatten = l := by
  have key : ∀ m (l : List α), l.length ≤ m → (chunksL n l).flatten = l := by
    intro m
    induction m with
    | zero => intro l hl; have : l = [] := List.length_eq_zero_iff.1 (by omega); subst this; rw [chunks_nil h]; rfl
    | succ m ih =>
      intro l hl
      by_cases hn : l = []
      · subst hn; rw [chunks_nil h]; rfl
      · have hp := List.length_pos_iff.2 hn
        rw [chunks_cons h hn, List.flatten_cons, ih _ (by rw [List.length_drop]; omega), List.take_append_drop]
  exact fun l => key l.length l (Nat.le_refl _)
theorem chunks_len {α : Type} {n : Nat} (h : 1 ≤ n) {l : List α} (hd : l.length % n = 0) : ∀ c, c ∈ chunksL n l → c.length = n := by
  intro c hc
  simp only [chunksL, List.mem_map, List.mem_range] at hc
  obtain ⟨i, hi, rfl⟩ := hc
  rw [List.length_take, List.length_drop]
  have e : l.length = n * (l.length / n) := by have := Nat.div_add_mod l.length n; omega
  have hi2 : i < l.length / n := by
    have : (l.length + n - 1) / n ≤ l.length / n := by
      rw [e]
      generalize l.length / n = q
      have : n * q + n - 1 = n - 1 + n * q := by omega
      rw [this, Nat.add_mul_div_left _ _ (by omega), Nat.mul_div_cancel_left _ (by omega), Nat.div_eq_of_lt (show n - 1 < n by omega)]
      omega
    omega
  have h3 : n * (i + 1) ≤ n * (l.length / n) := Nat.mul_le_mul_left _ hi2
  rw [Nat.mul_add, Nat.mul_one, Nat.mul_comm n i] at h3
  omega
theorem chunks_mem {α : Type} {n : Nat} {l : List α} {c : List α} (hc : c ∈ chunksL n l) {x : α} (hx : x ∈ c) : x ∈ l := by
  simp only [chunksL, List.mem_map, List.mem_range] at hc
  obtain ⟨i, hi, rfl⟩ := hc
  exact List.mem_of_mem_drop (List.mem_of_mem_take hx)
theorem chunks_of {α : Type} {n : Nat} (h : 1 ≤ n) : ∀ (L : List (List α)), (∀ c, c ∈ L → c.length = n) → chunksL n L.flatten = L
  | [], _ => by rw [List.flatten_nil, chunks_nil h]
  | c :: L, hL => by
    have hc := hL c (by simp)
    rw [List.flatten_cons, chunks_cons h (by intro e; have := congrArg List.length e; simp only [List.length_append, List.length_nil] at this; omega)]
    rw [List.take_left' hc, List.drop_left' hc, chunks_of h L fun d hd => hL d (by simp [hd])]
theorem chunks_count {α : Type} {n : Nat} (h : 1 ≤ n) {l : List α} (hd : l.length % n = 0) : (chunksL n l).length = l.length / n := by
  simp only [chunksL, List.length_map, List.length_range]
  have e : l.length = n * (l.length / n) := by have := Nat.div_add_mod l.length n; omega
  generalize l.length / n = q at *
  rw [e]
  have : n * q + n - 1 = n - 1 + n * q := by omega
  rw [this, Nat.add_mul_div_left _ _ (by omega), Nat.div_eq_of_lt (show n - 1 < n by omega), Nat.zero_add]
/-- folds that only gather -/
theorem fold_map {α β ρ : Type} {step : α → List β → Option (List β ⊕ ρ)} {done : List β → Option ρ} {f : α → β} : ∀ (l : List α) (s : List β), (∀ x s, x ∈ l → s.length ≤ 1000000 → step x s = some (.inl (s ++ [f x]))) → s.length + l.length ≤ 1000000 → foldX step done l s = done (s ++ l.map f)
  | [], s, _, _ => by simp [foldX]
  | x :: l, s, h, hn => by
    simp only [List.length_cons] at hn
    simp only [foldX, h x s (by simp) (by omega)]
    rw [fold_map l _ (fun y t hy ht => h y t (by simp [hy]) ht) (by simp; omega)]
    simp
/-- folds that look for one -/
theorem fold_all {α ρ σ : Type} {step : α → σ → Option (σ ⊕ ρ)} {done : σ → Option ρ} {p : α → Bool} {no : ρ} : ∀ (l : List α) (s : σ), (∀ x, x ∈ l → step x s = if p x then some (.inl s) else some (.inr no)) → foldX step done l s = if l.all p then done s else some no
  | [], s, _ => by simp [foldX]
  | x :: l, s, h => by
    simp only [foldX, h x (by simp)]
    by_cases hp : p x = true
    · simp only [hp, if_true]
      rw [fold_all l s fun y hy => h y (by simp [hy])]
      simp [hp]
    · simp [hp]
/-- texts are the same when the octets are -/
theorem b2s_inj {a b : List Int} (ha : ∀ x, x ∈ a → 0 ≤ x ∧ x ≤ 255) (hb : ∀ x, x ∈ b → 0 ≤ x ∧ x ≤ 255) : b2s a = b2s b ↔ a = b := by
  refine ⟨fun h => ?_, fun h => by rw [h]⟩
  have hi : ∀ (l : List Int), (∀ x, x ∈ l → 0 ≤ x ∧ x ≤ 255) → (b2s l).map (fun u => (u.toNat : Int)) = l := by
    intro l hl
    unfold b2s
    rw [List.map_map]
    conv => rhs; rw [← List.map_id l]
    apply List.map_congr_left
    intro x hx
    obtain ⟨h0, h1⟩ := hl x hx
    simp
    omega
  rw [← hi a ha, ← hi b hb, h]
theorem sc_b2s {a b : List Int} (ha : ∀ x, x ∈ a → 0 ≤ x ∧ x ≤ 255) (hb : ∀ x, x ∈ b → 0 ≤ x ∧ x ≤ 255) : sc .eql (b2s a) (b2s b) = decide (a = b) := by
  simp only [sc]
  by_cases h : a = b
  · subst h; simp
  · simp [h]; exact fun e => h ((b2s_inj ha hb).1 e)

end Xb.PH

set_option linter.all false
namespace Xb.PH
open Go

theorem concat_eq {ss : List (List Int)} (h1 : ss.length ≤ 1000) (h2 : ss.flatten.length ≤ 100000000) : slices_Concat_byte none ss = some ss.flatten := by
  have hle : ∀ i, (ss.take i).flatten.length ≤ ss.flatten.length := fun i => by
    have : ss.flatten = (ss.take i).flatten ++ (ss.drop i).flatten := by rw [← List.flatten_append, List.take_append_drop]
    rw [this]; simp
  have hsucc : ∀ i (h : i < ss.length), (ss.take (i + 1)).flatten = (ss.take i).flatten ++ ss[i] := fun i h => by
    rw [List.take_add_one, List.getElem?_eq_getElem h]
    simp only [Option.toList_some, List.flatten_append, List.flatten_cons, List.flatten_nil, List.append_nil]
  unfold slices_Concat_byte slices_Concat_byte_l1
  have := loop_seq (step := fun (s : Int × Int) => slices_Concat_byte_s1 none ss s.1 s.2) (r := ss.flatten) (fun i => (((ss.take i).flatten.length : Int), (i : Int))) ss.length (fun i hi => by
    have a := hle (i + 1)
    have b := hsucc i hi
    rw [b] at a
    simp only [List.length_append] at a
    have c := congrArg List.length b
    simp only [List.length_append] at c
    simp only [slices_Concat_byte_s1, slices_Concat_byte_j2, cm_lss, decide_eq_true_eq]
    rw [if_pos (by omega), bnd (ix_some rfl hi), ar_add, w_i64 (by omega) (by omega), if_neg (by omega), ar_add, w_i64 (by omega) (by omega), c]
    simp) (by
    simp only [slices_Concat_byte_s1, cm_lss, decide_eq_true_eq]
    have hg : growL (((ss.take ss.length).flatten.length : Nat) : Int) = some () := by
      have := hle ss.length
      simp only [growL]
      rw [if_pos (by omega)]
    rw [if_neg (by omega), bnd hg]
    unfold slices_Concat_byte_l3
    have := loop_seq (step := fun (s : List Int × Int) => slices_Concat_byte_s3 none ss s.1 s.2) (r := ss.flatten) (fun i => ((ss.take i).flatten, (i : Int))) ss.length (fun i hi => by
      have a := hle (i + 1)
      have b := hsucc i hi
      rw [b] at a
      simp only [List.length_append] at a
      simp only [slices_Concat_byte_s3, cm_lss, decide_eq_true_eq]
      rw [if_pos (by omega), bnd (ix_some rfl hi), bnd (app_some (by omega)), ar_add, w_i64 (by omega) (by omega), b]
      simp) (by
      simp only [slices_Concat_byte_s3, cm_lss, decide_eq_true_eq]
      rw [if_neg (by omega)]
      simp)
    have h0 : (ss.take 0).flatten = ([] : List Int) := by simp
    rw [h0] at this
    have this' : loopG none (fun (s : List Int × Int) => slices_Concat_byte_s3 none ss s.1 s.2) (([] : List Int), (0 : Int)) = some ss.flatten := this
    rw [this']; rfl)
  simpa using this

end Xb.PH

set_option linter.all false
namespace Xb.PH
open Go

theorem zeros_eq {n : Int} (h0 : 0 ≤ n) (h1 : n ≤ 1000000) : pad_zeros n = some (List.replicate n.toNat 0) := by
  simp only [pad_zeros, mkL]
  rw [if_pos (by omega)]; rfl
theorem count_zero {b : List Int} (hb : ∀ y, y ∈ b → 0 ≤ y ∧ y ≤ 255) : (countB b 0 = b.length) ↔ ∀ y, y ∈ b → y = 0 := by
  have hz : (0 : Int).toNat.toUInt8 = 0 := rfl
  simp only [countB, Lib.countByte, Lib.bytesOf, hz]
  have hle : List.count 0 (b.map fun n => UInt8.ofNat n.toNat) ≤ b.length := by
    have := List.count_le_length (a := (0 : UInt8)) (l := b.map fun n => UInt8.ofNat n.toNat)
    simpa using this
  constructor
  · intro h y hy
    have h' : List.count 0 (b.map fun n => UInt8.ofNat n.toNat) = (b.map fun n => UInt8.ofNat n.toNat).length := by simp; omega
    have := List.count_eq_length.1 h' (UInt8.ofNat y.toNat) (List.mem_map.2 ⟨y, hy, rfl⟩)
    have hr := hb y hy
    have h2 := congrArg UInt8.toNat this
    simp at h2
    omega
  · intro h
    have h' : List.count 0 (b.map fun n => UInt8.ofNat n.toNat) = (b.map fun n => UInt8.ofNat n.toNat).length := by
      rw [List.count_eq_length]
      intro x hx
      obtain ⟨y, hy, rfl⟩ := List.mem_map.1 hx
      rw [h y hy]; rfl
    simp at h'; omega
theorem zero_eq {b : List Int} (hb : ∀ y, y ∈ b → 0 ≤ y ∧ y ≤ 255) : pad_Zero none b = some (decide (∀ y, y ∈ b → y = 0)) := by
  unfold pad_Zero bytes_Count
  have hc : ix [(0 : Int)] 0 = some 0 := rfl
  simp only [List.length_cons, List.length_nil, cm_eql]
  rw [if_neg (by decide), if_pos (by decide), bnd hc, Option.bind_some]
  congr 1
  exact decide_eq_decide.2 (count_zero hb)

end Xb.PH

set_option linter.all false
namespace Xb.PH
open Go

/-- how long the trailer is; 0: there is none -/
def trN (b : List Int) : Int := if b.length = 0 then 0 else if b.getD (b.length - 1) 0 > b.length then 0 else b.getD (b.length - 1) 0
theorem trN_in {b : List Int} (hb : ∀ y, y ∈ b → 0 ≤ y ∧ y ≤ 255) : 0 ≤ trN b ∧ trN b ≤ b.length := by
  unfold trN
  split
  · omega
  · rename_i h
    have : b.getD (b.length - 1) 0 ∈ b := by
      have hi : b.length - 1 < b.length := by omega
      simp [List.getD, hi]
    have := hb _ this
    split <;> omega
theorem last_ix {b : List Int} (h : b.length ≠ 0) (hl : b.length ≤ 1000000) : ix b (ar .sub .i64 (b.length : Int) 1) = some (b.getD (b.length - 1) 0) := by
  rw [ar_sub, w_i64 (by omega) (by omega), ix_getD (by omega) (by omega)]
  have : ((b.length : Int) - 1).toNat = b.length - 1 := by omega
  rw [this]
theorem padTrail_eq {b : List Int} (hb : ∀ y, y ∈ b → 0 ≤ y ∧ y ≤ 255) (hl : b.length ≤ 1000000) : pad_Trail b = some (if trN b = 0 then (0, 5) else (trN b, 0)) := by
  unfold pad_Trail trN
  by_cases h : b.length = 0
  · rw [if_pos (by rw [cm_eql]; simp [h])]; simp [h]
  · rw [if_neg (by rw [cm_eql]; simp [h]), bnd (last_ix h hl)]
    have hm : b.getD (b.length - 1) 0 ∈ b := by
      have hi : b.length - 1 < b.length := by omega
      simp [List.getD, hi]
    have hr := hb _ hm
    generalize b.getD (b.length - 1) 0 = y at *
    rw [w_i64 (by omega) (by omega), cm_eql, cm_gtr]
    simp only [h, if_false]
    by_cases h2 : y > b.length
    · rw [if_pos (by simp; omega)]; simp [h2]
    · by_cases h3 : y = 0
      · simp [h3]
      · rw [if_neg (by simp; omega)]; simp [h2, h3]
def allZ (l : List Int) : Bool := decide (∀ y, y ∈ l → y = 0)
def cleanS (b : List Int) : Bool := decide (0 < trN b) && allZ ((b.drop (b.length - (trN b).toNat)).take ((trN b).toNat - 1))
theorem sub_trail {b : List Int} (hb : ∀ y, y ∈ b → 0 ≤ y ∧ y ≤ 255) (hl : b.length ≤ 1000000) (h : 0 < trN b) :
    sub b (ar .sub .i64 (b.length : Int) (trN b)) (ar .sub .i64 (b.length : Int) 1) = some ((b.drop (b.length - (trN b).toNat)).take ((trN b).toNat - 1)) := by
  have hr := trN_in hb
  rw [ar_sub, w_i64 (by omega) (by omega), ar_sub, w_i64 (by omega) (by omega), sub_some (by omega) (by omega) (by omega)]
  congr 2
  · omega
  · congr 1; omega
theorem padClean_eq {b : List Int} (hb : ∀ y, y ∈ b → 0 ≤ y ∧ y ≤ 255) (hl : b.length ≤ 1000000) : pad_Clean none b = some (cleanS b) := by
  have hr := trN_in hb
  unfold pad_Clean cleanS
  rw [bnd (padTrail_eq hb hl)]
  by_cases h : trN b = 0
  · rw [if_pos h, cm_eql]
    simp [gTF, h]
  · rw [if_neg h, cm_eql]
    simp only [decide_true, gTT, Bool.true_and]
    rw [bnd (sub_trail hb hl (by omega)), bnd (zero_eq (fun y hy => hb y (List.mem_of_mem_drop (List.mem_of_mem_take hy))))]
    have : decide (0 < trN b) = true := decide_eq_true (by omega)
    rw [this]; simp [allZ]
theorem padAdd_eq {b : List Int} (hl : b.length ≤ 1000000) {n : Int} (h1 : 1 ≤ n) (h2 : n ≤ 255) : pad_Add none b n = some (b ++ List.replicate (n.toNat - 1) 0 ++ [n], 0) := by
  unfold pad_Add
  rw [if_neg (by rw [cm_lss, cm_gtr]; simp; omega), ar_sub, w_i64 (by omega) (by omega), bnd (zeros_eq (by omega) (by omega)), w_u8 (by omega) (by omega), bnd (concat_eq (by simp) (by simp; omega))]
  have : (n - 1).toNat = n.toNat - 1 := by omega
  rw [this]; simp
theorem trN_snoc {l : List Int} {n : Int} (_h1 : 1 ≤ n) (h2 : n ≤ l.length + 1) : trN (l ++ [n]) = n := by
  have e : (l ++ [n]).getD ((l ++ [n]).length - 1) 0 = n := by simp [List.getD]
  unfold trN
  rw [e, if_neg (by simp), if_neg (by simp; omega)]
theorem cleanS_snoc {b m : List Int} {n : Int} (h1 : 1 ≤ n) (h2 : m.length = n.toNat - 1) : cleanS (b ++ m ++ [n]) = allZ m := by
  have ht : trN (b ++ m ++ [n]) = n := trN_snoc h1 (by simp; omega)
  unfold cleanS
  rw [ht]
  have e : ((b ++ m ++ [n]).drop ((b ++ m ++ [n]).length - n.toNat)).take (n.toNat - 1) = m := by
    have : (b ++ m ++ [n]).length - n.toNat = b.length := by simp; omega
    rw [this, List.append_assoc, List.drop_left, ← h2, List.take_left]
  rw [e]
  have : decide (0 < n) = true := decide_eq_true (by omega)
  rw [this, Bool.true_and]

end Xb.PH

set_option linter.all false
namespace Xb.PH
open Go

theorem beN_cons : ∀ (i : Nat) (v : Int), 0 ≤ v → beN (i + 1) v = (v / 256 ^ i % 256) :: beN i v
  | 0, v, _ => by simp [beN]
  | i + 1, v, h => by
    rw [beN, beN_cons i (v / 256) (by omega), beN]
    rw [List.cons_append]
    congr 2
    rw [Int.ediv_ediv_of_nonneg (by omega)]
    congr 1
    rw [Int.pow_succ, Int.mul_comm]
theorem rset {n i : Nat} (l : List Int) (hi : i < n) (x : Int) : (List.replicate (n - i) (0 : Int) ++ l).set (n - 1 - i) x = List.replicate (n - (i + 1)) 0 ++ x :: l := by
  have e : n - i = (n - (i + 1)) + 1 := by omega
  rw [e, List.replicate_succ', List.append_assoc, List.set_append_right _ _ (by simp; omega)]
  have : n - 1 - i - (List.replicate (n - (i + 1)) (0 : Int)).length = 0 := by simp; omega
  rw [this]; rfl
theorem numB_bd8 {l : List Int} (hl : ∀ x, x ∈ l → 0 ≤ x ∧ x ≤ 255) {k : Nat} (hk : l.length ≤ k) : 0 ≤ numB l ∧ numB l < 256 ^ k := by
  have hbd := numB_bd l hl
  have h3 := Nat.pow_le_pow_right (show 0 < 256 by decide) hk
  have h5 : (((256 : Nat) ^ l.length : Nat) : Int) = (256 : Int) ^ l.length := Int.natCast_pow _ _
  have h6 : (((256 : Nat) ^ k : Nat) : Int) = (256 : Int) ^ k := Int.natCast_pow _ _
  have : (256 : Int) ^ l.length ≤ 256 ^ k := by rw [← h5, ← h6]; exact Int.ofNat_le.2 h3
  omega

end Xb.PH

set_option linter.all false
namespace Xb.PH
open Go

def oct (l : List Int) : Prop := ∀ x, x ∈ l → 0 ≤ x ∧ x ≤ 255
structure GoodH (h : Head) : Prop where
  type : -9223372036854775808 ≤ h.type ∧ h.type ≤ 9223372036854775807
  seq : 0 ≤ h.seq ∧ h.seq ≤ 65535
  time : 0 ≤ h.time ∧ h.time ≤ 4294967295
  ssrc : 0 ≤ h.ssrc ∧ h.ssrc ≤ 4294967295
  csrc : ∀ x, x ∈ h.csrc → 0 ≤ x ∧ x ≤ 4294967295
def RightH (h : Head) : Prop := 0 ≤ h.type ∧ h.type ≤ 127 ∧ h.csrc.length ≤ 15
instance (h : Head) : Decidable (RightH h) := inferInstanceAs (Decidable (_ ∧ _))
def hN (h : Head) : Int := 128 + (if h.hasPad then 32 else 0) + (if h.hasExt then 16 else 0) + h.csrc.length
def hT (h : Head) : Int := (if h.marker then 128 else 0) + h.type
def csB (l : List Int) : List Int := l.flatMap (beN 4)
def encH (h : Head) : List Int := [hN h, hT h] ++ (beN 2 h.seq ++ (beN 4 h.time ++ (beN 4 h.ssrc ++ csB h.csrc)))
theorem csB_len (l : List Int) : (csB l).length = 4 * l.length := by
  induction l with
  | nil => rfl
  | cons a l ih => simp only [csB, List.flatMap_cons, List.length_append, beN_len, List.length_cons] at *; omega
theorem csB_take (l : List Int) (i : Nat) (hi : i < l.length) : csB (l.take (i + 1)) = csB (l.take i) ++ beN 4 l[i] := by
  simp only [csB]
  rw [List.take_add_one, List.getElem?_eq_getElem hi, Option.toList_some, List.flatMap_append, List.flatMap_singleton]
theorem encH_len (h : Head) : (encH h).length = 12 + 4 * h.csrc.length := by
  simp only [encH, List.length_append, beN_len, csB_len, List.length_cons, List.length_nil]; omega
theorem oct_app {a b : List Int} (ha : oct a) (hb : oct b) : oct (a ++ b) := fun x hx => (List.mem_append.1 hx).elim (ha x) (hb x)
theorem oct_be (n : Nat) (v : Int) : oct (beN n v) := beN_byte n v
theorem oct_csB (l : List Int) : oct (csB l) := fun x hx => by
  obtain ⟨y, _, hy⟩ := List.mem_flatMap.1 hx
  exact beN_byte 4 y x hy
theorem oct_drop {a : List Int} (h : oct a) (n : Nat) : oct (a.drop n) := fun x hx => h x (List.mem_of_mem_drop hx)
theorem oct_take {a : List Int} (h : oct a) (n : Nat) : oct (a.take n) := fun x hx => h x (List.mem_of_mem_take hx)
theorem hN_in {h : Head} (hr : RightH h) : 0 ≤ hN h ∧ hN h ≤ 255 := by
  have := hr.2.2
  unfold hN
  split <;> split <;> omega
theorem hT_in {h : Head} (hr : RightH h) : 0 ≤ hT h ∧ hT h ≤ 255 := by
  have := hr.1; have := hr.2.1
  unfold hT
  split <;> omega
theorem oct_encH {h : Head} (hr : RightH h) : oct (encH h) := by
  refine oct_app (fun x hx => ?_) (oct_app (oct_be _ _) (oct_app (oct_be _ _) (oct_app (oct_be _ _) (oct_csB _))))
  simp only [List.mem_cons, List.not_mem_nil, or_false] at hx
  rcases hx with rfl | rfl
  · exact hN_in hr
  · exact hT_in hr
theorem headRight_eq {h : Head} : head_Right h = decide (RightH h) := by
  show head_Right h = decide (0 ≤ h.type ∧ h.type ≤ 127 ∧ h.csrc.length ≤ 15)
  rw [Bool.eq_iff_iff]
  simp only [head_Right, cm_geq, cm_leq, Bool.and_eq_true, decide_eq_true_eq, RightH]
  omega
theorem headSize_eq {h : Head} (hr : RightH h) : head_Size h = 12 + 4 * (h.csrc.length : Int) := by
  have := hr.2.2
  unfold head_Size
  rw [headRight_eq, decide_eq_true hr, if_neg (by decide), ar_mul, w_i64 (by omega) (by omega), ar_add, w_i64 (by omega) (by omega)]
theorem four_eq {n : Int} (h0 : 0 ≤ n) (h1 : n ≤ 4294967295) : head_four n = some (beN 4 n) := by
  unfold head_four
  have : octet_Put n 4 = some (beN 4 n, 0) := put_eq (v := n) (n := 4) h0 (by omega) (by omega) (.inr (by omega))
  rw [w_u64 (by omega) (by omega), bnd this]
theorem put2_eq {n : Int} (h0 : 0 ≤ n) (h1 : n ≤ 65535) : octet_Put (IntKind.u64.wrap n) 2 = some (beN 2 n, 0) := by
  have := put_eq (v := n) (n := 2) h0 (by omega) (by omega) (.inr (by omega))
  rw [w_u64 (by omega) (by omega)]
  exact this
theorem flag_eq (b : Bool) (n : Int) : head_flag b n = if b then n else 0 := rfl
theorem or8 {x y a : Int} {n : Nat} (hx : x = a * 2 ^ n) (ha : 0 ≤ a) (h0 : 0 ≤ y) (hy : y < 2 ^ n) (hx2 : x < 256) (hn : n ≤ 8) : ar .or .u8 x y = x + y :=
  ar_or_add (k := .u8) rfl hx ha h0 hy (by simp [IntKind.bits]; omega) (by simpa [IntKind.bits] using hn)
theorem first_eq {h : Head} (hr : RightH h) : ar .or .u8 (ar .or .u8 (ar .or .u8 128 (head_flag h.hasPad 32)) (head_flag h.hasExt 16)) (IntKind.u8.wrap (h.csrc.length : Int)) = hN h := by
  have h3 := hr.2.2
  rw [flag_eq, flag_eq, w_u8 (by omega) (by omega)]
  unfold hN
  have e00 : ar .or .u8 (ar .or .u8 128 0) 0 = 128 := by decide
  have e01 : ar .or .u8 (ar .or .u8 128 0) 16 = 144 := by decide
  have e10 : ar .or .u8 (ar .or .u8 128 32) 0 = 160 := by decide
  have e11 : ar .or .u8 (ar .or .u8 128 32) 16 = 176 := by decide
  cases h.hasPad <;> cases h.hasExt <;> simp only [if_true, if_false, Bool.false_eq_true, e00, e01, e10, e11]
  · rw [or8 (a := 8) (n := 4) (by omega) (by omega) (by omega) (by omega) (by omega) (by omega)]; omega
  · rw [or8 (a := 9) (n := 4) (by omega) (by omega) (by omega) (by omega) (by omega) (by omega)]; omega
  · rw [or8 (a := 10) (n := 4) (by omega) (by omega) (by omega) (by omega) (by omega) (by omega)]; omega
  · rw [or8 (a := 11) (n := 4) (by omega) (by omega) (by omega) (by omega) (by omega) (by omega)]; omega
theorem second_eq {h : Head} (hr : RightH h) : ar .or .u8 (head_flag h.marker 128) (IntKind.u8.wrap h.type) = hT h := by
  have h1 := hr.1; have h2 := hr.2.1
  rw [flag_eq, w_u8 (by omega) (by omega)]
  unfold hT
  cases h.marker <;> simp only [if_true, if_false, Bool.false_eq_true]
  · rw [or8 (x := 0) (a := 0) (n := 7) (by omega) (by omega) (by omega) (by omega) (by omega) (by omega)]
  · rw [or8 (x := 128) (a := 1) (n := 7) (by omega) (by omega) (by omega) (by omega) (by omega) (by omega)]
theorem headWrite_eq {h : Head} (hg : GoodH h) (hr : RightH h) : head_Write none h = some (encH h, 0) := by
  have h3 := hr.2.2
  unfold head_Write
  rw [headRight_eq, decide_eq_true hr, if_neg (by decide), bnd (put2_eq hg.seq.1 hg.seq.2), bnd (four_eq hg.time.1 hg.time.2), bnd (four_eq hg.ssrc.1 hg.ssrc.2), first_eq hr, second_eq hr]
  have hj : octet_Join none [[hN h, hT h], beN 2 h.seq, beN 4 h.time, beN 4 h.ssrc] = some ([hN h, hT h] ++ (beN 2 h.seq ++ (beN 4 h.time ++ beN 4 h.ssrc))) := by
    unfold octet_Join
    rw [bnd (concat_eq (by simp) (by simp [beN_len]))]
    simp
  rw [bnd hj]
  unfold head_Write_l1
  have := loop_seq (step := fun (s : List Int × Int) => head_Write_s1 none h s.1 s.2) (r := (encH h, 0)) (fun i => ([hN h, hT h] ++ (beN 2 h.seq ++ (beN 4 h.time ++ beN 4 h.ssrc)) ++ csB (h.csrc.take i), (i : Int))) h.csrc.length (fun i hi => by
    show head_Write_s1 none h _ (i : Int) = _
    have hc := hg.csrc h.csrc[i] (List.getElem_mem hi)
    unfold head_Write_s1
    rw [if_pos (by rw [cm_lss]; simpa using hi), bnd (ix_some (n := i) rfl hi), bnd (four_eq hc.1 hc.2), bnd (app_some (by simp [beN_len, csB_len]; omega)), ar_add, w_i64 (by omega) (by omega), csB_take _ _ hi]
    simp) (by
    show head_Write_s1 none h _ _ = _
    unfold head_Write_s1
    rw [if_neg (by rw [cm_lss]; simp)]
    simp [encH])
  simpa [csB] using this
theorem number_eq {b : List Int} (hb : oct b) (h1 : 1 ≤ b.length) (h4 : b.length ≤ 4) : head_number none b = some (numB b) := by
  unfold head_number
  have hget := get_eq (b := b) (at_ := 0) (n := b.length) h1 (by omega) hb (by omega) (by omega)
  simp only [List.drop_zero, List.take_length] at hget
  have hget : octet_Get none b 0 (b.length : Int) = some (numB b, 0) := hget
  have hbd := numB_bd b hb
  have hp : (256 : Int) ^ b.length ≤ 256 ^ 4 := by
    have h3 := Nat.pow_le_pow_right (show 0 < 256 by decide) h4
    have h5 : (((256 : Nat) ^ b.length : Nat) : Int) = (256 : Int) ^ b.length := Int.natCast_pow _ _
    have h6 : (((256 : Nat) ^ 4 : Nat) : Int) = (256 : Int) ^ 4 := Int.natCast_pow _ _
    rw [← h5, ← h6]; exact Int.ofNat_le.2 h3
  have h256 : (256 : Int) ^ 4 = 4294967296 := by decide
  rw [bnd hget]
  simp only []
  rw [w_u32 (by omega) (by omega)]
def b0 (b : List Int) : Int := b.getD 0 0
def b1 (b : List Int) : Int := b.getD 1 0
def nC (b : List Int) : Nat := (b0 b).toNat % 16
def seg (b : List Int) (i n : Nat) : List Int := (b.drop i).take n
def decH (b : List Int) : Head :=
  ⟨decide (b0 b / 32 % 2 = 1), decide (b0 b / 16 % 2 = 1), decide (128 ≤ b1 b), b1 b % 128, numB (seg b 2 2), numB (seg b 4 4), numB (seg b 8 4), (chunksL 4 (seg b 12 (4 * nC b))).map numB⟩
def headE (b : List Int) : Int := if b.length < 12 then 2 else if b0 b / 64 ≠ 2 then 3 else if b.length < 12 + 4 * nC b then 2 else 0
def zeroH : Head := Head.mk false false false 0 0 0 0 []
def readH (b : List Int) : Head × Int × Int := if headE b = 0 then (decH b, 12 + 4 * (nC b : Int), 0) else (zeroH, 0, headE b)
theorem seg_len {b : List Int} {i n : Nat} (h : i + n ≤ b.length) : (seg b i n).length = n := by
  simp only [seg, List.length_take, List.length_drop]; omega
theorem oct_seg {b : List Int} (hb : oct b) (i n : Nat) : oct (seg b i n) := oct_take (oct_drop hb i) n
theorem b0_in {b : List Int} (hb : oct b) : 0 ≤ b0 b ∧ b0 b ≤ 255 := by
  unfold b0
  rw [List.getD_eq_getElem?_getD]
  cases h : b[0]? with
  | none => simp
  | some x => simpa using hb x (List.mem_of_getElem? h)
theorem b1_in {b : List Int} (hb : oct b) : 0 ≤ b1 b ∧ b1 b ≤ 255 := by
  unfold b1
  rw [List.getD_eq_getElem?_getD]
  cases h : b[1]? with
  | none => simp
  | some x => simpa using hb x (List.mem_of_getElem? h)
theorem num_in4 {l : List Int} (hl : oct l) (h4 : l.length = 4) : 0 ≤ numB l ∧ numB l ≤ 4294967295 := by
  have := numB_bd l hl; rw [h4] at this; omega
theorem num_in2 {l : List Int} (hl : oct l) (h4 : l.length = 2) : 0 ≤ numB l ∧ numB l ≤ 65535 := by
  have := numB_bd l hl; rw [h4] at this; omega
theorem chunk4_mem {b : List Int} (hb : oct b) (h : 12 + 4 * nC b ≤ b.length) {c : List Int} (hc : c ∈ chunksL 4 (seg b 12 (4 * nC b))) : c.length = 4 ∧ oct c :=
  ⟨chunks_len (by omega) (by rw [seg_len h]; omega) c hc, fun x hx => oct_seg hb _ _ x (chunks_mem hc hx)⟩
theorem nC_csrc {b : List Int} (h : 12 + 4 * nC b ≤ b.length) : (decH b).csrc.length = nC b := by
  simp only [decH, List.length_map]
  rw [chunks_count (by omega) (by rw [seg_len h]; omega), seg_len h]; omega
theorem goodH_dec {b : List Int} (hb : oct b) (h : 12 + 4 * nC b ≤ b.length) : GoodH (decH b) ∧ RightH (decH b) := by
  have h0 := b1_in hb
  refine ⟨⟨?_, num_in2 (oct_seg hb _ _) (seg_len (by omega)), num_in4 (oct_seg hb _ _) (seg_len (by omega)), num_in4 (oct_seg hb _ _) (seg_len (by omega)), fun x hx => ?_⟩, ?_⟩
  · show -9223372036854775808 ≤ b1 b % 128 ∧ b1 b % 128 ≤ 9223372036854775807; omega
  · obtain ⟨c, hc, rfl⟩ := List.mem_map.1 hx
    have := chunk4_mem hb h hc
    exact num_in4 this.2 this.1
  · refine ⟨?_, ?_, ?_⟩
    · show 0 ≤ b1 b % 128; omega
    · show b1 b % 128 ≤ 127; omega
    · rw [nC_csrc h]; unfold nC; omega
theorem fold_csrc {done : Head → Option (Head × Int × Int)} : ∀ (L : List (List Int)) (h : Head), (∀ c, c ∈ L → c.length = 4 ∧ oct c) → h.csrc.length + L.length ≤ 1000000 →
    foldX (fun (y1 : List Int) (s : Head) => head_Read_s1 none y1 s) done L h = done { h with csrc := h.csrc ++ L.map numB }
  | [], h, _, _ => by simp [foldX]
  | c :: L, h, hL, hn => by
    simp only [List.length_cons] at hn
    have hc := hL c (by simp)
    have e : head_Read_s1 none c h = some (.inl { h with csrc := h.csrc ++ [numB c] }) := by
      unfold head_Read_s1
      rw [bnd (number_eq hc.2 (by omega) (by omega)), bnd (app_some (by simp; omega))]
    simp only [foldX, e]
    rw [fold_csrc L _ (fun d hd => hL d (by simp [hd])) (by simp; omega)]
    simp
theorem and15 {x : Int} (h0 : 0 ≤ x) (h1 : x ≤ 255) : ar .and .u8 x 15 = x % 16 := ar_mask (k := .u8) (n := 4) rfl (by decide) (by decide) h0 (by simp [IntKind.bits]; omega)
theorem and127 {x : Int} (h0 : 0 ≤ x) (h1 : x ≤ 255) : ar .and .u8 x 127 = x % 128 := ar_mask (k := .u8) (n := 7) rfl (by decide) (by decide) h0 (by simp [IntKind.bits]; omega)
theorem and32 {x : Int} (h0 : 0 ≤ x) (h1 : x ≤ 255) : ar .and .u8 x 32 = x / 32 % 2 * 32 := ar_bit (k := .u8) (n := 5) rfl (by decide) h0 (by simp [IntKind.bits]; omega)
theorem and16 {x : Int} (h0 : 0 ≤ x) (h1 : x ≤ 255) : ar .and .u8 x 16 = x / 16 % 2 * 16 := ar_bit (k := .u8) (n := 4) rfl (by decide) h0 (by simp [IntKind.bits]; omega)
theorem and128 {x : Int} (h0 : 0 ≤ x) (h1 : x ≤ 255) : ar .and .u8 x 128 = x / 128 % 2 * 128 := ar_bit (k := .u8) (n := 7) rfl (by decide) h0 (by simp [IntKind.bits]; omega)
theorem headRead_eq {b : List Int} (hb : oct b) (hl : b.length ≤ 100000) : head_Read none b = some (readH b) := by
  have i0 := b0_in hb
  have i1 := b1_in hb
  unfold head_Read readH headE zeroH
  by_cases h1 : b.length < 12
  · rw [if_pos (by rw [cm_lss]; simp; omega), if_pos h1, if_neg (by decide)]
  · have x0 : ix b 0 = some (b0 b) := ix_getD (by omega) (by omega)
    have x1 : ix b 1 = some (b1 b) := ix_getD (by omega) (by omega)
    have esh : sf .shr .u8 (b0 b) 6 = b0 b / 64 := sf_shr (y := 6) (n := 6) rfl (by decide)
    rw [if_neg (by rw [cm_lss]; simp; omega), bnd x0, bnd x0, esh, if_neg h1]
    by_cases h2 : b0 b / 64 = 2
    · rw [if_neg (by rw [cm_neq]; simp [h2]), if_neg (show ¬ b0 b / 64 ≠ 2 by simp [h2])]
      have en : ar .add .i64 12 (ar .mul .i64 4 (IntKind.i64.wrap (ar .and .u8 (b0 b) 15))) = 12 + 4 * (nC b : Int) := by
        rw [and15 i0.1 i0.2, w_i64 (by omega) (by omega), ar_mul, w_i64 (by omega) (by omega), ar_add, w_i64 (by omega) (by omega)]
        unfold nC; omega
      rw [en]
      by_cases h3 : b.length < 12 + 4 * nC b
      · rw [if_pos (by rw [cm_lss]; simp; omega), if_pos h3, if_neg (by decide)]
      · have s1 : sub b 2 4 = some (seg b 2 2) := sub_some (by omega) (by omega) (by omega)
        have s2 : sub b 4 8 = some (seg b 4 4) := sub_some (by omega) (by omega) (by omega)
        have s3 : sub b 8 12 = some (seg b 8 4) := sub_some (by omega) (by omega) (by omega)
        have s4 : sub b 12 (12 + 4 * (nC b : Int)) = some (seg b 12 (4 * nC b)) := by
          rw [sub_some (by omega) (by omega) (by omega)]
          have e : (12 + 4 * (nC b : Int)).toNat - (12 : Int).toNat = 4 * nC b := by omega
          rw [e]; rfl
        have q1 := seg_len (b := b) (i := 2) (n := 2) (by omega)
        have q2 := seg_len (b := b) (i := 4) (n := 4) (by omega)
        have q3 := seg_len (b := b) (i := 8) (n := 4) (by omega)
        have q4 := seg_len (b := b) (i := 12) (n := 4 * nC b) (by omega)
        have r1 := num_in2 (oct_seg hb 2 2) q1
        have hn16 : nC b ≤ 15 := by unfold nC; omega
        rw [if_neg (by rw [cm_lss]; simp; omega), bnd x0, bnd x0, bnd x1, bnd x1, bnd s1, bnd (number_eq (oct_seg hb _ _) (by omega) (by omega)), bnd s2, bnd (number_eq (oct_seg hb _ _) (by omega) (by omega)),
          bnd s3, bnd (number_eq (oct_seg hb _ _) (by omega) (by omega)), bnd s4, if_neg h3, if_pos rfl]
        have l4 : lnO (seg b 12 (4 * nC b)) = some () := by simp [lnO, q4]; omega
        rw [bnd l4]
        unfold head_Read_l1
        rw [fold_csrc _ _ (fun c hc => chunk4_mem hb (by omega) hc) (by rw [chunks_count (by omega) (by rw [q4]; omega), q4]; simp; omega)]
        unfold head_Read_d1
        rw [en, and32 i0.1 i0.2, and16 i0.1 i0.2, and128 i1.1 i1.2, and127 i1.1 i1.2, w_u16 r1.1 r1.2, w_i64 (n := b1 b % 128) (by omega) (by omega)]
        have d1 : cm .gtr (b0 b / 32 % 2 * 32) 0 = decide (b0 b / 32 % 2 = 1) := by rw [cm_gtr]; exact decide_eq_decide.2 (by omega)
        have d2 : cm .gtr (b0 b / 16 % 2 * 16) 0 = decide (b0 b / 16 % 2 = 1) := by rw [cm_gtr]; exact decide_eq_decide.2 (by omega)
        have d3 : cm .gtr (b1 b / 128 % 2 * 128) 0 = decide (128 ≤ b1 b) := by rw [cm_gtr]; exact decide_eq_decide.2 (by omega)
        rw [d1, d2, d3]
        simp [decH]
    · rw [if_pos (by rw [cm_neq]; simpa using h2), if_pos h2, if_neg (by decide)]
/-- what was written is read -/
theorem b0_enc (h : Head) (r : List Int) : b0 (encH h ++ r) = hN h := rfl
theorem b1_enc (h : Head) (r : List Int) : b1 (encH h ++ r) = hT h := rfl
theorem nC_enc {h : Head} (hr : RightH h) (r : List Int) : nC (encH h ++ r) = h.csrc.length := by
  have := hr.2.2
  unfold nC; rw [b0_enc]; unfold hN
  split <;> split <;> omega
theorem headE_enc {h : Head} (hr : RightH h) (r : List Int) : headE (encH h ++ r) = 0 := by
  have h3 := hr.2.2
  unfold headE
  rw [nC_enc hr, b0_enc, List.length_append, encH_len, if_neg (by omega), if_neg (by unfold hN; split <;> split <;> omega), if_neg (by omega)]
theorem seg_skip {a r : List Int} {i n k : Nat} (h : a.length = k) : seg (a ++ r) (k + i) n = seg r i n := by
  simp only [seg]
  rw [← List.drop_drop, ← h, List.drop_left]
theorem seg_take {a r : List Int} {n : Nat} (h : a.length = n) : seg (a ++ r) 0 n = a := by
  simp only [seg, List.drop_zero]
  exact List.take_left' h
theorem decH_enc {h : Head} (hg : GoodH h) (hr : RightH h) (r : List Int) : decH (encH h ++ r) = h := by
  have h1 := hr.1; have h2 := hr.2.1; have h3 := hr.2.2
  have e : encH h ++ r = [hN h, hT h] ++ (beN 2 h.seq ++ (beN 4 h.time ++ (beN 4 h.ssrc ++ (csB h.csrc ++ r)))) := by simp [encH]
  have s1 : seg (encH h ++ r) 2 2 = beN 2 h.seq := by
    rw [e, seg_skip (k := 2) (i := 0) rfl, seg_take (beN_len _ _)]
  have s2 : seg (encH h ++ r) 4 4 = beN 4 h.time := by
    rw [e, seg_skip (k := 2) (i := 2) rfl, seg_skip (k := 2) (i := 0) (beN_len _ _), seg_take (beN_len _ _)]
  have s3 : seg (encH h ++ r) 8 4 = beN 4 h.ssrc := by
    rw [e, seg_skip (k := 2) (i := 6) rfl, seg_skip (k := 2) (i := 4) (beN_len _ _), seg_skip (k := 4) (i := 0) (beN_len _ _), seg_take (beN_len _ _)]
  have s4 : seg (encH h ++ r) 12 (4 * h.csrc.length) = csB h.csrc := by
    rw [e, seg_skip (k := 2) (i := 10) rfl, seg_skip (k := 2) (i := 8) (beN_len _ _), seg_skip (k := 4) (i := 4) (beN_len _ _), seg_skip (k := 4) (i := 0) (beN_len _ _), seg_take (csB_len _)]
  have c : (chunksL 4 (csB h.csrc)).map numB = h.csrc := by
    have : chunksL 4 (csB h.csrc) = h.csrc.map (beN 4) := by
      unfold csB
      rw [List.flatMap_def]
      exact chunks_of (by omega) _ fun c hc => by
        obtain ⟨y, _, rfl⟩ := List.mem_map.1 hc
        exact beN_len 4 y
    rw [this, List.map_map]
    conv => rhs; rw [← List.map_id h.csrc]
    apply List.map_congr_left
    intro x hx
    have := hg.csrc x hx
    exact num_be 4 x this.1 (by omega)
  unfold decH
  rw [nC_enc hr, s1, s2, s3, s4, c, b0_enc, b1_enc, num_be 2 _ hg.seq.1 (by have := hg.seq.2; omega), num_be 4 _ hg.time.1 (by have := hg.time.2; omega), num_be 4 _ hg.ssrc.1 (by have := hg.ssrc.2; omega)]
  obtain ⟨p, x, m, t, sq, tm, ss, cs⟩ := h
  simp only [hN, hT] at *
  congr 1
  · cases p <;> cases x <;> simp <;> omega
  · cases p <;> cases x <;> simp <;> omega
  · cases m <;> simp <;> omega
  · cases m <;> simp <;> omega
theorem readH_enc {h : Head} (hg : GoodH h) (hr : RightH h) (r : List Int) : readH (encH h ++ r) = (h, 12 + 4 * (h.csrc.length : Int), 0) := by
  unfold readH
  rw [headE_enc hr, if_pos rfl, decH_enc hg hr, nC_enc hr]
/-- what was read is written -/
theorem encH_dec {b : List Int} (hb : oct b) (h : headE b = 0) : encH (decH b) = b.take (12 + 4 * nC b) := by
  have i0 := b0_in hb
  have i1 := b1_in hb
  unfold headE at h
  have h1 : ¬ b.length < 12 := fun hh => by rw [if_pos hh] at h; cases h
  rw [if_neg h1] at h
  have h2 : b0 b / 64 = 2 := by
    refine Classical.byContradiction fun hh => ?_
    rw [if_pos hh] at h; cases h
  rw [if_neg (by simpa using h2)] at h
  have h3 : ¬ b.length < 12 + 4 * nC b := fun hh => by rw [if_pos hh] at h; cases h
  have hn : hN (decH b) = b0 b := by
    unfold hN
    rw [nC_csrc (by omega)]
    simp only [decH, decide_eq_true_eq]
    unfold nC
    split <;> split <;> omega
  have ht : hT (decH b) = b1 b := by
    unfold hT
    simp only [decH, decide_eq_true_eq]
    split <;> omega
  have c : csB (decH b).csrc = seg b 12 (4 * nC b) := by
    simp only [decH, csB]
    rw [List.flatMap_def, List.map_map]
    conv => rhs; rw [← chunks_flat (n := 4) (by omega) (seg b 12 (4 * nC b)), ← List.map_id (chunksL 4 (seg b 12 (4 * nC b)))]
    congr 1
    apply List.map_congr_left
    intro c hc
    have := chunk4_mem hb (by omega) hc
    have hh := be_num c this.2
    rw [this.1] at hh
    exact hh
  have s1 : beN 2 (decH b).seq = seg b 2 2 := by
    have := be_num (seg b 2 2) (oct_seg hb _ _)
    rw [seg_len (by omega)] at this; exact this
  have s2 : beN 4 (decH b).time = seg b 4 4 := by
    have := be_num (seg b 4 4) (oct_seg hb _ _)
    rw [seg_len (by omega)] at this; exact this
  have s3 : beN 4 (decH b).ssrc = seg b 8 4 := by
    have := be_num (seg b 8 4) (oct_seg hb _ _)
    rw [seg_len (by omega)] at this; exact this
  unfold encH
  rw [hn, ht, s1, s2, s3, c]
  have step : ∀ (i n m : Nat), seg b i (n + m) = seg b i n ++ seg b (i + n) m := by
    intro i n m
    simp only [seg]
    rw [List.take_add, List.drop_drop]
  have e : b.take (12 + 4 * nC b) = seg b 0 2 ++ (seg b 2 2 ++ (seg b 4 4 ++ (seg b 8 4 ++ seg b 12 (4 * nC b)))) := by
    have : b.take (12 + 4 * nC b) = seg b 0 (2 + (2 + (4 + (4 + 4 * nC b)))) := by
      simp only [seg, List.drop_zero]; congr 1; omega
    rw [this, step 0 2, step 2 2, step 4 4, step 8 4]
  rw [e]
  congr 1
  match b, h1 with
  | [], h => simp at h
  | [_], h => simp at h
  | x :: y :: l, _ => rfl

end Xb.PH

set_option linter.all false
namespace Xb.PH
open Go

theorem chunk_seg (b : List Int) (k : Nat) (h : 12 + 4 * k ≤ b.length) : (chunksL 4 (seg b 12 (4 * k))).map numB = (List.range k).map fun j => numB (seg b (12 + 4 * j) 4) := by
  have hl : (seg b 12 (4 * k)).length = 4 * k := seg_len h
  simp only [chunksL, hl]
  have e : (4 * k + 4 - 1) / 4 = k := by omega
  rw [e, List.map_map]
  apply List.map_congr_left
  intro j hj
  have hj := List.mem_range.1 hj
  simp only [Function.comp, seg]
  congr 1
  rw [List.drop_take, List.drop_drop, List.take_take]
  congr 1
  · omega
  · congr 1; omega
theorem numbers_eq (a b : List Int) (hl : a.length ≤ 1000000) : ref05_Numbers none a b = some (decide (a = b)) := by
  unfold ref05_Numbers
  by_cases h : a.length = b.length
  · rw [if_neg (by rw [cm_neq]; simp; omega)]
    unfold ref05_Numbers_l1
    refine same_loop h (step := fun s => ref05_Numbers_s1 none a b s) ?_ fun i hi hi' => ?_
    · show ref05_Numbers_s1 none a b _ = _
      unfold ref05_Numbers_s1
      rw [if_neg (by rw [cm_lss]; simp)]
      rfl
    · show ref05_Numbers_s1 none a b _ = _
      unfold ref05_Numbers_s1
      rw [if_pos (by rw [cm_lss]; simpa using hi), bnd (ix_some (n := i) rfl hi), bnd (ix_some (n := i) rfl hi'), cm_neq]
      by_cases he : a[i] ≠ b[i]
      · rw [if_pos (by simpa using he), if_pos he]; rfl
      · rw [if_neg (by simpa using he), if_neg he, ar_add, w_i64 (by omega) (by omega)]
        rfl
  · rw [if_pos (by rw [cm_neq]; simp; omega)]
    have : a ≠ b := fun e => h (by rw [e])
    simp [this]
theorem bq_eql (a b : Bool) : bq .eql a b = decide (a = b) := by cases a <;> cases b <;> rfl
theorem sameH_eq (a b : Head) (hl : a.csrc.length ≤ 1000000) : ref05_Same none a b = some (decide (a = b)) := by
  unfold ref05_Same
  rw [numbers_eq _ _ hl]
  simp only [bq_eql, cm_eql]
  obtain ⟨a1, a2, a3, a4, a5, a6, a7, a8⟩ := a
  obtain ⟨c1, c2, c3, c4, c5, c6, c7, c8⟩ := b
  simp only [Head.mk.injEq]
  by_cases hc : decide (a1 = c1) && decide (a2 = c2) && decide (a3 = c3) && decide (a4 = c4) && decide (a5 = c5) && decide (a6 = c6) && decide (a7 = c7)
  · rw [hc, gTT, Option.bind_some]
    congr 1
    simp only [Bool.and_eq_true, decide_eq_true_eq] at hc
    simp [hc]
  · simp only [Bool.not_eq_true] at hc
    rw [hc, gTF, Option.bind_some, Bool.false_and]
    congr 1
    symm
    rw [decide_eq_false_iff_not]
    rintro ⟨e1, e2, e3, e4, e5, e6, e7, _⟩
    simp [e1, e2, e3, e4, e5, e6, e7] at hc
structure GoodP (p : Packet) : Prop where
  h : GoodH p.head
  pr : 0 ≤ p.profile ∧ p.profile ≤ 65535
  ext : oct p.ext
  pay : oct p.payload
theorem sameP_eq {a b : Packet} (ha : GoodP a) (hb : GoodP b) (hl : a.head.csrc.length ≤ 1000000) : ref06_Same none a b = some (decide (a = b)) := by
  unfold ref06_Same
  rw [bnd (sameH_eq _ _ hl), sc_b2s ha.ext hb.ext, sc_b2s ha.pay hb.pay, cm_eql, cm_eql]
  congr 1
  obtain ⟨a1, a2, a3, a4, a5⟩ := a
  obtain ⟨c1, c2, c3, c4, c5⟩ := b
  rw [Bool.eq_iff_iff]
  simp only [Bool.and_eq_true, decide_eq_true_eq, Packet.mk.injEq]
  constructor
  · rintro ⟨⟨⟨⟨e1, e2⟩, e3⟩, e4⟩, e5⟩; exact ⟨e1, e2, e3, e4, e5⟩
  · rintro ⟨e1, e2, e3, e4, e5⟩; exact ⟨⟨⟨⟨e1, e2⟩, e3⟩, e4⟩, e5⟩

end Xb.PH

set_option linter.all false
namespace Xb.PH
open Go

def extB (p : Packet) : List Int := if p.head.hasExt then beN 2 p.profile ++ (beN 2 ((p.ext.length / 4 : Nat) : Int) ++ p.ext) else []
def encX (p : Packet) : List Int := encH p.head ++ extB p
def padB (p : Packet) : List Int := if p.head.hasPad then List.replicate (p.pad.toNat - 1) 0 ++ [p.pad] else []
def encP (p : Packet) : List Int := encX p ++ (p.payload ++ padB p)
def extN (p : Packet) : Int := if p.head.hasExt then 4 + p.ext.length else 0
def padN (p : Packet) : Int := if p.head.hasPad then p.pad else 0
def sizeP (p : Packet) : Int := 12 + 4 * p.head.csrc.length + extN p + p.payload.length + padN p
def ExtOk (p : Packet) : Prop := if p.head.hasExt then p.ext.length % 4 = 0 ∧ p.ext.length ≤ 262140 else p.profile = 0 ∧ p.ext.length = 0
def PadOk (p : Packet) : Prop := if p.head.hasPad then 1 ≤ p.pad ∧ p.pad ≤ 255 else p.pad = 0
instance (p : Packet) : Decidable (ExtOk p) := by unfold ExtOk; exact inferInstance
instance (p : Packet) : Decidable (PadOk p) := by unfold PadOk; exact inferInstance
def RightP (p : Packet) : Prop := RightH p.head ∧ ExtOk p ∧ PadOk p ∧ p.payload.length ≤ 65535 ∧ sizeP p ≤ 65535
instance (p : Packet) : Decidable (RightP p) := inferInstanceAs (Decidable (_ ∧ _))
theorem padN_in {p : Packet} (h : PadOk p) : 0 ≤ padN p ∧ padN p ≤ 255 ∧ p.pad = padN p := by
  unfold PadOk at h; unfold padN
  split at h <;> rename_i hh <;> simp [hh] <;> omega
theorem extended_eq {p : Packet} (hl : p.ext.length ≤ 1000000) : packet_extended p = decide (ExtOk p) := by
  unfold packet_extended
  cases hx : p.head.hasExt
  · rw [if_pos (by rfl), Bool.eq_iff_iff]
    simp only [cm_eql, Bool.and_eq_true, decide_eq_true_eq, ExtOk, hx, Bool.false_eq_true, if_false]
    omega
  · rw [if_neg (by simp), Bool.eq_iff_iff, dv_rem (by omega), dv_quo (by omega), w_i64 (by omega) (by omega)]
    simp only [cm_eql, cm_leq, Bool.and_eq_true, decide_eq_true_eq, ExtOk, hx, if_true]
    omega
theorem padded_eq {p : Packet} : packet_padded p = decide (PadOk p) := by
  unfold packet_padded
  cases hx : p.head.hasPad
  · rw [if_pos (by rfl), Bool.eq_iff_iff]
    simp only [cm_eql, decide_eq_true_eq, PadOk, hx, Bool.false_eq_true, if_false]
  · rw [if_neg (by simp), Bool.eq_iff_iff]
    simp only [cm_geq, cm_leq, Bool.and_eq_true, decide_eq_true_eq, PadOk, hx, if_true]
structure ShortP (p : Packet) : Prop where
  c : p.head.csrc.length ≤ 99
  e : p.ext.length ≤ 300000
  y : p.payload.length ≤ 70000
theorem total_eq {p : Packet} (hs : ShortP p) (hr : RightH p.head) (hx : ExtOk p) (hp : PadOk p) : packet_total p = sizeP p := by
  have h1 := hs.c; have h2 := hs.e; have h3 := hs.y
  obtain ⟨q1, q2, q3⟩ := padN_in hp
  unfold packet_total packet_total_j1 sizeP extN
  rw [headSize_eq hr]
  have e0 : ar .add .i64 (ar .add .i64 (ar .add .i64 (12 + 4 * (p.head.csrc.length : Int)) (p.ext.length : Int)) (p.payload.length : Int)) p.pad = 12 + 4 * (p.head.csrc.length : Int) + p.ext.length + p.payload.length + padN p := by
    rw [q3]
    rw [ar_add (x := 12 + 4 * (p.head.csrc.length : Int)), w_i64 (by omega) (by omega), ar_add (y := (p.payload.length : Int)), w_i64 (by omega) (by omega), ar_add, w_i64 (by omega) (by omega)]
  rw [e0]
  cases hxx : p.head.hasExt
  · simp only [Bool.false_eq_true, if_false]
    unfold ExtOk at hx; rw [hxx] at hx; simp at hx
    simp [hx]
  · simp only [if_true]
    rw [ar_add, w_i64 (by omega) (by omega)]; omega
theorem right_eq {p : Packet} (hs : ShortP p) : packet_Right p = decide (RightP p) := by
  unfold packet_Right
  rw [headRight_eq, extended_eq (by have := hs.e; omega), padded_eq, cm_leq, cm_leq]
  by_cases h : RightH p.head ∧ ExtOk p ∧ PadOk p
  · rw [total_eq hs h.1 h.2.1 h.2.2, Bool.eq_iff_iff, decide_eq_true_iff (p := RightP p)]
    simp only [Bool.and_eq_true, decide_eq_true_eq]
    constructor
    · rintro ⟨⟨⟨⟨a, b⟩, c⟩, d⟩, e⟩; exact ⟨a, b, c, by omega, e⟩
    · rintro ⟨a, b, c, d, e⟩; exact ⟨⟨⟨⟨a, b⟩, c⟩, by omega⟩, e⟩
  · rw [Bool.eq_iff_iff, decide_eq_true_iff (p := RightP p)]
    simp only [Bool.and_eq_true, decide_eq_true_eq]
    constructor
    · rintro ⟨⟨⟨⟨a, b⟩, c⟩, d⟩, e⟩; exact absurd ⟨a, b, c⟩ h
    · rintro ⟨a, b, c, d, e⟩; exact absurd ⟨a, b, c⟩ h
theorem size_eq {p : Packet} (hs : ShortP p) : packet_Size p = if RightP p then sizeP p else 0 := by
  unfold packet_Size
  rw [right_eq hs]
  by_cases h : RightP p
  · rw [decide_eq_true h, if_neg (by decide), if_pos h, total_eq hs h.1 h.2.1 h.2.2.1]
  · rw [decide_eq_false h, if_pos (by decide), if_neg h]
theorem extB_len (p : Packet) : ((extB p).length : Int) = extN p := by
  unfold extB extN
  split <;> simp [beN_len] <;> omega
theorem padB_len {p : Packet} (h : PadOk p) : ((padB p).length : Int) = padN p := by
  obtain ⟨q1, q2, q3⟩ := padN_in h
  unfold PadOk at h; unfold padB padN
  split at h <;> rename_i hh <;> simp [hh]; omega
theorem encP_len {p : Packet} (h : RightP p) : ((encP p).length : Int) = sizeP p := by
  unfold encP encX sizeP
  have h1 := extB_len p
  have h2 := padB_len h.2.2.1
  simp only [List.length_append, encH_len, Int.natCast_add] at *
  omega
theorem oct_extB {p : Packet} (hg : GoodP p) : oct (extB p) := by
  unfold extB
  split
  · exact oct_app (oct_be _ _) (oct_app (oct_be _ _) hg.ext)
  · intro x hx; cases hx
theorem oct_padB {p : Packet} (h : PadOk p) : oct (padB p) := by
  obtain ⟨q1, q2, q3⟩ := padN_in h
  unfold padB
  split
  · refine oct_app (fun x hx => ?_) fun x hx => ?_
    · rw [List.eq_of_mem_replicate hx]; omega
    · rw [List.mem_singleton.1 hx]; omega
  · intro x hx; cases hx
theorem oct_encP {p : Packet} (hg : GoodP p) (hr : RightP p) : oct (encP p) :=
  oct_app (oct_app (oct_encH hr.1) (oct_extB hg)) (oct_app hg.pay (oct_padB hr.2.2.1))
theorem write_eq {p : Packet} (hg : GoodP p) (hs : ShortP p) (room : Int) : packet_Write none p room = some (if RightP p then (if sizeP p > room then ([], 7) else (encP p, 0)) else ([], 1)) := by
  unfold packet_Write
  rw [right_eq hs]
  by_cases h : RightP p
  · have h1 := hs.c; have h2 := hs.e; have h3 := hs.y
    rw [decide_eq_true h, if_neg (by decide), if_pos h, total_eq hs h.1 h.2.1 h.2.2.1]
    by_cases hroom : sizeP p > room
    · rw [if_pos (by rw [cm_gtr]; simpa using hroom), if_pos hroom]
    · rw [if_neg (by rw [cm_gtr]; simpa using hroom), if_neg hroom, bnd (headWrite_eq hg.h h.1)]
      have tail : packet_Write_j1 none p (encX p) = some (encP p, 0) := by
        have hl1 : (encX p).length ≤ 400000 := by
          unfold encX
          have := extB_len p
          have : extN p ≤ 300004 := by unfold extN; split <;> omega
          rw [List.length_append, encH_len]; omega
        unfold packet_Write_j1 packet_Write_j2
        rw [bnd (app_some (by omega))]
        have hp := h.2.2.1
        unfold encP padB
        unfold PadOk at hp
        cases hx : p.head.hasPad
        · simp
        · rw [hx] at hp; simp only [if_true] at hp ⊢
          rw [bnd (padAdd_eq (by rw [List.length_append]; omega) hp.1 hp.2)]
          simp
      have hx := h.2.1
      unfold ExtOk at hx
      cases hxx : p.head.hasExt
      · simp only [Bool.false_eq_true, if_false]
        have : encX p = encH p.head := by unfold encX extB; simp [hxx]
        rw [← this]; exact tail
      · rw [hxx] at hx; simp only [if_true] at hx ⊢
        have e1 : dv .quo .i64 (p.ext.length : Int) 4 = ((p.ext.length / 4 : Nat) : Int) := by rw [dv_quo (by omega), w_i64 (by omega) (by omega)]; omega
        rw [bnd (put2_eq hg.pr.1 hg.pr.2), e1, bnd (put2_eq (by omega) (by omega))]
        have hj : octet_Join none [encH p.head, beN 2 p.profile, beN 2 ((p.ext.length / 4 : Nat) : Int), p.ext] = some (encX p) := by
          unfold octet_Join
          have : [encH p.head, beN 2 p.profile, beN 2 ((p.ext.length / 4 : Nat) : Int), p.ext].flatten = encX p := by
            unfold encX extB; simp [hxx]
          rw [bnd (concat_eq (by simp) (by rw [this]; unfold encX; have := extB_len p; unfold extN at this; rw [hxx] at this; simp only [if_true] at this; rw [List.length_append, encH_len]; omega)), this]
        rw [bnd hj]
        exact tail
  · rw [decide_eq_false h, if_pos (by decide), if_neg h]

end Xb.PH

set_option linter.all false
namespace Xb.PH
open Go

def restOf (b : List Int) : List Int := b.drop (12 + 4 * nC b)
def extW (r : List Int) : Nat := 4 * (numB (seg r 2 2)).toNat
def extE (r : List Int) : Int := if r.length < 4 then 2 else if r.length - 4 < extW r then 2 else 0
def hx (b : List Int) : Bool := (decH b).hasExt
def hp (b : List Int) : Bool := (decH b).hasPad
def bodyOf (b : List Int) : List Int := if hx b then (restOf b).drop (4 + extW (restOf b)) else restOf b
def padOf (b : List Int) : Int := if hp b then trN (bodyOf b) else 0
def errP (b : List Int) : Int :=
  if b.length > 65535 then 4 else if headE b ≠ 0 then headE b else if hx b ∧ extE (restOf b) ≠ 0 then 2 else if hp b ∧ trN (bodyOf b) = 0 then 5 else 0
def decP (b : List Int) : Packet :=
  ⟨decH b, if hx b then numB (seg (restOf b) 0 2) else 0, if hx b then seg (restOf b) 4 (extW (restOf b)) else [], (bodyOf b).take ((bodyOf b).length - (padOf b).toNat), padOf b⟩
def zeroP : Packet := Packet.mk zeroH 0 [] [] 0
def readP (b : List Int) : Packet × Int := if errP b = 0 then (decP b, 0) else (zeroP, errP b)
theorem oct_rest {b : List Int} (hb : oct b) : oct (restOf b) := oct_drop hb _
theorem oct_body {b : List Int} (hb : oct b) : oct (bodyOf b) := by
  unfold bodyOf; split
  · exact oct_drop (oct_rest hb) _
  · exact oct_rest hb
theorem headE_len {b : List Int} (h : headE b = 0) : 12 + 4 * nC b ≤ b.length ∧ b0 b / 64 = 2 := by
  unfold headE at h
  have h1 : ¬ b.length < 12 := fun hh => by rw [if_pos hh] at h; cases h
  rw [if_neg h1] at h
  have h2 : b0 b / 64 = 2 := by
    refine Classical.byContradiction fun hh => ?_
    rw [if_pos hh] at h; cases h
  rw [if_neg (by simpa using h2)] at h
  have h3 : ¬ b.length < 12 + 4 * nC b := fun hh => by rw [if_pos hh] at h; cases h
  exact ⟨by omega, h2⟩
theorem headE_cases (b : List Int) : headE b = 0 ∨ headE b = 2 ∨ headE b = 3 := by
  unfold headE; split
  · exact .inr (.inl rfl)
  · split
    · exact .inr (.inr rfl)
    · split
      · exact .inr (.inl rfl)
      · exact .inl rfl
theorem extE_len {r : List Int} (h : extE r = 0) : 4 + extW r ≤ r.length := by
  unfold extE at h
  have h1 : ¬ r.length < 4 := fun hh => by rw [if_pos hh] at h; cases h
  rw [if_neg h1] at h
  have h2 : ¬ r.length - 4 < extW r := fun hh => by rw [if_pos hh] at h; cases h
  omega
theorem extE_cases (r : List Int) : extE r = 0 ∨ extE r = 2 := by
  unfold extE; split
  · exact .inr rfl
  · split
    · exact .inr rfl
    · exact .inl rfl
theorem extW_in {r : List Int} (hr : oct r) (h4 : 4 ≤ r.length) : extW r ≤ 262140 := by
  have := num_in2 (oct_seg hr 2 2) (seg_len (b := r) (i := 2) (n := 2) (by omega))
  unfold extW; omega
theorem part_eq {b : List Int} {at_ n : Nat} (hl : b.length ≤ 1000000) (h : at_ + n ≤ b.length) : octet_Part b at_ n = some (seg b at_ n, 0) := by
  unfold octet_Part octet_Part_j1
  have c1 : cm .lss (n : Int) 0 = false := by rw [cm_lss]; exact decide_eq_false (by omega)
  have c2 : cm .lss (at_ : Int) 0 = false := by rw [cm_lss]; exact decide_eq_false (by omega)
  have ht : octet_there b at_ n = true := by rw [there_eq (by omega) (by omega)]; simp; omega
  rw [c1, if_neg (by decide), c2, if_neg (by decide), ht, if_neg (by decide), ar_add, w_i64 (by omega) (by omega), bnd (sub_some (by omega) (by omega) (by omega))]
  have e : ((at_ : Int) + n).toNat - (at_ : Int).toNat = n := by omega
  rw [e, Int.toNat_natCast]
  have hc : slices_Clone (List.take n (List.drop at_ b)) = some (seg b at_ n) := by
    unfold slices_Clone
    rw [app_some (by simp; omega)]
    rfl
  rw [bnd hc]
theorem part_short {b : List Int} {at_ n : Nat} (hl : b.length ≤ 1000000) (h : b.length < at_ + n) : octet_Part b at_ n = some ([], 2) := by
  unfold octet_Part octet_Part_j1
  have c1 : cm .lss (n : Int) 0 = false := by rw [cm_lss]; exact decide_eq_false (by omega)
  have c2 : cm .lss (at_ : Int) 0 = false := by rw [cm_lss]; exact decide_eq_false (by omega)
  have ht : octet_there b at_ n = false := by rw [there_eq (by omega) (by omega)]; simp; omega
  rw [c1, if_neg (by decide), c2, if_neg (by decide), ht, if_pos (by decide)]
theorem extension_eq {r : List Int} (hr : oct r) (hl : r.length ≤ 100000) : packet_extension none r = some (if extE r = 0 then (numB (seg r 0 2), seg r 4 (extW r), r.drop (4 + extW r), 0) else (0, [], [], 2)) := by
  unfold packet_extension
  have g1 : ∃ u, octet_Get none r 0 2 = some u ∧ (4 ≤ r.length → u = (numB (seg r 0 2), 0)) := by
    by_cases h : 2 ≤ r.length
    · exact ⟨_, get_eq (at_ := 0) (n := 2) (by omega) (by omega) hr (by omega) (by omega), fun _ => rfl⟩
    · exact ⟨_, get_short (at_ := 0) (n := 2) (by omega) (by omega) (by omega) (by omega), fun h4 => absurd h4 (by omega)⟩
  obtain ⟨u, hu, hu4⟩ := g1
  rw [bnd hu]
  unfold extE
  by_cases h4 : r.length < 4
  · have g2 : octet_Get none r 2 2 = some (0, 2) := get_short (at_ := 2) (n := 2) (by omega) (by omega) (by omega) (by omega)
    rw [bnd g2, if_pos (by decide), if_pos h4, if_neg (by decide)]
  · have g2 : octet_Get none r 2 2 = some (numB (seg r 2 2), 0) := get_eq (at_ := 2) (n := 2) (by omega) (by omega) hr (by omega) (by omega)
    have n2 := num_in2 (oct_seg hr 2 2) (seg_len (b := r) (i := 2) (n := 2) (by omega))
    have n1 := num_in2 (oct_seg hr 0 2) (seg_len (b := r) (i := 0) (n := 2) (by omega))
    have eW : ar .mul .i64 4 (IntKind.i64.wrap (numB (seg r 2 2))) = ((extW r : Nat) : Int) := by
      rw [w_i64 (by omega) (by omega), ar_mul, w_i64 (by omega) (by omega)]; unfold extW; omega
    rw [bnd g2]
    have c0 : cm .neq (0 : Int) 0 = false := by decide
    simp only [c0]
    rw [if_neg (by decide), eW, if_neg h4]
    by_cases h5 : r.length - 4 < extW r
    · have : octet_Part r 4 ((extW r : Nat) : Int) = some ([], 2) := part_short (at_ := 4) (by omega) (by omega)
      rw [bnd this, if_pos (by decide), if_pos h5, if_neg (by decide)]
    · have : octet_Part r 4 ((extW r : Nat) : Int) = some (seg r 4 (extW r), 0) := part_eq (at_ := 4) (by omega) (by omega)
      rw [bnd this]
      simp only [c0]
      rw [if_neg (by decide), if_neg h5, if_pos rfl, seg_len (by omega), ar_add, w_i64 (by omega) (by omega), bnd (sub_some (by omega) (by omega) (by omega)), hu4 (by omega)]
      have e1 : ((4 : Int) + (extW r : Nat)).toNat = 4 + extW r := by omega
      rw [e1, w_u16 n1.1 n1.2]
      congr 4
      apply List.take_of_length_le
      rw [List.length_drop]; omega
theorem read_core {b : List Int} (hb : oct b) (hl : b.length ≤ 100000) : ∃ q r, packet_read none b = some (q, r, errP b) ∧ (errP b = 0 → q = decP b ∧ r = bodyOf b) := by
  unfold packet_read
  by_cases h1 : b.length > 65535
  · rw [if_pos (by rw [cm_gtr]; simp; omega)]
    have : errP b = 4 := by unfold errP; rw [if_pos h1]
    exact ⟨_, _, by rw [this], fun h => by rw [this] at h; cases h⟩
  · rw [if_neg (by rw [cm_gtr]; simp; omega), bnd (headRead_eq hb hl)]
    unfold readH
    by_cases h2 : headE b = 0
    · obtain ⟨hlen, _⟩ := headE_len h2
      have hn16 : nC b ≤ 15 := by unfold nC; omega
      rw [if_pos h2]
      have c0 : cm .neq (0 : Int) 0 = false := by decide
      simp only [c0]
      rw [if_neg (by decide)]
      have hsub : sub b (12 + 4 * (nC b : Int)) (b.length : Int) = some (restOf b) := by
        rw [sub_some (by omega) (by omega) (by omega)]
        have e1 : (12 + 4 * (nC b : Int)).toNat = 12 + 4 * nC b := by omega
        rw [e1]
        congr 1
        apply List.take_of_length_le
        rw [List.length_drop]; omega
      rw [bnd hsub]
      have hrl : (restOf b).length ≤ 100000 := by unfold restOf; rw [List.length_drop]; omega
      have fin : ∀ (p5 : Packet) (v4 : Packet), (hx b = true → extE (restOf b) = 0) → p5 = { decP b with pad := 0, payload := [] } →
          ∃ q r, packet_read_j1 none (decH b, 12 + 4 * (nC b : Int), 0) (bodyOf b) v4 p5 = some (q, r, errP b) ∧ (errP b = 0 → q = decP b ∧ r = bodyOf b) := by
        rintro p5 v4 hext rfl
        have hbl : (bodyOf b).length ≤ 100000 := by
          unfold bodyOf; split
          · rw [List.length_drop]; omega
          · exact hrl
        have hob := oct_body hb
        have ht := trN_in hob
        unfold packet_read_j1
        have hnx : ¬ (hx b = true ∧ extE (restOf b) ≠ 0) := fun hh => hh.2 (hext hh.1)
        have j2 : ∀ (v6 v7 : Packet), v7 = { decP b with payload := [] } → packet_read_j2 none (bodyOf b) v6 v7 = some (decP b, bodyOf b, 0) := by
          rintro v6 v7 rfl
          have hpo : 0 ≤ padOf b ∧ padOf b ≤ (bodyOf b).length := by unfold padOf; split <;> omega
          unfold packet_read_j2
          have e : ar .sub .i64 ((bodyOf b).length : Int) (padOf b) = ((bodyOf b).length : Int) - padOf b := by rw [ar_sub, w_i64 (by omega) (by omega)]
          show Option.bind (sub (bodyOf b) 0 (ar .sub .i64 ((bodyOf b).length : Int) (padOf b))) _ = _
          rw [e, bnd (sub_some (by omega) (by omega) (by omega))]
          have e2 : ((bodyOf b).length - padOf b).toNat - (0 : Int).toNat = (bodyOf b).length - (padOf b).toNat := by omega
          rw [e2]
          have ha : app ([] : List Int) (List.take ((bodyOf b).length - (padOf b).toNat) (List.drop (0 : Int).toNat (bodyOf b))) = some ((bodyOf b).take ((bodyOf b).length - (padOf b).toNat)) := by
            rw [app_some (by simp; omega)]
            simp
          rw [bnd ha]
          rfl
        cases hpp : hp b
        · have hpf : (decH b).hasPad = false := hpp
          have hpo : padOf b = 0 := by unfold padOf; simp [hpp]
          have he : errP b = 0 := by unfold errP; rw [if_neg h1, if_neg (by simpa using h2), if_neg hnx, if_neg (by simp [hpp])]
          rw [if_neg (show ¬ (decH b).hasPad = true by rw [hpf]; decide), j2 _ _ (by unfold decP; simp [hpo]), he]
          exact ⟨_, _, rfl, fun _ => ⟨rfl, rfl⟩⟩
        · have hpt : (decH b).hasPad = true := hpp
          have hpo : padOf b = trN (bodyOf b) := by unfold padOf; simp [hpp]
          rw [if_pos (show (decH b).hasPad = true from hpt), bnd (padTrail_eq hob (by omega))]
          by_cases h0 : trN (bodyOf b) = 0
          · have he : errP b = 5 := by unfold errP; rw [if_neg h1, if_neg (by simpa using h2), if_neg hnx, if_pos ⟨hpp, h0⟩]
            rw [if_pos h0, if_pos (by decide), he]
            exact ⟨_, _, rfl, fun h => by cases h⟩
          · have he : errP b = 0 := by unfold errP; rw [if_neg h1, if_neg (by simpa using h2), if_neg hnx, if_neg (fun hh => h0 hh.2)]
            rw [if_neg h0]
            simp only [c0]
            rw [if_neg (by decide), j2 _ _ (by unfold decP; simp [hpo]), he]
            exact ⟨_, _, rfl, fun _ => ⟨rfl, rfl⟩⟩
      cases hxx : hx b
      · have hxf : (decH b).hasExt = false := hxx
        have hbo : bodyOf b = restOf b := by unfold bodyOf; simp [hxx]
        rw [if_neg (show ¬ (decH b).hasExt = true by rw [hxf]; decide), ← hbo]
        exact fin _ _ (fun h => by rw [hxx] at h; cases h) (by unfold decP; simp [hxx])
      · have hxt : (decH b).hasExt = true := hxx
        rw [if_pos (show (decH b).hasExt = true from hxt), bnd (extension_eq (oct_rest hb) hrl)]
        by_cases h3 : extE (restOf b) = 0
        · have hbo : (restOf b).drop (4 + extW (restOf b)) = bodyOf b := by unfold bodyOf; simp [hxx]
          rw [if_pos h3]
          simp only [c0]
          rw [if_neg (by decide), hbo]
          exact fin _ _ (fun _ => h3) (by unfold decP; simp [hxx])
        · have he : errP b = 2 := by unfold errP; rw [if_neg h1, if_neg (by simpa using h2), if_pos ⟨hxx, h3⟩]
          rw [if_neg h3, if_pos (by decide), he]
          exact ⟨_, _, rfl, fun h => by cases h⟩
    · rw [if_neg h2]
      have hc : cm .neq (headE b) 0 = true := by rw [cm_neq]; simp [h2]
      have he : errP b = headE b := by unfold errP; rw [if_neg h1, if_pos h2]
      simp only [hc]
      rw [if_pos trivial, he]
      exact ⟨_, _, rfl, fun h => absurd h h2⟩
theorem packetRead_eq {b : List Int} (hb : oct b) (hl : b.length ≤ 100000) : packet_Read none b = some (readP b) := by
  obtain ⟨q, r, h1, h2⟩ := read_core hb hl
  unfold packet_Read readP
  rw [bnd h1]
  by_cases he : errP b = 0
  · obtain ⟨rfl, rfl⟩ := h2 he
    rw [he]
    rfl
  · have hc : cm .neq (errP b) 0 = true := by rw [cm_neq]; simp [he]
    simp only [hc]
    rw [if_pos trivial, if_neg he]
    rfl
def canonS (b : List Int) : Bool := decide (errP b = 0) && (decide (padOf b = 0) || cleanS (bodyOf b))
theorem packetCanon_eq {b : List Int} (hb : oct b) (hl : b.length ≤ 100000) : packet_Canon none b = some (canonS b) := by
  obtain ⟨q, r, h1, h2⟩ := read_core hb hl
  unfold packet_Canon canonS
  rw [bnd h1]
  simp only [cm_eql]
  by_cases he : errP b = 0
  · obtain ⟨rfl, rfl⟩ := h2 he
    have hp0 : (decP b).pad = padOf b := rfl
    rw [he, hp0]
    have hbl : (bodyOf b).length ≤ 1000000 := by
      unfold bodyOf restOf; split
      · rw [List.length_drop, List.length_drop]; omega
      · rw [List.length_drop]; omega
    by_cases h0 : padOf b = 0
    · simp [h0, gTF]
    · simp only [h0, decide_true, decide_false, Bool.not_false, Bool.and_true, Bool.true_and, gTT, Bool.false_or]
      rw [bnd (padClean_eq (oct_body hb) hbl)]
  · simp [he, gTF]

end Xb.PH

set_option linter.all false
namespace Xb.PH
open Go

theorem seg_restOf {b : List Int} (h : 12 + 4 * nC b ≤ b.length) (i n : Nat) : seg (restOf b) i n = seg b (12 + 4 * nC b + i) n := by
  simp only [seg, restOf, List.drop_drop]
theorem pad_in {b : List Int} (hb : oct b) : 0 ≤ padOf b ∧ padOf b ≤ (bodyOf b).length := by
  have := trN_in (oct_body hb)
  unfold padOf; split <;> omega
theorem trN_byte {l : List Int} (hl : oct l) : trN l ≤ 255 := by
  unfold trN
  split
  · omega
  · rename_i h
    have : l.getD (l.length - 1) 0 ∈ l := by
      have hi : l.length - 1 < l.length := by omega
      simp [List.getD, hi]
    have := hl _ this
    split <;> omega
structure ErrP (b : List Int) : Prop where
  len : b.length ≤ 65535
  head : headE b = 0
  ext : hx b = true → extE (restOf b) = 0
  pad : hp b = true → trN (bodyOf b) ≠ 0
theorem errP_of {b : List Int} (h : errP b = 0) : ErrP b := by
  unfold errP at h
  have h1 : ¬ b.length > 65535 := fun hh => by rw [if_pos hh] at h; cases h
  rw [if_neg h1] at h
  have h2 : headE b = 0 := by
    refine Classical.byContradiction fun hh => ?_
    rw [if_pos hh] at h; exact hh h
  rw [if_neg (by simpa using h2)] at h
  have h3 : ¬ (hx b = true ∧ extE (restOf b) ≠ 0) := fun hh => by rw [if_pos hh] at h; cases h
  rw [if_neg h3] at h
  have h4 : ¬ (hp b = true ∧ trN (bodyOf b) = 0) := fun hh => by rw [if_pos hh] at h; cases h
  exact ⟨by omega, h2, fun hh => Classical.byContradiction fun hn => h3 ⟨hh, hn⟩, fun hh hn => h4 ⟨hh, hn⟩⟩
theorem of_errP {b : List Int} (h : ErrP b) : errP b = 0 := by
  have := h.len
  unfold errP
  rw [if_neg (by omega), if_neg (by simpa using h.head), if_neg (fun hh => hh.2 (h.ext hh.1)), if_neg (fun hh => h.pad hh.1 hh.2)]
theorem ext_lens {b : List Int} (h : ErrP b) : extN (decP b) + (bodyOf b).length = (restOf b).length ∧ extB (decP b) = (restOf b).take ((restOf b).length - (bodyOf b).length) ∨ ¬ oct b := by
  by_cases hb : oct b
  · left
    unfold extN extB bodyOf
    cases hxx : hx b
    · have hxf : (decP b).head.hasExt = false := hxx
      rw [hxf]; simp
    · have hxt : (decP b).head.hasExt = true := hxx
      have h4 := extE_len (h.ext hxx)
      have ho := oct_rest hb
      have hW := extW_in ho (by omega)
      rw [hxt]
      simp only [if_true]
      have e1 : (decP b).ext = seg (restOf b) 4 (extW (restOf b)) := by unfold decP; simp [hxx]
      have e2 : (decP b).profile = numB (seg (restOf b) 0 2) := by unfold decP; simp [hxx]
      have l1 : (seg (restOf b) 4 (extW (restOf b))).length = extW (restOf b) := seg_len (by omega)
      refine ⟨by rw [e1, l1, List.length_drop]; omega, ?_⟩
      rw [e1, e2, l1, List.length_drop]
      have q1 : beN 2 (numB (seg (restOf b) 0 2)) = seg (restOf b) 0 2 := by
        have := be_num (seg (restOf b) 0 2) (oct_seg ho _ _)
        rw [seg_len (by omega)] at this; exact this
      have q2 : beN 2 ((extW (restOf b) / 4 : Nat) : Int) = seg (restOf b) 2 2 := by
        have n2 := num_in2 (oct_seg ho 2 2) (seg_len (b := restOf b) (i := 2) (n := 2) (by omega))
        have := be_num (seg (restOf b) 2 2) (oct_seg ho _ _)
        rw [seg_len (by omega)] at this
        have e : ((extW (restOf b) / 4 : Nat) : Int) = numB (seg (restOf b) 2 2) := by unfold extW; omega
        rw [e]; exact this
      rw [q1, q2]
      have step : ∀ (r : List Int) (i n m : Nat), seg r i (n + m) = seg r i n ++ seg r (i + n) m := by
        intro r i n m
        simp only [seg]
        rw [List.take_add, List.drop_drop]
      have : (restOf b).take ((restOf b).length - ((restOf b).length - (4 + extW (restOf b)))) = seg (restOf b) 0 (2 + (2 + extW (restOf b))) := by
        simp only [seg, List.drop_zero]; congr 1; omega
      rw [this, step _ 0 2, step _ 2 2]
  · exact .inr hb
theorem encX_dec {b : List Int} (hb : oct b) (h : ErrP b) : encX (decP b) ++ bodyOf b = b := by
  obtain ⟨h1, h2⟩ := (ext_lens h).resolve_right (fun hn => hn hb)
  unfold encX
  have e1 : encH (decP b).head = b.take (12 + 4 * nC b) := encH_dec hb h.head
  have e3 : (restOf b).drop ((restOf b).length - (bodyOf b).length) = bodyOf b := by
    unfold bodyOf
    split
    · have h4 := extE_len (h.ext ‹_›)
      rw [List.length_drop]; congr 1; omega
    · simp
  rw [e1, h2, List.append_assoc]
  conv => lhs; rhs; rhs; rw [← e3]
  rw [List.take_append_drop]
  exact List.take_append_drop _ b
theorem goodP_dec {b : List Int} (hb : oct b) (h : ErrP b) : GoodP (decP b) ∧ RightP (decP b) ∧ sizeP (decP b) = b.length := by
  obtain ⟨hlen, _⟩ := headE_len h.head
  obtain ⟨gh, rh⟩ := goodH_dec hb hlen
  have hpi := pad_in hb
  have ho := oct_rest hb
  have hob := oct_body hb
  have hlb := h.len
  obtain ⟨h1, h2⟩ := (ext_lens h).resolve_right (fun hn => hn hb)
  have hxl := congrArg List.length (encX_dec hb h)
  have hel := extB_len (decP b)
  have hbl : (bodyOf b).length ≤ b.length := by have := hxl; rw [List.length_append] at this; omega
  have hcs : (decP b).head.csrc.length = nC b := nC_csrc hlen
  have hpl : (decP b).payload.length = (bodyOf b).length - (padOf b).toNat := by
    show ((bodyOf b).take ((bodyOf b).length - (padOf b).toNat)).length = _
    rw [List.length_take]; omega
  have hpn : padN (decP b) = padOf b := by
    unfold padN
    show (if (decH b).hasPad = true then padOf b else 0) = padOf b
    unfold padOf hp
    split <;> simp_all
  have hext : ExtOk (decP b) := by
    unfold ExtOk
    cases hxx : hx b
    · have hxf : (decP b).head.hasExt = false := hxx
      rw [hxf]
      simp only [Bool.false_eq_true, if_false]
      unfold decP; simp [hxx]
    · have hxt : (decP b).head.hasExt = true := hxx
      have h4 := extE_len (h.ext hxx)
      have hW := extW_in ho (by omega)
      have e1 : (decP b).ext = seg (restOf b) 4 (extW (restOf b)) := by unfold decP; simp [hxx]
      have l1 : (seg (restOf b) 4 (extW (restOf b))).length = extW (restOf b) := seg_len (by omega)
      rw [hxt]
      simp only [if_true]
      rw [e1, l1]
      exact ⟨by unfold extW; omega, hW⟩
  have hpad : PadOk (decP b) := by
    unfold PadOk
    cases hpp : hp b
    · have hpf : (decP b).head.hasPad = false := hpp
      rw [hpf]
      simp only [Bool.false_eq_true, if_false]
      show padOf b = 0
      unfold padOf; simp [hpp]
    · have hpt : (decP b).head.hasPad = true := hpp
      rw [hpt]
      simp only [if_true]
      have e : padOf b = trN (bodyOf b) := by unfold padOf; simp [hpp]
      have hne := h.pad hpp
      have hbt := trN_byte hob
      show 1 ≤ padOf b ∧ padOf b ≤ 255
      omega
  have hsz : sizeP (decP b) = b.length := by
    unfold sizeP
    rw [hcs, hpl, hpn]
    unfold encX at hxl
    simp only [List.length_append, encH_len, hcs] at hxl
    omega
  refine ⟨⟨gh, ?_, ?_, fun x hx' => hob x (List.mem_of_mem_take hx')⟩, ⟨rh, hext, hpad, by omega, by omega⟩, hsz⟩
  · show 0 ≤ (if hx b = true then numB (seg (restOf b) 0 2) else 0) ∧ (if hx b = true then numB (seg (restOf b) 0 2) else 0) ≤ 65535
    split
    · have h4 := extE_len (h.ext ‹_›)
      exact num_in2 (oct_seg ho _ _) (seg_len (by omega))
    · omega
  · show oct (if hx b = true then seg (restOf b) 4 (extW (restOf b)) else [])
    split
    · exact oct_seg ho _ _
    · intro x hx'; cases hx'
theorem short_dec {b : List Int} (hb : oct b) (h : ErrP b) : ShortP (decP b) := by
  obtain ⟨_, hr, _⟩ := goodP_dec hb h
  have h1 := hr.1.2.2; have h2 := hr.2.1; have h3 := hr.2.2.2.1
  refine ⟨by omega, ?_, by omega⟩
  unfold ExtOk at h2
  split at h2 <;> omega

end Xb.PH

set_option linter.all false
namespace Xb.PH
open Go

theorem oct_split {b : List Int} (hb : oct b) (h : ErrP b) : (bodyOf b).take ((bodyOf b).length - (padOf b).toNat) ++ (bodyOf b).drop ((bodyOf b).length - (padOf b).toNat) = bodyOf b := List.take_append_drop _ _
theorem last_tr {l : List Int} (h : 0 < trN l) : ∃ m, l = m ++ [trN l] := by
  unfold trN at h ⊢
  by_cases h0 : l.length = 0
  · rw [if_pos h0] at h; omega
  · rw [if_neg h0] at h ⊢
    have hne : l ≠ [] := fun e => h0 (by rw [e]; rfl)
    by_cases h1 : l.getD (l.length - 1) 0 > l.length
    · rw [if_pos h1] at h; omega
    · rw [if_neg h1]
      refine ⟨l.dropLast, ?_⟩
      have : l.getD (l.length - 1) 0 = l.getLast hne := by
        rw [List.getLast_eq_getElem, List.getD_eq_getElem?_getD, List.getElem?_eq_getElem (by omega)]
        rfl
      rw [this, List.dropLast_concat_getLast]
/-- a trailer is clean just if it is what is written -/
theorem clean_iff {l : List Int} (hl : oct l) (h : 0 < trN l) : cleanS l = true ↔ l.drop (l.length - (trN l).toNat) = List.replicate ((trN l).toNat - 1) 0 ++ [trN l] := by
  have hin := trN_in hl
  unfold cleanS allZ
  rw [decide_eq_true h, Bool.true_and, decide_eq_true_iff]
  obtain ⟨m, hm⟩ := last_tr h
  have hml : m.length + 1 = l.length := by have := congrArg List.length hm; simp at this; omega
  generalize hn : trN l = n at *
  have hd : l.drop (l.length - n.toNat) = m.drop (l.length - n.toNat) ++ [n] := by
    conv => lhs; rw [hm]
    rw [List.drop_append_of_le_length (by simp; omega)]
    congr 2
    rw [← hm]
  have ht : (l.drop (l.length - n.toNat)).take (n.toNat - 1) = m.drop (l.length - n.toNat) := by
    rw [hd]
    apply List.take_left'
    rw [List.length_drop]; omega
  rw [ht, hd]
  constructor
  · intro hz
    congr 1
    exact List.eq_replicate_iff.2 ⟨by rw [List.length_drop]; omega, hz⟩
  · intro he y hy
    have := List.append_inj_left' he rfl
    rw [this] at hy
    exact List.eq_of_mem_replicate hy
theorem canon_iff {b : List Int} (hb : oct b) (h : ErrP b) : canonS b = true ↔ encP (decP b) = b := by
  obtain ⟨hg, hr, hs⟩ := goodP_dec hb h
  have hob := oct_body hb
  have hpi := pad_in hb
  unfold canonS
  rw [of_errP h]
  have e1 : encP (decP b) = b ↔ (decP b).payload ++ padB (decP b) = bodyOf b := by
    unfold encP
    conv => lhs; rhs; rw [← encX_dec hb h]
    exact ⟨fun e => List.append_cancel_left e, fun e => by rw [e]⟩
  rw [e1]
  have e2 : (decP b).payload = (bodyOf b).take ((bodyOf b).length - (padOf b).toNat) := rfl
  have e3 : bodyOf b = (bodyOf b).take ((bodyOf b).length - (padOf b).toNat) ++ (bodyOf b).drop ((bodyOf b).length - (padOf b).toNat) := (List.take_append_drop _ _).symm
  have e4 : (decP b).payload ++ padB (decP b) = bodyOf b ↔ padB (decP b) = (bodyOf b).drop ((bodyOf b).length - (padOf b).toNat) := by
    rw [e2]
    conv => lhs; rhs; rw [e3]
    exact ⟨fun e => List.append_cancel_left e, fun e => by rw [e]⟩
  rw [e4]
  cases hpp : hp b
  · have hpo : padOf b = 0 := by unfold padOf; simp [hpp]
    have hpf : (decP b).head.hasPad = false := hpp
    unfold padB
    rw [hpf, hpo]
    simp
  · have hpo : padOf b = trN (bodyOf b) := by unfold padOf; simp [hpp]
    have hpt : (decP b).head.hasPad = true := hpp
    have hne := h.pad hpp
    have hpos : 0 < trN (bodyOf b) := by omega
    have hpd : (decP b).pad = trN (bodyOf b) := hpo
    unfold padB
    rw [hpt, hpd, hpo, if_pos rfl]
    have : decide (trN (bodyOf b) = 0) = false := decide_eq_false hne
    rw [this]
    simp only [decide_true, Bool.true_and, Bool.false_or]
    rw [clean_iff hob hpos]
    exact ⟨fun e => e.symm, fun e => e.symm⟩
theorem enc_fields {p : Packet} (hg : GoodP p) (hr : RightP p) (t : List Int) :
    headE (encX p ++ t) = 0 ∧ decH (encX p ++ t) = p.head ∧ nC (encX p ++ t) = p.head.csrc.length ∧ restOf (encX p ++ t) = extB p ++ t ∧ (hx (encX p ++ t) = true → extE (extB p ++ t) = 0 ∧ extW (extB p ++ t) = p.ext.length ∧ numB (seg (extB p ++ t) 0 2) = p.profile ∧ seg (extB p ++ t) 4 p.ext.length = p.ext) ∧
      bodyOf (encX p ++ t) = t := by
  have e : encX p ++ t = encH p.head ++ (extB p ++ t) := by unfold encX; rw [List.append_assoc]
  have h1 : headE (encX p ++ t) = 0 := by rw [e]; exact headE_enc hr.1 _
  have h2 : decH (encX p ++ t) = p.head := by rw [e]; exact decH_enc hg.h hr.1 _
  have h3 : nC (encX p ++ t) = p.head.csrc.length := by rw [e]; exact nC_enc hr.1 _
  have h4 : restOf (encX p ++ t) = extB p ++ t := by
    unfold restOf
    rw [h3, e]
    exact List.drop_left' (encH_len _)
  have hxe : hx (encX p ++ t) = p.head.hasExt := by unfold hx; rw [h2]
  have hext := hr.2.1
  have h5 : hx (encX p ++ t) = true → extE (extB p ++ t) = 0 ∧ extW (extB p ++ t) = p.ext.length ∧ numB (seg (extB p ++ t) 0 2) = p.profile ∧ seg (extB p ++ t) 4 p.ext.length = p.ext := by
    intro hh
    rw [hxe] at hh
    unfold ExtOk at hext
    rw [hh] at hext
    simp only [if_true] at hext
    have eb : extB p ++ t = beN 2 p.profile ++ (beN 2 ((p.ext.length / 4 : Nat) : Int) ++ (p.ext ++ t)) := by unfold extB; rw [hh]; simp
    have s0 : seg (extB p ++ t) 0 2 = beN 2 p.profile := by rw [eb, seg_take (beN_len _ _)]
    have s2 : seg (extB p ++ t) 2 2 = beN 2 ((p.ext.length / 4 : Nat) : Int) := by rw [eb, seg_skip (k := 2) (i := 0) (beN_len _ _), seg_take (beN_len _ _)]
    have s4 : seg (extB p ++ t) 4 p.ext.length = p.ext := by rw [eb, seg_skip (k := 2) (i := 2) (beN_len _ _), seg_skip (k := 2) (i := 0) (beN_len _ _), seg_take rfl]
    have hpr := hg.pr
    have w : extW (extB p ++ t) = p.ext.length := by
      unfold extW
      rw [s2, num_be 2 _ (by omega) (by omega)]
      omega
    refine ⟨?_, w, by rw [s0, num_be 2 _ hpr.1 (by omega)], s4⟩
    have hlen : (extB p ++ t).length = 4 + p.ext.length + t.length := by rw [eb]; simp [beN_len]; omega
    unfold extE
    rw [if_neg (by omega), w, if_neg (by omega)]
  refine ⟨h1, h2, h3, h4, h5, ?_⟩
  unfold bodyOf
  rw [h4]
  split
  · rename_i hh
    obtain ⟨_, w, _, _⟩ := h5 hh
    rw [w]
    apply List.drop_left'
    have := extB_len p
    rw [hxe] at hh
    unfold extN at this
    rw [hh] at this
    simp only [if_true] at this
    omega
  · rename_i hh
    rw [hxe] at hh
    unfold extB
    rw [if_neg hh]; rfl
theorem err_enc {p : Packet} (hg : GoodP p) (hr : RightP p) (t : List Int) (hl : (encX p ++ t).length ≤ 65535) : errP (encX p ++ t) = if p.head.hasPad ∧ trN t = 0 then 5 else 0 := by
  obtain ⟨h1, h2, h3, h4, h5, h6⟩ := enc_fields hg hr t
  unfold errP hp
  rw [if_neg (by omega), if_neg (by simpa using h1), h4, if_neg (fun hh => hh.2 (h5 hh.1).1), h6, h2]
theorem dec_enc {p : Packet} (hg : GoodP p) (hr : RightP p) : ErrP (encP p) ∧ decP (encP p) = p := by
  obtain ⟨h1, h2, h3, h4, h5, h6⟩ := enc_fields hg hr (p.payload ++ padB p)
  have hlen := encP_len hr
  have hsz := hr.2.2.2.2
  have hpad := hr.2.2.1
  obtain ⟨q1, q2, q3⟩ := padN_in hpad
  have hxe : hx (encP p) = p.head.hasExt := by unfold hx encP; rw [h2]
  have hpe : hp (encP p) = p.head.hasPad := by unfold hp encP; rw [h2]
  have ht : p.head.hasPad = true → trN (p.payload ++ padB p) = p.pad := by
    intro hh
    unfold PadOk at hpad; rw [hh] at hpad; simp only [if_true] at hpad
    unfold padB; rw [hh]; simp only [if_true]
    rw [← List.append_assoc]
    exact trN_snoc hpad.1 (by simp; omega)
  have hbody : bodyOf (encP p) = p.payload ++ padB p := h6
  have hE : ErrP (encP p) := by
    refine ⟨by omega, h1, fun hh => ?_, fun hh => ?_⟩
    · have := (h5 hh).1
      rw [← h4] at this; exact this
    · rw [hpe] at hh
      rw [hbody, ht hh]
      unfold PadOk at hpad; rw [hh] at hpad; simp only [if_true] at hpad; omega
  refine ⟨hE, ?_⟩
  have hpo : padOf (encP p) = p.pad := by
    unfold padOf
    rw [hpe, hbody]
    cases hh : p.head.hasPad
    · unfold PadOk at hpad; rw [hh] at hpad; simp at hpad; simp [hpad]
    · simp only [if_true]; exact ht hh
  have hpl := padB_len hpad
  have e1 : (decP (encP p)).head = p.head := h2
  have e5 : (decP (encP p)).pad = p.pad := hpo
  have e4 : (decP (encP p)).payload = p.payload := by
    show (bodyOf (encP p)).take ((bodyOf (encP p)).length - (padOf (encP p)).toNat) = _
    rw [hbody, hpo]
    apply List.take_left'
    rw [List.length_append]; omega
  have hr4 : restOf (encP p) = extB p ++ (p.payload ++ padB p) := h4
  have e2 : (decP (encP p)).profile = p.profile := by
    show (if hx (encP p) = true then numB (seg (restOf (encP p)) 0 2) else 0) = _
    split
    · rename_i hh; rw [hr4]; exact (h5 hh).2.2.1
    · rename_i hh
      rw [hxe] at hh
      have := hr.2.1
      unfold ExtOk at this; rw [if_neg hh] at this
      exact this.1.symm
  have e3 : (decP (encP p)).ext = p.ext := by
    show (if hx (encP p) = true then seg (restOf (encP p)) 4 (extW (restOf (encP p))) else []) = _
    split
    · rename_i hh; rw [hr4, (h5 hh).2.1]; exact (h5 hh).2.2.2
    · rename_i hh
      rw [hxe] at hh
      have := hr.2.1
      unfold ExtOk at this; rw [if_neg hh] at this
      exact (List.length_eq_zero_iff.1 this.2).symm
  generalize decP (encP p) = q at *
  cases q; cases p
  simp only at e1 e2 e3 e4 e5
  simp [e1, e2, e3, e4, e5]
theorem canon_enc {p : Packet} (hg : GoodP p) (hr : RightP p) : canonS (encP p) = true := by
  obtain ⟨h1, h2⟩ := dec_enc hg hr
  rw [canon_iff (oct_encP hg hr) h1, h2]
theorem goodZ : GoodP zeroP := ⟨⟨by decide, by decide, by decide, by decide, by simp [zeroP, zeroH]⟩, by decide, by simp [oct, zeroP], by simp [oct, zeroP]⟩
theorem goodR {b : List Int} (hb : oct b) : GoodP (readP b).1 := by
  unfold readP
  split
  · exact (goodP_dec hb (errP_of ‹_›)).1
  · exact goodZ
theorem csR {b : List Int} (hb : oct b) : (readP b).1.head.csrc.length ≤ 1000000 := by
  unfold readP
  split
  · have := (short_dec hb (errP_of ‹_›)).c
    show (decP b).head.csrc.length ≤ _; omega
  · simp [zeroP, zeroH]

end Xb.PH

set_option linter.all false
namespace Xb.PH
open Go

theorem octs {l : List Int} (h : l.length ≤ maxLen ∧ ∀ x, x ∈ l → inK .u8 x) : oct l := fun x hx => in_u8.1 (h.2 x hx)

end Xb.PH

set_option linter.all false
namespace Xb.PH
open Go

theorem size_dec {b : List Int} (hb : oct b) (h : ErrP b) : packet_Size (decP b) = b.length := by
  obtain ⟨_, hr, hsz⟩ := goodP_dec hb h
  rw [size_eq (short_dec hb h), if_pos hr, hsz]
theorem read_enc {p : Packet} (hg : GoodP p) (hr : RightP p) : packet_Read none (encP p) = some (p, 0) := by
  obtain ⟨h1, h2⟩ := dec_enc hg hr
  have hl := encP_len hr
  have := hr.2.2.2.2
  rw [packetRead_eq (oct_encP hg hr) (by omega)]
  unfold readP
  rw [of_errP h1, if_pos rfl, h2]
theorem errP_cases (b : List Int) : errP b = 0 ∨ errP b = 2 ∨ errP b = 3 ∨ errP b = 4 ∨ errP b = 5 := by
  unfold errP
  have := headE_cases b
  split
  · omega
  · split
    · omega
    · split
      · omega
      · split <;> omega

end Xb.PH

set_option linter.all false
namespace Xb
open Go

theorem shortOf {x : Packet} (h : packet_Right x = true) (hl : x.ext.length ≤ 400000) : PH.ShortP x := by
  obtain ⟨_, h2, h3, _⟩ := right_parts h
  refine ⟨by omega, ?_, by omega⟩
  have he : packet_extended x = true := by
    unfold packet_Right at h
    simp only [Bool.and_eq_true] at h
    exact h.1.1.1.2
  rw [PH.extended_eq (by omega)] at he
  have := of_decide_eq_true he
  unfold PH.ExtOk at this
  split at this <;> omega

theorem goodB {p : Plan} {k : Packet} (wp : wf_Plan p) (gh : PH.GoodH k.head) (gk : GoodK k) (gp : PH.oct k.payload) : PH.GoodP (behS p k) := by
  have w1 := in_i64.1 wp.2.2.2.1
  have w2 := in_u16.1 wp.2.2.2.2.2.1
  have w3 := in_u32.1 wp.2.2.2.2.2.2.2.1
  have w4 := in_u32.1 wp.2.2.2.2.2.2.2.2.2.1
  refine ⟨⟨?_, ?_, ?_, ?_, gh.csrc⟩, ⟨gk.p0, gk.p1⟩, gk.b, gp⟩
  · show _ ≤ (if p.setType then p.type else k.head.type) ∧ (if p.setType then p.type else k.head.type) ≤ _
    have := gh.type
    split <;> omega
  · show _ ≤ (if p.setSeq then p.seq else k.head.seq) ∧ (if p.setSeq then p.seq else k.head.seq) ≤ _
    have := gh.seq
    split <;> omega
  · show _ ≤ (if p.setTime then p.time else k.head.time) ∧ (if p.setTime then p.time else k.head.time) ≤ _
    have := gh.time
    split <;> omega
  · show _ ≤ (if p.setSsrc then p.ssrc else k.head.ssrc) ∧ (if p.setSsrc then p.ssrc else k.head.ssrc) ≤ _
    have := gh.ssrc
    split <;> omega

theorem applyT {p : Plan} {k : Packet} (hs : SmallP p) (wp : wf_Plan p) (gk : PH.GoodP k) (sk : PH.ShortP k) :
    ∃ x e, plan_Apply none p k = some (x, e) ∧ (e = 0 → PH.GoodP x ∧ PH.RightP x ∧ PH.ShortP x) := by
  have hGK : GoodK k := ⟨gk.ext, gk.pr.1, gk.pr.2, by have := sk.e; omega⟩
  have gov : GoodE p.over := goodE_of wp.2.2.2.2.2.2.2.2.2.2.2.1
  have gad : GoodE p.adds := goodE_of wp.2.2.2.2.2.2.2.2.2.2.2.2.2.1
  have s1 := sk.c; have s2 := sk.e; have s3 := sk.y
  have fin : ∀ {y : Packet}, PH.GoodP y → packet_Right y = true → y.ext.length ≤ 400000 → PH.GoodP y ∧ PH.RightP y ∧ PH.ShortP y := fun g r l => by
    have hsh := shortOf r l
    refine ⟨g, ?_, hsh⟩
    rw [PH.right_eq hsh] at r
    exact of_decide_eq_true r
  unfold plan_Apply plan_behind
  cases hr : packet_Right k with
  | false =>
    simp only [Bool.not_false, Bool.not_true, gTF, Option.bind_some, Bool.true_or, if_true]
    exact ⟨_, _, rfl, fun h => by cases h⟩
  | true =>
    simp only [Bool.not_true, Bool.not_false, gTT]
    obtain ⟨c, hc, hcr⟩ := planRight hs
    rw [hc]
    simp only [Option.bind_some, Bool.false_or]
    cases c with
    | false => exact ⟨_, _, rfl, fun h => by cases h⟩
    | true =>
      obtain ⟨hf, hov, had⟩ := hcr rfl
      rw [if_neg (by decide)]
      by_cases hE : plan_Elements p = true
      · rw [if_pos hE]
        obtain ⟨k', b', he, hc1, hc2, hspec⟩ := extend_spec hs hGK hf hov had gov gad hE
        rw [bnd he]
        simp only [j1_eq, Option.bind_some]
        rw [if_neg (by decide)]
        by_cases hb' : (b' && packet_Right (behS p k')) = true
        · rw [hb', if_neg (by decide)]
          have hbt : b' = true ∧ packet_Right (behS p k') = true := by
            simp only [Bool.and_eq_true] at hb'; exact hb'
          obtain ⟨g1, g2, g3, g4, g5⟩ := hspec hbt.1
          have ho : plan_own (behS p k') = some (behS p k') := own_eq (by show k'.head.csrc.length ≤ _; rw [hc1]; show k.head.csrc.length ≤ _; omega) (by show k'.ext.length ≤ _; have := g1.l; omega) (by show k'.payload.length ≤ _; rw [hc2]; omega)
          rw [bnd ho]
          refine ⟨behS p k', 0, rfl, fun _ => fin (goodB wp ?_ g1 ?_) hbt.2 g1.l⟩
          · rw [hc1]
            exact ⟨gk.h.type, gk.h.seq, gk.h.time, gk.h.ssrc, gk.h.csrc⟩
          · rw [hc2]; exact gk.pay
        · have : (b' && packet_Right (behS p k')) = false := by simpa using hb'
          rw [this, if_pos (by decide)]
          exact ⟨_, _, rfl, fun h => by cases h⟩
      · rw [if_neg hE]
        simp only [j1_eq, Option.bind_some]
        rw [if_neg (by decide)]
        by_cases hb' : (true && packet_Right (behS p k)) = true
        · rw [hb', if_neg (by decide)]
          have ho : plan_own (behS p k) = some (behS p k) := own_eq (by show k.head.csrc.length ≤ _; omega) (by show k.ext.length ≤ _; omega) (by show k.payload.length ≤ _; omega)
          rw [bnd ho]
          exact ⟨_, _, rfl, fun _ => fin (goodB wp gk.h hGK gk.pay) (by simpa using hb') hGK.l⟩
        · have : (true && packet_Right (behS p k)) = false := by simpa using hb'
          rw [this, if_pos (by decide)]
          exact ⟨_, _, rfl, fun h => by cases h⟩

def emptyP : Plan := Plan.mk false false false 0 false 0 false 0 false 0 [] [] [] [] false
theorem apply_empty {k : Packet} (rk : PH.RightP k) (sk : PH.ShortP k) : plan_Apply none emptyP k = some (k, 0) := by
  have s1 := sk.c; have s2 := sk.e; have s3 := sk.y
  have hr : packet_Right k = true := by rw [PH.right_eq sk]; exact decide_eq_true rk
  have hb : behS emptyP k = k := rfl
  rw [apply_one ⟨rfl, rfl, rfl, rfl⟩ (by omega) (by omega) (by omega), hb, if_pos hr, if_pos ⟨by decide, hr⟩]
end Xb

set_option linter.all false
namespace Xb
open Go

theorem again_read {p : Plan} {b : List Int} {room : Int} {k : Packet} {e : Int} (h : packet_Read none b = some (k, e)) (he : e ≠ 0) : stay_Again none p b room = some ([], e) := by
  unfold stay_Again
  rw [bnd h, if_pos (by rw [cm_neq]; simp [he])]
theorem again_apply {p : Plan} {b : List Int} {room : Int} {k x : Packet} {e : Int} (h : packet_Read none b = some (k, 0)) (ha : plan_Apply none p k = some (x, e)) (he : e ≠ 0) : stay_Again none p b room = some ([], e) := by
  unfold stay_Again
  rw [bnd h, if_neg (show ¬ cm .neq (0 : Int) 0 = true by decide), bnd ha, if_pos (by rw [cm_neq]; simp [he])]
theorem again_write {p : Plan} {b : List Int} {room : Int} {k x : Packet} {w : List Int × Int} (h : packet_Read none b = some (k, 0)) (ha : plan_Apply none p k = some (x, 0)) (hw : packet_Write none x room = some w) : stay_Again none p b room = some w := by
  unfold stay_Again
  rw [bnd h, if_neg (show ¬ cm .neq (0 : Int) 0 = true by decide), bnd ha, if_neg (show ¬ cm .neq (0 : Int) 0 = true by decide), bnd hw]

theorem stayAgain_true {p : Plan} {b : List Int} {room : Int} (wp : wf_Plan p) (wb : b.length ≤ maxLen ∧ ∀ x, x ∈ b → inK .u8 x) (_wr : inK .i64 room) : law31_StayAgain none p b room = some true := by
  obtain ⟨s, hs, hsm⟩ := short29 wp
  have hb : PH.oct b := PH.octs wb
  have c1 : cm .eql (0 : Int) 0 = true := by decide
  have n0 : ¬ cm .neq (0 : Int) 0 = true := by decide
  unfold law31_StayAgain
  rw [bnd hs]
  by_cases hsh : s = true ∧ b.length ≤ 70000
  · obtain ⟨h1, h2⟩ := hsh
    have sp := hsm h1
    rw [h1, if_neg (by rw [cm_gtr]; simp; omega)]
    have hrd := PH.packetRead_eq hb (by omega)
    rw [bnd hrd]
    unfold PH.readP at hrd ⊢
    by_cases he : PH.errP b = 0
    · rw [if_pos he] at hrd ⊢
      have hE := PH.errP_of he
      obtain ⟨gk, rk, szk⟩ := PH.goodP_dec hb hE
      have sk := PH.short_dec hb hE
      obtain ⟨x, e, ha, hx⟩ := applyT sp wp gk sk
      by_cases he0 : e = 0
      · subst he0
        obtain ⟨gx, rx, sx⟩ := hx rfl
        have hw := PH.write_eq gx sx room
        rw [if_pos rx] at hw
        have hsz := rx.2.2.2.2
        rw [bnd (again_write hrd ha hw), if_neg n0, bnd ha, if_neg n0, PH.size_eq sx, if_pos rx]
        by_cases hroom : PH.sizeP x > room
        · rw [if_pos (by rw [cm_gtr]; exact decide_eq_true hroom), if_pos hroom]
          rfl
        · have hlen := PH.encP_len rx
          have hw2 := PH.write_eq gk sk 65535
          have hszk := rk.2.2.2.2
          rw [if_pos rk, if_neg (show ¬ PH.sizeP (PH.decP b) > 65535 by omega)] at hw2
          rw [if_neg (by rw [cm_gtr, decide_eq_true_eq]; exact hroom), if_neg hroom]
          simp only []
          rw [bnd (PH.read_enc gx rx)]
          have h6 := again_write hrd (apply_empty rk sk) hw2
          unfold emptyP at h6
          rw [bnd h6, bnd hw2]
          simp only [c1, Bool.and_self, gTT]
          rw [bnd (PH.packetCanon_eq (PH.oct_encP gx rx) (by omega)), PH.canon_enc gx rx]
          simp only [Bool.and_self, gTT]
          rw [bnd (PH.sameP_eq gx gx (by have := sx.c; omega)), PH.sc_b2s (PH.oct_encP gk rk) (PH.oct_encP gk rk)]
          simp
      · rw [bnd (again_apply hrd ha he0), if_neg n0, bnd ha, if_pos (by rw [cm_neq]; simp [he0])]
        simp [cm_eql]
    · rw [if_neg he] at hrd ⊢
      rw [bnd (again_read hrd he), if_pos (by rw [cm_neq]; simp [he])]
      simp [cm_eql]
  · rw [if_pos (by
      rw [cm_gtr]
      by_cases h1 : s = true
      · have : ¬ b.length ≤ 70000 := fun h2 => hsh ⟨h1, h2⟩
        rw [h1]; simp; omega
      · simp only [Bool.not_eq_true] at h1
        rw [h1]; rfl)]
end Xb

