/- Own text: Math1. -/
import Derived.Test.YtpehlandaemcmaaGreatCore16
set_option linter.all false
set_option linter.unusedVariables false
set_option linter.unusedSimpArgs false
set_option linter.unnecessarySimpa false
set_option linter.deprecated false
/-! Plain arithmetic and loops, for the models. -/
namespace Xb
open Go

/-! wraps -/
theorem w_i64 {n : Int} (h1 : -9223372036854775808 ≤ n) (h2 : n ≤ 9223372036854775807) : IntKind.i64.wrap n = n := by
  simp only [IntKind.wrap, IntKind.signed, IntKind.bits]; simp; split <;> omega
theorem w_i32 {n : Int} (h1 : -2147483648 ≤ n) (h2 : n ≤ 2147483647) : IntKind.i32.wrap n = n := by
  simp only [IntKind.wrap, IntKind.signed, IntKind.bits]; simp; split <;> omega
theorem wu64 (n : Int) : IntKind.u64.wrap n = n % 18446744073709551616 := by
  simp [IntKind.wrap, IntKind.signed, IntKind.bits]
theorem wu32 (n : Int) : IntKind.u32.wrap n = n % 4294967296 := by
  simp [IntKind.wrap, IntKind.signed, IntKind.bits]
theorem wu16 (n : Int) : IntKind.u16.wrap n = n % 65536 := by
  simp [IntKind.wrap, IntKind.signed, IntKind.bits]
theorem wu8 (n : Int) : IntKind.u8.wrap n = n % 256 := by
  simp [IntKind.wrap, IntKind.signed, IntKind.bits]
theorem w_u64 {n : Int} (h1 : 0 ≤ n) (h2 : n ≤ 18446744073709551615) : IntKind.u64.wrap n = n := by rw [wu64]; omega
theorem w_u32 {n : Int} (h1 : 0 ≤ n) (h2 : n ≤ 4294967295) : IntKind.u32.wrap n = n := by rw [wu32]; omega
theorem w_u16 {n : Int} (h1 : 0 ≤ n) (h2 : n ≤ 65535) : IntKind.u16.wrap n = n := by rw [wu16]; omega
theorem w_u8 {n : Int} (h1 : 0 ≤ n) (h2 : n ≤ 255) : IntKind.u8.wrap n = n := by rw [wu8]; omega

theorem in_i64 {n : Int} : inK .i64 n ↔ -9223372036854775808 ≤ n ∧ n ≤ 9223372036854775807 := Iff.rfl
theorem in_i32 {n : Int} : inK .i32 n ↔ -2147483648 ≤ n ∧ n ≤ 2147483647 := Iff.rfl
theorem in_u64 {n : Int} : inK .u64 n ↔ 0 ≤ n ∧ n ≤ 18446744073709551615 := Iff.rfl
theorem in_u32 {n : Int} : inK .u32 n ↔ 0 ≤ n ∧ n ≤ 4294967295 := Iff.rfl
theorem in_u16 {n : Int} : inK .u16 n ↔ 0 ≤ n ∧ n ≤ 65535 := Iff.rfl
theorem in_u8 {n : Int} : inK .u8 n ↔ 0 ≤ n ∧ n ≤ 255 := Iff.rfl

theorem ar_add {k : IntKind} {x y : Int} : ar .add k x y = k.wrap (x + y) := by cases k <;> rfl
theorem ar_sub {k : IntKind} {x y : Int} : ar .sub k x y = k.wrap (x - y) := by cases k <;> rfl
theorem ar_mul {k : IntKind} {x y : Int} : ar .mul k x y = k.wrap (x * y) := by cases k <;> rfl
theorem cm_eql {x y : Int} : cm .eql x y = decide (x = y) := by simp only [cm]; by_cases h : x = y <;> simp [h]
theorem cm_neq {x y : Int} : cm .neq x y = !decide (x = y) := by simp only [cm]; by_cases h : x = y <;> simp [h]
theorem cm_lss {x y : Int} : cm .lss x y = decide (x < y) := by simp only [cm, gt_iff_lt, ge_iff_le]
theorem cm_leq {x y : Int} : cm .leq x y = decide (x ≤ y) := by simp only [cm, gt_iff_lt, ge_iff_le]
theorem cm_gtr {x y : Int} : cm .gtr x y = decide (y < x) := by simp only [cm, gt_iff_lt, ge_iff_le]
theorem cm_geq {x y : Int} : cm .geq x y = decide (y ≤ x) := by simp only [cm, gt_iff_lt, ge_iff_le]
theorem dv_quo {k : IntKind} {x y : Int} (h : 0 ≤ x) : dv .quo k x y = k.wrap (x / y) := by simp only [dv, Int.tdiv_eq_ediv_of_nonneg h]
theorem dv_rem {k : IntKind} {x y : Int} (h : 0 ≤ x) : dv .rem k x y = x % y := by simp only [dv, Int.tmod_eq_emod_of_nonneg h]

theorem sf_shl {k : IntKind} {x y : Int} {n : Nat} (h : y = n) (hn : n ≤ k.bits) : sf .shl k x y = k.wrap (x * 2 ^ n) := by
  subst h; simp only [sf, Int.toNat_natCast]; rw [Nat.min_eq_left hn]
theorem sf_shr {k : IntKind} {x y : Int} {n : Nat} (h : y = n) (hn : n ≤ k.bits) : sf .shr k x y = x / 2 ^ n := by
  subst h; simp only [sf, Int.toNat_natCast]; rw [Nat.min_eq_left hn, Int.fdiv_eq_ediv_of_nonneg _ (Int.le_of_lt (Int.pow_pos (by omega)))]
theorem sfO_nn {op : BinOp} {k : IntKind} {x y : Int} (h : 0 ≤ y) : sfO op k x y = some (sf op k x y) := by simp [sfO]; omega
theorem dvO_nz {op : BinOp} {k : IntKind} {x y : Int} (h : y ≠ 0) : dvO op k x y = some (dv op k x y) := by simp [dvO, h]

/-- and with a mask of ones -/
theorem nat_and_mask (x n : Nat) : x &&& (2 ^ n - 1) = x % 2 ^ n := Nat.and_two_pow_sub_one_eq_mod x n
theorem ar_and_nat {k : IntKind} (hs : k.signed = false) {x y : Nat} (hx : x < 2 ^ k.bits) (hy : y < 2 ^ k.bits) : ar .and k (x : Int) (y : Int) = ((x &&& y : Nat) : Int) := by
  simp only [ar, BitVec.toNat_and, BitVec.toNat_ofInt]
  have e1 : ((x : Int) % ((2 ^ k.bits : Nat) : Int)).toNat = x := by
    rw [← Int.natCast_emod, Int.toNat_natCast, Nat.mod_eq_of_lt hx]
  have e2 : ((y : Int) % ((2 ^ k.bits : Nat) : Int)).toNat = y := by
    rw [← Int.natCast_emod, Int.toNat_natCast, Nat.mod_eq_of_lt hy]
  rw [e1, e2]
  have hlt : x &&& y < 2 ^ k.bits := Nat.lt_of_le_of_lt Nat.and_le_left hx
  simp only [IntKind.wrap, hs, Bool.false_and, Bool.false_eq_true, if_false]
  have : ((x &&& y : Nat) : Int) % ((2 : Int) ^ k.bits) = ((x &&& y : Nat) : Int) := by
    apply Int.emod_eq_of_lt (by omega)
    have : ((x &&& y : Nat) : Int) < ((2 ^ k.bits : Nat) : Int) := by exact_mod_cast hlt
    simpa using this
  exact this
theorem ar_or_nat {k : IntKind} (hs : k.signed = false) {x y : Nat} (hx : x < 2 ^ k.bits) (hy : y < 2 ^ k.bits) : ar .or k (x : Int) (y : Int) = ((x ||| y : Nat) : Int) := by
  simp only [ar, BitVec.toNat_or, BitVec.toNat_ofInt]
  have e1 : ((x : Int) % ((2 ^ k.bits : Nat) : Int)).toNat = x := by
    rw [← Int.natCast_emod, Int.toNat_natCast, Nat.mod_eq_of_lt hx]
  have e2 : ((y : Int) % ((2 ^ k.bits : Nat) : Int)).toNat = y := by
    rw [← Int.natCast_emod, Int.toNat_natCast, Nat.mod_eq_of_lt hy]
  rw [e1, e2]
  have hlt : x ||| y < 2 ^ k.bits := Nat.or_lt_two_pow hx hy
  simp only [IntKind.wrap, hs, Bool.false_and, Bool.false_eq_true, if_false]
  have : ((x ||| y : Nat) : Int) % ((2 : Int) ^ k.bits) = ((x ||| y : Nat) : Int) := by
    apply Int.emod_eq_of_lt (by omega)
    have : ((x ||| y : Nat) : Int) < ((2 ^ k.bits : Nat) : Int) := by exact_mod_cast hlt
    simpa using this
  exact this

/-- and with a mask, of numbers without a sign -/
theorem ar_mask {k : IntKind} (hs : k.signed = false) {x y : Int} {n : Nat} (hy : y = 2 ^ n - 1) (hn : n ≤ k.bits) (h0 : 0 ≤ x) (hx : x < 2 ^ k.bits) : ar .and k x y = x % 2 ^ n := by
  obtain ⟨x, rfl⟩ := Int.eq_ofNat_of_zero_le h0
  have h2 : (1 : Nat) ≤ 2 ^ n := Nat.one_le_two_pow
  have e : y = ((2 ^ n - 1 : Nat) : Int) := by rw [hy, Int.natCast_sub h2]; simp
  have hle : 2 ^ n ≤ 2 ^ k.bits := Nat.pow_le_pow_right (by omega) hn
  rw [e, ar_and_nat hs (by exact_mod_cast hx) (Nat.lt_of_lt_of_le (Nat.sub_lt (by omega) (by omega)) hle), nat_and_mask]
  simp
/-- or, where the lower one is below all ones of the higher one -/
theorem nat_or_add {a b n : Nat} (hb : b < 2 ^ n) : a * 2 ^ n ||| b = a * 2 ^ n + b := by
  rw [← Nat.shiftLeft_eq, Nat.shiftLeft_add_eq_or_of_lt hb]
theorem ar_or_add {k : IntKind} (hs : k.signed = false) {x y a : Int} {n : Nat} (hx : x = a * 2 ^ n) (ha : 0 ≤ a) (h0 : 0 ≤ y) (hy : y < 2 ^ n) (hx2 : x < 2 ^ k.bits) (hn : n ≤ k.bits) : ar .or k x y = x + y := by
  obtain ⟨a, rfl⟩ := Int.eq_ofNat_of_zero_le ha
  obtain ⟨y, rfl⟩ := Int.eq_ofNat_of_zero_le h0
  have hle : 2 ^ n ≤ 2 ^ k.bits := Nat.pow_le_pow_right (by omega) hn
  have hy' : y < 2 ^ n := by exact_mod_cast hy
  have e : x = ((a * 2 ^ n : Nat) : Int) := by rw [hx]; simp
  rw [e] at hx2 ⊢
  rw [ar_or_nat hs (by exact_mod_cast hx2) (by omega), nat_or_add hy']
  simp

/-! lists -/
theorem ix_some {α : Type} {l : List α} {i : Int} {n : Nat} (h : i = n) (hn : n < l.length) : ix l i = some l[n] := by
  subst h; simp [ix, hn]
theorem ix_getD {l : List Int} {i : Int} (h : 0 ≤ i) (hn : i < l.length) : ix l i = some (l.getD i.toNat 0) := by
  have : i.toNat < l.length := by omega
  simp [ix, h, List.getD, this]
theorem app_some {α : Type} {l m : List α} (h : l.length + m.length ≤ 4294967296) : app l m = some (l ++ m) := by simp [app, h]
theorem sub_some {α : Type} {l : List α} {a b : Int} (h1 : 0 ≤ a) (h2 : a ≤ b) (h3 : b ≤ l.length) : sub l a b = some ((l.drop a.toNat).take (b.toNat - a.toNat)) := by simp [sub, h1, h2, h3]
theorem cat_some {l m : List UInt8} (h : l.length + m.length ≤ 4294967296) : cat l m = some (l ++ m) := by simp [cat, h]
theorem bnd {α β : Type} {m : Option α} {x : α} (h : m = some x) (f : α → Option β) : Option.bind m f = f x := by subst h; rfl
theorem gT_true {α : Type} [Inhabited α] {b : Bool} {m : Option α} (h : b = true) : gT b m = m := by subst h; rfl
theorem gT_false {α : Type} [Inhabited α] {b : Bool} {m : Option α} (h : b = false) : gT b m = some default := by subst h; rfl
theorem gTT {α : Type} [Inhabited α] {m : Option α} : gT true m = m := by cases m <;> rfl
theorem gTF {α : Type} [Inhabited α] {m : Option α} : gT false m = some default := by cases m <;> rfl
theorem sc_self {s : List UInt8} : sc .eql s s = true := by simp [sc]

/-! loops -/
/-- a loop whose states are known ahead -/
theorem loop_seq {σ ρ : Type} {step : σ → Option (σ ⊕ ρ)} {r : ρ} (f : Nat → σ) (N : Nat) (h : ∀ i, i < N → step (f i) = some (.inl (f (i + 1)))) (he : step (f N) = some (.inr r)) : loopG none step (f 0) = some r := by
  have key : ∀ k, k ≤ N → loopG none step (f (N - k)) = some r := by
    intro k
    induction k with
    | zero => intro _; rw [loopG_eq]; simp [he]
    | succ k ih =>
      intro hk
      rw [loopG_eq, h (N - (k + 1)) (by omega)]
      have e : N - (k + 1) + 1 = N - k := by omega
      simp only [e]
      exact ih (by omega)
  have := key N (Nat.le_refl _)
  simpa using this

/-- a loop by what stands at its head -/
theorem loop_inv {σ ρ : Type} {step : σ → Option (σ ⊕ ρ)} {Q : ρ → Prop} (Inv : σ → Prop) (μ : σ → Nat) (s0 : σ) (h0 : Inv s0)
    (h : ∀ s, Inv s → (∃ s', step s = some (.inl s') ∧ Inv s' ∧ μ s' < μ s) ∨ (∃ r, step s = some (.inr r) ∧ Q r)) : ∃ r, loopG none step s0 = some r ∧ Q r := by
  have key : ∀ n s, μ s < n → Inv s → ∃ r, loopG none step s = some r ∧ Q r := by
    intro n
    induction n with
    | zero => intro s hs; omega
    | succ n ih =>
      intro s hs hi
      rcases h s hi with ⟨s', h1, h2, h3⟩ | ⟨r, h1, h2⟩
      · obtain ⟨r, hr, hq⟩ := ih s' (by omega) h2
        exact ⟨r, by rw [loopG_eq, h1]; exact hr, hq⟩
      · exact ⟨r, by rw [loopG_eq, h1], h2⟩
  exact key (μ s0 + 1) s0 (by omega) h0

end Xb
