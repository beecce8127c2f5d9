/- Own text: BTrueBitsParts. -/
import Derived.Test.YtffmagkhoepfnaaMBitsP
import Derived.Test.YtffmagkhoepfnaaMBitsA
import Derived.Test.YtffmagkhoepfnaaBWf
set_option linter.all false
set_option linter.unusedVariables false
set_option linter.unusedSimpArgs false
set_option linter.unnecessarySimpa false
set_option linter.deprecated false
namespace Xb
open Go

theorem getG_bytes (c : GBits) (n : Int) : (getG c n).1.bytes = c.bytes := by
  unfold getG failG
  split
  · split <;> rfl
  · split
    · split <;> rfl
    · rfl

theorem addK_u8 {k : Ink} (hu : U8 k.bytes) (v n : Int) : U8 (addK k v n).1.bytes := by
  unfold addK
  split
  · exact hu
  · rename_i h
    split
    · exact hu
    · cases ho : okK k with
      | false => exact absurd (.inl ho) h
      | true => exact (PB_ok (okK_ok hu ho).1 v _ _).u8

theorem addK_len {k : Ink} (hu : U8 k.bytes) (v n : Int) : (addK k v n).1.bytes.length ≤ k.bytes.length + 9 ∧ (inK .i64 k.many → k.bytes.length ≤ 100000000 → inK .i64 (addK k v n).1.many) := by
  unfold addK
  split
  · exact ⟨by simp, fun h _ => h⟩
  · rename_i h
    split
    · exact ⟨by simp, fun h _ => h⟩
    · cases ho : okK k with
      | false => exact absurd (.inl ho) h
      | true =>
        obtain ⟨hok, hm⟩ := okK_ok hu ho
        have a := (PB_ok hok v n.toNat n.toNat).ge
        have b := hok.le
        simp only [not_or, Int.not_lt] at h
        simp only [in_i64]
        constructor
        · omega
        · intro h1 h2; omega

theorem bitsParts_true {c : GBits} {k : Ink} {m n v : Int} (hc : wf_GBits c) (hk : wf_Ink k) (hm : inK .u8 m) (hn : inK .u8 n) (hv : inK .u64 v) : law02_BitsParts none c k m n v = some true := by
  rw [in_u8] at hm hn
  rw [in_u64] at hv
  unfold law02_BitsParts
  by_cases h : (cm .gtr (c.bytes.length : Int) 3000 || cm .gtr (k.bytes.length : Int) 3000) = true
  · rw [if_pos h]
  · rw [if_neg h]
    obtain ⟨h1, h2⟩ := guard2 h
    have hcu : U8 c.bytes := hc.1.2
    have hku : U8 k.bytes := hk.1.2
    have hbc : By c.bytes := ⟨hcu, by omega⟩
    obtain ⟨x, hx⟩ := Int.eq_ofNat_of_zero_le (show 0 ≤ m % 33 by omega)
    obtain ⟨y, hy⟩ := Int.eq_ofNat_of_zero_le (show 0 ≤ n % 32 by omega)
    have hx32 : x ≤ 32 := by omega
    have hy31 : y ≤ 31 := by omega
    have ex : dv .rem .i64 (IntKind.i64.wrap m) 33 = (x : Int) := by rw [w_i64 (by omega) (by omega), dv_rem hm.1, hx]
    have ey : dv .rem .i64 (IntKind.i64.wrap n) 32 = (y : Int) := by rw [w_i64 (by omega) (by omega), dv_rem hn.1, hy]
    have exy : ar .add .i64 (x : Int) (y : Int) = ((x + y : Nat) : Int) := by rw [ar_add, w_i64 (by omega) (by omega)]; simp
    have hp63 : (2 : Int) ^ (x + y) ≤ 9223372036854775808 := by
      have a : (2 : Nat) ^ (x + y) ≤ 2 ^ 63 := Nat.pow_le_pow_right (by omega) (by omega)
      rw [← pow_int]; omega
    have hp31 : (2 : Int) ^ y ≤ 2147483648 := by
      have a : (2 : Nat) ^ y ≤ 2 ^ 31 := Nat.pow_le_pow_right (by omega) (by omega)
      rw [← pow_int]; omega
    have hpos : ∀ t : Nat, (1 : Int) ≤ 2 ^ t := fun t => by
      have b : 1 ≤ 2 ^ t := Nat.one_le_two_pow
      rw [← pow_int]; omega
    have esh : ∀ t : Nat, t ≤ 63 → sf .shl .u64 1 (t : Int) = 2 ^ t := fun t ht => by
      have a : (2 : Nat) ^ t ≤ 2 ^ 63 := Nat.pow_le_pow_right (by omega) ht
      have a' : (2 : Int) ^ t ≤ 9223372036854775808 := by rw [← pow_int]; omega
      have := hpos t
      rw [sf_shl rfl (by simp only [IntKind.bits]; omega), w_u64 (by omega) (by omega)]; omega
    have key : law02_BitsParts_j1 none k m n v = some true := by
      unfold law02_BitsParts_j1
      have p1 := hpos (x + y)
      have p2 := hpos y
      have hmod : 0 ≤ v % 2 ^ (x + y) ∧ v % 2 ^ (x + y) < 2 ^ (x + y) := ⟨Int.emod_nonneg _ (by omega), Int.emod_lt_of_pos _ (by omega)⟩
      have e1 : ar .and .u64 v (ar .sub .u64 (2 ^ (x + y)) 1) = v % 2 ^ (x + y) := by
        rw [ar_sub, w_u64 (by omega) (by omega), ar_mask (k := .u64) (n := x + y) rfl rfl (by simp only [IntKind.bits]; omega) hv.1 (by simp only [IntKind.bits]; omega)]
      rw [ex, ey, exy, sfO_nn (by omega), Option.bind_some, esh _ (by omega), e1, sfO_nn (by omega), Option.bind_some, sf_shr rfl (by simp only [IntKind.bits]; omega)]
      generalize hw : v % 2 ^ (x + y) = w at hmod
      have hd : 0 ≤ w / 2 ^ y ∧ w / 2 ^ y ≤ w := ⟨Int.ediv_nonneg hmod.1 (by omega), Int.ediv_le_self _ hmod.1⟩
      rw [bnd (bits_Add_eq hku (by omega) hk.2 (in_u64.2 (by omega)) _), sfO_nn (by omega), Option.bind_some, esh _ (by omega)]
      have e2 : ar .and .u64 w (ar .sub .u64 (2 ^ y) 1) = w % 2 ^ y := by
        rw [ar_sub, w_u64 (by omega) (by omega), ar_mask (k := .u64) (n := y) rfl rfl (by simp only [IntKind.bits]; omega) hmod.1 (by simp only [IntKind.bits]; omega)]
      have hm2 : 0 ≤ w % 2 ^ y ∧ w % 2 ^ y < 2 ^ y := ⟨Int.emod_nonneg _ (by omega), Int.emod_lt_of_pos _ (by omega)⟩
      have hl := addK_len hku (w / 2 ^ y) (x : Int)
      rw [e2, bnd (bits_Add_eq (addK_u8 hku _ _) (by omega) (hl.2 hk.2 (by omega)) (in_u64.2 (by omega)) _), bnd (bits_Add_eq hku (by omega) hk.2 (in_u64.2 (by omega)) _)]
      obtain ⟨t1, t2⟩ := addK_two hku hx32 hy31 hmod.2
      rw [t1, t2, sameInk_self, cm_eql]
      simp
    rw [ex, ey, bnd (bits_Get_eq hbc _), bnd (bits_Get_eq (by rw [getG_bytes]; exact hbc) _), exy, bnd (bits_Get_eq hbc _)]
    by_cases e : (getG (getG c x).1 y).1.err = 0
    · obtain ⟨t1, t2, t3, t4, t5, t6, t7⟩ := getG_two (c := c) hx32 hy31 e
      have hpx : (2 : Int) ^ (x + y) = 2 ^ x * 2 ^ y := Int.pow_add ..
      have hmul : (getG c x).2 * 2 ^ y + (getG (getG c x).1 y).2 < 2 ^ (x + y) := by
        rw [← t3]
        have : (getG c ((x + y : Nat) : Int)).2 < 2 ^ (x + y) := by
          have := Int.mul_le_mul_of_nonneg_right (show (getG c x).2 + 1 ≤ 2 ^ x by omega) (show (0 : Int) ≤ 2 ^ y by have := hpos y; omega)
          rw [Int.add_mul] at this
          omega
        exact this
      have hm0 : 0 ≤ (getG c x).2 * 2 ^ y := Int.mul_nonneg t5 (by have := hpos y; omega)
      rw [if_pos (by rw [cm_eql]; simpa using e)]
      have hb1 : (cm .neq (getG c ((x + y : Nat) : Int)).1.err 0 || cm .neq (getG c ((x + y : Nat) : Int)).1.at_ (getG (getG c x).1 y).1.at_) = false := by
        rw [cm_neq, cm_neq, t1]; simp [e]
      rw [hb1, Bool.not_false, gTT, sfO_nn (by omega), Option.bind_some, sf_shl rfl (by simp only [IntKind.bits]; omega), w_u64 (by omega) (by omega), ar_add, w_u64 (by omega) (by omega), ← t3, cm_neq]
      simpa using key
    · have e' : ¬ (getG c ((x + y : Nat) : Int)).1.err = 0 := fun h => e (getG_two' hx32 hy31 h)
      rw [if_neg (by rw [cm_eql]; simpa using e), if_neg (by rw [cm_eql]; simpa using e')]
      exact key
end Xb
