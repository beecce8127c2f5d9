/- Own text: DTruePadFill. -/
import Derived.Test.YthdbckjpoffnpaaMPad2
import Derived.Test.YthdbckjpoffnpaaDWf
set_option linter.all false
set_option linter.unusedVariables false
set_option linter.unusedSimpArgs false
set_option linter.unnecessarySimpa false
set_option linter.deprecated false
namespace Xb
open Go

theorem round_eq {n : Int} (h0 : 0 ≤ n) (h1 : n ≤ 2147483648) : pad_Round n = (n + 3) / 4 * 4 := by
  simp only [pad_Round, cm_lss, cm_gtr]
  rw [if_neg (by simp; omega)]
  rw [ar_add, w_i64 (n := n + 4) (by omega) (by omega), ar_sub, w_i64 (n := n + 4 - 1) (by omega) (by omega), dv_quo (by omega), w_i64 (by omega) (by omega), ar_mul, w_i64 (by omega) (by omega)]
  omega

theorem padFill_true {b : List Int} (hb : b.length ≤ maxLen ∧ ∀ x, x ∈ b → inK .u8 x) : law03_PadFill none b = some true := by
  have hu : ∀ y, y ∈ b → 0 ≤ y ∧ y ≤ 255 := hb.2
  unfold law03_PadFill
  by_cases h : (b.length : Int) > 3000
  · rw [if_pos (by rw [cm_gtr]; simpa using h)]
  · rw [if_neg (by rw [cm_gtr]; simpa using h), bnd (fill_eq (by omega))]
    have hl : (b ++ List.replicate (fillN b.length) (0 : Int)).length = b.length + fillN b.length := by simp
    have hf : fillN b.length ≤ 3 ∧ (b.length + fillN b.length) % 4 = 0 := by unfold fillN; omega
    generalize hk : fillN b.length = k at *
    have e1 : cm .eql (dv .rem .i64 (((b ++ List.replicate k (0 : Int)).length : Nat) : Int) 4) 0 = true := by rw [hl, dv_rem (by omega), cm_eql]; simp; omega
    have e2 : cm .geq (((b ++ List.replicate k (0 : Int)).length : Nat) : Int) (b.length : Int) = true := by rw [hl, cm_geq]; simp; omega
    have e3 : cm .lss (ar .sub .i64 (((b ++ List.replicate k (0 : Int)).length : Nat) : Int) (b.length : Int)) 4 = true := by rw [hl, ar_sub, w_i64 (by omega) (by omega), cm_lss]; simp; omega
    have e4 : cm .eql (((b ++ List.replicate k (0 : Int)).length : Nat) : Int) (pad_Round (b.length : Int)) = true := by rw [hl, round_eq (by omega) (by omega), cm_eql]; simp; omega
    rw [e1, e2, e3, e4]
    simp only [Bool.true_and, gTT]
    have s1 : sub (b ++ List.replicate k (0 : Int)) 0 (b.length : Int) = some b := by
      rw [sub_some (by omega) (by omega) (by rw [hl]; omega)]; simp
    have s2 : sub (b ++ List.replicate k (0 : Int)) (b.length : Int) (((b ++ List.replicate k (0 : Int)).length : Nat) : Int) = some (List.replicate k 0) := by
      rw [sub_some (by omega) (by rw [hl]; omega) (by omega)]; simp; omega
    rw [bnd s1, sc_self]
    simp only [gTT]
    have hz : (∀ y, y ∈ List.replicate k (0 : Int) → y = 0) := fun y hy => (List.mem_replicate.1 hy).2
    rw [bnd s2, bnd (zero_eq (b := List.replicate k 0) (fun y hy => by rw [hz y hy]; omega))]
    have hd : decide (∀ y, y ∈ List.replicate k (0 : Int) → y = 0) = true := decide_eq_true hz
    rw [hd]
    simp only [Bool.true_and, gTT]
    have hf2 : fillN (b ++ List.replicate k (0 : Int)).length = 0 := by rw [hl]; unfold fillN; omega
    rw [bnd (fill_eq (by rw [hl]; omega)), hf2]
    simp [sc_self]
end Xb
