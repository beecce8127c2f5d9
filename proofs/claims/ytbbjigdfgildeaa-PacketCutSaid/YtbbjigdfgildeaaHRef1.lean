/- Own text: HRef1. -/
import Derived.Test.YtbbjigdfgildeaaHOct1
set_option linter.all false
set_option linter.unusedVariables false
set_option linter.unusedSimpArgs false
set_option linter.unnecessarySimpa false
set_option linter.deprecated false
namespace Xb
open Go

theorem beN_cons : ∀ (i : Nat) (v : Int), 0 ≤ v → beN (i + 1) v = (v / 256 ^ i % 256) :: beN i v
  | 0, v, _ => by simp [beN]
  | i + 1, v, h => by
    rw [beN, beN_cons i (v / 256) (by omega), beN]
    rw [List.cons_append]
    congr 2
    rw [Int.ediv_ediv_of_nonneg (by omega)]
    congr 1
    rw [Int.pow_succ, Int.mul_comm]

theorem rset {n i : Nat} (l : List Int) (hi : i < n) (x : Int) : (List.replicate (n - i) (0 : Int) ++ l).set (n - 1 - i) x = List.replicate (n - (i + 1)) 0 ++ x :: l := by
  have e : n - i = (n - (i + 1)) + 1 := by omega
  rw [e, List.replicate_succ', List.append_assoc, List.set_append_right _ _ (by simp; omega)]
  have : n - 1 - i - (List.replicate (n - (i + 1)) (0 : Int)).length = 0 := by simp; omega
  rw [this]; rfl

theorem rput_eq {v : Int} {n : Nat} (h0 : 0 ≤ v) (h1 : 1 ≤ n) (h2 : n ≤ 8) (h64 : v ≤ 18446744073709551615) : ref01_Put none v n = some (if v < 256 ^ n then (beN n v, 0) else ([], 6)) := by
  unfold ref01_Put ref01_Put_l1
  have hl : mkL (0 : Int) n n = some (List.replicate n 0) := by
    simp only [mkL]; rw [if_pos (by omega)]; rfl
  rw [if_neg (by rw [cm_lss, cm_gtr]; simp; omega), bnd hl]
  have hpow : ∀ i : Nat, (0 : Int) < 256 ^ i := fun i => Int.pow_pos (by decide)
  have := loop_seq (step := fun (s : Int × List Int × Int) => ref01_Put_s1 none n s.1 s.2.1 s.2.2) (r := if v < 256 ^ n then (beN n v, 0) else ([], 6)) (fun i => (v / 256 ^ i, List.replicate (n - i) 0 ++ beN i v, (i : Int))) n (fun i hi => by
    show ref01_Put_s1 none n (v / 256 ^ i) (List.replicate (n - i) 0 ++ beN i v) (i : Int) = _
    have hv : 0 ≤ v / 256 ^ i := Int.ediv_nonneg h0 (by have := hpow i; omega)
    unfold ref01_Put_s1
    have e1 : ar .sub .i64 (ar .sub .i64 (n : Int) 1) (i : Int) = ((n - 1 - i : Nat) : Int) := by
      have ea : ar .sub .i64 (n : Int) 1 = (n : Int) - 1 := by rw [ar_sub, w_i64 (by omega) (by omega)]
      rw [ea, ar_sub, w_i64 (by omega) (by omega)]; omega
    have hlen : n - 1 - i < (List.replicate (n - i) (0 : Int) ++ beN i v).length := by simp [beN_len]; omega
    rw [if_pos (by rw [cm_lss]; simpa using hi), e1, bnd (ix_some (n := n - 1 - i) rfl hlen), dv_quo hv, dv_rem hv, ar_add, w_i64 (by omega) (by omega), Int.toNat_natCast]
    have e2 : v / 256 ^ i / 256 = v / 256 ^ (i + 1) := by
      rw [Int.ediv_ediv_of_nonneg (by have := hpow i; omega), Int.pow_succ]
    have hle : v / 256 ^ i ≤ v := Int.ediv_le_self _ h0
    have e3 : IntKind.u64.wrap (v / 256 ^ i / 256) = v / 256 ^ (i + 1) := by rw [w_u64 (by omega) (by omega), e2]
    rw [rset _ hi, w_u8 (by omega) (by omega), beN_cons i v h0, e3]
    rfl) (by
    show ref01_Put_s1 none n (v / 256 ^ n) (List.replicate (n - n) 0 ++ beN n v) (n : Int) = _
    unfold ref01_Put_s1
    rw [if_neg (by rw [cm_lss]; simp), Nat.sub_self]
    by_cases hv : v < 256 ^ n
    · have : v / 256 ^ n = 0 := Int.ediv_eq_zero_of_lt h0 hv
      rw [this, if_neg (by decide), if_pos hv]
      simp
    · have : 1 ≤ v / 256 ^ n := Int.le_ediv_of_mul_le (hpow n) (by omega)
      rw [if_pos (by rw [cm_gtr]; simp; omega), if_neg hv]
      rfl)
  simpa [beN] using this

theorem rmust_eq {v : Int} {n : Nat} (h0 : 0 ≤ v) (h1 : 1 ≤ n) (h2 : n ≤ 8) (h64 : v ≤ 18446744073709551615) (hv : v < 256 ^ n) : ref01_Must none v n = some (beN n v) := by
  unfold ref01_Must
  rw [bnd (rput_eq h0 h1 h2 h64), if_pos hv]

theorem numB_bd8 {l : List Int} (hl : ∀ x, x ∈ l → 0 ≤ x ∧ x ≤ 255) {k : Nat} (hk : l.length ≤ k) : 0 ≤ numB l ∧ numB l < 256 ^ k := by
  have hbd := numB_bd l hl
  have h3 := Nat.pow_le_pow_right (show 0 < 256 by decide) hk
  have h5 : (((256 : Nat) ^ l.length : Nat) : Int) = (256 : Int) ^ l.length := Int.natCast_pow _ _
  have h6 : (((256 : Nat) ^ k : Nat) : Int) = (256 : Int) ^ k := Int.natCast_pow _ _
  have : (256 : Int) ^ l.length ≤ 256 ^ k := by rw [← h5, ← h6]; exact Int.ofNat_le.2 h3
  omega

theorem rget_eq {b : List Int} {at_ n : Nat} (h1 : 1 ≤ n) (h2 : n ≤ 8) (hb : ∀ x, x ∈ b → 0 ≤ x ∧ x ≤ 255) (hl : b.length ≤ 4294967296) (h : at_ + n ≤ b.length) :
    ref01_Get none b at_ n = some (numB ((b.drop at_).take n), 0) := by
  unfold ref01_Get ref01_Get_l1
  rw [if_neg (by rw [cm_lss, cm_gtr, cm_lss]; simp; omega), ar_sub, w_i64 (by omega) (by omega), if_neg (by rw [cm_gtr, cm_lss]; simp; omega)]
  have hsl : ((b.drop at_).take n).length = n := by rw [List.length_take, List.length_drop]; omega
  have := loop_seq (step := fun (s : Int × Int) => ref01_Get_s1 none b at_ n s.1 s.2) (r := (numB ((b.drop at_).take n), 0)) (fun i => (numB ((b.drop at_).take i), (i : Int))) n (fun i hi => by
    show ref01_Get_s1 none b at_ n (numB ((b.drop at_).take i)) (i : Int) = _
    have hlt : at_ + i < b.length := by omega
    have hx := hb b[at_ + i] (List.getElem_mem hlt)
    have hbd := numB_bd8 (l := (b.drop at_).take i) (fun x hx => hb x (List.mem_of_mem_drop (List.mem_of_mem_take hx))) (k := 7) (by rw [List.length_take]; omega)
    have h256 : (256 : Int) ^ 7 = 72057594037927936 := by decide
    unfold ref01_Get_s1
    rw [if_pos (by rw [cm_lss]; simpa using hi), ar_add (x := (at_ : Int)), w_i64 (by omega) (by omega), bnd (ix_some (n := at_ + i) (by omega) hlt), ar_mul, w_u64 (n := 256 * numB ((b.drop at_).take i)) (by omega) (by omega),
      w_u64 (n := b[at_ + i]) (by omega) (by omega), ar_add (k := .u64), w_u64 (by omega) (by omega), ar_add, w_i64 (by omega) (by omega)]
    have e3 : numB ((b.drop at_).take (i + 1)) = numB ((b.drop at_).take i) * 256 + b[at_ + i] := by
      rw [List.take_add_one, List.getElem?_drop, List.getElem?_eq_getElem hlt]
      exact numB_snoc _ _
    rw [e3, Int.mul_comm]
    rfl) (by
    show ref01_Get_s1 none b at_ n _ _ = _
    unfold ref01_Get_s1
    rw [if_neg (by rw [cm_lss]; simp)]
    rfl)
  simpa [numB] using this
theorem rget_short {b : List Int} {at_ n : Nat} (h1 : 1 ≤ n) (h2 : n ≤ 8) (hl : b.length ≤ 4294967296) (h : b.length < at_ + n) : ref01_Get none b at_ n = some (0, 2) := by
  unfold ref01_Get
  rw [if_neg (by rw [cm_lss, cm_gtr, cm_lss]; simp; omega)]
  by_cases h3 : (at_ : Int) > b.length
  · rw [if_pos (by rw [cm_gtr]; simp; omega)]
  · rw [ar_sub, w_i64 (by omega) (by omega), if_pos (by rw [cm_gtr, cm_lss]; simp; omega)]
end Xb
