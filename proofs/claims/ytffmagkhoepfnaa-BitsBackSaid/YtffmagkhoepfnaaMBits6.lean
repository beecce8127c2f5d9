/- Own text: MBits6. -/
import Derived.Test.YtffmagkhoepfnaaMBits5
set_option linter.all false
set_option linter.unusedVariables false
set_option linter.unusedSimpArgs false
set_option linter.unnecessarySimpa false
set_option linter.deprecated false
namespace Xb
open Go

theorem ref02_Add_eq {k : Ink} (hu : U8 k.bytes) (hl : k.bytes.length ≤ 100000000) (hm : inK .i64 k.many) {v : Int} (hv : inK .u64 v) (n : Int) : ref02_Add none k v n = some (addK k v n) := by
  have hb : By k.bytes := ⟨hu, by omega⟩
  rw [in_u64] at hv
  unfold ref02_Add addK
  rw [bnd (ref02_Ink_eq hb hm)]
  have hc : ((!okK k || cm .lss n 0) || cm .gtr n 64) = decide (okK k = false ∨ n < 0 ∨ n > 64) := by rw [cm_lss, cm_gtr]; cases okK k <;> simp
  rw [hc]
  by_cases h1 : okK k = false ∨ n < 0 ∨ n > 64
  · simp [h1]
  · simp only [h1, decide_false, Bool.false_eq_true, if_false]
    simp only [not_or, Bool.not_eq_false, Int.not_lt] at h1
    obtain ⟨ho, h0, h64⟩ := h1
    obtain ⟨hok, hm0⟩ := okK_ok hu ho
    obtain ⟨N, rfl⟩ := Int.eq_ofNat_of_zero_le h0
    obtain ⟨m, hme⟩ := Int.eq_ofNat_of_zero_le hm0
    have hlen : 8 * k.bytes.length ≤ m + 7 := by have := hok.ge; omega
    have hlen2 : m ≤ 8 * k.bytes.length := by have := hok.le; omega
    rw [hme] at hok ⊢
    simp only [Int.toNat_natCast] at hok ⊢
    have hp64 := pow_le64 (n := N) (by omega)
    have hpp : ∀ i : Nat, (0 : Int) < 2 ^ i := fun i => Int.pow_pos (by omega)
    let D : Nat → List Int := fun i => (List.range i).map fun q => v / 2 ^ q % 2
    have hD : ∀ i, D (i + 1) = D i ++ [v / 2 ^ i % 2] := fun i => by simp [D, List.range_succ]
    have hDl : ∀ i, (D i).length = i := fun i => by simp [D]
    have hdv : ∀ i : Nat, 0 ≤ v / 2 ^ i ∧ v / 2 ^ i ≤ v := fun i => ⟨Int.ediv_nonneg hv.1 (Int.le_of_lt (hpp i)), Int.ediv_le_self _ hv.1⟩
    unfold ref02_Add_l1
    refine loop_seq (step := fun (s : Int × List Int × Int) => ref02_Add_s1 none k N s.1 s.2.1 s.2.2) (fun i => (v / 2 ^ i, D i, (i : Int))) N (fun i hi => ?_) ?_ |> (fun h => by simpa [D] using h)
    · have hi1 := hdv i
      simp only [ref02_Add_s1, cm_lss, decide_eq_true_eq]
      rw [if_pos (by omega), dv_rem hi1.1, dv_quo hi1.1, w_u8 (by omega) (by omega), bnd (app_some (by rw [hDl]; simp; omega)), w_u64 (by omega) (by omega), ar_add, w_i64 (by omega) (by omega), hD, Int.ediv_ediv_of_nonneg (Int.le_of_lt (hpp i)), ← Int.pow_succ]
      simp
    · have hi1 := hdv N
      simp only [ref02_Add_s1, cm_lss, cm_gtr, decide_eq_true_eq]
      rw [if_neg (by omega)]
      have hgt : 0 < v / 2 ^ N ↔ 2 ^ N ≤ v := by
        have := Int.le_ediv_iff_mul_le (a := 1) (b := v) (hpp N)
        omega
      by_cases h2 : 2 ^ N ≤ v
      · rw [if_pos (hgt.2 h2), if_pos h2]; rfl
      · rw [if_neg (fun h => h2 (hgt.1 h)), if_neg h2]
        rw [bnd (app_some (l := []) (m := k.bytes) (by simp; omega)), List.nil_append, ar_sub, w_i64 (by omega) (by omega)]
        unfold ref02_Add_l2
        have := loop_seq (step := fun (s : Int × Ink) => ref02_Add_s2 none (D N) s.1 s.2) (r := (({ bytes := PB k.bytes m v N N, many := (m : Int) + N } : Ink), (0 : Int))) (fun j => ((N : Int) - 1 - j, ({ bytes := PB k.bytes m v N j, many := ((m + j : Nat) : Int) } : Ink))) N (fun j hj => by
          have hokj := PB_ok hok v N j
          have hle := hokj.le
          have hge := hokj.ge
          obtain ⟨hrm, hrl⟩ := hokj.grow
          have hll : 0 < (grow (PB k.bytes m v N j) (m + j)).length := List.length_pos_iff.2 hrm.ne
          have hlast := hrm.last
          have hx := hdv (N - (j + 1))
          have core : ∀ l : List Int, l = grow (PB k.bytes m v N j) (m + j) → ref02_Add_j3 none (D N) ((N : Int) - 1 - j) { bytes := l, many := ((m + j : Nat) : Int) } =
              some (Sum.inl ((N : Int) - 1 - (j + 1 : Nat), ({ bytes := PB k.bytes m v N (j + 1), many := ((m + (j + 1) : Nat) : Int) } : Ink))) := by
            rintro l rfl
            have hPB : PB k.bytes m v N (j + 1) = addL (grow (PB k.bytes m v N j) (m + j)) (v / 2 ^ (N - (j + 1)) % 2 * 2 ^ (7 - (m + j) % 8)) := rfl
            rw [hPB]
            generalize hg : grow (PB k.bytes m v N j) (m + j) = l at *
            unfold ref02_Add_j3
            have e1 : ((N : Int) - 1 - j).toNat = N - (j + 1) := by omega
            have hix : ix (D N) ((N : Int) - 1 - j) = some (v / 2 ^ (N - (j + 1)) % 2) := by
              rw [ix_getD (by omega) (by rw [hDl]; omega), e1]
              have : N - (j + 1) < N := by omega
              simp [D, List.getD, this]
            rw [bnd hix]
            generalize hxe : v / 2 ^ (N - (j + 1)) % 2 = x
            have hx1 : 0 ≤ x ∧ x ≤ 1 := by omega
            have hpw : ∀ i, i ≤ 7 → 0 ≤ x * 2 ^ i ∧ x * 2 ^ i ≤ 2 ^ i ∧ (2 : Int) ^ i ≤ 128 := fun i hi => by
              have a : (2 : Nat) ^ i ≤ 2 ^ 7 := Nat.pow_le_pow_right (by omega) hi
              have c : (2 : Int) ^ i ≤ 128 := by rw [← pow_int]; omega
              have d := hpp i
              rcases (show x = 0 ∨ x = 1 by omega) with rfl | rfl <;> omega
            unfold ref02_Add_l4
            have := loop_seq (step := fun (s : Int × Int) => ref02_Add_s4 none ((N : Int) - 1 - j) { bytes := l, many := ((m + j : Nat) : Int) } s.1 s.2) (r := Sum.inl ((N : Int) - 1 - (j + 1 : Nat), ({ bytes := addL l (x * 2 ^ (7 - (m + j) % 8)), many := ((m + (j + 1) : Nat) : Int) } : Ink)))
              (fun i => (x * 2 ^ i, (i : Int))) (7 - (m + j) % 8) (fun i hi => by
                have h3 := hpw (i + 1) (by omega)
                rw [Int.pow_succ] at h3
                have h4 := hpw i (by omega)
                simp only [ref02_Add_s4]
                rw [dv_rem (by omega), ar_sub, w_i64 (by omega) (by omega), cm_lss, if_pos (by simp; omega), ar_mul, ar_add, w_i64 (by omega) (by omega), w_u8 (by omega) (by omega), Int.pow_succ]
                have : 2 * (x * 2 ^ i) = x * (2 ^ i * 2) := by rw [Int.mul_comm 2, Int.mul_assoc]
                rw [this]; simp) (by
                have h4 := hpw (7 - (m + j) % 8) (by omega)
                have h5 := hpp (7 - (m + j) % 8)
                have e8 : (2 : Int) ^ (8 - (m + j) % 8) = 2 ^ (7 - (m + j) % 8) * 2 := by rw [← Int.pow_succ]; congr 1; omega
                simp only [ref02_Add_s4]
                have ei : ar .sub .i64 (l.length : Int) 1 = ((l.length - 1 : Nat) : Int) := by rw [ar_sub, w_i64 (by omega) (by omega)]; omega
                rw [dv_rem (by omega), ei, ar_sub, w_i64 (by omega) (by omega), cm_lss, if_neg (by simp; omega), bnd (ix_getD (by omega) (by omega)), bnd (ix_getD (by omega) (by omega)), ar_sub, w_i64 (by omega) (by omega), ar_add, ar_add]
                have eq1 : ((l.length - 1 : Nat) : Int).toNat = l.length - 1 := by omega
                rw [eq1]
                have elb : l.getD (l.length - 1) 0 = lastB l := rfl
                rw [elb, w_u8 (by omega) (by omega), w_i64 (by omega) (by omega)]
                simp only [addL, Option.map_some]
                have x1 : (N : Int) - 1 - j - 1 = (N : Int) - 1 - (j + 1 : Nat) := by omega
                have x2 : ((m + j : Nat) : Int) + 1 = ((m + (j + 1) : Nat) : Int) := by omega
                rw [x1, x2])
            simpa using this
          simp only [ref02_Add_s2, cm_geq, cm_eql, decide_eq_true_eq]
          rw [if_pos (by omega), dv_rem (by omega)]
          by_cases hr0 : (m + j) % 8 = 0
          · rw [if_pos (by omega), bnd (app_some (by simp; omega))]
            exact core _ (by unfold grow; rw [if_pos hr0])
          · rw [if_neg (by omega)]
            exact core _ (by unfold grow; rw [if_neg hr0])) (by
          simp only [ref02_Add_s2, cm_geq, decide_eq_true_eq]
          rw [if_neg (by omega)]
          simp)
        simp [PB] at this
        simp [hme, this]

/-- one of a range, written -/
def addRangeK (k : Ink) (v n : Int) : Ink × Int :=
  if okK k = false ∨ n < 1 ∨ n > 4294967296 then (k, 1)
  else if n ≤ v then (k, 6)
  else
    let q := bl n.toNat - 1
    let s : Int := 2 ^ (q + 1) - n
    if v < s then addK k v q else addK k (v + s) (q + 1)

theorem ref02_AddRange_eq {k : Ink} (hu : U8 k.bytes) (hl : k.bytes.length ≤ 100000000) (hm : inK .i64 k.many) {v : Int} (hv : inK .u64 v) (n : Int) : ref02_AddRange none k v n = some (addRangeK k v n) := by
  have hb : By k.bytes := ⟨hu, by omega⟩
  have hv' := hv
  rw [in_u64] at hv
  unfold ref02_AddRange addRangeK
  rw [bnd (ref02_Ink_eq hb hm)]
  have hc : ((!okK k || cm .lss n 1) || cm .gtr n 4294967296) = decide (okK k = false ∨ n < 1 ∨ n > 4294967296) := by rw [cm_lss, cm_gtr]; cases okK k <;> simp
  rw [hc]
  by_cases h1 : okK k = false ∨ n < 1 ∨ n > 4294967296
  · simp [h1]
  · simp only [h1, decide_false, Bool.false_eq_true, if_false, cm_geq, cm_lss, decide_eq_true_eq]
    simp only [not_or, Bool.not_eq_false, Int.not_lt] at h1
    obtain ⟨ho, h1, h2⟩ := h1
    by_cases h3 : n ≤ v
    · simp [h3]
    · simp only [h3, if_false]
      obtain ⟨N, rfl⟩ := Int.eq_ofNat_of_zero_le (show 0 ≤ n by omega)
      have hbl : bl N ≤ 33 := bl_le_of_lt (by omega)
      have hbp : 1 ≤ bl N := bl_pos (by omega)
      rw [bnd (ref02_Spread_eq N (by omega))]
      simp only [Int.toNat_natCast]
      have hlt : (N : Int) < 2 ^ bl N := by rw [← pow_int]; exact_mod_cast bl_lt N
      obtain ⟨q, hq⟩ : ∃ q, bl N = q + 1 := ⟨bl N - 1, by omega⟩
      rw [hq] at hlt hbl ⊢
      have hp : (2 : Int) ^ (q + 1) ≤ 8589934592 := by
        have a : (2 : Nat) ^ (q + 1) ≤ 2 ^ 33 := Nat.pow_le_pow_right (by omega) hbl
        rw [← pow_int]; omega
      have e0 : ar .sub .i64 ((q + 1 : Nat) : Int) 1 = (q : Int) := by rw [ar_sub, w_i64 (by omega) (by omega)]; omega
      rw [e0, Nat.add_sub_cancel]
      by_cases h4 : v < 2 ^ (q + 1) - (N : Int)
      · simp only [h4, if_true]
        rw [bnd (ref02_Add_eq hu hl hm hv' _)]
      · simp only [h4, if_false]
        rw [ar_add, w_u64 (by omega) (by omega), bnd (ref02_Add_eq hu hl hm (in_u64.2 (by omega)) _)]
        rfl

theorem bits_AddRange_eq {k : Ink} (hu : U8 k.bytes) (hl : k.bytes.length ≤ 100000000) (hm : inK .i64 k.many) {v : Int} (hv : inK .u64 v) (n : Int) : bits_AddRange none k v n = some (addRangeK k v n) := by
  have hb : By k.bytes := ⟨hu, by omega⟩
  have hv' := hv
  rw [in_u64] at hv
  unfold bits_AddRange addRangeK
  rw [bnd (bits_Right_eq hb hm)]
  simp only [bits_AddRange_j1, cm_lss, cm_gtr, cm_geq]
  by_cases h1 : okK k = false ∨ n < 1 ∨ n > 4294967296
  · rw [if_pos h1]
    rcases h1 with h1 | h1 | h1
    · simp [h1]
    · cases okK k <;> simp [h1]
    · cases okK k <;> simp
      by_cases h : n < 1 <;> simp [h]
      omega
  · rw [if_neg h1]
    simp only [not_or, Bool.not_eq_false, Int.not_lt] at h1
    obtain ⟨ho, h1, h2⟩ := h1
    have e1 : ¬ n < 1 := by omega
    have e2 : ¬ 4294967296 < n := by omega
    simp only [ho, e1, e2, Bool.not_true, Bool.false_eq_true, if_false, decide_false, decide_eq_true_eq]
    by_cases h3 : n ≤ v
    · simp [h3]
    · simp only [h3, if_false]
      obtain ⟨N, rfl⟩ := Int.eq_ofNat_of_zero_le (show 0 ≤ n by omega)
      have hbl : bl N ≤ 33 := bl_le_of_lt (by omega)
      have hbp : 1 ≤ bl N := bl_pos (by omega)
      rw [bnd (bits_spread_eq N (by omega))]
      simp only [Int.toNat_natCast]
      have hlt : (N : Int) < 2 ^ bl N := by rw [← pow_int]; exact_mod_cast bl_lt N
      obtain ⟨q, hq⟩ : ∃ q, bl N = q + 1 := ⟨bl N - 1, by omega⟩
      rw [hq] at hlt hbl ⊢
      have hp : (2 : Int) ^ (q + 1) ≤ 8589934592 := by
        have a : (2 : Nat) ^ (q + 1) ≤ 2 ^ 33 := Nat.pow_le_pow_right (by omega) hbl
        rw [← pow_int]; omega
      have e0 : ar .sub .i64 ((q + 1 : Nat) : Int) 1 = (q : Int) := by rw [ar_sub, w_i64 (by omega) (by omega)]; omega
      rw [e0, Nat.add_sub_cancel]
      by_cases h4 : v < 2 ^ (q + 1) - (N : Int)
      · simp only [h4, if_true]
        rw [bnd (bits_Add_eq hu hl hm hv' _)]
      · simp only [h4, if_false]
        rw [ar_add, w_u64 (by omega) (by omega), bnd (bits_Add_eq hu hl hm (in_u64.2 (by omega)) _)]
        rfl

theorem same_self (c : GBits) : ref02_Same c c = true := by simp [ref02_Same, cm_eql, sc_self]
theorem sameInk_self (k : Ink) : ref02_SameInk k k = true := by simp [ref02_SameInk, cm_eql, sc_self]
end Xb
