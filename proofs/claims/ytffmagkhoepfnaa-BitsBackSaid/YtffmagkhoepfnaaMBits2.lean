/- Own text: MBits2. -/
import Derived.Test.YtffmagkhoepfnaaMBits1
set_option linter.all false
set_option linter.unusedVariables false
set_option linter.unusedSimpArgs false
set_option linter.unnecessarySimpa false
set_option linter.deprecated false
namespace Xb
open Go

theorem mod_two {y : Int} {t : Nat} : y / 2 % 2 ^ t * 2 + y % 2 = y % 2 ^ (t + 1) := by
  have hp : (0 : Int) < 2 ^ t := Int.pow_pos (by omega)
  generalize hm : (2 : Int) ^ t = m at hp
  have e1 : y = 2 * (y / 2) + y % 2 := by omega
  have e2 : y / 2 = m * (y / 2 / m) + y / 2 % m := (Int.mul_ediv_add_emod (y / 2) m).symm
  have h1 := Int.emod_nonneg (y / 2) (show m ≠ 0 by omega)
  have h2 := Int.emod_lt_of_pos (y / 2) hp
  rw [Int.pow_succ, hm]
  have e3 : y = (y / 2 % m * 2 + y % 2) + (m * 2) * (y / 2 / m) := by
    have : (m * 2) * (y / 2 / m) = 2 * (m * (y / 2 / m)) := by rw [Int.mul_comm m 2, Int.mul_assoc]
    omega
  have e4 : y % (m * 2) = ((y / 2 % m * 2 + y % 2) + (m * 2) * (y / 2 / m)) % (m * 2) := congrArg (· % (m * 2)) e3
  exact (e4.trans ((Int.add_mul_emod_self_left _ _ _).trans (Int.emod_eq_of_lt (by omega) (by omega)))).symm

theorem vl_add (b : List Int) (a m n : Nat) : vl b a (m + n) = vl b a m * 2 ^ n + vl b (a + m) n := by
  induction n with
  | zero => simp [vl]
  | succ n ih =>
    rw [← Nat.add_assoc]
    simp only [vl]
    rw [ih, Int.pow_succ, Nat.add_assoc, ← Int.mul_assoc]
    omega

/-- some bits out of one byte -/
theorem vl_byte (b : List Int) (p t : Nat) (h : p % 8 + t ≤ 8) : vl b p t = b.getD (p / 8) 0 / 2 ^ (8 - p % 8 - t) % 2 ^ t := by
  induction t with
  | zero => simp [vl, Int.emod_one]
  | succ t ih =>
    have e1 : (p + t) / 8 = p / 8 := by omega
    have e2 : (p + t) % 8 = p % 8 + t := by omega
    simp only [vl, bt1, e1, e2]
    rw [ih (by omega)]
    have e3 : 8 - p % 8 - t = (7 - (p % 8 + t)) + 1 := by omega
    have e4 : 8 - p % 8 - (t + 1) = 7 - (p % 8 + t) := by omega
    rw [e3, e4, Int.pow_succ, ← Int.ediv_ediv_of_nonneg (Int.le_of_lt (Int.pow_pos (by omega))), ← mod_two]
    omega

theorem mask8 {t : Nat} (h : t ≤ 8) : ar .sub .u8 (sf .shl .u8 1 (t : Int)) 1 = 2 ^ t - 1 := by
  have : ∀ t : Fin 9, ar .sub .u8 (sf .shl .u8 1 ((t.1 : Nat) : Int)) 1 = 2 ^ t.1 - 1 := by decide +kernel
  exact this ⟨t, by omega⟩

theorem imin_eq (x y : Int) : imin x y = min x y := by unfold imin; split <;> omega

theorem bits_Left_eq {c : GBits} (hb : By c.bytes) : bits_Left c = if okG c then 8 * c.bytes.length - c.at_ else 0 := by
  have hl := hb.len
  unfold bits_Left
  rw [bits_right_eq hb]
  cases ho : okG c with
  | false => simp
  | true =>
    simp only [okG, Bool.and_eq_true, decide_eq_true_eq] at ho
    simp only [ar_sub, ar_mul]
    rw [w_i64 (n := 8 * (c.bytes.length : Int)) (by omega) (by omega), w_i64 (by omega) (by omega)]
    simp

theorem bits_Get_eq {c : GBits} (hb : By c.bytes) (n : Int) : bits_Get none c n = some (getG c n) := by
  have hl := hb.len
  have hg : ∀ b : Bool, bits_Get_j1 none c n b = if b then some (failG c 1) else if n > bits_Left c then some (failG c 2) else bits_Get_l2 none n 0 c := fun b => by
    simp only [bits_Get_j1, bits_fail_eq, cm_gtr, decide_eq_true_eq]
  unfold bits_Get getG
  simp only [hg, bits_right_eq hb, cm_lss, cm_gtr]
  by_cases h1 : okG c = false ∨ n < 0 ∨ n > 64
  · rw [if_pos h1]
    rcases h1 with h1 | h1 | h1
    · simp [h1]
    · cases okG c <;> simp [h1]
    · cases okG c <;> simp
      · by_cases h : n < 0 <;> simp [h]
        omega
  · rw [if_neg h1]
    simp only [not_or, Bool.not_eq_false, Int.not_lt] at h1
    obtain ⟨ho, h0, h64⟩ := h1
    rw [bits_Left_eq hb]
    have ho' := ho
    simp only [okG, Bool.and_eq_true, decide_eq_true_eq] at ho
    obtain ⟨⟨he, ha⟩, hat⟩ := ho
    have e1 : ¬ n < 0 := by omega
    have e2 : ¬ 64 < n := by omega
    simp only [ho', e1, e2, Bool.not_true, Bool.false_eq_true, if_false, decide_false, if_true]
    by_cases h2 : n > 8 * c.bytes.length - c.at_
    · rw [if_pos h2, if_pos h2]
    · rw [if_neg h2, if_neg h2]
      unfold bits_Get_l2
      obtain ⟨N, rfl⟩ := Int.eq_ofNat_of_zero_le h0
      obtain ⟨a, hae⟩ := Int.eq_ofNat_of_zero_le ha
      obtain ⟨r, hr, hq⟩ := loop_inv (step := fun (s : Int × Int × GBits) => bits_Get_s2 none s.1 s.2.1 s.2.2) (Q := fun r => r = ({ c with at_ := c.at_ + N }, vl c.bytes a N))
        (fun s => ∃ j : Nat, j ≤ N ∧ s = (((N - j : Nat) : Int), vl c.bytes a j, { c with at_ := ((a + j : Nat) : Int) })) (fun s => s.1.toNat) (↑N, 0, c) ⟨0, by omega, by simp [vl, ← hae]⟩ (by
        rintro s ⟨j, hj, rfl⟩
        by_cases hjN : j = N
        · right
          subst hjN
          refine ⟨_, ?_, rfl⟩
          simp [bits_Get_s2, cm_gtr, hae]
        · left
          have hgt : (0 : Int) < ((N - j : Nat) : Int) := by omega
          have hv := vl_in c.bytes a j
          let t : Nat := min (8 - (a + j) % 8) (N - j)
          have ht : t ≤ 8 ∧ 1 ≤ t ∧ (a + j) % 8 + t ≤ 8 ∧ j + t ≤ N := by omega
          have et : imin (ar .sub .i64 8 (dv .rem .i64 ((a + j : Nat) : Int) 8)) ((N - j : Nat) : Int) = (t : Int) := by
            rw [imin_eq, ar_sub, dv_rem (by omega), w_i64 (by omega) (by omega)]
            omega
          have ea : ar .sub .i64 (ar .sub .i64 8 (dv .rem .i64 ((a + j : Nat) : Int) 8)) (t : Int) = ((8 - (a + j) % 8 - t : Nat) : Int) := by
            rw [ar_sub, ar_sub, dv_rem (by omega), w_i64 (n := 8 - _) (by omega) (by omega), w_i64 (by omega) (by omega)]
            omega
          have hby := hb.get ((a + j) / 8)
          have hvb := vl_byte c.bytes (a + j) t ht.2.2.1
          have hva := vl_add c.bytes a j t
          have hvn := vl_in c.bytes a (j + t)
          have hvt := vl_in c.bytes (a + j) t
          have hp64 := pow_le64 (n := j + t) (by omega)
          have hpt : (0 : Int) < 2 ^ (8 - (a + j) % 8 - t) := Int.pow_pos (by omega)
          have hby8 : c.bytes.getD ((a + j) / 8) 0 < 2 ^ IntKind.u8.bits := by simp only [IntKind.bits]; omega
          refine ⟨(((N - (j + t) : Nat) : Int), vl c.bytes a (j + t), { c with at_ := ((a + (j + t) : Nat) : Int) }), ?_, ⟨j + t, ht.2.2.2, rfl⟩, by simp; omega⟩
          simp only [bits_Get_s2, cm_gtr, decide_eq_true_eq]
          rw [if_pos hgt, et, ea, dv_quo (by omega), w_i64 (by omega) (by omega), bnd (ix_getD (by omega) (by omega))]
          have e0 : (((a + j : Nat) : Int) / 8).toNat = (a + j) / 8 := by omega
          rw [e0, sfO_nn (by omega), sf_shr rfl (by simp [IntKind.bits]; omega), sfO_nn (by omega), sfO_nn (by omega)]
          simp only [Option.bind_some]
          rw [mask8 ht.1, ar_mask (k := .u8) rfl rfl (by simp [IntKind.bits]; omega) (Int.ediv_nonneg hby.1 (Int.le_of_lt hpt)) (Int.lt_of_le_of_lt (Int.ediv_le_self _ hby.1) hby8), ← hvb]
          have hv8 : vl c.bytes (a + j) t ≤ 255 := by
            have : (2 : Int) ^ t ≤ 256 := by
              have : (2 : Nat) ^ t ≤ 2 ^ 8 := Nat.pow_le_pow_right (by omega) ht.1
              have : ((2 ^ t : Nat) : Int) ≤ ((2 ^ 8 : Nat) : Int) := by exact_mod_cast this
              simpa using this
            omega
          have hmul : 0 ≤ vl c.bytes a j * 2 ^ t := Int.mul_nonneg hv.1 (Int.le_of_lt (Int.pow_pos (by omega)))
          rw [w_u64 (by omega) (by omega), sf_shl rfl (by simp [IntKind.bits]; omega), w_u64 (by omega) (by omega),
            ar_or_add rfl rfl hv.1 hvt.1 hvt.2 (by simp [IntKind.bits]; omega) (by simp [IntKind.bits]; omega), ← hva, ar_sub, ar_add, w_i64 (by omega) (by omega), w_i64 (by omega) (by omega)]
          have x1 : ((N - j : Nat) : Int) - (t : Int) = ((N - (j + t) : Nat) : Int) := by omega
          have x2 : ((a + j : Nat) : Int) + (t : Int) = ((a + (j + t) : Nat) : Int) := by omega
          rw [x1, x2])
      rw [hr, hq]
      simp [hae]
end Xb
