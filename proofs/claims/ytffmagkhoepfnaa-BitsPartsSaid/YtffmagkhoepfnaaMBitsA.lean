/- Own text: MBitsA. -/
import Derived.Test.YtffmagkhoepfnaaMBits6
set_option linter.all false
set_option linter.unusedVariables false
set_option linter.unusedSimpArgs false
set_option linter.unnecessarySimpa false
set_option linter.deprecated false
namespace Xb
open Go

theorem guard2 {a b : Int} (h : ¬ (cm .gtr a 3000 || cm .gtr b 3000) = true) : a ≤ 3000 ∧ b ≤ 3000 := by
  rw [cm_gtr, cm_gtr] at h; simp at h; exact h

theorem bitsRight_all {c : GBits} {k : Ink} {n v o : Int} (hcu : U8 c.bytes) (hku : U8 k.bytes) (hm : inK .i64 k.many) (hv : inK .u64 v) : law02_BitsRight none c k n v o = some true := by
  unfold law02_BitsRight
  by_cases h : (cm .gtr (c.bytes.length : Int) 3000 || cm .gtr (k.bytes.length : Int) 3000) = true
  · rw [if_pos h]
  · rw [if_neg h]
    obtain ⟨h1, h2⟩ := guard2 h
    have hbc : By c.bytes := ⟨hcu, by omega⟩
    have hbk : By k.bytes := ⟨hku, by omega⟩
    have key : law02_BitsRight_j1 none c k n v o (bits_Left c) = some true := by
      unfold law02_BitsRight_j1
      rw [bnd (bits_Get_eq hbc n), bnd (ref02_Get_eq hbc n), same_self, cm_neq, cm_neq]
      simp only [decide_true, Bool.not_true, Bool.or_false, Bool.false_eq_true, if_false]
      rw [bnd (bits_Range_eq hbc o), bnd (ref02_Range_eq hbc o), same_self, cm_neq]
      simp only [decide_true, Bool.not_true, Bool.or_false, Bool.false_eq_true, if_false]
      rw [bnd (bits_Add_eq hku (by omega) hm hv n), bnd (ref02_Add_eq hku (by omega) hm hv n), bnd (bits_Right_eq hbk hm), bnd (ref02_Ink_eq hbk hm), sameInk_self, cm_neq]
      have hb : bq .neq (okK k) (okK k) = false := by simp [bq]
      rw [hb]
      simp only [decide_true, Bool.not_true, Bool.or_false, Bool.false_eq_true, if_false]
      rw [bnd (bits_AddRange_eq hku (by omega) hm hv o), bnd (ref02_AddRange_eq hku (by omega) hm hv o), sameInk_self, cm_eql]
      simp
    rw [bits_Left_eq hbc] at key
    rw [ref02_Right_eq hbc]
    cases hok : okG c with
    | false => simpa [hok] using key
    | true =>
      rw [hok] at key
      have hok' := hok
      simp only [okG, Bool.and_eq_true, decide_eq_true_eq] at hok'
      rw [if_pos rfl, ar_mul, w_i64 (by omega) (by omega), ar_sub, w_i64 (by omega) (by omega)]
      simpa using key
end Xb
