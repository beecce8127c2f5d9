/- Own text: MBitsB2. -/
import Derived.Test.YtffmagkhoepfnaaMBitsB1
set_option linter.all false
set_option linter.unusedVariables false
set_option linter.unusedSimpArgs false
set_option linter.unnecessarySimpa false
set_option linter.deprecated false
namespace Xb
open Go

theorem ix_nat {α : Type} {l : List α} {i : Nat} (h : i < l.length) : ix l (i : Int) = some l[i] := ix_some rfl h

/-- read from bits that are those, as far as they go -/
theorem read_eq {C B : List Int} (hC : By C) {put widths : List Int} {ranges : List Bool} {pos : Nat → Nat} {m : Nat} (hw : put.length ≤ widths.length) (hr : put.length ≤ ranges.length) (hwu : U8 widths) (hN : put.length ≤ 1000)
    (hp0 : pos 0 = 0) (hpN : pos put.length = m) (hle : ∀ j, j ≤ put.length → pos j ≤ m)
    (hR : ∀ j (h : j < put.length), Rds B (pos j) (pos (j + 1)) ranges[j] (widths[j]).toNat put[j])
    (hb : ∀ i, i < m → i < 8 * C.length → bt1 C i = bt1 B i) :
    ∃ d : GBits, law02_read none (bits_Start C) put widths ranges = some d ∧ ((m ≤ 8 * C.length → d = { bytes := C, at_ := (m : Int), err := 0 }) ∧ (8 * C.length < m → d.err = 2)) := by
  have hCl := hC.len
  unfold law02_read law02_read_l1 bits_Start
  refine loop_inv (step := fun (s : Int × GBits) => law02_read_s1 none put widths ranges s.1 s.2)
    (fun s => ∃ j : Nat, j ≤ put.length ∧ s.1 = j ∧ ((s.2 = { bytes := C, at_ := (pos j : Int), err := 0 } ∧ pos j ≤ 8 * C.length) ∨ (s.2.err = 2 ∧ 8 * C.length < m)))
    (fun s => if s.2.err = 0 then 1 + (put.length - s.1.toNat) else 0) _ ⟨0, by omega, rfl, .inl ⟨by simp [hp0], by omega⟩⟩ ?_
  rintro ⟨s1, s2⟩ ⟨j, hj, rfl, hs⟩
  rcases hs with ⟨h1, h2⟩ | ⟨h1, h2⟩
  · simp only at h1
    subst h1
    by_cases hjN : j = put.length
    · right
      refine ⟨{ bytes := C, at_ := (m : Int), err := 0 }, ?_, fun _ => rfl, fun h => by subst hjN; omega⟩
      subst hjN
      simp [law02_read_s1, cm_lss, hpN]
    · left
      have hjl : j < put.length := by omega
      have hrd := hR j hjl
      have hj1 := hle (j + 1) (by omega)
      have hjle := hrd.le
      have hwd := hwu _ (List.getElem_mem (show j < widths.length by omega))
      generalize hwe : widths[j] = wd at hrd hwd
      have ok0 : okG { bytes := C, at_ := (pos j : Int), err := 0 } = true := by simp [okG]; omega
      -- what comes of one number
      have fin : ∀ (d : GBits × Int), ((d.1.err = 2 ∧ 8 * C.length < m) ∨ (d = ({ bytes := C, at_ := (pos (j + 1) : Int), err := 0 }, put[j]) ∧ pos (j + 1) ≤ 8 * C.length)) →
          ∃ s', law02_read_j2 none put j d.2 d.1 = some (Sum.inl s') ∧ (∃ j' : Nat, j' ≤ put.length ∧ s'.1 = j' ∧ ((s'.2 = { bytes := C, at_ := (pos j' : Int), err := 0 } ∧ pos j' ≤ 8 * C.length) ∨ (s'.2.err = 2 ∧ 8 * C.length < m))) ∧
            (if s'.2.err = 0 then 1 + (put.length - s'.1.toNat) else 0) < (if (0 : Int) = 0 then 1 + (put.length - ((j : Int)).toNat) else 0) := by
        rintro ⟨d1, d2⟩ (⟨hd, hm⟩ | ⟨hd, hm⟩)
        · simp only at hd
          refine ⟨((j : Int) + 1, d1), ?_, ⟨j + 1, by omega, by simp, .inr ⟨hd, hm⟩⟩, by simp [hd]; omega⟩
          unfold law02_read_j2 law02_read_j3
          rw [cm_eql, hd, ar_add, w_i64 (by omega) (by omega)]
          simp [gTF]
        · simp only [Prod.mk.injEq] at hd
          obtain ⟨rfl, rfl⟩ := hd
          refine ⟨((j : Int) + 1, _), ?_, ⟨j + 1, by omega, by simp, .inl ⟨rfl, hm⟩⟩, by simp; omega⟩
          unfold law02_read_j2 law02_read_j3
          rw [cm_eql, ar_add, w_i64 (by omega) (by omega)]
          simp only [decide_true, gTT]
          rw [bnd (ix_nat hjl), cm_neq]
          simp
      simp only [law02_read_s1]
      rw [cm_lss, cm_eql, if_pos (by simp; omega), bnd (ix_nat (by omega))]
      cases hrg : ranges[j] with
      | true =>
        simp only [if_true]
        rw [bnd (ix_nat (by omega)), hwe, w_u64 (by omega) (by omega), ar_add, w_u64 (by omega) (by omega), bnd (bits_Range_eq hC _)]
        apply fin
        obtain ⟨W, rfl⟩ := Int.eq_ofNat_of_zero_le hwd.1
        rw [hrg] at hrd
        simp only [Rds, if_true, Int.toNat_natCast] at hrd
        have hn : ((W : Int) + 1).toNat = W + 1 := by omega
        have hbl : bl (W + 1) ≤ 9 := bl_le_of_lt (by omega)
        unfold rangeG
        rw [if_neg (by simp [ok0]; omega), hn]
        simp only
        generalize hq : bl (W + 1) - 1 = q at hrd
        have hcast : ((W + 1 : Nat) : Int) = (W : Int) + 1 := by simp
        rcases hrd with ⟨e1, e2, e3⟩ | ⟨e1, e2, e3⟩
        · by_cases hs : (q : Int) > 8 * C.length - (pos j : Int)
          · left; rw [if_pos hs]; exact ⟨by simp [failG], by omega⟩
          · right
            rw [if_neg hs]
            have hv : vl C (pos j) q = vl B (pos j) q := vl_congr fun i a b => hb i (by omega) (by omega)
            simp only [Int.toNat_natCast]
            rw [hv, e2, if_pos e3, e1]
            refine ⟨?_, by omega⟩
            simp
        · by_cases hs : (q : Int) > 8 * C.length - (pos j : Int)
          · left; rw [if_pos hs]; exact ⟨by simp [failG], by omega⟩
          · rw [if_neg hs]
            have hv : vl C (pos j) q = vl B (pos j) q := vl_congr fun i a b => hb i (by omega) (by omega)
            simp only [Int.toNat_natCast]
            rw [hv, if_neg (by omega)]
            by_cases hs2 : (q + 1 : Int) > 8 * C.length - (pos j : Int)
            · left; rw [if_pos hs2]; exact ⟨by simp [failG], by omega⟩
            · right
              have hv2 : vl C (pos j) (q + 1) = vl B (pos j) (q + 1) := vl_congr fun i a b => hb i (by omega) (by omega)
              rw [if_neg hs2, hv2, e3, e1]
              refine ⟨?_, by omega⟩
              simp; omega
      | false =>
        simp only [Bool.false_eq_true, if_false]
        rw [bnd (ix_nat (by omega)), hwe, w_i64 (by omega) (by omega), dv_rem hwd.1, bnd (bits_Get_eq hC _)]
        apply fin
        obtain ⟨W, rfl⟩ := Int.eq_ofNat_of_zero_le hwd.1
        rw [hrg] at hrd
        simp only [Rds, Bool.false_eq_true, if_false, Int.toNat_natCast] at hrd
        have hn : (W : Int) % 65 = ((W % 65 : Nat) : Int) := by omega
        rw [hn, getG_ok (q := W % 65) ok0 rfl (by omega)]
        by_cases hs : ((W % 65 : Nat) : Int) > 8 * C.length - (pos j : Int)
        · left; rw [if_pos hs]; exact ⟨rfl, by omega⟩
        · right
          rw [if_neg hs]
          have hv : vl C (pos j) (W % 65) = vl B (pos j) (W % 65) := vl_congr fun i a b => hb i (by omega) (by omega)
          simp only [Int.toNat_natCast]
          rw [hv, hrd.2, hrd.1]
          refine ⟨?_, by omega⟩
          simp
  · right
    refine ⟨s2, ?_, fun h => by omega, fun _ => h1⟩
    simp only at h1
    simp [law02_read_s1, cm_eql, h1]
end Xb
