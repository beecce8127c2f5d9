/- Own text: JTrueArriveWhen. -/
import Derived.Test.YtjfacnghojgkeaaJArr1
set_option linter.all false
set_option linter.unusedVariables false
set_option linter.unusedSimpArgs false
set_option linter.unnecessarySimpa false
set_option linter.deprecated false
namespace Xb
open Go

theorem getD_get {l : List Seen} {i : Nat} (hi : i < l.length) : l.getD i ⟨0, 0⟩ = l[i] := by rw [List.getD_eq_getElem?_getD, List.getElem?_eq_getElem hi]; rfl

theorem arriveWhen_true {a : Arrive} {cut : Int} (_ha : wf_Arrive a) (hc : inK .u16 cut) : law19_ArriveWhen none a cut = some true := by
  have hc' := in_u16.1 hc
  unfold law19_ArriveWhen
  by_cases h4 : a.seen.length ≤ 4000
  · have c1 : cm .gtr (a.seen.length : Int) 4000 = false := by rw [cm_gtr]; exact decide_eq_false (by omega)
    rw [c1]
    simp only [Bool.not_false, gTT, Bool.false_or]
    rw [bnd (right_eq (by omega))]
    by_cases hr : RightA a
    · have h2 := hr.1; have h3 := hr.2.1
      rw [decide_eq_true hr, if_neg (by decide), ar_mul, w_i64 (by omega) (by omega)]
      unfold law19_ArriveWhen_l1
      have fin : ∀ (v2 : Int) (i : Nat), (¬ (i < a.seen.length ∧ i < 200)) → law19_ArriveWhen_s1 none a cut v2 (i : Int) = some (.inr true) := by
        intro v2 i hi
        unfold law19_ArriveWhen_s1
        have c2 : ((cm .lss (i : Int) (a.seen.length : Int)) && (cm .lss (i : Int) 200)) = false := by
          rw [Bool.eq_false_iff]
          simp only [cm_lss, Bool.and_eq_true, decide_eq_true_eq, ne_eq]; omega
        rw [c2, if_neg (by decide), w_i64 (by omega) (by omega), ar_add, w_i64 (by omega) (by omega), dvO_nz (by omega), dv_rem (by omega), Option.bind_some]
        have hk1 := Int.emod_nonneg cut (b := (a.seen.length : Int) + 1) (by omega)
        have hk2 := Int.emod_lt_of_pos cut (b := (a.seen.length : Int) + 1) (by omega)
        obtain ⟨k, hk⟩ : ∃ k : Nat, cut % ((a.seen.length : Int) + 1) = k := ⟨(cut % ((a.seen.length : Int) + 1)).toNat, by omega⟩
        rw [hk] at hk1 hk2 ⊢
        have hsub : sub a.seen 0 (k : Int) = some (a.seen.take k) := by
          rw [sub_some (by omega) (by omega) (by omega)]; simp
        have hlk : (a.seen.take k).length = k := by rw [List.length_take]; omega
        have hrb : RightA { a with seen := a.seen.take k } := ⟨hr.1, hr.2.1, by show (a.seen.take k).length ≤ 4000; omega, fun s hs => hr.2.2.2 s (List.mem_of_mem_take hs)⟩
        rw [bnd hsub, ar_sub, w_i64 (by omega) (by omega), bnd (when_eq (by omega)), bnd (when_eq (a := { a with seen := a.seen.take k }) (by show (a.seen.take k).length ≤ _; omega))]
        have hw : whenS { a with seen := a.seen.take k } ((k : Int) - 1) = whenS a ((k : Int) - 1) := by
          by_cases hk0 : k = 0
          · rw [whenS_neg (by omega), whenS_neg (by omega)]
          · have e1 : ((k : Int) - 1) = ((k - 1 : Nat) : Int) := by omega
            rw [e1, whenS_pos hrb (by show k - 1 < (a.seen.take k).length; omega), whenS_pos hr (by omega)]
            have e2 : (a.seen.take k).getD (k - 1) ⟨0, 0⟩ = a.seen.getD (k - 1) ⟨0, 0⟩ := by
              rw [List.getD_eq_getElem?_getD, List.getD_eq_getElem?_getD, List.getElem?_take, if_pos (by omega)]
            have e3 : (a.seen.take k).take (k - 1 + 1) = a.seen.take (k - 1 + 1) := by rw [List.take_take]; congr 1; omega
            simp only [e2, e3]
        rw [hw, cm_eql, cm_eql, cm_gtr, cm_eql]
        simp only [decide_true, Bool.true_and, Option.map_some]
        congr 2
        by_cases hk0 : k = 0
        · have : whenS a ((k : Int) - 1) = (0, 1) := whenS_neg (by omega)
          rw [this]; simp
        · have : decide ((0 : Int) < (k : Int)) = true := decide_eq_true (by omega)
          rw [this, Bool.true_or]
      have hN : ∃ N, N = min a.seen.length 200 := ⟨_, rfl⟩
      obtain ⟨N, hN⟩ := hN
      have := loop_seq (step := fun (s : Int × Int) => law19_ArriveWhen_s1 none a cut s.1 s.2) (r := true) (fun i => (256 * a.time + sumD (a.seen.take i), (i : Int))) N (fun i hi => by
        show law19_ArriveWhen_s1 none a cut _ (i : Int) = _
        have hil : i < a.seen.length := by omega
        have hb := sumD_bd (a.seen.take (i + 1)) fun s hs => hr.2.2.2 s (List.mem_of_mem_take hs)
        have hfit := hr.2.2.2 a.seen[i] (List.getElem_mem hil)
        have hwn : whenS a (i : Int) = if a.seen[i].what = 0 then (0, 8) else (256 * a.time + sumD (a.seen.take (i + 1)), 0) := by
          rw [whenS_pos hr hil, getD_get hil]
        unfold law19_ArriveWhen_s1 law19_ArriveWhen_j2
        have c2 : ((cm .lss (i : Int) (a.seen.length : Int)) && (cm .lss (i : Int) 200)) = true := by
          simp only [cm_lss, Bool.and_eq_true, decide_eq_true_eq]; omega
        rw [c2, if_pos rfl, bnd (when_eq (by omega)), bnd (ix_some (n := i) rfl hil), hwn, ar_add (y := 1), w_i64 (n := (i : Int) + 1) (by omega) (by omega)]
        rw [List.length_take] at hb
        by_cases hw : a.seen[i].what = 0
        · have hd : a.seen[i].delta = 0 := by unfold FitS at hfit; omega
          rw [if_pos hw, if_pos (show cm .eql a.seen[i].what 0 = true by rw [cm_eql]; simpa using hw), if_neg (by decide), take_snoc _ _ hil, sumD_snoc, hd]
          simp
        · rw [if_neg hw, if_neg (show ¬ cm .eql a.seen[i].what 0 = true by rw [cm_eql]; simpa using hw)]
          have c0 : cm .neq (0 : Int) 0 = false := by decide
          simp only [c0, Bool.not_false, gTT, Bool.false_or]
          rw [bnd (ix_some (n := i) rfl hil)]
          rw [take_snoc _ _ hil, sumD_snoc] at hb ⊢
          rw [ar_add, w_i64 (by omega) (by omega)]
          have c3 : cm .neq (256 * a.time + (sumD (a.seen.take i) + a.seen[i].delta)) (256 * a.time + sumD (a.seen.take i) + a.seen[i].delta) = false := by
            rw [cm_neq, Int.add_assoc]; simp
          rw [c3, if_neg (by decide)]
          rfl) (fin _ _ (by omega))
      simpa [sumD] using this
    · rw [decide_eq_false hr, if_pos (by decide)]
  · have c1 : cm .gtr (a.seen.length : Int) 4000 = true := by rw [cm_gtr]; exact decide_eq_true (by omega)
    rw [c1]
    simp only [Bool.not_true, gTF, Option.bind_some, Bool.true_or]
    rw [if_pos trivial]
end Xb
