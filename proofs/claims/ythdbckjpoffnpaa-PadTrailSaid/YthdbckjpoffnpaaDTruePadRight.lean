/- Own text: DTruePadRight. -/
import Derived.Test.YthdbckjpoffnpaaDTruePadFill
set_option linter.all false
set_option linter.unusedVariables false
set_option linter.unusedSimpArgs false
set_option linter.unnecessarySimpa false
set_option linter.deprecated false
namespace Xb
open Go

theorem refRound_eq (n : Int) : ref03_Round none n = some (pad_Round n) := by
  unfold ref03_Round
  by_cases h : n < 0 ∨ n > 2147483648
  · have e : pad_Round n = 0 := by
      simp only [pad_Round, cm_lss, cm_gtr]
      rw [if_pos (by simp; omega)]
    rw [if_pos (by rw [cm_lss, cm_gtr]; simp; omega), e]
  · rw [if_neg (by rw [cm_lss, cm_gtr]; simp; omega), round_eq (by omega) (by omega)]
    unfold ref03_Round_l1
    let m : Nat := ((4 - n % 4) % 4).toNat
    have := loop_seq (step := fun (s : Int) => ref03_Round_s1 none s) (r := (n + 3) / 4 * 4) (fun i => n + i) m (fun i hi => by
      simp only [ref03_Round_s1]
      rw [dv_rem (by omega), cm_neq, if_pos (by simp; omega), ar_add, w_i64 (by omega) (by omega)]
      simp; omega) (by
      simp only [ref03_Round_s1]
      rw [dv_rem (by omega), cm_neq, if_neg (by simp; omega)]
      simp; omega)
    simpa using this

theorem refFill_eq {b : List Int} (h : b.length ≤ 1000000) : ref03_Fill none b = some (b ++ List.replicate (fillN b.length) 0) := by
  unfold ref03_Fill ref03_Fill_l1
  rw [bnd (app_some (l := []) (m := b) (by simp; omega)), List.nil_append]
  have hf : fillN b.length ≤ 3 ∧ (b.length + fillN b.length) % 4 = 0 ∧ ∀ i, i < fillN b.length → (b.length + i) % 4 ≠ 0 := by
    unfold fillN
    exact ⟨by omega, by omega, fun i hi => by omega⟩
  have := loop_seq (step := fun (s : List Int) => ref03_Fill_s1 none s) (r := b ++ List.replicate (fillN b.length) 0) (fun i => b ++ List.replicate i 0) (fillN b.length) (fun i hi => by
    have h1 := hf.2.2 i hi
    simp only [ref03_Fill_s1]
    have hl : (b ++ List.replicate i (0 : Int)).length = b.length + i := by simp
    rw [hl, dv_rem (by omega), cm_neq, if_pos (by simp; omega), bnd (app_some (by rw [hl]; simp; omega)), List.append_assoc, ← List.replicate_succ']) (by
    simp only [ref03_Fill_s1]
    have hl : (b ++ List.replicate (fillN b.length) (0 : Int)).length = b.length + fillN b.length := by simp
    rw [hl, dv_rem (by omega), cm_neq, if_neg (by simp; omega)]
    rfl)
  simpa using this

theorem refZero_eq {b : List Int} (h : b.length ≤ 1000000) : ref03_Zero none b = some (decide (∀ y, y ∈ b → y = 0)) := by
  unfold ref03_Zero ref03_Zero_l1
  obtain ⟨x, hx, hq⟩ := loop_inv (step := fun (s : Int) => ref03_Zero_s1 none b s) (Q := fun x => x = decide (∀ y, y ∈ b → y = 0))
    (fun s => ∃ j : Nat, j ≤ b.length ∧ s = (j : Int) ∧ ∀ i (hi : i < b.length), i < j → b[i] = 0) (fun s => b.length - s.toNat) (0 : Int) ⟨0, by omega, rfl, fun i _ hi => by omega⟩ (by
    rintro s ⟨j, hj, rfl, hz⟩
    simp only [ref03_Zero_s1, cm_lss, decide_eq_true_eq]
    by_cases hjl : j < b.length
    · rw [if_pos (by omega), bnd (ix_some rfl hjl), cm_neq]
      by_cases h0 : b[j] = 0
      · left
        rw [if_neg (by simp [h0]), ar_add, w_i64 (by omega) (by omega)]
        refine ⟨_, rfl, ⟨j + 1, by omega, by omega, fun i hi hij => ?_⟩, by omega⟩
        by_cases hij' : i = j
        · subst hij'; exact h0
        · exact hz i hi (by omega)
      · right
        rw [if_pos (by simp [h0])]
        refine ⟨false, rfl, ?_⟩
        have : ¬ ∀ y, y ∈ b → y = 0 := fun hh => h0 (hh _ (List.getElem_mem hjl))
        simp [this]
    · right
      rw [if_neg (by omega)]
      refine ⟨true, rfl, ?_⟩
      have : ∀ y, y ∈ b → y = 0 := fun y hy => by
        obtain ⟨i, hi, rfl⟩ := List.getElem_of_mem hy
        exact hz i hi (by omega)
      exact (decide_eq_true this).symm)
  rw [hx, hq]

/-- how long the trailer is; 0: there is none -/
def trN (b : List Int) : Int := if b.length = 0 then 0 else if b.getD (b.length - 1) 0 > b.length then 0 else b.getD (b.length - 1) 0

theorem trN_in {b : List Int} (hb : ∀ y, y ∈ b → 0 ≤ y ∧ y ≤ 255) : 0 ≤ trN b ∧ trN b ≤ b.length := by
  unfold trN
  split
  · omega
  · rename_i h
    have : b.getD (b.length - 1) 0 ∈ b := by
      have hi : b.length - 1 < b.length := by omega
      simp [List.getD, hi]
    have := hb _ this
    split <;> omega

theorem last_ix {b : List Int} (h : b.length ≠ 0) (hl : b.length ≤ 1000000) : ix b (ar .sub .i64 (b.length : Int) 1) = some (b.getD (b.length - 1) 0) := by
  rw [ar_sub, w_i64 (by omega) (by omega), ix_getD (by omega) (by omega)]
  have : ((b.length : Int) - 1).toNat = b.length - 1 := by omega
  rw [this]

theorem padTrail_eq {b : List Int} (hb : ∀ y, y ∈ b → 0 ≤ y ∧ y ≤ 255) (hl : b.length ≤ 1000000) : pad_Trail b = some (if trN b = 0 then (0, 5) else (trN b, 0)) := by
  unfold pad_Trail trN
  by_cases h : b.length = 0
  · rw [if_pos (by rw [cm_eql]; simp [h])]; simp [h]
  · rw [if_neg (by rw [cm_eql]; simp [h]), bnd (last_ix h hl)]
    have hm : b.getD (b.length - 1) 0 ∈ b := by
      have hi : b.length - 1 < b.length := by omega
      simp [List.getD, hi]
    have hr := hb _ hm
    generalize b.getD (b.length - 1) 0 = y at *
    rw [w_i64 (by omega) (by omega), cm_eql, cm_gtr]
    simp only [h, if_false]
    by_cases h2 : y > b.length
    · rw [if_pos (by simp; omega)]; simp [h2]
    · by_cases h3 : y = 0
      · simp [h3]
      · rw [if_neg (by simp; omega)]; simp [h2, h3]

theorem refTrail_eq {b : List Int} (hb : ∀ y, y ∈ b → 0 ≤ y ∧ y ≤ 255) (hl : b.length ≤ 1000000) : ref03_Trail b = some (trN b) := by
  unfold ref03_Trail trN
  by_cases h : b.length = 0
  · rw [if_pos (by rw [cm_eql]; simp [h])]; simp [h]
  · rw [if_neg (by rw [cm_eql]; simp [h]), bnd (last_ix h hl)]
    have hm : b.getD (b.length - 1) 0 ∈ b := by
      have hi : b.length - 1 < b.length := by omega
      simp [List.getD, hi]
    have hr := hb _ hm
    generalize b.getD (b.length - 1) 0 = y at *
    rw [w_i64 (by omega) (by omega), cm_gtr]
    simp only [h, if_false]
    by_cases h2 : y > b.length
    · rw [if_pos (by simpa using h2)]; simp [h2]
    · rw [if_neg (by simpa using h2)]; simp [h2]

def allZ (l : List Int) : Bool := decide (∀ y, y ∈ l → y = 0)
def cleanS (b : List Int) : Bool := decide (0 < trN b) && allZ ((b.drop (b.length - (trN b).toNat)).take ((trN b).toNat - 1))

theorem sub_trail {b : List Int} (hb : ∀ y, y ∈ b → 0 ≤ y ∧ y ≤ 255) (hl : b.length ≤ 1000000) (h : 0 < trN b) :
    sub b (ar .sub .i64 (b.length : Int) (trN b)) (ar .sub .i64 (b.length : Int) 1) = some ((b.drop (b.length - (trN b).toNat)).take ((trN b).toNat - 1)) := by
  have hr := trN_in hb
  rw [ar_sub, w_i64 (by omega) (by omega), ar_sub, w_i64 (by omega) (by omega), sub_some (by omega) (by omega) (by omega)]
  congr 2
  · omega
  · congr 1; omega

theorem padClean_eq {b : List Int} (hb : ∀ y, y ∈ b → 0 ≤ y ∧ y ≤ 255) (hl : b.length ≤ 1000000) : pad_Clean none b = some (cleanS b) := by
  have hr := trN_in hb
  unfold pad_Clean cleanS
  rw [bnd (padTrail_eq hb hl)]
  by_cases h : trN b = 0
  · rw [if_pos h, cm_eql]
    simp [gTF, h]
  · rw [if_neg h, cm_eql]
    simp only [decide_true, gTT, Bool.true_and]
    rw [bnd (sub_trail hb hl (by omega)), bnd (zero_eq (fun y hy => hb y (List.mem_of_mem_drop (List.mem_of_mem_take hy))))]
    have : decide (0 < trN b) = true := decide_eq_true (by omega)
    rw [this]; simp [allZ]

theorem refClean_eq {b : List Int} (hb : ∀ y, y ∈ b → 0 ≤ y ∧ y ≤ 255) (hl : b.length ≤ 1000000) : ref03_Clean none b = some (cleanS b) := by
  have hr := trN_in hb
  unfold ref03_Clean cleanS
  rw [bnd (refTrail_eq hb hl), cm_gtr]
  by_cases h : 0 < trN b
  · simp only [h, decide_true, gTT, Bool.true_and]
    rw [bnd (sub_trail hb hl h), bnd (refZero_eq (by simp; omega))]
    rfl
  · simp only [h, decide_false, gTF, Bool.false_and]
    rfl

theorem padAdd_eq {b : List Int} (hl : b.length ≤ 1000000) {n : Int} (h1 : 1 ≤ n) (h2 : n ≤ 255) : pad_Add none b n = some (b ++ List.replicate (n.toNat - 1) 0 ++ [n], 0) := by
  unfold pad_Add
  rw [if_neg (by rw [cm_lss, cm_gtr]; simp; omega), ar_sub, w_i64 (by omega) (by omega), bnd (zeros_eq (by omega) (by omega)), w_u8 (by omega) (by omega), bnd (concat_eq (by simp) (by simp; omega))]
  have : (n - 1).toNat = n.toNat - 1 := by omega
  rw [this]; simp

theorem refAdd_eq {b : List Int} (hl : b.length ≤ 1000000) {n : Int} (h1 : 1 ≤ n) (h2 : n ≤ 255) : ref03_Add none b n = some (b ++ List.replicate (n.toNat - 1) 0 ++ [n]) := by
  unfold ref03_Add ref03_Add_l1
  rw [bnd (app_some (l := []) (m := b) (by simp; omega)), List.nil_append]
  have := loop_seq (step := fun (s : List Int × Int) => ref03_Add_s1 none n s.1 s.2) (r := b ++ List.replicate (n.toNat - 1) 0 ++ [n]) (fun i => (b ++ List.replicate i 0, (1 + i : Int))) (n.toNat - 1) (fun i hi => by
    simp only [ref03_Add_s1]
    rw [cm_lss, if_pos (by simp; omega), bnd (app_some (by simp; omega)), ar_add, w_i64 (by omega) (by omega), List.append_assoc, ← List.replicate_succ']
    simp; omega) (by
    simp only [ref03_Add_s1]
    rw [cm_lss, if_neg (by simp; omega), w_u8 (by omega) (by omega), bnd (app_some (by simp; omega))]
    rfl)
  simpa using this

theorem padRight_true {b : List Int} {n : Int} (hb : b.length ≤ maxLen ∧ ∀ x, x ∈ b → inK .u8 x) (_hn : inK .i64 n) : law03_PadRight none b n = some true := by
  have hu : ∀ y, y ∈ b → 0 ≤ y ∧ y ≤ 255 := hb.2
  unfold law03_PadRight
  by_cases h : (b.length : Int) > 3000
  · rw [if_pos (by rw [cm_gtr]; simpa using h)]
  · rw [if_neg (by rw [cm_gtr]; simpa using h), bnd (refRound_eq n)]
    have hl : b.length ≤ 1000000 := by omega
    have r1 : cm .neq (pad_Round n) (pad_Round n) = false := by rw [cm_neq]; simp
    have r2 : ∀ s : List UInt8, sc .neq s s = false := fun s => by simp [sc]
    have r3 : ∀ x : Bool, bq .neq x x = false := fun x => by simp [bq]
    rw [r1]
    simp only [Bool.not_false, gTT]
    rw [bnd (fill_eq hl), bnd (refFill_eq hl), r2]
    simp only [Bool.or_false, Bool.not_false, gTT]
    rw [bnd (zero_eq hu), bnd (refZero_eq hl), r3]
    simp only [Bool.or_false, Bool.not_false, gTT]
    rw [bnd (padClean_eq hu hl), bnd (refClean_eq hu hl), r3]
    simp only [Bool.or_false, Bool.false_eq_true, if_false]
    rw [bnd (padTrail_eq hu hl), bnd (refTrail_eq hu hl)]
    have hr := trN_in hu
    have hcond : ((cm .neq (if trN b = 0 then ((0 : Int), (5 : Int)) else (trN b, 0)).1 (trN b) || bq .neq (cm .eql (if trN b = 0 then ((0 : Int), (5 : Int)) else (trN b, 0)).2 0) (cm .gtr (trN b) 0)) ||
        (cm .neq (if trN b = 0 then ((0 : Int), (5 : Int)) else (trN b, 0)).2 0 && cm .neq (if trN b = 0 then ((0 : Int), (5 : Int)) else (trN b, 0)).2 5)) = false := by
      by_cases h0 : trN b = 0
      · simp [h0, cm_neq, cm_eql, cm_gtr, bq]
      · have : 0 < trN b := by omega
        simp [h0, cm_neq, cm_eql, cm_gtr, bq, this]
    rw [hcond]
    simp only [Bool.false_eq_true, if_false]
    by_cases hn : n < 1 ∨ n > 255
    · have ha : pad_Add none b n = some ([], 1) := by
        unfold pad_Add
        rw [if_pos (by rw [cm_lss, cm_gtr]; simp; omega)]
      rw [bnd ha, if_pos (by rw [cm_lss, cm_gtr]; simp; omega)]
      simp [cm_eql]
    · rw [bnd (padAdd_eq hl (by omega) (by omega)), if_neg (by rw [cm_lss, cm_gtr]; simp; omega), cm_eql]
      simp only [decide_true, gTT, Bool.true_and]
      rw [bnd (refAdd_eq hl (by omega) (by omega)), sc_self]
end Xb
