/- Own text: HPad3. -/
import Derived.Test.YtbbjigdfgildeaaHPad2
set_option linter.all false
set_option linter.unusedVariables false
set_option linter.unusedSimpArgs false
set_option linter.unnecessarySimpa false
set_option linter.deprecated false
namespace Xb
open Go

/-- how long the trailer is; 0: there is none -/
def trN (b : List Int) : Int := if b.length = 0 then 0 else if b.getD (b.length - 1) 0 > b.length then 0 else b.getD (b.length - 1) 0

theorem trN_in {b : List Int} (hb : ∀ y, y ∈ b → 0 ≤ y ∧ y ≤ 255) : 0 ≤ trN b ∧ trN b ≤ b.length := by
  unfold trN
  split
  · omega
  · rename_i h
    have : b.getD (b.length - 1) 0 ∈ b := by
      have hi : b.length - 1 < b.length := by omega
      simp [List.getD, hi]
    have := hb _ this
    split <;> omega

theorem last_ix {b : List Int} (h : b.length ≠ 0) (hl : b.length ≤ 1000000) : ix b (ar .sub .i64 (b.length : Int) 1) = some (b.getD (b.length - 1) 0) := by
  rw [ar_sub, w_i64 (by omega) (by omega), ix_getD (by omega) (by omega)]
  have : ((b.length : Int) - 1).toNat = b.length - 1 := by omega
  rw [this]

theorem padTrail_eq {b : List Int} (hb : ∀ y, y ∈ b → 0 ≤ y ∧ y ≤ 255) (hl : b.length ≤ 1000000) : pad_Trail b = some (if trN b = 0 then (0, 5) else (trN b, 0)) := by
  unfold pad_Trail trN
  by_cases h : b.length = 0
  · rw [if_pos (by rw [cm_eql]; simp [h])]; simp [h]
  · rw [if_neg (by rw [cm_eql]; simp [h]), bnd (last_ix h hl)]
    have hm : b.getD (b.length - 1) 0 ∈ b := by
      have hi : b.length - 1 < b.length := by omega
      simp [List.getD, hi]
    have hr := hb _ hm
    generalize b.getD (b.length - 1) 0 = y at *
    rw [w_i64 (by omega) (by omega), cm_eql, cm_gtr]
    simp only [h, if_false]
    by_cases h2 : y > b.length
    · rw [if_pos (by simp; omega)]; simp [h2]
    · by_cases h3 : y = 0
      · simp [h3]
      · rw [if_neg (by simp; omega)]; simp [h2, h3]

theorem refTrail_eq {b : List Int} (hb : ∀ y, y ∈ b → 0 ≤ y ∧ y ≤ 255) (hl : b.length ≤ 1000000) : ref03_Trail b = some (trN b) := by
  unfold ref03_Trail trN
  by_cases h : b.length = 0
  · rw [if_pos (by rw [cm_eql]; simp [h])]; simp [h]
  · rw [if_neg (by rw [cm_eql]; simp [h]), bnd (last_ix h hl)]
    have hm : b.getD (b.length - 1) 0 ∈ b := by
      have hi : b.length - 1 < b.length := by omega
      simp [List.getD, hi]
    have hr := hb _ hm
    generalize b.getD (b.length - 1) 0 = y at *
    rw [w_i64 (by omega) (by omega), cm_gtr]
    simp only [h, if_false]
    by_cases h2 : y > b.length
    · rw [if_pos (by simpa using h2)]; simp [h2]
    · rw [if_neg (by simpa using h2)]; simp [h2]

def allZ (l : List Int) : Bool := decide (∀ y, y ∈ l → y = 0)
def cleanS (b : List Int) : Bool := decide (0 < trN b) && allZ ((b.drop (b.length - (trN b).toNat)).take ((trN b).toNat - 1))

theorem sub_trail {b : List Int} (hb : ∀ y, y ∈ b → 0 ≤ y ∧ y ≤ 255) (hl : b.length ≤ 1000000) (h : 0 < trN b) :
    sub b (ar .sub .i64 (b.length : Int) (trN b)) (ar .sub .i64 (b.length : Int) 1) = some ((b.drop (b.length - (trN b).toNat)).take ((trN b).toNat - 1)) := by
  have hr := trN_in hb
  rw [ar_sub, w_i64 (by omega) (by omega), ar_sub, w_i64 (by omega) (by omega), sub_some (by omega) (by omega) (by omega)]
  congr 2
  · omega
  · congr 1; omega

theorem padClean_eq {b : List Int} (hb : ∀ y, y ∈ b → 0 ≤ y ∧ y ≤ 255) (hl : b.length ≤ 1000000) : pad_Clean none b = some (cleanS b) := by
  have hr := trN_in hb
  unfold pad_Clean cleanS
  rw [bnd (padTrail_eq hb hl)]
  by_cases h : trN b = 0
  · rw [if_pos h, cm_eql]
    simp [gTF, h]
  · rw [if_neg h, cm_eql]
    simp only [decide_true, gTT, Bool.true_and]
    rw [bnd (sub_trail hb hl (by omega)), bnd (zero_eq (fun y hy => hb y (List.mem_of_mem_drop (List.mem_of_mem_take hy))))]
    have : decide (0 < trN b) = true := decide_eq_true (by omega)
    rw [this]; simp [allZ]

theorem padAdd_eq {b : List Int} (hl : b.length ≤ 1000000) {n : Int} (h1 : 1 ≤ n) (h2 : n ≤ 255) : pad_Add none b n = some (b ++ List.replicate (n.toNat - 1) 0 ++ [n], 0) := by
  unfold pad_Add
  rw [if_neg (by rw [cm_lss, cm_gtr]; simp; omega), ar_sub, w_i64 (by omega) (by omega), bnd (zeros_eq (by omega) (by omega)), w_u8 (by omega) (by omega), bnd (concat_eq (by simp) (by simp; omega))]
  have : (n - 1).toNat = n.toNat - 1 := by omega
  rw [this]; simp

theorem refAdd_eq {b : List Int} (hl : b.length ≤ 1000000) {n : Int} (h1 : 1 ≤ n) (h2 : n ≤ 255) : ref03_Add none b n = some (b ++ List.replicate (n.toNat - 1) 0 ++ [n]) := by
  unfold ref03_Add ref03_Add_l1
  rw [bnd (app_some (l := []) (m := b) (by simp; omega)), List.nil_append]
  have := loop_seq (step := fun (s : List Int × Int) => ref03_Add_s1 none n s.1 s.2) (r := b ++ List.replicate (n.toNat - 1) 0 ++ [n]) (fun i => (b ++ List.replicate i 0, (1 + i : Int))) (n.toNat - 1) (fun i hi => by
    simp only [ref03_Add_s1]
    rw [cm_lss, if_pos (by simp; omega), bnd (app_some (by simp; omega)), ar_add, w_i64 (by omega) (by omega), List.append_assoc, ← List.replicate_succ']
    simp; omega) (by
    simp only [ref03_Add_s1]
    rw [cm_lss, if_neg (by simp; omega), w_u8 (by omega) (by omega), bnd (app_some (by simp; omega))]
    rfl)
  simpa using this

theorem trN_snoc {l : List Int} {n : Int} (_h1 : 1 ≤ n) (h2 : n ≤ l.length + 1) : trN (l ++ [n]) = n := by
  have e : (l ++ [n]).getD ((l ++ [n]).length - 1) 0 = n := by simp [List.getD]
  unfold trN
  rw [e, if_neg (by simp), if_neg (by simp; omega)]

theorem cleanS_snoc {b m : List Int} {n : Int} (h1 : 1 ≤ n) (h2 : m.length = n.toNat - 1) : cleanS (b ++ m ++ [n]) = allZ m := by
  have ht : trN (b ++ m ++ [n]) = n := trN_snoc h1 (by simp; omega)
  unfold cleanS
  rw [ht]
  have e : ((b ++ m ++ [n]).drop ((b ++ m ++ [n]).length - n.toNat)).take (n.toNat - 1) = m := by
    have : (b ++ m ++ [n]).length - n.toNat = b.length := by simp; omega
    rw [this, List.append_assoc, List.drop_left, ← h2, List.take_left]
  rw [e]
  have : decide (0 < n) = true := decide_eq_true (by omega)
  rw [this, Bool.true_and]

end Xb
