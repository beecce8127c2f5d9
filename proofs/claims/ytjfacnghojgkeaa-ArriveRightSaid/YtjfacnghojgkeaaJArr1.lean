/- Own text: JArr1. -/
import Derived.Test.YtjfacnghojgkeaaMath2
import Derived.Test.YtjfacnghojgkeaaJModels
import Derived.Test.YtjfacnghojgkeaaJWf
set_option linter.all false
set_option linter.unusedVariables false
set_option linter.unusedSimpArgs false
set_option linter.unnecessarySimpa false
set_option linter.deprecated false
namespace Xb
open Go

def FitS (s : Seen) : Prop := (s.what = 0 ∧ s.delta = 0) ∨ (s.what = 1 ∧ 0 ≤ s.delta ∧ s.delta ≤ 255) ∨ (s.what = 2 ∧ -32768 ≤ s.delta ∧ s.delta ≤ 32767)
instance (s : Seen) : Decidable (FitS s) := inferInstanceAs (Decidable (_ ∨ _))
theorem fits_eq (s : Seen) : arrive_fits s = decide (FitS s) := by
  rw [Bool.eq_iff_iff, decide_eq_true_iff (p := FitS s)]
  unfold arrive_fits FitS
  simp only [cm_eql, cm_geq, cm_lss]
  by_cases h0 : s.what = 0
  · simp [h0]
  · by_cases h1 : s.what = 1
    · simp [h1]; omega
    · by_cases h2 : s.what = 2
      · simp [h2]; omega
      · simp [h0, h1, h2]

theorem containsSeen_eq {l : List Seen} {f : Seen → Option Bool} {p : Seen → Bool} (hf : ∀ s, f s = some (p s)) (hl : l.length ≤ 1000000) : slices_ContainsFunc_Seen none l f = some (l.any p) := by
  unfold slices_ContainsFunc_Seen slices_IndexFunc_Seen slices_IndexFunc_Seen_l1
  have := find_loop (l := l) (step := fun s => slices_IndexFunc_Seen_s1 none l f s) (p := p) (hit := fun i => (i : Int)) (miss := -1) (by
    show slices_IndexFunc_Seen_s1 none l f _ = _
    unfold slices_IndexFunc_Seen_s1
    rw [if_neg (by rw [cm_lss]; simp)]; rfl) (fun i hi => by
    show slices_IndexFunc_Seen_s1 none l f _ = _
    unfold slices_IndexFunc_Seen_s1
    rw [if_pos (by rw [cm_lss]; simpa using hi), bnd (ix_some (n := i) rfl hi), bnd (hf _)]
    by_cases hp : p l[i] = true
    · rw [if_pos hp, if_pos hp]; rfl
    · rw [if_neg hp, if_neg hp, ar_add, w_i64 (by omega) (by omega)]; rfl)
  rw [bnd this]
  congr 1
  cases h : l.findIdx? p with
  | none =>
    rw [List.findIdx?_eq_none_iff] at h
    have : l.any p = false := by rw [List.any_eq_false]; intro x hx; simp [h x hx]
    rw [this]; decide
  | some i =>
    rw [List.findIdx?_eq_some_iff_getElem] at h
    obtain ⟨hi, hp, _⟩ := h
    have : l.any p = true := List.any_eq_true.2 ⟨l[i], List.getElem_mem hi, hp⟩
    rw [this, cm_geq]; simp

def RightA (a : Arrive) : Prop := -8388608 ≤ a.time ∧ a.time ≤ 8388607 ∧ a.seen.length ≤ 4000 ∧ ∀ s, s ∈ a.seen → FitS s
instance (a : Arrive) : Decidable (RightA a) := inferInstanceAs (Decidable (_ ∧ _))
theorem right_eq {a : Arrive} (hl : a.seen.length ≤ 1000000) : arrive_Right none a = some (decide (RightA a)) := by
  unfold arrive_Right
  rw [containsSeen_eq (p := fun s => !decide (FitS s)) (fun s => by unfold arrive_Right_1; rw [fits_eq]) hl]
  by_cases hc : -8388608 ≤ a.time ∧ a.time ≤ 8388607 ∧ a.seen.length ≤ 4000
  · have : (((cm .geq a.time (-8388608)) && (cm .lss a.time 8388608)) && (cm .leq (a.seen.length : Int) 4000)) = true := by
      simp only [cm_geq, cm_lss, cm_leq, Bool.and_eq_true, decide_eq_true_eq]; omega
    rw [this, gTT, Option.bind_some, Bool.true_and]
    congr 1
    rw [Bool.eq_iff_iff, decide_eq_true_iff (p := RightA a)]
    unfold RightA
    simp only [Bool.not_eq_true', List.any_eq_false]
    constructor
    · intro h; exact ⟨hc.1, hc.2.1, hc.2.2, fun s hs => by simpa using h s hs⟩
    · intro h s hs; simpa using h.2.2.2 s hs
  · have : (((cm .geq a.time (-8388608)) && (cm .lss a.time 8388608)) && (cm .leq (a.seen.length : Int) 4000)) = false := by
      rw [Bool.eq_false_iff]
      simp only [cm_geq, cm_lss, cm_leq, Bool.and_eq_true, decide_eq_true_eq, ne_eq]
      omega
    rw [this, gTF, Option.bind_some, Bool.false_and]
    congr 1
    exact (decide_eq_false fun h => hc ⟨h.1, h.2.1, h.2.2.1⟩).symm

def sumD : List Seen → Int
  | [] => 0
  | s :: l => s.delta + sumD l
theorem sumD_snoc : ∀ (l : List Seen) (s : Seen), sumD (l ++ [s]) = sumD l + s.delta
  | [], s => by simp [sumD]
  | x :: l, s => by simp only [List.cons_append, sumD, sumD_snoc l s]; omega
theorem sumD_bd : ∀ (l : List Seen), (∀ s, s ∈ l → FitS s) → -32768 * (l.length : Int) ≤ sumD l ∧ sumD l ≤ 32768 * (l.length : Int)
  | [], _ => by simp [sumD]
  | x :: l, h => by
    have h1 := sumD_bd l fun s hs => h s (by simp [hs])
    have h2 := h x (by simp)
    unfold FitS at h2
    simp only [sumD, List.length_cons]
    omega
theorem take_snoc {α : Type} (l : List α) (i : Nat) (hi : i < l.length) : l.take (i + 1) = l.take i ++ [l[i]] := by
  rw [List.take_add_one, List.getElem?_eq_getElem hi]; rfl

theorem when_loop {l : List Seen} {t : Int} (hl : l.length ≤ 4000) (hf : ∀ s, s ∈ l → FitS s) (h1 : -8388608 * 256 ≤ t) (h2 : t ≤ 8388608 * 256) : arrive_When_l2 none l t 0 = some (t + sumD l, 0) := by
  unfold arrive_When_l2
  have := loop_seq (step := fun (s : Int × Int) => arrive_When_s2 none l s.1 s.2) (r := (t + sumD l, 0)) (fun i => (t + sumD (l.take i), (i : Int))) l.length (fun i hi => by
    show arrive_When_s2 none l _ (i : Int) = _
    have hb := sumD_bd (l.take (i + 1)) fun s hs => hf s (List.mem_of_mem_take hs)
    rw [List.length_take, take_snoc l i hi, sumD_snoc] at hb
    unfold arrive_When_s2
    rw [if_pos (by rw [cm_lss]; simpa using hi), bnd (ix_some (n := i) rfl hi), ar_add, w_i64 (by omega) (by omega), ar_add, w_i64 (by omega) (by omega), take_snoc l i hi, sumD_snoc, Int.add_assoc]
    rfl) (by
    show arrive_When_s2 none l _ _ = _
    unfold arrive_When_s2
    rw [if_neg (by rw [cm_lss]; simp)]
    simp)
  simpa [sumD] using this

def whenS (a : Arrive) (nth : Int) : Int × Int :=
  if ¬ RightA a ∨ nth < 0 ∨ a.seen.length ≤ nth then (0, 1) else if (a.seen.getD nth.toNat ⟨0, 0⟩).what = 0 then (0, 8) else (256 * a.time + sumD (a.seen.take (nth.toNat + 1)), 0)

theorem when_eq {a : Arrive} {nth : Int} (hl : a.seen.length ≤ 1000000) : arrive_When none a nth = some (whenS a nth) := by
  unfold arrive_When whenS
  rw [bnd (right_eq hl)]
  by_cases hr : RightA a
  · rw [decide_eq_true hr, if_neg (by decide), cm_lss, cm_geq]
    have hc := hr.2.2.1
    unfold arrive_When_j1
    by_cases h0 : nth < 0
    · rw [if_pos (by simpa using h0), if_pos (by simpa using h0), if_pos (.inr (.inl h0))]
    · rw [if_neg (by simpa using h0)]
      by_cases h1 : (a.seen.length : Int) ≤ nth
      · rw [if_pos (by simpa using h1), if_pos (.inr (.inr h1))]
      · have hi : nth.toNat < a.seen.length := by omega
        have hn : nth = (nth.toNat : Int) := by omega
        have hg : a.seen.getD nth.toNat ⟨0, 0⟩ = a.seen[nth.toNat] := by rw [List.getD_eq_getElem?_getD, List.getElem?_eq_getElem hi]; rfl
        have hn0 : ¬ (¬ RightA a ∨ nth < 0 ∨ (a.seen.length : Int) ≤ nth) := fun h => h.elim (fun h => h hr) fun h => h.elim h0 h1
        rw [if_neg (by simpa using h1), bnd (ix_some (n := nth.toNat) hn hi), if_neg hn0, hg]
        by_cases hw : a.seen[nth.toNat].what = 0
        · rw [if_pos (show cm .eql a.seen[nth.toNat].what 0 = true by rw [cm_eql]; simpa using hw), if_pos hw]
        · rw [if_neg (show ¬ cm .eql a.seen[nth.toNat].what 0 = true by rw [cm_eql]; simpa using hw), if_neg hw, ar_add, w_i64 (by omega) (by omega), bnd (sub_some (by omega) (by omega) (by omega))]
          have e : (nth + 1).toNat - (0 : Int).toNat = nth.toNat + 1 := by omega
          have h2 := hr.1; have h3 := hr.2.1
          rw [e, ar_mul, w_i64 (by omega) (by omega)]
          have := when_loop (l := List.take (nth.toNat + 1) (List.drop (0 : Int).toNat a.seen)) (t := a.time * 256) (by rw [List.length_take, List.length_drop]; omega) (fun s hs => hr.2.2.2 s (List.mem_of_mem_drop (List.mem_of_mem_take hs))) (by omega) (by omega)
          rw [this]
          simp only [Int.toNat_zero, List.drop_zero]
          rw [Int.mul_comm]
  · rw [decide_eq_false hr, if_pos (by decide), if_pos (.inl hr)]
    unfold arrive_When_j1
    rw [if_pos (by decide)]

theorem whenS_neg {a : Arrive} {nth : Int} (h : nth < 0) : whenS a nth = (0, 1) := by unfold whenS; rw [if_pos (.inr (.inl h))]
theorem whenS_pos {a : Arrive} {i : Nat} (hr : RightA a) (h : i < a.seen.length) : whenS a (i : Int) = if (a.seen.getD i ⟨0, 0⟩).what = 0 then (0, 8) else (256 * a.time + sumD (a.seen.take (i + 1)), 0) := by
  have hn : ¬ (¬ RightA a ∨ (i : Int) < 0 ∨ (a.seen.length : Int) ≤ (i : Int)) := by
    rintro (h1 | h1 | h1)
    · exact h1 hr
    · omega
    · omega
  unfold whenS
  rw [if_neg hn, Int.toNat_natCast]
end Xb
