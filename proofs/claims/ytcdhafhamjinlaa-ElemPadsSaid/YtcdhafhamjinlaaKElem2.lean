/- Own text: KElem2. -/
import Derived.Test.YtcdhafhamjinlaaKElem1
set_option linter.all false
set_option linter.unusedVariables false
set_option linter.unusedSimpArgs false
set_option linter.unnecessarySimpa false
set_option linter.deprecated false
namespace Xb
open Go

/-! ref08.Right, Profile, Short, Same -/
theorem find_dup {l : List Elem} {i : Nat} (hl : l.length ≤ 1000000) (hi : i < l.length) :
    ref08_Right_l2 none l (i : Int) 0 = some (if l[i].id_ ∈ (l.take i).map (·.id_) then .inr false else .inl ((i + 1 : Nat) : Int)) := by
  unfold ref08_Right_l2
  have hlt : (l.take i).length = i := by rw [List.length_take]; omega
  have := find_loop (l := l.take i) (step := fun s => ref08_Right_s2 none l (i : Int) s) (p := fun e => decide (e.id_ = l[i].id_)) (hit := fun _ => (.inr false : Int ⊕ Bool)) (miss := .inl ((i + 1 : Nat) : Int)) (by
    show ref08_Right_s2 none l (i : Int) _ = _
    unfold ref08_Right_s2
    rw [hlt, if_neg (by rw [cm_lss]; simp), ar_add, w_i64 (by omega) (by omega)]; rfl) (fun j hj => by
    show ref08_Right_s2 none l (i : Int) (j : Int) = _
    rw [hlt] at hj
    have hjl : j < l.length := by omega
    unfold ref08_Right_s2
    rw [if_pos (by rw [cm_lss]; simpa using hj), bnd (ix_some (n := j) rfl hjl), bnd (ix_some (n := i) rfl hi), cm_eql, List.getElem_take]
    by_cases h : l[j].id_ = l[i].id_
    · simp [h]
    · simp only [h, decide_false, Bool.false_eq_true, if_false]
      rw [ar_add, w_i64 (by omega) (by omega)]; rfl)
  rw [this]
  congr 1
  cases h : (l.take i).findIdx? (fun e => decide (e.id_ = l[i].id_)) with
  | none =>
    rw [List.findIdx?_eq_none_iff] at h
    rw [if_neg]
    intro hm
    obtain ⟨e, he, hee⟩ := List.mem_map.1 hm
    have := h e he
    simp [hee] at this
  | some j =>
    rw [List.findIdx?_eq_some_iff_getElem] at h
    obtain ⟨hj, hp, _⟩ := h
    rw [if_pos]
    exact List.mem_map.2 ⟨_, List.getElem_mem hj, by simpa using hp⟩

theorem refRight_step {l : List Elem} {i : Nat} (hl : l.length ≤ 1000000) (hi : i < l.length) :
    ref08_Right_s1 none l (i : Int) = if FitE l[i] ∧ l[i].id_ ∉ (l.take i).map (·.id_) then some (.inl ((i + 1 : Nat) : Int)) else some (.inr false) := by
  unfold ref08_Right_s1
  have hx := ix_some (l := l) (n := i) (i := (i : Int)) rfl hi
  rw [if_pos (by rw [cm_lss]; simpa using hi), bnd hx, hx]
  have g1 : ∃ y, gT (!(cm .lss l[i].id_ 1)) (some l[i]) = some y ∧ (1 ≤ l[i].id_ → y = l[i]) := by
    by_cases h : 1 ≤ l[i].id_
    · have : cm .lss l[i].id_ 1 = false := by rw [cm_lss]; exact decide_eq_false (by omega)
      exact ⟨l[i], by rw [this]; rfl, fun _ => rfl⟩
    · have : cm .lss l[i].id_ 1 = true := by rw [cm_lss]; exact decide_eq_true (by omega)
      exact ⟨default, by rw [this]; rfl, fun h' => absurd h' h⟩
  obtain ⟨y, hy, hyy⟩ := g1
  rw [bnd hy]
  have g2 : ∃ u, gT (!((cm .lss l[i].id_ 1) || (cm .gtr y.id_ 255))) (some l[i]) = some u ∧ (1 ≤ l[i].id_ → l[i].id_ ≤ 255 → u = l[i]) := by
    cases h : (!((cm .lss l[i].id_ 1) || (cm .gtr y.id_ 255)))
    · refine ⟨default, rfl, fun h1 h2 => ?_⟩
      rw [hyy h1, cm_lss, cm_gtr] at h
      simp at h; omega
    · exact ⟨l[i], rfl, fun _ _ => rfl⟩
  obtain ⟨u, hu, huu⟩ := g2
  rw [bnd hu]
  by_cases hf : FitE l[i]
  · have hf' := hf
    unfold FitE at hf'
    rw [hyy hf'.1, huu hf'.1 hf'.2.1, if_neg (by rw [cm_lss, cm_gtr, cm_gtr]; simp; omega), find_dup hl hi]
    by_cases hd : l[i].id_ ∈ (l.take i).map (·.id_)
    · rw [if_pos hd, if_neg (fun h => h.2 hd)]
    · rw [if_neg hd, if_pos ⟨hf, hd⟩]
  · have hc : ((cm .lss l[i].id_ 1) || (cm .gtr y.id_ 255) || (cm .gtr (u.data.length : Int) 255)) = true := by
      unfold FitE at hf
      rw [cm_lss, cm_gtr, cm_gtr]
      by_cases h1 : 1 ≤ l[i].id_
      · rw [hyy h1]
        by_cases h2 : l[i].id_ ≤ 255
        · rw [huu h1 h2]
          simp only [Bool.or_eq_true, decide_eq_true_eq]; omega
        · simp only [Bool.or_eq_true, decide_eq_true_eq]; left; right; omega
      · simp only [Bool.or_eq_true, decide_eq_true_eq]; left; left; omega
    rw [hc, if_pos rfl, if_neg (fun h => hf h.1)]
    rfl

theorem rright_eq {l : List Elem} (hl : l.length ≤ 1000000) : ref08_Right none l = some (decide (RightL l)) := by
  unfold ref08_Right ref08_Right_l1
  have key : ∀ m i, i + m = l.length → RightL (l.take i) → loopG none (fun (s : Int) => ref08_Right_s1 none l s) (i : Int) = some (decide (RightL l)) := by
    intro m
    induction m with
    | zero =>
      intro i hi hr
      have e : i = l.length := by omega
      subst e
      rw [List.take_length] at hr
      have : ref08_Right_s1 none l (l.length : Int) = some (.inr true) := by
        unfold ref08_Right_s1
        rw [if_neg (by rw [cm_lss]; simp)]; rfl
      rw [loop_inr this, decide_eq_true hr]
    | succ m ih =>
      intro i hi hr
      have hil : i < l.length := by omega
      have hs := refRight_step (l := l) (i := i) hl hil
      by_cases h : FitE l[i] ∧ l[i].id_ ∉ (l.take i).map (·.id_)
      · rw [if_pos h] at hs
        rw [loop_inl hs]
        exact ih (i + 1) (by omega) ((right_take hil).2 ⟨hr, h⟩)
      · rw [if_neg h] at hs
        rw [loop_inr hs]
        have : ¬ RightL l := fun hr2 => h ((right_take hil).1 (right_mono (i := i + 1) hr2)).2
        rw [decide_eq_false this]
  have := key l.length 0 (by omega) ⟨by simp, by simp⟩
  simpa using this

def Nar (e : Elem) : Prop := e.id_ ≤ 14 ∧ 1 ≤ e.data.length ∧ e.data.length ≤ 16
instance (e : Elem) : Decidable (Nar e) := inferInstanceAs (Decidable (_ ∧ _))
def NarL (l : List Elem) : Prop := ∀ e, e ∈ l → Nar e
instance (l : List Elem) : Decidable (NarL l) := inferInstanceAs (Decidable (∀ e, e ∈ l → Nar e))
def profS (l : List Elem) : Int := if RightL l then (if NarL l then 48862 else 4096) else 0

theorem containsE_eq {l : List Elem} {f : Elem → Option Bool} {p : Elem → Bool} (hf : ∀ s, f s = some (p s)) (hl : l.length ≤ 1000000) : slices_ContainsFunc_Elem none l f = some (l.any p) := by
  unfold slices_ContainsFunc_Elem slices_IndexFunc_Elem slices_IndexFunc_Elem_l1
  have := find_loop (l := l) (step := fun s => slices_IndexFunc_Elem_s1 none l f s) (p := p) (hit := fun i => (i : Int)) (miss := -1) (by
    show slices_IndexFunc_Elem_s1 none l f _ = _
    unfold slices_IndexFunc_Elem_s1
    rw [if_neg (by rw [cm_lss]; simp)]; rfl) (fun i hi => by
    show slices_IndexFunc_Elem_s1 none l f _ = _
    unfold slices_IndexFunc_Elem_s1
    rw [if_pos (by rw [cm_lss]; simpa using hi), bnd (ix_some (n := i) rfl hi), bnd (hf _)]
    by_cases hp : p l[i] = true
    · rw [if_pos hp, if_pos hp]; rfl
    · rw [if_neg hp, if_neg hp, ar_add, w_i64 (by omega) (by omega)]; rfl)
  rw [bnd this]
  congr 1
  cases h : l.findIdx? p with
  | none =>
    rw [List.findIdx?_eq_none_iff] at h
    have : l.any p = false := by rw [List.any_eq_false]; intro x hx; simp [h x hx]
    rw [this]; decide
  | some i =>
    rw [List.findIdx?_eq_some_iff_getElem] at h
    obtain ⟨hi, hp, _⟩ := h
    have : l.any p = true := List.any_eq_true.2 ⟨l[i], List.getElem_mem hi, hp⟩
    rw [this, cm_geq]; simp

theorem enarrow_eq {l : List Elem} (hl : l.length ≤ 1000000) : elem_narrow none l = some (decide (NarL l)) := by
  unfold elem_narrow
  rw [bnd (containsE_eq (p := fun e => !decide (Nar e)) (fun e => by
    congr 1
    unfold elem_narrow_1
    rw [cm_gtr, cm_lss, cm_gtr]
    by_cases h : Nar e
    · rw [decide_eq_true h]
      unfold Nar at h
      show _ = false
      rw [Bool.eq_false_iff]
      simp only [ne_eq, Bool.or_eq_true, decide_eq_true_eq]; omega
    · rw [decide_eq_false h]
      unfold Nar at h
      show _ = true
      simp only [Bool.or_eq_true, decide_eq_true_eq]; omega) hl)]
  congr 1
  rw [Bool.eq_iff_iff, decide_eq_true_iff (p := NarL l)]
  unfold NarL
  simp only [Bool.not_eq_true', List.any_eq_false]
  constructor
  · intro h e he; simpa using h e he
  · intro h e he; simpa using h e he

theorem eprof_eq {l : List Elem} (hl : l.length ≤ 1000000) : elem_Profile none l = some (profS l) := by
  unfold elem_Profile profS
  rw [bnd (eright_eq hl)]
  by_cases h : RightL l
  · rw [decide_eq_true h, if_neg (by decide), if_pos h, bnd (enarrow_eq hl)]
    by_cases h2 : NarL l
    · rw [decide_eq_true h2, if_pos rfl, if_pos h2]
    · rw [decide_eq_false h2, if_neg (by decide), if_neg h2]
  · rw [decide_eq_false h, if_pos (by decide), if_neg h]

theorem rprof_eq {l : List Elem} (hl : l.length ≤ 1000000) : ref08_Profile none l = some (profS l) := by
  unfold ref08_Profile profS
  rw [bnd (rright_eq hl)]
  by_cases h : RightL l
  · rw [decide_eq_true h, if_neg (by decide), if_pos h]
    unfold ref08_Profile_l1
    have := find_loop (l := l) (step := fun s => ref08_Profile_s1 none l s) (p := fun e => !decide (Nar e)) (hit := fun _ => (4096 : Int)) (miss := 48862) (by
      show ref08_Profile_s1 none l _ = _
      unfold ref08_Profile_s1
      rw [if_neg (by rw [cm_lss]; simp)]; rfl) (fun i hi => by
      show ref08_Profile_s1 none l (i : Int) = _
      unfold ref08_Profile_s1
      have hx := ix_some (l := l) (n := i) (i := (i : Int)) rfl hi
      rw [if_pos (by rw [cm_lss]; simpa using hi), bnd hx, hx]
      have g1 : ∃ y, gT (!(cm .gtr l[i].id_ 14)) (some l[i]) = some y ∧ (l[i].id_ ≤ 14 → y = l[i]) := by
        cases hh : (!(cm .gtr l[i].id_ 14))
        · refine ⟨default, rfl, fun h1 => ?_⟩
          rw [cm_gtr] at hh; simp at hh; omega
        · exact ⟨l[i], rfl, fun _ => rfl⟩
      obtain ⟨y, hy, hyy⟩ := g1
      rw [bnd hy]
      have g2 : ∃ u, gT (!((cm .gtr l[i].id_ 14) || (cm .eql (y.data.length : Int) 0))) (some l[i]) = some u ∧ (l[i].id_ ≤ 14 → 1 ≤ l[i].data.length → u = l[i]) := by
        cases hh : (!((cm .gtr l[i].id_ 14) || (cm .eql (y.data.length : Int) 0)))
        · refine ⟨default, rfl, fun h1 h2 => ?_⟩
          rw [hyy h1, cm_gtr, cm_eql] at hh
          simp only [Bool.not_eq_false', Bool.or_eq_true, decide_eq_true_eq] at hh
          omega
        · exact ⟨l[i], rfl, fun _ _ => rfl⟩
      obtain ⟨u, hu, huu⟩ := g2
      rw [bnd hu]
      by_cases hn : Nar l[i]
      · have hn' := hn
        unfold Nar at hn'
        rw [hyy hn'.1, huu hn'.1 hn'.2.1, if_neg (by rw [cm_gtr, cm_eql, cm_gtr]; simp only [Bool.or_eq_true, decide_eq_true_eq]; omega), if_neg (by simp [hn]), ar_add, w_i64 (by omega) (by omega)]
        rfl
      · rw [if_pos (by
          unfold Nar at hn
          rw [cm_gtr, cm_eql, cm_gtr]
          by_cases h1 : l[i].id_ ≤ 14
          · rw [hyy h1]
            by_cases h2 : 1 ≤ l[i].data.length
            · rw [huu h1 h2]
              simp only [Bool.or_eq_true, decide_eq_true_eq]; omega
            · simp only [Bool.or_eq_true, decide_eq_true_eq]; left; right; omega
          · simp only [Bool.or_eq_true, decide_eq_true_eq]; left; left; omega), if_pos (by simp [hn])]
        rfl)
    rw [this]
    congr 1
    cases hf : l.findIdx? (fun e => !decide (Nar e)) with
    | none =>
      rw [List.findIdx?_eq_none_iff] at hf
      rw [if_pos]
      intro e he
      simpa using hf e he
    | some j =>
      rw [List.findIdx?_eq_some_iff_getElem] at hf
      obtain ⟨hj, hp, _⟩ := hf
      rw [if_neg]
      intro hn
      have := hn _ (List.getElem_mem hj)
      simp [this] at hp
  · rw [decide_eq_false h, if_pos (by decide), if_neg h]

def ShortL (l : List Elem) : Prop := l.length ≤ 300 ∧ ∀ e, e ∈ l → e.data.length ≤ 400
instance (l : List Elem) : Decidable (ShortL l) := inferInstanceAs (Decidable (_ ∧ _))
theorem short_eq {l : List Elem} (hl : l.length ≤ 9223372036854775807) : ref08_Short none l = some (decide (ShortL l)) := by
  unfold ref08_Short ref08_Short_l1
  have := find_loop (l := l) (step := fun s => ref08_Short_s1 none l s) (p := fun e => decide (400 < e.data.length)) (hit := fun _ => false) (miss := decide (l.length ≤ 300)) (by
    show ref08_Short_s1 none l _ = _
    unfold ref08_Short_s1
    rw [if_neg (by rw [cm_lss]; simp), cm_leq]
    simp only [Option.map_some]
    congr 2
    exact decide_eq_decide.2 (by omega)) (fun i hi => by
    show ref08_Short_s1 none l (i : Int) = _
    unfold ref08_Short_s1
    rw [if_pos (by rw [cm_lss]; simpa using hi), bnd (ix_some (n := i) rfl hi), cm_gtr]
    by_cases h : 400 < l[i].data.length
    · rw [if_pos (by simp; omega), if_pos (by simpa using h)]; rfl
    · rw [if_neg (by simp; omega), if_neg (by simpa using h), ar_add, w_i64 (by omega) (by omega)]; rfl)
  rw [this]
  congr 1
  cases hf : l.findIdx? (fun e => decide (400 < e.data.length)) with
  | none =>
    rw [List.findIdx?_eq_none_iff] at hf
    refine decide_eq_decide.2 ⟨fun h => ⟨h, fun e he => by have := hf e he; simp at this; omega⟩, fun h => h.1⟩
  | some j =>
    rw [List.findIdx?_eq_some_iff_getElem] at hf
    obtain ⟨hj, hp, _⟩ := hf
    exact (decide_eq_false fun h => by have := h.2 _ (List.getElem_mem hj); simp at hp; omega).symm
end Xb
