/- Own text: LPlan4. -/
import Derived.Test.YtiomfajkappjhaaLPlan3
set_option linter.all false
set_option linter.unusedVariables false
set_option linter.unusedSimpArgs false
set_option linter.unnecessarySimpa false
set_option linter.deprecated false
/-! plan.inside. -/
namespace Xb
open Go

/-- half of the elements turned -/
def mixP (nar : Bool) (p : Plan) (L : List (Nat × Elem)) (t : List Int) (i : Nat) : List Int := bodyP nar ((L.take i).map (newP p)) ++ (bodyP nar (L.drop i) ++ t)

theorem mix_split {nar : Bool} {p : Plan} {L : List (Nat × Elem)} {t : List Int} {i : Nat} (hi : i < L.length) :
    mixP nar p L t i = (bodyP nar ((L.take i).map (newP p)) ++ List.replicate L[i].1 0) ++ (hdr nar L[i].2 ++ (L[i].2.data ++ (bodyP nar (L.drop (i + 1)) ++ t))) := by
  unfold mixP
  rw [List.drop_eq_getElem_cons hi, bodyP_cons]
  unfold encE
  simp only [List.append_assoc]
theorem mix_next {nar : Bool} {p : Plan} {L : List (Nat × Elem)} {t : List Int} {i : Nat} (hi : i < L.length) :
    mixP nar p L t (i + 1) = (bodyP nar ((L.take i).map (newP p)) ++ List.replicate L[i].1 0) ++ (hdr nar (newS p L[i].2) ++ (datS p L[i].2 ++ (bodyP nar (L.drop (i + 1)) ++ t))) := by
  unfold mixP
  rw [snoc_take L i hi, List.map_append, bodyP_app]
  have : bodyP nar ([L[i]].map (newP p)) = List.replicate L[i].1 0 ++ (hdr nar (newS p L[i].2) ++ datS p L[i].2) := by
    simp [bodyP, newP, encE, newS]
  rw [this]
  simp only [List.append_assoc]

structure InP (nar : Bool) (p : Plan) (L : List (Nat × Elem)) : Prop where
  fit : ∀ x, x ∈ L → FitE x.2 ∧ (nar = true → Nar x.2) ∧ oct x.2.data
  ok : ∀ x, x ∈ L → okS p x.2 = true
  ids : ∀ x, x ∈ L → 1 ≤ renS p x.2.id_ ∧ renS p x.2.id_ ≤ 255

/-- the data, copied into place -/
theorem inside_j2 {nar : Bool} {p : Plan} {L : List (Nat × Elem)} {t : List Int} {i : Nat} (hs : SmallP p) (hI : InP nar p L) (hi : i < L.length) (hiN : i ≤ 1000000) {s : Spot} {at_ : Nat} (hat : s.at_ = at_) (hsz : s.size = (L[i].2.data.length : Int)) (hid : s.id_ = L[i].2.id_)
    (hla : at_ = ((bodyP nar ((L.take i).map (newP p)) ++ List.replicate L[i].1 0) ++ hdr nar (newS p L[i].2)).length) (hbig : at_ ≤ 1000000) :
    plan_inside_j2 none (i : Int) p s ((bodyP nar ((L.take i).map (newP p)) ++ List.replicate L[i].1 0) ++ (hdr nar (newS p L[i].2) ++ (L[i].2.data ++ (bodyP nar (L.drop (i + 1)) ++ t)))) =
      some (.inl (mixP nar p L t (i + 1), ((i + 1 : Nat) : Int), p)) := by
  have hx := hI.fit _ (List.getElem_mem hi)
  have hd := hx.1.2.2
  have hok := hI.ok _ (List.getElem_mem hi)
  have hdl := dat_len hok
  have es : ar .add .i64 s.at_ s.size = ((at_ + L[i].2.data.length : Nat) : Int) := by rw [hat, hsz, ar_add, w_i64 (by omega) (by omega)]; rfl
  have ei : ar .add .i64 (i : Int) 1 = ((i + 1 : Nat) : Int) := by rw [ar_add, w_i64 (by omega) (by omega)]; rfl
  have ev : (bodyP nar ((L.take i).map (newP p)) ++ List.replicate L[i].1 0) ++ (hdr nar (newS p L[i].2) ++ (L[i].2.data ++ (bodyP nar (L.drop (i + 1)) ++ t))) = ((bodyP nar ((L.take i).map (newP p)) ++ List.replicate L[i].1 0) ++ hdr nar (newS p L[i].2)) ++ (L[i].2.data ++ (bodyP nar (L.drop (i + 1)) ++ t)) := by simp only [List.append_assoc]
  rw [mix_next hi, ev]
  unfold plan_inside_j2
  rw [es, ei, hid, hat]
  have hsub : sub (((bodyP nar ((L.take i).map (newP p)) ++ List.replicate L[i].1 0) ++ hdr nar (newS p L[i].2)) ++ (L[i].2.data ++ (bodyP nar (L.drop (i + 1)) ++ t))) (at_ : Int) ((at_ + L[i].2.data.length : Nat) : Int) = some L[i].2.data := sub_mid (by rw [hla]) (by rw [hla])
  rw [bnd hsub, bnd (dataY_eq hs.o (e := L[i].2) rfl (by omega))]
  have hcpy : ∀ q : List Int, q.length = L[i].2.data.length → cpy (((bodyP nar ((L.take i).map (newP p)) ++ List.replicate L[i].1 0) ++ hdr nar (newS p L[i].2)) ++ (L[i].2.data ++ (bodyP nar (L.drop (i + 1)) ++ t))) (at_ : Int) ((at_ + L[i].2.data.length : Nat) : Int) q = ((bodyP nar ((L.take i).map (newP p)) ++ List.replicate L[i].1 0) ++ hdr nar (newS p L[i].2)) ++ (q ++ (bodyP nar (L.drop (i + 1)) ++ t)) := fun q hq => cpy_at (by rw [hla]) (by rw [hla]) hq
  unfold datS at hdl ⊢
  cases hf : p.over.find? (fun y => decide (y.id_ = L[i].2.id_)) with
  | none =>
    simp only []
    rw [bnd hsub, hcpy _ rfl]
    simp only [List.append_assoc]
  | some y =>
    rw [hf] at hdl
    simp only []
    rw [bnd hsub, hcpy _ hdl]
    simp only [List.append_assoc]

theorem hdrl (nar : Bool) (e : Elem) : (hdr nar e).length = ah nar := by rw [hdr_len]; rfl

theorem inside_step {nar : Bool} {k : Packet} {p : Plan} {L : List (Nat × Elem)} {t : List Int} {i : Nat} (hk : k.profile = 48862 ↔ nar = true) (hs : SmallP p) (hI : InP nar p L) (hi : i < L.length) (hN : L.length ≤ 1000000) (hbig : (bodyP nar L ++ t).length ≤ 400000) :
    plan_inside_s1 none k (mkP nar 0 L, 0) (mixP nar p L t i) (i : Int) p = some (if nar = true ∧ 14 < renS p L[i].2.id_ then .inr ([], false) else .inl (mixP nar p L t (i + 1), ((i + 1 : Nat) : Int), p)) := by
  have hx := hI.fit _ (List.getElem_mem hi)
  have hf := hx.1
  unfold FitE at hf
  have hr := hI.ids _ (List.getElem_mem hi)
  have hlT : (bodyP nar ((L.take i).map (newP p))).length = (bodyP nar (L.take i)).length := newP_len fun y hy => hI.ok y (List.mem_of_mem_take hy)
  have hml : i < (mkP nar 0 L).length := by rw [mkP_len]; exact hi
  have hg := mkP_get (nar := nar) L 0 i hi
  have hS : (mkP nar 0 L)[i] = ⟨L[i].2.id_, ((0 + (bodyP nar (L.take i)).length + L[i].1 + ah nar : Nat) : Int), (L[i].2.data.length : Int)⟩ := by
    rw [List.getElem?_eq_getElem hml] at hg; exact Option.some.inj hg
  have hsp := mix_split (nar := nar) (p := p) (t := t) hi
  have hPl : (bodyP nar ((L.take i).map (newP p)) ++ List.replicate L[i].1 0).length = (bodyP nar (L.take i)).length + L[i].1 := by rw [List.length_append, hlT, List.length_replicate]
  have hle : (bodyP nar (L.take i)).length + L[i].1 + ah nar ≤ 400000 := by
    have e : bodyP nar L = bodyP nar (L.take i) ++ bodyP nar (L.drop i) := by rw [← bodyP_app, List.take_append_drop]
    rw [List.drop_eq_getElem_cons hi, bodyP_cons] at e
    have := congrArg List.length e
    simp only [List.length_append, List.length_replicate, encE_len] at this hbig
    omega
  have j2 := inside_j2 (t := t) hs hI hi (by omega) (s := ⟨L[i].2.id_, ((0 + (bodyP nar (L.take i)).length + L[i].1 + ah nar : Nat) : Int), (L[i].2.data.length : Int)⟩) (at_ := 0 + (bodyP nar (L.take i)).length + L[i].1 + ah nar) rfl rfl rfl (by rw [List.length_append, hPl, hdrl]; omega) (by omega)
  unfold plan_inside_s1
  rw [if_pos (by rw [cm_lss, mkP_len]; simpa using hi), bnd (ix_some (n := i) rfl hml), hS]
  simp only []
  rw [bnd (ren_eq hs.m _)]
  cases hn : nar with
  | true =>
    subst hn
    have hk' : k.profile = 48862 := hk.2 rfl
    rw [if_neg (by rw [cm_neq, hk']; decide)]
    by_cases h14 : 14 < renS p L[i].2.id_
    · rw [if_pos (by rw [cm_gtr]; simpa using h14), if_pos ⟨rfl, h14⟩]; rfl
    · have hnar := hx.2.1 rfl
      unfold Nar at hnar
      have eat : ar .sub .i64 ((0 + (bodyP true (L.take i)).length + L[i].1 + ah true : Nat) : Int) 1 = (((bodyP true ((L.take i).map (newP p)) ++ List.replicate L[i].1 0).length : Nat) : Int) := by
        have : ah true = 1 := rfl
        rw [hPl, ar_sub, w_i64 (by omega) (by omega)]; omega
      have hh : hdr true L[i].2 = [16 * L[i].2.id_ + L[i].2.data.length - 1] := rfl
      have hix : ix (mixP true p L t i) (((bodyP true ((L.take i).map (newP p)) ++ List.replicate L[i].1 0).length : Nat) : Int) = some (16 * L[i].2.id_ + L[i].2.data.length - 1) := by
        rw [hsp, hh]
        have hlt : (bodyP true ((L.take i).map (newP p)) ++ List.replicate L[i].1 0).length < ((bodyP true ((L.take i).map (newP p)) ++ List.replicate L[i].1 0) ++ ([16 * L[i].2.id_ + L[i].2.data.length - 1] ++ (L[i].2.data ++ (bodyP true (L.drop (i + 1)) ++ t)))).length := by simp only [List.length_append, List.length_singleton]; omega
        rw [ix_some rfl hlt, List.getElem_append_right (Nat.le_refl _)]
        simp
      have hnew : hdr true (newS p L[i].2) = [16 * renS p L[i].2.id_ + L[i].2.data.length - 1] := by
        show [16 * renS p L[i].2.id_ + (datS p L[i].2).length - 1] = _
        rw [dat_len (hI.ok _ (List.getElem_mem hi))]
      rw [if_neg (by rw [cm_gtr]; simpa using h14), eat, bnd hix, bnd hix, or_nib (by omega) (by omega) (by omega) (by omega), if_neg (fun h => h14 h.2)]
      have eset : List.set (mixP true p L t i) ((((bodyP true ((L.take i).map (newP p)) ++ List.replicate L[i].1 0).length : Nat) : Int)).toNat (16 * renS p L[i].2.id_ + (16 * L[i].2.id_ + L[i].2.data.length - 1) % 16) = (bodyP true ((L.take i).map (newP p)) ++ List.replicate L[i].1 0) ++ (hdr true (newS p L[i].2) ++ (L[i].2.data ++ (bodyP true (L.drop (i + 1)) ++ t))) := by
        rw [Int.toNat_natCast, hsp, hh, hnew]
        have : 16 * renS p L[i].2.id_ + (16 * L[i].2.id_ + (L[i].2.data.length : Int) - 1) % 16 = 16 * renS p L[i].2.id_ + L[i].2.data.length - 1 := by omega
        rw [this]
        exact set_at _ _ _ _
      rw [eset]
      exact j2
  | false =>
    subst hn
    have hk' : k.profile ≠ 48862 := fun h => by have := hk.1 h; cases this
    rw [if_pos (by rw [cm_neq]; simpa using hk'), if_neg (fun h => by cases h.1)]
    have eat : ar .sub .i64 ((0 + (bodyP false (L.take i)).length + L[i].1 + ah false : Nat) : Int) 2 = (((bodyP false ((L.take i).map (newP p)) ++ List.replicate L[i].1 0).length : Nat) : Int) := by
      have : ah false = 2 := rfl
      rw [hPl, ar_sub, w_i64 (by omega) (by omega)]; omega
    have hh : hdr false L[i].2 = [L[i].2.id_, (L[i].2.data.length : Int)] := rfl
    have hix : ix (mixP false p L t i) (((bodyP false ((L.take i).map (newP p)) ++ List.replicate L[i].1 0).length : Nat) : Int) = some L[i].2.id_ := by
      rw [hsp, hh]
      have hlt : (bodyP false ((L.take i).map (newP p)) ++ List.replicate L[i].1 0).length < ((bodyP false ((L.take i).map (newP p)) ++ List.replicate L[i].1 0) ++ ([L[i].2.id_, (L[i].2.data.length : Int)] ++ (L[i].2.data ++ (bodyP false (L.drop (i + 1)) ++ t)))).length := by simp only [List.length_append, List.length_cons, List.length_nil]; omega
      rw [ix_some rfl hlt, List.getElem_append_right (Nat.le_refl _)]
      simp
    have hnew : hdr false (newS p L[i].2) = [renS p L[i].2.id_, (L[i].2.data.length : Int)] := by
      show [renS p L[i].2.id_, ((datS p L[i].2).length : Int)] = _
      rw [dat_len (hI.ok _ (List.getElem_mem hi))]
    rw [eat, bnd hix, w_u8 (by omega) (by omega)]
    have eset : List.set (mixP false p L t i) ((((bodyP false ((L.take i).map (newP p)) ++ List.replicate L[i].1 0).length : Nat) : Int)).toNat (renS p L[i].2.id_) = (bodyP false ((L.take i).map (newP p)) ++ List.replicate L[i].1 0) ++ (hdr false (newS p L[i].2) ++ (L[i].2.data ++ (bodyP false (L.drop (i + 1)) ++ t))) := by
      rw [Int.toNat_natCast, hsp, hh, hnew]
      exact set_at _ _ _ _
    rw [eset]
    exact j2

theorem inside_eq {nar : Bool} {k : Packet} {p : Plan} {L : List (Nat × Elem)} {t : List Int} (hk : k.profile = 48862 ↔ nar = true) (hs : SmallP p) (hI : InP nar p L) (hN : L.length ≤ 1000000) (hext : k.ext = bodyP nar L ++ t) (hbig : k.ext.length ≤ 400000) (hsp : elem_Spots none k.profile k.ext = some (mkP nar 0 L, 0)) :
    ∃ r, plan_inside none p k = some r ∧ (r.2 = true → r.1 = bodyP nar (L.map (newP p)) ++ t ∧ (nar = true → ∀ x, x ∈ L → renS p x.2.id_ ≤ 14)) := by
  unfold plan_inside
  rw [bnd hsp, bnd (clone_eq (by omega))]
  unfold plan_inside_l1
  have key : ∀ m i, i + m = L.length → (nar = true → ∀ x, x ∈ L.take i → renS p x.2.id_ ≤ 14) →
      ∃ r, loopG none (fun (s : List Int × Int × Plan) => plan_inside_s1 none k (mkP nar 0 L, 0) s.1 s.2.1 s.2.2) (mixP nar p L t i, (i : Int), p) = some r ∧ (r.2 = true → r.1 = bodyP nar (L.map (newP p)) ++ t ∧ (nar = true → ∀ x, x ∈ L → renS p x.2.id_ ≤ 14)) := by
    intro m
    induction m with
    | zero =>
      intro i hi hh
      have e : i = L.length := by omega
      subst e
      refine ⟨(mixP nar p L t L.length, true), loop_inr ?_, fun _ => ⟨?_, by rw [List.take_length] at hh; exact hh⟩⟩
      · show plan_inside_s1 none k (mkP nar 0 L, 0) _ _ p = _
        unfold plan_inside_s1
        rw [if_neg (by rw [cm_lss, mkP_len]; simp)]; rfl
      · unfold mixP
        rw [List.take_length, List.drop_length]
        rfl
    | succ m ih =>
      intro i hi hh
      have hil : i < L.length := by omega
      have hst := inside_step (t := t) hk hs hI hil hN (by rw [← hext]; exact hbig)
      by_cases hb : nar = true ∧ 14 < renS p L[i].2.id_
      · rw [if_pos hb] at hst
        exact ⟨([], false), loop_inr hst, fun h => by cases h⟩
      · rw [if_neg hb] at hst
        obtain ⟨r, h1, h2⟩ := ih (i + 1) (by omega) (fun hn x hx => by
          rw [snoc_take L i hil] at hx
          rcases List.mem_append.1 hx with hx | hx
          · exact hh hn x hx
          · rw [List.mem_singleton.1 hx]
            have : ¬ 14 < renS p L[i].2.id_ := fun h => hb ⟨hn, h⟩
            omega)
        exact ⟨r, (loop_inl hst).trans h1, h2⟩
  have := key L.length 0 (by omega) (fun _ x hx => by simp at hx)
  rw [hext]
  simpa [mixP, bodyP] using this
end Xb
