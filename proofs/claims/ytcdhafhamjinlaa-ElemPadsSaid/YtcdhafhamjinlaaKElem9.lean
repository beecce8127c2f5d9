/- Own text: KElem9. -/
import Derived.Test.YtcdhafhamjinlaaKElem8
set_option linter.all false
set_option linter.unusedVariables false
set_option linter.unusedSimpArgs false
set_option linter.unnecessarySimpa false
set_option linter.deprecated false
namespace Xb
open Go

theorem cont_mk {nar : Bool} : ∀ (l : List Elem) (pos : Nat) (f : Bool), contG (ah nar) (pos : Int) f (mkSpots nar pos l) = some (((pos + (bodyL nar l).length : Nat) : Int), f && l.all fun e => ((decide (e.id_ ≤ 14) && decide (1 ≤ (e.data.length : Int))) && decide ((e.data.length : Int) ≤ 16)))
  | [], pos, f => by simp [mkSpots, contG, bodyL]
  | e :: l, pos, f => by
    have hlen : (bodyL nar (e :: l)).length = ah nar + e.data.length + (bodyL nar l).length := by
      simp only [bodyL, List.flatMap_cons, List.length_append, encE, hdr_len, ah]
    simp only [mkSpots, contG]
    rw [if_pos (by omega)]
    have e1 : ((pos + ah nar : Nat) : Int) + (e.data.length : Int) = ((pos + ah nar + e.data.length : Nat) : Int) := by omega
    rw [e1, cont_mk l, hlen]
    congr 2
    · omega
    · simp only [List.all_cons, Bool.and_assoc]

theorem all_nar (l : List Elem) : (l.all fun e => ((decide (e.id_ ≤ 14) && decide (1 ≤ (e.data.length : Int))) && decide ((e.data.length : Int) ≤ 16))) = narB l := by
  rw [Bool.eq_iff_iff]
  unfold narB
  rw [decide_eq_true_iff (p := NarL l), List.all_eq_true]
  unfold NarL Nar
  constructor
  · intro h e he
    have := h e he
    simp only [Bool.and_eq_true, decide_eq_true_eq] at this
    omega
  · intro h e he
    have := h e he
    simp only [Bool.and_eq_true, decide_eq_true_eq]
    omega

theorem cont_body {nar : Bool} {data : List Int} : ∀ (L : List Spot) (e : Nat) (f f' : Bool) (E : Int), (∀ s, s ∈ L → HdS nar data s) → contG (ah nar) (e : Int) f L = some (E, f') → e ≤ data.length →
    (e : Int) ≤ E ∧ E ≤ data.length ∧ data.drop e = bodyL nar (L.map (elemAt data)) ++ data.drop E.toNat ∧ f' = (f && narB (L.map (elemAt data)))
  | [], e, f, f', E, _, h, hle => by
    simp only [contG, Option.some.injEq, Prod.mk.injEq] at h
    obtain ⟨rfl, rfl⟩ := h
    refine ⟨by omega, by omega, by simp [bodyL], ?_⟩
    rw [← all_nar]; simp
  | s :: L, e, f, f', E, hS, h, hle => by
    simp only [contG] at h
    split at h
    · rename_i hat
      obtain ⟨a, q, h1, h2, h3, h4, h5, h6⟩ := (hS s (by simp)).ex
      have hae : a = e + ah nar := by omega
      have hnx : s.at_ + s.size = ((a + q : Nat) : Int) := by omega
      rw [hnx] at h
      obtain ⟨g1, g2, g3, g4⟩ := cont_body L (a + q) _ f' E (fun y hy => hS y (by simp [hy])) h h4
      have hd : (elemAt data s).data = (data.drop a).take q := by unfold elemAt; rw [h1, h2]; simp
      have hdl : (elemAt data s).data.length = q := by rw [hd, List.length_take, List.length_drop]; omega
      have hid : (elemAt data s).id_ = s.id_ := rfl
      refine ⟨by omega, g2, ?_, ?_⟩
      · have e0 : a - ah nar = e := by omega
        rw [e0] at h5
        rw [h5]
        have e2 : data.drop a = (elemAt data s).data ++ data.drop (a + q) := by
          rw [hd, ← List.drop_drop, List.take_append_drop]
        rw [e2, g3]
        simp only [bodyL, List.map_cons, List.flatMap_cons, encE, hdr, hid, hdl, List.append_assoc]
      · rw [g4, ← all_nar, ← all_nar]
        simp only [List.map_cons, List.all_cons, hid, hdl, h2, Bool.and_assoc]
    · cases h

theorem right_read {p : Int} {data : List Int} (hb : oct data) : RightL (readS p data).1 := by
  obtain ⟨i1, i2, i3⟩ := spotsS_inv (p := p) hb
  refine ⟨fun e he => ?_, ?_⟩
  · obtain ⟨s, hs, rfl⟩ := List.mem_map.1 he
    obtain ⟨a, q, h1, h2, h3, h4, h5, h6, h7, h8, h9⟩ := (i1 s hs).ex
    refine ⟨h6, h7, ?_⟩
    show ((data.drop s.at_.toNat).take s.size.toNat).length ≤ 255
    rw [List.length_take, h2]; omega
  · show (((spotsS p data).1.map (elemAt data)).map (·.id_)).Nodup
    rw [List.map_map]
    exact i2
theorem good_read {p : Int} {data : List Int} (hb : oct data) : GoodE (readS p data).1 := ⟨fun e he => by
  obtain ⟨s, hs, rfl⟩ := List.mem_map.1 he
  intro x hx
  exact hb x (List.mem_of_mem_drop (List.mem_of_mem_take hx))⟩

theorem canon_iff {p : Int} {data : List Int} (hb : oct data) (he : (spotsS p data).2 = 0) : canonE p data = true ↔ profS (readS p data).1 = p ∧ writeL (readS p data).1 = data := by
  obtain ⟨i1, i2, i3⟩ := spotsS_inv (p := p) hb
  have hr := right_read (p := p) hb
  unfold canonE
  rw [decide_eq_true he, Bool.true_and]
  constructor
  · intro h
    simp only [Bool.and_eq_true, decide_eq_true_eq] at h
    obtain ⟨hp, h4, ht⟩ := h
    unfold tailS at ht
    cases hc : contG (ah (narP p)) 0 true (spotsS p data).1 with
    | none => rw [hc] at ht; cases ht
    | some r =>
      obtain ⟨E, f⟩ := r
      rw [hc] at ht
      simp only [Bool.and_eq_true, decide_eq_true_eq] at ht
      obtain ⟨hf, hlt, hz⟩ := ht
      obtain ⟨g1, g2, g3, g4⟩ := cont_body (spotsS p data).1 0 true f E i1 hc (by omega)
      have hl : (spotsS p data).1.map (elemAt data) = (readS p data).1 := rfl
      rw [hl] at g3 g4
      rw [Bool.true_and, hf] at g4
      have hnb : narB (readS p data).1 = narP p := g4.symm
      refine ⟨?_, ?_⟩
      · have := prof_nar hr
        rw [hnb, cm_eql] at this
        unfold narP at this
        unfold profS at this ⊢
        rw [if_pos hr] at this ⊢
        have h2 := decide_eq_decide.1 this
        split at h2
        · rw [if_pos ‹_›]; omega
        · rw [if_neg ‹_›]; omega
      · unfold writeL fill4
        rw [hnb]
        rw [List.drop_zero] at g3
        have hlen := congrArg List.length g3
        rw [List.length_append, List.length_drop] at hlen
        conv => rhs; rw [g3]
        congr 1
        symm
        refine List.eq_replicate_iff.2 ⟨?_, hz⟩
        rw [List.length_drop]
        unfold fillN
        omega
  · rintro ⟨hp, hw⟩
    have hsp := spots_write hr (List.replicate (fillN (bodyL (narB (readS p data).1) (readS p data).1).length) (0 : Int))
    have e : bodyL (narB (readS p data).1) (readS p data).1 ++ List.replicate (List.replicate (fillN (bodyL (narB (readS p data).1) (readS p data).1).length) (0 : Int)).length 0 = data := by
      rw [List.length_replicate]; exact hw
    rw [e, hp] at hsp
    have hnp := narP_prof hr
    rw [hp] at hnp
    have hfl : data.length = (bodyL (narB (readS p data).1) (readS p data).1).length + fillN (bodyL (narB (readS p data).1) (readS p data).1).length := by
      have := congrArg List.length e
      simp at this; omega
    have hp2 : p = 48862 ∨ p = 4096 := by
      unfold profS at hp
      rw [if_pos hr] at hp
      split at hp <;> omega
    rw [decide_eq_true hp2, Bool.true_and]
    have h4 : data.length % 4 = 0 := by rw [hfl]; unfold fillN; omega
    rw [decide_eq_true h4, Bool.true_and, hsp, hnp]
    have hc := cont_mk (nar := narB (readS p data).1) (readS p data).1 0 true
    simp only [Int.natCast_zero, Nat.zero_add] at hc
    have hc' : contG (ah (narB (readS p data).1)) 0 true (mkSpots (narB (readS p data).1) 0 (readS p data).1) = some (((bodyL (narB (readS p data).1) (readS p data).1).length : Int), true && narB (readS p data).1) := by
      rw [all_nar] at hc; exact hc
    rw [hc']
    unfold tailS
    simp only [Bool.true_and, decide_true, Bool.and_eq_true, decide_eq_true_eq, Int.toNat_natCast]
    refine ⟨by rw [hfl]; unfold fillN; omega, fun y hy => ?_⟩
    have hdr := congrArg (List.drop (bodyL (narB (readS p data).1) (readS p data).1).length) e
    rw [List.drop_left] at hdr
    rw [← hdr] at hy
    exact List.eq_of_mem_replicate hy
end Xb
