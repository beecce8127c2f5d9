/- Own text: KTrueElemBack. -/
import Derived.Test.YtcdhafhamjinlaaKTrueElemRight
set_option linter.all false
set_option linter.unusedVariables false
set_option linter.unusedSimpArgs false
set_option linter.unnecessarySimpa false
set_option linter.deprecated false
namespace Xb
open Go

theorem write_len {l : List Elem} (hr : RightL l) : (writeL l).length ≤ 80000 ∧ (writeL l).length % 4 = 0 := by
  have h1 := right_len hr
  have h2 := bodyL_len (nar := narB l) (l := l) fun e he => by have := hr.1 e he; unfold FitE at this; omega
  have h3 : (writeL l).length = (bodyL (narB l) l).length + fillN (bodyL (narB l) l).length := by unfold writeL fill4; simp
  rw [h3]
  have : fillN (bodyL (narB l) l).length ≤ 3 := by unfold fillN; omega
  have : 402 * l.length ≤ 80000 ∨ True := .inr trivial
  refine ⟨?_, by unfold fillN; omega⟩
  have h4 : (bodyL (narB l) l).length ≤ 257 * l.length := by
    have key : ∀ (m : List Elem), (∀ e, e ∈ m → e.data.length ≤ 255) → (bodyL (narB l) m).length ≤ 257 * m.length := by
      intro m
      induction m with
      | nil => intro _; simp [bodyL]
      | cons a m ih =>
        intro h
        have := ih fun e he => h e (by simp [he])
        have := h a (by simp)
        simp only [bodyL, List.flatMap_cons, List.length_append, encE, hdr_len, List.length_cons] at *
        split <;> omega
    exact key l fun e he => by have := hr.1 e he; unfold FitE at this; omega
  omega
theorem prof_in (l : List Elem) : 0 ≤ profS l ∧ profS l ≤ 65535 := by
  unfold profS
  split
  · split <;> omega
  · omega

theorem read_back {l : List Elem} (hg : GoodE l) (hr : RightL l) : elem_Read none (profS l) (writeL l) = some (l, 0) := by
  have := (write_len hr).1
  rw [eread_eq (prof_in l).1 (prof_in l).2 (writeL_oct hg hr) (by omega), read_write hr]
theorem canon_back {l : List Elem} (hg : GoodE l) (hr : RightL l) : elem_Canon none (profS l) (writeL l) = some true := by
  have := (write_len hr).1
  rw [ecanon_eq (prof_in l).1 (prof_in l).2 (writeL_oct hg hr) (by omega)]
  congr 1
  have hrw := read_write hr
  have he : (spotsS (profS l) (writeL l)).2 = 0 := congrArg Prod.snd hrw
  rw [canon_iff (writeL_oct hg hr) he, hrw]
  exact ⟨rfl, rfl⟩

theorem eb_j1 {p : Int} {data : List Int} (h0 : 0 ≤ p) (h1 : p ≤ 65535) (hb : oct data) (hl : data.length ≤ 3000) : law08_ElemBack_j1 none p data = some true := by
  have hr := right_read (p := p) hb
  have hg := good_read (p := p) hb
  have hs := short_read' (p := p) hb
  have hsn := hs.1
  unfold law08_ElemBack_j1
  rw [bnd (eread_eq h0 h1 hb (by omega))]
  have e2 : (readS p data).2 = (spotsS p data).2 := rfl
  by_cases he : (spotsS p data).2 = 0
  · have c0 : cm .neq (readS p data).2 0 = false := by rw [cm_neq, e2]; simp [he]
    have c1 : cm .eql (0 : Int) 0 = true := by decide
    rw [c0, if_neg (by decide), bnd (ewrite_eq hs), if_pos hr]
    simp only []
    rw [bnd (read_back hg hr)]
    simp only [c1, Bool.and_self, gTT]
    rw [bnd (eright_eq (by omega)), decide_eq_true hr]
    simp only [Bool.and_self, gTT]
    rw [bnd (sameE_eq hg hg (by omega))]
    simp only [decide_true, Bool.and_self, gTT]
    rw [bnd (ecanon_eq h0 h1 hb (by omega)), sc_b2s (writeL_oct hg hr) hb, cm_eql, Bool.true_and]
    congr 1
    have := canon_iff (p := p) hb he
    have hbe : ∀ a b : Bool, (a = true ↔ b = true) → bq .eql a b = true := by intro a b; cases a <;> cases b <;> simp [bq]
    refine hbe _ _ ?_
    rw [this]
    simp only [Bool.and_eq_true, decide_eq_true_eq]
  · have c0 : cm .neq (readS p data).2 0 = true := by rw [cm_neq, e2]; simp [he]
    have hnil : (readS p data).1 = [] := by unfold readS; rw [(spotsS_inv (p := p) hb).2.2 he]; rfl
    rw [c0, if_pos rfl, hnil]
    have c1 : cm .eql ((([] : List Elem).length : Nat) : Int) 0 = true := by decide
    simp only [c1, gTT]
    rw [bnd (ecanon_eq h0 h1 hb (by omega))]
    have : canonE p data = false := by unfold canonE; rw [decide_eq_false he, Bool.false_and]
    rw [this]; rfl

/-- unlike ones are written otherwise -/
theorem write_inj {l m : List Elem} (hl : RightL l) (hm : RightL m) (hp : profS l = profS m) (hw : writeL l = writeL m) : l = m := by
  have h1 := read_write hl
  have h2 := read_write hm
  rw [hp, hw, h2] at h1
  exact (congrArg Prod.fst h1).symm

theorem elemBack_true {l m : List Elem} {p : Int} {data : List Int} (hl : l.length ≤ maxLen ∧ ∀ x, x ∈ l → wf_Elem x) (hm : m.length ≤ maxLen ∧ ∀ x, x ∈ m → wf_Elem x) (hp : inK .u16 p) (hd : data.length ≤ maxLen ∧ ∀ x, x ∈ data → inK .u8 x) :
    law08_ElemBack none l m p data = some true := by
  have hb := octs hd
  have hgl := goodE_of hl
  have hgm := goodE_of hm
  have hp' := in_u16.1 hp
  have hmax : maxLen ≤ 9223372036854775807 := by decide
  unfold law08_ElemBack
  rw [bnd (short_eq (by omega))]
  by_cases h : ShortL l ∧ ShortL m ∧ data.length ≤ 3000
  · obtain ⟨hsl, hsm, hdl⟩ := h
    have h1 := hsl.1; have h2 := hsm.1
    have fin := eb_j1 (p := p) (data := data) hp'.1 hp'.2 hb hdl
    rw [decide_eq_true hsl]
    simp only [Bool.not_true, Bool.not_false, gTT]
    rw [bnd (short_eq (by omega)), decide_eq_true hsm, if_neg (by rw [cm_gtr]; simp; omega), bnd (ewrite_eq hsl), bnd (ewrite_eq hsm)]
    by_cases hr : RightL l
    · have c1 : cm .eql (0 : Int) 0 = true := by decide
      have c0 : cm .neq (0 : Int) 0 = false := by decide
      rw [if_pos hr]
      simp only [c1]
      rw [if_pos trivial, bnd (read_back hgl hr)]
      simp only [c0, Bool.not_false, gTT]
      rw [bnd (sameE_eq hgl hgl (by omega))]
      simp only [decide_true, Bool.not_true, Bool.or_self, Bool.not_false, gTT]
      rw [bnd (canon_back hgl hr)]
      have c4 : cm .neq (dv .rem .i64 ((writeL l).length : Int) 4) 0 = false := by
        have := (write_len hr).2
        rw [dv_rem (by omega), cm_neq]
        have : ((writeL l).length : Int) % 4 = 0 := by omega
        simp [this]
      simp only [c4, Bool.not_true, Bool.or_self]
      rw [if_neg (by decide)]
      by_cases hrm : RightL m
      · rw [if_pos hrm]
        simp only [c1, gTT]
        rw [bnd (sameE_eq hgl hgm (by omega)), sc_b2s (writeL_oct hgl hr) (writeL_oct hgm hrm), cm_eql, Bool.true_and]
        have hbq : bq .neq (decide (profS l = profS m) && decide (writeL l = writeL m)) (decide (l = m)) = false := by
          by_cases he : l = m
          · subst he; simp [bq]
          · rw [decide_eq_false he]
            have : (decide (profS l = profS m) && decide (writeL l = writeL m)) = false := by
              rw [Bool.eq_false_iff]
              intro hh
              simp only [Bool.and_eq_true, decide_eq_true_eq] at hh
              exact he (write_inj hr hrm hh.1 hh.2)
            rw [this]; rfl
        rw [hbq, if_neg (by decide)]
        exact fin
      · rw [if_neg hrm]
        have c5 : cm .eql (1 : Int) 0 = false := by decide
        simp only [c5, gTF, Option.bind_some, Bool.false_and]
        rw [if_neg (by decide)]
        exact fin
    · rw [if_neg hr]
      have c5 : cm .eql (1 : Int) 0 = false := by decide
      simp only [c5]
      rw [if_neg (by decide)]
      exact fin
  · by_cases h1 : ShortL l
    · rw [decide_eq_true h1]
      simp only [Bool.not_true, Bool.not_false, gTT]
      rw [bnd (short_eq (by omega)), if_pos (by
        rw [cm_gtr]
        by_cases h2 : ShortL m
        · have : ¬ data.length ≤ 3000 := fun h3 => h ⟨h1, h2, h3⟩
          rw [decide_eq_true h2]; simp; omega
        · rw [decide_eq_false h2]; rfl)]
    · rw [decide_eq_false h1]
      simp only [Bool.not_false, Bool.not_true, gTF, Option.bind_some, Bool.true_or]
      rw [if_pos trivial]
end Xb
