/- Own text: KTrueElemRight. -/
import Derived.Test.YtcdhafhamjinlaaKElem9
set_option linter.all false
set_option linter.unusedVariables false
set_option linter.unusedSimpArgs false
set_option linter.unnecessarySimpa false
set_option linter.deprecated false
namespace Xb
open Go

theorem octs {l : List Int} (h : l.length ≤ maxLen ∧ ∀ x, x ∈ l → inK .u8 x) : oct l := fun x hx => in_u8.1 (h.2 x hx)
theorem goodE_of {l : List Elem} (h : l.length ≤ maxLen ∧ ∀ x, x ∈ l → wf_Elem x) : GoodE l := ⟨fun e he => octs (h.2 e he).2⟩
theorem len_read {p : Int} {data : List Int} : (readS p data).1.length ≤ data.length := by
  unfold readS
  rw [List.length_map]
  exact spotsS_len
theorem short_read {p : Int} {data : List Int} (hb : oct data) (hl : (readS p data).1.length ≤ 300) : ShortL (readS p data).1 :=
  ⟨hl, fun e he => by have := (right_read (p := p) hb).1 e he; unfold FitE at this; omega⟩
/-- no two alike of 255: not more than 255 -/
theorem right_len {l : List Elem} (h : RightL l) : l.length ≤ 255 := by
  have h2 : l.map (·.id_) ⊆ (List.range 255).map (fun n : Nat => ((n : Int) + 1)) := by
    intro x hx
    obtain ⟨a, ha, rfl⟩ := List.mem_map.1 hx
    have h1 := h.1 a ha
    unfold FitE at h1
    exact List.mem_map.2 ⟨a.id_.toNat - 1, List.mem_range.2 (by omega), by omega⟩
  have := List.Nodup.length_le_of_subset h.2 h2
  simpa using this
theorem short_read' {p : Int} {data : List Int} (hb : oct data) : ShortL (readS p data).1 :=
  short_read hb (by have := right_len (right_read (p := p) hb); omega)

theorem rcanon_eq {p : Int} {data : List Int} (h0 : 0 ≤ p) (h1 : p ≤ 65535) (hb : oct data) (hl : data.length ≤ 100000) : ref08_Canon none p data = some (canonE p data) := by
  have hr := right_read (p := p) hb
  have hs := short_read' (p := p) hb
  have hlen := len_read (p := p) (data := data)
  unfold ref08_Canon
  rw [bnd (rread_eq h0 h1 hb hl)]
  have e2 : (readS p data).2 = (spotsS p data).2 := rfl
  by_cases he : (spotsS p data).2 = 0
  · have c0 : cm .eql (readS p data).2 0 = true := by rw [cm_eql, e2]; simpa using he
    rw [c0, gTT, bnd (rprof_eq (by omega)), Bool.true_and]
    have hiff := canon_iff (p := p) hb he
    by_cases hp : profS (readS p data).1 = p
    · have c1 : cm .eql (profS (readS p data).1) p = true := by rw [cm_eql]; simpa using hp
      rw [c1, gTT, bnd (rwrite_eq hr hs), sc_b2s (writeL_oct (good_read hb) hr) hb, Bool.true_and]
      congr 1
      rw [Bool.eq_iff_iff, decide_eq_true_iff, hiff]
      exact ⟨fun h => ⟨hp, h⟩, fun h => h.2⟩
    · have c1 : cm .eql (profS (readS p data).1) p = false := by rw [cm_eql]; simpa using hp
      rw [c1, gTF, Option.bind_some, Bool.false_and]
      congr 1
      symm
      rw [Bool.eq_false_iff]
      exact fun h => hp (hiff.1 h).1
  · have c0 : cm .eql (readS p data).2 0 = false := by rw [cm_eql, e2]; simpa using he
    rw [c0, gTF, Option.bind_some, Bool.false_and, gTF, Option.bind_some, Bool.false_and]
    congr 1
    symm
    unfold canonE
    rw [decide_eq_false he, Bool.false_and]

theorem er_j1 {l : List Elem} {p : Int} {data : List Int} (hs : ShortL l) (h0 : 0 ≤ p) (h1 : p ≤ 65535) (hb : oct data) (hl : data.length ≤ 100000) : law08_ElemRight_j1 none l p data = some true := by
  have hlen := len_read (p := p) (data := data)
  have hsl := spotsS_len (p := p) (data := data)
  have hsn := hs.1
  unfold law08_ElemRight_j1
  have c1 : cm .neq (readS p data).2 (readS p data).2 = false := by rw [cm_neq]; simp
  have c2 : cm .neq (spotsS p data).2 (spotsS p data).2 = false := by rw [cm_neq]; simp
  have c3 : cm .neq ((spotsS p data).1.length : Int) ((spotsS p data).1.length : Int) = false := by rw [cm_neq]; simp
  rw [bnd (eread_eq h0 h1 hb hl), bnd (rread_eq h0 h1 hb hl), bnd (espots_eq h0 h1 hb hl), bnd (rspots_eq h0 h1 hb hl), c1, c2, c3]
  simp only [Bool.not_false, gTT]
  rw [bnd (sameE_eq (good_read hb) (good_read hb) (by omega))]
  simp only [decide_true, Bool.not_true, Bool.or_self, Bool.false_eq_true, if_false]
  unfold law08_ElemRight_l2
  have := loop_seq (step := fun s => law08_ElemRight_s2 none l p data (spotsS p data) (spotsS p data) s) (r := true) (fun i => (i : Int)) (spotsS p data).1.length (fun i hi => by
    show law08_ElemRight_s2 none l p data (spotsS p data) (spotsS p data) (i : Int) = _
    unfold law08_ElemRight_s2
    rw [if_pos (by rw [cm_lss]; simpa using hi), bnd (ix_some (n := i) rfl hi), bnd (ix_some (n := i) rfl hi), if_neg (by simp), ar_add, w_i64 (by omega) (by omega)]
    rfl) (by
    show law08_ElemRight_s2 none l p data (spotsS p data) (spotsS p data) _ = _
    unfold law08_ElemRight_s2
    have hbq : ∀ b : Bool, bq .eql b b = true := by intro b; cases b <;> rfl
    have hce : ∀ x : Int, cm .eql x x = true := by intro x; rw [cm_eql]; simp
    rw [if_neg (by rw [cm_lss]; simp), bnd (eright_eq (by omega)), bnd (rright_eq (by omega)), hbq, gTT, bnd (eprof_eq (by omega)), gTT, bnd (rprof_eq (by omega)), hce, Bool.true_and, gTT, bnd (ecanon_eq h0 h1 hb hl), gTT, bnd (rcanon_eq h0 h1 hb hl), hbq]
    rfl)
  simpa using this

theorem elemRight_true {l : List Elem} {p : Int} {data : List Int} (hl : l.length ≤ maxLen ∧ ∀ x, x ∈ l → wf_Elem x) (hp : inK .u16 p) (hd : data.length ≤ maxLen ∧ ∀ x, x ∈ data → inK .u8 x) : law08_ElemRight none l p data = some true := by
  have hb := octs hd
  have hg := goodE_of hl
  have hp' := in_u16.1 hp
  have hmax : maxLen ≤ 9223372036854775807 := by decide
  unfold law08_ElemRight
  rw [bnd (short_eq (by omega))]
  by_cases h : ShortL l ∧ data.length ≤ 3000
  · have hs := h.1
    have hsn := hs.1
    have fin := er_j1 (l := l) (p := p) (data := data) hs hp'.1 hp'.2 hb (by omega)
    rw [decide_eq_true hs, if_neg (by rw [cm_gtr]; simp; omega), bnd (ewrite_eq hs), bnd (rright_eq (by omega))]
    by_cases hr : RightL l
    · have c0 : cm .neq (0 : Int) 0 = false := by decide
      have c1 : cm .neq (profS l) (profS l) = false := by rw [cm_neq]; simp
      rw [if_pos hr, decide_eq_true hr, if_pos rfl]
      simp only [c0, Bool.not_false, gTT]
      rw [bnd (rprof_eq (by omega))]
      simp only [c1, Bool.or_self, Bool.not_false, gTT]
      rw [bnd (rwrite_eq hr hs)]
      have c3 : sc .neq (b2s (writeL l)) (b2s (writeL l)) = false := by simp [sc]
      rw [c3, if_neg (by decide)]
      exact fin
    · rw [if_neg hr, decide_eq_false hr, if_neg (by decide)]
      have c1 : cm .neq (1 : Int) 1 = false := by decide
      have c2 : cm .neq (([] : List Int).length : Int) 0 = false := by decide
      have c3 : cm .neq (0 : Int) 0 = false := by decide
      simp only [c1, c2, c3]
      rw [if_neg (by decide)]
      exact fin
  · rw [if_pos (by
      rw [cm_gtr]
      by_cases h1 : ShortL l
      · have : ¬ data.length ≤ 3000 := fun h2 => h ⟨h1, h2⟩
        rw [decide_eq_true h1]; simp; omega
      · rw [decide_eq_false h1]; rfl)]
end Xb
