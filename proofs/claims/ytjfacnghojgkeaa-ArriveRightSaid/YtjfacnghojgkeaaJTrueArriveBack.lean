/- Own text: JTrueArriveBack. -/
import Derived.Test.YtjfacnghojgkeaaJArr5
import Derived.Test.YtjfacnghojgkeaaJTrueArriveWhen
set_option linter.all false
set_option linter.unusedVariables false
set_option linter.unusedSimpArgs false
set_option linter.unnecessarySimpa false
set_option linter.deprecated false
namespace Xb
open Go

theorem good_of {a : Arrive} (h : wf_Arrive a) : GoodA a := by
  have h1 := in_u16.1 h.1
  have h2 := in_u8.1 h.2.2.1
  exact ⟨h1.1, h1.2, h2.1, h2.2⟩

theorem read_back {a : Arrive} (hg : GoodA a) (hr : RightA a) : arrive_Read none (writeA a) = some (a, 0) := by
  have hbl := body_len hr
  have hw4 := write_len4 a
  rw [Read_eq (write_oct hg hr) (by omega)]
  unfold rdA
  rw [read_write hg hr]
theorem canon_back {a : Arrive} (hg : GoodA a) (hr : RightA a) : arrive_Canon none (writeA a) = some true := by
  have hbl := body_len hr
  have hw4 := write_len4 a
  rw [acanon_eq (write_oct hg hr) (by omega), (canon_write (write_oct hg hr) (read_write hg hr)).2 rfl]
theorem write_inj {a c : Arrive} (hg : GoodA a) (hr : RightA a) (hgc : GoodA c) (hrc : RightA c) (h : writeA a = writeA c) : a = c := by
  have h1 := read_write hg hr
  rw [h, read_write hgc hrc] at h1
  cases h1; rfl

theorem back_j1 {b : List Int} (hb : oct b) (hl : b.length ≤ 70000) : law19_ArriveBack_j1 none b = some true := by
  unfold law19_ArriveBack_j1
  rw [bnd (Read_eq hb (by omega))]
  have hbe : ∀ a b : Bool, (a = true ↔ b = true) → bq .eql a b = true := by intro a b; cases a <;> cases b <;> simp [bq]
  cases hr : readA b with
  | error e =>
    have he := readA_err hr
    have e1 : rdA b = (zeroA, [], [], e) := by unfold rdA; rw [hr]
    have c : cm .neq e 0 = true := by rw [cm_neq]; simpa using he
    rw [e1]
    simp only [c, if_true]
    rw [bnd (same_eq (by show ([] : List Seen).length ≤ _; simp)), decide_eq_true (show zeroA = Arrive.mk 0 0 0 [] from rfl)]
    simp only [gTT]
    rw [bnd (acanon_eq hb (by omega))]
    have : canonS b = false := by unfold canonS; rw [hr]
    rw [this]; rfl
  | ok p =>
    obtain ⟨a, u, n⟩ := p
    obtain ⟨k1, k2, k3, k4, k5, k6⟩ := read_ok hb hr
    have hc := k4.2.2.1
    have e1 : rdA b = (a, (csA b).take u, (b.drop (8 + 2 * u)).drop n, 0) := by unfold rdA; rw [hr]
    have c0 : cm .neq (0 : Int) 0 = false := by decide
    have c1 : cm .eql (0 : Int) 0 = true := by decide
    rw [e1]
    simp only [c0, Bool.false_eq_true, if_false]
    rw [bnd (awrite_eq k5 (by omega)), if_pos k4]
    simp only []
    rw [bnd (read_back k5 k4)]
    simp only [c1, Bool.and_self, gTT]
    rw [bnd (right_eq (by omega)), decide_eq_true k4]
    simp only [Bool.and_self, gTT]
    rw [bnd (same_eq (by omega)), decide_eq_true (show a = a from rfl)]
    simp only [Bool.and_self, gTT]
    rw [bnd (acanon_eq hb (by omega)), sc_b2s (write_oct k5 k4) hb, Bool.true_and]
    congr 1
    refine hbe _ _ ?_
    rw [canon_write hb hr, decide_eq_true_iff (p := writeA a = b)]

theorem arriveBack_true {a c : Arrive} {b : List Int} (ha : wf_Arrive a) (hc : wf_Arrive c) (hb : b.length ≤ maxLen ∧ ∀ x, x ∈ b → inK .u8 x) : law19_ArriveBack none a c b = some true := by
  have ho : oct b := fun x hx => in_u8.1 (hb.2 x hx)
  have hga := good_of ha
  have hgc := good_of hc
  unfold law19_ArriveBack
  by_cases h : a.seen.length ≤ 5000 ∧ c.seen.length ≤ 5000 ∧ b.length ≤ 70000
  · obtain ⟨h1, h2, h3⟩ := h
    have fin := back_j1 ho h3
    rw [if_neg (by rw [cm_gtr, cm_gtr, cm_gtr]; simp; omega), bnd (awrite_eq hga (by omega)), bnd (awrite_eq hgc (by omega))]
    have c0 : cm .neq (0 : Int) 0 = false := by decide
    have c1 : cm .eql (0 : Int) 0 = true := by decide
    have c5 : cm .eql (1 : Int) 0 = false := by decide
    by_cases hr : RightA a
    · rw [if_pos hr]
      simp only [c1, if_true]
      rw [bnd (read_back hga hr)]
      simp only [c0, Bool.not_false, gTT]
      rw [bnd (same_eq (by omega)), decide_eq_true (show a = a from rfl)]
      simp only [Bool.not_true, Bool.or_self, Bool.not_false, gTT]
      rw [bnd (canon_back hga hr)]
      have c4 : cm .neq (dv .rem .i64 ((writeA a).length : Int) 4) 0 = false := by
        have := (write_len4 a).1
        rw [dv_rem (by omega), cm_neq]
        have : ((writeA a).length : Int) % 4 = 0 := by omega
        simp [this]
      simp only [c4, Bool.not_true, Bool.or_self, Bool.not_false, Bool.true_and, Bool.false_or]
      by_cases hrc : RightA c
      · rw [if_pos hrc]
        simp only [c1, gTT]
        rw [bnd (same_eq (by omega)), sc_b2s (write_oct hga hr) (write_oct hgc hrc), Bool.true_and]
        have hbq : bq .neq (decide (writeA a = writeA c)) (decide (a = c)) = false := by
          by_cases he : a = c
          · subst he; simp [bq]
          · rw [decide_eq_false he, decide_eq_false fun hh => he (write_inj hga hr hgc hrc hh)]; rfl
        rw [hbq, if_neg (by decide)]
        exact fin
      · rw [if_neg hrc]
        simp only [c5, gTF, Option.bind_some, Bool.false_and]
        rw [if_neg (by decide)]
        exact fin
    · rw [if_neg hr]
      simp only [c5]
      rw [if_neg (by decide)]
      exact fin
  · rw [if_pos (by rw [cm_gtr, cm_gtr, cm_gtr]; simp; omega)]
end Xb
