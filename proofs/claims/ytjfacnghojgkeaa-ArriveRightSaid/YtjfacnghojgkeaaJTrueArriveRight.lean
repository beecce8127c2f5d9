/- Own text: JTrueArriveRight. -/
import Derived.Test.YtjfacnghojgkeaaJArr8
import Derived.Test.YtjfacnghojgkeaaJTrueArriveBack
set_option linter.all false
set_option linter.unusedVariables false
set_option linter.unusedSimpArgs false
set_option linter.unnecessarySimpa false
set_option linter.deprecated false
namespace Xb
open Go

theorem right_j1 {a : Arrive} {b : List Int} {nth : Int} (hl : a.seen.length ≤ 5000) (hb : oct b) (hbl : b.length ≤ 70000) (hn : inK .i64 nth) : law19_ArriveRight_j1 none a b nth (decide (RightA a)) = some true := by
  have c1 : ∀ x : Int, cm .eql x x = true := fun x => by rw [cm_eql]; simp
  have b1 : ∀ x : Bool, bq .eql x x = true := by decide
  have hlen : (rdA b).1.seen.length ≤ 5000 := by
    unfold rdA
    cases hr : readA b with
    | error e => show ([] : List Seen).length ≤ _; simp
    | ok p =>
      obtain ⟨a, u, n⟩ := p
      obtain ⟨k1, k2, k3, k4, k5, k6⟩ := read_ok hb hr
      have := k4.2.2.1
      show a.seen.length ≤ _
      omega
  unfold law19_ArriveRight_j1
  rw [bnd (Read_eq hb (by omega)), bnd (rread19_eq hb (by omega)), bnd (when_eq (by omega)), bnd (rwhen_eq (by omega) hn), bnd (right_eq (by omega))]
  unfold rdX
  simp only [c1, b1, Bool.and_self, gTT]
  rw [bnd (same_eq (by omega))]
  simp only [decide_true, Bool.and_self, gTT]
  rw [bnd (acanon_eq hb (by omega)), bnd (rcanon19_eq hb hbl)]
  simp only [b1, Bool.and_self]

theorem arriveRight_true {a : Arrive} {b : List Int} {nth : Int} (ha : wf_Arrive a) (hb : b.length ≤ maxLen ∧ ∀ x, x ∈ b → inK .u8 x) (hn : inK .i64 nth) : law19_ArriveRight none a b nth = some true := by
  have ho : oct b := fun x hx => in_u8.1 (hb.2 x hx)
  have hg := good_of ha
  unfold law19_ArriveRight
  by_cases h : a.seen.length ≤ 5000 ∧ b.length ≤ 70000
  · obtain ⟨h1, h2⟩ := h
    have fin := right_j1 (nth := nth) h1 ho h2 hn
    rw [if_neg (by rw [cm_gtr, cm_gtr]; simp; omega), bnd (rright_eq (by omega)), bnd (awrite_eq hg (by omega))]
    by_cases hr : RightA a
    · rw [decide_eq_true hr] at fin ⊢
      have c0 : cm .neq (0 : Int) 0 = false := by decide
      rw [if_pos rfl, if_pos hr]
      simp only [c0, Bool.not_false, gTT]
      have hs : sc .neq (b2s (writeA a)) (b2s (writeA a)) = false := by simp [sc]
      rw [bnd (rwriteA_eq hg hr), hs, if_neg (by decide)]
      exact fin
    · rw [decide_eq_false hr] at fin ⊢
      rw [if_neg (by decide), if_neg hr, if_neg (by decide)]
      exact fin
  · rw [if_pos (by rw [cm_gtr, cm_gtr]; simp; omega)]
end Xb
