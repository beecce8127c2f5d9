/- Own text: KElem8. -/
import Derived.Test.YtcdhafhamjinlaaKElem7
set_option linter.all false
set_option linter.unusedVariables false
set_option linter.unusedSimpArgs false
set_option linter.unnecessarySimpa false
set_option linter.deprecated false
namespace Xb
open Go

def contG (a : Int) : Int → Bool → List Spot → Option (Int × Bool)
  | e, f, [] => some (e, f)
  | e, f, s :: l => if s.at_ = e + a then contG a (s.at_ + s.size) (((f && decide (s.id_ ≤ 14)) && decide (1 ≤ s.size)) && decide (s.size ≤ 16)) l else none

def tailS (nar : Bool) (data : List Int) (r : Option (Int × Bool)) : Bool :=
  match r with
  | none => false
  | some (e, f) => decide (f = nar) && (decide ((data.length : Int) - e < 4) && decide (∀ y, y ∈ data.drop e.toNat → y = 0))
def canonE (p : Int) (data : List Int) : Bool :=
  decide ((spotsS p data).2 = 0) && (decide (p = 48862 ∨ p = 4096) && (decide (data.length % 4 = 0) && tailS (narP p) data (contG (ah (narP p)) 0 true (spotsS p data).1)))

theorem canon_tail {p : Int} {data : List Int} (hb : oct data) (hl : data.length ≤ 100000) {e : Int} {f nar : Bool} (h0 : 0 ≤ e) (h1 : e ≤ data.length) (hn : (I_elem_walker.as61 (elem_walk p)).2 = nar) :
    Option.bind (gT ((bq .eql f ((I_elem_walker.as61 (elem_walk p)).2)) && (cm .lss (ar .sub .i64 (data.length : Int) e) 4)) (sub data e (data.length : Int))) (fun x7 =>
      Option.bind (gT ((bq .eql f ((I_elem_walker.as61 (elem_walk p)).2)) && (cm .lss (ar .sub .i64 (data.length : Int) e) 4)) (pad_Zero none x7)) fun x8 =>
      some (((bq .eql f ((I_elem_walker.as61 (elem_walk p)).2)) && (cm .lss (ar .sub .i64 (data.length : Int) e) 4)) && x8)) = some (tailS nar data (some (e, f))) := by
  rw [hn]
  have hbq : bq .eql f nar = decide (f = nar) := by cases f <;> cases nar <;> rfl
  have hc : cm .lss (ar .sub .i64 (data.length : Int) e) 4 = decide ((data.length : Int) - e < 4) := by rw [ar_sub, w_i64 (by omega) (by omega), cm_lss]
  rw [hbq, hc]
  unfold tailS
  by_cases h : (decide (f = nar) && decide ((data.length : Int) - e < 4)) = true
  · have hsub : sub data e (data.length : Int) = some (data.drop e.toNat) := by
      rw [sub_some h0 h1 (by omega)]
      congr 1
      apply List.take_of_length_le
      rw [List.length_drop]; omega
    rw [h, gTT, bnd hsub, gTT, bnd (zero_eq fun y hy => hb y (List.mem_of_mem_drop hy))]
    simp only [Bool.and_eq_true] at h
    simp only [h.1, h.2, Bool.true_and]
  · simp only [Bool.not_eq_true] at h
    rw [h, gTF, Option.bind_some, gTF, Option.bind_some, Bool.false_and]
    congr 1
    symm
    show (decide (f = nar) && (decide ((data.length : Int) - e < 4) && decide (∀ y, y ∈ data.drop e.toNat → y = 0))) = false
    rw [← Bool.and_assoc, h, Bool.false_and]

theorem canon_loop {p : Int} {data : List Int} {nar : Bool} {S : List Spot × Int} (hb : oct data) (hl : data.length ≤ 100000) (hS : ∀ s, s ∈ S.1 → HdS nar data s) (hlen : S.1.length ≤ 100000) (hn : (I_elem_walker.as61 (elem_walk p)).2 = nar) (a : Int) (ha : 0 ≤ a ∧ a ≤ 10) :
    ∀ (m i : Nat) (e : Int) (f : Bool), i + m = S.1.length → 0 ≤ e → e ≤ data.length → elem_Canon_l2 none p data S a e f (i : Int) = some (tailS nar data (contG a e f (S.1.drop i)))
  | 0, i, e, f, hi, h0, h1 => by
    have hii : i = S.1.length := by omega
    have hd : S.1.drop i = [] := List.drop_of_length_le (by omega)
    rw [hd]
    unfold elem_Canon_l2
    have st : elem_Canon_s2 none p data S a e f (i : Int) = some (.inr (tailS nar data (some (e, f)))) := by
      unfold elem_Canon_s2
      rw [if_neg (by rw [cm_lss]; simp; omega)]
      have := canon_tail (p := p) (f := f) hb hl h0 h1 hn
      rw [this]; rfl
    exact loop_inr (step := fun (s : Int × Bool × Int) => elem_Canon_s2 none p data S a s.1 s.2.1 s.2.2) (s := (e, f, (i : Int))) st
  | m + 1, i, e, f, hi, h0, h1 => by
    have hil : i < S.1.length := by omega
    have hd : S.1.drop i = S.1[i] :: S.1.drop (i + 1) := List.drop_eq_getElem_cons hil
    rw [hd]
    obtain ⟨a', q, g1, g2, g3, g4, _⟩ := (hS _ (List.getElem_mem hil)).ex
    have st : elem_Canon_s2 none p data S a e f (i : Int) = (if (cm .neq S.1[i].at_ (ar .add .i64 e a)) = true then Option.map Sum.inr (some false) else
        some (Sum.inl ((ar .add .i64 S.1[i].at_ S.1[i].size), (((f && (cm .leq S.1[i].id_ 14)) && (cm .geq S.1[i].size 1)) && (cm .leq S.1[i].size 16)), (ar .add .i64 (i : Int) 1)))) := by
      conv => lhs; unfold elem_Canon_s2
      rw [if_pos (by rw [cm_lss]; simpa using hil), bnd (ix_some (n := i) rfl hil)]
    have ea : ar .add .i64 e a = e + a := by rw [ar_add, w_i64 (by omega) (by omega)]
    rw [ea] at st
    unfold elem_Canon_l2
    by_cases hc : S.1[i].at_ = e + a
    · rw [if_neg (by rw [cm_neq]; simp [hc]), cm_leq, cm_geq, cm_leq, ar_add, w_i64 (by omega) (by omega), ar_add, w_i64 (by omega) (by omega)] at st
      rw [loop_inl (step := fun (s : Int × Bool × Int) => elem_Canon_s2 none p data S a s.1 s.2.1 s.2.2) (s := (e, f, (i : Int))) (s' := (S.1[i].at_ + S.1[i].size, (((f && decide (S.1[i].id_ ≤ 14)) && decide (1 ≤ S.1[i].size)) && decide (S.1[i].size ≤ 16)), ((i + 1 : Nat) : Int))) st]
      have ih := canon_loop hb hl hS hlen hn a ha m (i + 1) (S.1[i].at_ + S.1[i].size) (((f && decide (S.1[i].id_ ≤ 14)) && decide (1 ≤ S.1[i].size)) && decide (S.1[i].size ≤ 16)) (by omega) (by omega) (by omega)
      unfold elem_Canon_l2 at ih
      rw [ih, contG, if_pos hc]
    · rw [if_pos (by rw [cm_neq]; simp [hc])] at st
      rw [loop_inr (step := fun (s : Int × Bool × Int) => elem_Canon_s2 none p data S a s.1 s.2.1 s.2.2) (s := (e, f, (i : Int))) (r := false) st, contG, if_neg hc]
      rfl

theorem ecanon_eq {p : Int} {data : List Int} (h0 : 0 ≤ p) (h1 : p ≤ 65535) (hb : oct data) (hl : data.length ≤ 100000) : elem_Canon none p data = some (canonE p data) := by
  obtain ⟨i1, i2, i3⟩ := spotsS_inv (p := p) hb
  have hlen := spotsS_len (p := p) (data := data)
  unfold elem_Canon canonE
  rw [bnd (espots_eq h0 h1 hb hl), dv_rem (by omega)]
  by_cases hc : (spotsS p data).2 = 0 ∧ (p = 48862 ∨ p = 4096) ∧ data.length % 4 = 0
  · rw [if_neg (by rw [cm_neq, cm_neq, cm_neq, cm_gtr]; simp only [hc.1, decide_true, Bool.not_true, Bool.false_or, Bool.or_eq_true, Bool.and_eq_true, Bool.not_eq_true', decide_eq_false_iff_not, decide_eq_true_eq]; omega)]
    rw [decide_eq_true hc.1, decide_eq_true hc.2.1, decide_eq_true hc.2.2, Bool.true_and, Bool.true_and, Bool.true_and]
    unfold elem_Canon_j1
    rcases hc.2.1 with hp | hp
    · have hn : narP p = true := decide_eq_true hp
      have hw : (I_elem_walker.as61 (elem_walk p)).2 = true := by rw [hp, walk_nar]; rfl
      rw [hn] at i1 ⊢
      rw [if_pos hw]
      have := canon_loop (nar := true) hb hl i1 (by omega) hw 1 (by omega) (spotsS p data).1.length 0 0 true (by omega) (by omega) (by omega)
      simpa [ah] using this
    · have hn : narP p = false := decide_eq_false (by omega)
      have hw : (I_elem_walker.as61 (elem_walk p)).2 = false := by rw [walk_wide h0 h1 (by omega)]; rfl
      rw [hn] at i1 ⊢
      rw [if_neg (by rw [hw]; decide)]
      have := canon_loop (nar := false) hb hl i1 (by omega) hw 2 (by omega) (spotsS p data).1.length 0 0 true (by omega) (by omega) (by omega)
      simpa [ah] using this
  · rw [if_pos (by
      rw [cm_neq, cm_neq, cm_neq, cm_gtr]
      by_cases c1 : (spotsS p data).2 = 0
      · have : ¬ ((p = 48862 ∨ p = 4096) ∧ data.length % 4 = 0) := fun h => hc ⟨c1, h⟩
        simp only [c1, decide_true, Bool.not_true, Bool.false_or, Bool.or_eq_true, Bool.and_eq_true, Bool.not_eq_true', decide_eq_false_iff_not, decide_eq_true_eq]; omega
      · simp [c1])]
    congr 1
    symm
    rw [Bool.eq_false_iff]
    intro h
    simp only [Bool.and_eq_true, decide_eq_true_eq] at h
    exact hc ⟨h.1, h.2.1, h.2.2.1⟩
end Xb
