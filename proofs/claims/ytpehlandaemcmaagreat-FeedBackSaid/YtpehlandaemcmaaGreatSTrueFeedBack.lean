/- Own text: STrueFeedBack. -/
import Derived.Test.YtpehlandaemcmaaGreatSFeedA
set_option linter.all false
set_option linter.unusedVariables false
set_option linter.unusedSimpArgs false
set_option linter.unnecessarySimpa false
set_option linter.deprecated false
namespace Xb
open Go

theorem bqq (x y : Bool) (h : x = true ↔ y = true) : bq .eql x y = true := by
  cases x <;> cases y <;> simp [bq] at h ⊢

theorem feed_j1 {k : Int} {b : List Int} (hb : oct b) (hl : b.length ≤ 70000) : law20_FeedBack_j1 none k b = some true := by
  unfold law20_FeedBack_j1
  rw [bnd (Fread_eq hb (by omega))]
  cases hr : FeedR k b with
  | error e =>
    have he := FeedR_err hr
    have c : cm .neq ((rO (.error e)).2) 0 = true := by show cm .neq e 0 = true; rw [cm_neq]; simpa using he
    have hC : FeedC k b = false := by unfold FeedC; rw [hr]
    have hs : ref20_Same none (rO (.error e)).1 (Feed.mk 0 0 0 [] (Arrive.mk 0 0 0 []) [] (Rate.mk 0 0 [])) = some true := by
      show ref20_Same none zF _ = _
      rw [same20_eq (by unfold short; decide)]; rfl
    rw [c, if_pos rfl, bnd hs, gTT, bnd (Fcanon_eq hb (by omega)), hC]; rfl
  | ok f =>
    obtain ⟨g, hk, w, hw, hc⟩ := F_read hb hr
    obtain ⟨w1, w2, w3, w4, w5, w6⟩ := F_write g hw
    have c : cm .neq ((rO (.ok f)).2) 0 = false := rfl
    have x2 : rO (.ok f) = (f, 0) := rfl
    have x1 : wO (some w) = (w, 0) := rfl
    have c0 : cm .eql (0 : Int) 0 = true := by decide
    have ck : cm .eql f.kind f.kind = true := by rw [cm_eql]; simp
    rw [c, if_neg (by decide), x2]
    simp only
    rw [bnd (fwrite_eq g), hw, x1]
    simp only
    rw [← hk, bnd (Fread_eq w1 (by omega)), w5, x2]
    simp only [c0, ck, Bool.and_self, gTT]
    rw [bnd (fright_eq g), hw]
    simp only [Option.isSome_some, Bool.and_self, gTT]
    rw [bnd (same20_eq g.2.2.1)]
    simp only [decide_true, Bool.and_self, gTT]
    rw [bnd (Fcanon_eq hb (by omega))]
    simp only [Bool.true_and]
    rw [sc_b2s w1 hb]
    congr 1
    apply bqq
    rw [hk, hc, decide_eq_true_iff]

theorem short_of {f : Feed} (h : ref20_Short f = true) : short f := by
  unfold ref20_Short at h
  simp only [Bool.and_eq_true, cm_leq, decide_eq_true_eq] at h
  unfold short
  omega

theorem feedBack_true {f g : Feed} {kind : Int} {b : List Int} (hf : wf_Feed f) (hg : wf_Feed g) (_hk : inK .i64 kind) (hb : b.length ≤ maxLen ∧ ∀ x, x ∈ b → inK .u8 x) :
    law20_FeedBack none f g kind b = some true := by
  have ho : oct b := fun x hx => in_u8.1 (hb.2 x hx)
  unfold law20_FeedBack
  by_cases h1 : ref20_Short f = true ∧ ref20_Short g = true ∧ b.length ≤ 70000
  · obtain ⟨s1, s2, hl⟩ := h1
    have cl : cm .gtr (b.length : Int) 70000 = false := by rw [cm_gtr]; simp; omega
    have gf := goodF_of hf (short_of s1)
    have gg := goodF_of hg (short_of s2)
    rw [if_neg (by rw [s1, s2, cl]; decide), bnd (fwrite_eq gf), bnd (fwrite_eq gg)]
    cases hw : FeedW f with
    | none =>
      have c : cm .eql ((wO none).2) 0 = false := by decide
      rw [c, if_neg (by decide)]
      exact feed_j1 ho hl
    | some w =>
      have c : cm .eql ((wO (some w)).2) 0 = true := rfl
      obtain ⟨w1, w2, w3, w4, w5, w6⟩ := F_write gf hw
      rw [c, if_pos rfl]
      show Option.bind (feed_Read none f.kind w) _ = _
      rw [bnd (Fread_eq w1 (by omega)), w5]
      have cn : cm .neq (0 : Int) 0 = false := by decide
      show Option.bind (gT (!(cm .neq (0 : Int) 0)) (ref20_Same none f f)) _ = _
      simp only [cn, Bool.not_false, gTT]
      rw [bnd (same20_eq gf.2.2.1)]
      show Option.bind (gT (!(cm .neq (0 : Int) 0 || !(decide (f = f)))) (feed_Canon none f.kind w)) _ = _
      simp only [cn, decide_true, Bool.not_true, Bool.or_self, Bool.not_false, gTT]
      rw [bnd (Fcanon_eq w1 (by omega)), w6]
      have d1 : cm .neq (dv .rem .i64 (w.length : Int) 4) 0 = false := by rw [dv_rem (by omega), cm_neq]; simp; omega
      have d2 : cm .lss (w.length : Int) 8 = false := by rw [cm_lss]; simp; omega
      have d3 : cm .gtr (w.length : Int) 65528 = false := by rw [cm_gtr]; simp; omega
      show (if (((((cm .neq (0 : Int) 0 || !true) || !true) || cm .neq (dv .rem .i64 (w.length : Int) 4) 0) || cm .lss (w.length : Int) 8) || cm .gtr (w.length : Int) 65528) = true then _ else _) = _
      rw [cn, d1, d2, d3, if_neg (by decide)]
      by_cases hk : f.kind = g.kind
      · have ck : cm .eql f.kind g.kind = true := by rw [cm_eql]; exact decide_eq_true hk
        cases hv : FeedW g with
        | none =>
          have c2 : cm .eql ((wO none).2) 0 = false := by decide
          simp only [c2, Bool.false_and, gTF, Option.bind_some]
          rw [if_neg (by decide)]
          exact feed_j1 ho hl
        | some v =>
          obtain ⟨v1, _⟩ := F_write gg hv
          have x1 : wO (some w) = (w, 0) := rfl
          have x2 : wO (some v) = (v, 0) := rfl
          simp only [x1, x2]
          have c2 : cm .eql (0 : Int) 0 = true := by decide
          simp only [c2, ck, Bool.and_self, gTT]
          rw [bnd (same20_eq gf.2.2.1)]
          have hi := F_inj gf gg hk hw hv
          have hb3 : bq .neq (sc .eql (b2s w) (b2s v)) (decide (f = g)) = false := by
            rw [sc_b2s w1 v1]
            by_cases e : f = g
            · rw [decide_eq_true e, decide_eq_true (hi.2 e)]; rfl
            · rw [decide_eq_false e, decide_eq_false (fun hh => e (hi.1 hh))]; rfl
          simp only [hb3, Bool.and_false]
          rw [if_neg (by decide)]
          exact feed_j1 ho hl
      · have ck : cm .eql f.kind g.kind = false := by rw [cm_eql]; exact decide_eq_false hk
        simp only [ck, Bool.and_false, Bool.false_and, gTF, Option.bind_some]
        rw [if_neg (by decide)]
        exact feed_j1 ho hl
  · rw [if_pos]
    have : ¬ (ref20_Short f = true ∧ ref20_Short g = true ∧ cm .gtr (b.length : Int) 70000 = false) := by
      intro hh
      refine h1 ⟨hh.1, hh.2.1, ?_⟩
      have := hh.2.2
      rw [cm_gtr] at this
      simp at this; omega
    cases a1 : ref20_Short f <;> cases a2 : ref20_Short g <;> cases a3 : cm .gtr (b.length : Int) 70000 <;> simp [a1, a2, a3] at this ⊢
end Xb
