/- Own text: LTruePlanTwice. -/
import Derived.Test.YtiomfajkappjhaaLPlan1
set_option linter.all false
set_option linter.unusedVariables false
set_option linter.unusedSimpArgs false
set_option linter.unnecessarySimpa false
set_option linter.deprecated false
namespace Xb
open Go

theorem short_len {k : Packet} (h : ref06_Short k = true) : k.head.csrc.length ≤ 99 ∧ k.ext.length ≤ 300000 ∧ k.payload.length ≤ 70000 := by
  unfold ref06_Short at h
  simp only [Bool.and_eq_true, cm_leq, decide_eq_true_eq] at h
  omega

theorem single_parts {p : Plan} (h : plan_single p = true) : (p.setMarker = false → p.marker = false) ∧ (p.setType = false → p.type = 0) ∧ (p.setSeq = false → p.seq = 0) ∧ (p.setTime = false → p.time = 0) ∧ (p.setSsrc = false → p.ssrc = 0) ∧ 0 ≤ p.type ∧ p.type ≤ 127 := by
  obtain ⟨q1, q2, q3, q4, q5, q6, q7, q8, q9, q10, q11, q12, q13, q14, q15⟩ := p
  unfold plan_single plan_single_j1 at h
  simp only [cm_neq, cm_geq, cm_leq] at h ⊢
  cases q1 <;> cases q2 <;> cases q3 <;> cases q5 <;> cases q7 <;> cases q9 <;> simp at h ⊢ <;> (repeat' split at h) <;> simp_all
theorem single_of {p : Plan} (h1 : p.setMarker = false → p.marker = false) (h2 : p.setType = false → p.type = 0) (h3 : p.setSeq = false → p.seq = 0) (h4 : p.setTime = false → p.time = 0) (h5 : p.setSsrc = false → p.ssrc = 0) (h6 : 0 ≤ p.type) (h7 : p.type ≤ 127) : plan_single p = true := by
  obtain ⟨q1, q2, q3, q4, q5, q6, q7, q8, q9, q10, q11, q12, q13, q14, q15⟩ := p
  unfold plan_single plan_single_j1
  simp only [cm_neq, cm_geq, cm_leq] at *
  cases q1 <;> cases q3 <;> cases q5 <;> cases q7 <;> cases q9 <;> simp at h1 h2 h3 h4 h5 ⊢ <;> simp_all

theorem apply_ok {p : Plan} (h : OneP p) {k : Packet} (hk : k.head.csrc.length ≤ 99 ∧ k.ext.length ≤ 300000 ∧ k.payload.length ≤ 70000) (h1 : packet_Right k = true) (h2 : plan_single p = true) (h3 : packet_Right (behS p k) = true) : plan_Apply none p k = some (behS p k, 0) := by
  rw [apply_one h (by omega) (by omega) (by omega), if_pos h1, if_pos ⟨h2, h3⟩]

theorem twice_j1 {k y : Packet} {e : Int} {p q : Plan} (hp : OneP p) (hq : OneP q) (hk : k.head.csrc.length ≤ 99 ∧ k.ext.length ≤ 300000 ∧ k.payload.length ≤ 70000) (hr : packet_Right k = true) (sp : plan_single p = true) (sq : plan_single q = true)
    (rp : packet_Right (behS p k) = true) (rq : packet_Right (behS q k) = true) (e1 : behS q (behS p k) = y) (e2 : behS p (behS q k) = y) (ry : packet_Right y = true) : law29_PlanTwice_j1 none k (y, e) p q = some true := by
  have c1 : cm .eql (0 : Int) 0 = true := by decide
  have hs : ref06_Same none y y = some true := samePs (by rw [← e1]; show k.head.csrc.length ≤ _; omega)
  unfold law29_PlanTwice_j1
  rw [bnd (apply_ok hp hk hr sp rp), bnd (apply_ok hq hk hr sq rq)]
  simp only []
  rw [bnd (apply_ok hq (k := behS p k) hk rp sq (by rw [e1]; exact ry)), bnd (apply_ok hp (k := behS q k) hk rq sp (by rw [e2]; exact ry)), e1, e2]
  simp only [c1, Bool.and_self, gTT]
  rw [bnd hs]
  simp only [Bool.and_self, gTT]
  rw [bnd hs]
  rfl

theorem planTwice_true {k : Packet} {p : Plan} {split : Int} (_hk : wf_Packet k) (_hp : wf_Plan p) (hs : inK .u8 split) : law29_PlanTwice none k p split = some true := by
  unfold law29_PlanTwice
  cases hsh : ref06_Short k with
  | false => rfl
  | true =>
    have hk := short_len hsh
    rw [if_neg (by decide)]
    have hone : OneP { p with maps := [], over := [], drops := [], adds := [] } := ⟨rfl, rfl, rfl, rfl⟩
    rw [bnd (apply_one hone (by omega) (by omega) (by omega))]
    by_cases hr : packet_Right k = true
    · rw [if_pos hr]
      by_cases h2 : plan_single { p with maps := [], over := [], drops := [], adds := [] } = true ∧ packet_Right (behS { p with maps := [], over := [], drops := [], adds := [] } k) = true
      · obtain ⟨sp, rp⟩ := h2
        rw [if_pos (And.intro sp rp), if_neg (show ¬ cm .neq (0 : Int) 0 = true by decide)]
        have hy : ∃ y, y = behS { p with maps := [], over := [], drops := [], adds := [] } k := ⟨_, rfl⟩
        obtain ⟨y, hy⟩ := hy
        have idem : behS { p with maps := [], over := [], drops := [], adds := [] } y = y := by
          rw [hy]
          obtain ⟨q1, q2, q3, q4, q5, q6, q7, q8, q9, q10, q11, q12, q13, q14, q15⟩ := p
          unfold behS
          cases q1 <;> cases q3 <;> cases q5 <;> cases q7 <;> cases q9 <;> cases q15 <;> rfl
        have hyk : y.head.csrc.length ≤ 99 ∧ y.ext.length ≤ 300000 ∧ y.payload.length ≤ 70000 := by rw [hy]; exact hk
        have ry : packet_Right y = true := by rw [hy]; exact rp
        rw [← hy]
        simp only []
        rw [bnd (apply_ok hone hyk ry sp (by rw [idem]; exact ry)), idem]
        have c0 : cm .neq (0 : Int) 0 = false := by decide
        simp only [c0, Bool.not_false, gTT]
        rw [bnd (samePs (by omega))]
        simp only [Bool.not_true, Bool.or_self]
        rw [if_neg (by decide)]
        obtain ⟨s1, s2, s3, s4, s5, s6, s7⟩ := single_parts sp
        have hparts := right_parts hr
        have hpy := right_parts ry
        have hty : y.head.type = if p.setType then p.type else k.head.type := by rw [hy]; rfl
        by_cases hsp : cm .eql (dv .rem .u8 split 2) 0 = true
        · rw [if_pos hsp]
          refine twice_j1 (p := ⟨false, false, p.setType, p.type, false, 0, p.setTime, p.time, p.setSsrc, p.ssrc, [], [], [], [], p.noPad⟩) (q := ⟨p.setMarker, p.marker, false, 0, p.setSeq, p.seq, false, 0, false, 0, [], [], [], [], false⟩)
            ⟨rfl, rfl, rfl, rfl⟩ ⟨rfl, rfl, rfl, rfl⟩ hk hr (single_of (fun _ => rfl) s2 (fun _ => rfl) s4 s5 s6 s7) (single_of s1 (fun _ => rfl) s3 (fun _ => rfl) (fun _ => rfl) (show (0 : Int) ≤ 0 by decide) (show (0 : Int) ≤ 127 by decide)) ?_ ?_ ?_ ?_ ry
          · rw [← ry]
            refine right_cong ?_ (by rw [hy]; rfl) (by rw [hy]; rfl) (by rw [hy]; rfl) (by rw [hy]; rfl) (by rw [hy]; rfl) (by rw [hy]; rfl) (by rw [hy]; rfl)
            rw [hy]; rfl
          · rw [← hr]
            exact right_cong rfl rfl rfl rfl rfl rfl rfl rfl
          · rw [hy]
            obtain ⟨q1, q2, q3, q4, q5, q6, q7, q8, q9, q10, q11, q12, q13, q14, q15⟩ := p
            unfold behS
            cases q1 <;> cases q3 <;> cases q5 <;> cases q7 <;> cases q9 <;> cases q15 <;> rfl
          · rw [hy]
            obtain ⟨q1, q2, q3, q4, q5, q6, q7, q8, q9, q10, q11, q12, q13, q14, q15⟩ := p
            unfold behS
            cases q1 <;> cases q3 <;> cases q5 <;> cases q7 <;> cases q9 <;> cases q15 <;> rfl
        · rw [if_neg hsp]
          refine twice_j1 (p := ⟨p.setMarker, p.marker, false, 0, p.setSeq, p.seq, p.setTime, p.time, false, 0, [], [], [], [], p.noPad⟩) (q := ⟨false, false, p.setType, p.type, false, 0, false, 0, p.setSsrc, p.ssrc, [], [], [], [], false⟩)
            ⟨rfl, rfl, rfl, rfl⟩ ⟨rfl, rfl, rfl, rfl⟩ hk hr (single_of s1 (fun _ => rfl) s3 s4 (fun _ => rfl) (show (0 : Int) ≤ 0 by decide) (show (0 : Int) ≤ 127 by decide)) (single_of (fun _ => rfl) s2 (fun _ => rfl) (fun _ => rfl) s5 s6 s7) ?_ ?_ ?_ ?_ ry
          · rw [← ry]
            refine right_cong ?_ (by rw [hy]; rfl) (by rw [hy]; rfl) (by rw [hy]; rfl) (by rw [hy]; rfl) (by rw [hy]; rfl) (by rw [hy]; rfl) (by rw [hy]; rfl)
            rw [hpy.1]
            exact head_right hparts.2.2.2.1 hparts.2.2.2.2 hparts.2.1
          · rw [← hr]
            refine right_cong ?_ rfl rfl rfl rfl rfl rfl rfl
            rw [hparts.1]
            refine head_right ?_ ?_ hparts.2.1
            · show 0 ≤ (if p.setType then p.type else k.head.type)
              rw [← hty]; exact hpy.2.2.2.1
            · show (if p.setType then p.type else k.head.type) ≤ 127
              rw [← hty]; exact hpy.2.2.2.2
          · rw [hy]
            obtain ⟨q1, q2, q3, q4, q5, q6, q7, q8, q9, q10, q11, q12, q13, q14, q15⟩ := p
            unfold behS
            cases q1 <;> cases q3 <;> cases q5 <;> cases q7 <;> cases q9 <;> cases q15 <;> rfl
          · rw [hy]
            obtain ⟨q1, q2, q3, q4, q5, q6, q7, q8, q9, q10, q11, q12, q13, q14, q15⟩ := p
            unfold behS
            cases q1 <;> cases q3 <;> cases q5 <;> cases q7 <;> cases q9 <;> cases q15 <;> rfl
      · rw [if_neg h2, if_pos (show cm .neq (9 : Int) 0 = true by decide)]
    · rw [if_neg hr, if_pos (show cm .neq (1 : Int) 0 = true by decide)]
end Xb
