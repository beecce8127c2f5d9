/- Own text: RTrueFeedKinds. -/
import Derived.Test.YtpehlandaemcmaaMath2
import Derived.Test.YtpehlandaemcmaaRModels
import Derived.Test.YtpehlandaemcmaaRWf
set_option linter.all false
set_option linter.unusedVariables false
set_option linter.unusedSimpArgs false
set_option linter.unnecessarySimpa false
set_option linter.deprecated false
namespace Xb
open Go

def kindS (kind count : Int) : Int :=
  if kind = 205 ∧ count = 1 then 1 else if kind = 205 ∧ count = 15 then 2 else if kind = 206 ∧ count = 1 then 3 else if kind = 206 ∧ count = 4 then 4 else if kind = 206 ∧ count = 15 then 5 else 0

theorem kstep {kind count k a b : Int} (h1 : k ≤ 5) (h0 : 1 ≤ k) (hc : feed_Code k = (a, b, 0)) :
    feed_Kind_s1 none kind count k = some (if kind = a ∧ count = b then .inr k else .inl (k + 1)) := by
  unfold feed_Kind_s1
  rw [if_pos (by rw [cm_leq]; simpa using h1), hc]
  by_cases h : kind = a ∧ count = b
  · obtain ⟨rfl, rfl⟩ := h
    rw [if_pos (by simp [cm_eql]), if_pos ⟨rfl, rfl⟩]; rfl
  · rw [if_neg (by simp only [cm_eql, Bool.and_eq_true, decide_eq_true_eq]; intro hh; exact h ⟨hh.1.symm, hh.2.symm⟩), if_neg h, ar_add, w_i64 (by omega) (by omega)]

theorem kind_eq {kind count : Int} : feed_Kind none kind count = some (kindS kind count) := by
  unfold feed_Kind feed_Kind_l1 kindS
  have s1 := kstep (kind := kind) (count := count) (k := 1) (a := 205) (b := 1) (by decide) (by decide) rfl
  have s2 := kstep (kind := kind) (count := count) (k := 2) (a := 205) (b := 15) (by decide) (by decide) rfl
  have s3 := kstep (kind := kind) (count := count) (k := 3) (a := 206) (b := 1) (by decide) (by decide) rfl
  have s4 := kstep (kind := kind) (count := count) (k := 4) (a := 206) (b := 4) (by decide) (by decide) rfl
  have s5 := kstep (kind := kind) (count := count) (k := 5) (a := 206) (b := 15) (by decide) (by decide) rfl
  have s6 : feed_Kind_s1 none kind count 6 = some (.inr 0) := by
    unfold feed_Kind_s1
    rw [if_neg (by decide)]; rfl
  by_cases h1 : kind = 205 ∧ count = 1
  · rw [if_pos h1] at s1 ⊢; exact loop_inr s1
  rw [if_neg h1] at s1 ⊢
  refine (loop_inl s1).trans ?_
  show loopG none (fun (s : Int) => feed_Kind_s1 none kind count s) 2 = _
  by_cases h2 : kind = 205 ∧ count = 15
  · rw [if_pos h2] at s2 ⊢; exact loop_inr s2
  rw [if_neg h2] at s2 ⊢
  refine (loop_inl s2).trans ?_
  show loopG none (fun (s : Int) => feed_Kind_s1 none kind count s) 3 = _
  by_cases h3 : kind = 206 ∧ count = 1
  · rw [if_pos h3] at s3 ⊢; exact loop_inr s3
  rw [if_neg h3] at s3 ⊢
  refine (loop_inl s3).trans ?_
  show loopG none (fun (s : Int) => feed_Kind_s1 none kind count s) 4 = _
  by_cases h4 : kind = 206 ∧ count = 4
  · rw [if_pos h4] at s4 ⊢; exact loop_inr s4
  rw [if_neg h4] at s4 ⊢
  refine (loop_inl s4).trans ?_
  show loopG none (fun (s : Int) => feed_Kind_s1 none kind count s) 5 = _
  by_cases h5 : kind = 206 ∧ count = 15
  · rw [if_pos h5] at s5 ⊢; exact loop_inr s5
  rw [if_neg h5] at s5 ⊢
  refine (loop_inl s5).trans ?_
  exact loop_inr s6

theorem lstep {kind count k a b : Int} (h0 : kindS kind count = 0) (h1 : k ≤ 5) (h2 : 1 ≤ k) (hc : feed_Code k = (a, b, 0)) (hk : kindS a b = k) :
    law20_FeedKinds_s1 none kind count k = some (.inl (k + 1)) := by
  have hne : ¬ (a = kind ∧ b = count) := by
    rintro ⟨rfl, rfl⟩; omega
  have c1 : ((cm .eql a kind) && (cm .eql b count)) = false := by
    rw [Bool.eq_false_iff]
    simp only [cm_eql, ne_eq, Bool.and_eq_true, decide_eq_true_eq]
    exact hne
  have c0 : cm .neq (0 : Int) 0 = false := by decide
  have c2 : cm .neq k k = false := by rw [cm_neq]; simp
  unfold law20_FeedKinds_s1
  rw [if_pos (by rw [cm_leq]; simpa using h1), hc]
  simp only [c0, c1, Bool.or_self, Bool.not_false, gTT]
  rw [bnd kind_eq, hk]
  simp only [c2, Bool.or_self]
  rw [if_neg (by decide), ar_add, w_i64 (by omega) (by omega)]

theorem feedKinds_true {kind count : Int} (_h1 : inK .i64 kind) (_h2 : inK .i64 count) : law20_FeedKinds none kind count = some true := by
  unfold law20_FeedKinds
  rw [bnd kind_eq]
  by_cases h : kindS kind count = 0
  · rw [h, if_neg (by decide)]
    unfold law20_FeedKinds_l1
    refine (loop_inl (lstep h (k := 1) (a := 205) (b := 1) (by decide) (by decide) rfl rfl)).trans ?_
    refine (loop_inl (lstep h (k := 2) (a := 205) (b := 15) (by decide) (by decide) rfl rfl)).trans ?_
    refine (loop_inl (lstep h (k := 3) (a := 206) (b := 1) (by decide) (by decide) rfl rfl)).trans ?_
    refine (loop_inl (lstep h (k := 4) (a := 206) (b := 4) (by decide) (by decide) rfl rfl)).trans ?_
    refine (loop_inl (lstep h (k := 5) (a := 206) (b := 15) (by decide) (by decide) rfl rfl)).trans ?_
    refine loop_inr ?_
    unfold law20_FeedKinds_s1
    rw [if_neg (by decide)]; rfl
  · rw [if_pos (by rw [cm_neq]; simpa using h)]
    unfold kindS at h ⊢
    by_cases h1 : kind = 205 ∧ count = 1
    · obtain ⟨rfl, rfl⟩ := h1; rfl
    · rw [if_neg h1] at h ⊢
      by_cases h2 : kind = 205 ∧ count = 15
      · obtain ⟨rfl, rfl⟩ := h2; rfl
      · rw [if_neg h2] at h ⊢
        by_cases h3 : kind = 206 ∧ count = 1
        · obtain ⟨rfl, rfl⟩ := h3; rfl
        · rw [if_neg h3] at h ⊢
          by_cases h4 : kind = 206 ∧ count = 4
          · obtain ⟨rfl, rfl⟩ := h4; rfl
          · rw [if_neg h4] at h ⊢
            by_cases h5 : kind = 206 ∧ count = 15
            · obtain ⟨rfl, rfl⟩ := h5; rfl
            · rw [if_neg h5] at h; exact absurd rfl h
end Xb
