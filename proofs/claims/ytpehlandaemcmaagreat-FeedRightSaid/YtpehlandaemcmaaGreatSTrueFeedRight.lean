/- Own text: STrueFeedRight. -/
import Derived.Test.YtpehlandaemcmaaGreatSArrB
import Derived.Test.YtpehlandaemcmaaGreatSShort
set_option linter.all false
set_option linter.unusedVariables false
set_option linter.unusedSimpArgs false
set_option linter.unnecessarySimpa false
set_option linter.deprecated false
namespace Xb
open Go

def kindS (kind count : Int) : Int :=
  if kind = 205 ∧ count = 1 then 1 else if kind = 205 ∧ count = 15 then 2 else if kind = 206 ∧ count = 1 then 3 else if kind = 206 ∧ count = 4 then 4 else if kind = 206 ∧ count = 15 then 5 else 0

theorem kstep {kind count k a b : Int} (h1 : k ≤ 5) (h0 : 1 ≤ k) (hc : feed_Code k = (a, b, 0)) :
    feed_Kind_s1 none kind count k = some (if kind = a ∧ count = b then .inr k else .inl (k + 1)) := by
  unfold feed_Kind_s1
  rw [if_pos (by rw [cm_leq]; simpa using h1), hc]
  by_cases h : kind = a ∧ count = b
  · obtain ⟨rfl, rfl⟩ := h
    rw [if_pos (by simp [cm_eql]), if_pos ⟨rfl, rfl⟩]; rfl
  · rw [if_neg (by simp only [cm_eql, Bool.and_eq_true, decide_eq_true_eq]; intro hh; exact h ⟨hh.1.symm, hh.2.symm⟩), if_neg h, ar_add, w_i64 (by omega) (by omega)]

theorem kind_eq {kind count : Int} : feed_Kind none kind count = some (kindS kind count) := by
  unfold feed_Kind feed_Kind_l1 kindS
  have s1 := kstep (kind := kind) (count := count) (k := 1) (a := 205) (b := 1) (by decide) (by decide) rfl
  have s2 := kstep (kind := kind) (count := count) (k := 2) (a := 205) (b := 15) (by decide) (by decide) rfl
  have s3 := kstep (kind := kind) (count := count) (k := 3) (a := 206) (b := 1) (by decide) (by decide) rfl
  have s4 := kstep (kind := kind) (count := count) (k := 4) (a := 206) (b := 4) (by decide) (by decide) rfl
  have s5 := kstep (kind := kind) (count := count) (k := 5) (a := 206) (b := 15) (by decide) (by decide) rfl
  have s6 : feed_Kind_s1 none kind count 6 = some (.inr 0) := by
    unfold feed_Kind_s1
    rw [if_neg (by decide)]; rfl
  by_cases h1 : kind = 205 ∧ count = 1
  · rw [if_pos h1] at s1 ⊢; exact loop_inr s1
  rw [if_neg h1] at s1 ⊢
  refine (loop_inl s1).trans ?_
  show loopG none (fun (s : Int) => feed_Kind_s1 none kind count s) 2 = _
  by_cases h2 : kind = 205 ∧ count = 15
  · rw [if_pos h2] at s2 ⊢; exact loop_inr s2
  rw [if_neg h2] at s2 ⊢
  refine (loop_inl s2).trans ?_
  show loopG none (fun (s : Int) => feed_Kind_s1 none kind count s) 3 = _
  by_cases h3 : kind = 206 ∧ count = 1
  · rw [if_pos h3] at s3 ⊢; exact loop_inr s3
  rw [if_neg h3] at s3 ⊢
  refine (loop_inl s3).trans ?_
  show loopG none (fun (s : Int) => feed_Kind_s1 none kind count s) 4 = _
  by_cases h4 : kind = 206 ∧ count = 4
  · rw [if_pos h4] at s4 ⊢; exact loop_inr s4
  rw [if_neg h4] at s4 ⊢
  refine (loop_inl s4).trans ?_
  show loopG none (fun (s : Int) => feed_Kind_s1 none kind count s) 5 = _
  by_cases h5 : kind = 206 ∧ count = 15
  · rw [if_pos h5] at s5 ⊢; exact loop_inr s5
  rw [if_neg h5] at s5 ⊢
  refine (loop_inl s5).trans ?_
  exact loop_inr s6

theorem rkind_eq (kind count : Int) : ref20_Kind kind count = kindS kind count := by
  unfold ref20_Kind kindS
  simp only [cm_eql, Bool.and_eq_true, decide_eq_true_eq]

def codeS (k : Int) : Int × Int := if k = 1 then (205, 1) else if k = 2 then (205, 15) else if k = 3 then (206, 1) else if k = 4 then (206, 4) else if k = 5 then (206, 15) else (0, 0)
theorem rcode_eq (k : Int) : ref20_Code k = some (codeS k) := by
  unfold ref20_Code codeS
  by_cases h : k < 1 ∨ 5 < k
  · rw [if_pos (by rw [cm_lss, cm_gtr]; simpa using h), if_neg (by omega), if_neg (by omega), if_neg (by omega), if_neg (by omega), if_neg (by omega)]
  · rw [if_neg (by rw [cm_lss, cm_gtr]; simpa using h)]
    have : k = 1 ∨ k = 2 ∨ k = 3 ∨ k = 4 ∨ k = 5 := by omega
    rcases this with rfl | rfl | rfl | rfl | rfl <;> rfl
theorem fcode_eq (k : Int) : feed_Code k = ((codeS k).1, (codeS k).2, if k < 1 ∨ 5 < k then 1 else 0) := by
  have h := code_err k
  have h1 : (feed_Code k).1 = (codeS k).1 ∧ (feed_Code k).2.1 = (codeS k).2 := by
    unfold feed_Code codeS
    simp only [cm_eql, decide_eq_true_eq]
    by_cases c1 : k = 1
    · rw [if_pos c1, if_pos c1]; exact ⟨rfl, rfl⟩
    rw [if_neg c1, if_neg c1]
    by_cases c2 : k = 2
    · rw [if_pos c2, if_pos c2]; exact ⟨rfl, rfl⟩
    rw [if_neg c2, if_neg c2]
    by_cases c3 : k = 3
    · rw [if_pos c3, if_pos c3]; exact ⟨rfl, rfl⟩
    rw [if_neg c3, if_neg c3]
    by_cases c4 : k = 4
    · rw [if_pos c4, if_pos c4]; exact ⟨rfl, rfl⟩
    rw [if_neg c4, if_neg c4]
    by_cases c5 : k = 5
    · rw [if_pos c5, if_pos c5]; exact ⟨rfl, rfl⟩
    rw [if_neg c5, if_neg c5]; exact ⟨rfl, rfl⟩
  rw [← h, ← h1.1, ← h1.2]

theorem codes_ok (k : Int) : ((((cm .neq ((feed_Code k).1) (codeS k).1) || (cm .neq ((feed_Code k).2.1) (codeS k).2)) || (bq .neq (cm .eql ((feed_Code k).2.2) 0) (cm .gtr (codeS k).1 0))) || ((cm .neq ((feed_Code k).2.2) 0) && (cm .neq ((feed_Code k).2.2) 1))) = false := by
  rw [fcode_eq]
  by_cases h : k < 1 ∨ 5 < k
  · simp only [if_pos h]
    have : codeS k = (0, 0) := by unfold codeS; rw [if_neg (by omega), if_neg (by omega), if_neg (by omega), if_neg (by omega), if_neg (by omega)]
    rw [this]; decide
  · simp only [if_neg h]
    have : k = 1 ∨ k = 2 ∨ k = 3 ∨ k = 4 ∨ k = 5 := by omega
    rcases this with rfl | rfl | rfl | rfl | rfl <;> decide

theorem r17right_eq {r : Rate} : ref17_Right r = decide (RightR r) := by
  unfold ref17_Right
  by_cases h : r.exp < 0 ∨ 63 < r.exp ∨ 262144 ≤ r.mant ∨ 255 < r.srcs.length
  · rw [if_pos (by rw [cm_lss, cm_gtr, cm_geq, cm_gtr]; simp; omega), decide_eq_false]
    rintro ⟨a, b, c, d, e⟩; omega
  · rw [if_neg (by rw [cm_lss, cm_gtr, cm_geq, cm_gtr]; simp; omega), cm_eql, cm_geq, Bool.eq_iff_iff, decide_eq_true_iff (p := RightR r)]
    simp only [Bool.or_eq_true, decide_eq_true_eq]
    constructor
    · intro d; exact ⟨by omega, by omega, by omega, d, by omega⟩
    · rintro ⟨a, b, c, d, e⟩; exact d

theorem idle_iff (f : Feed) (hk : 1 ≤ f.kind ∧ f.kind ≤ 5) : mkF f.kind f.from_ f.of (feed_messageOf f) = f ↔
    (f.kind ≠ 1 → f.pairs = []) ∧ (f.kind ≠ 4 → f.entries = []) ∧ (f.kind ≠ 2 → f.arrive = ⟨0, 0, 0, []⟩) ∧ (f.kind ≠ 5 → f.rate = ⟨0, 0, []⟩) := by
  rw [msg_of]
  cases f with
  | mk k a c p ar en ra =>
  simp only at hk ⊢
  have : k = 1 ∨ k = 2 ∨ k = 3 ∨ k = 4 ∨ k = 5 := by omega
  rcases this with rfl | rfl | rfl | rfl | rfl <;> simp only [mkF, Feed.mk.injEq] <;> grind

theorem rright20_eq {f : Feed} (h : GoodF f) : ref20_Right none f = some (FeedW f).isSome := by
  obtain ⟨h1, h2, hs, hm⟩ := h
  obtain ⟨s1, s2, s3, s4⟩ := hs
  have hno : ¬ (1 ≤ f.kind ∧ f.kind ≤ 5 ∧ mkF f.kind f.from_ f.of (feed_messageOf f) = f) → FeedW f = none := fun h => by
    unfold FeedW; rw [if_neg h]
  unfold ref20_Right
  by_cases hk : f.kind < 1 ∨ 5 < f.kind
  · rw [hno (fun hh => by omega), if_pos (by rw [cm_lss, cm_gtr]; simpa using hk)]; rfl
  rw [if_neg (by rw [cm_lss, cm_gtr]; simpa using hk)]
  have hk' : 1 ≤ f.kind ∧ f.kind ≤ 5 := by omega
  have hok := hm hk'.1 hk'.2
  have hi := idle_iff f hk'
  have g1 : ∀ {α : Type} (l : List α), cm .gtr (l.length : Int) 0 = !(decide (l.length = 0)) := by
    intro α l; rw [cm_gtr]; by_cases h : l.length = 0 <;> simp [h] <;> omega
  rw [g1, g1]
  by_cases c1 : (f.kind ≠ 1 → f.pairs = []) ∧ (f.kind ≠ 4 → f.entries = [])
  · have cc : ((cm .neq f.kind 1 && !(decide (f.pairs.length = 0))) || (cm .neq f.kind 4 && !(decide (f.entries.length = 0)))) = false := by
      have a1 : (cm .neq f.kind 1 && !(decide (f.pairs.length = 0))) = false := by
        by_cases e : f.kind = 1
        · rw [e]; rfl
        · rw [c1.1 e]; simp
      have a2 : (cm .neq f.kind 4 && !(decide (f.entries.length = 0))) = false := by
        by_cases e : f.kind = 4
        · rw [e]; rfl
        · rw [c1.2 e]; simp
      rw [a1, a2]; rfl
    rw [cc, if_neg (by decide)]
    rw [same_eq (by omega), sameR_eq _ _ s3]
    have bn2 : cm .neq f.kind 2 = !(decide (f.kind = 2)) := cm_neq
    have bn5 : cm .neq f.kind 5 = !(decide (f.kind = 5)) := cm_neq
    rw [bn2, bn5]
    by_cases c2 : (f.kind ≠ 2 → f.arrive = ⟨0, 0, 0, []⟩) ∧ (f.kind ≠ 5 → f.rate = ⟨0, 0, []⟩)
    · have hfix := hi.2 ⟨c1.1, c1.2, c2.1, c2.2⟩
      have hW : (FeedW f).isSome = (mW (feed_messageOf f)).isSome := by
        unfold FeedW
        rw [if_pos (show _ ∧ _ ∧ _ from ⟨hk'.1, hk'.2, hfix⟩), Option.isSome_map]
      rw [hW]
      have step : ∀ (F : Option Bool), (Option.bind (gT (!decide (f.kind = 2)) (some (decide (f.arrive = ⟨0, 0, 0, []⟩)))) fun x1 =>
          Option.bind (gT (!((!decide (f.kind = 2)) && !x1) && (!decide (f.kind = 5))) (some (decide (f.rate = ⟨0, 0, []⟩)))) fun x2 =>
          if ((!decide (f.kind = 2)) && !x1 || (!decide (f.kind = 5)) && !x2) then some false else F) = F := by
        intro F
        by_cases e2 : f.kind = 2
        · have e5 : ¬ f.kind = 5 := by omega
          rw [decide_eq_true e2, decide_eq_false e5, c2.2 e5]
          simp [gT]
        · rw [decide_eq_false e2, c2.1 e2]
          by_cases e5 : f.kind = 5
          · rw [decide_eq_true e5]; simp [gT]
          · rw [decide_eq_false e5, c2.2 e5]; simp [gT]
      rw [step]
      rw [msg_of] at hok ⊢
      by_cases k1 : f.kind = 1
      · rw [if_pos (by rw [cm_eql]; exact decide_eq_true k1), if_pos k1, mW_107, cm_geq, cm_leq]
        by_cases e : 1 ≤ f.pairs.length ∧ f.pairs.length ≤ 16380
        · rw [if_pos e]; simp; omega
        · rw [if_neg e]; simp; omega
      rw [if_neg (by rw [cm_eql]; simpa using k1), if_neg k1]
      rw [if_neg k1] at hok
      by_cases k2 : f.kind = 2
      · rw [if_pos (by rw [cm_eql]; exact decide_eq_true k2), if_pos k2, mW_111, bnd (rright_eq s4)]
        by_cases e : RightA f.arrive
        · rw [if_pos e, decide_eq_true e]; rfl
        · rw [if_neg e, decide_eq_false e]; rfl
      rw [if_neg (by rw [cm_eql]; simpa using k2), if_neg k2]
      by_cases k4 : f.kind = 4
      · rw [if_pos (by rw [cm_eql]; exact decide_eq_true k4), if_neg (show ¬ f.kind = 3 by omega), if_pos k4, mW_114, cm_geq, cm_leq]
        by_cases e : 1 ≤ f.entries.length ∧ f.entries.length ≤ 8190
        · rw [if_pos e]; simp; omega
        · rw [if_neg e]; simp; omega
      rw [if_neg (by rw [cm_eql]; simpa using k4)]
      by_cases k5 : f.kind = 5
      · rw [if_pos (by rw [cm_eql]; exact decide_eq_true k5), if_neg (show ¬ f.kind = 3 by omega), if_neg k4, if_pos k5, mW_118, r17right_eq]
        by_cases e : RightR f.rate
        · rw [if_pos e, decide_eq_true e]; rfl
        · rw [if_neg e, decide_eq_false e]; rfl
      rw [if_neg (by rw [cm_eql]; simpa using k5), if_pos (show f.kind = 3 by omega)]
      rfl
    · have hnf : ¬ mkF f.kind f.from_ f.of (feed_messageOf f) = f := fun hh => c2 ⟨(hi.1 hh).2.2.1, (hi.1 hh).2.2.2⟩
      rw [hno (fun hh => hnf hh.2.2)]
      have step : ∀ (F : Option Bool), (Option.bind (gT (!decide (f.kind = 2)) (some (decide (f.arrive = ⟨0, 0, 0, []⟩)))) fun x1 =>
          Option.bind (gT (!((!decide (f.kind = 2)) && !x1) && (!decide (f.kind = 5))) (some (decide (f.rate = ⟨0, 0, []⟩)))) fun x2 =>
          if ((!decide (f.kind = 2)) && !x1 || (!decide (f.kind = 5)) && !x2) then some false else F) = some false := by
        intro F
        by_cases e2 : f.kind = 2
        · have e5 : ¬ f.kind = 5 := by omega
          have hr : ¬ f.rate = ⟨0, 0, []⟩ := fun hh => c2 ⟨fun x => absurd e2 x, fun _ => hh⟩
          rw [decide_eq_true e2, decide_eq_false e5, decide_eq_false hr]
          simp [gT]
        · by_cases ea : f.arrive = ⟨0, 0, 0, []⟩
          · have e5 : ¬ f.kind = 5 := fun e5 => c2 ⟨fun _ => ea, fun x => absurd e5 x⟩
            have hr : ¬ f.rate = ⟨0, 0, []⟩ := fun hh => c2 ⟨fun _ => ea, fun _ => hh⟩
            rw [decide_eq_false e2, decide_eq_true ea, decide_eq_false e5, decide_eq_false hr]; simp [gT]
          · rw [decide_eq_false e2, decide_eq_false ea]; simp [gT]
      rw [step]; rfl
  · have hnf : ¬ mkF f.kind f.from_ f.of (feed_messageOf f) = f := fun hh => c1 ⟨(hi.1 hh).1, (hi.1 hh).2.1⟩
    rw [hno (fun hh => hnf hh.2.2), if_pos]
    · rfl
    · by_cases e1 : f.kind = 1
      · have e4 : ¬ f.kind = 4 := by omega
        have hr : ¬ f.entries.length = 0 := fun hh => c1 ⟨fun x => absurd e1 x, fun _ => List.length_eq_zero_iff.1 hh⟩
        rw [cm_neq, cm_neq, decide_eq_false e4, decide_eq_false hr]; simp
      · by_cases ep : f.pairs.length = 0
        · have ep' := List.length_eq_zero_iff.1 ep
          have e4 : ¬ f.kind = 4 := fun e4 => c1 ⟨fun _ => ep', fun x => absurd e4 x⟩
          have hr : ¬ f.entries.length = 0 := fun hh => c1 ⟨fun _ => ep', fun _ => List.length_eq_zero_iff.1 hh⟩
          rw [cm_neq, cm_neq, decide_eq_false e4, decide_eq_false hr]; simp
        · rw [cm_neq, cm_neq, decide_eq_false e1, decide_eq_false ep]; simp

theorem rwrite20_eq {f : Feed} (h : GoodF f) {w : List Int} (hw : FeedW f = some w) : ref20_Write none f = some w := by
  obtain ⟨h1, h2, hs, hm⟩ := h
  obtain ⟨q1, q2, q3, q4, q5, q6⟩ := F_write ⟨h1, h2, hs, hm⟩ hw
  unfold FeedW at hw
  split at hw
  · rename_i hk
    obtain ⟨k1, k5, hi⟩ := hk
    have hok := hm k1 k5
    cases hv : mW (feed_messageOf f) with
    | none => rw [hv] at hw; cases hw
    | some v =>
      rw [hv, Option.map_some] at hw
      have hw := Option.some.inj hw
      subst hw
      simp only [List.length_append, beN_len] at q3 q4
      have m1 : ref01_Must none f.from_ 4 = some (beN 4 f.from_) := rmust_eq (n := 4) h1.1 (by omega) (by omega) (by omega) (by omega)
      have m2 : ref01_Must none f.of 4 = some (beN 4 f.of) := rmust_eq (n := 4) h2.1 (by omega) (by omega) (by omega) (by omega)
      unfold ref20_Write
      rw [w_u64 (by omega) (by omega), bnd m1, w_u64 (by omega) (by omega), bnd m2, bnd (app_some (by simp [beN_len]))]
      have ha : app (beN 4 f.from_ ++ beN 4 f.of) v = some (beN 4 f.from_ ++ beN 4 f.of ++ v) := app_some (by simp [beN_len]; omega)
      rw [msg_of] at hv hok
      by_cases c1 : f.kind = 1
      · rw [if_pos c1] at hv hok
        rw [if_pos (by rw [cm_eql]; exact decide_eq_true c1)]
        rw [mW_107] at hv
        split at hv
        · cases hv
          rw [bnd (r15write_eq hok.1 (by omega)), bnd ha]
        · cases hv
      rw [if_neg c1] at hv hok
      rw [if_neg (by rw [cm_eql]; simpa using c1)]
      by_cases c2 : f.kind = 2
      · rw [if_pos c2] at hv hok
        rw [if_pos (by rw [cm_eql]; exact decide_eq_true c2)]
        rw [mW_111] at hv
        split at hv
        · rename_i hr
          cases hv
          rw [bnd (rwriteA_eq hok.1 hr), bnd ha]
        · cases hv
      rw [if_neg c2] at hv hok
      rw [if_neg (by rw [cm_eql]; simpa using c2)]
      by_cases c3 : f.kind = 3
      · rw [if_pos c3] at hv
        cases hv
        rw [if_neg (by rw [cm_eql]; simp; omega), if_neg (by rw [cm_eql]; simp; omega), List.append_nil]
      rw [if_neg c3] at hv hok
      by_cases c4 : f.kind = 4
      · rw [if_pos c4] at hv hok
        rw [if_pos (by rw [cm_eql]; exact decide_eq_true c4)]
        rw [mW_114] at hv
        split at hv
        · cases hv
          rw [bnd (r16write_eq hok.1 (by omega)), bnd ha]
        · cases hv
      rw [if_neg c4] at hv hok
      have c5 : f.kind = 5 := by omega
      rw [if_pos c5] at hv hok
      rw [if_neg (by rw [cm_eql]; simpa using c4), if_pos (by rw [cm_eql]; exact decide_eq_true c5)]
      rw [mW_118] at hv
      split at hv
      · rename_i hr
        cases hv
        rw [bnd (r17write_eq hok.1 hr), bnd ha]
      · cases hv
  · cases hw

theorem rj1 {k a c : Int} {b : List Int} {m : I_feed_message} {x : Feed} {e : Int} (hx : e = 0 → x = mkF k a c m) :
    ref20_Read_j1 none e x = some (if e = 0 then (mkF k a c m, 0) else (zF, e)) := by
  unfold ref20_Read_j1
  by_cases h : e = 0
  · rw [if_neg (by rw [cm_neq]; simpa using h), if_pos h, hx h]
  · rw [if_pos (by rw [cm_neq]; simpa using h), if_neg h]; rfl

theorem rread20_eq {k : Int} {b : List Int} (hb : oct b) (hl : b.length ≤ 100000) : ref20_Read none k b = some (rO (FeedR k b)) := by
  unfold ref20_Read FeedR
  by_cases hk : k < 1 ∨ 5 < k
  · rw [if_pos (by rw [cm_lss, cm_gtr]; simpa using hk), if_pos hk]; rfl
  rw [if_neg (by rw [cm_lss, cm_gtr]; simpa using hk), if_neg hk]
  by_cases h1 : 65528 < b.length ∨ b.length % 4 ≠ 0
  · rw [if_pos (by rw [dv_rem (by omega), cm_gtr, cm_neq]; simp; omega), if_pos h1]; rfl
  rw [if_neg (by rw [dv_rem (by omega), cm_gtr, cm_neq]; simp; omega), if_neg h1]
  by_cases h8 : b.length < 8
  · rw [if_pos (by rw [cm_lss]; exact decide_eq_true (by omega)), if_pos h8]; rfl
  rw [if_neg (by rw [cm_lss]; simp; omega), if_neg h8]
  have g0 : ref05_Num none b 0 4 = some (numB (b.take 4)) := rnum4_eq (at_ := 0) (n := 4) (by omega) hb (by omega) (by omega)
  have g4 : ref05_Num none b 4 4 = some (numB ((b.drop 4).take 4)) := rnum4_eq (at_ := 4) (n := 4) (by omega) hb (by omega) (by omega)
  have hsub : sub b 8 (b.length : Int) = some (b.drop 8) := by
    rw [sub_some (by omega) (by omega) (by omega)]
    congr 1
    apply List.take_of_length_le; rw [List.length_drop]; simp
  have hd := oct.drop hb 8
  have hdl : (b.drop 8).length ≤ 65520 := by rw [List.length_drop]; omega
  rw [bnd g0, bnd g4, hsub]
  simp only [Option.bind_some]
  generalize numB (b.take 4) = a
  generalize numB ((b.drop 4).take 4) = c
  have hlen8 : (b.drop 8).length = b.length - 8 := List.length_drop
  generalize hq : b.drop 8 = q at *
  have fin0 : ∀ (m : I_feed_message) (x : Feed), x = mkF k a c m → ref20_Read_j1 none 0 x = some (mkF k a c m, 0) := by
    intro m x hx
    unfold ref20_Read_j1
    rw [if_neg (by decide), hx]
  have finE : ∀ (e : Int) (x : Feed), e ≠ 0 → ref20_Read_j1 none e x = some (zF, e) := by
    intro e x he
    unfold ref20_Read_j1
    rw [if_pos (by rw [cm_neq]; simpa using he)]; rfl
  by_cases k1 : k = 1
  · subst k1
    rw [if_pos (by decide), mR_1, bnd (r15read_eq hd (by omega))]
    by_cases h : readOkN q
    · simp only [if_pos h]; exact fin0 (.c107 _) _ rfl
    · simp only [if_neg h]; exact finE _ _ (e24 q)
  by_cases k2 : k = 2
  · subst k2
    rw [if_neg (by decide), if_pos (by decide), mR_2, bnd (rread19_eq hd (by omega))]
    unfold rdX rdA
    cases hr : readA q with
    | error e => exact finE _ _ (readA_err hr)
    | ok p => exact fin0 (.c111 ⟨p.1⟩) _ rfl
  by_cases k3 : k = 3
  · subst k3
    rw [if_neg (by decide), if_neg (by decide), if_pos (by decide), mR_3]
    by_cases h : 0 < q.length
    · rw [if_pos (by rw [cm_gtr]; simp; omega), if_pos h]; exact finE _ _ (by decide)
    · rw [if_neg (by rw [cm_gtr]; simp; omega), if_neg h]; exact fin0 (.c120 ⟨⟩) _ rfl
  by_cases k4 : k = 4
  · subst k4
    rw [if_neg (by decide), if_neg (by decide), if_neg (by decide), if_pos (by decide), mR_4, bnd (r16read_eq hd (by omega))]
    by_cases h : readOkF q
    · simp only [if_pos h]; exact fin0 (.c114 _) _ rfl
    · simp only [if_neg h]; exact finE _ _ (e24 q)
  have k5 : k = 5 := by omega
  subst k5
  rw [if_neg (by decide), if_neg (by decide), if_neg (by decide), if_neg (by decide), mR_5, bnd (r17read_eq hd (by omega))]
  unfold rdRR
  cases hr : readR q with
  | error e => exact finE _ _ (readR_err hr)
  | ok p => exact fin0 (.c118 ⟨p⟩) _ rfl

theorem rcanon20_eq {k : Int} {b : List Int} (hb : oct b) (hl : b.length ≤ 100000) : ref20_Canon none k b = some (FeedC k b) := by
  unfold ref20_Canon
  rw [bnd (rread20_eq hb hl)]
  cases hr : FeedR k b with
  | error e =>
    have he := FeedR_err hr
    have x1 : rO (.error e) = (zF, e) := rfl
    have c : cm .eql e 0 = false := by rw [cm_eql]; simpa using he
    have hC : FeedC k b = false := by unfold FeedC; rw [hr]
    rw [x1]
    simp only [c, gTF, Option.bind_some, Bool.false_and]
    rw [hC]
  | ok f =>
    obtain ⟨g, hk, w, hw, hc⟩ := F_read hb hr
    obtain ⟨w1, _⟩ := F_write g hw
    have x1 : rO (.ok f) = (f, 0) := rfl
    have c0 : cm .eql (0 : Int) 0 = true := by decide
    rw [x1]
    simp only [c0, gTT, Bool.true_and]
    rw [bnd (rwrite20_eq g hw), sc_b2s w1 hb]
    congr 1
    rw [Bool.eq_iff_iff, hc, decide_eq_true_iff]

theorem short_rd {k : Int} {b : List Int} (hb : oct b) : short (rO (FeedR k b)).1 := by
  cases hr : FeedR k b with
  | error e => show short zF; unfold short; decide
  | ok f => exact (F_read hb hr).1.2.2.1

theorem feedR_j1 {f : Feed} (g : GoodF f) {k : Int} {b : List Int} (hb : oct b) (hl : b.length ≤ 70000) : law20_FeedRight_j1 none k b (FeedW f).isSome f = some true := by
  unfold law20_FeedRight_j1
  rw [bnd (Fread_eq hb (by omega)), bnd (rread20_eq hb (by omega)), bnd (fright_eq g)]
  have c1 : cm .eql (rO (FeedR k b)).2 (rO (FeedR k b)).2 = true := by rw [cm_eql]; simp
  have c2 : ∀ x : Bool, bq .eql x x = true := fun x => by cases x <;> rfl
  rw [c1, c2]
  simp only [Bool.and_self, gTT]
  rw [bnd (same20_eq (short_rd hb))]
  simp only [decide_true, Bool.and_self, gTT]
  rw [bnd (Fcanon_eq hb (by omega)), bnd (rcanon20_eq hb (by omega)), c2]; rfl

theorem feedRight_true {f : Feed} {kind count : Int} {b : List Int} (hf : wf_Feed f) (_hk : inK .i64 kind) (_hc : inK .i64 count) (hb : b.length ≤ maxLen ∧ ∀ x, x ∈ b → inK .u8 x) :
    law20_FeedRight none f kind count b = some true := by
  have ho : oct b := fun x hx => in_u8.1 (hb.2 x hx)
  unfold law20_FeedRight
  by_cases h1 : ref20_Short f = true ∧ b.length ≤ 70000
  · obtain ⟨s1, hl⟩ := h1
    have cl : cm .gtr (b.length : Int) 70000 = false := by rw [cm_gtr]; simp; omega
    have gf := goodF_of hf (short_of s1)
    rw [if_neg (by rw [s1, cl]; decide), bnd (rcode_eq kind), codes_ok, Bool.not_false, gTT, bnd kind_eq, rkind_eq]
    have ck : cm .neq (kindS kind count) (kindS kind count) = false := by rw [cm_neq]; simp
    rw [ck, if_neg (by decide), bnd (rright20_eq gf), bnd (fwrite_eq gf)]
    have j := feedR_j1 gf (k := kind) ho hl
    cases hw : FeedW f with
    | none =>
      rw [hw] at j
      rw [if_neg (by decide), if_neg (by decide)]; exact j
    | some w =>
      rw [hw] at j
      obtain ⟨w1, _⟩ := F_write gf hw
      have x1 : wO (some w) = (w, 0) := rfl
      have c0 : cm .neq (0 : Int) 0 = false := by decide
      rw [x1, if_pos (show (some w).isSome = true from rfl)]
      simp only [c0, Bool.not_false, gTT]
      rw [bnd (rwrite20_eq gf hw)]
      have cs : sc .neq (b2s w) (b2s w) = false := by
        have : sc .neq (b2s w) (b2s w) = !(sc .eql (b2s w) (b2s w)) := by simp only [sc]
        rw [this, sc_b2s w1 w1]; simp
      rw [cs, if_neg (by decide)]; exact j
  · rw [if_pos]
    by_cases s : ref20_Short f = true
    · have : ¬ b.length ≤ 70000 := fun h => h1 ⟨s, h⟩
      have cl : cm .gtr (b.length : Int) 70000 = true := by rw [cm_gtr]; simp; omega
      rw [cl]; simp
    · simp only [Bool.not_eq_true] at s
      rw [s]; rfl
end Xb
