/- Own text: MathB. -/
import Derived.Test.YtjjaohddaclafaaMathA
set_option linter.all false
set_option linter.unusedVariables false
set_option linter.unusedSimpArgs false
set_option linter.unnecessarySimpa false
set_option linter.deprecated false
namespace Xb
open Go

theorem numP {n : Int} {w : Nat} {wi : Int} (hw : wi = w) (h : w ≤ 62) (h0 : 0 ≤ n) (h1 : n < 2 ^ w) {k : Ink} {L : List Int} (hr : RepK k L) (hl : L.length + (nb w n).length ≤ 500000000) :
    ∃ k', av1_pen_num_y1 none n wi ⟨k⟩ = some ⟨k'⟩ ∧ RepK k' (L ++ nb w n) := by
  subst hw
  rw [nb_len] at hl
  have hp := pow_le64 (n := w + 1) (by omega)
  have e : (2 : Int) ^ (w + 1) = 2 ^ w * 2 := Int.pow_succ _ _
  obtain ⟨k', a, b⟩ := add_rep hr (by omega) h0 h1 (by omega)
  refine ⟨k', ?_, b⟩
  unfold av1_pen_num_y1
  rw [w_u64 h0 (by omega)]
  show (Option.bind (bits_Add none k n w) fun x1 => _) = _
  rw [bnd a]
theorem penA_loop {α σ ρ : Type} {l : List α} {W : α → List α → List Int} {F : List α → List Int} (F0 : F [] = []) (F1 : ∀ a r, F (a :: r) = W a r ++ F r) (st : Nat → av1_pen → σ) {step : σ → Option (σ ⊕ ρ)}
    (h : ∀ done a r k L, l = done ++ a :: r → RepK k L → L.length + (W a r).length ≤ 500000000 → ∃ k', step (st done.length ⟨k⟩) = some (.inl (st (done.length + 1) ⟨k'⟩)) ∧ RepK k' (L ++ W a r)) :
    ∀ (rest done : List α) (k : Ink) (L : List Int), l = done ++ rest → RepK k L → L.length + (F rest).length ≤ 500000000 → ∃ k', loopG none step (st done.length ⟨k⟩) = loopG none step (st l.length ⟨k'⟩) ∧ RepK k' (L ++ F rest)
  | [], done, k, L, hl, hr, hb => by
    have : done = l := by rw [hl]; simp
    rw [this, F0, List.append_nil]
    exact ⟨k, rfl, hr⟩
  | a :: rest, done, k, L, hl, hr, hb => by
    rw [F1, List.length_append] at hb
    obtain ⟨k1, q1, q2⟩ := h done a rest k L hl hr (by omega)
    rw [loop_inl q1]
    obtain ⟨k2, r1, r2⟩ := penA_loop F0 F1 st h rest (done ++ [a]) k1 (L ++ W a rest) (by rw [hl]; simp) q2 (by rw [List.length_append]; omega)
    rw [List.length_append, List.length_singleton] at r1
    exact ⟨k2, r1, by rw [F1, ← List.append_assoc]; exact r2⟩
theorem truthsP {l : List Bool} (hl : l.length ≤ 1000) {k : Ink} {L : List Int} (hr : RepK k L) (hb : L.length + (l.flatMap wb).length ≤ 500000000) :
    ∃ k', av1_pen_truths_y1 none l ⟨k⟩ = some ⟨k'⟩ ∧ RepK k' (L ++ l.flatMap wb) := by
  unfold av1_pen_truths_y1 av1_pen_truths_y1_l1
  obtain ⟨k', a, b⟩ := penA_loop (ρ := av1_pen) (l := l) (W := fun x _ => wb x) (F := fun r => r.flatMap wb) rfl (fun _ _ => rfl) (fun i p => (((i : Nat) : Int), p)) (step := fun (s : Int × av1_pen) => av1_pen_truths_y1_s1 none l s.1 s.2) (fun done x r k L hd hr hb => by
    show ∃ k', av1_pen_truths_y1_s1 none l done.length ⟨k⟩ = _ ∧ _
    have hlen : l.length = done.length + (r.length + 1) := by rw [hd]; simp
    unfold av1_pen_truths_y1_s1 av1_pen_truths_y1_j2
    rw [if_pos (lt_done hd), bnd (ix_done hd)]
    cases x with
    | true =>
      obtain ⟨k', q1, q2⟩ := numP (n := 1) (w := 1) (wi := 1) rfl (by decide) (by decide) (by decide) hr hb
      exact ⟨k', by rw [if_pos rfl, bnd q1, ar_add, w_i64 (by omega) (by omega)]; rfl, q2⟩
    | false =>
      obtain ⟨k', q1, q2⟩ := numP (n := 0) (w := 1) (wi := 1) rfl (by decide) (by decide) (by decide) hr hb
      exact ⟨k', by rw [if_neg (by decide), bnd q1, ar_add, w_i64 (by omega) (by omega)]; rfl, q2⟩) l [] k L rfl hr hb
  refine ⟨k', a.trans (loop_inr ?_), b⟩
  show av1_pen_truths_y1_s1 none l l.length ⟨k'⟩ = _
  unfold av1_pen_truths_y1_s1
  rw [if_neg (ge_done l)]; rfl
theorem groups_eq {n : Int} (h : 1 ≤ n ∧ n ≤ 4096) : av1_groups none n = some (grp n) := by
  unfold av1_groups av1_groups_l1
  have st : ∀ (v : Nat), 1 ≤ v → v ≤ 3 → av1_groups_s1 none n (v : Int) = if 0 < (n - 1) / 2 ^ (4 * v) then some (.inl ((v : Int) + 1)) else some (.inr (v : Int)) := by
    intro v v0 v3
    unfold av1_groups_s1
    have e4 : ar .mul .i64 4 (v : Int) = ((4 * v : Nat) : Int) := by rw [ar_mul, w_i64 (by omega) (by omega)]; omega
    rw [e4, ar_sub, w_i64 (by omega) (by omega), sfO_nn (by omega)]
    have hs : sf .shr .i64 (n - 1) ((4 * v : Nat) : Int) = (n - 1) / 2 ^ (4 * v) := sf_shr rfl (by show 4 * v ≤ 64; omega)
    rw [hs]
    simp only [Option.bind_some]
    rw [cm_gtr, ar_add, w_i64 (by omega) (by omega)]
    by_cases q : 0 < (n - 1) / 2 ^ (4 * v)
    · rw [if_pos (by simpa using q), if_pos q]
    · rw [if_neg (by simpa using q), if_neg q]; rfl
  have s1 := st 1 (by decide) (by decide)
  have s2 := st 2 (by decide) (by decide)
  have s3 := st 3 (by decide) (by decide)
  unfold grp
  by_cases h1 : n ≤ 16
  · rw [if_pos h1]
    rw [if_neg (by show ¬ 0 < (n - 1) / 2 ^ 4; omega)] at s1
    exact loop_inr s1
  · rw [if_neg h1]
    rw [if_pos (by show 0 < (n - 1) / 2 ^ 4; omega)] at s1
    have l1 := loop_inl (step := fun s => av1_groups_s1 none n s) (s := ((1 : Nat) : Int)) s1
    by_cases h2 : n ≤ 256
    · rw [if_pos h2]
      rw [if_neg (by show ¬ 0 < (n - 1) / 2 ^ 8; omega)] at s2
      exact l1.trans (loop_inr s2)
    · rw [if_neg h2]
      rw [if_pos (by show 0 < (n - 1) / 2 ^ 8; omega)] at s2
      rw [if_neg (by show ¬ 0 < (n - 1) / 2 ^ 12; omega)] at s3
      have l2 := loop_inl (step := fun s => av1_groups_s1 none n s) (s := ((2 : Nat) : Int)) s2
      exact l1.trans (l2.trans (loop_inr s3))
theorem moreP6 {f : Frame} (hl : f.chains.length ≤ 1000) (hm : ∀ n, n ∈ f.chains → 0 ≤ n ∧ n ≤ 255) {k : Ink} {L : List Int} (hr : RepK k L) (hb : L.length + (f.chains.flatMap (nb 8)).length ≤ 500000000) :
    ∃ k', av1_pen_more_y1_j5 none f ⟨k⟩ = some ⟨k'⟩ ∧ RepK k' (L ++ f.chains.flatMap (nb 8)) := by
  unfold av1_pen_more_y1_j5 av1_pen_more_y1_l6
  obtain ⟨k', a, b⟩ := penA_loop (ρ := av1_pen) (l := f.chains) (W := fun n _ => nb 8 n) (F := fun r => r.flatMap (nb 8)) rfl (fun _ _ => rfl) (fun i p => (((i : Nat) : Int), p)) (step := fun (s : Int × av1_pen) => av1_pen_more_y1_s6 none f s.1 s.2) (fun done n r k L hd hr hb => by
    show ∃ k', av1_pen_more_y1_s6 none f done.length ⟨k⟩ = _ ∧ _
    have hlen : f.chains.length = done.length + (r.length + 1) := by rw [hd]; simp
    have hn := hm n (by rw [hd]; simp)
    obtain ⟨k', q1, q2⟩ := numP (w := 8) (wi := 8) rfl (by decide) hn.1 (by show n < (256 : Int); omega) hr hb
    refine ⟨k', ?_, q2⟩
    unfold av1_pen_more_y1_s6
    rw [if_pos (lt_done hd), bnd (ix_done hd), bnd q1, ar_add, w_i64 (by omega) (by omega)]; rfl) f.chains [] k L rfl hr hb
  refine ⟨k', a.trans (loop_inr ?_), b⟩
  show av1_pen_more_y1_s6 none f f.chains.length ⟨k'⟩ = _
  unfold av1_pen_more_y1_s6
  rw [if_neg (ge_done f.chains)]; rfl
theorem moreP4 {f : Frame} (hd0 : if f.ownDiffs then f.diffs.length ≤ 16 ∧ ∀ n, n ∈ f.diffs → 1 ≤ n ∧ n ≤ 4096 else f.diffs = []) (hl : f.chains.length ≤ 1000) (hm : ∀ n, n ∈ f.chains → 0 ≤ n ∧ n ≤ 255) {k : Ink} {L : List Int} (hr : RepK k L)
    (hb : L.length + ((if f.ownDiffs then difAW f.diffs else []) ++ f.chains.flatMap (nb 8)).length ≤ 500000000) :
    ∃ k', av1_pen_more_y1_l4 none f 0 ⟨k⟩ = some ⟨k'⟩ ∧ RepK k' (L ++ ((if f.ownDiffs then difAW f.diffs else []) ++ f.chains.flatMap (nb 8))) := by
  have hdm : f.diffs.length ≤ 16 ∧ ∀ n, n ∈ f.diffs → 1 ≤ n ∧ n ≤ 4096 := by
    split at hd0
    · exact hd0
    · rw [hd0]; exact ⟨by simp, fun _ h => absurd h List.not_mem_nil⟩
  have hW : (if f.ownDiffs then difAW f.diffs else []) = f.diffs.flatMap (fun n => nb 2 (grp n) ++ nb (4 * grp n).toNat (n - 1)) ++ (if f.ownDiffs then nb 2 0 else []) := by
    split at hd0
    · rename_i h; rw [if_pos h, if_pos h]; rfl
    · rename_i h; rw [if_neg h, if_neg h, hd0]; rfl
  rw [hW] at hb ⊢
  simp only [List.length_append] at hb
  unfold av1_pen_more_y1_l4
  obtain ⟨k1, a1, b1⟩ := penA_loop (ρ := av1_pen) (l := f.diffs) (W := fun n _ => nb 2 (grp n) ++ nb (4 * grp n).toNat (n - 1)) (F := fun r => r.flatMap (fun n => nb 2 (grp n) ++ nb (4 * grp n).toNat (n - 1))) rfl (fun _ _ => rfl) (fun i p => (((i : Nat) : Int), p)) (step := fun (s : Int × av1_pen) => av1_pen_more_y1_s4 none f s.1 s.2) (fun done n r k L hd hr hb => by
    show ∃ k', av1_pen_more_y1_s4 none f done.length ⟨k⟩ = _ ∧ _
    have hlen : f.diffs.length = done.length + (r.length + 1) := by rw [hd]; simp
    have hn := hdm.2 n (by rw [hd]; simp)
    have hdl := hdm.1
    obtain ⟨g1, g2, g3⟩ := grp_bd hn.2
    simp only [List.length_append] at hb
    obtain ⟨k1, q1, q2⟩ := numP (n := grp n) (w := 2) (wi := 2) rfl (by decide) (by omega) (by show grp n < (4 : Int); omega) hr (by omega)
    obtain ⟨k2, r1, r2⟩ := numP (n := n - 1) (w := (4 * grp n).toNat) (wi := ((4 * grp n).toNat : Nat)) rfl (by omega) (by omega) (by omega) q2 (by rw [List.length_append]; omega)
    refine ⟨k2, ?_, by rw [← List.append_assoc]; exact r2⟩
    unfold av1_pen_more_y1_s4
    have e4 : ar .mul .i64 4 (grp n) = ((4 * grp n).toNat : Nat) := by rw [ar_mul, w_i64 (by omega) (by omega)]; omega
    rw [if_pos (lt_done hd), bnd (ix_done hd), bnd (groups_eq hn), bnd q1, e4, ar_sub, w_i64 (n := n - 1) (by omega) (by omega), bnd r1, ar_add, w_i64 (by omega) (by omega)]; rfl) f.diffs [] k L rfl hr (by omega)
  have hend : ∀ m, (if f.ownDiffs then Option.bind (av1_pen_num_y1 none 0 2 ⟨k1⟩) fun x20 => av1_pen_more_y1_j5 none f x20 else av1_pen_more_y1_j5 none f ⟨k1⟩) = m → loopG none (fun (s : Int × av1_pen) => av1_pen_more_y1_s4 none f s.1 s.2) ((f.diffs.length : Int), ⟨k1⟩) = m := fun m hm => by
    refine loop_map ?_
    show av1_pen_more_y1_s4 none f f.diffs.length ⟨k1⟩ = _
    unfold av1_pen_more_y1_s4
    rw [if_neg (ge_done f.diffs), hm]
  by_cases h : f.ownDiffs = true
  · rw [if_pos h] at hb ⊢
    obtain ⟨k2, q1, q2⟩ := numP (n := 0) (w := 2) (wi := 2) rfl (by decide) (by decide) (by decide) b1 (by rw [List.length_append]; omega)
    obtain ⟨k3, r1, r2⟩ := moreP6 hl hm q2 (by simp only [List.length_append]; omega)
    refine ⟨k3, a1.trans (hend _ ?_), by simp only [List.append_assoc] at r2 ⊢; exact r2⟩
    rw [if_pos h, bnd q1, r1]
  · rw [if_neg h] at hb ⊢
    obtain ⟨k3, r1, r2⟩ := moreP6 hl hm b1 (by simp only [List.length_append, List.length_nil] at hb ⊢; omega)
    refine ⟨k3, a1.trans (hend _ ?_), by simp only [List.append_assoc, List.nil_append] at r2 ⊢; exact r2⟩
    rw [if_neg h, r1]
theorem moreP2 {f : Frame} (hd0 : if f.ownDiffs then f.diffs.length ≤ 16 ∧ ∀ n, n ∈ f.diffs → 1 ≤ n ∧ n ≤ 4096 else f.diffs = []) (hl : f.chains.length ≤ 1000) (hm : ∀ n, n ∈ f.chains → 0 ≤ n ∧ n ≤ 255)
    (hml : f.marks.length ≤ 1000) (hmm : ∀ n, n ∈ f.marks → 0 ≤ n ∧ n ≤ 3) {k : Ink} {L : List Int} (hr : RepK k L)
    (hb : L.length + (f.marks.flatMap (nb 2) ++ ((if f.ownDiffs then difAW f.diffs else []) ++ f.chains.flatMap (nb 8))).length ≤ 500000000) :
    ∃ k', av1_pen_more_y1_j2 none f ⟨k⟩ = some ⟨k'⟩ ∧ RepK k' (L ++ (f.marks.flatMap (nb 2) ++ ((if f.ownDiffs then difAW f.diffs else []) ++ f.chains.flatMap (nb 8)))) := by
  rw [List.length_append] at hb
  unfold av1_pen_more_y1_j2 av1_pen_more_y1_l3
  obtain ⟨k1, a1, b1⟩ := penA_loop (ρ := av1_pen) (l := f.marks) (W := fun n _ => nb 2 n) (F := fun r => r.flatMap (nb 2)) rfl (fun _ _ => rfl) (fun i p => (((i : Nat) : Int), p)) (step := fun (s : Int × av1_pen) => av1_pen_more_y1_s3 none f s.1 s.2) (fun done n r k L hd hr hb => by
    show ∃ k', av1_pen_more_y1_s3 none f done.length ⟨k⟩ = _ ∧ _
    have hlen : f.marks.length = done.length + (r.length + 1) := by rw [hd]; simp
    have hn := hmm n (by rw [hd]; simp)
    obtain ⟨k', q1, q2⟩ := numP (w := 2) (wi := 2) rfl (by decide) hn.1 (by show n < (4 : Int); omega) hr hb
    refine ⟨k', ?_, q2⟩
    unfold av1_pen_more_y1_s3
    rw [if_pos (lt_done hd), bnd (ix_done hd), bnd q1, ar_add, w_i64 (by omega) (by omega)]; rfl) f.marks [] k L rfl hr (by omega)
  obtain ⟨k2, a2, b2⟩ := moreP4 hd0 hl hm b1 (by simp only [List.length_append] at hb ⊢; omega)
  refine ⟨k2, a1.trans (loop_map ?_), by rw [← List.append_assoc]; exact b2⟩
  show av1_pen_more_y1_s3 none f f.marks.length ⟨k1⟩ = _
  unfold av1_pen_more_y1_s3
  rw [if_neg (ge_done f.marks), a2]
/-- are there more than the first three bytes? -/
def moreF (f : Frame) : Bool := (((f.hasStructure || f.hasActive) || f.ownMarks) || f.ownDiffs) || f.ownChains
def DF (f : Frame) : List Int := if f.ownDiffs then difAW f.diffs else []
theorem RightF.lens {f : Frame} {known : Structure} (h : RightF f known) : (f.marks.length ≤ 1000 ∧ ∀ n, n ∈ f.marks → 0 ≤ n ∧ n ≤ 3) ∧ (f.diffs.length ≤ 1000) ∧ (f.chains.length ≤ 1000 ∧ ∀ n, n ∈ f.chains → 0 ≤ n ∧ n ≤ 255) := by
  have h2 := h.st.targets; have h3 := h.st.chains
  refine ⟨?_, ?_, ?_⟩
  · have := h.marks
    split at this
    · exact ⟨by omega, this.2⟩
    · rw [this]; exact ⟨by simp, fun _ h => absurd h List.not_mem_nil⟩
  · have := h.diffs
    split at this
    · omega
    · rw [this]; simp
  · have := h.chains
    split at this
    · exact ⟨by omega, this.2⟩
    · rw [this]; exact ⟨by simp, fun _ h => absurd h List.not_mem_nil⟩
theorem morePP {f : Frame} {known : Structure} (h : RightF f known) {k : Ink} {L : List Int} (hr : RepK k L)
    (hb : L.length + (flW (flOf f) ++ ((if f.hasActive then nb (stOf f known).targets.toNat f.active else []) ++ (f.marks.flatMap (nb 2) ++ (DF f ++ f.chains.flatMap (nb 8))))).length ≤ 500000000) :
    ∃ k', av1_pen_more_y1 none f (stOf f known) ⟨k⟩ = some ⟨k'⟩ ∧ RepK k' (L ++ (flW (flOf f) ++ ((if f.hasActive then nb (stOf f known).targets.toNat f.active else []) ++ (f.marks.flatMap (nb 2) ++ (DF f ++ f.chains.flatMap (nb 8)))))) := by
  obtain ⟨⟨m1, m2⟩, _, m4, m5⟩ := h.lens
  have h2 := h.st.targets
  have ha := h.active
  have hfl : flW (flOf f) = [f.hasStructure, f.hasActive, f.ownMarks, f.ownDiffs, f.ownChains].flatMap wb ++ (if f.hasStructure then stW f.structure_ else []) := by
    unfold flW flOf
    simp only [List.flatMap_cons, List.flatMap_nil, List.append_nil, List.append_assoc]
  rw [hfl] at hb ⊢
  simp only [List.length_append] at hb
  unfold av1_pen_more_y1
  obtain ⟨k1, a1, b1⟩ := truthsP (l := [f.hasStructure, f.hasActive, f.ownMarks, f.ownDiffs, f.ownChains]) (by simp) hr (by omega)
  rw [bnd a1]
  have fin : ∀ (k2 : Ink) (M : List Int), RepK k2 M → M.length + ((if f.hasActive then nb (stOf f known).targets.toNat f.active else []).length + ((f.marks.flatMap (nb 2)).length + ((DF f).length + (f.chains.flatMap (nb 8)).length))) ≤ 500000000 →
      ∃ k', av1_pen_more_y1_j1 none (stOf f known) f ⟨k2⟩ = some ⟨k'⟩ ∧ RepK k' (M ++ ((if f.hasActive then nb (stOf f known).targets.toNat f.active else []) ++ (f.marks.flatMap (nb 2) ++ (DF f ++ f.chains.flatMap (nb 8))))) := by
    intro k2 M hr2 hb2
    unfold av1_pen_more_y1_j1
    by_cases hA : f.hasActive = true
    · rw [if_pos hA] at hb2 ⊢
      have hp := pow32 (n := (stOf f known).targets.toNat) (by omega)
      obtain ⟨k3, q1, q2⟩ := numP (n := f.active) (w := (stOf f known).targets.toNat) (wi := (stOf f known).targets) (by omega) (by omega) ha.1.1 ha.1.2 hr2 (by omega)
      obtain ⟨k4, r1, r2⟩ := moreP2 h.diffs m4 m5 m1 m2 q2 (by simp only [List.length_append]; exact Nat.le_trans (by unfold DF; omega) hb2)
      refine ⟨k4, ?_, by rw [if_pos hA, ← List.append_assoc]; exact r2⟩
      rw [w_i64 (by omega) (by omega), bnd q1]
      exact r1
    · rw [if_neg hA] at hb2 ⊢
      obtain ⟨k4, r1, r2⟩ := moreP2 h.diffs m4 m5 m1 m2 hr2 (by simp only [List.length_append]; exact Nat.le_trans (by unfold DF; simp only [List.length_nil]; omega) hb2)
      exact ⟨k4, r1, by rw [if_neg hA, List.nil_append]; exact r2⟩
  by_cases hS : f.hasStructure = true
  · rw [if_pos hS] at hb ⊢
    have hst : stOf f known = f.structure_ := by unfold stOf sOf; rw [if_pos hS]
    have hRT : RightT f.structure_ := by have := h.st; rwa [hst] at this
    obtain ⟨k2, a2, b2⟩ := put_ok hRT b1 (by rw [List.length_append]; omega)
    obtain ⟨k3, a3, b3⟩ := fin k2 _ b2 (by simp only [List.length_append]; omega)
    refine ⟨k3, ?_, by rw [if_pos hS]; simp only [List.append_assoc] at b3 ⊢; exact b3⟩
    simp only
    rw [bnd a2]
    exact a3
  · rw [if_neg hS] at hb ⊢
    obtain ⟨k3, a3, b3⟩ := fin k1 _ b1 (by simp only [List.length_append, List.length_nil] at hb ⊢; omega)
    exact ⟨k3, a3, by rw [if_neg hS, List.append_nil]; simp only [List.append_assoc] at b3 ⊢; exact b3⟩
theorem noMore {f : Frame} {known : Structure} (h : RightF f known) (hm : moreF f = false) : flOf f = zFL ∧ f.active = 0 ∧ f.marks = [] ∧ f.diffs = [] ∧ f.chains = [] := by
  unfold moreF at hm
  simp only [Bool.or_eq_false_iff] at hm
  obtain ⟨⟨⟨⟨h1, h2⟩, h3⟩, h4⟩, h5⟩ := hm
  have a := h.active.2; have b := h.marks; have c := h.diffs; have d := h.chains; have e := h.own
  rw [h1] at e; rw [h2] at a; rw [h3] at b; rw [h4] at c; rw [h5] at d
  refine ⟨?_, a.resolve_left (by decide), b, c, d⟩
  unfold flOf zFL
  rw [h1, h2, h3, h4, h5, e.resolve_left (by decide)]
theorem frW_no {f : Frame} {known : Structure} (h : RightF f known) (hm : moreF f = false) (more : Bool) : frW more f known (DF f) = wb f.start ++ (wb f.end_ ++ (nb 6 f.template ++ (nb 16 f.number ++ (if more then [0, 0, 0, 0, 0] else [])))) := by
  obtain ⟨h1, h2, h3, h4, h5⟩ := noMore h hm
  have h6 : f.ownDiffs = false := by have := congrArg (fun x : FL => x.2.2.2.1) h1; exact this
  have h7 : f.hasActive = false := by have := congrArg (fun x : FL => x.2.1) h1; exact this
  unfold frW DF
  rw [h1, h3, h5, h6, h7]
  cases more <;> simp [flW, zFL, wb, nb]
theorem frW_yes {f : Frame} {known : Structure} : frW true f known (DF f) = wb f.start ++ (wb f.end_ ++ (nb 6 f.template ++ (nb 16 f.number ++ (flW (flOf f) ++ ((if f.hasActive then nb (stOf f known).targets.toNat f.active else []) ++ (f.marks.flatMap (nb 2) ++ (DF f ++ f.chains.flatMap (nb 8)))))))) := rfl
theorem frW_len {f : Frame} {known : Structure} (h : RightF f known) (more : Bool) : (frW more f known (DF f)).length ≤ 100000 ∧ 24 ≤ (frW more f known (DF f)).length := by
  obtain ⟨⟨m1, m2⟩, m3, m4, m5⟩ := h.lens
  have h2 := h.st.targets
  have a1 : (f.marks.flatMap (nb 2)).length ≤ 2 * f.marks.length := flat_le fun _ _ => by rw [nb_len]; exact Nat.le_refl _
  have a2 : (f.chains.flatMap (nb 8)).length ≤ 8 * f.chains.length := flat_le fun _ _ => by rw [nb_len]; exact Nat.le_refl _
  have a3 : (DF f).length ≤ 20000 := by
    have hd := h.diffs
    unfold DF
    split at hd
    · rename_i q
      rw [if_pos q]
      have := flat_le (W := fun n => nb 2 (grp n) ++ nb (4 * grp n).toNat (n - 1)) (n := 14) (l := f.diffs) fun n hn => by
        have := (grp_bd (hd.2 n hn).2)
        rw [List.length_append, nb_len, nb_len]; omega
      unfold difAW
      rw [List.length_append, nb_len]; omega
    · rename_i q; rw [if_neg q]; simp
  have a4 : (flW (flOf f)).length ≤ 40005 := by
    unfold flW flOf
    simp only [List.length_append, wb, nb_len]
    split
    · rename_i q
      have : RightT f.structure_ := by have := h.st; unfold stOf sOf at this; rwa [if_pos q] at this
      have := (stW_len this).1
      omega
    · simp
  have a5 : (if more then flW (flOf f) else []).length ≤ 40005 := by
    cases more
    · simp
    · exact a4
  have a6 : (if f.hasActive then nb (stOf f known).targets.toNat f.active else []).length ≤ 32 := by
    cases f.hasActive
    · simp
    · rw [if_pos rfl, nb_len]; omega
  unfold frW
  simp only [List.length_append, wb, nb_len]
  omega
theorem frame_bytes {f : Frame} {known : Structure} (h : RightF f known) : ∃ k : Ink, (Option.bind (av1_pen_truths_y1 none [f.start, f.end_] (av1_pen.mk (Ink.mk [] 0))) fun x2 => Option.bind (av1_pen_num_y1 none f.template 6 x2) fun x3 => Option.bind (av1_pen_num_y1 none f.number 16 x3) fun x4 =>
    if ((((f.hasStructure || f.hasActive) || f.ownMarks) || f.ownDiffs) || f.ownChains) then Option.bind (av1_pen_more_y1 none f (av1_structure f known) x4) fun x6 => av1_Write_j1 none x6 else av1_Write_j1 none x4) = some (k.bytes, 0) ∧ RepK k (frW (moreF f) f known (DF f)) := by
  have hl := frW_len h (moreF f)
  have ht := h.templ; have hn := h.number
  obtain ⟨k1, a1, b1⟩ := truthsP (l := [f.start, f.end_]) (by simp) RepK.nil (by simp [wb, nb_len])
  obtain ⟨k2, a2, b2⟩ := numP (n := f.template) (w := 6) (wi := 6) rfl (by decide) ht.1 (by show _ < (64 : Int); exact ht.2) b1 (by simp [wb, nb_len])
  obtain ⟨k3, a3, b3⟩ := numP (n := f.number) (w := 16) (wi := 16) rfl (by decide) hn.1 (by omega) b2 (by simp [wb, nb_len])
  rw [bnd a1, bnd a2, bnd a3]
  have es : av1_structure f known = stOf f known := rfl
  rw [es]
  cases hm : moreF f with
  | true =>
    have hm' := hm
    unfold moreF at hm'
    rw [hm', if_pos rfl]
    rw [hm, frW_yes] at hl
    obtain ⟨k4, a4, b4⟩ := morePP h b3 (by simp only [List.length_append] at hl ⊢; simp only [wb, nb_len, List.flatMap_cons, List.flatMap_nil, List.length_append, List.length_nil] at hl ⊢; omega)
    rw [bnd a4]
    refine ⟨k4, rfl, ?_⟩
    rw [frW_yes]
    simp only [List.append_assoc, List.flatMap_cons, List.flatMap_nil, List.nil_append] at b4 ⊢
    exact b4
  | false =>
    have hm' := hm
    unfold moreF at hm'
    rw [hm', if_neg (by decide)]
    refine ⟨k3, rfl, ?_⟩
    rw [frW_no h hm]
    simp only [List.append_assoc, List.flatMap_cons, List.flatMap_nil, List.nil_append, Bool.false_eq_true, if_false, List.append_nil] at b3 ⊢
    exact b3
end Xb

namespace Xb
open Go

structure SmF (f : Frame) : Prop where
  st : SmT f.structure_
  marks : f.marks.length ≤ 1000
  diffs : f.diffs.length ≤ 1000
  chains : f.chains.length ≤ 1000
  active : 0 ≤ f.active ∧ f.active ≤ 4294967295
theorem iteP {b : Bool} {P Q R : Prop} (h : if b then P else R) (f : P → Q) : if b then Q else R := by
  cases b
  · exact h
  · exact f h
theorem zT_sm : SmT zT := ⟨by simp [zT], by simp [zT], by simp [zT], fun t ht => by simp [zT] at ht⟩
theorem zF_sm : SmF zF := ⟨zT_sm, by simp [zF], by simp [zF], by simp [zF], by simp [zF]⟩
theorem stOf_sm {f : Frame} {known : Structure} (hf : SmF f) (hk : SmT known) : SmT (stOf f known) := by
  unfold stOf sOf; split
  · exact hf.st
  · exact hk
theorem own_eq {is_ : Bool} {l : List Int} (hl : l.length ≤ 1000) (a b c d : Int) : ∃ x, av1_own none is_ l a b c d = some x ∧ (x = true ↔ if is_ then (a ≤ l.length ∧ (l.length : Int) ≤ b) ∧ ∀ n, n ∈ l → c ≤ n ∧ n ≤ d else l = []) := by
  unfold av1_own
  cases is_ with
  | false => exact ⟨_, if_pos (by rfl), by rw [cm_eql]; simp⟩
  | true =>
    rw [if_neg (by decide)]
    refine ⟨_, gand fun _ => ContainsFunc_int_eq (p := fun n => av1_own_1 n c d) (by omega) fun _ _ => rfl, ?_⟩
    simp only [Bool.and_eq_true, Bool.not_eq_true', List.any_eq_false, cm_geq, cm_leq, decide_eq_true_eq, av1_own_1, cm_lss, cm_gtr, Bool.or_eq_true, if_true]
    exact ⟨fun h => ⟨h.1, fun n hn => by have := h.2 n hn; omega⟩, fun h => ⟨h.1, fun n hn => by have := h.2 n hn; omega⟩⟩
theorem numbered_eq {f : Frame} (ha : 0 ≤ f.active ∧ f.active ≤ 4294967295) {s : Structure} (hs : 0 ≤ s.targets ∧ s.targets ≤ 32) : ∃ x, av1_numbered f s = some x ∧ (x = true ↔ (0 ≤ f.template ∧ f.template < 64) ∧ (0 ≤ f.number ∧ f.number ≤ 65535) ∧ f.active < 2 ^ s.targets.toNat ∧ (f.hasActive = true ∨ f.active = 0)) := by
  unfold av1_numbered
  rw [w_u64 ha.1 (by omega), sfO_nn hs.1]
  have hs2 : sf .shr .u64 f.active s.targets = f.active / 2 ^ s.targets.toNat := sf_shr (by omega) (by show s.targets.toNat ≤ 64; omega)
  rw [hs2]
  simp only [Option.bind_some]
  refine ⟨_, rfl, ?_⟩
  have hp : (0 : Int) < 2 ^ s.targets.toNat := Int.pow_pos (by decide)
  have e : f.active / 2 ^ s.targets.toNat = 0 ↔ f.active < 2 ^ s.targets.toNat := by
    constructor
    · intro h
      have := Int.lt_mul_ediv_self_add hp (x := f.active)
      rw [h] at this; simpa using this
    · exact fun h => Int.ediv_eq_zero_of_lt ha.1 h
  simp only [Bool.and_eq_true, Bool.or_eq_true, cm_geq, cm_lss, cm_leq, cm_eql, decide_eq_true_eq, e]
  constructor
  · rintro ⟨⟨⟨⟨a, b⟩, c⟩, d⟩, e, f⟩; exact ⟨⟨a, b⟩, ⟨c, d⟩, e, f⟩
  · rintro ⟨⟨a, b⟩, ⟨c, d⟩, e, f⟩; exact ⟨⟨⟨⟨a, b⟩, c⟩, d⟩, e, f⟩
noncomputable def rF (f : Frame) (known : Structure) : Bool := @decide (RightF f known) (Classical.propDecidable _)
theorem rF_iff {f : Frame} {known : Structure} : rF f known = true ↔ RightF f known := by simp [rF]
theorem fright_eq {f : Frame} {known : Structure} (hf : SmF f) (hk : SmT known) : av1_Right none f known = some (rF f known) := by
  suffices h : ∃ x, av1_Right none f known = some x ∧ (x = true ↔ RightF f known) by
    obtain ⟨x, a, b⟩ := h
    rw [a]; congr 1; rw [Bool.eq_iff_iff, b, rF_iff]
  have es : av1_structure f known = stOf f known := rfl
  have hs := stOf_sm hf hk
  unfold av1_Right
  rw [es, bnd (may_eq hk)]
  have no : ∀ {m : Option Bool}, m = some false → ¬ RightF f known → ∃ x, m = some x ∧ (x = true ↔ RightF f known) := fun h q => ⟨false, h, by simp only [Bool.false_eq_true, false_iff]; exact q⟩
  cases hm : rMay known with
  | false =>
    refine no ?_ fun h => ?_
    · simp only [Bool.not_false, Bool.not_true, gTF, Option.bind_some, Bool.true_or, Bool.false_and]; rw [if_pos trivial]
    · rw [rMay_iff.2 h.may] at hm; cases hm
  | true =>
    have hM := rMay_iff.1 hm
    simp only [Bool.not_true, Bool.not_false, gTT, Bool.false_or]
    rw [bnd (right_eq hs)]
    cases ht : rT (stOf f known) with
    | false =>
      refine no ?_ fun h => ?_
      · simp only [Bool.not_false, Bool.not_true, gTF, Option.bind_some, Bool.true_or, Bool.false_and]; rw [if_pos trivial]
      · rw [rT_iff.2 h.st] at ht; cases ht
    | true =>
      have hT := rT_iff.1 ht
      have htg := hT.targets; have hch := hT.chains
      simp only [Bool.not_true, Bool.not_false, Bool.true_and, Bool.false_or]
      have h3 : ∃ y, (gT (!f.hasStructure) (templ_Same none f.structure_ (Structure.mk 0 0 0 [] [] []))) = some y ∧ (((!f.hasStructure) && (!y)) = true ↔ ¬ (f.hasStructure = true ∨ f.structure_ = zT)) := by
        cases hS : f.hasStructure with
        | true => exact ⟨default, by rw [Bool.not_true, gTF], by simp⟩
        | false =>
          refine ⟨decide (f.structure_ = zT), by rw [Bool.not_false, gTT]; exact tsame_eq hf.st, ?_⟩
          simp
      obtain ⟨y, y1, y2⟩ := h3
      rw [y1]
      simp only [Option.bind_some]
      by_cases hown : f.hasStructure = true ∨ f.structure_ = zT
      · rw [if_neg (fun h => y2.1 h hown)]
        obtain ⟨x4, n1, n2⟩ := numbered_eq hf.active (s := stOf f known) (by omega)
        rw [bnd n1]
        by_cases h4 : x4 = true
        · have n3 := n2.1 h4
          rw [h4, place_eq n3.1 hT.id]
          by_cases hp : plc f.template (stOf f known) < (stOf f known).templates.length
          · rw [if_pos hp, if_neg (by rw [cm_eql]; unfold plc; simp; omega)]
            obtain ⟨x5, o1, p1⟩ := own_eq (is_ := f.ownMarks) hf.marks (stOf f known).targets (stOf f known).targets 0 3
            obtain ⟨x6, o2, p2⟩ := own_eq (is_ := f.ownDiffs) hf.diffs 0 16 1 4096
            obtain ⟨x7, o3, p3⟩ := own_eq (is_ := f.ownChains) hf.chains (stOf f known).chains (stOf f known).chains 0 255
            have := gT3 (b1 := true) o1 o2 o3
            simp only [gTT, Bool.true_and] at this
            refine ⟨_, this, ?_⟩
            simp only [Bool.and_eq_true, p1, p2, p3]
            constructor
            · rintro ⟨⟨a, b⟩, c⟩
              refine ⟨hM, hT, hown, n3.1, n3.2.1, ⟨⟨hf.active.1, n3.2.2.1⟩, n3.2.2.2⟩, hp, ?_, ?_, ?_⟩
              · exact iteP a fun q => ⟨by omega, q.2⟩
              · exact iteP b fun q => ⟨by omega, q.2⟩
              · exact iteP c fun q => ⟨by omega, q.2⟩
            · intro h
              refine ⟨⟨?_, ?_⟩, ?_⟩
              · exact iteP h.marks fun q => ⟨by omega, q.2⟩
              · exact iteP h.diffs fun q => ⟨by omega, q.2⟩
              · exact iteP h.chains fun q => ⟨by omega, q.2⟩
          · rw [if_neg hp]
            exact no (by rw [if_pos (by rfl)]) fun h => hp h.place
        · refine no ?_ fun h => h4 (n2.2 ⟨h.templ, h.number, h.active.1.2, h.active.2⟩)
          rw [if_pos (by simp at h4; rw [h4]; rfl)]
      · exact no (by rw [if_pos (y2.2 hown)]) fun h => hown h.own
theorem ints_eq {a b : List Int} (ha : a.length ≤ 100000) : ref24_Ints none a b = some (decide (a = b)) := by
  unfold ref24_Ints ref24_Ints_l1
  by_cases hl : a.length = b.length
  · rw [if_neg (by rw [cm_neq]; simp; omega)]
    refine same_loop (step := fun (s : Int) => ref24_Ints_s1 none a b s) hl (by
      simp only [ref24_Ints_s1, cm_lss, decide_eq_true_eq]
      rw [if_neg (by omega)]; rfl) (fun i hi hi' => by
      simp only [ref24_Ints_s1, cm_lss, decide_eq_true_eq]
      rw [if_pos (by omega), bnd (ix_some rfl hi), bnd (ix_some rfl hi'), cm_neq]
      by_cases hp : a[i] = b[i]
      · rw [if_neg (by simpa using hp), if_neg (by simpa using hp), ar_add, w_i64 (by omega) (by omega)]; rfl
      · rw [if_pos (by simpa using hp), if_pos (by simpa using hp)]; rfl)
  · rw [if_pos (by rw [cm_neq]; simp; omega)]
    have : a ≠ b := fun e => hl (by rw [e])
    simp [this]
theorem bequal_eq {a b : List Int} (ha : a.length ≤ 10000000) : slices_Equal_byte none a b = some (decide (a = b)) := by
  unfold slices_Equal_byte slices_Equal_byte_l1
  by_cases hl : a.length = b.length
  · rw [if_neg (by rw [cm_neq]; simp; omega)]
    refine same_loop (step := fun (s : Int) => slices_Equal_byte_s1 none a b s) hl (by
      simp only [slices_Equal_byte_s1, cm_lss, decide_eq_true_eq]
      rw [if_neg (by omega)]; rfl) (fun i hi hi' => by
      simp only [slices_Equal_byte_s1, cm_lss, decide_eq_true_eq]
      rw [if_pos (by omega), bnd (ix_some rfl hi), bnd (ix_some rfl hi'), cm_neq]
      by_cases hp : a[i] = b[i]
      · rw [if_neg (by simpa using hp), if_neg (by simpa using hp), ar_add, w_i64 (by omega) (by omega)]; rfl
      · rw [if_pos (by simpa using hp), if_pos (by simpa using hp)]; rfl)
  · rw [if_pos (by rw [cm_neq]; simp; omega)]
    have : a ≠ b := fun e => hl (by rw [e])
    simp [this]
theorem bq_neq {a b : Bool} : bq .neq a b = !decide (a = b) := by cases a <;> cases b <;> rfl
theorem bq_eql {a b : Bool} : bq .eql a b = decide (a = b) := by cases a <;> cases b <;> rfl
theorem gTn3 {c : Bool} {m1 m2 m3 : Option Bool} {x1 x2 x3 : Bool} {α : Type} {A B : Option α} (e1 : m1 = some x1) (e2 : m2 = some x2) (e3 : m3 = some x3) :
    (Option.bind (gT (!c) m1) fun y1 => Option.bind (gT (!(c || (!y1))) m2) fun y2 => Option.bind (gT (!((c || (!y1)) || (!y2))) m3) fun y3 => if (((c || (!y1)) || (!y2)) || (!y3)) then A else B) = if (!c && x1 && x2 && x3) then B else A := by
  subst e1; subst e2; subst e3
  cases c <;> cases x1 <;> cases x2 <;> cases x3 <;> simp [gTT, gTF]
theorem rsame_eq {a b : Structure} (ha : SmT a) : ref26_Same none a b = some (decide (a = b)) := by
  have h1 := ha.protect; have h2 := ha.sizes; have h3 := ha.templates
  unfold ref26_Same
  have head : ∀ (c : Bool) (q : Bool) (m : Option Bool) (x : Bool) (d e : Bool) (A : Option Bool), m = some x → (Option.bind (gT (!c) m) fun y1 => if (((c || (!y1)) || d) || e) then some false else A) = if (c || !x || d || e) then some false else A := by
    intro c q m x d e A hm
    subst hm
    cases c <;> cases x <;> simp [gTT, gTF]
  rw [head _ true _ _ _ _ _ (ints_eq (b := b.protect) (by omega))]
  by_cases hc : (a.id_ = b.id_ ∧ a.targets = b.targets ∧ a.chains = b.chains) ∧ a.protect = b.protect ∧ a.templates.length = b.templates.length ∧ a.sizes.length = b.sizes.length
  · obtain ⟨⟨c1, c2, c3⟩, c4, c5, c6⟩ := hc
    rw [if_neg (by simp [cm_neq, c1, c2, c3, c4, c5, c6])]
    unfold ref26_Same_l1
    have hl2 : ref26_Same_l2 none a b 0 = some (decide (a.templates = b.templates)) := by
      unfold ref26_Same_l2
      refine same_loop (step := fun (s : Int) => ref26_Same_s2 none a b s) c5 (by
        simp only [ref26_Same_s2, cm_lss, decide_eq_true_eq]
        rw [if_neg (by omega)]; rfl) (fun i hi hi' => by
        simp only [ref26_Same_s2, cm_lss, decide_eq_true_eq]
        have ht := ha.each a.templates[i] (List.getElem_mem hi)
        rw [if_pos (by omega), bnd (ix_some rfl hi), bnd (ix_some rfl hi')]
        rw [gTn3 (ints_eq (by omega)) (ints_eq (by omega)) (ints_eq (by omega)), ar_add, w_i64 (by omega) (by omega)]
        have e : (!(cm .neq a.templates[i].sid b.templates[i].sid || cm .neq a.templates[i].tid b.templates[i].tid) && decide (a.templates[i].marks = b.templates[i].marks) && decide (a.templates[i].diffs = b.templates[i].diffs) && decide (a.templates[i].chains = b.templates[i].chains)) = decide (a.templates[i] = b.templates[i]) := by
          rw [Bool.eq_iff_iff]
          generalize a.templates[i] = x
          generalize b.templates[i] = y
          obtain ⟨x1, x2, x3, x4, x5⟩ := x; obtain ⟨y1, y2, y3, y4, y5⟩ := y
          simp [cm_neq, and_assoc]
        rw [e]
        by_cases hp : a.templates[i] = b.templates[i]
        · rw [if_pos (by simpa using hp), if_neg (by simpa using hp)]; rfl
        · rw [if_neg (by simpa using hp), if_pos (by simpa using hp)]; rfl)
    have := same_loopG (step := fun (s : Int) => ref26_Same_s1 none a b s) (a := a.sizes) (b := b.sizes) c6 (fun i => ((i : Nat) : Int)) (r := decide (a.templates = b.templates)) (by
      show ref26_Same_s1 none a b (a.sizes.length : Int) = _
      unfold ref26_Same_s1
      rw [if_neg (by rw [cm_lss]; simp), hl2]; rfl) (fun i hi hi' => by
      show ref26_Same_s1 none a b (i : Int) = _
      unfold ref26_Same_s1
      rw [if_pos (by rw [cm_lss]; simpa using hi), bnd (ix_some rfl hi), bnd (ix_some rfl hi')]
      have e : (!(a.sizes[i].wide == b.sizes[i].wide && (a.sizes[i].high == b.sizes[i].high && true))) = decide (a.sizes[i] ≠ b.sizes[i]) := by
        rw [Bool.eq_iff_iff]
        generalize a.sizes[i] = x
        generalize b.sizes[i] = y
        obtain ⟨x1, x2⟩ := x; obtain ⟨y1, y2⟩ := y
        simp
      rw [e, ar_add, w_i64 (by omega) (by omega)]
      by_cases q : a.sizes[i] = b.sizes[i]
      · rw [if_neg (by simpa using q), if_neg (by simpa using q)]; rfl
      · rw [if_pos (by simpa using q), if_pos (by simpa using q)]; rfl)
    refine this.trans ?_
    congr 1
    rw [Bool.eq_iff_iff]
    obtain ⟨a1, a2, a3, a4, a5, a6⟩ := a; obtain ⟨b1, b2, b3, b4, b5, b6⟩ := b
    simp only [Bool.and_eq_true, decide_eq_true_eq, Structure.mk.injEq] at *
    exact ⟨fun h => ⟨c1, c2, c3, c4, h.2, h.1⟩, fun h => ⟨h.2.2.2.2.2, h.2.2.2.2.1⟩⟩
  · rw [if_pos ?_]
    · have : a ≠ b := fun e => hc (by subst e; exact ⟨⟨rfl, rfl, rfl⟩, rfl, rfl, rfl⟩)
      simp [this]
    · simp only [cm_neq, Bool.or_eq_true, Bool.not_eq_true', decide_eq_false_iff_not, Int.natCast_inj]
      exact Classical.byContradiction fun h => hc (by
        simp only [not_or, Classical.not_not] at h
        exact ⟨⟨h.1.1.1.1.1, h.1.1.1.1.2, h.1.1.1.2⟩, h.1.1.2, h.1.2, h.2⟩)
theorem fsame_eq {a b : Frame} (ha : SmF a) : ref27_Same none a b = some (decide (a = b)) := by
  have h1 := ha.marks; have h2 := ha.diffs; have h3 := ha.chains; have h4 := ha.st
  unfold ref27_Same
  obtain ⟨a1, a2, a3, a4, a5, a6, a7, a8, a9, a10, a11, a12, a13, a14⟩ := a
  obtain ⟨b1, b2, b3, b4, b5, b6, b7, b8, b9, b10, b11, b12, b13, b14⟩ := b
  simp only at h1 h2 h3 h4
  simp only [Frame.mk.injEq]
  by_cases hc : a1 = b1 ∧ a2 = b2 ∧ a3 = b3 ∧ a4 = b4 ∧ a5 = b5 ∧ a7 = b7 ∧ a8 = b8
  · obtain ⟨c1, c2, c3, c4, c5, c7, c8⟩ := hc
    rw [if_neg (by simp [cm_neq, bq_neq, c1, c2, c3, c4, c5, c7, c8])]
    have head : ∀ (c : Bool) (m : Option Bool) (x : Bool) (A : Option Bool), m = some x → (Option.bind (gT (!c) m) fun y1 => if (c || (!y1)) then some false else A) = if (c || !x) then some false else A := by
      intro c m x A hm
      subst hm
      cases c <;> cases x <;> simp [gTT, gTF]
    rw [head _ _ _ _ (rsame_eq h4)]
    by_cases hd : (a9 = b9 ∧ a11 = b11 ∧ a13 = b13) ∧ a6 = b6
    · obtain ⟨⟨d1, d2, d3⟩, d4⟩ := hd
      rw [if_neg (by simp [bq_neq, d1, d2, d3, d4])]
      have := gT3 (b1 := true) (ints_eq (a := a10) (b := b10) (by omega)) (ints_eq (a := a12) (b := b12) (by omega)) (ints_eq (a := a14) (b := b14) (by omega))
      simp only [gTT, Bool.true_and] at this
      rw [this]
      congr 1
      rw [Bool.eq_iff_iff]
      simp only [Bool.and_eq_true, decide_eq_true_eq]
      exact ⟨fun ⟨⟨x, y⟩, z⟩ => ⟨c1, c2, c3, c4, c5, d4, c7, c8, d1, x, d2, y, d3, z⟩, fun h => ⟨⟨h.2.2.2.2.2.2.2.2.2.1, h.2.2.2.2.2.2.2.2.2.2.2.1⟩, h.2.2.2.2.2.2.2.2.2.2.2.2.2⟩⟩
    · rw [if_pos ?_]
      · congr 1
        rw [eq_comm, decide_eq_false_iff_not]
        exact fun ⟨_, _, _, _, _, d4, _, _, d1, _, d2, _, d3, _⟩ => hd ⟨⟨d1, d2, d3⟩, d4⟩
      · simp only [bq_neq, Bool.or_eq_true, Bool.not_eq_true', decide_eq_false_iff_not]
        exact Classical.byContradiction fun h => hd (by
          simp only [not_or, Classical.not_not] at h
          exact ⟨⟨h.1.1.1, h.1.1.2, h.1.2⟩, h.2⟩)
  · rw [if_pos ?_]
    · congr 1
      rw [eq_comm, decide_eq_false_iff_not]
      exact fun ⟨c1, c2, c3, c4, c5, _, c7, c8, _⟩ => hc ⟨c1, c2, c3, c4, c5, c7, c8⟩
    · simp only [cm_neq, bq_neq, Bool.or_eq_true, Bool.not_eq_true', decide_eq_false_iff_not]
      exact Classical.byContradiction fun h => hc (by
        simp only [not_or, Classical.not_not] at h
        exact ⟨h.1.1.1.1.1.1, h.1.1.1.1.1.2, h.1.1.1.1.2, h.1.1.1.2, h.1.1.2, h.1.2, h.2⟩)
theorem fshort_eq {f : Frame} (hw : wf_Frame f) : ∃ x, ref27_Short none f = some x ∧ (x = true → SmF f) := by
  unfold ref27_Short
  obtain ⟨x, s1, s2⟩ := tshort_eq (s := f.structure_) hw.2.2.2.2.2.1
  rw [bnd s1]
  refine ⟨_, rfl, fun h => ?_⟩
  simp only [Bool.and_eq_true, cm_leq, decide_eq_true_eq] at h
  exact ⟨s2 h.1.1.1, by omega, by omega, by omega, in_u32.1 hw.2.2.2.2.2.2.2.1⟩
theorem RightF.sm {f : Frame} {known : Structure} (h : RightF f known) : SmF f := by
  obtain ⟨⟨m1, _⟩, m3, m4, _⟩ := h.lens
  have ha := h.active.1
  have hp := pow32 (n := (stOf f known).targets.toNat) (by have := h.st.targets; omega)
  refine ⟨?_, m1, m3, m4, ha.1, by omega⟩
  rcases h.own with q | q
  · have := h.st; unfold stOf sOf at this; rw [if_pos q] at this; exact this.sm
  · rw [q]; exact zT_sm
theorem May.sm {s : Structure} (h : May s) : SmT s := by
  rcases h with h | rfl
  · exact h.sm
  · exact zT_sm
open Classical in
noncomputable def wrF (f : Frame) (known : Structure) : List Int := if h : RightF f known then ((frame_bytes h).choose).bytes else []
theorem wrF_spec {f : Frame} {known : Structure} (h : RightF f known) : ∃ k : Ink, k.bytes = wrF f known ∧ RepK k (frW (moreF f) f known (DF f)) := by
  unfold wrF
  rw [dif_pos h]
  exact ⟨_, rfl, (frame_bytes h).choose_spec.2⟩
theorem fwrite_eq {f : Frame} {known : Structure} (hf : SmF f) (hk : SmT known) : av1_Write none f known = some (if rF f known then (wrF f known, 0) else ([], 1)) := by
  unfold av1_Write
  rw [bnd (fright_eq hf hk)]
  cases h : rF f known with
  | false => rfl
  | true =>
    have hr := rF_iff.1 h
    rw [if_neg (by decide)]
    refine (frame_bytes hr).choose_spec.1.trans ?_
    unfold wrF
    rw [dif_pos hr]; rfl
theorem wrF_bits {f : Frame} {known : Structure} (h : RightF f known) : U8 (wrF f known) ∧ ∃ P, P.length < 8 ∧ bitsOf (wrF f known) = frW (moreF f) f known (DF f) ++ P := by
  obtain ⟨k, hk, hr⟩ := wrF_spec h
  rw [← hk]
  refine ⟨hr.ok.u8, _, ?_, hr.all⟩
  have := hr.ok.ge
  rw [List.length_replicate]; omega
theorem wrF_len {f : Frame} {known : Structure} (h : RightF f known) : 3 ≤ (wrF f known).length ∧ (wrF f known).length ≤ 20000 ∧ (3 < (wrF f known).length ↔ moreF f = true) := by
  obtain ⟨_, P, h1, h2⟩ := wrF_bits h
  have hl := congrArg List.length h2
  rw [bitsOf_len, List.length_append] at hl
  have hb := frW_len h (moreF f)
  refine ⟨by omega, by omega, ?_⟩
  cases hm : moreF f with
  | false =>
    rw [hm, frW_no h hm] at hl
    simp only [List.length_append, wb, nb_len, Bool.false_eq_true, if_false, List.length_nil] at hl
    simp; omega
  | true =>
    rw [hm, frW_yes] at hl
    unfold flW at hl
    simp only [List.length_append, wb, nb_len] at hl
    simp; omega
theorem DF_Q {f : Frame} {known : Structure} (h : RightF f known) : if f.ownDiffs then DifQ 16 f.diffs (DF f) else DF f = [] := by
  have hd := h.diffs
  unfold DF
  split
  · rename_i q
    rw [if_pos q] at hd
    exact DifQ.of hd.1 hd.2
  · rfl
/-- what is written is read -/
theorem frame_full {f : Frame} {known : Structure} (h : RightF f known) {more : Bool} (hm : more = true ∨ moreF f = false) (rest : List Int) : frameS known more (.ok (frW more f known (DF f) ++ rest)) = (f, .ok rest) :=
  ((Ex.frame h.may more).cod f _ ⟨h, hm.imp (fun h => h) fun q => (noMore h q).1, DF f, DF_Q h, rfl⟩).full rest
theorem read_wr {f : Frame} {known : Structure} (h : RightF f known) : rdF (wrF f known) known = (f, 0) := by
  obtain ⟨_, P, h1, h2⟩ := wrF_bits h
  obtain ⟨l1, l2, l3⟩ := wrF_len h
  unfold rdF
  rw [if_neg (by omega)]
  have e : decide (3 < (wrF f known).length) = moreF f := by
    cases hm : moreF f with
    | true => exact decide_eq_true (l3.2 hm)
    | false => exact decide_eq_false fun q => by rw [l3.1 q] at hm; cases hm
  rw [e, h2, frame_full h (by cases moreF f <;> simp)]
  show (if P.length < 8 then _ else _) = _
  rw [if_pos h1]
/-- what is read is right -/
theorem rdF_cases {b : List Int} {known : Structure} (hb : By b) (hm : May known) : (∃ f, rdF b known = (f, 0) ∧ RightF f known) ∨ (∃ e, e ≠ 0 ∧ rdF b known = (zF, e)) := by
  unfold rdF
  by_cases h3 : b.length < 3
  · rw [if_pos h3]; exact .inr ⟨2, by decide, rfl⟩
  · rw [if_neg h3]
    cases hs : frameS known (decide (3 < b.length)) (.ok (bitsOf b)) with
    | mk f z =>
      cases z with
      | ok R =>
        obtain ⟨X, _, h2, _⟩ := (Ex.frame hm _).dec _ _ _ (bitsOf_bin b) hs
        show (∃ g, (if R.length < 8 then (f, 0) else (zF, 4)) = (g, 0) ∧ RightF g known) ∨ ∃ e, e ≠ 0 ∧ (if R.length < 8 then (f, 0) else (zF, 4)) = (zF, e)
        by_cases h8 : R.length < 8
        · rw [if_pos h8]; exact .inl ⟨f, rfl, h2⟩
        · rw [if_neg h8]; exact .inr ⟨4, by decide, rfl⟩
      | error e =>
        right
        obtain ⟨g, c', _, b1, _⟩ := frameA hb hm (decide (3 < b.length)) (Rep.start b)
        rw [hs] at b1
        exact ⟨e, b1.st.2, rfl⟩
theorem fcanon_eq {b : List Int} {known : Structure} (hb : By b) (hk : SmT known) (hm : May known) : av1_Canon none b known = some (decide ((rdF b known).2 = 0 ∧ wrF (rdF b known).1 known = b)) := by
  unfold av1_Canon
  rw [bnd (aread_eq hb hk hm)]
  rcases rdF_cases hb hm with ⟨f, h1, h2⟩ | ⟨e, h1, h2⟩
  · rw [h1]
    simp only
    rw [if_neg (by decide), bnd (fwrite_eq h2.sm hk), rF_iff.2 h2, if_pos rfl]
    simp only
    have := wrF_len h2
    rw [gand (b := cm .eql (0 : Int) 0) (F := fun x => x) fun _ => bequal_eq (by omega), show cm .eql (0 : Int) 0 = true from rfl]
    simp
  · rw [h2]
    simp only
    rw [if_pos (by rw [cm_neq]; simpa using h1)]
    simp [h1]
theorem fcanon_no {b : List Int} {known : Structure} (hk : SmT known) (h : ¬ May known) : av1_Canon none b known = some false := by
  unfold av1_Canon
  rw [bnd (aread_no hk h)]
  simp only
  rw [if_pos (by decide)]
end Xb

namespace Xb
open Go

theorem By.of {b : List Int} (h : U8 b) (hl : b.length ≤ 100000000000) : By b := ⟨h, hl⟩
theorem zFd : decide (zF = Frame.mk false false 0 0 false (Structure.mk 0 0 0 [] [] []) false 0 false [] false [] false []) = true := decide_eq_true rfl
theorem aback_j1 {b : List Int} {known : Structure} (hb : By b) (hk : SmT known) (hl : b.length ≤ 3000) : law27_Av1Back_j1 none b known = some true := by
  unfold law27_Av1Back_j1
  by_cases hm : May known
  · rw [bnd (aread_eq hb hk hm)]
    have hc := fcanon_eq hb hk hm
    rcases rdF_cases hb hm with ⟨f, h1, h2⟩ | ⟨e, h1, h2⟩
    · rw [h1] at hc ⊢
      simp only at hc ⊢
      have hw := wrF_len h2
      have hwu := (wrF_bits h2).1
      rw [if_neg (by decide), bnd (fwrite_eq h2.sm hk), rF_iff.2 h2, if_pos rfl]
      simp only
      rw [bnd (aread_eq (.of hwu (by omega)) hk hm), read_wr h2]
      simp only
      have c0 : cm .eql (0 : Int) 0 = true := rfl
      rw [c0, Bool.and_self, gTT, bnd (fright_eq h2.sm hk), rF_iff.2 h2]
      simp only [Bool.true_and, gTT]
      rw [bnd (fsame_eq h2.sm), decide_eq_true (rfl : f = f), gTT, bnd hc, sc_b2s hwu hb.u8, bq_eql]
      simp
    · rw [h2] at hc ⊢
      simp only at hc ⊢
      rw [if_pos (by rw [cm_neq]; simpa using h1), bnd (fsame_eq zF_sm), zFd, gTT, bnd hc]
      simp [h1]
  · rw [bnd (aread_no hk hm)]
    simp only
    rw [if_pos (by decide), bnd (fsame_eq zF_sm), zFd, gTT, bnd (fcanon_no hk hm)]; rfl
theorem av1Back_true {f g : Frame} {known : Structure} {b : List Int} {more : Int} (hf : wf_Frame f) (hg : wf_Frame g) (hk : wf_Structure known) (hb : b.length ≤ maxLen ∧ ∀ x, x ∈ b → inK .u8 x) (hmo : inK .u8 more) : law27_Av1Back none f g known b more = some true := by
  unfold law27_Av1Back
  obtain ⟨x1, s1, s2⟩ := fshort_eq hf
  obtain ⟨x2, t1, t2⟩ := fshort_eq hg
  obtain ⟨x3, u1, u2⟩ := tshort_eq hk
  rw [bnd s1]
  cases x1 with
  | false => simp [gTF]
  | true =>
    simp only [Bool.not_true, Bool.not_false, gTT, Bool.false_or]
    rw [bnd t1]
    cases x2 with
    | false => simp [gTF]
    | true =>
      simp only [Bool.not_true, Bool.not_false, gTT, Bool.false_or]
      rw [bnd u1]
      cases x3 with
      | false => simp
      | true =>
        by_cases hlen : b.length ≤ 3000
        · rw [if_neg (by simp [cm_gtr]; omega)]
          have hu : U8 b := fun x hx => in_u8.1 (hb.2 x hx)
          have hB : By b := .of hu (by omega)
          have hF := s2 rfl
          have hG := t2 rfl
          have hK := u2 rfl
          have fin := aback_j1 hB hK hlen
          rw [bnd (fwrite_eq hF hK), bnd (fwrite_eq hG hK)]
          cases hr : rF f known with
          | false =>
            simp only [Bool.false_eq_true, if_false]
            rw [if_neg (by decide)]
            exact fin
          | true =>
            have hR := rF_iff.1 hr
            obtain ⟨l1, l2, l3⟩ := wrF_len hR
            obtain ⟨wu, P, p1, p2⟩ := wrF_bits hR
            have hWB : By (wrF f known) := .of wu (by omega)
            have hM := hR.may
            simp only [if_true]
            rw [if_pos (by decide), bnd (aread_eq hWB hK hM), read_wr hR]
            simp only
            have c0 : cm .neq (0 : Int) 0 = false := rfl
            rw [c0, Bool.not_false, gTT, bnd (fsame_eq hF), decide_eq_true (rfl : f = f)]
            simp only [Bool.not_true, Bool.not_false, Bool.false_or, gTT]
            have hca := fcanon_eq hWB hK hM
            rw [read_wr hR] at hca
            have e1 : decide ((f, (0 : Int)).2 = 0 ∧ wrF (f, (0 : Int)).1 known = wrF f known) = true := by simp
            rw [e1] at hca
            rw [bnd hca]
            have c3 : cm .lss ((wrF f known).length : Int) 3 = false := by rw [cm_lss]; exact decide_eq_false (by omega)
            rw [c3]
            simp only [Bool.not_true, Bool.not_false, Bool.false_or, Bool.true_and]
            have tailp : (Option.bind (app ([] : List Int) (wrF f known)) fun x19 => Option.bind (app x19 [more]) fun x20 => Option.bind (av1_Read none x20 known) fun x21 => if ((cm .gtr ((wrF f known).length : Int) 3) && (cm .neq x21.2 4)) then some false else
                Option.bind (app ([] : List Int) (wrF f known)) fun x22 => Option.bind (app x22 [0]) fun x23 => Option.bind (av1_Canon none x23 known) fun x24 => if x24 then some false else law27_Av1Back_j1 none b known) = some true := by
              have hmu := in_u8.1 hmo
              have hB1 : ∀ y : Int, 0 ≤ y ∧ y ≤ 255 → By (wrF f known ++ [y]) := fun y hy => .of (wu.app fun x hx => by rw [List.mem_singleton] at hx; rw [hx]; exact hy) (by simp; omega)
              have rd1 : ∀ y : Int, 3 < (wrF f known).length → rdF (wrF f known ++ [y]) known = (zF, 4) := fun y h3 => by
                have hm := l3.1 h3
                unfold rdF
                rw [if_neg (by simp; omega), decide_eq_true (by simp; omega), bitsOf_app, p2, hm, List.append_assoc, frame_full hR (.inl rfl)]
                show (if (P ++ bitsOf [y]).length < 8 then _ else _) = _
                rw [if_neg (by rw [List.length_append, bitsOf_len]; simp only [List.length_singleton]; omega)]
              rw [bnd (app_some (by simp; omega)), List.nil_append, bnd (app_some (by simp; omega)), bnd (aread_eq (hB1 more hmu) hK hM), if_neg ?_, bnd (app_some (by simp; omega)), List.nil_append, bnd (app_some (by simp; omega)), bnd (fcanon_eq (hB1 0 (by decide)) hK hM), if_neg ?_]
              · exact fin
              · rw [decide_eq_true_eq]
                by_cases h3 : 3 < (wrF f known).length
                · rw [rd1 0 h3]; simp
                · have hm : moreF f = false := by
                    cases hm : moreF f with
                    | false => rfl
                    | true => exact absurd (l3.2 hm) h3
                  have hrd : rdF (wrF f known ++ [0]) known = (f, 0) := by
                    unfold rdF
                    rw [if_neg (by simp; omega), decide_eq_true (by simp; omega)]
                    have hP : P = [] := by
                      have := congrArg List.length p2
                      rw [bitsOf_len, List.length_append, hm, frW_no hR hm] at this
                      simp only [List.length_append, wb, nb_len, Bool.false_eq_true, if_false, List.length_nil] at this
                      exact List.length_eq_zero_iff.1 (by omega)
                    have hbits : bitsOf (wrF f known ++ [0]) = frW true f known (DF f) ++ [0, 0, 0] := by
                      rw [bitsOf_app, p2, hm, hP, frW_no hR hm, frW_no hR hm]
                      have : bitsOf [0] = [0, 0, 0, 0, 0, 0, 0, 0] := by rfl
                      rw [this]; simp
                    rw [hbits, frame_full hR (.inl rfl)]; rfl
                  rw [hrd]
                  rintro ⟨_, h⟩
                  have := congrArg List.length h
                  simp at this
              · simp only [Bool.and_eq_true, cm_gtr, cm_neq, decide_eq_true_eq]
                rintro ⟨h3, h4⟩
                rw [rd1 more (by omega)] at h4
                simp at h4
            cases hr2 : rF g known with
            | false =>
              simp only [Bool.false_eq_true, if_false]
              rw [show cm .eql (1 : Int) 0 = false from rfl, gTF]
              simp only [Option.bind_some, Bool.false_and]
              exact tailp
            | true =>
              have hR2 := rF_iff.1 hr2
              simp only [if_true]
              rw [show cm .eql (0 : Int) 0 = true from rfl, gTT, bnd (fsame_eq hF)]
              have e2 : bq .neq (sc .eql (b2s (wrF f known)) (b2s (wrF g known))) (decide (f = g)) = false := by
                rw [sc_b2s wu (wrF_bits hR2).1, bq_neq]
                by_cases q : f = g
                · simp [q]
                · have : ¬ wrF f known = wrF g known := fun h => q (by
                    have h1 := read_wr hR
                    rw [h, read_wr hR2] at h1
                    exact (congrArg Prod.fst h1).symm)
                  simp [q, this]
              rw [e2, Bool.true_and]
              exact tailp
        · rw [if_pos (by simp [cm_gtr]; omega)]
end Xb

