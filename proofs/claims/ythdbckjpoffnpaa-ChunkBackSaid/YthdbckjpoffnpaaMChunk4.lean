/- Own text: MChunk4. -/
import Derived.Test.YthdbckjpoffnpaaMChunk3
set_option linter.all false
set_option linter.unusedVariables false
set_option linter.unusedSimpArgs false
set_option linter.unnecessarySimpa false
set_option linter.deprecated false
/-! Chunks: reading. -/
namespace Xb
open Go

def readT : List Int → Nat → Except Int (List Int × Nat)
  | [], _ => .error 2
  | c :: cs, rem =>
    if (3 : Int) ∈ toldS c rem then .error 6
    else if (toldS c rem).length = rem then .ok (toldS c rem, 1)
    else match readT cs (rem - (toldS c rem).length) with
      | .ok (y, n) => .ok (toldS c rem ++ y, n + 1)
      | .error e => .error e

def rdR (out : List Int) (i : Nat) : Except Int (List Int × Nat) → List Int × Int × Int
  | .ok (y, n) => (out ++ y, ((i + n : Nat) : Int), 0)
  | .error e => ([], 0, e)

theorem read_loop {chunks : List Int} (hc : ∀ x, x ∈ chunks → 0 ≤ x ∧ x ≤ 65535) (hl : chunks.length ≤ 1000000) {count : Nat} (hcount : count ≤ 4000) : ∀ (m i : Nat) (out : List Int) (rem : Nat), i + m = chunks.length → 0 < rem → out.length + rem = count →
    loopG none (fun (s : List Int × Int) => chunk_Read_s1 none chunks (count : Int) s.1 s.2) (out, (i : Int)) = some (rdR out i (readT (chunks.drop i) rem))
  | 0, i, out, rem, hi, hr, ho => by
    refine (loop_inr (r := ([], 0, 2)) ?_).trans ?_
    · simp only [chunk_Read_s1, cm_lss, cm_eql, decide_eq_true_eq]
      rw [if_pos (by omega), if_pos (by omega)]; rfl
    · rw [List.drop_eq_nil_of_le (by omega)]; rfl
  | m + 1, i, out, rem, hi, hr, ho => by
    have hil : i < chunks.length := by omega
    have hd : chunks.drop i = chunks[i] :: chunks.drop (i + 1) := List.drop_eq_getElem_cons hil
    have hci := hc chunks[i] (List.getElem_mem hil)
    have hlen := told_len (c := chunks[i]) (most := rem)
    have hstep : ∀ u, (if (3 : Int) ∈ toldS chunks[i] rem then some (.inr (([] : List Int), (0 : Int), (6 : Int))) else if (toldS chunks[i] rem).length = rem then some (.inr (out ++ toldS chunks[i] rem, ((i + 1 : Nat) : Int), (0 : Int))) else some (.inl (out ++ toldS chunks[i] rem, ((i + 1 : Nat) : Int)))) = some u →
        chunk_Read_s1 none chunks (count : Int) out (i : Int) = some u := fun u hu => by
      rw [← hu]
      simp only [chunk_Read_s1, cm_lss, cm_eql, decide_eq_true_eq]
      have er : ar .sub .i64 (count : Int) (out.length : Int) = (rem : Int) := by rw [ar_sub, w_i64 (by omega) (by omega)]; omega
      have ei : ar .add .i64 (i : Int) 1 = ((i + 1 : Nat) : Int) := by rw [ar_add, w_i64 (by omega) (by omega)]; omega
      rw [if_pos (by omega), if_neg (by omega), bnd (ix_some rfl hil), er, bnd (told_eq hci.1 hci.2 (by omega)), bnd (Contains_eq (by omega)), ei]
      by_cases h3 : (3 : Int) ∈ toldS chunks[i] rem
      · rw [decide_eq_true h3, if_pos rfl, if_pos h3]; rfl
      · rw [decide_eq_false h3, if_neg (by decide), if_neg h3, bnd (app_some (by omega))]
        by_cases hq : (toldS chunks[i] rem).length = rem
        · rw [if_pos (by rw [List.length_append]; omega), if_pos hq]; rfl
        · rw [if_neg (by rw [List.length_append]; omega), if_neg hq]
    rw [hd, readT]
    by_cases h3 : (3 : Int) ∈ toldS chunks[i] rem
    · rw [if_pos h3]
      exact loop_inr (hstep _ (by rw [if_pos h3]; rfl))
    · rw [if_neg h3]
      by_cases hq : (toldS chunks[i] rem).length = rem
      · rw [if_pos hq]
        exact loop_inr (hstep _ (by rw [if_neg h3, if_pos hq]; rfl))
      · rw [if_neg hq]
        refine (loop_inl (hstep _ (by rw [if_neg h3, if_neg hq]))).trans ?_
        rw [read_loop hc hl hcount m (i + 1) (out ++ toldS chunks[i] rem) (rem - (toldS chunks[i] rem).length) (by omega) (by omega) (by rw [List.length_append]; omega)]
        cases readT (chunks.drop (i + 1)) (rem - (toldS chunks[i] rem).length) with
        | error e => rfl
        | ok p =>
          obtain ⟨y, n⟩ := p
          simp only [rdR, List.append_assoc]
          congr 4; omega

def readC (chunks : List Int) (count : Int) : Except Int (List Int × Nat) :=
  if count < 0 ∨ 4000 < count then .error 1 else if count = 0 then .ok ([], 0) else readT chunks count.toNat

theorem read_eq {chunks : List Int} (hc : ∀ x, x ∈ chunks → 0 ≤ x ∧ x ≤ 65535) (hl : chunks.length ≤ 1000000) {count : Int} : chunk_Read none chunks count = some (rdR [] 0 (readC chunks count)) := by
  unfold chunk_Read readC
  by_cases h : count < 0 ∨ 4000 < count
  · rw [if_pos (by rw [cm_lss, cm_gtr]; simpa using h), if_pos h]; rfl
  · rw [if_neg (by rw [cm_lss, cm_gtr]; simpa using h), if_neg h]
    obtain ⟨n, rfl⟩ : ∃ n : Nat, count = (n : Int) := ⟨count.toNat, by omega⟩
    unfold chunk_Read_l1
    by_cases h0 : (n : Int) = 0
    · rw [if_pos h0]
      refine loop_inr (r := ([], 0, 0)) ?_
      simp only [chunk_Read_s1, cm_lss, decide_eq_true_eq]
      rw [if_neg (by simp; omega)]; rfl
    · rw [if_neg h0]
      have := read_loop hc hl (count := n) (by omega) chunks.length 0 [] n (by omega) (by omega) (by simp)
      simpa using this

theorem canon_loop {chunks : List Int} (hl : chunks.length ≤ 1000000) : ∀ (m i : Nat) (l : List Int), i + m = chunks.length → vl l → l.length ≤ 4000 →
    loopG none (fun (s : List Int × Int) => chunk_Canon_s1 none chunks s.1 s.2) (l, (i : Int)) = some (decide (writeS l = chunks.drop i))
  | 0, i, l, hi, hv, hb => by
    refine (loop_inr (r := decide (l.length = 0)) ?_).trans ?_
    · simp only [chunk_Canon_s1, cm_lss, cm_eql, decide_eq_true_eq]
      rw [if_neg (by omega)]
      have : decide ((l.length : Int) = 0) = decide (l.length = 0) := decide_eq_decide.2 (by omega)
      rw [this]; rfl
    · rw [List.drop_eq_nil_of_le (by omega)]
      congr 1
      exact decide_eq_decide.2 (by rw [← writeS_nil_iff, List.length_eq_zero_iff])
  | m + 1, i, l, hi, hv, hb => by
    have hil : i < chunks.length := by omega
    have hd : chunks.drop i = chunks[i] :: chunks.drop (i + 1) := List.drop_eq_getElem_cons hil
    by_cases hl0 : l = []
    · subst hl0
      refine (loop_inr (r := false) ?_).trans ?_
      · simp only [chunk_Canon_s1, cm_lss, cm_eql, decide_eq_true_eq]
        rw [if_pos (by omega), bnd (ix_some rfl hil), if_pos (by simp)]; rfl
      · rw [hd, writeS_nil]; exact congrArg some (decide_eq_false (by intro h; cases h)).symm
    · have hp := firstS_pos hl0
      have hpos : 0 < l.length := List.length_pos_iff.2 hl0
      have ei : ar .add .i64 (i : Int) 1 = ((i + 1 : Nat) : Int) := by rw [ar_add, w_i64 (by omega) (by omega)]; omega
      by_cases hc : (firstS l).1 = chunks[i]
      · refine (loop_inl (s' := (l.drop (firstS l).2, ((i + 1 : Nat) : Int))) ?_).trans ?_
        · simp only [chunk_Canon_s1, cm_lss, cm_eql, cm_neq, decide_eq_true_eq]
          rw [if_pos (by omega), bnd (ix_some rfl hil), if_neg (by omega), bnd (first_eq (by omega) hl0 hv), if_neg (by simpa using hc), bnd (sub_some (by omega) (by omega) (by omega)), ei]
          have e : (l.drop (((firstS l).2 : Nat) : Int).toNat).take ((l.length : Int).toNat - (((firstS l).2 : Nat) : Int).toNat) = l.drop (firstS l).2 := by
            simp only [Int.toNat_natCast]
            exact List.take_of_length_le (by rw [List.length_drop]; omega)
          simp only [e]
        · rw [canon_loop hl m (i + 1) (l.drop (firstS l).2) (by omega) (hv.sub fun x hx => List.mem_of_mem_drop hx) (by rw [List.length_drop]; omega), hd, writeS_cons hl0, hc]
          congr 1
          exact decide_eq_decide.2 (by rw [List.cons.injEq]; exact ⟨fun h => ⟨rfl, h⟩, fun h => h.2⟩)
      · refine (loop_inr (r := false) ?_).trans ?_
        · simp only [chunk_Canon_s1, cm_lss, cm_eql, cm_neq, decide_eq_true_eq]
          rw [if_pos (by omega), bnd (ix_some rfl hil), if_neg (by omega), bnd (first_eq (by omega) hl0 hv), if_pos (by simpa using hc)]; rfl
        · rw [hd, writeS_cons hl0]; congr 1; exact (decide_eq_false (by rw [List.cons.injEq]; exact fun h => hc h.1)).symm

/-- what is read: how many, what, out of how many chunks -/
theorem readT_ok {cs : List Int} (hc : ∀ x, x ∈ cs → 0 ≤ x ∧ x ≤ 65535) : ∀ {rem : Nat} {y : List Int} {n : Nat}, readT cs rem = .ok (y, n) → y.length = rem ∧ vl y ∧ n ≤ cs.length := by
  induction cs with
  | nil => intro rem y n h; simp [readT] at h
  | cons c cs ih =>
    intro rem y n h
    have hci := hc c (by simp)
    have hin := told_in hci.1 hci.2 (most := rem)
    rw [readT] at h
    by_cases h3 : (3 : Int) ∈ toldS c rem
    · rw [if_pos h3] at h; cases h
    · rw [if_neg h3] at h
      have hvt : vl (toldS c rem) := fun x hx => by
        have := hin x hx
        have : x ≠ 3 := fun e => h3 (e ▸ hx)
        omega
      by_cases hq : (toldS c rem).length = rem
      · rw [if_pos hq] at h; cases h
        exact ⟨hq, hvt, by simp⟩
      · rw [if_neg hq] at h
        have hlen := told_len (c := c) (most := rem)
        cases hr : readT cs (rem - (toldS c rem).length) with
        | error e => rw [hr] at h; cases h
        | ok p =>
          obtain ⟨z, m⟩ := p
          rw [hr] at h; cases h
          obtain ⟨h1, h2, h4⟩ := ih (fun x hx => hc x (by simp [hx])) hr
          refine ⟨by rw [List.length_append, h1]; omega, fun x hx => (List.mem_append.1 hx).elim (hvt x) (h2 x), by simp; exact h4⟩

theorem readC_ok {cs : List Int} (hc : ∀ x, x ∈ cs → 0 ≤ x ∧ x ≤ 65535) {count : Int} {y : List Int} {n : Nat} (h : readC cs count = .ok (y, n)) : (y.length : Int) = count ∧ y.length ≤ 4000 ∧ vl y ∧ n ≤ cs.length := by
  unfold readC at h
  split at h
  · cases h
  · split at h
    · cases h; exact ⟨by simp; omega, by simp, fun x hx => by simp at hx, Nat.zero_le _⟩
    · obtain ⟨h1, h2, h3⟩ := readT_ok hc h
      exact ⟨by omega, by omega, h2, h3⟩

theorem canon_eq {chunks : List Int} (hc : ∀ x, x ∈ chunks → 0 ≤ x ∧ x ≤ 65535) (hl : chunks.length ≤ 1000000) {count : Int} :
    chunk_Canon none chunks count = some (match readC chunks count with | .ok (y, _) => decide (writeS y = chunks) | .error _ => false) := by
  unfold chunk_Canon
  rw [bnd (read_eq hc hl)]
  cases hr : readC chunks count with
  | error e =>
    have he : e ≠ 0 := by
      intro h0
      subst h0
      unfold readC at hr
      split at hr
      · cases hr
      · split at hr
        · cases hr
        · have : ∀ (cs : List Int) (rem : Nat), readT cs rem ≠ .error 0 := by
            intro cs
            induction cs with
            | nil => intro rem h; simp [readT] at h
            | cons c cs ih =>
              intro rem h
              rw [readT] at h
              split at h
              · simp at h
              · split at h
                · cases h
                · split at h
                  · cases h
                  · rename_i e' he'; cases h; exact ih _ he'
          exact this _ _ hr
    show (if cm .neq e 0 = true then some false else chunk_Canon_l1 none chunks [] 0) = some false
    rw [if_pos (by rw [cm_neq]; simpa using he)]
  | ok p =>
    obtain ⟨y, n⟩ := p
    obtain ⟨h1, h2, h3, h4⟩ := readC_ok hc hr
    show (if cm .neq (0 : Int) 0 = true then some false else chunk_Canon_l1 none chunks ([] ++ y) 0) = some (decide (writeS y = chunks))
    rw [if_neg (by decide), List.nil_append]
    unfold chunk_Canon_l1
    have := canon_loop hl chunks.length 0 y (by omega) h3 h2
    simpa using this
end Xb
