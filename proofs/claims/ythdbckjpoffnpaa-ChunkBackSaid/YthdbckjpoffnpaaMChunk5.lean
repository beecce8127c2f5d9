/- Own text: MChunk5. -/
import Derived.Test.YthdbckjpoffnpaaMChunk4
set_option linter.all false
set_option linter.unusedVariables false
set_option linter.unusedSimpArgs false
set_option linter.unnecessarySimpa false
set_option linter.deprecated false
/-! Chunks: written and read again. -/
namespace Xb
open Go

theorem takeWhile_eq_rep (l : List Int) (a : Int) : l.takeWhile (fun x => decide (x = a)) = List.replicate (l.takeWhile (fun x => decide (x = a))).length a := by
  rw [List.eq_replicate_iff]
  refine ⟨rfl, fun x hx => ?_⟩
  induction l with
  | nil => simp at hx
  | cons d l ih =>
    by_cases h : d = a
    · simp [h] at hx
      rcases hx with hx | hx
      · exact hx
      · exact ih hx
    · simp [h] at hx

theorem take_run (l : List Int) : l.take (runN l) = List.replicate (runN l) (l.headD 0) := by
  unfold runN
  have h := List.takeWhile_prefix (l := l) (fun x => decide (x = l.headD 0))
  rw [List.prefix_iff_eq_take] at h
  rw [← h]; exact takeWhile_eq_rep l (l.headD 0)

theorem padTo_take (n : Nat) (l : List Int) : (padTo n (l.take n)).take l.length = l.take n := by
  unfold padTo
  rcases Nat.le_total l.length n with h | h
  · rw [List.take_of_length_le (l := l) h, List.take_left' rfl]
  · have : (l.take n).length = n := by rw [List.length_take]; omega
    rw [this, Nat.sub_self, List.replicate_zero, List.append_nil]
    exact List.take_of_length_le (by omega)

theorem padTo_len {n : Nat} {l : List Int} (h : l.length ≤ n) : (padTo n l).length = n := by simp [padTo]; omega

/-- the kinds of a first chunk -/
theorem firstS_kind {l : List Int} (hn : l ≠ []) (hv : vl l) :
    (0 ≤ (firstS l).1 ∧ (firstS l).1 < 32768 ∧ ((firstS l).2 : Int) = (firstS l).1 % 8192 ∧ l.take (firstS l).2 = List.replicate (firstS l).2 ((firstS l).1 / 8192)) ∨
    (32768 ≤ (firstS l).1 ∧ (firstS l).1 < 49152 ∧ (firstS l).2 = min l.length 14 ∧ digs 2 14 (firstS l).1 = padTo 14 (l.take 14)) ∨
    (49152 ≤ (firstS l).1 ∧ (firstS l).1 < 65536 ∧ (firstS l).2 = min l.length 7 ∧ digs 4 7 (firstS l).1 = padTo 7 (l.take 7)) := by
  obtain ⟨a, l', rfl⟩ := List.exists_cons_of_ne_nil hn
  have ha := hv a (by simp)
  have hr := runN_le (a :: l')
  unfold firstS
  by_cases h : 14 ≤ runN (a :: l') ∨ runN (a :: l') = (a :: l').length
  · rw [if_pos h]
    left
    have hh : (a :: l').headD 0 = a := rfl
    rw [hh]
    refine ⟨by simp only; omega, by simp only; omega, by simp only; omega, ?_⟩
    have e : (a * 8192 + ((min (runN (a :: l')) 8191 : Nat) : Int)) / 8192 = a := by omega
    simp only
    rw [e]
    have := congrArg (List.take 8191) (take_run (a :: l'))
    rw [List.take_take, List.take_replicate, hh] at this
    rw [Nat.min_comm]; exact this
  · rw [if_neg h]
    right
    by_cases h2 : (2 : Int) ∈ (a :: l').take 14
    · rw [if_pos h2]
      right
      have hb : ∀ x, x ∈ padTo 7 ((a :: l').take 7) → 0 ≤ x ∧ x < ((4 : Nat) : Int) := fun x hx => by
        rcases List.mem_append.1 hx with h | h
        · have := hv x (List.mem_of_mem_take h); omega
        · have := (List.mem_replicate.1 h).2; omega
      have hlen : (padTo 7 ((a :: l').take 7)).length = 7 := padTo_len (by rw [List.length_take]; omega)
      have hbd := valB_bound (B := 4) (by omega) (l := padTo 7 ((a :: l').take 7)) (a := 3) hb
      have hd := digs_valB (B := 4) (by omega) (l := padTo 7 ((a :: l').take 7)) (a := 3) hb
      rw [hlen] at hbd hd
      exact ⟨by simp only; omega, by simp only; omega, rfl, hd⟩
    · rw [if_neg h2]
      left
      have hb : ∀ x, x ∈ padTo 14 ((a :: l').take 14) → 0 ≤ x ∧ x < ((2 : Nat) : Int) := fun x hx => by
        rcases List.mem_append.1 hx with h | h
        · have := hv x (List.mem_of_mem_take h)
          have : x ≠ 2 := fun e => h2 (e ▸ h)
          omega
        · have := (List.mem_replicate.1 h).2; omega
      have hlen : (padTo 14 ((a :: l').take 14)).length = 14 := padTo_len (by rw [List.length_take]; omega)
      have hbd := valB_bound (B := 2) (by omega) (l := padTo 14 ((a :: l').take 14)) (a := 2) hb
      have hd := digs_valB (B := 2) (by omega) (l := padTo 14 ((a :: l').take 14)) (a := 2) hb
      rw [hlen] at hbd hd
      exact ⟨by simp only; omega, by simp only; omega, rfl, hd⟩

theorem firstS_in {l : List Int} (hn : l ≠ []) (hv : vl l) : 0 ≤ (firstS l).1 ∧ (firstS l).1 ≤ 65535 := by
  rcases firstS_kind hn hv with h | h | h <;> omega

/-- a first chunk tells what it was made of -/
theorem told_first {l : List Int} (hn : l ≠ []) (hv : vl l) : toldS (firstS l).1 l.length = l.take (firstS l).2 := by
  have hp := firstS_pos hn
  rcases firstS_kind hn hv with ⟨h0, h1, h2, h3⟩ | ⟨h1, h2, h3, h4⟩ | ⟨h1, h2, h3, h4⟩
  · unfold toldS
    rw [if_pos h1, h3]
    congr 1; omega
  · unfold toldS
    rw [if_neg (by omega), if_pos h2, h4, h3, padTo_take, Nat.min_comm, ← List.take_eq_take_min]
  · unfold toldS
    rw [if_neg (by omega), if_neg (by omega), h4, h3, padTo_take, Nat.min_comm, ← List.take_eq_take_min]

theorem writeS_in : ∀ (k : Nat) {l : List Int}, l.length < k → vl l → ∀ x, x ∈ writeS l → 0 ≤ x ∧ x ≤ 65535
  | 0, _, h, _ => by omega
  | k + 1, l, h, hv => by
    intro x hx
    by_cases hl : l = []
    · subst hl; rw [writeS_nil] at hx; simp at hx
    · have hp := firstS_pos hl
      have hpos : 0 < l.length := List.length_pos_iff.2 hl
      rw [writeS_cons hl] at hx
      rcases List.mem_cons.1 hx with rfl | hx
      · exact firstS_in hl hv
      · exact writeS_in k (l := l.drop (firstS l).2) (by rw [List.length_drop]; omega) (hv.sub fun x hx => List.mem_of_mem_drop hx) x hx

theorem no3 {l : List Int} (hv : vl l) (n : Nat) : ¬ (3 : Int) ∈ l.take n := fun h => by have := hv 3 (List.mem_of_mem_take h); omega

theorem readT_write (more : List Int) : ∀ (k : Nat) {l : List Int}, l.length < k → vl l → l ≠ [] → readT (writeS l ++ more) l.length = .ok (l, (writeS l).length)
  | 0, _, h, _, _ => by omega
  | k + 1, l, h, hv, hl => by
    have hp := firstS_pos hl
    have hpos : 0 < l.length := List.length_pos_iff.2 hl
    have htl : (l.take (firstS l).2).length = (firstS l).2 := by rw [List.length_take]; omega
    rw [writeS_cons hl, List.cons_append, readT, told_first hl hv, if_neg (no3 hv _), htl]
    by_cases hq : (firstS l).2 = l.length
    · rw [if_pos hq]
      have : l.drop (firstS l).2 = [] := List.drop_eq_nil_of_le (by omega)
      rw [this, writeS_nil, List.take_of_length_le (by omega)]; rfl
    · rw [if_neg hq]
      have hne : l.drop (firstS l).2 ≠ [] := fun e => by have := congrArg List.length e; rw [List.length_drop] at this; simp at this; omega
      have ih := readT_write more k (l := l.drop (firstS l).2) (by rw [List.length_drop]; omega) (hv.sub fun x hx => List.mem_of_mem_drop hx) hne
      rw [List.length_drop] at ih
      rw [ih]
      simp only [List.take_append_drop, List.length_cons]

theorem readT_cut : ∀ (k : Nat) {l : List Int}, l.length < k → vl l → l ≠ [] → readT ((writeS l).dropLast) l.length = .error 2
  | 0, _, h, _, _ => by omega
  | k + 1, l, h, hv, hl => by
    have hp := firstS_pos hl
    have hpos : 0 < l.length := List.length_pos_iff.2 hl
    have htl : (l.take (firstS l).2).length = (firstS l).2 := by rw [List.length_take]; omega
    rw [writeS_cons hl]
    by_cases hq : (firstS l).2 = l.length
    · have : l.drop (firstS l).2 = [] := List.drop_eq_nil_of_le (by omega)
      rw [this, writeS_nil]; rfl
    · have hne : l.drop (firstS l).2 ≠ [] := fun e => by have := congrArg List.length e; rw [List.length_drop] at this; simp at this; omega
      have ih := readT_cut k (l := l.drop (firstS l).2) (by rw [List.length_drop]; omega) (hv.sub fun x hx => List.mem_of_mem_drop hx) hne
      have hwne : writeS (l.drop (firstS l).2) ≠ [] := by rw [writeS_cons hne]; simp
      rw [List.dropLast_cons_of_ne_nil hwne, readT, told_first hl hv, if_neg (no3 hv _), htl, if_neg hq]
      rw [List.length_drop] at ih
      rw [ih]

/-- the same chunks of two lists -/
theorem writeS_ovl : ∀ (k : Nat) {l m : List Int}, l.length < k → vl l → vl m → l ≠ [] → m ≠ [] → writeS l = writeS m → l.length ≠ m.length →
    32768 ≤ (writeS l).getD ((writeS l).length - 1) 0 ∧ l.length < m.length + 14 ∧ m.length < l.length + 14
  | 0, _, _, h, _, _, _, _, _, _ => by omega
  | k + 1, l, m, h, hv, hvm, hl, hm, he, hne => by
    have hp := firstS_pos hl
    have hpm := firstS_pos hm
    have hpos : 0 < l.length := List.length_pos_iff.2 hl
    have hposm : 0 < m.length := List.length_pos_iff.2 hm
    rw [writeS_cons hl, writeS_cons hm, List.cons.injEq] at he
    obtain ⟨h1, h2⟩ := he
    have hlast : ∀ (x : Int) (w : List Int), w ≠ [] → (x :: w).getD ((x :: w).length - 1) 0 = w.getD (w.length - 1) 0 := fun x w hw => by
      have : 0 < w.length := List.length_pos_iff.2 hw
      obtain ⟨j, hj⟩ : ∃ j, w.length = j + 1 := ⟨w.length - 1, by omega⟩
      simp [hj]
    by_cases hr : l.drop (firstS l).2 = []
    · have hr' : m.drop (firstS m).2 = [] := by
        have := congrArg List.length h2
        rw [hr, writeS_nil] at this
        have h3 := (writeS_nil_iff (l := m.drop (firstS m).2)).1 (by simpa using this.symm)
        exact List.length_eq_zero_iff.1 h3
      have e1 := congrArg List.length hr
      have e2 := congrArg List.length hr'
      rw [List.length_drop] at e1 e2
      simp only [List.length_nil] at e1 e2
      rw [writeS_cons hl, hr, writeS_nil]
      have k1 := firstS_kind hl hv
      have k2 := firstS_kind hm hvm
      refine ⟨?_, ?_, ?_⟩
      · show 32768 ≤ (firstS l).1
        rcases k1 with k1 | k1 | k1 <;> rcases k2 with k2 | k2 | k2 <;> omega
      · rcases k1 with k1 | k1 | k1 <;> rcases k2 with k2 | k2 | k2 <;> omega
      · rcases k1 with k1 | k1 | k1 <;> rcases k2 with k2 | k2 | k2 <;> omega
    · have hr' : m.drop (firstS m).2 ≠ [] := fun e => hr (by
        have := congrArg List.length h2
        rw [e, writeS_nil] at this
        exact List.length_eq_zero_iff.1 ((writeS_nil_iff (l := l.drop (firstS l).2)).1 (by simpa using this)))
      have q1 : (firstS l).2 < l.length := by
        have := List.length_pos_iff.2 hr
        rw [List.length_drop] at this; omega
      have q2 : (firstS m).2 < m.length := by
        have := List.length_pos_iff.2 hr'
        rw [List.length_drop] at this; omega
      have hnn : (firstS l).2 = (firstS m).2 := by
        have k1 := firstS_kind hl hv
        have k2 := firstS_kind hm hvm
        rcases k1 with k1 | k1 | k1 <;> rcases k2 with k2 | k2 | k2 <;> omega
      have ih := writeS_ovl k (l := l.drop (firstS l).2) (m := m.drop (firstS m).2) (by rw [List.length_drop]; omega) (hv.sub fun x hx => List.mem_of_mem_drop hx) (hvm.sub fun x hx => List.mem_of_mem_drop hx)
        hr hr' h2 (by rw [List.length_drop, List.length_drop]; omega)
      rw [List.length_drop, List.length_drop] at ih
      rw [writeS_cons hl, hlast _ _ (by rw [writeS_cons hr]; simp)]
      exact ⟨ih.1, by omega, by omega⟩
end Xb
