/- Own text: SChunkB. -/
import Derived.Test.YtpehlandaemcmaaGreatSChunkA
set_option linter.all false
set_option linter.unusedVariables false
set_option linter.unusedSimpArgs false
set_option linter.unnecessarySimpa false
set_option linter.deprecated false
/-! Chunks: reading. -/
namespace Xb
open Go

def readT : List Int → Nat → Except Int (List Int × Nat)
  | [], _ => .error 2
  | c :: cs, rem =>
    if (3 : Int) ∈ toldS c rem then .error 6
    else if (toldS c rem).length = rem then .ok (toldS c rem, 1)
    else match readT cs (rem - (toldS c rem).length) with
      | .ok (y, n) => .ok (toldS c rem ++ y, n + 1)
      | .error e => .error e

def rdR (out : List Int) (i : Nat) : Except Int (List Int × Nat) → List Int × Int × Int
  | .ok (y, n) => (out ++ y, ((i + n : Nat) : Int), 0)
  | .error e => ([], 0, e)

theorem read_loop {chunks : List Int} (hc : ∀ x, x ∈ chunks → 0 ≤ x ∧ x ≤ 65535) (hl : chunks.length ≤ 1000000) {count : Nat} (hcount : count ≤ 4000) : ∀ (m i : Nat) (out : List Int) (rem : Nat), i + m = chunks.length → 0 < rem → out.length + rem = count →
    loopG none (fun (s : List Int × Int) => chunk_Read_s1 none chunks (count : Int) s.1 s.2) (out, (i : Int)) = some (rdR out i (readT (chunks.drop i) rem))
  | 0, i, out, rem, hi, hr, ho => by
    refine (loop_inr (r := ([], 0, 2)) ?_).trans ?_
    · simp only [chunk_Read_s1, cm_lss, cm_eql, decide_eq_true_eq]
      rw [if_pos (by omega), if_pos (by omega)]; rfl
    · rw [List.drop_eq_nil_of_le (by omega)]; rfl
  | m + 1, i, out, rem, hi, hr, ho => by
    have hil : i < chunks.length := by omega
    have hd : chunks.drop i = chunks[i] :: chunks.drop (i + 1) := List.drop_eq_getElem_cons hil
    have hci := hc chunks[i] (List.getElem_mem hil)
    have hlen := told_len (c := chunks[i]) (most := rem)
    have hstep : ∀ u, (if (3 : Int) ∈ toldS chunks[i] rem then some (.inr (([] : List Int), (0 : Int), (6 : Int))) else if (toldS chunks[i] rem).length = rem then some (.inr (out ++ toldS chunks[i] rem, ((i + 1 : Nat) : Int), (0 : Int))) else some (.inl (out ++ toldS chunks[i] rem, ((i + 1 : Nat) : Int)))) = some u →
        chunk_Read_s1 none chunks (count : Int) out (i : Int) = some u := fun u hu => by
      rw [← hu]
      simp only [chunk_Read_s1, cm_lss, cm_eql, decide_eq_true_eq]
      have er : ar .sub .i64 (count : Int) (out.length : Int) = (rem : Int) := by rw [ar_sub, w_i64 (by omega) (by omega)]; omega
      have ei : ar .add .i64 (i : Int) 1 = ((i + 1 : Nat) : Int) := by rw [ar_add, w_i64 (by omega) (by omega)]; omega
      rw [if_pos (by omega), if_neg (by omega), bnd (ix_some rfl hil), er, bnd (told_eq hci.1 hci.2 (by omega)), bnd (Contains_eq (by omega)), ei]
      by_cases h3 : (3 : Int) ∈ toldS chunks[i] rem
      · rw [decide_eq_true h3, if_pos rfl, if_pos h3]; rfl
      · rw [decide_eq_false h3, if_neg (by decide), if_neg h3, bnd (app_some (by omega))]
        by_cases hq : (toldS chunks[i] rem).length = rem
        · rw [if_pos (by rw [List.length_append]; omega), if_pos hq]; rfl
        · rw [if_neg (by rw [List.length_append]; omega), if_neg hq]
    rw [hd, readT]
    by_cases h3 : (3 : Int) ∈ toldS chunks[i] rem
    · rw [if_pos h3]
      exact loop_inr (hstep _ (by rw [if_pos h3]; rfl))
    · rw [if_neg h3]
      by_cases hq : (toldS chunks[i] rem).length = rem
      · rw [if_pos hq]
        exact loop_inr (hstep _ (by rw [if_neg h3, if_pos hq]; rfl))
      · rw [if_neg hq]
        refine (loop_inl (hstep _ (by rw [if_neg h3, if_neg hq]))).trans ?_
        rw [read_loop hc hl hcount m (i + 1) (out ++ toldS chunks[i] rem) (rem - (toldS chunks[i] rem).length) (by omega) (by omega) (by rw [List.length_append]; omega)]
        cases readT (chunks.drop (i + 1)) (rem - (toldS chunks[i] rem).length) with
        | error e => rfl
        | ok p =>
          obtain ⟨y, n⟩ := p
          simp only [rdR, List.append_assoc]
          congr 4; omega

def readC (chunks : List Int) (count : Int) : Except Int (List Int × Nat) :=
  if count < 0 ∨ 4000 < count then .error 1 else if count = 0 then .ok ([], 0) else readT chunks count.toNat

theorem read_eq {chunks : List Int} (hc : ∀ x, x ∈ chunks → 0 ≤ x ∧ x ≤ 65535) (hl : chunks.length ≤ 1000000) {count : Int} : chunk_Read none chunks count = some (rdR [] 0 (readC chunks count)) := by
  unfold chunk_Read readC
  by_cases h : count < 0 ∨ 4000 < count
  · rw [if_pos (by rw [cm_lss, cm_gtr]; simpa using h), if_pos h]; rfl
  · rw [if_neg (by rw [cm_lss, cm_gtr]; simpa using h), if_neg h]
    obtain ⟨n, rfl⟩ : ∃ n : Nat, count = (n : Int) := ⟨count.toNat, by omega⟩
    unfold chunk_Read_l1
    by_cases h0 : (n : Int) = 0
    · rw [if_pos h0]
      refine loop_inr (r := ([], 0, 0)) ?_
      simp only [chunk_Read_s1, cm_lss, decide_eq_true_eq]
      rw [if_neg (by simp; omega)]; rfl
    · rw [if_neg h0]
      have := read_loop hc hl (count := n) (by omega) chunks.length 0 [] n (by omega) (by omega) (by simp)
      simpa using this

theorem canon_loop {chunks : List Int} (hl : chunks.length ≤ 1000000) : ∀ (m i : Nat) (l : List Int), i + m = chunks.length → vl l → l.length ≤ 4000 →
    loopG none (fun (s : List Int × Int) => chunk_Canon_s1 none chunks s.1 s.2) (l, (i : Int)) = some (decide (writeS l = chunks.drop i))
  | 0, i, l, hi, hv, hb => by
    refine (loop_inr (r := decide (l.length = 0)) ?_).trans ?_
    · simp only [chunk_Canon_s1, cm_lss, cm_eql, decide_eq_true_eq]
      rw [if_neg (by omega)]
      have : decide ((l.length : Int) = 0) = decide (l.length = 0) := decide_eq_decide.2 (by omega)
      rw [this]; rfl
    · rw [List.drop_eq_nil_of_le (by omega)]
      congr 1
      exact decide_eq_decide.2 (by rw [← writeS_nil_iff, List.length_eq_zero_iff])
  | m + 1, i, l, hi, hv, hb => by
    have hil : i < chunks.length := by omega
    have hd : chunks.drop i = chunks[i] :: chunks.drop (i + 1) := List.drop_eq_getElem_cons hil
    by_cases hl0 : l = []
    · subst hl0
      refine (loop_inr (r := false) ?_).trans ?_
      · simp only [chunk_Canon_s1, cm_lss, cm_eql, decide_eq_true_eq]
        rw [if_pos (by omega), bnd (ix_some rfl hil), if_pos (by simp)]; rfl
      · rw [hd, writeS_nil]; exact congrArg some (decide_eq_false (by intro h; cases h)).symm
    · have hp := firstS_pos hl0
      have hpos : 0 < l.length := List.length_pos_iff.2 hl0
      have ei : ar .add .i64 (i : Int) 1 = ((i + 1 : Nat) : Int) := by rw [ar_add, w_i64 (by omega) (by omega)]; omega
      by_cases hc : (firstS l).1 = chunks[i]
      · refine (loop_inl (s' := (l.drop (firstS l).2, ((i + 1 : Nat) : Int))) ?_).trans ?_
        · simp only [chunk_Canon_s1, cm_lss, cm_eql, cm_neq, decide_eq_true_eq]
          rw [if_pos (by omega), bnd (ix_some rfl hil), if_neg (by omega), bnd (first_eq (by omega) hl0 hv), if_neg (by simpa using hc), bnd (sub_some (by omega) (by omega) (by omega)), ei]
          have e : (l.drop (((firstS l).2 : Nat) : Int).toNat).take ((l.length : Int).toNat - (((firstS l).2 : Nat) : Int).toNat) = l.drop (firstS l).2 := by
            simp only [Int.toNat_natCast]
            exact List.take_of_length_le (by rw [List.length_drop]; omega)
          simp only [e]
        · rw [canon_loop hl m (i + 1) (l.drop (firstS l).2) (by omega) (hv.sub fun x hx => List.mem_of_mem_drop hx) (by rw [List.length_drop]; omega), hd, writeS_cons hl0, hc]
          congr 1
          exact decide_eq_decide.2 (by rw [List.cons.injEq]; exact ⟨fun h => ⟨rfl, h⟩, fun h => h.2⟩)
      · refine (loop_inr (r := false) ?_).trans ?_
        · simp only [chunk_Canon_s1, cm_lss, cm_eql, cm_neq, decide_eq_true_eq]
          rw [if_pos (by omega), bnd (ix_some rfl hil), if_neg (by omega), bnd (first_eq (by omega) hl0 hv), if_pos (by simpa using hc)]; rfl
        · rw [hd, writeS_cons hl0]; congr 1; exact (decide_eq_false (by rw [List.cons.injEq]; exact fun h => hc h.1)).symm

/-- what is read: how many, what, out of how many chunks -/
theorem readT_ok {cs : List Int} (hc : ∀ x, x ∈ cs → 0 ≤ x ∧ x ≤ 65535) : ∀ {rem : Nat} {y : List Int} {n : Nat}, readT cs rem = .ok (y, n) → y.length = rem ∧ vl y ∧ n ≤ cs.length := by
  induction cs with
  | nil => intro rem y n h; simp [readT] at h
  | cons c cs ih =>
    intro rem y n h
    have hci := hc c (by simp)
    have hin := told_in hci.1 hci.2 (most := rem)
    rw [readT] at h
    by_cases h3 : (3 : Int) ∈ toldS c rem
    · rw [if_pos h3] at h; cases h
    · rw [if_neg h3] at h
      have hvt : vl (toldS c rem) := fun x hx => by
        have := hin x hx
        have : x ≠ 3 := fun e => h3 (e ▸ hx)
        omega
      by_cases hq : (toldS c rem).length = rem
      · rw [if_pos hq] at h; cases h
        exact ⟨hq, hvt, by simp⟩
      · rw [if_neg hq] at h
        have hlen := told_len (c := c) (most := rem)
        cases hr : readT cs (rem - (toldS c rem).length) with
        | error e => rw [hr] at h; cases h
        | ok p =>
          obtain ⟨z, m⟩ := p
          rw [hr] at h; cases h
          obtain ⟨h1, h2, h4⟩ := ih (fun x hx => hc x (by simp [hx])) hr
          refine ⟨by rw [List.length_append, h1]; omega, fun x hx => (List.mem_append.1 hx).elim (hvt x) (h2 x), by simp; exact h4⟩

theorem readC_ok {cs : List Int} (hc : ∀ x, x ∈ cs → 0 ≤ x ∧ x ≤ 65535) {count : Int} {y : List Int} {n : Nat} (h : readC cs count = .ok (y, n)) : (y.length : Int) = count ∧ y.length ≤ 4000 ∧ vl y ∧ n ≤ cs.length := by
  unfold readC at h
  split at h
  · cases h
  · split at h
    · cases h; exact ⟨by simp; omega, by simp, fun x hx => by simp at hx, Nat.zero_le _⟩
    · obtain ⟨h1, h2, h3⟩ := readT_ok hc h
      exact ⟨by omega, by omega, h2, h3⟩

theorem canon_eq {chunks : List Int} (hc : ∀ x, x ∈ chunks → 0 ≤ x ∧ x ≤ 65535) (hl : chunks.length ≤ 1000000) {count : Int} :
    chunk_Canon none chunks count = some (match readC chunks count with | .ok (y, _) => decide (writeS y = chunks) | .error _ => false) := by
  unfold chunk_Canon
  rw [bnd (read_eq hc hl)]
  cases hr : readC chunks count with
  | error e =>
    have he : e ≠ 0 := by
      intro h0
      subst h0
      unfold readC at hr
      split at hr
      · cases hr
      · split at hr
        · cases hr
        · have : ∀ (cs : List Int) (rem : Nat), readT cs rem ≠ .error 0 := by
            intro cs
            induction cs with
            | nil => intro rem h; simp [readT] at h
            | cons c cs ih =>
              intro rem h
              rw [readT] at h
              split at h
              · simp at h
              · split at h
                · cases h
                · split at h
                  · cases h
                  · rename_i e' he'; cases h; exact ih _ he'
          exact this _ _ hr
    show (if cm .neq e 0 = true then some false else chunk_Canon_l1 none chunks [] 0) = some false
    rw [if_pos (by rw [cm_neq]; simpa using he)]
  | ok p =>
    obtain ⟨y, n⟩ := p
    obtain ⟨h1, h2, h3, h4⟩ := readC_ok hc hr
    show (if cm .neq (0 : Int) 0 = true then some false else chunk_Canon_l1 none chunks ([] ++ y) 0) = some (decide (writeS y = chunks))
    rw [if_neg (by decide), List.nil_append]
    unfold chunk_Canon_l1
    have := canon_loop hl chunks.length 0 y (by omega) h3 h2
    simpa using this
end Xb

/-! Chunks: written and read again. -/
namespace Xb
open Go

theorem takeWhile_eq_rep (l : List Int) (a : Int) : l.takeWhile (fun x => decide (x = a)) = List.replicate (l.takeWhile (fun x => decide (x = a))).length a := by
  rw [List.eq_replicate_iff]
  refine ⟨rfl, fun x hx => ?_⟩
  induction l with
  | nil => simp at hx
  | cons d l ih =>
    by_cases h : d = a
    · simp [h] at hx
      rcases hx with hx | hx
      · exact hx
      · exact ih hx
    · simp [h] at hx

theorem take_run (l : List Int) : l.take (runN l) = List.replicate (runN l) (l.headD 0) := by
  unfold runN
  have h := List.takeWhile_prefix (l := l) (fun x => decide (x = l.headD 0))
  rw [List.prefix_iff_eq_take] at h
  rw [← h]; exact takeWhile_eq_rep l (l.headD 0)

theorem padTo_take (n : Nat) (l : List Int) : (padTo n (l.take n)).take l.length = l.take n := by
  unfold padTo
  rcases Nat.le_total l.length n with h | h
  · rw [List.take_of_length_le (l := l) h, List.take_left' rfl]
  · have : (l.take n).length = n := by rw [List.length_take]; omega
    rw [this, Nat.sub_self, List.replicate_zero, List.append_nil]
    exact List.take_of_length_le (by omega)

theorem padTo_len {n : Nat} {l : List Int} (h : l.length ≤ n) : (padTo n l).length = n := by simp [padTo]; omega

/-- the kinds of a first chunk -/
theorem firstS_kind {l : List Int} (hn : l ≠ []) (hv : vl l) :
    (0 ≤ (firstS l).1 ∧ (firstS l).1 < 32768 ∧ ((firstS l).2 : Int) = (firstS l).1 % 8192 ∧ l.take (firstS l).2 = List.replicate (firstS l).2 ((firstS l).1 / 8192)) ∨
    (32768 ≤ (firstS l).1 ∧ (firstS l).1 < 49152 ∧ (firstS l).2 = min l.length 14 ∧ digs 2 14 (firstS l).1 = padTo 14 (l.take 14)) ∨
    (49152 ≤ (firstS l).1 ∧ (firstS l).1 < 65536 ∧ (firstS l).2 = min l.length 7 ∧ digs 4 7 (firstS l).1 = padTo 7 (l.take 7)) := by
  obtain ⟨a, l', rfl⟩ := List.exists_cons_of_ne_nil hn
  have ha := hv a (by simp)
  have hr := runN_le (a :: l')
  unfold firstS
  by_cases h : 14 ≤ runN (a :: l') ∨ runN (a :: l') = (a :: l').length
  · rw [if_pos h]
    left
    have hh : (a :: l').headD 0 = a := rfl
    rw [hh]
    refine ⟨by simp only; omega, by simp only; omega, by simp only; omega, ?_⟩
    have e : (a * 8192 + ((min (runN (a :: l')) 8191 : Nat) : Int)) / 8192 = a := by omega
    simp only
    rw [e]
    have := congrArg (List.take 8191) (take_run (a :: l'))
    rw [List.take_take, List.take_replicate, hh] at this
    rw [Nat.min_comm]; exact this
  · rw [if_neg h]
    right
    by_cases h2 : (2 : Int) ∈ (a :: l').take 14
    · rw [if_pos h2]
      right
      have hb : ∀ x, x ∈ padTo 7 ((a :: l').take 7) → 0 ≤ x ∧ x < ((4 : Nat) : Int) := fun x hx => by
        rcases List.mem_append.1 hx with h | h
        · have := hv x (List.mem_of_mem_take h); omega
        · have := (List.mem_replicate.1 h).2; omega
      have hlen : (padTo 7 ((a :: l').take 7)).length = 7 := padTo_len (by rw [List.length_take]; omega)
      have hbd := valB_bound (B := 4) (by omega) (l := padTo 7 ((a :: l').take 7)) (a := 3) hb
      have hd := digs_valB (B := 4) (by omega) (l := padTo 7 ((a :: l').take 7)) (a := 3) hb
      rw [hlen] at hbd hd
      exact ⟨by simp only; omega, by simp only; omega, rfl, hd⟩
    · rw [if_neg h2]
      left
      have hb : ∀ x, x ∈ padTo 14 ((a :: l').take 14) → 0 ≤ x ∧ x < ((2 : Nat) : Int) := fun x hx => by
        rcases List.mem_append.1 hx with h | h
        · have := hv x (List.mem_of_mem_take h)
          have : x ≠ 2 := fun e => h2 (e ▸ h)
          omega
        · have := (List.mem_replicate.1 h).2; omega
      have hlen : (padTo 14 ((a :: l').take 14)).length = 14 := padTo_len (by rw [List.length_take]; omega)
      have hbd := valB_bound (B := 2) (by omega) (l := padTo 14 ((a :: l').take 14)) (a := 2) hb
      have hd := digs_valB (B := 2) (by omega) (l := padTo 14 ((a :: l').take 14)) (a := 2) hb
      rw [hlen] at hbd hd
      exact ⟨by simp only; omega, by simp only; omega, rfl, hd⟩

theorem firstS_in {l : List Int} (hn : l ≠ []) (hv : vl l) : 0 ≤ (firstS l).1 ∧ (firstS l).1 ≤ 65535 := by
  rcases firstS_kind hn hv with h | h | h <;> omega

/-- a first chunk tells what it was made of -/
theorem told_first {l : List Int} (hn : l ≠ []) (hv : vl l) : toldS (firstS l).1 l.length = l.take (firstS l).2 := by
  have hp := firstS_pos hn
  rcases firstS_kind hn hv with ⟨h0, h1, h2, h3⟩ | ⟨h1, h2, h3, h4⟩ | ⟨h1, h2, h3, h4⟩
  · unfold toldS
    rw [if_pos h1, h3]
    congr 1; omega
  · unfold toldS
    rw [if_neg (by omega), if_pos h2, h4, h3, padTo_take, Nat.min_comm, ← List.take_eq_take_min]
  · unfold toldS
    rw [if_neg (by omega), if_neg (by omega), h4, h3, padTo_take, Nat.min_comm, ← List.take_eq_take_min]

theorem writeS_in : ∀ (k : Nat) {l : List Int}, l.length < k → vl l → ∀ x, x ∈ writeS l → 0 ≤ x ∧ x ≤ 65535
  | 0, _, h, _ => by omega
  | k + 1, l, h, hv => by
    intro x hx
    by_cases hl : l = []
    · subst hl; rw [writeS_nil] at hx; simp at hx
    · have hp := firstS_pos hl
      have hpos : 0 < l.length := List.length_pos_iff.2 hl
      rw [writeS_cons hl] at hx
      rcases List.mem_cons.1 hx with rfl | hx
      · exact firstS_in hl hv
      · exact writeS_in k (l := l.drop (firstS l).2) (by rw [List.length_drop]; omega) (hv.sub fun x hx => List.mem_of_mem_drop hx) x hx

theorem no3 {l : List Int} (hv : vl l) (n : Nat) : ¬ (3 : Int) ∈ l.take n := fun h => by have := hv 3 (List.mem_of_mem_take h); omega

theorem readT_write (more : List Int) : ∀ (k : Nat) {l : List Int}, l.length < k → vl l → l ≠ [] → readT (writeS l ++ more) l.length = .ok (l, (writeS l).length)
  | 0, _, h, _, _ => by omega
  | k + 1, l, h, hv, hl => by
    have hp := firstS_pos hl
    have hpos : 0 < l.length := List.length_pos_iff.2 hl
    have htl : (l.take (firstS l).2).length = (firstS l).2 := by rw [List.length_take]; omega
    rw [writeS_cons hl, List.cons_append, readT, told_first hl hv, if_neg (no3 hv _), htl]
    by_cases hq : (firstS l).2 = l.length
    · rw [if_pos hq]
      have : l.drop (firstS l).2 = [] := List.drop_eq_nil_of_le (by omega)
      rw [this, writeS_nil, List.take_of_length_le (by omega)]; rfl
    · rw [if_neg hq]
      have hne : l.drop (firstS l).2 ≠ [] := fun e => by have := congrArg List.length e; rw [List.length_drop] at this; simp at this; omega
      have ih := readT_write more k (l := l.drop (firstS l).2) (by rw [List.length_drop]; omega) (hv.sub fun x hx => List.mem_of_mem_drop hx) hne
      rw [List.length_drop] at ih
      rw [ih]
      simp only [List.take_append_drop, List.length_cons]

theorem readT_cut : ∀ (k : Nat) {l : List Int}, l.length < k → vl l → l ≠ [] → readT ((writeS l).dropLast) l.length = .error 2
  | 0, _, h, _, _ => by omega
  | k + 1, l, h, hv, hl => by
    have hp := firstS_pos hl
    have hpos : 0 < l.length := List.length_pos_iff.2 hl
    have htl : (l.take (firstS l).2).length = (firstS l).2 := by rw [List.length_take]; omega
    rw [writeS_cons hl]
    by_cases hq : (firstS l).2 = l.length
    · have : l.drop (firstS l).2 = [] := List.drop_eq_nil_of_le (by omega)
      rw [this, writeS_nil]; rfl
    · have hne : l.drop (firstS l).2 ≠ [] := fun e => by have := congrArg List.length e; rw [List.length_drop] at this; simp at this; omega
      have ih := readT_cut k (l := l.drop (firstS l).2) (by rw [List.length_drop]; omega) (hv.sub fun x hx => List.mem_of_mem_drop hx) hne
      have hwne : writeS (l.drop (firstS l).2) ≠ [] := by rw [writeS_cons hne]; simp
      rw [List.dropLast_cons_of_ne_nil hwne, readT, told_first hl hv, if_neg (no3 hv _), htl, if_neg hq]
      rw [List.length_drop] at ih
      rw [ih]

/-- the same chunks of two lists -/
theorem writeS_ovl : ∀ (k : Nat) {l m : List Int}, l.length < k → vl l → vl m → l ≠ [] → m ≠ [] → writeS l = writeS m → l.length ≠ m.length →
    32768 ≤ (writeS l).getD ((writeS l).length - 1) 0 ∧ l.length < m.length + 14 ∧ m.length < l.length + 14
  | 0, _, _, h, _, _, _, _, _, _ => by omega
  | k + 1, l, m, h, hv, hvm, hl, hm, he, hne => by
    have hp := firstS_pos hl
    have hpm := firstS_pos hm
    have hpos : 0 < l.length := List.length_pos_iff.2 hl
    have hposm : 0 < m.length := List.length_pos_iff.2 hm
    rw [writeS_cons hl, writeS_cons hm, List.cons.injEq] at he
    obtain ⟨h1, h2⟩ := he
    have hlast : ∀ (x : Int) (w : List Int), w ≠ [] → (x :: w).getD ((x :: w).length - 1) 0 = w.getD (w.length - 1) 0 := fun x w hw => by
      have : 0 < w.length := List.length_pos_iff.2 hw
      obtain ⟨j, hj⟩ : ∃ j, w.length = j + 1 := ⟨w.length - 1, by omega⟩
      simp [hj]
    by_cases hr : l.drop (firstS l).2 = []
    · have hr' : m.drop (firstS m).2 = [] := by
        have := congrArg List.length h2
        rw [hr, writeS_nil] at this
        have h3 := (writeS_nil_iff (l := m.drop (firstS m).2)).1 (by simpa using this.symm)
        exact List.length_eq_zero_iff.1 h3
      have e1 := congrArg List.length hr
      have e2 := congrArg List.length hr'
      rw [List.length_drop] at e1 e2
      simp only [List.length_nil] at e1 e2
      rw [writeS_cons hl, hr, writeS_nil]
      have k1 := firstS_kind hl hv
      have k2 := firstS_kind hm hvm
      refine ⟨?_, ?_, ?_⟩
      · show 32768 ≤ (firstS l).1
        rcases k1 with k1 | k1 | k1 <;> rcases k2 with k2 | k2 | k2 <;> omega
      · rcases k1 with k1 | k1 | k1 <;> rcases k2 with k2 | k2 | k2 <;> omega
      · rcases k1 with k1 | k1 | k1 <;> rcases k2 with k2 | k2 | k2 <;> omega
    · have hr' : m.drop (firstS m).2 ≠ [] := fun e => hr (by
        have := congrArg List.length h2
        rw [e, writeS_nil] at this
        exact List.length_eq_zero_iff.1 ((writeS_nil_iff (l := l.drop (firstS l).2)).1 (by simpa using this)))
      have q1 : (firstS l).2 < l.length := by
        have := List.length_pos_iff.2 hr
        rw [List.length_drop] at this; omega
      have q2 : (firstS m).2 < m.length := by
        have := List.length_pos_iff.2 hr'
        rw [List.length_drop] at this; omega
      have hnn : (firstS l).2 = (firstS m).2 := by
        have k1 := firstS_kind hl hv
        have k2 := firstS_kind hm hvm
        rcases k1 with k1 | k1 | k1 <;> rcases k2 with k2 | k2 | k2 <;> omega
      have ih := writeS_ovl k (l := l.drop (firstS l).2) (m := m.drop (firstS m).2) (by rw [List.length_drop]; omega) (hv.sub fun x hx => List.mem_of_mem_drop hx) (hvm.sub fun x hx => List.mem_of_mem_drop hx)
        hr hr' h2 (by rw [List.length_drop, List.length_drop]; omega)
      rw [List.length_drop, List.length_drop] at ih
      rw [writeS_cons hl, hlast _ _ (by rw [writeS_cons hr]; simp)]
      exact ⟨ih.1, by omega, by omega⟩
end Xb

namespace Xb
open Go
theorem readC_write {l more : List Int} (hv : vl l) (hl : l.length ≤ 4000) : readC (writeS l ++ more) (l.length : Int) = .ok (l, (writeS l).length) := by
  unfold readC
  rw [if_neg (by omega)]
  by_cases h0 : l = []
  · subst h0; rw [writeS_nil]; rfl
  · have hpos : 0 < l.length := List.length_pos_iff.2 h0
    rw [if_neg (by omega)]
    exact readT_write more (l.length + 1) (by omega) hv h0

theorem readC_err {cs : List Int} {count e : Int} (h : readC cs count = .error e) : e ≠ 0 := by
  intro h0
  subst h0
  unfold readC at h
  split at h
  · cases h
  · split at h
    · cases h
    · have : ∀ (cs : List Int) (rem : Nat), readT cs rem ≠ .error 0 := by
        intro cs
        induction cs with
        | nil => intro rem h; simp [readT] at h
        | cons c cs ih =>
          intro rem h
          rw [readT] at h
          split at h
          · simp at h
          · split at h
            · cases h
            · split at h
              · cases h
              · rename_i e' he'; cases h; exact ih _ he'
      exact this _ _ h

theorem cme (x : Int) : cm .eql x x = true := by rw [cm_eql]; simp
theorem cmn (x : Int) : cm .neq x x = false := by rw [cm_neq]; simp

end Xb
