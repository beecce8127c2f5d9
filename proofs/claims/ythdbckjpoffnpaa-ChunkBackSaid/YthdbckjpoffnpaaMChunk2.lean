/- Own text: MChunk2. -/
import Derived.Test.YthdbckjpoffnpaaMChunk1
set_option linter.all false
set_option linter.unusedVariables false
set_option linter.unusedSimpArgs false
set_option linter.unnecessarySimpa false
set_option linter.deprecated false
/-! Chunks: the whole of what is written; how much a chunk tells. -/
namespace Xb
open Go

theorem firstS_pos {l : List Int} (hn : l ≠ []) : 1 ≤ (firstS l).2 ∧ (firstS l).2 ≤ l.length ∧ ((firstS l).2 < 7 → (firstS l).2 = l.length) := by
  obtain ⟨a, l', rfl⟩ := List.exists_cons_of_ne_nil hn
  have h1 : 1 ≤ runN (a :: l') := by simp [runN]
  have h2 := runN_le (a :: l')
  have h3 : 1 ≤ (a :: l').length := by simp
  unfold firstS
  split
  · rename_i h
    simp only
    omega
  · split <;> (simp only; omega)

def writeS (l : List Int) : List Int :=
  if h : l = [] then [] else (firstS l).1 :: writeS (l.drop (firstS l).2)
termination_by l.length
decreasing_by
  have := firstS_pos h
  rw [List.length_drop]; omega

theorem writeS_nil : writeS [] = [] := by rw [writeS]; simp
theorem writeS_cons {l : List Int} (h : l ≠ []) : writeS l = (firstS l).1 :: writeS (l.drop (firstS l).2) := by rw [writeS]; simp [h]

theorem write_loop : ∀ (n : Nat) (l out : List Int), l.length < n → vl l → out.length + l.length ≤ 100000000 → loopG none (fun (s : List Int × List Int) => chunk_Write_s1 none s.1 s.2) (l, out) = some (out ++ writeS l, 0)
  | 0, _, _, h, _, _ => by omega
  | n + 1, l, out, h, hv, hb => by
    by_cases hl : l = []
    · subst hl
      refine (loop_inr (r := (out, 0)) ?_).trans (by rw [writeS_nil]; simp)
      simp only [chunk_Write_s1, cm_gtr, decide_eq_true_eq]
      rw [if_neg (by simp)]; rfl
    · have hp := firstS_pos hl
      have hpos : 0 < l.length := List.length_pos_iff.2 hl
      refine (loop_inl (s' := (l.drop (firstS l).2, out ++ [(firstS l).1])) ?_).trans ?_
      · simp only [chunk_Write_s1, cm_gtr, decide_eq_true_eq]
        rw [if_pos (by omega), bnd (first_eq (by omega) hl hv), bnd (app_some (by simp; omega)), bnd (sub_some (by omega) (by omega) (by omega))]
        have e : (l.drop (((firstS l).2 : Nat) : Int).toNat).take ((l.length : Int).toNat - (((firstS l).2 : Nat) : Int).toNat) = l.drop (firstS l).2 := by
          simp only [Int.toNat_natCast]
          exact List.take_of_length_le (by rw [List.length_drop]; omega)
        simp only [e]
      · rw [write_loop n (l.drop (firstS l).2) (out ++ [(firstS l).1]) (by rw [List.length_drop]; omega) (hv.sub fun x hx => List.mem_of_mem_drop hx) (by simp; omega), writeS_cons hl]
        simp

theorem write_eq {l : List Int} (hl : l.length ≤ 10000000) : chunk_Write none l = some (if (∀ x, x ∈ l → 0 ≤ x ∧ x ≤ 2) then (writeS l, 0) else ([], 1)) := by
  unfold chunk_Write
  rw [bnd (ContainsFunc_eq (p := fun x => chunk_Write_1 x) (by omega) (fun x _ => rfl))]
  by_cases h : ∀ x, x ∈ l → 0 ≤ x ∧ x ≤ 2
  · have : (l.any fun x => chunk_Write_1 x) = false := by
      rw [List.any_eq_false]
      intro x hx
      have := h x hx
      rw [write1_eq]; simp; omega
    rw [this, if_neg (by decide), if_pos h]
    unfold chunk_Write_l1
    have := write_loop (l.length + 1) l [] (by omega) h (by simp; omega)
    simpa using this
  · have : (l.any fun x => chunk_Write_1 x) = true := by
      rw [List.any_eq_true]
      have ⟨x, hx⟩ := Classical.not_forall.1 h
      have ⟨hx1, hx2⟩ := Classical.not_imp.1 hx
      exact ⟨x, hx1, by rw [write1_eq]; simp; omega⟩
    rw [this, if_pos rfl, if_neg h]

theorem writeS_len : ∀ (n : Nat) (l : List Int), l.length < n → (writeS l).length ≤ (l.length + 6) / 7
  | 0, _, h => by omega
  | n + 1, l, h => by
    by_cases hl : l = []
    · subst hl; rw [writeS_nil]; simp
    · have hp := firstS_pos hl
      have hpos : 0 < l.length := List.length_pos_iff.2 hl
      have ih := writeS_len n (l.drop (firstS l).2) (by rw [List.length_drop]; omega)
      rw [writeS_cons hl, List.length_cons]
      rw [List.length_drop] at ih
      by_cases h7 : (firstS l).2 < 7
      · have := hp.2.2 h7; omega
      · omega

theorem writeS_nil_iff {l : List Int} : (writeS l).length = 0 ↔ l.length = 0 := by
  by_cases hl : l = []
  · subst hl; rw [writeS_nil]
  · have hpos : 0 < l.length := List.length_pos_iff.2 hl
    rw [writeS_cons hl]; simp [hl]

theorem firstS_rep {n : Nat} {v : Int} (hn : 0 < n) : firstS (List.replicate n v) = (v * 8192 + (min n 8191 : Nat), min n 8191) := by
  obtain ⟨m, rfl⟩ : ∃ m, n = m + 1 := ⟨n - 1, by omega⟩
  have hr : runN (List.replicate (m + 1) v) = m + 1 := by
    unfold runN
    have h : (List.replicate (m + 1) v).headD 0 = v := rfl
    simp only [h]
    rw [List.takeWhile_replicate]; simp
  unfold firstS
  rw [hr, if_pos (.inr (by simp))]
  rfl

theorem writeS_rep : ∀ (k n : Nat) (v : Int), n < k → (writeS (List.replicate n v)).length = (n + 8190) / 8191
  | 0, _, _, h => by omega
  | k + 1, n, v, h => by
    rcases Nat.eq_zero_or_pos n with rfl | hn
    · rw [List.replicate_zero, writeS_nil]; rfl
    · have hne : List.replicate n v ≠ [] := by
        intro e; have := congrArg List.length e; simp at this; omega
      rw [writeS_cons hne, firstS_rep hn, List.drop_replicate, List.length_cons, writeS_rep k (n - min n 8191) v (by omega)]
      omega
end Xb
