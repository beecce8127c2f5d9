/- Own text: HChk. -/
import Derived.Test.YtbbjigdfgildeaaHOct1
set_option linter.all false
set_option linter.unusedVariables false
set_option linter.unusedSimpArgs false
set_option linter.unnecessarySimpa false
set_option linter.deprecated false
namespace Xb
open Go

theorem chunks_nil {α : Type} {n : Nat} (h : 1 ≤ n) : chunksL n ([] : List α) = [] := by
  simp only [chunksL, List.length_nil]
  rw [Nat.div_eq_of_lt (by omega)]; rfl
theorem chunks_cons {α : Type} {n : Nat} (h : 1 ≤ n) {l : List α} (hl : l ≠ []) : chunksL n l = l.take n :: chunksL n (l.drop n) := by
  have h0 := chunksL_drop h l 0 (by rw [Nat.zero_mul]; exact List.length_pos_iff.2 hl)
  simp only [List.drop_zero, Nat.zero_mul] at h0
  rw [h0]
  congr 1
  simp only [chunksL, List.length_drop, ← List.map_drop, List.drop_drop]
  have e : (l.length + n - 1) / n = (l.length - n + n - 1) / n + 1 := by
    have hp := List.length_pos_iff.2 hl
    by_cases hn : l.length ≤ n
    · have e1 : l.length - n = 0 := by omega
      rw [e1, Nat.zero_add, Nat.div_eq_of_lt (show n - 1 < n by omega)]
      exact Nat.div_eq_of_lt_le (by omega) (by omega)
    · have e1 : l.length + n - 1 = (l.length - n + n - 1) + n := by omega
      rw [e1, Nat.add_div_right _ (by omega)]
  rw [e, List.range_succ_eq_map, List.drop_one, List.tail_cons, List.map_map]
  apply List.map_congr_left
  intro i _
  simp only [Function.comp]
  congr 2
  rw [Nat.succ_mul]; omega
theorem chunks_flat {α : Type} {n : Nat} (h : 1 ≤ n) : ∀ (l : List α), (chunksL n l).flatten = l := by
  have key : ∀ m (l : List α), l.length ≤ m → (chunksL n l).flatten = l := by
    intro m
    induction m with
    | zero => intro l hl; have : l = [] := List.length_eq_zero_iff.1 (by omega); subst this; rw [chunks_nil h]; rfl
    | succ m ih =>
      intro l hl
      by_cases hn : l = []
      · subst hn; rw [chunks_nil h]; rfl
      · have hp := List.length_pos_iff.2 hn
        rw [chunks_cons h hn, List.flatten_cons, ih _ (by rw [List.length_drop]; omega), List.take_append_drop]
  exact fun l => key l.length l (Nat.le_refl _)
theorem chunks_len {α : Type} {n : Nat} (h : 1 ≤ n) {l : List α} (hd : l.length % n = 0) : ∀ c, c ∈ chunksL n l → c.length = n := by
  intro c hc
  simp only [chunksL, List.mem_map, List.mem_range] at hc
  obtain ⟨i, hi, rfl⟩ := hc
  rw [List.length_take, List.length_drop]
  have e : l.length = n * (l.length / n) := by have := Nat.div_add_mod l.length n; omega
  have hi2 : i < l.length / n := by
    have : (l.length + n - 1) / n ≤ l.length / n := by
      rw [e]
      generalize l.length / n = q
      have : n * q + n - 1 = n - 1 + n * q := by omega
      rw [this, Nat.add_mul_div_left _ _ (by omega), Nat.mul_div_cancel_left _ (by omega), Nat.div_eq_of_lt (show n - 1 < n by omega)]
      omega
    omega
  have h3 : n * (i + 1) ≤ n * (l.length / n) := Nat.mul_le_mul_left _ hi2
  rw [Nat.mul_add, Nat.mul_one, Nat.mul_comm n i] at h3
  omega
theorem chunks_mem {α : Type} {n : Nat} {l : List α} {c : List α} (hc : c ∈ chunksL n l) {x : α} (hx : x ∈ c) : x ∈ l := by
  simp only [chunksL, List.mem_map, List.mem_range] at hc
  obtain ⟨i, hi, rfl⟩ := hc
  exact List.mem_of_mem_drop (List.mem_of_mem_take hx)
theorem chunks_of {α : Type} {n : Nat} (h : 1 ≤ n) : ∀ (L : List (List α)), (∀ c, c ∈ L → c.length = n) → chunksL n L.flatten = L
  | [], _ => by rw [List.flatten_nil, chunks_nil h]
  | c :: L, hL => by
    have hc := hL c (by simp)
    rw [List.flatten_cons, chunks_cons h (by intro e; have := congrArg List.length e; simp only [List.length_append, List.length_nil] at this; omega)]
    rw [List.take_left' hc, List.drop_left' hc, chunks_of h L fun d hd => hL d (by simp [hd])]
theorem chunks_count {α : Type} {n : Nat} (h : 1 ≤ n) {l : List α} (hd : l.length % n = 0) : (chunksL n l).length = l.length / n := by
  simp only [chunksL, List.length_map, List.length_range]
  have e : l.length = n * (l.length / n) := by have := Nat.div_add_mod l.length n; omega
  generalize l.length / n = q at *
  rw [e]
  have : n * q + n - 1 = n - 1 + n * q := by omega
  rw [this, Nat.add_mul_div_left _ _ (by omega), Nat.div_eq_of_lt (show n - 1 < n by omega), Nat.zero_add]

/-- folds that only gather -/
theorem fold_map {α β ρ : Type} {step : α → List β → Option (List β ⊕ ρ)} {done : List β → Option ρ} {f : α → β} : ∀ (l : List α) (s : List β), (∀ x s, x ∈ l → s.length ≤ 1000000 → step x s = some (.inl (s ++ [f x]))) → s.length + l.length ≤ 1000000 → foldX step done l s = done (s ++ l.map f)
  | [], s, _, _ => by simp [foldX]
  | x :: l, s, h, hn => by
    simp only [List.length_cons] at hn
    simp only [foldX, h x s (by simp) (by omega)]
    rw [fold_map l _ (fun y t hy ht => h y t (by simp [hy]) ht) (by simp; omega)]
    simp
/-- folds that look for one -/
theorem fold_all {α ρ σ : Type} {step : α → σ → Option (σ ⊕ ρ)} {done : σ → Option ρ} {p : α → Bool} {no : ρ} : ∀ (l : List α) (s : σ), (∀ x, x ∈ l → step x s = if p x then some (.inl s) else some (.inr no)) → foldX step done l s = if l.all p then done s else some no
  | [], s, _ => by simp [foldX]
  | x :: l, s, h => by
    simp only [foldX, h x (by simp)]
    by_cases hp : p x = true
    · simp only [hp, if_true]
      rw [fold_all l s fun y hy => h y (by simp [hy])]
      simp [hp]
    · simp [hp]

/-- texts are the same when the octets are -/
theorem b2s_inj {a b : List Int} (ha : ∀ x, x ∈ a → 0 ≤ x ∧ x ≤ 255) (hb : ∀ x, x ∈ b → 0 ≤ x ∧ x ≤ 255) : b2s a = b2s b ↔ a = b := by
  refine ⟨fun h => ?_, fun h => by rw [h]⟩
  have hi : ∀ (l : List Int), (∀ x, x ∈ l → 0 ≤ x ∧ x ≤ 255) → (b2s l).map (fun u => (u.toNat : Int)) = l := by
    intro l hl
    unfold b2s
    rw [List.map_map]
    conv => rhs; rw [← List.map_id l]
    apply List.map_congr_left
    intro x hx
    obtain ⟨h0, h1⟩ := hl x hx
    simp
    omega
  rw [← hi a ha, ← hi b hb, h]
theorem sc_b2s {a b : List Int} (ha : ∀ x, x ∈ a → 0 ≤ x ∧ x ≤ 255) (hb : ∀ x, x ∈ b → 0 ≤ x ∧ x ≤ 255) : sc .eql (b2s a) (b2s b) = decide (a = b) := by
  simp only [sc]
  by_cases h : a = b
  · subst h; simp
  · simp [h]; exact fun e => h ((b2s_inj ha hb).1 e)
end Xb
