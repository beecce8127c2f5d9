/- Own text: SOct. -/
import Derived.Test.YtpehlandaemcmaaGreatMath2
import Derived.Test.YtpehlandaemcmaaGreatSModels
set_option linter.all false
set_option linter.unusedVariables false
set_option linter.unusedSimpArgs false
set_option linter.unnecessarySimpa false
set_option linter.deprecated false
namespace Xb
open Go

/-- a number's octets, the greatest first -/
def beN : Nat → Int → List Int
  | 0, _ => []
  | n + 1, v => beN n (v / 256) ++ [v % 256]
theorem beN_len : ∀ (n : Nat) (v : Int), (beN n v).length = n
  | 0, _ => rfl
  | n + 1, v => by simp [beN, beN_len n]
theorem beN_byte : ∀ (n : Nat) (v : Int) (x : Int), x ∈ beN n v → 0 ≤ x ∧ x ≤ 255
  | 0, _, _, h => by simp [beN] at h
  | n + 1, v, x, h => by
    simp only [beN, List.mem_append, List.mem_singleton] at h
    rcases h with h | rfl
    · exact beN_byte n _ x h
    · omega

/-- the number of octets -/
def numB (l : List Int) : Int := l.foldl (fun v x => v * 256 + x) 0
theorem numB_snoc (l : List Int) (x : Int) : numB (l ++ [x]) = numB l * 256 + x := by simp [numB]
theorem num_be : ∀ (n : Nat) (v : Int), 0 ≤ v → v < 256 ^ n → numB (beN n v) = v
  | 0, v, h0, h1 => by simp at h1; simp [beN, numB]; omega
  | n + 1, v, h0, h1 => by
    rw [Int.pow_succ] at h1
    rw [beN, numB_snoc, num_be n (v / 256) (by omega) (by omega)]; omega
theorem numB_bd (l : List Int) (hl : ∀ x, x ∈ l → 0 ≤ x ∧ x ≤ 255) : 0 ≤ numB l ∧ numB l < 256 ^ l.length := by
  have key : ∀ n (l : List Int), l.length = n → (∀ x, x ∈ l → 0 ≤ x ∧ x ≤ 255) → 0 ≤ numB l ∧ numB l < 256 ^ l.length := by
    intro n
    induction n with
    | zero => intro l h _; rw [List.length_eq_zero_iff] at h; subst h; simp [numB]
    | succ n ih =>
      intro l h hb
      have hne : l ≠ [] := by intro e; subst e; simp at h
      obtain ⟨m, x, rfl⟩ : ∃ m x, l = m ++ [x] := ⟨l.dropLast, l.getLast hne, (List.dropLast_concat_getLast hne).symm⟩
      have hm : m.length = n := by simpa using h
      obtain ⟨a, b⟩ := ih m hm (fun y hy => hb y (by simp [hy]))
      obtain ⟨c, d⟩ := hb x (by simp)
      rw [numB_snoc]
      simp only [List.length_append, List.length_cons, List.length_nil, Int.pow_succ]
      omega
  exact key _ l rfl hl
theorem be_num (l : List Int) (hl : ∀ x, x ∈ l → 0 ≤ x ∧ x ≤ 255) : beN l.length (numB l) = l := by
  have key : ∀ n (l : List Int), l.length = n → (∀ x, x ∈ l → 0 ≤ x ∧ x ≤ 255) → beN n (numB l) = l := by
    intro n
    induction n with
    | zero => intro l h _; rw [List.length_eq_zero_iff] at h; subst h; rfl
    | succ n ih =>
      intro l h hb
      have hne : l ≠ [] := by intro e; subst e; simp at h
      obtain ⟨m, x, rfl⟩ : ∃ m x, l = m ++ [x] := ⟨l.dropLast, l.getLast hne, (List.dropLast_concat_getLast hne).symm⟩
      have hm : m.length = n := by simpa using h
      obtain ⟨c, d⟩ := hb x (by simp)
      have e1 : (numB m * 256 + x) / 256 = numB m := by omega
      have e2 : (numB m * 256 + x) % 256 = x := by omega
      rw [numB_snoc, beN, e1, e2, ih m hm (fun y hy => hb y (by simp [hy]))]
  exact key _ l rfl hl

theorem set_drop {α : Type} : ∀ (l : List α) (k : Nat) (x : α), k < l.length → (l.set k x).drop k = x :: l.drop (k + 1)
  | [], k, x, h => by simp at h
  | a :: l, 0, x, h => by simp
  | a :: l, k + 1, x, h => by simpa using set_drop l k x (by simpa using h)

theorem put_step {k : Nat} {v : Int} {l : List Int} (_h0 : 0 ≤ v) (hk : k < l.length) : octet_Put_s1 k v l = some (.inl (v / 256, l.set k (v % 256))) := by
  unfold octet_Put_s1
  rw [bnd (ix_some (n := k) rfl hk), sf_shr (y := 8) (n := 8) rfl (by decide), wu8]
  rfl

theorem put_fold : ∀ (k : Nat) (v : Int) (l : List Int), 0 ≤ v → k ≤ l.length →
    foldX (fun (y1 : Nat) (s : Int × List Int) => octet_Put_s1 y1 s.1 s.2) (fun (s : Int × List Int) => octet_Put_d1 s.1 s.2) (List.range k).reverse (v, l) = some (beN k v ++ l.drop k, 0)
  | 0, v, l, _, _ => by simp [foldX, octet_Put_d1, beN]
  | k + 1, v, l, h0, hk => by
    rw [List.range_succ, List.reverse_append]
    simp only [List.reverse_cons, List.reverse_nil, List.nil_append, List.cons_append, foldX]
    rw [put_step h0 (by omega)]
    simp only []
    rw [put_fold k (v / 256) (l.set k (v % 256)) (by omega) (by simp; omega), set_drop _ _ _ (by omega)]
    simp [beN]

theorem sized_eq (n : Int) : octet_sized n = decide (1 ≤ n ∧ n ≤ 8) := by
  simp only [octet_sized, cm_geq, cm_leq, Bool.decide_and]

theorem put_eq {v : Int} {n : Nat} (h0 : 0 ≤ v) (h1 : 1 ≤ n) (h2 : n ≤ 8) (hf : n = 8 ∨ v < 2 ^ (8 * n)) : octet_Put v n = some (beN n v, 0) := by
  unfold octet_Put octet_Put_l1
  rw [sized_eq, if_neg (by simp; omega)]
  have e8 : ar .mul .i64 8 (n : Int) = ((8 * n : Nat) : Int) := by rw [ar_mul, w_i64 (by omega) (by omega)]; omega
  have hl : mkL (0 : Int) n n = some (List.replicate n 0) := by
    simp only [mkL]; rw [if_pos (by omega)]; rfl
  have hlo : lnO (List.replicate n (0 : Int)) = some () := by simp [lnO]; omega
  have fin : Option.bind (mkL (0 : Int) n n) (fun x2 => Option.bind (lnO x2) fun _ => foldX (fun (y1 : Nat) (s : Int × List Int) => octet_Put_s1 y1 s.1 s.2) (fun (s : Int × List Int) => octet_Put_d1 s.1 s.2) (List.range x2.length).reverse (v, x2)) = some (beN n v, 0) := by
    rw [bnd hl, bnd hlo, List.length_replicate, put_fold n v _ h0 (by simp)]
    simp
  by_cases hn : n = 8
  · have hc : cm .lss (n : Int) 8 = false := by rw [cm_lss]; simp; omega
    rw [hc, gTF]
    simp only [Option.bind_some, Bool.false_and]
    rw [if_neg (by decide)]
    exact fin
  · have hc : cm .lss (n : Int) 8 = true := by rw [cm_lss]; simp; omega
    have hv : v < 2 ^ (8 * n) := by omega
    have hs : sf .shr .u64 v ((8 * n : Nat) : Int) = 0 := by
      rw [sf_shr (n := 8 * n) rfl (by simp [IntKind.bits]; omega)]
      exact Int.ediv_eq_zero_of_lt h0 hv
    rw [hc, gTT, e8, sfO_nn (by omega), Option.bind_some, hs]
    have : cm .gtr (0 : Int) 0 = false := by decide
    rw [this, if_neg (by decide)]
    exact fin

theorem put_no {v : Int} {n : Nat} (h0 : 0 ≤ v) (h1 : 1 ≤ n) (h2 : n < 8) (hf : 2 ^ (8 * n) ≤ v) : octet_Put v n = some ([], 6) := by
  unfold octet_Put
  rw [sized_eq, if_neg (by simp; omega)]
  have e8 : ar .mul .i64 8 (n : Int) = ((8 * n : Nat) : Int) := by rw [ar_mul, w_i64 (by omega) (by omega)]; omega
  have hc : cm .lss (n : Int) 8 = true := by rw [cm_lss]; simp; omega
  have hp : (0 : Int) < 2 ^ (8 * n) := Int.pow_pos (by decide)
  have hs : 0 < sf .shr .u64 v ((8 * n : Nat) : Int) := by
    rw [sf_shr (n := 8 * n) rfl (by simp [IntKind.bits]; omega)]
    exact by have := Int.le_ediv_of_mul_le hp (show 1 * 2 ^ (8 * n) ≤ v by omega); omega
  rw [hc, gTT, e8, sfO_nn (by omega), Option.bind_some]
  rw [if_pos (by rw [cm_gtr]; simpa using hs)]

theorem get_fold {l : List Int} (hl : ∀ x, x ∈ l → 0 ≤ x ∧ x ≤ 255) (h8 : l.length ≤ 8) : octet_Get_l2 none l 0 0 = some (numB l, 0) := by
  unfold octet_Get_l2
  have := loop_seq (step := fun (s : Int × Int) => octet_Get_s2 none l s.1 s.2) (r := (numB l, 0)) (fun i => (numB (l.take i), (i : Int))) l.length (fun i hi => by
    show octet_Get_s2 none l _ _ = _
    have hx := hl l[i] (List.getElem_mem hi)
    have hb := numB_bd (l.take i) (fun x hx => hl x (List.mem_of_mem_take hx))
    have hp : (256 : Int) ^ (l.take i).length ≤ 256 ^ 7 := by
      have h7 : (l.take i).length ≤ 7 := by rw [List.length_take]; omega
      have h3 := Nat.pow_le_pow_right (show 0 < 256 by decide) h7
      have h4 : (((256 : Nat) ^ (l.take i).length : Nat) : Int) = (256 : Int) ^ (l.take i).length := Int.natCast_pow _ _
      have h5 : (((256 : Nat) ^ 7 : Nat) : Int) = (256 : Int) ^ 7 := Int.natCast_pow _ _
      rw [← h4, ← h5]; exact Int.ofNat_le.2 h3
    have h256 : (256 : Int) ^ 7 = 72057594037927936 := by decide
    show octet_Get_s2 none l (numB (l.take i)) (i : Int) = _
    unfold octet_Get_s2
    rw [if_pos (by rw [cm_lss]; simpa using hi), bnd (ix_some (n := i) rfl hi), sf_shl (y := 8) (n := 8) rfl (by decide)]
    have e1 : IntKind.u64.wrap (numB (l.take i) * 2 ^ 8) = numB (l.take i) * 2 ^ 8 := w_u64 (by omega) (by omega)
    have e2 : IntKind.u64.wrap l[i] = l[i] := w_u64 (by omega) (by omega)
    rw [e1, e2, ar_or_add (n := 8) (a := numB (l.take i)) rfl rfl (by omega) (by omega) (by omega) (by simp [IntKind.bits]; omega) (by decide)]
    have e3 : numB (l.take (i + 1)) = numB (l.take i) * 2 ^ 8 + l[i] := by
      rw [List.take_add_one, List.getElem?_eq_getElem hi]
      exact numB_snoc _ _
    rw [e3, ar_add, w_i64 (by omega) (by omega)]
    rfl) (by
    show octet_Get_s2 none l _ _ = _
    unfold octet_Get_s2
    rw [if_neg (by rw [cm_lss]; simp)]
    simp)
  simpa [numB] using this

theorem there_eq {b : List Int} {at_ n : Int} (h0 : 0 ≤ at_) (hb : b.length ≤ 4294967296) : octet_there b at_ n = decide (at_ ≤ b.length ∧ at_ + n ≤ b.length) := by
  simp only [octet_there, cm_leq]
  by_cases h : at_ ≤ b.length
  · rw [ar_sub, w_i64 (by omega) (by omega)]
    by_cases h2 : at_ + n ≤ b.length
    · simp [h, h2]; omega
    · simp [h, h2]; omega
  · simp [h]

theorem get_eq {b : List Int} {at_ n : Nat} (h1 : 1 ≤ n) (h2 : n ≤ 8) (hb : ∀ x, x ∈ b → 0 ≤ x ∧ x ≤ 255) (hl : b.length ≤ 4294967296) (h : at_ + n ≤ b.length) :
    octet_Get none b at_ n = some (numB ((b.drop at_).take n), 0) := by
  have hs : octet_sized (n : Int) = true := by rw [sized_eq]; simp; omega
  have ht : octet_there b at_ n = true := by rw [there_eq (by omega) hl]; simp; omega
  unfold octet_Get octet_Get_j1
  rw [hs, if_neg (by decide), cm_lss, if_neg (by simp), ht, if_neg (by decide), ar_add, w_i64 (by omega) (by omega), bnd (sub_some (by omega) (by omega) (by omega))]
  have e : ((at_ : Int) + n).toNat - (at_ : Int).toNat = n := by omega
  rw [e, Int.toNat_natCast]
  exact get_fold (fun x hx => hb x (List.mem_of_mem_drop (List.mem_of_mem_take hx))) (by rw [List.length_take]; omega)

theorem get_short {b : List Int} {at_ n : Nat} (h1 : 1 ≤ n) (h2 : n ≤ 8) (hl : b.length ≤ 4294967296) (h : b.length < at_ + n) :
    octet_Get none b at_ n = some (0, 2) := by
  have hs : octet_sized (n : Int) = true := by rw [sized_eq]; simp; omega
  have ht : octet_there b at_ n = false := by rw [there_eq (by omega) hl]; simp; omega
  unfold octet_Get octet_Get_j1
  rw [hs, if_neg (by decide), cm_lss, if_neg (by simp), ht, if_pos (by decide)]
end Xb

namespace Xb
open Go

theorem chunks_nil {α : Type} {n : Nat} (h : 1 ≤ n) : chunksL n ([] : List α) = [] := by
  simp only [chunksL, List.length_nil]
  rw [Nat.div_eq_of_lt (by omega)]; rfl
theorem chunks_cons {α : Type} {n : Nat} (h : 1 ≤ n) {l : List α} (hl : l ≠ []) : chunksL n l = l.take n :: chunksL n (l.drop n) := by
  have h0 := chunksL_drop h l 0 (by rw [Nat.zero_mul]; exact List.length_pos_iff.2 hl)
  simp only [List.drop_zero, Nat.zero_mul] at h0
  rw [h0]
  congr 1
  simp only [chunksL, List.length_drop, ← List.map_drop, List.drop_drop]
  have e : (l.length + n - 1) / n = (l.length - n + n - 1) / n + 1 := by
    have hp := List.length_pos_iff.2 hl
    by_cases hn : l.length ≤ n
    · have e1 : l.length - n = 0 := by omega
      rw [e1, Nat.zero_add, Nat.div_eq_of_lt (show n - 1 < n by omega)]
      exact Nat.div_eq_of_lt_le (by omega) (by omega)
    · have e1 : l.length + n - 1 = (l.length - n + n - 1) + n := by omega
      rw [e1, Nat.add_div_right _ (by omega)]
  rw [e, List.range_succ_eq_map, List.drop_one, List.tail_cons, List.map_map]
  apply List.map_congr_left
  intro i _
  simp only [Function.comp]
  congr 2
  rw [Nat.succ_mul]; omega
theorem chunks_flat {α : Type} {n : Nat} (h : 1 ≤ n) : ∀ (l : List α), (chunksL n l).flatten = l := by
  have key : ∀ m (l : List α), l.length ≤ m → (chunksL n l).flatten = l := by
    intro m
    induction m with
    | zero => intro l hl; have : l = [] := List.length_eq_zero_iff.1 (by omega); subst this; rw [chunks_nil h]; rfl
    | succ m ih =>
      intro l hl
      by_cases hn : l = []
      · subst hn; rw [chunks_nil h]; rfl
      · have hp := List.length_pos_iff.2 hn
        rw [chunks_cons h hn, List.flatten_cons, ih _ (by rw [List.length_drop]; omega), List.take_append_drop]
  exact fun l => key l.length l (Nat.le_refl _)
theorem chunks_len {α : Type} {n : Nat} (h : 1 ≤ n) {l : List α} (hd : l.length % n = 0) : ∀ c, c ∈ chunksL n l → c.length = n := by
  intro c hc
  simp only [chunksL, List.mem_map, List.mem_range] at hc
  obtain ⟨i, hi, rfl⟩ := hc
  rw [List.length_take, List.length_drop]
  have e : l.length = n * (l.length / n) := by have := Nat.div_add_mod l.length n; omega
  have hi2 : i < l.length / n := by
    have : (l.length + n - 1) / n ≤ l.length / n := by
      rw [e]
      generalize l.length / n = q
      have : n * q + n - 1 = n - 1 + n * q := by omega
      rw [this, Nat.add_mul_div_left _ _ (by omega), Nat.mul_div_cancel_left _ (by omega), Nat.div_eq_of_lt (show n - 1 < n by omega)]
      omega
    omega
  have h3 : n * (i + 1) ≤ n * (l.length / n) := Nat.mul_le_mul_left _ hi2
  rw [Nat.mul_add, Nat.mul_one, Nat.mul_comm n i] at h3
  omega
theorem chunks_mem {α : Type} {n : Nat} {l : List α} {c : List α} (hc : c ∈ chunksL n l) {x : α} (hx : x ∈ c) : x ∈ l := by
  simp only [chunksL, List.mem_map, List.mem_range] at hc
  obtain ⟨i, hi, rfl⟩ := hc
  exact List.mem_of_mem_drop (List.mem_of_mem_take hx)
theorem chunks_of {α : Type} {n : Nat} (h : 1 ≤ n) : ∀ (L : List (List α)), (∀ c, c ∈ L → c.length = n) → chunksL n L.flatten = L
  | [], _ => by rw [List.flatten_nil, chunks_nil h]
  | c :: L, hL => by
    have hc := hL c (by simp)
    rw [List.flatten_cons, chunks_cons h (by intro e; have := congrArg List.length e; simp only [List.length_append, List.length_nil] at this; omega)]
    rw [List.take_left' hc, List.drop_left' hc, chunks_of h L fun d hd => hL d (by simp [hd])]
theorem chunks_count {α : Type} {n : Nat} (h : 1 ≤ n) {l : List α} (hd : l.length % n = 0) : (chunksL n l).length = l.length / n := by
  simp only [chunksL, List.length_map, List.length_range]
  have e : l.length = n * (l.length / n) := by have := Nat.div_add_mod l.length n; omega
  generalize l.length / n = q at *
  rw [e]
  have : n * q + n - 1 = n - 1 + n * q := by omega
  rw [this, Nat.add_mul_div_left _ _ (by omega), Nat.div_eq_of_lt (show n - 1 < n by omega), Nat.zero_add]

/-- folds that only gather -/
theorem fold_map {α β ρ : Type} {step : α → List β → Option (List β ⊕ ρ)} {done : List β → Option ρ} {f : α → β} : ∀ (l : List α) (s : List β), (∀ x s, x ∈ l → s.length ≤ 1000000 → step x s = some (.inl (s ++ [f x]))) → s.length + l.length ≤ 1000000 → foldX step done l s = done (s ++ l.map f)
  | [], s, _, _ => by simp [foldX]
  | x :: l, s, h, hn => by
    simp only [List.length_cons] at hn
    simp only [foldX, h x s (by simp) (by omega)]
    rw [fold_map l _ (fun y t hy ht => h y t (by simp [hy]) ht) (by simp; omega)]
    simp
/-- folds that look for one -/
theorem fold_all {α ρ σ : Type} {step : α → σ → Option (σ ⊕ ρ)} {done : σ → Option ρ} {p : α → Bool} {no : ρ} : ∀ (l : List α) (s : σ), (∀ x, x ∈ l → step x s = if p x then some (.inl s) else some (.inr no)) → foldX step done l s = if l.all p then done s else some no
  | [], s, _ => by simp [foldX]
  | x :: l, s, h => by
    simp only [foldX, h x (by simp)]
    by_cases hp : p x = true
    · simp only [hp, if_true]
      rw [fold_all l s fun y hy => h y (by simp [hy])]
      simp [hp]
    · simp [hp]

/-- texts are the same when the octets are -/
theorem b2s_inj {a b : List Int} (ha : ∀ x, x ∈ a → 0 ≤ x ∧ x ≤ 255) (hb : ∀ x, x ∈ b → 0 ≤ x ∧ x ≤ 255) : b2s a = b2s b ↔ a = b := by
  refine ⟨fun h => ?_, fun h => by rw [h]⟩
  have hi : ∀ (l : List Int), (∀ x, x ∈ l → 0 ≤ x ∧ x ≤ 255) → (b2s l).map (fun u => (u.toNat : Int)) = l := by
    intro l hl
    unfold b2s
    rw [List.map_map]
    conv => rhs; rw [← List.map_id l]
    apply List.map_congr_left
    intro x hx
    obtain ⟨h0, h1⟩ := hl x hx
    simp
    omega
  rw [← hi a ha, ← hi b hb, h]
theorem sc_b2s {a b : List Int} (ha : ∀ x, x ∈ a → 0 ≤ x ∧ x ≤ 255) (hb : ∀ x, x ∈ b → 0 ≤ x ∧ x ≤ 255) : sc .eql (b2s a) (b2s b) = decide (a = b) := by
  simp only [sc]
  by_cases h : a = b
  · subst h; simp
  · simp [h]; exact fun e => h ((b2s_inj ha hb).1 e)
end Xb

namespace Xb
open Go

theorem beN_cons : ∀ (i : Nat) (v : Int), 0 ≤ v → beN (i + 1) v = (v / 256 ^ i % 256) :: beN i v
  | 0, v, _ => by simp [beN]
  | i + 1, v, h => by
    rw [beN, beN_cons i (v / 256) (by omega), beN]
    rw [List.cons_append]
    congr 2
    rw [Int.ediv_ediv_of_nonneg (by omega)]
    congr 1
    rw [Int.pow_succ, Int.mul_comm]

theorem rset {n i : Nat} (l : List Int) (hi : i < n) (x : Int) : (List.replicate (n - i) (0 : Int) ++ l).set (n - 1 - i) x = List.replicate (n - (i + 1)) 0 ++ x :: l := by
  have e : n - i = (n - (i + 1)) + 1 := by omega
  rw [e, List.replicate_succ', List.append_assoc, List.set_append_right _ _ (by simp; omega)]
  have : n - 1 - i - (List.replicate (n - (i + 1)) (0 : Int)).length = 0 := by simp; omega
  rw [this]; rfl

theorem rput_eq {v : Int} {n : Nat} (h0 : 0 ≤ v) (h1 : 1 ≤ n) (h2 : n ≤ 8) (h64 : v ≤ 18446744073709551615) : ref01_Put none v n = some (if v < 256 ^ n then (beN n v, 0) else ([], 6)) := by
  unfold ref01_Put ref01_Put_l1
  have hl : mkL (0 : Int) n n = some (List.replicate n 0) := by
    simp only [mkL]; rw [if_pos (by omega)]; rfl
  rw [if_neg (by rw [cm_lss, cm_gtr]; simp; omega), bnd hl]
  have hpow : ∀ i : Nat, (0 : Int) < 256 ^ i := fun i => Int.pow_pos (by decide)
  have := loop_seq (step := fun (s : Int × List Int × Int) => ref01_Put_s1 none n s.1 s.2.1 s.2.2) (r := if v < 256 ^ n then (beN n v, 0) else ([], 6)) (fun i => (v / 256 ^ i, List.replicate (n - i) 0 ++ beN i v, (i : Int))) n (fun i hi => by
    show ref01_Put_s1 none n (v / 256 ^ i) (List.replicate (n - i) 0 ++ beN i v) (i : Int) = _
    have hv : 0 ≤ v / 256 ^ i := Int.ediv_nonneg h0 (by have := hpow i; omega)
    unfold ref01_Put_s1
    have e1 : ar .sub .i64 (ar .sub .i64 (n : Int) 1) (i : Int) = ((n - 1 - i : Nat) : Int) := by
      have ea : ar .sub .i64 (n : Int) 1 = (n : Int) - 1 := by rw [ar_sub, w_i64 (by omega) (by omega)]
      rw [ea, ar_sub, w_i64 (by omega) (by omega)]; omega
    have hlen : n - 1 - i < (List.replicate (n - i) (0 : Int) ++ beN i v).length := by simp [beN_len]; omega
    rw [if_pos (by rw [cm_lss]; simpa using hi), e1, bnd (ix_some (n := n - 1 - i) rfl hlen), dv_quo hv, dv_rem hv, ar_add, w_i64 (by omega) (by omega), Int.toNat_natCast]
    have e2 : v / 256 ^ i / 256 = v / 256 ^ (i + 1) := by
      rw [Int.ediv_ediv_of_nonneg (by have := hpow i; omega), Int.pow_succ]
    have hle : v / 256 ^ i ≤ v := Int.ediv_le_self _ h0
    have e3 : IntKind.u64.wrap (v / 256 ^ i / 256) = v / 256 ^ (i + 1) := by rw [w_u64 (by omega) (by omega), e2]
    rw [rset _ hi, w_u8 (by omega) (by omega), beN_cons i v h0, e3]
    rfl) (by
    show ref01_Put_s1 none n (v / 256 ^ n) (List.replicate (n - n) 0 ++ beN n v) (n : Int) = _
    unfold ref01_Put_s1
    rw [if_neg (by rw [cm_lss]; simp), Nat.sub_self]
    by_cases hv : v < 256 ^ n
    · have : v / 256 ^ n = 0 := Int.ediv_eq_zero_of_lt h0 hv
      rw [this, if_neg (by decide), if_pos hv]
      simp
    · have : 1 ≤ v / 256 ^ n := Int.le_ediv_of_mul_le (hpow n) (by omega)
      rw [if_pos (by rw [cm_gtr]; simp; omega), if_neg hv]
      rfl)
  simpa [beN] using this

theorem rmust_eq {v : Int} {n : Nat} (h0 : 0 ≤ v) (h1 : 1 ≤ n) (h2 : n ≤ 8) (h64 : v ≤ 18446744073709551615) (hv : v < 256 ^ n) : ref01_Must none v n = some (beN n v) := by
  unfold ref01_Must
  rw [bnd (rput_eq h0 h1 h2 h64), if_pos hv]

theorem numB_bd8 {l : List Int} (hl : ∀ x, x ∈ l → 0 ≤ x ∧ x ≤ 255) {k : Nat} (hk : l.length ≤ k) : 0 ≤ numB l ∧ numB l < 256 ^ k := by
  have hbd := numB_bd l hl
  have h3 := Nat.pow_le_pow_right (show 0 < 256 by decide) hk
  have h5 : (((256 : Nat) ^ l.length : Nat) : Int) = (256 : Int) ^ l.length := Int.natCast_pow _ _
  have h6 : (((256 : Nat) ^ k : Nat) : Int) = (256 : Int) ^ k := Int.natCast_pow _ _
  have : (256 : Int) ^ l.length ≤ 256 ^ k := by rw [← h5, ← h6]; exact Int.ofNat_le.2 h3
  omega

theorem rget_eq {b : List Int} {at_ n : Nat} (h1 : 1 ≤ n) (h2 : n ≤ 8) (hb : ∀ x, x ∈ b → 0 ≤ x ∧ x ≤ 255) (hl : b.length ≤ 4294967296) (h : at_ + n ≤ b.length) :
    ref01_Get none b at_ n = some (numB ((b.drop at_).take n), 0) := by
  unfold ref01_Get ref01_Get_l1
  rw [if_neg (by rw [cm_lss, cm_gtr, cm_lss]; simp; omega), ar_sub, w_i64 (by omega) (by omega), if_neg (by rw [cm_gtr, cm_lss]; simp; omega)]
  have hsl : ((b.drop at_).take n).length = n := by rw [List.length_take, List.length_drop]; omega
  have := loop_seq (step := fun (s : Int × Int) => ref01_Get_s1 none b at_ n s.1 s.2) (r := (numB ((b.drop at_).take n), 0)) (fun i => (numB ((b.drop at_).take i), (i : Int))) n (fun i hi => by
    show ref01_Get_s1 none b at_ n (numB ((b.drop at_).take i)) (i : Int) = _
    have hlt : at_ + i < b.length := by omega
    have hx := hb b[at_ + i] (List.getElem_mem hlt)
    have hbd := numB_bd8 (l := (b.drop at_).take i) (fun x hx => hb x (List.mem_of_mem_drop (List.mem_of_mem_take hx))) (k := 7) (by rw [List.length_take]; omega)
    have h256 : (256 : Int) ^ 7 = 72057594037927936 := by decide
    unfold ref01_Get_s1
    rw [if_pos (by rw [cm_lss]; simpa using hi), ar_add (x := (at_ : Int)), w_i64 (by omega) (by omega), bnd (ix_some (n := at_ + i) (by omega) hlt), ar_mul, w_u64 (n := 256 * numB ((b.drop at_).take i)) (by omega) (by omega),
      w_u64 (n := b[at_ + i]) (by omega) (by omega), ar_add (k := .u64), w_u64 (by omega) (by omega), ar_add, w_i64 (by omega) (by omega)]
    have e3 : numB ((b.drop at_).take (i + 1)) = numB ((b.drop at_).take i) * 256 + b[at_ + i] := by
      rw [List.take_add_one, List.getElem?_drop, List.getElem?_eq_getElem hlt]
      exact numB_snoc _ _
    rw [e3, Int.mul_comm]
    rfl) (by
    show ref01_Get_s1 none b at_ n _ _ = _
    unfold ref01_Get_s1
    rw [if_neg (by rw [cm_lss]; simp)]
    rfl)
  simpa [numB] using this
theorem rget_short {b : List Int} {at_ n : Nat} (h1 : 1 ≤ n) (h2 : n ≤ 8) (hl : b.length ≤ 4294967296) (h : b.length < at_ + n) : ref01_Get none b at_ n = some (0, 2) := by
  unfold ref01_Get
  rw [if_neg (by rw [cm_lss, cm_gtr, cm_lss]; simp; omega)]
  by_cases h3 : (at_ : Int) > b.length
  · rw [if_pos (by rw [cm_gtr]; simp; omega)]
  · rw [ar_sub, w_i64 (by omega) (by omega), if_pos (by rw [cm_gtr, cm_lss]; simp; omega)]
end Xb

