/- Own text: HOct1. -/
import Derived.Test.YtbbjigdfgildeaaMath2
import Derived.Test.YtbbjigdfgildeaaHModels
set_option linter.all false
set_option linter.unusedVariables false
set_option linter.unusedSimpArgs false
set_option linter.unnecessarySimpa false
set_option linter.deprecated false
namespace Xb
open Go

/-- a number's octets, the greatest first -/
def beN : Nat → Int → List Int
  | 0, _ => []
  | n + 1, v => beN n (v / 256) ++ [v % 256]
theorem beN_len : ∀ (n : Nat) (v : Int), (beN n v).length = n
  | 0, _ => rfl
  | n + 1, v => by simp [beN, beN_len n]
theorem beN_byte : ∀ (n : Nat) (v : Int) (x : Int), x ∈ beN n v → 0 ≤ x ∧ x ≤ 255
  | 0, _, _, h => by simp [beN] at h
  | n + 1, v, x, h => by
    simp only [beN, List.mem_append, List.mem_singleton] at h
    rcases h with h | rfl
    · exact beN_byte n _ x h
    · omega

/-- the number of octets -/
def numB (l : List Int) : Int := l.foldl (fun v x => v * 256 + x) 0
theorem numB_snoc (l : List Int) (x : Int) : numB (l ++ [x]) = numB l * 256 + x := by simp [numB]
theorem num_be : ∀ (n : Nat) (v : Int), 0 ≤ v → v < 256 ^ n → numB (beN n v) = v
  | 0, v, h0, h1 => by simp at h1; simp [beN, numB]; omega
  | n + 1, v, h0, h1 => by
    rw [Int.pow_succ] at h1
    rw [beN, numB_snoc, num_be n (v / 256) (by omega) (by omega)]; omega
theorem numB_bd (l : List Int) (hl : ∀ x, x ∈ l → 0 ≤ x ∧ x ≤ 255) : 0 ≤ numB l ∧ numB l < 256 ^ l.length := by
  have key : ∀ n (l : List Int), l.length = n → (∀ x, x ∈ l → 0 ≤ x ∧ x ≤ 255) → 0 ≤ numB l ∧ numB l < 256 ^ l.length := by
    intro n
    induction n with
    | zero => intro l h _; rw [List.length_eq_zero_iff] at h; subst h; simp [numB]
    | succ n ih =>
      intro l h hb
      have hne : l ≠ [] := by intro e; subst e; simp at h
      obtain ⟨m, x, rfl⟩ : ∃ m x, l = m ++ [x] := ⟨l.dropLast, l.getLast hne, (List.dropLast_concat_getLast hne).symm⟩
      have hm : m.length = n := by simpa using h
      obtain ⟨a, b⟩ := ih m hm (fun y hy => hb y (by simp [hy]))
      obtain ⟨c, d⟩ := hb x (by simp)
      rw [numB_snoc]
      simp only [List.length_append, List.length_cons, List.length_nil, Int.pow_succ]
      omega
  exact key _ l rfl hl
theorem be_num (l : List Int) (hl : ∀ x, x ∈ l → 0 ≤ x ∧ x ≤ 255) : beN l.length (numB l) = l := by
  have key : ∀ n (l : List Int), l.length = n → (∀ x, x ∈ l → 0 ≤ x ∧ x ≤ 255) → beN n (numB l) = l := by
    intro n
    induction n with
    | zero => intro l h _; rw [List.length_eq_zero_iff] at h; subst h; rfl
    | succ n ih =>
      intro l h hb
      have hne : l ≠ [] := by intro e; subst e; simp at h
      obtain ⟨m, x, rfl⟩ : ∃ m x, l = m ++ [x] := ⟨l.dropLast, l.getLast hne, (List.dropLast_concat_getLast hne).symm⟩
      have hm : m.length = n := by simpa using h
      obtain ⟨c, d⟩ := hb x (by simp)
      have e1 : (numB m * 256 + x) / 256 = numB m := by omega
      have e2 : (numB m * 256 + x) % 256 = x := by omega
      rw [numB_snoc, beN, e1, e2, ih m hm (fun y hy => hb y (by simp [hy]))]
  exact key _ l rfl hl

theorem set_drop {α : Type} : ∀ (l : List α) (k : Nat) (x : α), k < l.length → (l.set k x).drop k = x :: l.drop (k + 1)
  | [], k, x, h => by simp at h
  | a :: l, 0, x, h => by simp
  | a :: l, k + 1, x, h => by simpa using set_drop l k x (by simpa using h)

theorem put_step {k : Nat} {v : Int} {l : List Int} (_h0 : 0 ≤ v) (hk : k < l.length) : octet_Put_s1 k v l = some (.inl (v / 256, l.set k (v % 256))) := by
  unfold octet_Put_s1
  rw [bnd (ix_some (n := k) rfl hk), sf_shr (y := 8) (n := 8) rfl (by decide), wu8]
  rfl

theorem put_fold : ∀ (k : Nat) (v : Int) (l : List Int), 0 ≤ v → k ≤ l.length →
    foldX (fun (y1 : Nat) (s : Int × List Int) => octet_Put_s1 y1 s.1 s.2) (fun (s : Int × List Int) => octet_Put_d1 s.1 s.2) (List.range k).reverse (v, l) = some (beN k v ++ l.drop k, 0)
  | 0, v, l, _, _ => by simp [foldX, octet_Put_d1, beN]
  | k + 1, v, l, h0, hk => by
    rw [List.range_succ, List.reverse_append]
    simp only [List.reverse_cons, List.reverse_nil, List.nil_append, List.cons_append, foldX]
    rw [put_step h0 (by omega)]
    simp only []
    rw [put_fold k (v / 256) (l.set k (v % 256)) (by omega) (by simp; omega), set_drop _ _ _ (by omega)]
    simp [beN]

theorem sized_eq (n : Int) : octet_sized n = decide (1 ≤ n ∧ n ≤ 8) := by
  simp only [octet_sized, cm_geq, cm_leq, Bool.decide_and]

theorem put_eq {v : Int} {n : Nat} (h0 : 0 ≤ v) (h1 : 1 ≤ n) (h2 : n ≤ 8) (hf : n = 8 ∨ v < 2 ^ (8 * n)) : octet_Put v n = some (beN n v, 0) := by
  unfold octet_Put octet_Put_l1
  rw [sized_eq, if_neg (by simp; omega)]
  have e8 : ar .mul .i64 8 (n : Int) = ((8 * n : Nat) : Int) := by rw [ar_mul, w_i64 (by omega) (by omega)]; omega
  have hl : mkL (0 : Int) n n = some (List.replicate n 0) := by
    simp only [mkL]; rw [if_pos (by omega)]; rfl
  have hlo : lnO (List.replicate n (0 : Int)) = some () := by simp [lnO]; omega
  have fin : Option.bind (mkL (0 : Int) n n) (fun x2 => Option.bind (lnO x2) fun _ => foldX (fun (y1 : Nat) (s : Int × List Int) => octet_Put_s1 y1 s.1 s.2) (fun (s : Int × List Int) => octet_Put_d1 s.1 s.2) (List.range x2.length).reverse (v, x2)) = some (beN n v, 0) := by
    rw [bnd hl, bnd hlo, List.length_replicate, put_fold n v _ h0 (by simp)]
    simp
  by_cases hn : n = 8
  · have hc : cm .lss (n : Int) 8 = false := by rw [cm_lss]; simp; omega
    rw [hc, gTF]
    simp only [Option.bind_some, Bool.false_and]
    rw [if_neg (by decide)]
    exact fin
  · have hc : cm .lss (n : Int) 8 = true := by rw [cm_lss]; simp; omega
    have hv : v < 2 ^ (8 * n) := by omega
    have hs : sf .shr .u64 v ((8 * n : Nat) : Int) = 0 := by
      rw [sf_shr (n := 8 * n) rfl (by simp [IntKind.bits]; omega)]
      exact Int.ediv_eq_zero_of_lt h0 hv
    rw [hc, gTT, e8, sfO_nn (by omega), Option.bind_some, hs]
    have : cm .gtr (0 : Int) 0 = false := by decide
    rw [this, if_neg (by decide)]
    exact fin

theorem put_no {v : Int} {n : Nat} (h0 : 0 ≤ v) (h1 : 1 ≤ n) (h2 : n < 8) (hf : 2 ^ (8 * n) ≤ v) : octet_Put v n = some ([], 6) := by
  unfold octet_Put
  rw [sized_eq, if_neg (by simp; omega)]
  have e8 : ar .mul .i64 8 (n : Int) = ((8 * n : Nat) : Int) := by rw [ar_mul, w_i64 (by omega) (by omega)]; omega
  have hc : cm .lss (n : Int) 8 = true := by rw [cm_lss]; simp; omega
  have hp : (0 : Int) < 2 ^ (8 * n) := Int.pow_pos (by decide)
  have hs : 0 < sf .shr .u64 v ((8 * n : Nat) : Int) := by
    rw [sf_shr (n := 8 * n) rfl (by simp [IntKind.bits]; omega)]
    exact by have := Int.le_ediv_of_mul_le hp (show 1 * 2 ^ (8 * n) ≤ v by omega); omega
  rw [hc, gTT, e8, sfO_nn (by omega), Option.bind_some]
  rw [if_pos (by rw [cm_gtr]; simpa using hs)]

theorem get_fold {l : List Int} (hl : ∀ x, x ∈ l → 0 ≤ x ∧ x ≤ 255) (h8 : l.length ≤ 8) : octet_Get_l2 none l 0 0 = some (numB l, 0) := by
  unfold octet_Get_l2
  have := loop_seq (step := fun (s : Int × Int) => octet_Get_s2 none l s.1 s.2) (r := (numB l, 0)) (fun i => (numB (l.take i), (i : Int))) l.length (fun i hi => by
    show octet_Get_s2 none l _ _ = _
    have hx := hl l[i] (List.getElem_mem hi)
    have hb := numB_bd (l.take i) (fun x hx => hl x (List.mem_of_mem_take hx))
    have hp : (256 : Int) ^ (l.take i).length ≤ 256 ^ 7 := by
      have h7 : (l.take i).length ≤ 7 := by rw [List.length_take]; omega
      have h3 := Nat.pow_le_pow_right (show 0 < 256 by decide) h7
      have h4 : (((256 : Nat) ^ (l.take i).length : Nat) : Int) = (256 : Int) ^ (l.take i).length := Int.natCast_pow _ _
      have h5 : (((256 : Nat) ^ 7 : Nat) : Int) = (256 : Int) ^ 7 := Int.natCast_pow _ _
      rw [← h4, ← h5]; exact Int.ofNat_le.2 h3
    have h256 : (256 : Int) ^ 7 = 72057594037927936 := by decide
    show octet_Get_s2 none l (numB (l.take i)) (i : Int) = _
    unfold octet_Get_s2
    rw [if_pos (by rw [cm_lss]; simpa using hi), bnd (ix_some (n := i) rfl hi), sf_shl (y := 8) (n := 8) rfl (by decide)]
    have e1 : IntKind.u64.wrap (numB (l.take i) * 2 ^ 8) = numB (l.take i) * 2 ^ 8 := w_u64 (by omega) (by omega)
    have e2 : IntKind.u64.wrap l[i] = l[i] := w_u64 (by omega) (by omega)
    rw [e1, e2, ar_or_add (n := 8) (a := numB (l.take i)) rfl rfl (by omega) (by omega) (by omega) (by simp [IntKind.bits]; omega) (by decide)]
    have e3 : numB (l.take (i + 1)) = numB (l.take i) * 2 ^ 8 + l[i] := by
      rw [List.take_add_one, List.getElem?_eq_getElem hi]
      exact numB_snoc _ _
    rw [e3, ar_add, w_i64 (by omega) (by omega)]
    rfl) (by
    show octet_Get_s2 none l _ _ = _
    unfold octet_Get_s2
    rw [if_neg (by rw [cm_lss]; simp)]
    simp)
  simpa [numB] using this

theorem there_eq {b : List Int} {at_ n : Int} (h0 : 0 ≤ at_) (hb : b.length ≤ 4294967296) : octet_there b at_ n = decide (at_ ≤ b.length ∧ at_ + n ≤ b.length) := by
  simp only [octet_there, cm_leq]
  by_cases h : at_ ≤ b.length
  · rw [ar_sub, w_i64 (by omega) (by omega)]
    by_cases h2 : at_ + n ≤ b.length
    · simp [h, h2]; omega
    · simp [h, h2]; omega
  · simp [h]

theorem get_eq {b : List Int} {at_ n : Nat} (h1 : 1 ≤ n) (h2 : n ≤ 8) (hb : ∀ x, x ∈ b → 0 ≤ x ∧ x ≤ 255) (hl : b.length ≤ 4294967296) (h : at_ + n ≤ b.length) :
    octet_Get none b at_ n = some (numB ((b.drop at_).take n), 0) := by
  have hs : octet_sized (n : Int) = true := by rw [sized_eq]; simp; omega
  have ht : octet_there b at_ n = true := by rw [there_eq (by omega) hl]; simp; omega
  unfold octet_Get octet_Get_j1
  rw [hs, if_neg (by decide), cm_lss, if_neg (by simp), ht, if_neg (by decide), ar_add, w_i64 (by omega) (by omega), bnd (sub_some (by omega) (by omega) (by omega))]
  have e : ((at_ : Int) + n).toNat - (at_ : Int).toNat = n := by omega
  rw [e, Int.toNat_natCast]
  exact get_fold (fun x hx => hb x (List.mem_of_mem_drop (List.mem_of_mem_take hx))) (by rw [List.length_take]; omega)

theorem get_short {b : List Int} {at_ n : Nat} (h1 : 1 ≤ n) (h2 : n ≤ 8) (hl : b.length ≤ 4294967296) (h : b.length < at_ + n) :
    octet_Get none b at_ n = some (0, 2) := by
  have hs : octet_sized (n : Int) = true := by rw [sized_eq]; simp; omega
  have ht : octet_there b at_ n = false := by rw [there_eq (by omega) hl]; simp; omega
  unfold octet_Get octet_Get_j1
  rw [hs, if_neg (by decide), cm_lss, if_neg (by simp), ht, if_pos (by decide)]
end Xb
