/- Own text: MChunk1. -/
import Derived.Test.YthdbckjpoffnpaaMath2
import Derived.Test.YthdbckjpoffnpaaEModels
set_option linter.all false
set_option linter.unusedVariables false
set_option linter.unusedSimpArgs false
set_option linter.unnecessarySimpa false
set_option linter.deprecated false
/-! Chunks: what the program writes, in plain words. -/
namespace Xb
open Go

def vl (l : List Int) : Prop := ∀ x, x ∈ l → 0 ≤ x ∧ x ≤ 2
theorem vl.sub {l m : List Int} (h : vl l) (hs : ∀ x, x ∈ m → x ∈ l) : vl m := fun x hx => h x (hs x hx)

theorem write1_eq (x : Int) : chunk_Write_1 x = decide (x < 0 ∨ 2 < x) := by
  simp only [chunk_Write_1, cm_lss, cm_gtr]; simp [Bool.decide_or]

theorem IndexFunc_eq {l : List Int} {f : Int → Option Bool} {p : Int → Bool} (hl : l.length ≤ 100000000) (h : ∀ x, x ∈ l → f x = some (p x)) :
    slices_IndexFunc none l f = some (match l.findIdx? p with | some i => (i : Int) | none => -1) := by
  unfold slices_IndexFunc slices_IndexFunc_l1
  exact find_loop (step := fun (s : Int) => slices_IndexFunc_s1 none l f s) (p := p) (hit := fun i => (i : Int)) (miss := -1) (by
    simp only [slices_IndexFunc_s1, cm_lss, decide_eq_true_eq]
    rw [if_neg (by omega)]; rfl) (fun i hi => by
    simp only [slices_IndexFunc_s1, cm_lss, decide_eq_true_eq]
    rw [if_pos (by omega), bnd (ix_some rfl hi), bnd (h _ (List.getElem_mem hi))]
    by_cases hp : p l[i] = true
    · rw [if_pos hp, if_pos hp]; rfl
    · rw [if_neg hp, if_neg hp, ar_add, w_i64 (by omega) (by omega)]; rfl)

theorem ContainsFunc_eq {l : List Int} {f : Int → Option Bool} {p : Int → Bool} (hl : l.length ≤ 100000000) (h : ∀ x, x ∈ l → f x = some (p x)) :
    slices_ContainsFunc none l f = some (l.any p) := by
  unfold slices_ContainsFunc
  rw [bnd (IndexFunc_eq hl h), cm_geq]
  congr 1
  cases hf : l.findIdx? p with
  | none =>
    rw [List.findIdx?_eq_none_iff] at hf
    have : l.any p = false := by simpa using hf
    rw [this]; decide
  | some i =>
    rw [List.findIdx?_eq_some_iff_getElem] at hf
    obtain ⟨hi, hp, _⟩ := hf
    have : l.any p = true := List.any_eq_true.2 ⟨l[i], List.getElem_mem hi, hp⟩
    rw [this]; simp

theorem Contains_eq {l : List Int} {v : Int} (hl : l.length ≤ 100000000) : slices_Contains none l v = some (decide (v ∈ l)) := by
  unfold slices_Contains slices_Index slices_Index_l1
  have h := find_loop (l := l) (step := fun (s : Int) => slices_Index_s1 none l v s) (p := fun x => decide (v = x)) (hit := fun i => (i : Int)) (miss := -1) (by
    simp only [slices_Index_s1, cm_lss, decide_eq_true_eq]
    rw [if_neg (by omega)]; rfl) (fun i hi => by
    simp only [slices_Index_s1, cm_lss, decide_eq_true_eq]
    rw [if_pos (by omega), bnd (ix_some rfl hi), cm_eql]
    by_cases hp : v = l[i]
    · rw [if_pos (by simpa using hp), if_pos hp]; rfl
    · rw [if_neg (by simpa using hp), if_neg hp, ar_add, w_i64 (by omega) (by omega)]; rfl)
  rw [bnd h, cm_geq]
  congr 1
  cases hf : l.findIdx? (fun x => decide (v = x)) with
  | none =>
    rw [List.findIdx?_eq_none_iff] at hf
    have : ¬ v ∈ l := fun hm => by simpa using hf v hm
    simp [this]
  | some i =>
    rw [List.findIdx?_eq_some_iff_getElem] at hf
    obtain ⟨hi, hp, _⟩ := hf
    have : v ∈ l := by simp only [decide_eq_true_eq] at hp; rw [hp]; exact List.getElem_mem hi
    simp [this]

/-- how many of the first one stand ahead -/
def runN (l : List Int) : Nat := (l.takeWhile (fun x => decide (x = l.headD 0))).length

theorem takeWhile_findIdx {p : Int → Bool} : ∀ l : List Int, (l.takeWhile fun x => !p x).length = (l.findIdx? p).getD l.length
  | [] => rfl
  | x :: l => by
    rw [List.findIdx?_cons]
    by_cases h : p x = true
    · simp [List.takeWhile_cons, h]
    · have ih := takeWhile_findIdx (p := p) l
      simp only [Bool.not_eq_true] at h
      simp only [List.takeWhile_cons, h, Bool.not_false, if_true, List.length_cons, ih]
      cases List.findIdx? p l <;> simp

theorem run_eq {l : List Int} (hl : l.length ≤ 100000000) (hn : l ≠ []) : chunk_run none l = some (runN l : Int) := by
  unfold chunk_run
  cases l with
  | nil => exact absurd rfl hn
  | cons a l =>
    have h := IndexFunc_eq (l := a :: l) (f := fun y0 => chunk_run_1 y0 (a :: l)) (p := fun x => !decide (x = a)) hl (fun x hx => by
      simp only [chunk_run_1]
      have : ix (a :: l) 0 = some a := rfl
      rw [bnd this, cm_neq])
    rw [bnd h]
    have e : runN (a :: l) = ((a :: l).findIdx? (fun x => !decide (x = a))).getD (a :: l).length := by
      rw [← takeWhile_findIdx]; simp [runN]
    rw [e]
    cases hf : (a :: l).findIdx? (fun x => !decide (x = a)) with
    | none => simp [cm_geq]
    | some i => simp [cm_geq]

/-- digits, the highest first -/
def valB (B : Int) : Int → List Int → Int
  | a, [] => a
  | a, d :: ds => valB B (a * B + d) ds

def padTo (n : Nat) (l : List Int) : List Int := l ++ List.replicate (n - l.length) 0

theorem valB_append (B a : Int) (l m : List Int) : valB B a (l ++ m) = valB B (valB B a l) m := by
  induction l generalizing a with
  | nil => rfl
  | cons d l ih => simp [valB, ih]

theorem valB_bound {B : Int} (hB : 0 < B) : ∀ {l : List Int} {a : Int}, (∀ x, x ∈ l → 0 ≤ x ∧ x < B) → a * B ^ l.length ≤ valB B a l ∧ valB B a l < (a + 1) * B ^ l.length
  | [], a, _ => by constructor <;> simp [valB] <;> omega
  | d :: l, a, h => by
    have hd := h d (by simp)
    have ih := valB_bound hB (l := l) (a := a * B + d) (fun x hx => h x (by simp [hx]))
    simp only [valB, List.length_cons, Int.pow_succ]
    have hp : 0 < B ^ l.length := Int.pow_pos hB
    have e1 : a * (B ^ l.length * B) = a * B * B ^ l.length := by rw [Int.mul_assoc, Int.mul_comm B]
    have e2 : (a + 1) * (B ^ l.length * B) = (a + 1) * B * B ^ l.length := by rw [Int.mul_assoc, Int.mul_comm B]
    rw [e1, e2]
    refine ⟨Int.le_trans ?_ ih.1, Int.lt_of_lt_of_le ih.2 ?_⟩
    · exact Int.mul_le_mul_of_nonneg_right (by omega) (by omega)
    · exact Int.mul_le_mul_of_nonneg_right (by rw [Int.add_mul]; omega) (by omega)

/-- pack, as digits -/
theorem pack_eq {l : List Int} {b : Nat} {n : Nat} (hb : b = 1 ∨ b = 2) (hn : b * n ≤ 14) (hl : l.length ≤ n) (hv : ∀ x, x ∈ l → 0 ≤ x ∧ x < 2 ^ b) :
    chunk_pack none l (b : Int) (n : Int) = some (valB (2 ^ b) 0 (padTo n l)) := by
  have hbn : n ≤ 14 ∧ b ≤ 2 := by rcases hb with rfl | rfl <;> omega
  have hpl : (padTo n l).length = n := by simp [padTo]; omega
  have hpv : ∀ x, x ∈ padTo n l → 0 ≤ x ∧ x < (2 : Int) ^ b := fun x hx => by
    rcases List.mem_append.1 hx with h | h
    · exact hv x h
    · have := (List.mem_replicate.1 h).2
      rw [this]; exact ⟨Int.le_refl _, Int.pow_pos (by omega)⟩
  have hpos : (0 : Int) < 2 ^ b := Int.pow_pos (by omega)
  have hval : ∀ i, i ≤ n → 0 ≤ valB (2 ^ b) 0 ((padTo n l).take i) ∧ valB (2 ^ b) 0 ((padTo n l).take i) < 2 ^ (b * i) := fun i hi => by
    have := valB_bound hpos (l := (padTo n l).take i) (a := 0) (fun x hx => hpv x (List.mem_of_mem_take hx))
    have hlen : ((padTo n l).take i).length = i := by rw [List.length_take]; omega
    rw [hlen] at this
    have e : ((2 : Int) ^ b) ^ i = 2 ^ (b * i) := Int.pow_mul.symm
    rw [e] at this
    constructor
    · simpa using this.1
    · simpa using this.2
  unfold chunk_pack chunk_pack_l1
  have := loop_seq (step := fun (s : Int × Int) => chunk_pack_s1 none l (b : Int) (n : Int) s.1 s.2) (r := valB (2 ^ b) 0 (padTo n l)) (fun i => (valB (2 ^ b) 0 ((padTo n l).take i), (i : Int))) n (fun i hi => by
    obtain ⟨h0, h1⟩ := hval i (by omega)
    have h16 : (2 : Int) ^ (b * i) ≤ 2 ^ 14 := by
      have : 2 ^ (b * i) ≤ 2 ^ 14 := Nat.pow_le_pow_right (by omega) (Nat.le_trans (Nat.mul_le_mul_left b (Nat.le_of_lt hi)) hn)
      exact_mod_cast this
    have h16b : valB (2 ^ b) 0 ((padTo n l).take i) * 2 ^ b < 2 ^ 16 := by
      have : (2 : Int) ^ b ≤ 4 := by rcases hb with rfl | rfl <;> decide
      have : valB (2 ^ b) 0 ((padTo n l).take i) * 2 ^ b ≤ (2 ^ 14 - 1) * 4 := Int.mul_le_mul (by omega) this (by omega) (by omega)
      omega
    have hm0 : 0 ≤ valB (2 ^ b) 0 ((padTo n l).take i) * 2 ^ b := Int.mul_nonneg h0 (by omega)
    have hnext : valB (2 ^ b) 0 ((padTo n l).take (i + 1)) = valB (2 ^ b) 0 ((padTo n l).take i) * 2 ^ b + (padTo n l)[i]'(by omega) := by
      rw [List.take_add_one, List.getElem?_eq_getElem (by omega), valB_append]; rfl
    simp only [chunk_pack_s1, chunk_pack_j2, cm_lss, decide_eq_true_eq]
    rw [if_pos (by omega), bnd (sfO_nn (by omega)), sf_shl (n := b) rfl (by show b ≤ 64; omega), w_i64 (by omega) (by omega), hnext]
    have hne : ar .add .i64 (i : Int) 1 = ((i + 1 : Nat) : Int) := by rw [ar_add, w_i64 (by omega) (by omega)]; omega
    rw [hne]
    by_cases hil : i < l.length
    · have hg : (padTo n l)[i]'(by omega) = l[i] := by simp [padTo, List.getElem_append_left hil]
      have hx := hv l[i] (List.getElem_mem hil)
      rw [if_pos (by omega), bnd (ix_some rfl hil), ar_or_add_i64 (n := b) rfl h0 hx.1 hx.2 (by omega) (by omega), hg]
    · have hg : (padTo n l)[i]'(by omega) = 0 := by simp [padTo, List.getElem_append_right (by omega : l.length ≤ i)]
      rw [if_neg (by omega), hg, Int.add_zero]) (by
    obtain ⟨h0, h1⟩ := hval n (by omega)
    have h16 : (2 : Int) ^ (b * n) ≤ 2 ^ 14 := by
      have : 2 ^ (b * n) ≤ 2 ^ 14 := Nat.pow_le_pow_right (by omega) hn
      exact_mod_cast this
    have hall : (padTo n l).take n = padTo n l := List.take_of_length_le (by omega)
    rw [hall] at h0 h1 ⊢
    simp only [chunk_pack_s1, cm_lss, decide_eq_true_eq]
    rw [if_neg (by omega), w_u16 (by omega) (by omega)]; rfl)
  simpa [valB] using this

/-- the first chunk of a list, and how many it tells -/
def firstS (l : List Int) : Int × Nat :=
  if 14 ≤ runN l ∨ runN l = l.length then (l.headD 0 * 8192 + (min (runN l) 8191 : Nat), min (runN l) 8191)
  else if (2 : Int) ∈ l.take 14 then (valB 4 3 (padTo 7 (l.take 7)), min l.length 7)
  else (valB 2 2 (padTo 14 (l.take 14)), min l.length 14)

theorem valB_shift (B a : Int) : ∀ l : List Int, valB B a l = a * B ^ l.length + valB B 0 l := by
  intro l
  induction l generalizing a with
  | nil => simp [valB]
  | cons d l ih =>
    simp only [valB, List.length_cons]
    rw [ih (a * B + d), ih (0 * B + d), Int.add_mul, Int.pow_succ, Int.zero_mul, Int.zero_add]
    rw [Int.mul_assoc a B, Int.mul_comm B (B ^ l.length)]; omega

theorem imin_nat {a b : Nat} : imin (a : Int) (b : Int) = ((min a b : Nat) : Int) := by
  unfold imin; split <;> omega

theorem runN_le (l : List Int) : runN l ≤ l.length := by
  unfold runN; exact (List.takeWhile_sublist _).length_le

theorem first_eq {l : List Int} (hl : l.length ≤ 100000000) (hn : l ≠ []) (hv : vl l) : chunk_first none l = some ((firstS l).1, ((firstS l).2 : Int)) := by
  obtain ⟨a, l', rfl⟩ := List.exists_cons_of_ne_nil hn
  have ha := hv a (by simp)
  have hr := runN_le (a :: l')
  unfold chunk_first firstS
  rw [bnd (run_eq hl hn), cm_geq, cm_eql]
  have e14 : imin ((a :: l').length : Int) 14 = ((min (a :: l').length 14 : Nat) : Int) := imin_nat (b := 14)
  have e7 : imin ((a :: l').length : Int) 7 = ((min (a :: l').length 7 : Nat) : Int) := imin_nat (b := 7)
  by_cases h : 14 ≤ runN (a :: l') ∨ runN (a :: l') = (a :: l').length
  · rw [if_pos (by simp only [Bool.or_eq_true, decide_eq_true_eq]; omega), if_pos h]
    have hix : ix (a :: l') 0 = some a := rfl
    have em : imin (runN (a :: l') : Int) 8191 = ((min (runN (a :: l')) 8191 : Nat) : Int) := imin_nat (b := 8191)
    rw [bnd hix, em, sf_shl (k := .i64) (y := 13) (n := 13) rfl (by decide), w_i64 (by omega) (by omega)]
    have hm : min (runN (a :: l')) 8191 ≤ 8191 := Nat.min_le_right _ _
    rw [ar_or_add_i64 (n := 13) rfl ha.1 (by omega) (by omega) (by omega) (by omega), w_u16 (by omega) (by omega)]
    simp
  · rw [if_neg (by simp only [Bool.or_eq_true, decide_eq_true_eq]; omega), if_neg h, e14, e7]
    have hs14 : sub (a :: l') 0 ((min (a :: l').length 14 : Nat) : Int) = some ((a :: l').take 14) := by
      rw [sub_some (by omega) (by omega) (by omega)]
      simp only [Int.toNat_natCast, Int.toNat_zero, Nat.sub_zero, List.drop_zero]
      rw [Nat.min_comm, ← List.take_eq_take_min]
    have hs7 : sub (a :: l') 0 ((min (a :: l').length 7 : Nat) : Int) = some ((a :: l').take 7) := by
      rw [sub_some (by omega) (by omega) (by omega)]
      simp only [Int.toNat_natCast, Int.toNat_zero, Nat.sub_zero, List.drop_zero]
      rw [Nat.min_comm, ← List.take_eq_take_min]
    rw [bnd hs14, bnd (Contains_eq (by rw [List.length_take]; omega))]
    by_cases h2 : (2 : Int) ∈ (a :: l').take 14
    · rw [decide_eq_true h2, if_neg (by decide), if_pos h2, bnd hs7]
      have hb : ∀ x, x ∈ (a :: l').take 7 → 0 ≤ x ∧ x < (2 : Int) ^ 2 := fun x hx => by have := hv x (List.mem_of_mem_take hx); omega
      have hp : chunk_pack none ((a :: l').take 7) 2 7 = some (valB 4 0 (padTo 7 ((a :: l').take 7))) := pack_eq (l := (a :: l').take 7) (b := 2) (n := 7) (.inr rfl) (by omega) (by rw [List.length_take]; omega) hb
      have hlen : (padTo 7 ((a :: l').take 7)).length = 7 := by simp [padTo]; omega
      have hbd := valB_bound (B := 4) (by omega) (l := padTo 7 ((a :: l').take 7)) (a := 0) (fun x hx => by
        rcases List.mem_append.1 hx with h | h
        · exact hb x h
        · have := (List.mem_replicate.1 h).2; omega)
      rw [bnd hp, valB_shift 4 3, hlen]
      rw [hlen] at hbd
      rw [ar_or_add (k := .u16) (x := 49152) (n := 14) (a := 3) rfl rfl (by omega) (by omega) (by omega) (by decide) (by decide)]
      rfl
    · rw [decide_eq_false h2, if_pos (by decide), if_neg h2, bnd hs14]
      have hb : ∀ x, x ∈ (a :: l').take 14 → 0 ≤ x ∧ x < (2 : Int) ^ 1 := fun x hx => by
        have := hv x (List.mem_of_mem_take hx)
        have : x ≠ 2 := fun e => h2 (e ▸ hx)
        omega
      have hp : chunk_pack none ((a :: l').take 14) 1 14 = some (valB 2 0 (padTo 14 ((a :: l').take 14))) := pack_eq (l := (a :: l').take 14) (b := 1) (n := 14) (.inl rfl) (by omega) (by rw [List.length_take]; omega) hb
      have hlen : (padTo 14 ((a :: l').take 14)).length = 14 := by simp [padTo]; omega
      have hbd := valB_bound (B := 2) (by omega) (l := padTo 14 ((a :: l').take 14)) (a := 0) (fun x hx => by
        rcases List.mem_append.1 hx with h | h
        · exact hb x h
        · have := (List.mem_replicate.1 h).2; omega)
      rw [bnd hp, valB_shift 2 2, hlen]
      rw [hlen] at hbd
      rw [ar_or_add (k := .u16) (x := 32768) (n := 14) (a := 2) rfl rfl (by omega) (by omega) (by omega) (by decide) (by decide)]
      rfl
end Xb
