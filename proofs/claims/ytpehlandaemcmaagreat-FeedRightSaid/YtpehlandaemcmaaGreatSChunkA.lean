/- Own text: SChunkA. -/
import Derived.Test.YtpehlandaemcmaaGreatMath2
import Derived.Test.YtpehlandaemcmaaGreatSModels
set_option linter.all false
set_option linter.unusedVariables false
set_option linter.unusedSimpArgs false
set_option linter.unnecessarySimpa false
set_option linter.deprecated false
/-! Chunks: what the program writes, in plain words. -/
namespace Xb
open Go

def vl (l : List Int) : Prop := ∀ x, x ∈ l → 0 ≤ x ∧ x ≤ 2
theorem vl.sub {l m : List Int} (h : vl l) (hs : ∀ x, x ∈ m → x ∈ l) : vl m := fun x hx => h x (hs x hx)

theorem write1_eq (x : Int) : chunk_Write_1 x = decide (x < 0 ∨ 2 < x) := by
  simp only [chunk_Write_1, cm_lss, cm_gtr]; simp [Bool.decide_or]

theorem IndexFunc_eq {l : List Int} {f : Int → Option Bool} {p : Int → Bool} (hl : l.length ≤ 100000000) (h : ∀ x, x ∈ l → f x = some (p x)) :
    slices_IndexFunc_int none l f = some (match l.findIdx? p with | some i => (i : Int) | none => -1) := by
  unfold slices_IndexFunc_int slices_IndexFunc_int_l1
  exact find_loop (step := fun (s : Int) => slices_IndexFunc_int_s1 none l f s) (p := p) (hit := fun i => (i : Int)) (miss := -1) (by
    simp only [slices_IndexFunc_int_s1, cm_lss, decide_eq_true_eq]
    rw [if_neg (by omega)]; rfl) (fun i hi => by
    simp only [slices_IndexFunc_int_s1, cm_lss, decide_eq_true_eq]
    rw [if_pos (by omega), bnd (ix_some rfl hi), bnd (h _ (List.getElem_mem hi))]
    by_cases hp : p l[i] = true
    · rw [if_pos hp, if_pos hp]; rfl
    · rw [if_neg hp, if_neg hp, ar_add, w_i64 (by omega) (by omega)]; rfl)

theorem ContainsFunc_eq {l : List Int} {f : Int → Option Bool} {p : Int → Bool} (hl : l.length ≤ 100000000) (h : ∀ x, x ∈ l → f x = some (p x)) :
    slices_ContainsFunc_int none l f = some (l.any p) := by
  unfold slices_ContainsFunc_int
  rw [bnd (IndexFunc_eq hl h), cm_geq]
  congr 1
  cases hf : l.findIdx? p with
  | none =>
    rw [List.findIdx?_eq_none_iff] at hf
    have : l.any p = false := by simpa using hf
    rw [this]; decide
  | some i =>
    rw [List.findIdx?_eq_some_iff_getElem] at hf
    obtain ⟨hi, hp, _⟩ := hf
    have : l.any p = true := List.any_eq_true.2 ⟨l[i], List.getElem_mem hi, hp⟩
    rw [this]; simp

theorem Contains_eq {l : List Int} {v : Int} (hl : l.length ≤ 100000000) : slices_Contains none l v = some (decide (v ∈ l)) := by
  unfold slices_Contains slices_Index slices_Index_l1
  have h := find_loop (l := l) (step := fun (s : Int) => slices_Index_s1 none l v s) (p := fun x => decide (v = x)) (hit := fun i => (i : Int)) (miss := -1) (by
    simp only [slices_Index_s1, cm_lss, decide_eq_true_eq]
    rw [if_neg (by omega)]; rfl) (fun i hi => by
    simp only [slices_Index_s1, cm_lss, decide_eq_true_eq]
    rw [if_pos (by omega), bnd (ix_some rfl hi), cm_eql]
    by_cases hp : v = l[i]
    · rw [if_pos (by simpa using hp), if_pos hp]; rfl
    · rw [if_neg (by simpa using hp), if_neg hp, ar_add, w_i64 (by omega) (by omega)]; rfl)
  rw [bnd h, cm_geq]
  congr 1
  cases hf : l.findIdx? (fun x => decide (v = x)) with
  | none =>
    rw [List.findIdx?_eq_none_iff] at hf
    have : ¬ v ∈ l := fun hm => by simpa using hf v hm
    simp [this]
  | some i =>
    rw [List.findIdx?_eq_some_iff_getElem] at hf
    obtain ⟨hi, hp, _⟩ := hf
    have : v ∈ l := by simp only [decide_eq_true_eq] at hp; rw [hp]; exact List.getElem_mem hi
    simp [this]

/-- how many of the first one stand ahead -/
def runN (l : List Int) : Nat := (l.takeWhile (fun x => decide (x = l.headD 0))).length

theorem takeWhile_findIdx {p : Int → Bool} : ∀ l : List Int, (l.takeWhile fun x => !p x).length = (l.findIdx? p).getD l.length
  | [] => rfl
  | x :: l => by
    rw [List.findIdx?_cons]
    by_cases h : p x = true
    · simp [List.takeWhile_cons, h]
    · have ih := takeWhile_findIdx (p := p) l
      simp only [Bool.not_eq_true] at h
      simp only [List.takeWhile_cons, h, Bool.not_false, if_true, List.length_cons, ih]
      cases List.findIdx? p l <;> simp

theorem run_eq {l : List Int} (hl : l.length ≤ 100000000) (hn : l ≠ []) : chunk_run none l = some (runN l : Int) := by
  unfold chunk_run
  cases l with
  | nil => exact absurd rfl hn
  | cons a l =>
    have h := IndexFunc_eq (l := a :: l) (f := fun y0 => chunk_run_1 y0 (a :: l)) (p := fun x => !decide (x = a)) hl (fun x hx => by
      simp only [chunk_run_1]
      have : ix (a :: l) 0 = some a := rfl
      rw [bnd this, cm_neq])
    rw [bnd h]
    have e : runN (a :: l) = ((a :: l).findIdx? (fun x => !decide (x = a))).getD (a :: l).length := by
      rw [← takeWhile_findIdx]; simp [runN]
    rw [e]
    cases hf : (a :: l).findIdx? (fun x => !decide (x = a)) with
    | none => simp [cm_geq]
    | some i => simp [cm_geq]

/-- digits, the highest first -/
def valB (B : Int) : Int → List Int → Int
  | a, [] => a
  | a, d :: ds => valB B (a * B + d) ds

def padTo (n : Nat) (l : List Int) : List Int := l ++ List.replicate (n - l.length) 0

theorem valB_append (B a : Int) (l m : List Int) : valB B a (l ++ m) = valB B (valB B a l) m := by
  induction l generalizing a with
  | nil => rfl
  | cons d l ih => simp [valB, ih]

theorem valB_bound {B : Int} (hB : 0 < B) : ∀ {l : List Int} {a : Int}, (∀ x, x ∈ l → 0 ≤ x ∧ x < B) → a * B ^ l.length ≤ valB B a l ∧ valB B a l < (a + 1) * B ^ l.length
  | [], a, _ => by constructor <;> simp [valB] <;> omega
  | d :: l, a, h => by
    have hd := h d (by simp)
    have ih := valB_bound hB (l := l) (a := a * B + d) (fun x hx => h x (by simp [hx]))
    simp only [valB, List.length_cons, Int.pow_succ]
    have hp : 0 < B ^ l.length := Int.pow_pos hB
    have e1 : a * (B ^ l.length * B) = a * B * B ^ l.length := by rw [Int.mul_assoc, Int.mul_comm B]
    have e2 : (a + 1) * (B ^ l.length * B) = (a + 1) * B * B ^ l.length := by rw [Int.mul_assoc, Int.mul_comm B]
    rw [e1, e2]
    refine ⟨Int.le_trans ?_ ih.1, Int.lt_of_lt_of_le ih.2 ?_⟩
    · exact Int.mul_le_mul_of_nonneg_right (by omega) (by omega)
    · exact Int.mul_le_mul_of_nonneg_right (by rw [Int.add_mul]; omega) (by omega)

/-- pack, as digits -/
theorem pack_eq {l : List Int} {b : Nat} {n : Nat} (hb : b = 1 ∨ b = 2) (hn : b * n ≤ 14) (hl : l.length ≤ n) (hv : ∀ x, x ∈ l → 0 ≤ x ∧ x < 2 ^ b) :
    chunk_pack none l (b : Int) (n : Int) = some (valB (2 ^ b) 0 (padTo n l)) := by
  have hbn : n ≤ 14 ∧ b ≤ 2 := by rcases hb with rfl | rfl <;> omega
  have hpl : (padTo n l).length = n := by simp [padTo]; omega
  have hpv : ∀ x, x ∈ padTo n l → 0 ≤ x ∧ x < (2 : Int) ^ b := fun x hx => by
    rcases List.mem_append.1 hx with h | h
    · exact hv x h
    · have := (List.mem_replicate.1 h).2
      rw [this]; exact ⟨Int.le_refl _, Int.pow_pos (by omega)⟩
  have hpos : (0 : Int) < 2 ^ b := Int.pow_pos (by omega)
  have hval : ∀ i, i ≤ n → 0 ≤ valB (2 ^ b) 0 ((padTo n l).take i) ∧ valB (2 ^ b) 0 ((padTo n l).take i) < 2 ^ (b * i) := fun i hi => by
    have := valB_bound hpos (l := (padTo n l).take i) (a := 0) (fun x hx => hpv x (List.mem_of_mem_take hx))
    have hlen : ((padTo n l).take i).length = i := by rw [List.length_take]; omega
    rw [hlen] at this
    have e : ((2 : Int) ^ b) ^ i = 2 ^ (b * i) := Int.pow_mul.symm
    rw [e] at this
    constructor
    · simpa using this.1
    · simpa using this.2
  unfold chunk_pack chunk_pack_l1
  have := loop_seq (step := fun (s : Int × Int) => chunk_pack_s1 none l (b : Int) (n : Int) s.1 s.2) (r := valB (2 ^ b) 0 (padTo n l)) (fun i => (valB (2 ^ b) 0 ((padTo n l).take i), (i : Int))) n (fun i hi => by
    obtain ⟨h0, h1⟩ := hval i (by omega)
    have h16 : (2 : Int) ^ (b * i) ≤ 2 ^ 14 := by
      have : 2 ^ (b * i) ≤ 2 ^ 14 := Nat.pow_le_pow_right (by omega) (Nat.le_trans (Nat.mul_le_mul_left b (Nat.le_of_lt hi)) hn)
      exact_mod_cast this
    have h16b : valB (2 ^ b) 0 ((padTo n l).take i) * 2 ^ b < 2 ^ 16 := by
      have : (2 : Int) ^ b ≤ 4 := by rcases hb with rfl | rfl <;> decide
      have : valB (2 ^ b) 0 ((padTo n l).take i) * 2 ^ b ≤ (2 ^ 14 - 1) * 4 := Int.mul_le_mul (by omega) this (by omega) (by omega)
      omega
    have hm0 : 0 ≤ valB (2 ^ b) 0 ((padTo n l).take i) * 2 ^ b := Int.mul_nonneg h0 (by omega)
    have hnext : valB (2 ^ b) 0 ((padTo n l).take (i + 1)) = valB (2 ^ b) 0 ((padTo n l).take i) * 2 ^ b + (padTo n l)[i]'(by omega) := by
      rw [List.take_add_one, List.getElem?_eq_getElem (by omega), valB_append]; rfl
    simp only [chunk_pack_s1, chunk_pack_j2, cm_lss, decide_eq_true_eq]
    rw [if_pos (by omega), bnd (sfO_nn (by omega)), sf_shl (n := b) rfl (by show b ≤ 64; omega), w_i64 (by omega) (by omega), hnext]
    have hne : ar .add .i64 (i : Int) 1 = ((i + 1 : Nat) : Int) := by rw [ar_add, w_i64 (by omega) (by omega)]; omega
    rw [hne]
    by_cases hil : i < l.length
    · have hg : (padTo n l)[i]'(by omega) = l[i] := by simp [padTo, List.getElem_append_left hil]
      have hx := hv l[i] (List.getElem_mem hil)
      rw [if_pos (by omega), bnd (ix_some rfl hil), ar_or_add_i64 (n := b) rfl h0 hx.1 hx.2 (by omega) (by omega), hg]
    · have hg : (padTo n l)[i]'(by omega) = 0 := by simp [padTo, List.getElem_append_right (by omega : l.length ≤ i)]
      rw [if_neg (by omega), hg, Int.add_zero]) (by
    obtain ⟨h0, h1⟩ := hval n (by omega)
    have h16 : (2 : Int) ^ (b * n) ≤ 2 ^ 14 := by
      have : 2 ^ (b * n) ≤ 2 ^ 14 := Nat.pow_le_pow_right (by omega) hn
      exact_mod_cast this
    have hall : (padTo n l).take n = padTo n l := List.take_of_length_le (by omega)
    rw [hall] at h0 h1 ⊢
    simp only [chunk_pack_s1, cm_lss, decide_eq_true_eq]
    rw [if_neg (by omega), w_u16 (by omega) (by omega)]; rfl)
  simpa [valB] using this

/-- the first chunk of a list, and how many it tells -/
def firstS (l : List Int) : Int × Nat :=
  if 14 ≤ runN l ∨ runN l = l.length then (l.headD 0 * 8192 + (min (runN l) 8191 : Nat), min (runN l) 8191)
  else if (2 : Int) ∈ l.take 14 then (valB 4 3 (padTo 7 (l.take 7)), min l.length 7)
  else (valB 2 2 (padTo 14 (l.take 14)), min l.length 14)

theorem valB_shift (B a : Int) : ∀ l : List Int, valB B a l = a * B ^ l.length + valB B 0 l := by
  intro l
  induction l generalizing a with
  | nil => simp [valB]
  | cons d l ih =>
    simp only [valB, List.length_cons]
    rw [ih (a * B + d), ih (0 * B + d), Int.add_mul, Int.pow_succ, Int.zero_mul, Int.zero_add]
    rw [Int.mul_assoc a B, Int.mul_comm B (B ^ l.length)]; omega

theorem imin_nat {a b : Nat} : imin (a : Int) (b : Int) = ((min a b : Nat) : Int) := by
  unfold imin; split <;> omega

theorem runN_le (l : List Int) : runN l ≤ l.length := by
  unfold runN; exact (List.takeWhile_sublist _).length_le

theorem first_eq {l : List Int} (hl : l.length ≤ 100000000) (hn : l ≠ []) (hv : vl l) : chunk_first none l = some ((firstS l).1, ((firstS l).2 : Int)) := by
  obtain ⟨a, l', rfl⟩ := List.exists_cons_of_ne_nil hn
  have ha := hv a (by simp)
  have hr := runN_le (a :: l')
  unfold chunk_first firstS
  rw [bnd (run_eq hl hn), cm_geq, cm_eql]
  have e14 : imin ((a :: l').length : Int) 14 = ((min (a :: l').length 14 : Nat) : Int) := imin_nat (b := 14)
  have e7 : imin ((a :: l').length : Int) 7 = ((min (a :: l').length 7 : Nat) : Int) := imin_nat (b := 7)
  by_cases h : 14 ≤ runN (a :: l') ∨ runN (a :: l') = (a :: l').length
  · rw [if_pos (by simp only [Bool.or_eq_true, decide_eq_true_eq]; omega), if_pos h]
    have hix : ix (a :: l') 0 = some a := rfl
    have em : imin (runN (a :: l') : Int) 8191 = ((min (runN (a :: l')) 8191 : Nat) : Int) := imin_nat (b := 8191)
    rw [bnd hix, em, sf_shl (k := .i64) (y := 13) (n := 13) rfl (by decide), w_i64 (by omega) (by omega)]
    have hm : min (runN (a :: l')) 8191 ≤ 8191 := Nat.min_le_right _ _
    rw [ar_or_add_i64 (n := 13) rfl ha.1 (by omega) (by omega) (by omega) (by omega), w_u16 (by omega) (by omega)]
    simp
  · rw [if_neg (by simp only [Bool.or_eq_true, decide_eq_true_eq]; omega), if_neg h, e14, e7]
    have hs14 : sub (a :: l') 0 ((min (a :: l').length 14 : Nat) : Int) = some ((a :: l').take 14) := by
      rw [sub_some (by omega) (by omega) (by omega)]
      simp only [Int.toNat_natCast, Int.toNat_zero, Nat.sub_zero, List.drop_zero]
      rw [Nat.min_comm, ← List.take_eq_take_min]
    have hs7 : sub (a :: l') 0 ((min (a :: l').length 7 : Nat) : Int) = some ((a :: l').take 7) := by
      rw [sub_some (by omega) (by omega) (by omega)]
      simp only [Int.toNat_natCast, Int.toNat_zero, Nat.sub_zero, List.drop_zero]
      rw [Nat.min_comm, ← List.take_eq_take_min]
    rw [bnd hs14, bnd (Contains_eq (by rw [List.length_take]; omega))]
    by_cases h2 : (2 : Int) ∈ (a :: l').take 14
    · rw [decide_eq_true h2, if_neg (by decide), if_pos h2, bnd hs7]
      have hb : ∀ x, x ∈ (a :: l').take 7 → 0 ≤ x ∧ x < (2 : Int) ^ 2 := fun x hx => by have := hv x (List.mem_of_mem_take hx); omega
      have hp : chunk_pack none ((a :: l').take 7) 2 7 = some (valB 4 0 (padTo 7 ((a :: l').take 7))) := pack_eq (l := (a :: l').take 7) (b := 2) (n := 7) (.inr rfl) (by omega) (by rw [List.length_take]; omega) hb
      have hlen : (padTo 7 ((a :: l').take 7)).length = 7 := by simp [padTo]; omega
      have hbd := valB_bound (B := 4) (by omega) (l := padTo 7 ((a :: l').take 7)) (a := 0) (fun x hx => by
        rcases List.mem_append.1 hx with h | h
        · exact hb x h
        · have := (List.mem_replicate.1 h).2; omega)
      rw [bnd hp, valB_shift 4 3, hlen]
      rw [hlen] at hbd
      rw [ar_or_add (k := .u16) (x := 49152) (n := 14) (a := 3) rfl rfl (by omega) (by omega) (by omega) (by decide) (by decide)]
      rfl
    · rw [decide_eq_false h2, if_pos (by decide), if_neg h2, bnd hs14]
      have hb : ∀ x, x ∈ (a :: l').take 14 → 0 ≤ x ∧ x < (2 : Int) ^ 1 := fun x hx => by
        have := hv x (List.mem_of_mem_take hx)
        have : x ≠ 2 := fun e => h2 (e ▸ hx)
        omega
      have hp : chunk_pack none ((a :: l').take 14) 1 14 = some (valB 2 0 (padTo 14 ((a :: l').take 14))) := pack_eq (l := (a :: l').take 14) (b := 1) (n := 14) (.inl rfl) (by omega) (by rw [List.length_take]; omega) hb
      have hlen : (padTo 14 ((a :: l').take 14)).length = 14 := by simp [padTo]; omega
      have hbd := valB_bound (B := 2) (by omega) (l := padTo 14 ((a :: l').take 14)) (a := 0) (fun x hx => by
        rcases List.mem_append.1 hx with h | h
        · exact hb x h
        · have := (List.mem_replicate.1 h).2; omega)
      rw [bnd hp, valB_shift 2 2, hlen]
      rw [hlen] at hbd
      rw [ar_or_add (k := .u16) (x := 32768) (n := 14) (a := 2) rfl rfl (by omega) (by omega) (by omega) (by decide) (by decide)]
      rfl
end Xb

/-! Chunks: the whole of what is written; how much a chunk tells. -/
namespace Xb
open Go

theorem firstS_pos {l : List Int} (hn : l ≠ []) : 1 ≤ (firstS l).2 ∧ (firstS l).2 ≤ l.length ∧ ((firstS l).2 < 7 → (firstS l).2 = l.length) := by
  obtain ⟨a, l', rfl⟩ := List.exists_cons_of_ne_nil hn
  have h1 : 1 ≤ runN (a :: l') := by simp [runN]
  have h2 := runN_le (a :: l')
  have h3 : 1 ≤ (a :: l').length := by simp
  unfold firstS
  split
  · rename_i h
    simp only
    omega
  · split <;> (simp only; omega)

def writeS (l : List Int) : List Int :=
  if h : l = [] then [] else (firstS l).1 :: writeS (l.drop (firstS l).2)
termination_by l.length
decreasing_by
  have := firstS_pos h
  rw [List.length_drop]; omega

theorem writeS_nil : writeS [] = [] := by rw [writeS]; simp
theorem writeS_cons {l : List Int} (h : l ≠ []) : writeS l = (firstS l).1 :: writeS (l.drop (firstS l).2) := by rw [writeS]; simp [h]

theorem write_loop : ∀ (n : Nat) (l out : List Int), l.length < n → vl l → out.length + l.length ≤ 100000000 → loopG none (fun (s : List Int × List Int) => chunk_Write_s1 none s.1 s.2) (l, out) = some (out ++ writeS l, 0)
  | 0, _, _, h, _, _ => by omega
  | n + 1, l, out, h, hv, hb => by
    by_cases hl : l = []
    · subst hl
      refine (loop_inr (r := (out, 0)) ?_).trans (by rw [writeS_nil]; simp)
      simp only [chunk_Write_s1, cm_gtr, decide_eq_true_eq]
      rw [if_neg (by simp)]; rfl
    · have hp := firstS_pos hl
      have hpos : 0 < l.length := List.length_pos_iff.2 hl
      refine (loop_inl (s' := (l.drop (firstS l).2, out ++ [(firstS l).1])) ?_).trans ?_
      · simp only [chunk_Write_s1, cm_gtr, decide_eq_true_eq]
        rw [if_pos (by omega), bnd (first_eq (by omega) hl hv), bnd (app_some (by simp; omega)), bnd (sub_some (by omega) (by omega) (by omega))]
        have e : (l.drop (((firstS l).2 : Nat) : Int).toNat).take ((l.length : Int).toNat - (((firstS l).2 : Nat) : Int).toNat) = l.drop (firstS l).2 := by
          simp only [Int.toNat_natCast]
          exact List.take_of_length_le (by rw [List.length_drop]; omega)
        simp only [e]
      · rw [write_loop n (l.drop (firstS l).2) (out ++ [(firstS l).1]) (by rw [List.length_drop]; omega) (hv.sub fun x hx => List.mem_of_mem_drop hx) (by simp; omega), writeS_cons hl]
        simp

theorem write_eq {l : List Int} (hl : l.length ≤ 10000000) : chunk_Write none l = some (if (∀ x, x ∈ l → 0 ≤ x ∧ x ≤ 2) then (writeS l, 0) else ([], 1)) := by
  unfold chunk_Write
  rw [bnd (ContainsFunc_eq (p := fun x => chunk_Write_1 x) (by omega) (fun x _ => rfl))]
  by_cases h : ∀ x, x ∈ l → 0 ≤ x ∧ x ≤ 2
  · have : (l.any fun x => chunk_Write_1 x) = false := by
      rw [List.any_eq_false]
      intro x hx
      have := h x hx
      rw [write1_eq]; simp; omega
    rw [this, if_neg (by decide), if_pos h]
    unfold chunk_Write_l1
    have := write_loop (l.length + 1) l [] (by omega) h (by simp; omega)
    simpa using this
  · have : (l.any fun x => chunk_Write_1 x) = true := by
      rw [List.any_eq_true]
      have ⟨x, hx⟩ := Classical.not_forall.1 h
      have ⟨hx1, hx2⟩ := Classical.not_imp.1 hx
      exact ⟨x, hx1, by rw [write1_eq]; simp; omega⟩
    rw [this, if_pos rfl, if_neg h]

theorem writeS_len : ∀ (n : Nat) (l : List Int), l.length < n → (writeS l).length ≤ (l.length + 6) / 7
  | 0, _, h => by omega
  | n + 1, l, h => by
    by_cases hl : l = []
    · subst hl; rw [writeS_nil]; simp
    · have hp := firstS_pos hl
      have hpos : 0 < l.length := List.length_pos_iff.2 hl
      have ih := writeS_len n (l.drop (firstS l).2) (by rw [List.length_drop]; omega)
      rw [writeS_cons hl, List.length_cons]
      rw [List.length_drop] at ih
      by_cases h7 : (firstS l).2 < 7
      · have := hp.2.2 h7; omega
      · omega

theorem writeS_nil_iff {l : List Int} : (writeS l).length = 0 ↔ l.length = 0 := by
  by_cases hl : l = []
  · subst hl; rw [writeS_nil]
  · have hpos : 0 < l.length := List.length_pos_iff.2 hl
    rw [writeS_cons hl]; simp [hl]

theorem firstS_rep {n : Nat} {v : Int} (hn : 0 < n) : firstS (List.replicate n v) = (v * 8192 + (min n 8191 : Nat), min n 8191) := by
  obtain ⟨m, rfl⟩ : ∃ m, n = m + 1 := ⟨n - 1, by omega⟩
  have hr : runN (List.replicate (m + 1) v) = m + 1 := by
    unfold runN
    have h : (List.replicate (m + 1) v).headD 0 = v := rfl
    simp only [h]
    rw [List.takeWhile_replicate]; simp
  unfold firstS
  rw [hr, if_pos (.inr (by simp))]
  rfl

theorem writeS_rep : ∀ (k n : Nat) (v : Int), n < k → (writeS (List.replicate n v)).length = (n + 8190) / 8191
  | 0, _, _, h => by omega
  | k + 1, n, v, h => by
    rcases Nat.eq_zero_or_pos n with rfl | hn
    · rw [List.replicate_zero, writeS_nil]; rfl
    · have hne : List.replicate n v ≠ [] := by
        intro e; have := congrArg List.length e; simp at this; omega
      rw [writeS_cons hne, firstS_rep hn, List.drop_replicate, List.length_cons, writeS_rep k (n - min n 8191) v (by omega)]
      omega
end Xb

/-! What chunks tell, and reading them. -/
namespace Xb
open Go

theorem mul_one {n : Nat} (hn : n ≤ 100000) : math_bits_Mul 1 (n : Int) = (0, (n : Int)) := by
  have e1 : sf .shr .u64 1 32 = 0 := by decide
  have e2 : ar .and .u64 1 4294967295 = 1 := by decide
  have e3 : ar .and .u64 (n : Int) 4294967295 = n := by
    rw [ar_mask (k := .u64) (y := 4294967295) (n := 32) rfl rfl (by decide) (by omega) (by show (n : Int) < 2 ^ 64; omega)]; omega
  have e4 : sf .shr .u64 (n : Int) 32 = 0 := by rw [sf_shr (k := .u64) (y := 32) (n := 32) rfl (by decide)]; omega
  have m0 : ∀ x : Int, ar .mul .u64 0 x = 0 := fun x => by rw [ar_mul]; simp [IntKind.wrap, IntKind.signed]
  have m1 : ar .mul .u64 1 (n : Int) = n := by rw [ar_mul, w_u64 (by omega) (by omega)]; omega
  have m2 : ar .mul .u64 1 0 = 0 := by decide
  have a0 : ar .add .u64 0 0 = 0 := by decide
  have n0 : ar .and .u64 0 4294967295 = 0 := by decide
  have s0 : sf .shr .u64 0 32 = 0 := by decide
  simp only [math_bits_Mul, math_bits_Mul64, e1, e2, e3, e4, m0, m1, m2, a0, n0, s0]

theorem Repeat_eq {v : Int} {n : Nat} (hn : n ≤ 100000) : slices_Repeat none [v] (n : Int) = some (List.replicate n v) := by
  have hm := mul_one hn
  unfold slices_Repeat slices_Repeat_j1 slices_Repeat_j2
  have w1 : IntKind.u64.wrap (([v].length : Nat) : Int) = 1 := w_u64 (n := 1) (by omega) (by omega)
  have w2 : IntKind.u64.wrap (n : Int) = n := w_u64 (by omega) (by omega)
  have w3 : IntKind.i64.wrap (n : Int) = n := w_i64 (by omega) (by omega)
  rw [if_neg (by rw [cm_lss]; simp), w1, w2, hm, if_neg (by rw [cm_gtr, cm_gtr]; simp; omega), w3]
  have hmk : mkL (0 : Int) (n : Int) (n : Int) = some (List.replicate n 0) := by unfold mkL; rw [if_pos (by omega)]; rfl
  rw [bnd hmk]
  unfold slices_Repeat_l3
  obtain ⟨r, hr, rfl⟩ := loop_inv (step := fun (s : List Int × Int) => slices_Repeat_s3 none s.1 s.2) (Q := fun r => r = List.replicate n v)
    (fun s => ∃ k : Nat, s = (List.replicate k v ++ List.replicate (n - k) 0, (k : Int)) ∧ k ≤ n ∧ (0 < n → 0 < k)) (fun s => n - s.2.toNat)
    (cpy (List.replicate n (0 : Int)) 0 ((List.replicate n (0 : Int)).length : Int) [v], cpn 0 ((List.replicate n (0 : Int)).length : Int) [v]) (by
      refine ⟨min 1 n, ?_, by omega, by omega⟩
      unfold cpy cpn
      rw [List.length_replicate]
      rcases Nat.eq_zero_or_pos n with rfl | hp
      · rfl
      · have h1 : min 1 n = 1 := by omega
        have h2 : ((n : Int).toNat - (0 : Int).toNat) = (n - 1) + 1 := by simp; omega
        rw [h1, h2]
        simp [List.take]) (by
    rintro s ⟨k, rfl, hk, hpos⟩
    have hlen : (List.replicate k v ++ List.replicate (n - k) (0 : Int)).length = n := by simp; omega
    simp only [slices_Repeat_s3, cm_lss, decide_eq_true_eq, hlen]
    by_cases hkn : k < n
    · left
      have s1 : sub (List.replicate k v ++ List.replicate (n - k) (0 : Int)) (k : Int) (n : Int) = some (List.replicate (n - k) 0) := by
        rw [sub_some (by omega) (by omega) (by rw [hlen]; omega)]
        simp
      have s2 : sub (List.replicate k v ++ List.replicate (n - k) (0 : Int)) 0 (k : Int) = some (List.replicate k v) := by
        rw [sub_some (by omega) (by omega) (by rw [hlen]; omega)]
        simp
      rw [if_pos (by omega), bnd s1, bnd s2]
      have hc : cpn (k : Int) (n : Int) (List.replicate k v) = ((min k (n - k) : Nat) : Int) := by
        unfold cpn; simp; omega
      refine ⟨_, rfl, ⟨k + min k (n - k), ?_, by omega, by omega⟩, ?_⟩
      · rw [hc, ar_add, w_i64 (by omega) (by omega)]
        congr 1
        unfold cpy
        simp only [Int.toNat_natCast, List.take_replicate, List.length_replicate]
        rw [List.take_left' (by simp), List.drop_append, List.drop_eq_nil_of_le (by simp), List.nil_append, List.drop_replicate, ← List.replicate_append_replicate, List.append_assoc]
        rw [List.append_assoc, List.length_replicate, Nat.min_comm (n - k) k]
        have e : n - k - (k + min k (n - k) - k) = n - (k + min k (n - k)) := by omega
        rw [e]
      · simp only
        rw [hc, ar_add, w_i64 (by omega) (by omega)]
        omega
    · right
      have : k = n := by omega
      subst this
      rw [if_neg (by omega)]
      exact ⟨_, rfl, by simp⟩)
  exact hr

def digs (B n : Nat) (c : Int) : List Int := (List.range n).map fun i => c / (B : Int) ^ (n - 1 - i) % B

def toldS (c : Int) (most : Nat) : List Int :=
  if c < 32768 then List.replicate (min (c % 8192).toNat most) (c / 8192) else if c < 49152 then (digs 2 14 c).take most else (digs 4 7 c).take most

theorem told_eq {c : Int} {most : Nat} (h0 : 0 ≤ c) (h1 : c ≤ 65535) (hm : most ≤ 100000) : chunk_told none c (most : Int) = some (toldS c most) := by
  have e15 : ar .and .u16 c 32768 = c / 32768 % 2 * 32768 := ar_bit (k := .u16) (n := 15) rfl (by decide) h0 (by show c < 2 ^ 16; omega)
  have e14 : ar .and .u16 c 16384 = c / 16384 % 2 * 16384 := ar_bit (k := .u16) (n := 14) rfl (by decide) h0 (by show c < 2 ^ 16; omega)
  have e13 : ar .and .u16 c 8191 = c % 8192 := ar_mask (k := .u16) (n := 13) rfl rfl (by decide) h0 (by show c < 2 ^ 16; omega)
  have key : ∀ (b n : Nat), (b = 1 ∧ n = 14 ∨ b = 2 ∧ n = 7) → chunk_told_j1 none c (most : Int) (b : Int) (n : Int) = some ((digs (2 ^ b) n c).take most) := by
    intro b n hbn
    unfold chunk_told_j1 chunk_told_l2
    have hn14 : n ≤ 14 ∧ b * n = 14 ∧ b ≤ 2 := by rcases hbn with ⟨rfl, rfl⟩ | ⟨rfl, rfl⟩ <;> omega
    have hdl : (digs (2 ^ b) n c).length = n := by simp [digs]
    have := loop_seq (step := fun (s : List Int × Int) => chunk_told_s2 none c (most : Int) (b : Int) (n : Int) s.1 s.2) (r := (digs (2 ^ b) n c).take most) (fun i => ((digs (2 ^ b) n c).take i, (i : Int))) (min n most) (fun i hi => by
      have hin : i < n := by omega
      simp only [chunk_told_s2, cm_lss, decide_eq_true_eq]
      rw [imin_nat, if_pos (by omega)]
      have ea : ar .mul .i64 (b : Int) (ar .sub .i64 (ar .sub .i64 (n : Int) 1) (i : Int)) = ((b * (n - 1 - i) : Nat) : Int) := by
        rw [ar_sub, ar_sub, w_i64 (n := (n : Int) - 1) (by omega) (by omega), w_i64 (n := (n : Int) - 1 - i) (by omega) (by omega), ar_mul]
        have e : (b : Int) * ((n : Int) - 1 - i) = ((b * (n - 1 - i) : Nat) : Int) := by
          rw [Int.natCast_mul]; congr 1; omega
        have hle : b * (n - 1 - i) ≤ 2 * 14 := Nat.mul_le_mul hn14.2.2 (by omega)
        rw [e, w_i64 (by omega) (by omega)]
      have hle : b * (n - 1 - i) ≤ 13 := by
        have : b * (n - 1 - i) ≤ b * (n - 1) := Nat.mul_le_mul_left b (by omega)
        rcases hbn with ⟨rfl, rfl⟩ | ⟨rfl, rfl⟩ <;> omega
      rw [ea, bnd (sfO_nn (by omega)), sf_shr rfl (by show b * (n - 1 - i) ≤ 16; omega), bnd (sfO_nn (by omega)), sf_shl (k := .i64) (n := b) rfl (by show b ≤ 64; omega)]
      have hp : (0 : Int) < 2 ^ (b * (n - 1 - i)) := Int.pow_pos (by omega)
      have hq0 : 0 ≤ c / 2 ^ (b * (n - 1 - i)) := Int.ediv_nonneg h0 (by omega)
      have hq1 : c / 2 ^ (b * (n - 1 - i)) ≤ c := Int.ediv_le_self _ h0
      have hb4 : (2 : Int) ^ b ≤ 4 ∧ 0 < (2 : Int) ^ b := by rcases hbn with ⟨rfl, rfl⟩ | ⟨rfl, rfl⟩ <;> decide
      rw [w_i64 (n := c / 2 ^ (b * (n - 1 - i))) (by omega) (by omega), Int.one_mul, w_i64 (n := 2 ^ b) (by omega) (by omega), ar_sub, w_i64 (n := 2 ^ b - 1) (by omega) (by omega),
        ar_mask_i64 (n := b) rfl (by omega) hq0 (by omega), bnd (app_some (by rw [List.length_take]; simp; omega)), ar_add, w_i64 (by omega) (by omega)]
      have ed : (digs (2 ^ b) n c).take (i + 1) = (digs (2 ^ b) n c).take i ++ [c / 2 ^ (b * (n - 1 - i)) % 2 ^ b] := by
        rw [List.take_add_one, List.getElem?_eq_getElem (by omega)]
        simp [digs, Int.pow_mul]
      rw [ed]; rfl) (by
      simp only [chunk_told_s2, cm_lss, decide_eq_true_eq]
      rw [imin_nat, if_neg (by omega)]
      have : (digs (2 ^ b) n c).take (min n most) = (digs (2 ^ b) n c).take most := by
        have := List.take_eq_take_min (l := digs (2 ^ b) n c) (i := most)
        rw [hdl, Nat.min_comm] at this
        exact this.symm
      rw [this]; rfl)
    simpa using this
  unfold chunk_told toldS
  rw [e15, cm_eql]
  by_cases h : c < 32768
  · rw [if_pos (by simp; omega), if_pos h, e13, sf_shr (k := .u16) (y := 13) (n := 13) rfl (by decide), w_i64 (by omega) (by omega), w_i64 (by omega) (by omega)]
    have ei : imin (c % 8192) (most : Int) = ((min (c % 8192).toNat most : Nat) : Int) := by unfold imin; split <;> omega
    rw [ei, bnd (Repeat_eq (by omega))]
    rfl
  · rw [if_neg (by simp; omega), if_neg h, e14, cm_gtr]
    by_cases h2 : c < 49152
    · rw [if_neg (by simp; omega), if_pos h2]; exact key 1 14 (.inl ⟨rfl, rfl⟩)
    · rw [if_pos (by simp; omega), if_neg h2]; exact key 2 7 (.inr ⟨rfl, rfl⟩)

theorem told_len {c : Int} {most : Nat} : (toldS c most).length ≤ most := by
  unfold toldS; split
  · simp; omega
  · split <;> (rw [List.length_take]; omega)

theorem told_in {c : Int} (h0 : 0 ≤ c) (_h1 : c ≤ 65535) {most : Nat} : ∀ x, x ∈ toldS c most → 0 ≤ x ∧ x ≤ 3 := by
  intro x hx
  have hd : ∀ B n : Nat, (B = 2 ∨ B = 4) → x ∈ digs B n c → 0 ≤ x ∧ x ≤ 3 := fun B n hB hx => by
    simp only [digs, List.mem_map] at hx
    obtain ⟨i, _, rfl⟩ := hx
    rcases hB with rfl | rfl <;> omega
  unfold toldS at hx
  split at hx
  · have := (List.mem_replicate.1 hx).2; omega
  · split at hx
    · exact hd 2 14 (.inl rfl) (List.mem_of_mem_take hx)
    · exact hd 4 7 (.inr rfl) (List.mem_of_mem_take hx)

/-- the digits of a number made of digits -/
theorem digs_valB {B : Nat} (hB : 0 < B) : ∀ {l : List Int} {a : Int}, (∀ x, x ∈ l → 0 ≤ x ∧ x < B) → digs B l.length (valB B a l) = l := by
  intro l a h
  have hBi : (0 : Int) < B := by omega
  have key : ∀ (l : List Int) (a : Int) (i : Nat) (hi : i < l.length), (∀ x, x ∈ l → 0 ≤ x ∧ x < B) → valB B a l / (B : Int) ^ (l.length - 1 - i) % B = l[i] := by
    intro l
    induction l with
    | nil => intro a i hi; simp at hi
    | cons d l ih =>
      intro a i hi h
      have hd := h d (by simp)
      cases i with
      | zero =>
        simp only [valB, List.length_cons, Nat.add_sub_cancel, Nat.sub_zero, List.getElem_cons_zero]
        have hb := valB_bound hBi (l := l) (a := a * B + d) (fun x hx => h x (by simp [hx]))
        have hp : (0 : Int) < (B : Int) ^ l.length := Int.pow_pos hBi
        have : valB B (a * B + d) l / (B : Int) ^ l.length = a * B + d := by
          have h1 : a * B + d ≤ valB B (a * B + d) l / (B : Int) ^ l.length := (Int.le_ediv_iff_mul_le hp).2 hb.1
          have h2 : valB B (a * B + d) l / (B : Int) ^ l.length < a * B + d + 1 := (Int.ediv_lt_iff_lt_mul hp).2 hb.2
          omega
        rw [this, Int.add_emod, Int.mul_emod_left, Int.zero_add, Int.emod_emod_of_dvd _ (Int.dvd_refl _)]
        exact Int.emod_eq_of_lt hd.1 hd.2
      | succ i =>
        simp only [valB, List.length_cons, List.getElem_cons_succ]
        have e : l.length + 1 - 1 - (i + 1) = l.length - 1 - i := by omega
        rw [e]
        exact ih _ i (by simpa using hi) (fun x hx => h x (by simp [hx]))
  apply List.ext_getElem
  · simp [digs]
  · intro i h1 h2
    simp only [digs, List.getElem_map, List.getElem_range]
    exact key l a i h2 h
end Xb

