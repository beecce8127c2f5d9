/- Own text: MChunk3. -/
import Derived.Test.YthdbckjpoffnpaaMChunk2
set_option linter.all false
set_option linter.unusedVariables false
set_option linter.unusedSimpArgs false
set_option linter.unnecessarySimpa false
set_option linter.deprecated false
/-! What chunks tell, and reading them. -/
namespace Xb
open Go

theorem mul_one {n : Nat} (hn : n ≤ 100000) : math_bits_Mul 1 (n : Int) = (0, (n : Int)) := by
  have e1 : sf .shr .u64 1 32 = 0 := by decide
  have e2 : ar .and .u64 1 4294967295 = 1 := by decide
  have e3 : ar .and .u64 (n : Int) 4294967295 = n := by
    rw [ar_mask (k := .u64) (y := 4294967295) (n := 32) rfl rfl (by decide) (by omega) (by show (n : Int) < 2 ^ 64; omega)]; omega
  have e4 : sf .shr .u64 (n : Int) 32 = 0 := by rw [sf_shr (k := .u64) (y := 32) (n := 32) rfl (by decide)]; omega
  have m0 : ∀ x : Int, ar .mul .u64 0 x = 0 := fun x => by rw [ar_mul]; simp [IntKind.wrap, IntKind.signed]
  have m1 : ar .mul .u64 1 (n : Int) = n := by rw [ar_mul, w_u64 (by omega) (by omega)]; omega
  have m2 : ar .mul .u64 1 0 = 0 := by decide
  have a0 : ar .add .u64 0 0 = 0 := by decide
  have n0 : ar .and .u64 0 4294967295 = 0 := by decide
  have s0 : sf .shr .u64 0 32 = 0 := by decide
  simp only [math_bits_Mul, math_bits_Mul64, e1, e2, e3, e4, m0, m1, m2, a0, n0, s0]

theorem Repeat_eq {v : Int} {n : Nat} (hn : n ≤ 100000) : slices_Repeat none [v] (n : Int) = some (List.replicate n v) := by
  have hm := mul_one hn
  unfold slices_Repeat slices_Repeat_j1 slices_Repeat_j2
  have w1 : IntKind.u64.wrap (([v].length : Nat) : Int) = 1 := w_u64 (n := 1) (by omega) (by omega)
  have w2 : IntKind.u64.wrap (n : Int) = n := w_u64 (by omega) (by omega)
  have w3 : IntKind.i64.wrap (n : Int) = n := w_i64 (by omega) (by omega)
  rw [if_neg (by rw [cm_lss]; simp), w1, w2, hm, if_neg (by rw [cm_gtr, cm_gtr]; simp; omega), w3]
  have hmk : mkL (0 : Int) (n : Int) (n : Int) = some (List.replicate n 0) := by unfold mkL; rw [if_pos (by omega)]; rfl
  rw [bnd hmk]
  unfold slices_Repeat_l3
  obtain ⟨r, hr, rfl⟩ := loop_inv (step := fun (s : List Int × Int) => slices_Repeat_s3 none s.1 s.2) (Q := fun r => r = List.replicate n v)
    (fun s => ∃ k : Nat, s = (List.replicate k v ++ List.replicate (n - k) 0, (k : Int)) ∧ k ≤ n ∧ (0 < n → 0 < k)) (fun s => n - s.2.toNat)
    (cpy (List.replicate n (0 : Int)) 0 ((List.replicate n (0 : Int)).length : Int) [v], cpn 0 ((List.replicate n (0 : Int)).length : Int) [v]) (by
      refine ⟨min 1 n, ?_, by omega, by omega⟩
      unfold cpy cpn
      rw [List.length_replicate]
      rcases Nat.eq_zero_or_pos n with rfl | hp
      · rfl
      · have h1 : min 1 n = 1 := by omega
        have h2 : ((n : Int).toNat - (0 : Int).toNat) = (n - 1) + 1 := by simp; omega
        rw [h1, h2]
        simp [List.take]) (by
    rintro s ⟨k, rfl, hk, hpos⟩
    have hlen : (List.replicate k v ++ List.replicate (n - k) (0 : Int)).length = n := by simp; omega
    simp only [slices_Repeat_s3, cm_lss, decide_eq_true_eq, hlen]
    by_cases hkn : k < n
    · left
      have s1 : sub (List.replicate k v ++ List.replicate (n - k) (0 : Int)) (k : Int) (n : Int) = some (List.replicate (n - k) 0) := by
        rw [sub_some (by omega) (by omega) (by rw [hlen]; omega)]
        simp
      have s2 : sub (List.replicate k v ++ List.replicate (n - k) (0 : Int)) 0 (k : Int) = some (List.replicate k v) := by
        rw [sub_some (by omega) (by omega) (by rw [hlen]; omega)]
        simp
      rw [if_pos (by omega), bnd s1, bnd s2]
      have hc : cpn (k : Int) (n : Int) (List.replicate k v) = ((min k (n - k) : Nat) : Int) := by
        unfold cpn; simp; omega
      refine ⟨_, rfl, ⟨k + min k (n - k), ?_, by omega, by omega⟩, ?_⟩
      · rw [hc, ar_add, w_i64 (by omega) (by omega)]
        congr 1
        unfold cpy
        simp only [Int.toNat_natCast, List.take_replicate, List.length_replicate]
        rw [List.take_left' (by simp), List.drop_append, List.drop_eq_nil_of_le (by simp), List.nil_append, List.drop_replicate, ← List.replicate_append_replicate, List.append_assoc]
        rw [List.append_assoc, List.length_replicate, Nat.min_comm (n - k) k]
        have e : n - k - (k + min k (n - k) - k) = n - (k + min k (n - k)) := by omega
        rw [e]
      · simp only
        rw [hc, ar_add, w_i64 (by omega) (by omega)]
        omega
    · right
      have : k = n := by omega
      subst this
      rw [if_neg (by omega)]
      exact ⟨_, rfl, by simp⟩)
  exact hr

def digs (B n : Nat) (c : Int) : List Int := (List.range n).map fun i => c / (B : Int) ^ (n - 1 - i) % B

def toldS (c : Int) (most : Nat) : List Int :=
  if c < 32768 then List.replicate (min (c % 8192).toNat most) (c / 8192) else if c < 49152 then (digs 2 14 c).take most else (digs 4 7 c).take most

theorem told_eq {c : Int} {most : Nat} (h0 : 0 ≤ c) (h1 : c ≤ 65535) (hm : most ≤ 100000) : chunk_told none c (most : Int) = some (toldS c most) := by
  have e15 : ar .and .u16 c 32768 = c / 32768 % 2 * 32768 := ar_bit (k := .u16) (n := 15) rfl (by decide) h0 (by show c < 2 ^ 16; omega)
  have e14 : ar .and .u16 c 16384 = c / 16384 % 2 * 16384 := ar_bit (k := .u16) (n := 14) rfl (by decide) h0 (by show c < 2 ^ 16; omega)
  have e13 : ar .and .u16 c 8191 = c % 8192 := ar_mask (k := .u16) (n := 13) rfl rfl (by decide) h0 (by show c < 2 ^ 16; omega)
  have key : ∀ (b n : Nat), (b = 1 ∧ n = 14 ∨ b = 2 ∧ n = 7) → chunk_told_j1 none c (most : Int) (b : Int) (n : Int) = some ((digs (2 ^ b) n c).take most) := by
    intro b n hbn
    unfold chunk_told_j1 chunk_told_l2
    have hn14 : n ≤ 14 ∧ b * n = 14 ∧ b ≤ 2 := by rcases hbn with ⟨rfl, rfl⟩ | ⟨rfl, rfl⟩ <;> omega
    have hdl : (digs (2 ^ b) n c).length = n := by simp [digs]
    have := loop_seq (step := fun (s : List Int × Int) => chunk_told_s2 none c (most : Int) (b : Int) (n : Int) s.1 s.2) (r := (digs (2 ^ b) n c).take most) (fun i => ((digs (2 ^ b) n c).take i, (i : Int))) (min n most) (fun i hi => by
      have hin : i < n := by omega
      simp only [chunk_told_s2, cm_lss, decide_eq_true_eq]
      rw [imin_nat, if_pos (by omega)]
      have ea : ar .mul .i64 (b : Int) (ar .sub .i64 (ar .sub .i64 (n : Int) 1) (i : Int)) = ((b * (n - 1 - i) : Nat) : Int) := by
        rw [ar_sub, ar_sub, w_i64 (n := (n : Int) - 1) (by omega) (by omega), w_i64 (n := (n : Int) - 1 - i) (by omega) (by omega), ar_mul]
        have e : (b : Int) * ((n : Int) - 1 - i) = ((b * (n - 1 - i) : Nat) : Int) := by
          rw [Int.natCast_mul]; congr 1; omega
        have hle : b * (n - 1 - i) ≤ 2 * 14 := Nat.mul_le_mul hn14.2.2 (by omega)
        rw [e, w_i64 (by omega) (by omega)]
      have hle : b * (n - 1 - i) ≤ 13 := by
        have : b * (n - 1 - i) ≤ b * (n - 1) := Nat.mul_le_mul_left b (by omega)
        rcases hbn with ⟨rfl, rfl⟩ | ⟨rfl, rfl⟩ <;> omega
      rw [ea, bnd (sfO_nn (by omega)), sf_shr rfl (by show b * (n - 1 - i) ≤ 16; omega), bnd (sfO_nn (by omega)), sf_shl (k := .i64) (n := b) rfl (by show b ≤ 64; omega)]
      have hp : (0 : Int) < 2 ^ (b * (n - 1 - i)) := Int.pow_pos (by omega)
      have hq0 : 0 ≤ c / 2 ^ (b * (n - 1 - i)) := Int.ediv_nonneg h0 (by omega)
      have hq1 : c / 2 ^ (b * (n - 1 - i)) ≤ c := Int.ediv_le_self _ h0
      have hb4 : (2 : Int) ^ b ≤ 4 ∧ 0 < (2 : Int) ^ b := by rcases hbn with ⟨rfl, rfl⟩ | ⟨rfl, rfl⟩ <;> decide
      rw [w_i64 (n := c / 2 ^ (b * (n - 1 - i))) (by omega) (by omega), Int.one_mul, w_i64 (n := 2 ^ b) (by omega) (by omega), ar_sub, w_i64 (n := 2 ^ b - 1) (by omega) (by omega),
        ar_mask_i64 (n := b) rfl (by omega) hq0 (by omega), bnd (app_some (by rw [List.length_take]; simp; omega)), ar_add, w_i64 (by omega) (by omega)]
      have ed : (digs (2 ^ b) n c).take (i + 1) = (digs (2 ^ b) n c).take i ++ [c / 2 ^ (b * (n - 1 - i)) % 2 ^ b] := by
        rw [List.take_add_one, List.getElem?_eq_getElem (by omega)]
        simp [digs, Int.pow_mul]
      rw [ed]; rfl) (by
      simp only [chunk_told_s2, cm_lss, decide_eq_true_eq]
      rw [imin_nat, if_neg (by omega)]
      have : (digs (2 ^ b) n c).take (min n most) = (digs (2 ^ b) n c).take most := by
        have := List.take_eq_take_min (l := digs (2 ^ b) n c) (i := most)
        rw [hdl, Nat.min_comm] at this
        exact this.symm
      rw [this]; rfl)
    simpa using this
  unfold chunk_told toldS
  rw [e15, cm_eql]
  by_cases h : c < 32768
  · rw [if_pos (by simp; omega), if_pos h, e13, sf_shr (k := .u16) (y := 13) (n := 13) rfl (by decide), w_i64 (by omega) (by omega), w_i64 (by omega) (by omega)]
    have ei : imin (c % 8192) (most : Int) = ((min (c % 8192).toNat most : Nat) : Int) := by unfold imin; split <;> omega
    rw [ei, bnd (Repeat_eq (by omega))]
    rfl
  · rw [if_neg (by simp; omega), if_neg h, e14, cm_gtr]
    by_cases h2 : c < 49152
    · rw [if_neg (by simp; omega), if_pos h2]; exact key 1 14 (.inl ⟨rfl, rfl⟩)
    · rw [if_pos (by simp; omega), if_neg h2]; exact key 2 7 (.inr ⟨rfl, rfl⟩)

theorem told_len {c : Int} {most : Nat} : (toldS c most).length ≤ most := by
  unfold toldS; split
  · simp; omega
  · split <;> (rw [List.length_take]; omega)

theorem told_in {c : Int} (h0 : 0 ≤ c) (_h1 : c ≤ 65535) {most : Nat} : ∀ x, x ∈ toldS c most → 0 ≤ x ∧ x ≤ 3 := by
  intro x hx
  have hd : ∀ B n : Nat, (B = 2 ∨ B = 4) → x ∈ digs B n c → 0 ≤ x ∧ x ≤ 3 := fun B n hB hx => by
    simp only [digs, List.mem_map] at hx
    obtain ⟨i, _, rfl⟩ := hx
    rcases hB with rfl | rfl <;> omega
  unfold toldS at hx
  split at hx
  · have := (List.mem_replicate.1 hx).2; omega
  · split at hx
    · exact hd 2 14 (.inl rfl) (List.mem_of_mem_take hx)
    · exact hd 4 7 (.inr rfl) (List.mem_of_mem_take hx)

/-- the digits of a number made of digits -/
theorem digs_valB {B : Nat} (hB : 0 < B) : ∀ {l : List Int} {a : Int}, (∀ x, x ∈ l → 0 ≤ x ∧ x < B) → digs B l.length (valB B a l) = l := by
  intro l a h
  have hBi : (0 : Int) < B := by omega
  have key : ∀ (l : List Int) (a : Int) (i : Nat) (hi : i < l.length), (∀ x, x ∈ l → 0 ≤ x ∧ x < B) → valB B a l / (B : Int) ^ (l.length - 1 - i) % B = l[i] := by
    intro l
    induction l with
    | nil => intro a i hi; simp at hi
    | cons d l ih =>
      intro a i hi h
      have hd := h d (by simp)
      cases i with
      | zero =>
        simp only [valB, List.length_cons, Nat.add_sub_cancel, Nat.sub_zero, List.getElem_cons_zero]
        have hb := valB_bound hBi (l := l) (a := a * B + d) (fun x hx => h x (by simp [hx]))
        have hp : (0 : Int) < (B : Int) ^ l.length := Int.pow_pos hBi
        have : valB B (a * B + d) l / (B : Int) ^ l.length = a * B + d := by
          have h1 : a * B + d ≤ valB B (a * B + d) l / (B : Int) ^ l.length := (Int.le_ediv_iff_mul_le hp).2 hb.1
          have h2 : valB B (a * B + d) l / (B : Int) ^ l.length < a * B + d + 1 := (Int.ediv_lt_iff_lt_mul hp).2 hb.2
          omega
        rw [this, Int.add_emod, Int.mul_emod_left, Int.zero_add, Int.emod_emod_of_dvd _ (Int.dvd_refl _)]
        exact Int.emod_eq_of_lt hd.1 hd.2
      | succ i =>
        simp only [valB, List.length_cons, List.getElem_cons_succ]
        have e : l.length + 1 - 1 - (i + 1) = l.length - 1 - i := by omega
        rw [e]
        exact ih _ i (by simpa using hi) (fun x hx => h x (by simp [hx]))
  apply List.ext_getElem
  · simp [digs]
  · intro i h1 h2
    simp only [digs, List.getElem_map, List.getElem_range]
    exact key l a i h2 h
end Xb
