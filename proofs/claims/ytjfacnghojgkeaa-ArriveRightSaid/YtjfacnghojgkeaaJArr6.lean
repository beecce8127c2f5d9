/- Own text: JArr6. -/
import Derived.Test.YtjfacnghojgkeaaJArr5
set_option linter.all false
set_option linter.unusedVariables false
set_option linter.unusedSimpArgs false
set_option linter.unnecessarySimpa false
set_option linter.deprecated false
/-! The document's numbers with signs, and its chunks. -/
namespace Xb
open Go

theorem rps_loop {v n : Int} {m : Nat} (hn : n = m) (hm : m ≤ 7) : ∀ (k i : Nat), i + k = m → ref01_PutSigned_l1 none v n ((256 ^ i : Nat) : Int) (i : Int) = ref01_PutSigned_l1 none v n ((256 ^ m : Nat) : Int) (m : Int)
  | 0, i, h => by have : i = m := by omega
                  rw [this]
  | k + 1, i, h => by
    rw [← rps_loop hn hm k (i + 1) (by omega)]
    have h2 : (256 : Nat) ^ (i + 1) ≤ 256 ^ 7 := Nat.pow_le_pow_right (by omega) (by omega)
    have h3 : (256 : Nat) ^ (i + 1) = 256 ^ i * 256 := Nat.pow_succ ..
    have h4 : (256 : Nat) ^ 7 = 72057594037927936 := by decide
    have step : ref01_PutSigned_s1 none v n ((256 ^ i : Nat) : Int) (i : Int) = some (.inl (((256 ^ (i + 1) : Nat) : Int), ((i + 1 : Nat) : Int))) := by
      unfold ref01_PutSigned_s1
      rw [if_pos (by rw [cm_lss]; simp; omega), ar_mul, ar_add, w_i64 (n := (i : Int) + 1) (by omega) (by omega)]
      have e : ((256 ^ i : Nat) : Int) * 256 = ((256 ^ (i + 1) : Nat) : Int) := by rw [h3]; exact (Int.natCast_mul _ 256).symm
      rw [e, w_i64 (by omega) (by omega)]; rfl
    unfold ref01_PutSigned_l1
    exact loop_inl step

theorem rps_end {v n : Int} {m : Nat} (hn : n = m) (h1 : 1 ≤ m) (hm : m ≤ 7) (h0 : -(((256 ^ m / 2 : Nat)) : Int) ≤ v) (hv : v < ((256 ^ m / 2 : Nat) : Int)) :
    ref01_PutSigned none v n = some (beN m (v % ((256 ^ m : Nat) : Int)), 0) := by
  have h2 : (256 : Nat) ^ m ≤ 256 ^ 7 := Nat.pow_le_pow_right (by omega) (by omega)
  have h3 : (256 : Nat) ^ 1 ≤ 256 ^ m := Nat.pow_le_pow_right (by omega) (by omega)
  have h4 : (256 : Nat) ^ 7 = 72057594037927936 := by decide
  have hl := rps_loop (v := v) hn hm m 0 (by omega)
  have he : (256 : Nat) ^ m = 2 * (256 ^ m / 2) := by
    obtain ⟨k, rfl⟩ : ∃ k, m = k + 1 := ⟨m - 1, by omega⟩
    rw [Nat.pow_succ]; omega
  unfold ref01_PutSigned
  rw [if_neg (by rw [cm_lss, cm_gtr]; simp; omega), if_neg (by rw [cm_eql]; simp; omega)]
  have hl' : ref01_PutSigned_l1 none v n 1 0 = ref01_PutSigned_l1 none v n ((256 ^ m : Nat) : Int) (m : Int) := hl
  rw [hl']
  generalize hq : (256 : Nat) ^ m = q at *
  unfold ref01_PutSigned_l1
  refine loop_inr ?_
  show ref01_PutSigned_s1 none v n (q : Int) (m : Int) = _
  have hp : ∀ x : Int, 0 ≤ x → x < (q : Int) → ref01_Put none (IntKind.u64.wrap x) n = some (beN m x, 0) := fun x hx0 hx1 => by
    have := rput_eq (v := x) (n := m) hx0 (by omega) (by omega) (by omega)
    have hqi : (256 : Int) ^ m = (q : Int) := by rw [← hq]; exact (Int.natCast_pow 256 m).symm
    rw [hqi, if_pos hx1] at this
    rw [hn, w_u64 (by omega) (by omega)]; exact this
  unfold ref01_PutSigned_s1 ref01_PutSigned_j2
  rw [if_neg (by rw [cm_lss]; simp; omega), dv_quo (by omega), w_i64 (by omega) (by omega), ar_sub, w_i64 (by omega) (by omega), if_neg (by rw [cm_lss, cm_geq]; simp only [Bool.or_eq_true, decide_eq_true_eq]; omega)]
  by_cases hneg : v < 0
  · have e : v % (q : Int) = v + q := by
      rw [← Int.add_emod_right, Int.emod_eq_of_lt (by omega) (by omega)]
    rw [if_pos (by rw [cm_lss]; simpa using hneg), ar_add, w_i64 (by omega) (by omega), bnd (hp _ (by omega) (by omega)), e]; rfl
  · have e : v % (q : Int) = v := Int.emod_eq_of_lt (by omega) (by omega)
    rw [if_neg (by rw [cm_lss]; simpa using hneg), bnd (hp _ (by omega) (by omega)), e]; rfl

theorem rputs3 {v : Int} (h0 : -8388608 ≤ v) (h1 : v ≤ 8388607) : ref01_PutSigned none v 3 = some (beN 3 (v % 16777216), 0) :=
  rps_end (m := 3) rfl (by omega) (by omega) (by show -(8388608 : Int) ≤ v; omega) (by show v < (8388608 : Int); omega)
theorem rputs4 {v : Int} (h0 : -2147483648 ≤ v) (h1 : v ≤ 2147483647) : ref01_PutSigned none v 4 = some (beN 4 (v % 4294967296), 0) :=
  rps_end (m := 4) rfl (by omega) (by omega) (by show -(2147483648 : Int) ≤ v; omega) (by show v < (2147483648 : Int); omega)

/-! and read -/
theorem rsg_loop {b : List Int} {at_ x n : Int} {m : Nat} (hn : n = m) (h1 : 1 ≤ m) (hm : m ≤ 3) (h : ref01_Get none b at_ n = some (x, 0)) (h0 : 0 ≤ x) (hx : x < ((256 ^ m : Nat) : Int)) :
    ref01_Signed none b at_ n = some (if x < ((256 ^ m / 2 : Nat) : Int) then x else x - ((256 ^ m : Nat) : Int), 0) := by
  have hi : m = 1 ∨ m = 2 ∨ m = 3 := by omega
  unfold ref01_Signed
  have c0 : cm .neq (0 : Int) 0 = false := by decide
  rw [bnd h]
  simp only [c0, Bool.false_or]
  rw [if_neg (by rw [cm_eql]; simp; omega)]
  have key : ∀ (q : Int), 256 ≤ q → q ≤ 16777216 → q % 2 = 0 → q = ((256 ^ m : Nat) : Int) → ref01_Signed_s1 none n (x, 0) q n = some (.inr (if x < ((256 ^ m / 2 : Nat) : Int) then x else x - ((256 ^ m : Nat) : Int), 0)) := by
    intro q hq1 hq2 hq3 hq
    have hq4 : ((256 ^ m / 2 : Nat) : Int) = q / 2 := by rw [hq]; simp
    unfold ref01_Signed_s1
    rw [if_neg (by rw [cm_lss]; simp), dv_quo (by omega), w_i64 (n := q / 2) (by omega) (by omega), hq4, ← hq, w_i64 (n := x) (by omega) (by omega)]
    by_cases hlt : x < q / 2
    · rw [if_neg (by rw [cm_geq]; simp; omega), if_pos hlt]; rfl
    · rw [if_pos (by rw [cm_geq]; simp; omega), if_neg hlt, ar_mul, w_i64 (n := 2 * (q / 2)) (by omega) (by omega), ar_sub, w_i64 (by omega) (by omega)]
      have : 2 * (q / 2) = q := by omega
      rw [this]; rfl
  unfold ref01_Signed_l1
  have st : ∀ (q i : Int), i < n → 0 ≤ i → 0 ≤ q → q ≤ 16777216 → ref01_Signed_s1 none n (x, 0) q i = some (.inl (q * 256, i + 1)) := by
    intro q i hi1 hi2 hq1 hq2
    unfold ref01_Signed_s1
    rw [if_pos (by rw [cm_lss]; simpa using hi1), ar_mul, w_i64 (by omega) (by omega), ar_add, w_i64 (by omega) (by omega)]
  rcases hi with rfl | rfl | rfl
  · refine (loop_inl (st 1 0 (by omega) (by omega) (by omega) (by omega))).trans ?_
    refine loop_inr ?_
    have := key 256 (by omega) (by omega) (by omega) rfl
    subst hn; exact this
  · refine (loop_inl (st 1 0 (by omega) (by omega) (by omega) (by omega))).trans ?_
    refine (loop_inl (st 256 1 (by omega) (by omega) (by omega) (by omega))).trans ?_
    refine loop_inr ?_
    have := key 65536 (by omega) (by omega) (by omega) rfl
    subst hn; exact this
  · refine (loop_inl (st 1 0 (by omega) (by omega) (by omega) (by omega))).trans ?_
    refine (loop_inl (st 256 1 (by omega) (by omega) (by omega) (by omega))).trans ?_
    refine (loop_inl (st 65536 2 (by omega) (by omega) (by omega) (by omega))).trans ?_
    refine loop_inr ?_
    have := key 16777216 (by omega) (by omega) (by omega) rfl
    subst hn; exact this

theorem rgets2 {b : List Int} {at_ : Nat} (hb : oct b) (hl : b.length ≤ 4294967296) (h : at_ + 2 ≤ b.length) : ref01_Signed none b at_ 2 = some (sg2 (numB ((b.drop at_).take 2)), 0) := by
  have hn := numB_bd ((b.drop at_).take 2) ((hb.drop at_).take 2)
  rw [List.length_take, List.length_drop, show min 2 (b.length - at_) = 2 by omega] at hn
  have hg : ref01_Get none b (at_ : Int) 2 = some (numB ((b.drop at_).take 2), 0) := rget_eq (n := 2) (by omega) (by omega) hb hl h
  exact rsg_loop (m := 2) rfl (by omega) (by omega) hg (by omega) (by show _ < (65536 : Int); omega)
theorem rgets3 {b : List Int} {at_ : Nat} (hb : oct b) (hl : b.length ≤ 4294967296) (h : at_ + 3 ≤ b.length) : ref01_Signed none b at_ 3 = some (sg3 (numB ((b.drop at_).take 3)), 0) := by
  have hn := numB_bd ((b.drop at_).take 3) ((hb.drop at_).take 3)
  rw [List.length_take, List.length_drop, show min 3 (b.length - at_) = 3 by omega] at hn
  have hg : ref01_Get none b (at_ : Int) 3 = some (numB ((b.drop at_).take 3), 0) := rget_eq (n := 3) (by omega) (by omega) hb hl h
  exact rsg_loop (m := 3) rfl (by omega) (by omega) hg (by omega) (by show _ < (16777216 : Int); omega)

/-! what a chunk tells -/
theorem rtold2 {c : Int} {most : Nat} (h0 : 0 ≤ c) (h1 : c < 32768) (hm : most ≤ 100000) : ref18_Told_l2 none c (most : Int) [] 0 = some (List.replicate (min (c % 8192).toNat most) (c / 8192)) := by
  unfold ref18_Told_l2
  have := loop_seq (step := fun (s : List Int × Int) => ref18_Told_s2 none c (most : Int) s.1 s.2) (r := List.replicate (min (c % 8192).toNat most) (c / 8192)) (fun i => (List.replicate i (c / 8192), (i : Int))) (min (c % 8192).toNat most) (fun i hi => by
    show ref18_Told_s2 none c (most : Int) _ (i : Int) = _
    unfold ref18_Told_s2
    rw [w_i64 (n := c) (by omega) (by omega), dv_rem h0, dv_quo h0, w_i64 (by omega) (by omega), if_pos (by rw [cm_lss, cm_lss]; simp; omega), bnd (app_some (by simp; omega)), ar_add, w_i64 (by omega) (by omega), ← List.replicate_succ']
    rfl) (by
    show ref18_Told_s2 none c (most : Int) _ _ = _
    unfold ref18_Told_s2 ref18_Told_j1
    rw [w_i64 (n := c) (by omega) (by omega), dv_rem h0, if_neg (by rw [cm_lss, cm_lss]; simp; omega)]; rfl)
  simpa using this

theorem digs_len (B n : Nat) (c : Int) : (digs B n c).length = n := by simp [digs]
theorem digs_get (B n : Nat) (c : Int) (i : Nat) (hi : i < n) : (digs B n c)[i]'(by rw [digs_len]; exact hi) = c / (B : Int) ^ (n - 1 - i) % B := by simp [digs]

theorem rtold3 {c : Int} {most : Nat} (h0 : 0 ≤ c) (h1 : c ≤ 65535) (hm : most ≤ 100000) : ref18_Told_l3 none c (most : Int) [] 8192 0 = some ((digs 2 14 c).take most) := by
  unfold ref18_Told_l3
  have hdl := digs_len 2 14 c
  have hend : (digs 2 14 c).take (min 14 most) = (digs 2 14 c).take most := by
    by_cases h : most ≤ 14
    · rw [Nat.min_eq_right h]
    · rw [Nat.min_eq_left (by omega), List.take_of_length_le (by omega), List.take_of_length_le (by omega)]
  have := loop_seq (step := fun (s : List Int × Int × Int) => ref18_Told_s3 none c (most : Int) s.1 s.2.1 s.2.2) (r := (digs 2 14 c).take most) (fun i => ((digs 2 14 c).take i, ((8192 / 2 ^ i : Nat) : Int), (i : Int))) (min 14 most) (fun i hi => by
    show ref18_Told_s3 none c (most : Int) _ _ (i : Int) = _
    have hi14 : i < 14 := by omega
    have hpow : (8192 / 2 ^ i : Nat) = 2 ^ (13 - i) := by
      have : ∀ j : Fin 14, (8192 / 2 ^ j.val : Nat) = 2 ^ (13 - j.val) := by decide
      exact this ⟨i, hi14⟩
    have hnext : (8192 / 2 ^ i : Nat) / 2 = 8192 / 2 ^ (i + 1) := by rw [Nat.pow_succ, Nat.div_div_eq_div_mul]
    have hp1 : 1 ≤ (2 : Nat) ^ (13 - i) := Nat.one_le_two_pow
    have hp2 : (2 : Nat) ^ (13 - i) ≤ 2 ^ 13 := Nat.pow_le_pow_right (by omega) (by omega)
    have hp3 : (2 : Nat) ^ 13 = 8192 := by decide
    have hc0 : 0 ≤ c / ((2 ^ (13 - i) : Nat) : Int) := Int.ediv_nonneg h0 (by omega)
    have hc1 : c / ((2 ^ (13 - i) : Nat) : Int) ≤ c := Int.ediv_le_self _ h0
    have hdig : c / ((2 ^ (13 - i) : Nat) : Int) % 2 = (digs 2 14 c)[i]'(by omega) := by
      rw [digs_get 2 14 c i hi14]
      rw [show (14 - 1 - i) = 13 - i by omega]
      congr 2
    rw [hpow] at hnext
    simp only [hpow]
    generalize (2 : Nat) ^ (13 - i) = P at hnext hp1 hp2 hc0 hc1 hdig ⊢
    rw [hp3] at hp2
    rw [← hnext]
    unfold ref18_Told_s3
    rw [w_i64 (n := c) (by omega) (by omega), if_pos (by rw [cm_lss, cm_lss]; simp; omega), dvO_nz (by omega), Option.bind_some, dv_quo h0, dv_quo (x := (P : Int)) (by omega)]
    rw [w_i64 (n := c / (P : Int)) (by omega) (by omega), dv_rem hc0, hdig]
    rw [bnd (app_some (by rw [List.length_take]; simp; omega)), ar_add, w_i64 (n := (i : Int) + 1) (by omega) (by omega), w_i64 (by omega) (by omega), ← take_snoc _ i (by omega)]
    rfl) (by
    show ref18_Told_s3 none c (most : Int) _ _ _ = _
    unfold ref18_Told_s3 ref18_Told_j1
    rw [if_neg (by rw [cm_lss, cm_lss]; simp; omega), hend]; rfl)
  simpa using this

theorem rtold4 {c : Int} {most : Nat} (h0 : 0 ≤ c) (h1 : c ≤ 65535) (hm : most ≤ 100000) : ref18_Told_l4 none c (most : Int) [] 4096 0 = some ((digs 4 7 c).take most) := by
  unfold ref18_Told_l4
  have hdl := digs_len 4 7 c
  have hend : (digs 4 7 c).take (min 7 most) = (digs 4 7 c).take most := by
    by_cases h : most ≤ 7
    · rw [Nat.min_eq_right h]
    · rw [Nat.min_eq_left (by omega), List.take_of_length_le (by omega), List.take_of_length_le (by omega)]
  have := loop_seq (step := fun (s : List Int × Int × Int) => ref18_Told_s4 none c (most : Int) s.1 s.2.1 s.2.2) (r := (digs 4 7 c).take most) (fun i => ((digs 4 7 c).take i, ((4096 / 4 ^ i : Nat) : Int), (i : Int))) (min 7 most) (fun i hi => by
    show ref18_Told_s4 none c (most : Int) _ _ (i : Int) = _
    have hi7 : i < 7 := by omega
    have hpow : (4096 / 4 ^ i : Nat) = 4 ^ (6 - i) := by
      have : ∀ j : Fin 7, (4096 / 4 ^ j.val : Nat) = 4 ^ (6 - j.val) := by decide
      exact this ⟨i, hi7⟩
    have hnext : (4096 / 4 ^ i : Nat) / 4 = 4096 / 4 ^ (i + 1) := by rw [Nat.pow_succ, Nat.div_div_eq_div_mul]
    have hp1 : 1 ≤ (4 : Nat) ^ (6 - i) := Nat.pos_of_ne_zero (by simp)
    have hp2 : (4 : Nat) ^ (6 - i) ≤ 4 ^ 6 := Nat.pow_le_pow_right (by omega) (by omega)
    have hp3 : (4 : Nat) ^ 6 = 4096 := by decide
    have hc0 : 0 ≤ c / ((4 ^ (6 - i) : Nat) : Int) := Int.ediv_nonneg h0 (by omega)
    have hc1 : c / ((4 ^ (6 - i) : Nat) : Int) ≤ c := Int.ediv_le_self _ h0
    have hdig : c / ((4 ^ (6 - i) : Nat) : Int) % 4 = (digs 4 7 c)[i]'(by omega) := by
      rw [digs_get 4 7 c i hi7]
      rw [show (7 - 1 - i) = 6 - i by omega]
      congr 2
    rw [hpow] at hnext
    simp only [hpow]
    generalize (4 : Nat) ^ (6 - i) = P at hnext hp1 hp2 hc0 hc1 hdig ⊢
    rw [hp3] at hp2
    rw [← hnext]
    unfold ref18_Told_s4
    rw [w_i64 (n := c) (by omega) (by omega), if_pos (by rw [cm_lss, cm_lss]; simp; omega), dvO_nz (by omega), Option.bind_some, dv_quo h0, dv_quo (x := (P : Int)) (by omega)]
    rw [w_i64 (n := c / (P : Int)) (by omega) (by omega), dv_rem hc0, hdig]
    rw [bnd (app_some (by rw [List.length_take]; simp; omega)), ar_add, w_i64 (n := (i : Int) + 1) (by omega) (by omega), w_i64 (by omega) (by omega), ← take_snoc _ i (by omega)]
    rfl) (by
    show ref18_Told_s4 none c (most : Int) _ _ _ = _
    unfold ref18_Told_s4 ref18_Told_j1
    rw [if_neg (by rw [cm_lss, cm_lss]; simp; omega), hend]; rfl)
  simpa using this

theorem rtold_eq {c : Int} {most : Nat} (h0 : 0 ≤ c) (h1 : c ≤ 65535) (hm : most ≤ 100000) : ref18_Told none c (most : Int) = some (toldS c most) := by
  unfold ref18_Told toldS
  rw [w_i64 (n := c) (by omega) (by omega), cm_lss, cm_lss]
  by_cases hc : c < 32768
  · rw [if_pos (by simpa using hc), if_pos hc, rtold2 h0 hc hm]
  · rw [if_neg (by simpa using hc), if_neg hc]
    by_cases hd : c < 49152
    · rw [if_pos (by simpa using hd), if_pos hd, rtold3 h0 h1 hm]
    · rw [if_neg (by simpa using hd), if_neg hd, rtold4 h0 h1 hm]

/-- reading chunks: is there a 3 in what one tells? -/
theorem rfind3 {out x : List Int} {i : Nat} (hx : x.length ≤ 100000) (ho : out.length ≤ 100000) (hi : i ≤ 1000000) : ref18_Read_l2 none out (i : Int) x 0 = some (if (3 : Int) ∈ x then .inr ([], 0, 6) else .inl (out ++ x, ((i + 1 : Nat) : Int))) := by
  unfold ref18_Read_l2
  have := find_loop (l := x) (step := fun s => ref18_Read_s2 none out (i : Int) x s) (p := fun y => decide (y = 3)) (hit := fun _ => (.inr ([], 0, 6) : (List Int × Int) ⊕ (List Int × Int × Int))) (miss := .inl (out ++ x, ((i + 1 : Nat) : Int))) (by
    show ref18_Read_s2 none out (i : Int) x _ = _
    unfold ref18_Read_s2
    rw [if_neg (by rw [cm_lss]; simp), bnd (app_some (by omega)), ar_add, w_i64 (by omega) (by omega)]; rfl) (fun j hj => by
    show ref18_Read_s2 none out (i : Int) x (j : Int) = _
    unfold ref18_Read_s2
    rw [if_pos (by rw [cm_lss]; simpa using hj), bnd (ix_some (n := j) rfl hj), cm_eql]
    by_cases h : x[j] = 3
    · rw [if_pos (by simpa using h), if_pos (by simpa using h)]; rfl
    · rw [if_neg (by simpa using h), if_neg (by simpa using h), ar_add, w_i64 (by omega) (by omega)]; rfl)
  rw [this]
  congr 1
  cases hf : x.findIdx? (fun y => decide (y = 3)) with
  | none =>
    rw [List.findIdx?_eq_none_iff] at hf
    rw [if_neg]
    intro h
    have := hf _ h
    simp at this
  | some j =>
    rw [List.findIdx?_eq_some_iff_getElem] at hf
    obtain ⟨hj, hp, _⟩ := hf
    rw [if_pos]
    have : x[j] = 3 := by simpa using hp
    exact this ▸ List.getElem_mem hj

theorem rread_loop {chunks : List Int} (hc : ∀ x, x ∈ chunks → 0 ≤ x ∧ x ≤ 65535) (hl : chunks.length ≤ 1000000) {count : Nat} (hcount : count ≤ 4000) : ∀ (m i : Nat) (out : List Int) (rem : Nat), i + m = chunks.length → 0 < rem → out.length + rem = count →
    loopG none (fun (s : List Int × Int) => ref18_Read_s1 none chunks (count : Int) s.1 s.2) (out, (i : Int)) = some (rdR out i (readT (chunks.drop i) rem))
  | 0, i, out, rem, hi, hr, ho => by
    refine (loop_inr (r := ([], 0, 2)) ?_).trans ?_
    · simp only [ref18_Read_s1, cm_lss, cm_geq, decide_eq_true_eq]
      rw [if_pos (by omega), if_pos (by omega)]; rfl
    · rw [List.drop_eq_nil_of_le (by omega)]; rfl
  | m + 1, i, out, rem, hi, hr, ho => by
    have hil : i < chunks.length := by omega
    have hd : chunks.drop i = chunks[i] :: chunks.drop (i + 1) := List.drop_eq_getElem_cons hil
    have hci := hc chunks[i] (List.getElem_mem hil)
    have hlen := told_len (c := chunks[i]) (most := rem)
    have hstep : ref18_Read_s1 none chunks (count : Int) out (i : Int) = some (if (3 : Int) ∈ toldS chunks[i] rem then .inr (([] : List Int), (0 : Int), (6 : Int)) else .inl (out ++ toldS chunks[i] rem, ((i + 1 : Nat) : Int))) := by
      simp only [ref18_Read_s1, cm_lss, cm_geq, decide_eq_true_eq]
      have er : ar .sub .i64 (count : Int) (out.length : Int) = (rem : Int) := by rw [ar_sub, w_i64 (by omega) (by omega)]; omega
      rw [if_pos (by omega), if_neg (by omega), bnd (ix_some rfl hil), er, bnd (rtold_eq hci.1 hci.2 (by omega)), rfind3 (by omega) (by omega) (by omega)]
    rw [hd, readT]
    by_cases h3 : (3 : Int) ∈ toldS chunks[i] rem
    · rw [if_pos h3] at hstep ⊢
      exact loop_inr hstep
    · rw [if_neg h3] at hstep ⊢
      refine (loop_inl hstep).trans ?_
      by_cases hq : (toldS chunks[i] rem).length = rem
      · rw [if_pos hq]
        refine (loop_inr (r := (out ++ toldS chunks[i] rem, ((i + 1 : Nat) : Int), 0)) ?_).trans ?_
        · simp only [ref18_Read_s1, cm_lss, decide_eq_true_eq]
          rw [if_neg (by rw [List.length_append]; omega)]; rfl
        · rfl
      · rw [if_neg hq]
        rw [rread_loop hc hl hcount m (i + 1) (out ++ toldS chunks[i] rem) (rem - (toldS chunks[i] rem).length) (by omega) (by omega) (by rw [List.length_append]; omega)]
        cases readT (chunks.drop (i + 1)) (rem - (toldS chunks[i] rem).length) with
        | error e => rfl
        | ok p =>
          obtain ⟨y, n⟩ := p
          simp only [rdR, List.append_assoc]
          congr 4; omega

theorem rread_eq {chunks : List Int} (hc : ∀ x, x ∈ chunks → 0 ≤ x ∧ x ≤ 65535) (hl : chunks.length ≤ 1000000) {count : Int} : ref18_Read none chunks count = some (rdR [] 0 (readC chunks count)) := by
  unfold ref18_Read readC
  by_cases h : count < 0 ∨ 4000 < count
  · rw [if_pos (by rw [cm_lss, cm_gtr]; simpa using h), if_pos h]; rfl
  · rw [if_neg (by rw [cm_lss, cm_gtr]; simpa using h), if_neg h]
    unfold ref18_Read_l1
    by_cases h0 : count = 0
    · rw [if_pos h0]
      refine (loop_inr (r := ([], 0, 0)) ?_).trans rfl
      simp only [ref18_Read_s1, cm_lss, decide_eq_true_eq]
      rw [if_neg (by simp; omega)]; rfl
    · rw [if_neg h0]
      have e : count = (count.toNat : Int) := by omega
      have := rread_loop hc hl (count := count.toNat) (by omega) chunks.length 0 [] count.toNat (by omega) (by omega) (by simp)
      rw [List.drop_zero] at this
      rw [e]
      exact this
end Xb
