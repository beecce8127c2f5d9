/- Own text: SArrB. -/
import Derived.Test.YtpehlandaemcmaaGreatSArrA
import Derived.Test.YtpehlandaemcmaaGreatSFeedA
set_option linter.all false
set_option linter.unusedVariables false
set_option linter.unusedSimpArgs false
set_option linter.unnecessarySimpa false
set_option linter.deprecated false
/-! The document's numbers with signs, and its chunks. -/
namespace Xb
open Go

theorem rps_loop {v n : Int} {m : Nat} (hn : n = m) (hm : m ≤ 7) : ∀ (k i : Nat), i + k = m → ref01_PutSigned_l1 none v n ((256 ^ i : Nat) : Int) (i : Int) = ref01_PutSigned_l1 none v n ((256 ^ m : Nat) : Int) (m : Int)
  | 0, i, h => by have : i = m := by omega
                  rw [this]
  | k + 1, i, h => by
    rw [← rps_loop hn hm k (i + 1) (by omega)]
    have h2 : (256 : Nat) ^ (i + 1) ≤ 256 ^ 7 := Nat.pow_le_pow_right (by omega) (by omega)
    have h3 : (256 : Nat) ^ (i + 1) = 256 ^ i * 256 := Nat.pow_succ ..
    have h4 : (256 : Nat) ^ 7 = 72057594037927936 := by decide
    have step : ref01_PutSigned_s1 none v n ((256 ^ i : Nat) : Int) (i : Int) = some (.inl (((256 ^ (i + 1) : Nat) : Int), ((i + 1 : Nat) : Int))) := by
      unfold ref01_PutSigned_s1
      rw [if_pos (by rw [cm_lss]; simp; omega), ar_mul, ar_add, w_i64 (n := (i : Int) + 1) (by omega) (by omega)]
      have e : ((256 ^ i : Nat) : Int) * 256 = ((256 ^ (i + 1) : Nat) : Int) := by rw [h3]; exact (Int.natCast_mul _ 256).symm
      rw [e, w_i64 (by omega) (by omega)]; rfl
    unfold ref01_PutSigned_l1
    exact loop_inl step

theorem rps_end {v n : Int} {m : Nat} (hn : n = m) (h1 : 1 ≤ m) (hm : m ≤ 7) (h0 : -(((256 ^ m / 2 : Nat)) : Int) ≤ v) (hv : v < ((256 ^ m / 2 : Nat) : Int)) :
    ref01_PutSigned none v n = some (beN m (v % ((256 ^ m : Nat) : Int)), 0) := by
  have h2 : (256 : Nat) ^ m ≤ 256 ^ 7 := Nat.pow_le_pow_right (by omega) (by omega)
  have h3 : (256 : Nat) ^ 1 ≤ 256 ^ m := Nat.pow_le_pow_right (by omega) (by omega)
  have h4 : (256 : Nat) ^ 7 = 72057594037927936 := by decide
  have hl := rps_loop (v := v) hn hm m 0 (by omega)
  have he : (256 : Nat) ^ m = 2 * (256 ^ m / 2) := by
    obtain ⟨k, rfl⟩ : ∃ k, m = k + 1 := ⟨m - 1, by omega⟩
    rw [Nat.pow_succ]; omega
  unfold ref01_PutSigned
  rw [if_neg (by rw [cm_lss, cm_gtr]; simp; omega), if_neg (by rw [cm_eql]; simp; omega)]
  have hl' : ref01_PutSigned_l1 none v n 1 0 = ref01_PutSigned_l1 none v n ((256 ^ m : Nat) : Int) (m : Int) := hl
  rw [hl']
  generalize hq : (256 : Nat) ^ m = q at *
  unfold ref01_PutSigned_l1
  refine loop_inr ?_
  show ref01_PutSigned_s1 none v n (q : Int) (m : Int) = _
  have hp : ∀ x : Int, 0 ≤ x → x < (q : Int) → ref01_Put none (IntKind.u64.wrap x) n = some (beN m x, 0) := fun x hx0 hx1 => by
    have := rput_eq (v := x) (n := m) hx0 (by omega) (by omega) (by omega)
    have hqi : (256 : Int) ^ m = (q : Int) := by rw [← hq]; exact (Int.natCast_pow 256 m).symm
    rw [hqi, if_pos hx1] at this
    rw [hn, w_u64 (by omega) (by omega)]; exact this
  unfold ref01_PutSigned_s1 ref01_PutSigned_j2
  rw [if_neg (by rw [cm_lss]; simp; omega), dv_quo (by omega), w_i64 (by omega) (by omega), ar_sub, w_i64 (by omega) (by omega), if_neg (by rw [cm_lss, cm_geq]; simp only [Bool.or_eq_true, decide_eq_true_eq]; omega)]
  by_cases hneg : v < 0
  · have e : v % (q : Int) = v + q := by
      rw [← Int.add_emod_right, Int.emod_eq_of_lt (by omega) (by omega)]
    rw [if_pos (by rw [cm_lss]; simpa using hneg), ar_add, w_i64 (by omega) (by omega), bnd (hp _ (by omega) (by omega)), e]; rfl
  · have e : v % (q : Int) = v := Int.emod_eq_of_lt (by omega) (by omega)
    rw [if_neg (by rw [cm_lss]; simpa using hneg), bnd (hp _ (by omega) (by omega)), e]; rfl

theorem rputs3 {v : Int} (h0 : -8388608 ≤ v) (h1 : v ≤ 8388607) : ref01_PutSigned none v 3 = some (beN 3 (v % 16777216), 0) :=
  rps_end (m := 3) rfl (by omega) (by omega) (by show -(8388608 : Int) ≤ v; omega) (by show v < (8388608 : Int); omega)
theorem rputs4 {v : Int} (h0 : -2147483648 ≤ v) (h1 : v ≤ 2147483647) : ref01_PutSigned none v 4 = some (beN 4 (v % 4294967296), 0) :=
  rps_end (m := 4) rfl (by omega) (by omega) (by show -(2147483648 : Int) ≤ v; omega) (by show v < (2147483648 : Int); omega)

/-! and read -/
theorem rsg_loop {b : List Int} {at_ x n : Int} {m : Nat} (hn : n = m) (h1 : 1 ≤ m) (hm : m ≤ 3) (h : ref01_Get none b at_ n = some (x, 0)) (h0 : 0 ≤ x) (hx : x < ((256 ^ m : Nat) : Int)) :
    ref01_Signed none b at_ n = some (if x < ((256 ^ m / 2 : Nat) : Int) then x else x - ((256 ^ m : Nat) : Int), 0) := by
  have hi : m = 1 ∨ m = 2 ∨ m = 3 := by omega
  unfold ref01_Signed
  have c0 : cm .neq (0 : Int) 0 = false := by decide
  rw [bnd h]
  simp only [c0, Bool.false_or]
  rw [if_neg (by rw [cm_eql]; simp; omega)]
  have key : ∀ (q : Int), 256 ≤ q → q ≤ 16777216 → q % 2 = 0 → q = ((256 ^ m : Nat) : Int) → ref01_Signed_s1 none n (x, 0) q n = some (.inr (if x < ((256 ^ m / 2 : Nat) : Int) then x else x - ((256 ^ m : Nat) : Int), 0)) := by
    intro q hq1 hq2 hq3 hq
    have hq4 : ((256 ^ m / 2 : Nat) : Int) = q / 2 := by rw [hq]; simp
    unfold ref01_Signed_s1
    rw [if_neg (by rw [cm_lss]; simp), dv_quo (by omega), w_i64 (n := q / 2) (by omega) (by omega), hq4, ← hq, w_i64 (n := x) (by omega) (by omega)]
    by_cases hlt : x < q / 2
    · rw [if_neg (by rw [cm_geq]; simp; omega), if_pos hlt]; rfl
    · rw [if_pos (by rw [cm_geq]; simp; omega), if_neg hlt, ar_mul, w_i64 (n := 2 * (q / 2)) (by omega) (by omega), ar_sub, w_i64 (by omega) (by omega)]
      have : 2 * (q / 2) = q := by omega
      rw [this]; rfl
  unfold ref01_Signed_l1
  have st : ∀ (q i : Int), i < n → 0 ≤ i → 0 ≤ q → q ≤ 16777216 → ref01_Signed_s1 none n (x, 0) q i = some (.inl (q * 256, i + 1)) := by
    intro q i hi1 hi2 hq1 hq2
    unfold ref01_Signed_s1
    rw [if_pos (by rw [cm_lss]; simpa using hi1), ar_mul, w_i64 (by omega) (by omega), ar_add, w_i64 (by omega) (by omega)]
  rcases hi with rfl | rfl | rfl
  · refine (loop_inl (st 1 0 (by omega) (by omega) (by omega) (by omega))).trans ?_
    refine loop_inr ?_
    have := key 256 (by omega) (by omega) (by omega) rfl
    subst hn; exact this
  · refine (loop_inl (st 1 0 (by omega) (by omega) (by omega) (by omega))).trans ?_
    refine (loop_inl (st 256 1 (by omega) (by omega) (by omega) (by omega))).trans ?_
    refine loop_inr ?_
    have := key 65536 (by omega) (by omega) (by omega) rfl
    subst hn; exact this
  · refine (loop_inl (st 1 0 (by omega) (by omega) (by omega) (by omega))).trans ?_
    refine (loop_inl (st 256 1 (by omega) (by omega) (by omega) (by omega))).trans ?_
    refine (loop_inl (st 65536 2 (by omega) (by omega) (by omega) (by omega))).trans ?_
    refine loop_inr ?_
    have := key 16777216 (by omega) (by omega) (by omega) rfl
    subst hn; exact this

theorem rgets2 {b : List Int} {at_ : Nat} (hb : oct b) (hl : b.length ≤ 4294967296) (h : at_ + 2 ≤ b.length) : ref01_Signed none b at_ 2 = some (sg2 (numB ((b.drop at_).take 2)), 0) := by
  have hn := numB_bd ((b.drop at_).take 2) ((hb.drop at_).take 2)
  rw [List.length_take, List.length_drop, show min 2 (b.length - at_) = 2 by omega] at hn
  have hg : ref01_Get none b (at_ : Int) 2 = some (numB ((b.drop at_).take 2), 0) := rget_eq (n := 2) (by omega) (by omega) hb hl h
  exact rsg_loop (m := 2) rfl (by omega) (by omega) hg (by omega) (by show _ < (65536 : Int); omega)
theorem rgets3 {b : List Int} {at_ : Nat} (hb : oct b) (hl : b.length ≤ 4294967296) (h : at_ + 3 ≤ b.length) : ref01_Signed none b at_ 3 = some (sg3 (numB ((b.drop at_).take 3)), 0) := by
  have hn := numB_bd ((b.drop at_).take 3) ((hb.drop at_).take 3)
  rw [List.length_take, List.length_drop, show min 3 (b.length - at_) = 3 by omega] at hn
  have hg : ref01_Get none b (at_ : Int) 3 = some (numB ((b.drop at_).take 3), 0) := rget_eq (n := 3) (by omega) (by omega) hb hl h
  exact rsg_loop (m := 3) rfl (by omega) (by omega) hg (by omega) (by show _ < (16777216 : Int); omega)

/-! what a chunk tells -/
theorem rtold2 {c : Int} {most : Nat} (h0 : 0 ≤ c) (h1 : c < 32768) (hm : most ≤ 100000) : ref18_Told_l2 none c (most : Int) [] 0 = some (List.replicate (min (c % 8192).toNat most) (c / 8192)) := by
  unfold ref18_Told_l2
  have := loop_seq (step := fun (s : List Int × Int) => ref18_Told_s2 none c (most : Int) s.1 s.2) (r := List.replicate (min (c % 8192).toNat most) (c / 8192)) (fun i => (List.replicate i (c / 8192), (i : Int))) (min (c % 8192).toNat most) (fun i hi => by
    show ref18_Told_s2 none c (most : Int) _ (i : Int) = _
    unfold ref18_Told_s2
    rw [w_i64 (n := c) (by omega) (by omega), dv_rem h0, dv_quo h0, w_i64 (by omega) (by omega), if_pos (by rw [cm_lss, cm_lss]; simp; omega), bnd (app_some (by simp; omega)), ar_add, w_i64 (by omega) (by omega), ← List.replicate_succ']
    rfl) (by
    show ref18_Told_s2 none c (most : Int) _ _ = _
    unfold ref18_Told_s2 ref18_Told_j1
    rw [w_i64 (n := c) (by omega) (by omega), dv_rem h0, if_neg (by rw [cm_lss, cm_lss]; simp; omega)]; rfl)
  simpa using this

theorem digs_len (B n : Nat) (c : Int) : (digs B n c).length = n := by simp [digs]
theorem digs_get (B n : Nat) (c : Int) (i : Nat) (hi : i < n) : (digs B n c)[i]'(by rw [digs_len]; exact hi) = c / (B : Int) ^ (n - 1 - i) % B := by simp [digs]

theorem rtold3 {c : Int} {most : Nat} (h0 : 0 ≤ c) (h1 : c ≤ 65535) (hm : most ≤ 100000) : ref18_Told_l3 none c (most : Int) [] 8192 0 = some ((digs 2 14 c).take most) := by
  unfold ref18_Told_l3
  have hdl := digs_len 2 14 c
  have hend : (digs 2 14 c).take (min 14 most) = (digs 2 14 c).take most := by
    by_cases h : most ≤ 14
    · rw [Nat.min_eq_right h]
    · rw [Nat.min_eq_left (by omega), List.take_of_length_le (by omega), List.take_of_length_le (by omega)]
  have := loop_seq (step := fun (s : List Int × Int × Int) => ref18_Told_s3 none c (most : Int) s.1 s.2.1 s.2.2) (r := (digs 2 14 c).take most) (fun i => ((digs 2 14 c).take i, ((8192 / 2 ^ i : Nat) : Int), (i : Int))) (min 14 most) (fun i hi => by
    show ref18_Told_s3 none c (most : Int) _ _ (i : Int) = _
    have hi14 : i < 14 := by omega
    have hpow : (8192 / 2 ^ i : Nat) = 2 ^ (13 - i) := by
      have : ∀ j : Fin 14, (8192 / 2 ^ j.val : Nat) = 2 ^ (13 - j.val) := by decide
      exact this ⟨i, hi14⟩
    have hnext : (8192 / 2 ^ i : Nat) / 2 = 8192 / 2 ^ (i + 1) := by rw [Nat.pow_succ, Nat.div_div_eq_div_mul]
    have hp1 : 1 ≤ (2 : Nat) ^ (13 - i) := Nat.one_le_two_pow
    have hp2 : (2 : Nat) ^ (13 - i) ≤ 2 ^ 13 := Nat.pow_le_pow_right (by omega) (by omega)
    have hp3 : (2 : Nat) ^ 13 = 8192 := by decide
    have hc0 : 0 ≤ c / ((2 ^ (13 - i) : Nat) : Int) := Int.ediv_nonneg h0 (by omega)
    have hc1 : c / ((2 ^ (13 - i) : Nat) : Int) ≤ c := Int.ediv_le_self _ h0
    have hdig : c / ((2 ^ (13 - i) : Nat) : Int) % 2 = (digs 2 14 c)[i]'(by omega) := by
      rw [digs_get 2 14 c i hi14]
      rw [show (14 - 1 - i) = 13 - i by omega]
      congr 2
    rw [hpow] at hnext
    simp only [hpow]
    generalize (2 : Nat) ^ (13 - i) = P at hnext hp1 hp2 hc0 hc1 hdig ⊢
    rw [hp3] at hp2
    rw [← hnext]
    unfold ref18_Told_s3
    rw [w_i64 (n := c) (by omega) (by omega), if_pos (by rw [cm_lss, cm_lss]; simp; omega), dvO_nz (by omega), Option.bind_some, dv_quo h0, dv_quo (x := (P : Int)) (by omega)]
    rw [w_i64 (n := c / (P : Int)) (by omega) (by omega), dv_rem hc0, hdig]
    rw [bnd (app_some (by rw [List.length_take]; simp; omega)), ar_add, w_i64 (n := (i : Int) + 1) (by omega) (by omega), w_i64 (by omega) (by omega), ← take_snoc _ i (by omega)]
    rfl) (by
    show ref18_Told_s3 none c (most : Int) _ _ _ = _
    unfold ref18_Told_s3 ref18_Told_j1
    rw [if_neg (by rw [cm_lss, cm_lss]; simp; omega), hend]; rfl)
  simpa using this

theorem rtold4 {c : Int} {most : Nat} (h0 : 0 ≤ c) (h1 : c ≤ 65535) (hm : most ≤ 100000) : ref18_Told_l4 none c (most : Int) [] 4096 0 = some ((digs 4 7 c).take most) := by
  unfold ref18_Told_l4
  have hdl := digs_len 4 7 c
  have hend : (digs 4 7 c).take (min 7 most) = (digs 4 7 c).take most := by
    by_cases h : most ≤ 7
    · rw [Nat.min_eq_right h]
    · rw [Nat.min_eq_left (by omega), List.take_of_length_le (by omega), List.take_of_length_le (by omega)]
  have := loop_seq (step := fun (s : List Int × Int × Int) => ref18_Told_s4 none c (most : Int) s.1 s.2.1 s.2.2) (r := (digs 4 7 c).take most) (fun i => ((digs 4 7 c).take i, ((4096 / 4 ^ i : Nat) : Int), (i : Int))) (min 7 most) (fun i hi => by
    show ref18_Told_s4 none c (most : Int) _ _ (i : Int) = _
    have hi7 : i < 7 := by omega
    have hpow : (4096 / 4 ^ i : Nat) = 4 ^ (6 - i) := by
      have : ∀ j : Fin 7, (4096 / 4 ^ j.val : Nat) = 4 ^ (6 - j.val) := by decide
      exact this ⟨i, hi7⟩
    have hnext : (4096 / 4 ^ i : Nat) / 4 = 4096 / 4 ^ (i + 1) := by rw [Nat.pow_succ, Nat.div_div_eq_div_mul]
    have hp1 : 1 ≤ (4 : Nat) ^ (6 - i) := Nat.pos_of_ne_zero (by simp)
    have hp2 : (4 : Nat) ^ (6 - i) ≤ 4 ^ 6 := Nat.pow_le_pow_right (by omega) (by omega)
    have hp3 : (4 : Nat) ^ 6 = 4096 := by decide
    have hc0 : 0 ≤ c / ((4 ^ (6 - i) : Nat) : Int) := Int.ediv_nonneg h0 (by omega)
    have hc1 : c / ((4 ^ (6 - i) : Nat) : Int) ≤ c := Int.ediv_le_self _ h0
    have hdig : c / ((4 ^ (6 - i) : Nat) : Int) % 4 = (digs 4 7 c)[i]'(by omega) := by
      rw [digs_get 4 7 c i hi7]
      rw [show (7 - 1 - i) = 6 - i by omega]
      congr 2
    rw [hpow] at hnext
    simp only [hpow]
    generalize (4 : Nat) ^ (6 - i) = P at hnext hp1 hp2 hc0 hc1 hdig ⊢
    rw [hp3] at hp2
    rw [← hnext]
    unfold ref18_Told_s4
    rw [w_i64 (n := c) (by omega) (by omega), if_pos (by rw [cm_lss, cm_lss]; simp; omega), dvO_nz (by omega), Option.bind_some, dv_quo h0, dv_quo (x := (P : Int)) (by omega)]
    rw [w_i64 (n := c / (P : Int)) (by omega) (by omega), dv_rem hc0, hdig]
    rw [bnd (app_some (by rw [List.length_take]; simp; omega)), ar_add, w_i64 (n := (i : Int) + 1) (by omega) (by omega), w_i64 (by omega) (by omega), ← take_snoc _ i (by omega)]
    rfl) (by
    show ref18_Told_s4 none c (most : Int) _ _ _ = _
    unfold ref18_Told_s4 ref18_Told_j1
    rw [if_neg (by rw [cm_lss, cm_lss]; simp; omega), hend]; rfl)
  simpa using this

theorem rtold_eq {c : Int} {most : Nat} (h0 : 0 ≤ c) (h1 : c ≤ 65535) (hm : most ≤ 100000) : ref18_Told none c (most : Int) = some (toldS c most) := by
  unfold ref18_Told toldS
  rw [w_i64 (n := c) (by omega) (by omega), cm_lss, cm_lss]
  by_cases hc : c < 32768
  · rw [if_pos (by simpa using hc), if_pos hc, rtold2 h0 hc hm]
  · rw [if_neg (by simpa using hc), if_neg hc]
    by_cases hd : c < 49152
    · rw [if_pos (by simpa using hd), if_pos hd, rtold3 h0 h1 hm]
    · rw [if_neg (by simpa using hd), if_neg hd, rtold4 h0 h1 hm]

/-- reading chunks: is there a 3 in what one tells? -/
theorem rfind3 {out x : List Int} {i : Nat} (hx : x.length ≤ 100000) (ho : out.length ≤ 100000) (hi : i ≤ 1000000) : ref18_Read_l2 none out (i : Int) x 0 = some (if (3 : Int) ∈ x then .inr ([], 0, 6) else .inl (out ++ x, ((i + 1 : Nat) : Int))) := by
  unfold ref18_Read_l2
  have := find_loop (l := x) (step := fun s => ref18_Read_s2 none out (i : Int) x s) (p := fun y => decide (y = 3)) (hit := fun _ => (.inr ([], 0, 6) : (List Int × Int) ⊕ (List Int × Int × Int))) (miss := .inl (out ++ x, ((i + 1 : Nat) : Int))) (by
    show ref18_Read_s2 none out (i : Int) x _ = _
    unfold ref18_Read_s2
    rw [if_neg (by rw [cm_lss]; simp), bnd (app_some (by omega)), ar_add, w_i64 (by omega) (by omega)]; rfl) (fun j hj => by
    show ref18_Read_s2 none out (i : Int) x (j : Int) = _
    unfold ref18_Read_s2
    rw [if_pos (by rw [cm_lss]; simpa using hj), bnd (ix_some (n := j) rfl hj), cm_eql]
    by_cases h : x[j] = 3
    · rw [if_pos (by simpa using h), if_pos (by simpa using h)]; rfl
    · rw [if_neg (by simpa using h), if_neg (by simpa using h), ar_add, w_i64 (by omega) (by omega)]; rfl)
  rw [this]
  congr 1
  cases hf : x.findIdx? (fun y => decide (y = 3)) with
  | none =>
    rw [List.findIdx?_eq_none_iff] at hf
    rw [if_neg]
    intro h
    have := hf _ h
    simp at this
  | some j =>
    rw [List.findIdx?_eq_some_iff_getElem] at hf
    obtain ⟨hj, hp, _⟩ := hf
    rw [if_pos]
    have : x[j] = 3 := by simpa using hp
    exact this ▸ List.getElem_mem hj

theorem rread_loop {chunks : List Int} (hc : ∀ x, x ∈ chunks → 0 ≤ x ∧ x ≤ 65535) (hl : chunks.length ≤ 1000000) {count : Nat} (hcount : count ≤ 4000) : ∀ (m i : Nat) (out : List Int) (rem : Nat), i + m = chunks.length → 0 < rem → out.length + rem = count →
    loopG none (fun (s : List Int × Int) => ref18_Read_s1 none chunks (count : Int) s.1 s.2) (out, (i : Int)) = some (rdR out i (readT (chunks.drop i) rem))
  | 0, i, out, rem, hi, hr, ho => by
    refine (loop_inr (r := ([], 0, 2)) ?_).trans ?_
    · simp only [ref18_Read_s1, cm_lss, cm_geq, decide_eq_true_eq]
      rw [if_pos (by omega), if_pos (by omega)]; rfl
    · rw [List.drop_eq_nil_of_le (by omega)]; rfl
  | m + 1, i, out, rem, hi, hr, ho => by
    have hil : i < chunks.length := by omega
    have hd : chunks.drop i = chunks[i] :: chunks.drop (i + 1) := List.drop_eq_getElem_cons hil
    have hci := hc chunks[i] (List.getElem_mem hil)
    have hlen := told_len (c := chunks[i]) (most := rem)
    have hstep : ref18_Read_s1 none chunks (count : Int) out (i : Int) = some (if (3 : Int) ∈ toldS chunks[i] rem then .inr (([] : List Int), (0 : Int), (6 : Int)) else .inl (out ++ toldS chunks[i] rem, ((i + 1 : Nat) : Int))) := by
      simp only [ref18_Read_s1, cm_lss, cm_geq, decide_eq_true_eq]
      have er : ar .sub .i64 (count : Int) (out.length : Int) = (rem : Int) := by rw [ar_sub, w_i64 (by omega) (by omega)]; omega
      rw [if_pos (by omega), if_neg (by omega), bnd (ix_some rfl hil), er, bnd (rtold_eq hci.1 hci.2 (by omega)), rfind3 (by omega) (by omega) (by omega)]
    rw [hd, readT]
    by_cases h3 : (3 : Int) ∈ toldS chunks[i] rem
    · rw [if_pos h3] at hstep ⊢
      exact loop_inr hstep
    · rw [if_neg h3] at hstep ⊢
      refine (loop_inl hstep).trans ?_
      by_cases hq : (toldS chunks[i] rem).length = rem
      · rw [if_pos hq]
        refine (loop_inr (r := (out ++ toldS chunks[i] rem, ((i + 1 : Nat) : Int), 0)) ?_).trans ?_
        · simp only [ref18_Read_s1, cm_lss, decide_eq_true_eq]
          rw [if_neg (by rw [List.length_append]; omega)]; rfl
        · rfl
      · rw [if_neg hq]
        rw [rread_loop hc hl hcount m (i + 1) (out ++ toldS chunks[i] rem) (rem - (toldS chunks[i] rem).length) (by omega) (by omega) (by rw [List.length_append]; omega)]
        cases readT (chunks.drop (i + 1)) (rem - (toldS chunks[i] rem).length) with
        | error e => rfl
        | ok p =>
          obtain ⟨y, n⟩ := p
          simp only [rdR, List.append_assoc]
          congr 4; omega

theorem rread_eq {chunks : List Int} (hc : ∀ x, x ∈ chunks → 0 ≤ x ∧ x ≤ 65535) (hl : chunks.length ≤ 1000000) {count : Int} : ref18_Read none chunks count = some (rdR [] 0 (readC chunks count)) := by
  unfold ref18_Read readC
  by_cases h : count < 0 ∨ 4000 < count
  · rw [if_pos (by rw [cm_lss, cm_gtr]; simpa using h), if_pos h]; rfl
  · rw [if_neg (by rw [cm_lss, cm_gtr]; simpa using h), if_neg h]
    unfold ref18_Read_l1
    by_cases h0 : count = 0
    · rw [if_pos h0]
      refine (loop_inr (r := ([], 0, 0)) ?_).trans rfl
      simp only [ref18_Read_s1, cm_lss, decide_eq_true_eq]
      rw [if_neg (by simp; omega)]; rfl
    · rw [if_neg h0]
      have e : count = (count.toNat : Int) := by omega
      have := rread_loop hc hl (count := count.toNat) (by omega) chunks.length 0 [] count.toNat (by omega) (by omega) (by simp)
      rw [List.drop_zero] at this
      rw [e]
      exact this
end Xb

/-! The document's chunks, written; its telling. -/
namespace Xb
open Go

theorem headD_eq {l : List Int} (hn : 0 < l.length) : l.headD 0 = l[0] := by
  cases l with
  | nil => simp at hn
  | cons a l => rfl

theorem run_le (l : List Int) : runN l ≤ l.length := runN_le l

theorem run_get {l : List Int} {i : Nat} (hi : i < l.length) : i < runN l → l[i] = l.headD 0 := by
  intro h
  have h1 := take_run l
  have h2 : (l.take (runN l))[i]? = some l[i] := by
    rw [List.getElem?_take_of_lt h, List.getElem?_eq_getElem hi]
  rw [h1, List.getElem?_replicate, if_pos h] at h2
  exact (Option.some.inj h2).symm

theorem run_stop {l : List Int} (h : runN l < l.length) : l[runN l] ≠ l.headD 0 := by
  have key : ∀ (a : Int) (m : List Int) (h : (m.takeWhile (fun x => decide (x = a))).length < m.length), m[(m.takeWhile (fun x => decide (x = a))).length] ≠ a := by
    intro a m
    induction m with
    | nil => intro h; simp at h
    | cons x m ih =>
      intro h
      by_cases hx : x = a
      · subst hx
        simp only [List.takeWhile_cons, decide_true, if_true, List.length_cons] at h ⊢
        simp only [List.getElem_cons_succ]
        exact ih (by omega)
      · simp [hx]
  exact key _ _ h

/-- how far alike ones go, at most 8191 -/
theorem rrun_loop {l out : List Int} {p : Nat} (hp : p < l.length) (hl : l.length ≤ 100000) : ∀ (m k : Nat), k + m = min (runN (l.drop p)) 8191 → 1 ≤ k →
    loopG none (fun (s : Int) => ref18_Write_s2 none l out (p : Int) s) (k : Int) = ref18_Write_l2 none l out (p : Int) ((min (runN (l.drop p)) 8191 : Nat) : Int)
  | 0, k, hk, _ => by
    rw [show k = min (runN (l.drop p)) 8191 by omega]; rfl
  | m + 1, k, hk, h1 => by
    have h2 := rrun_loop (out := out) hp hl m (k + 1) (by omega) (by omega)
    have hr := runN_le (l.drop p)
    rw [List.length_drop] at hr
    have hpk : p + k < l.length := by omega
    have hg := run_get (l := l.drop p) (i := k) (by rw [List.length_drop]; omega) (by omega)
    rw [List.getElem_drop, headD_eq (by rw [List.length_drop]; omega), List.getElem_drop] at hg
    have e1 : ar .add .i64 (p : Int) (k : Int) = ((p + k : Nat) : Int) := by rw [ar_add, w_i64 (by omega) (by omega)]; rfl
    have step : ref18_Write_s2 none l out (p : Int) (k : Int) = some (.inl ((k + 1 : Nat) : Int)) := by
      unfold ref18_Write_s2
      have c1 : cm .lss ((p + k : Nat) : Int) (l.length : Int) = true := by rw [cm_lss]; exact decide_eq_true (by omega)
      rw [e1]
      simp only [c1, gTT, Bool.true_and]
      rw [bnd (ix_some (n := p + k) rfl hpk), bnd (ix_some (n := p) rfl hp), if_pos (by rw [cm_eql, cm_lss, hg]; simp; omega), ar_add, w_i64 (by omega) (by omega)]
      rfl
    rw [loop_inl step]
    exact h2

theorem padTo_lt {n i : Nat} {m : List Int} (h : i < m.length) (hi : i < (padTo n m).length) : (padTo n m)[i] = m[i] := List.getElem_append_left h
theorem padTo_ge {n i : Nat} {m : List Int} (h : m.length ≤ i) (hi : i < (padTo n m).length) : (padTo n m)[i] = 0 := (List.getElem_append_right h).trans (List.getElem_replicate ..)
theorem rpack {l out : List Int} {p B n : Nat} {lead : Int} (hB : (B = 2 ∧ n = 14 ∧ lead = 2) ∨ (B = 4 ∧ n = 7 ∧ lead = 3)) (hv : ∀ x, x ∈ (l.drop p).take n → 0 ≤ x ∧ x < B) (hp : p ≤ l.length) (hl : l.length ≤ 100000) (ho : out.length ≤ 1000000) :
    ref18_Write_j4 none l out (p : Int) (n : Int) (B : Int) lead = some (.inl (out ++ [valB B lead (padTo n ((l.drop p).take n))], ((p + n : Nat) : Int))) := by
  unfold ref18_Write_j4 ref18_Write_l5
  have hpl : (padTo n ((l.drop p).take n)).length = n := padTo_len (by rw [List.length_take]; omega)
  have hpv : ∀ x, x ∈ padTo n ((l.drop p).take n) → 0 ≤ x ∧ x < B := by
    intro x hx
    unfold padTo at hx
    rcases List.mem_append.1 hx with hx | hx
    · exact hv x hx
    · rw [List.eq_of_mem_replicate hx]; omega
  have hbd : ∀ i, i ≤ n → lead * (B : Int) ^ i ≤ valB B lead ((padTo n ((l.drop p).take n)).take i) ∧ valB B lead ((padTo n ((l.drop p).take n)).take i) < (lead + 1) * (B : Int) ^ i := by
    intro i hi
    have := valB_bound (B := (B : Int)) (by omega) (l := (padTo n ((l.drop p).take n)).take i) (a := lead) (fun x hx => hpv x (List.mem_of_mem_take hx))
    rw [List.length_take, hpl, Nat.min_eq_left hi] at this
    exact this
  have hsmall : ∀ i, i ≤ n → 0 ≤ valB B lead ((padTo n ((l.drop p).take n)).take i) ∧ valB B lead ((padTo n ((l.drop p).take n)).take i) ≤ 65535 := by
    intro i hi
    have h := hbd i hi
    rcases hB with ⟨rfl, rfl, rfl⟩ | ⟨rfl, rfl, rfl⟩
    · have : ∀ j : Fin 15, 0 ≤ (2 : Int) * ((2 : Nat) : Int) ^ j.val ∧ ((2 : Int) + 1) * ((2 : Nat) : Int) ^ j.val ≤ 65536 := by decide
      have := this ⟨i, by omega⟩
      simp only at this
      omega
    · have : ∀ j : Fin 8, 0 ≤ (3 : Int) * ((4 : Nat) : Int) ^ j.val ∧ ((3 : Int) + 1) * ((4 : Nat) : Int) ^ j.val ≤ 65536 := by decide
      have := this ⟨i, by omega⟩
      simp only at this
      omega
  have hn : n ≤ 14 := by omega
  have hB4 : B ≤ 4 := by omega
  have e0 : ar .add .i64 (p : Int) (n : Int) = ((p + n : Nat) : Int) := by rw [ar_add, w_i64 (by omega) (by omega)]; rfl
  have := loop_seq (step := fun (s : Int × Int) => ref18_Write_s5 none l out (p : Int) (n : Int) (B : Int) s.1 s.2) (r := (.inl (out ++ [valB B lead (padTo n ((l.drop p).take n))], ((p + n : Nat) : Int)) : (List Int × Int) ⊕ List Int)) (fun i => (valB B lead ((padTo n ((l.drop p).take n)).take i), ((p + i : Nat) : Int))) n (fun i hi => by
    show ref18_Write_s5 none l out (p : Int) (n : Int) (B : Int) _ _ = _
    have h1 := hsmall i (by omega)
    have h2 := hsmall (i + 1) (by omega)
    have hil : i < (padTo n ((l.drop p).take n)).length := by omega
    have hd := hpv _ (List.getElem_mem hil)
    have hval : valB B lead ((padTo n ((l.drop p).take n)).take (i + 1)) = valB B lead ((padTo n ((l.drop p).take n)).take i) * B + (padTo n ((l.drop p).take n))[i] := by
      rw [take_snoc _ i hil, valB_append]; rfl
    have hm1 : 0 ≤ valB B lead ((padTo n ((l.drop p).take n)).take i) * (B : Int) := Int.mul_nonneg h1.1 (by omega)
    unfold ref18_Write_s5 ref18_Write_j6
    have ei : ar .add .i64 ((p + i : Nat) : Int) 1 = ((p + (i + 1) : Nat) : Int) := by rw [ar_add, w_i64 (by omega) (by omega)]; omega
    have em : ar .mul .i64 (B : Int) (valB B lead ((padTo n ((l.drop p).take n)).take i)) = valB B lead ((padTo n ((l.drop p).take n)).take i) * B := by
      rw [ar_mul, Int.mul_comm, w_i64 (by omega) (by omega)]
    rw [e0, if_pos (by rw [cm_lss]; simp; omega), em, ei]
    by_cases hpi : p + i < l.length
    · have hgi : (padTo n ((l.drop p).take n))[i] = l[p + i] := by
        have : i < ((l.drop p).take n).length := by rw [List.length_take, List.length_drop]; omega
        rw [padTo_lt this, List.getElem_take, List.getElem_drop]
      rw [if_pos (by rw [cm_lss]; simp; omega), bnd (ix_some (n := p + i) rfl hpi), ← hgi, ar_add, w_i64 (by omega) (by omega), hval]
    · have hgi : (padTo n ((l.drop p).take n))[i] = 0 := by
        have : ((l.drop p).take n).length ≤ i := by rw [List.length_take, List.length_drop]; omega
        exact padTo_ge this _
      rw [if_neg (by rw [cm_lss]; simp; omega), hval, hgi, Int.add_zero]) (by
    show ref18_Write_s5 none l out (p : Int) (n : Int) (B : Int) _ _ = _
    have h1 := hsmall n (by omega)
    rw [List.take_of_length_le (by omega)] at h1 ⊢
    unfold ref18_Write_s5
    rw [e0, if_neg (by rw [cm_lss]; simp), w_u16 h1.1 h1.2, bnd (app_some (by simp; omega))]; rfl)
  simpa [valB] using this

theorem rall {l out : List Int} {p : Nat} (hl : l.length ≤ 100000) (hv : vl l) : ref18_Write_l3 none l out (p : Int) true (p : Int) = if (2 : Int) ∈ (l.drop p).take 14 then ref18_Write_j4 none l out (p : Int) 7 4 3 else ref18_Write_j4 none l out (p : Int) 14 2 2 := by
  by_cases hp : l.length ≤ p
  · unfold ref18_Write_l3
    rw [loopG_eq]
    have hd : l.drop p = [] := List.drop_of_length_le hp
    rw [hd]
    have hs : ref18_Write_s3 none l out (p : Int) true (p : Int) = Option.map Sum.inr (ref18_Write_j4 none l out (p : Int) 14 2 2) := by
      unfold ref18_Write_s3
      rw [if_neg (by rw [cm_lss, cm_lss]; simp; omega), if_pos rfl]
    simp only [hs]
    cases ref18_Write_j4 none l out (p : Int) 14 2 2 <;> simp
  · have key : ∀ (m i : Nat), i + m = ((l.drop p).take 14).length → 
        loopG none (fun (s : Bool × Int) => ref18_Write_s3 none l out (p : Int) s.1 s.2) (decide (¬ (2 : Int) ∈ ((l.drop p).take 14).take i), ((p + i : Nat) : Int)) = if (2 : Int) ∈ (l.drop p).take 14 then ref18_Write_j4 none l out (p : Int) 7 4 3 else ref18_Write_j4 none l out (p : Int) 14 2 2 := by
      intro m
      have hlen : ((l.drop p).take 14).length = min 14 (l.length - p) := by rw [List.length_take, List.length_drop]
      have e0 : p ≤ 100000 → ar .add .i64 (p : Int) 14 = ((p + 14 : Nat) : Int) := fun h => by rw [ar_add, w_i64 (by omega) (by omega)]; rfl
      have e0 := e0 (by omega)
      induction m with
      | zero =>
        intro i hi
        rw [loopG_eq]
        have hti : ((l.drop p).take 14).take i = (l.drop p).take 14 := List.take_of_length_le (by omega)
        rw [hti]
        have hs : ref18_Write_s3 none l out (p : Int) (decide (¬ (2 : Int) ∈ (l.drop p).take 14)) ((p + i : Nat) : Int) = Option.map Sum.inr (if (2 : Int) ∈ (l.drop p).take 14 then ref18_Write_j4 none l out (p : Int) 7 4 3 else ref18_Write_j4 none l out (p : Int) 14 2 2) := by
          unfold ref18_Write_s3
          rw [e0, if_neg (by rw [cm_lss, cm_lss]; simp; omega)]
          by_cases h2 : (2 : Int) ∈ (l.drop p).take 14
          · rw [if_neg (by simpa using h2), if_pos h2]
          · rw [if_pos (by simpa using h2), if_neg h2]
        simp only [hs]
        cases (if (2 : Int) ∈ (l.drop p).take 14 then ref18_Write_j4 none l out (p : Int) 7 4 3 else ref18_Write_j4 none l out (p : Int) 14 2 2) <;> simp
      | succ m ih =>
        intro i hi
        have hil : i < ((l.drop p).take 14).length := by omega
        have hpi : p + i < l.length := by omega
        have hx := hv _ (List.getElem_mem hpi)
        have hgi : ((l.drop p).take 14)[i] = l[p + i] := by rw [List.getElem_take, List.getElem_drop]
        have step : ref18_Write_s3 none l out (p : Int) (decide (¬ (2 : Int) ∈ ((l.drop p).take 14).take i)) ((p + i : Nat) : Int) = some (.inl (decide (¬ (2 : Int) ∈ ((l.drop p).take 14).take (i + 1)), ((p + (i + 1) : Nat) : Int))) := by
          unfold ref18_Write_s3
          have ei : ar .add .i64 ((p + i : Nat) : Int) 1 = ((p + (i + 1) : Nat) : Int) := by rw [ar_add, w_i64 (by omega) (by omega)]; omega
          rw [e0, if_pos (by rw [cm_lss, cm_lss]; simp; omega), ei, take_snoc _ i hil, hgi]
          by_cases h2 : (2 : Int) ∈ ((l.drop p).take 14).take i
          · have hf : decide (¬ (2 : Int) ∈ ((l.drop p).take 14).take i) = false := decide_eq_false fun h => h h2
            have hf2 : decide (¬ (2 : Int) ∈ ((l.drop p).take 14).take i ++ [l[p + i]]) = false := decide_eq_false fun h => h (List.mem_append_left _ h2)
            rw [hf, hf2]
            simp only [gTF, Option.bind_some, Bool.false_and]
          · have hf : decide (¬ (2 : Int) ∈ ((l.drop p).take 14).take i) = true := decide_eq_true h2
            rw [hf]
            simp only [gTT, Bool.true_and]
            rw [bnd (ix_some (n := p + i) rfl hpi), cm_lss]
            congr 3
            refine decide_eq_decide.2 ?_
            simp only [List.mem_append, h2, false_or, List.mem_singleton]
            omega
        rw [loop_inl step]
        exact ih (i + 1) (by omega)
    have := key ((l.drop p).take 14).length 0 (by omega)
    unfold ref18_Write_l3
    simpa using this

theorem rstep {l out : List Int} {p : Nat} (hp : p < l.length) (hl : l.length ≤ 100000) (ho : out.length ≤ 1000000) (hv : vl l) :
    ∃ q : Nat, ref18_Write_s1 none l out (p : Int) = some (.inl (out ++ [(firstS (l.drop p)).1], (q : Int))) ∧ p < q ∧ q ≤ l.length + 14 ∧ l.drop q = (l.drop p).drop (firstS (l.drop p)).2 := by
  have hne : l.drop p ≠ [] := by
    intro h
    have := congrArg List.length h
    rw [List.length_drop, List.length_nil] at this; omega
  have hvd : vl (l.drop p) := hv.sub fun x hx => List.mem_of_mem_drop hx
  have hrl := runN_le (l.drop p)
  have hpos := firstS_pos hne
  have hr1 : 1 ≤ runN (l.drop p) := by
    rw [List.drop_eq_getElem_cons hp]
    show 1 ≤ ((l[p] :: l.drop (p + 1)).takeWhile fun x => decide (x = l[p])).length
    rw [List.takeWhile_cons, if_pos (by simp)]
    simp
  have hdl : (l.drop p).length = l.length - p := List.length_drop
  have h0 : ref18_Write_s1 none l out (p : Int) = ref18_Write_l2 none l out (p : Int) ((min (runN (l.drop p)) 8191 : Nat) : Int) := by
    unfold ref18_Write_s1
    rw [if_pos (by rw [cm_lss]; simpa using hp)]
    exact rrun_loop (out := out) hp hl (min (runN (l.drop p)) 8191 - 1) 1 (by omega) (by omega)
  rw [h0]
  have hk1 : 1 ≤ min (runN (l.drop p)) 8191 := by omega
  have hstop : ref18_Write_l2 none l out (p : Int) ((min (runN (l.drop p)) 8191 : Nat) : Int) = (if ((cm .geq ((min (runN (l.drop p)) 8191 : Nat) : Int) 14) || (cm .eql (ar .add .i64 (p : Int) ((min (runN (l.drop p)) 8191 : Nat) : Int)) (l.length : Int))) then
    Option.bind (ix l (p : Int)) fun x6 =>
      Option.bind (app out [(IntKind.u16.wrap (ar .add .i64 (ar .mul .i64 8192 x6) ((min (runN (l.drop p)) 8191 : Nat) : Int)))]) fun x7 =>
      some (Sum.inl (x7, (ar .add .i64 (p : Int) ((min (runN (l.drop p)) 8191 : Nat) : Int))))
  else
    ref18_Write_l3 none l out (p : Int) true (p : Int)) := by
    generalize hk : min (runN (l.drop p)) 8191 = k at *
    unfold ref18_Write_l2
    rw [loopG_eq]
    have e1 : ar .add .i64 (p : Int) (k : Int) = ((p + k : Nat) : Int) := by rw [ar_add, w_i64 (by omega) (by omega)]; rfl
    have hs : ref18_Write_s2 none l out (p : Int) (k : Int) = Option.map Sum.inr (if ((cm .geq (k : Int) 14) || (cm .eql (ar .add .i64 (p : Int) (k : Int)) (l.length : Int))) then
    Option.bind (ix l (p : Int)) fun x6 =>
      Option.bind (app out [(IntKind.u16.wrap (ar .add .i64 (ar .mul .i64 8192 x6) (k : Int)))]) fun x7 =>
      some (Sum.inl (x7, (ar .add .i64 (p : Int) (k : Int))))
  else
    ref18_Write_l3 none l out (p : Int) true (p : Int)) := by
      unfold ref18_Write_s2
      rw [e1]
      by_cases hpk : p + k < l.length
      · have c1 : cm .lss ((p + k : Nat) : Int) (l.length : Int) = true := by rw [cm_lss]; exact decide_eq_true (by omega)
        simp only [c1, gTT, Bool.true_and]
        rw [bnd (ix_some (n := p + k) rfl hpk), bnd (ix_some (n := p) rfl hp), if_neg]
        intro hc
        rw [cm_eql, cm_lss] at hc
        simp only [Bool.and_eq_true, decide_eq_true_eq] at hc
        have hkr : k = runN (l.drop p) := by omega
        have := run_stop (l := l.drop p) (by omega)
        rw [List.getElem_drop, headD_eq (by omega), List.getElem_drop] at this
        simp only [← hkr, Nat.add_zero] at this
        exact this hc.1
      · have c1 : cm .lss ((p + k : Nat) : Int) (l.length : Int) = false := by rw [cm_lss]; exact decide_eq_false (by omega)
        simp only [c1, gTF, Option.bind_some, Bool.false_and]
        rw [if_neg (by decide)]
    simp only [hs]
    generalize (if ((cm .geq (k : Int) 14) || (cm .eql (ar .add .i64 (p : Int) (k : Int)) (l.length : Int))) then
    Option.bind (ix l (p : Int)) fun x6 =>
      Option.bind (app out [(IntKind.u16.wrap (ar .add .i64 (ar .mul .i64 8192 x6) (k : Int)))]) fun x7 =>
      some (Sum.inl (x7, (ar .add .i64 (p : Int) (k : Int))))
  else
    ref18_Write_l3 none l out (p : Int) true (p : Int)) = t
    cases t <;> simp
  rw [hstop]
  have e1 : ar .add .i64 (p : Int) ((min (runN (l.drop p)) 8191 : Nat) : Int) = ((p + min (runN (l.drop p)) 8191 : Nat) : Int) := by rw [ar_add, w_i64 (by omega) (by omega)]; rfl
  rw [e1]
  by_cases hc : 14 ≤ runN (l.drop p) ∨ runN (l.drop p) = (l.drop p).length
  · have hx := hv _ (List.getElem_mem hp)
    have hf : firstS (l.drop p) = ((l.drop p).headD 0 * 8192 + (min (runN (l.drop p)) 8191 : Nat), min (runN (l.drop p)) 8191) := by unfold firstS; rw [if_pos hc]
    have hh : (l.drop p).headD 0 = l[p] := by rw [headD_eq (by omega), List.getElem_drop]; rfl
    refine ⟨p + min (runN (l.drop p)) 8191, ?_, by omega, by omega, by rw [hf, List.drop_drop]⟩
    rw [if_pos (by rw [cm_geq, cm_eql]; simp only [Bool.or_eq_true, decide_eq_true_eq]; omega), bnd (ix_some (n := p) rfl hp), hf, hh]
    rw [ar_mul, w_i64 (n := 8192 * l[p]) (by omega) (by omega), ar_add, w_i64 (n := 8192 * l[p] + _) (by omega) (by omega), w_u16 (by omega) (by omega), bnd (app_some (by simp; omega)), Int.mul_comm 8192]
  · rw [if_neg (by rw [cm_geq, cm_eql]; simp only [Bool.or_eq_true, decide_eq_true_eq]; omega), rall hl hv]
    by_cases h2 : (2 : Int) ∈ (l.drop p).take 14
    · have hf : firstS (l.drop p) = (valB 4 3 (padTo 7 ((l.drop p).take 7)), min (l.drop p).length 7) := by unfold firstS; rw [if_neg hc, if_pos h2]
      refine ⟨p + 7, ?_, by omega, by omega, ?_⟩
      · rw [if_pos h2, hf]
        exact rpack (B := 4) (n := 7) (.inr ⟨rfl, rfl, rfl⟩) (fun x hx => by have := hvd x (List.mem_of_mem_take hx); omega) (by omega) hl ho
      · rw [hf, List.drop_drop]
        show l.drop (p + 7) = l.drop (p + min (l.drop p).length 7)
        by_cases h7 : 7 ≤ (l.drop p).length
        · rw [Nat.min_eq_right h7]
        · rw [List.drop_of_length_le (by omega), List.drop_of_length_le (by omega)]
    · have hf : firstS (l.drop p) = (valB 2 2 (padTo 14 ((l.drop p).take 14)), min (l.drop p).length 14) := by unfold firstS; rw [if_neg hc, if_neg h2]
      refine ⟨p + 14, ?_, by omega, by omega, ?_⟩
      · rw [if_neg h2, hf]
        exact rpack (B := 2) (n := 14) (.inl ⟨rfl, rfl, rfl⟩) (fun x hx => by
          have := hvd x (List.mem_of_mem_take hx)
          have : x ≠ 2 := fun e => h2 (e ▸ hx)
          omega) (by omega) hl ho
      · rw [hf, List.drop_drop]
        show l.drop (p + 14) = l.drop (p + min (l.drop p).length 14)
        by_cases h7 : 14 ≤ (l.drop p).length
        · rw [Nat.min_eq_right h7]
        · rw [List.drop_of_length_le (by omega), List.drop_of_length_le (by omega)]

theorem rwrite_loop {l : List Int} (hl : l.length ≤ 100000) (hv : vl l) : ∀ (n p : Nat) (out : List Int), l.length < p + n → out.length + n ≤ 1000000 → p ≤ l.length + 14 →
    loopG none (fun (s : List Int × Int) => ref18_Write_s1 none l s.1 s.2) (out, (p : Int)) = some (out ++ writeS (l.drop p))
  | 0, p, out, h, _, _ => by
    refine (loop_inr (r := out) ?_).trans ?_
    · show ref18_Write_s1 none l out (p : Int) = _
      unfold ref18_Write_s1
      rw [if_neg (by rw [cm_lss]; simp; omega)]; rfl
    · rw [List.drop_of_length_le (by omega), writeS_nil, List.append_nil]
  | n + 1, p, out, h, ho, hp14 => by
    by_cases hp : p < l.length
    · obtain ⟨q, h1, h2, h3, h4⟩ := rstep (out := out) hp hl (by omega) hv
      refine (loop_inl (s' := (out ++ [(firstS (l.drop p)).1], (q : Int))) h1).trans ?_
      rw [rwrite_loop hl hv n q _ (by omega) (by simp; omega) h3, h4]
      have hne : l.drop p ≠ [] := by
        intro h
        have := congrArg List.length h
        rw [List.length_drop, List.length_nil] at this; omega
      rw [writeS_cons hne]
      simp
    · refine (loop_inr (r := out) ?_).trans ?_
      · show ref18_Write_s1 none l out (p : Int) = _
        unfold ref18_Write_s1
        rw [if_neg (by rw [cm_lss]; simp; omega)]; rfl
      · rw [List.drop_of_length_le (by omega), writeS_nil, List.append_nil]

theorem rwrite_eq {l : List Int} (hl : l.length ≤ 10000) (hv : vl l) : ref18_Write none l = some (writeS l) := by
  unfold ref18_Write ref18_Write_l1
  have := rwrite_loop (by omega) hv (l.length + 1) 0 [] (by omega) (by simp; omega) (by omega)
  simpa using this
end Xb

/-! The document's telling. -/
namespace Xb
open Go

theorem rright_eq {a : Arrive} (hl : a.seen.length ≤ 1000000) : ref19_Right none a = some (decide (RightA a)) := by
  unfold ref19_Right
  by_cases hc : -8388608 ≤ a.time ∧ a.time ≤ 8388607 ∧ a.seen.length ≤ 4000
  · rw [if_neg (by rw [cm_lss, cm_gtr, cm_gtr]; simp only [Bool.or_eq_true, decide_eq_true_eq]; omega)]
    unfold ref19_Right_l1
    have := find_loop (l := a.seen) (step := fun s => ref19_Right_s1 none a s) (p := fun s => !decide (FitS s)) (hit := fun _ => false) (miss := true) (by
      show ref19_Right_s1 none a _ = _
      unfold ref19_Right_s1
      rw [if_neg (by rw [cm_lss]; simp)]; rfl) (fun i hi => by
      show ref19_Right_s1 none a (i : Int) = _
      unfold ref19_Right_s1 ref19_Right_j2 ref19_Right_j3
      rw [if_pos (by rw [cm_lss]; simpa using hi), bnd (ix_some (n := i) rfl hi), ar_add, w_i64 (by omega) (by omega)]
      generalize a.seen[i] = s
      simp only [cm_eql, cm_lss, cm_gtr, decide_eq_true_eq, Bool.or_eq_true]
      by_cases hf : FitS s
      · rw [decide_eq_true hf]
        unfold FitS at hf
        by_cases h1 : s.what = 1
        · rw [if_pos h1, if_neg (by omega), if_neg (by omega)]; rfl
        · rw [if_neg h1]
          by_cases h2 : s.what = 2
          · rw [if_pos h2, if_neg (by omega)]; rfl
          · rw [if_neg h2, if_neg (by omega)]; rfl
      · rw [decide_eq_false hf]
        unfold FitS at hf
        by_cases h1 : s.what = 1
        · rw [if_pos h1, if_neg (by omega), if_pos (by omega)]; rfl
        · rw [if_neg h1]
          by_cases h2 : s.what = 2
          · rw [if_pos h2, if_pos (by omega)]; rfl
          · rw [if_neg h2, if_pos (by omega)]; rfl)
    rw [this]
    congr 1
    cases hf : a.seen.findIdx? (fun s => !decide (FitS s)) with
    | none =>
      rw [List.findIdx?_eq_none_iff] at hf
      exact (decide_eq_true (show RightA a from ⟨hc.1, hc.2.1, hc.2.2, fun s hs => by simpa using hf s hs⟩)).symm
    | some i =>
      rw [List.findIdx?_eq_some_iff_getElem] at hf
      obtain ⟨hi, hp, _⟩ := hf
      refine (decide_eq_false fun h => ?_).symm
      have := h.2.2.2 _ (List.getElem_mem hi)
      simp [this] at hp
  · rw [if_pos (by rw [cm_lss, cm_gtr, cm_gtr]; simp only [Bool.or_eq_true, decide_eq_true_eq]; omega)]
    exact congrArg some (decide_eq_false fun h => hc ⟨h.1, h.2.1, h.2.2.1⟩).symm

theorem be4_drop {d : Int} : (beN 4 (d % 4294967296)).drop 2 = beN 2 (d % 65536) := by
  simp only [beN, List.nil_append, List.cons_append, List.drop_succ_cons, List.drop_zero]
  have e1 : d % 4294967296 / 256 % 256 = d % 65536 / 256 % 256 := by omega
  have e2 : d % 4294967296 % 256 = d % 65536 % 256 := by omega
  rw [e1, e2]
theorem be4_drop1 {d : Int} (h0 : 0 ≤ d) (h1 : d ≤ 255) : (beN 4 (d % 4294967296)).drop 3 = [d] := by
  simp only [beN, List.nil_append, List.cons_append, List.drop_succ_cons, List.drop_zero]
  have e2 : d % 4294967296 % 256 = d := by omega
  rw [e2]

theorem rw_l3 {v : List Int} {c w : List Int} (hv : v.length ≤ 10000) (hc : c.length ≤ 10000) (hw : w.length ≤ 10000) (hcs : ∀ x, x ∈ c → 0 ≤ x ∧ x ≤ 65535) :
    ref19_Write_l3 none v c w 0 = some (w ++ numsL c ++ v ++ List.replicate (fillN (w ++ numsL c ++ v).length) 0) := by
  unfold ref19_Write_l3
  have := loop_seq (step := fun (s : List Int × Int) => ref19_Write_s3 none v c s.1 s.2) (r := w ++ numsL c ++ v ++ List.replicate (fillN (w ++ numsL c ++ v).length) 0) (fun i => (w ++ numsL (c.take i), (i : Int))) c.length (fun i hi => by
    show ref19_Write_s3 none v c _ (i : Int) = _
    have hx := hcs _ (List.getElem_mem hi)
    have h1 := numsL_len (c.take i)
    rw [List.length_take] at h1
    unfold ref19_Write_s3
    have hm : ref01_Must none c[i] 2 = some (beN 2 c[i]) := rmust_eq (n := 2) (by omega) (by omega) (by omega) (by omega) (by omega)
    rw [if_pos (by rw [cm_lss]; simpa using hi), bnd (ix_some (n := i) rfl hi), w_u64 (by omega) (by omega), bnd hm, bnd (app_some (by rw [List.length_append, beN_len]; omega)), ar_add, w_i64 (by omega) (by omega), take_snoc _ i hi, numsL_snoc, List.append_assoc]
    rfl) (by
    show ref19_Write_s3 none v c _ _ = _
    have h1 := numsL_len c
    unfold ref19_Write_s3
    rw [if_neg (by rw [cm_lss]; simp), List.take_length, bnd (app_some (by rw [List.length_append]; omega)), bnd (refFill_eq (by rw [List.length_append, List.length_append]; omega))]; rfl)
  simpa [numsL] using this

theorem rwriteA_eq {a : Arrive} (hg : GoodA a) (hr : RightA a) : ref19_Write none a = some (writeA a) := by
  have hc := hr.2.2.1
  have hb0 := hg.b0; have hb1 := hg.b1
  have hw := writeS_len' (whatsL a.seen)
  have hwl : (whatsL a.seen).length = a.seen.length := by simp [whatsL]
  have m1 : ref01_Must none a.base 2 = some (beN 2 a.base) := rmust_eq (n := 2) (by omega) (by omega) (by omega) (by omega) (by omega)
  have m2 : ref01_Must none (a.seen.length : Int) 2 = some (beN 2 (a.seen.length : Int)) := rmust_eq (n := 2) (by omega) (by omega) (by omega) (by omega) (by omega)
  unfold ref19_Write
  rw [w_u64 (by omega) (by omega), bnd m1, w_u64 (by omega) (by omega), bnd m2, bnd (app_some (by simp [beN_len])), bnd (rputs3 hr.1 hr.2.1), bnd (app_some (by simp [beN_len])), bnd (app_some (by simp [beN_len]))]
  show ref19_Write_l1 none (hdA a) [] [] 0 a = _
  unfold ref19_Write_l1
  have := loop_seq (step := fun (s : List Int × List Int × Int × Arrive) => ref19_Write_s1 none (hdA a) s.1 s.2.1 s.2.2.1 s.2.2.2) (r := writeA a) (fun i => (whatsL (a.seen.take i), dltL (a.seen.take i), (i : Int), a)) a.seen.length (fun i hi => by
    show ref19_Write_s1 none (hdA a) (whatsL (a.seen.take i)) (dltL (a.seen.take i)) (i : Int) a = _
    have hf := hr.2.2.2 _ (List.getElem_mem hi)
    have h1 := dltL_len (l := a.seen.take i) fun s hs => hr.2.2.2 s (List.mem_of_mem_take hs)
    have h2 := dlt_len hf
    have h0 : (whatsL (a.seen.take i)).length = min i a.seen.length := by simp [whatsL]
    rw [List.length_take] at h1
    have hx := ix_some (l := a.seen) (n := i) (i := (i : Int)) rfl hi
    have hf' := hf
    unfold FitS at hf'
    unfold ref19_Write_s1 ref19_Write_j2
    rw [if_pos (by rw [cm_lss]; simpa using hi), bnd hx, bnd (app_some (by simp [whatsL]; omega)), bnd hx, ar_add, w_i64 (by omega) (by omega), take_snoc _ i hi, whatsL_snoc, dltL_snoc]
    by_cases hw0 : 0 < a.seen[i].what
    · have hs : sub (beN 4 (a.seen[i].delta % 4294967296)) (ar .sub .i64 4 a.seen[i].what) ((beN 4 (a.seen[i].delta % 4294967296)).length : Int) = some (dlt a.seen[i]) := by
        rw [ar_sub, w_i64 (by omega) (by omega), sub_some (by omega) (by rw [beN_len]; omega) (by omega)]
        congr 1
        rw [List.take_of_length_le (by rw [List.length_drop]; omega)]
        unfold dlt
        rcases hf' with h | h | h
        · omega
        · rw [if_neg (by omega), if_pos h.1, h.1]
          exact be4_drop1 h.2.1 h.2.2
        · rw [if_pos h.1, h.1]
          exact be4_drop
      rw [if_pos (by rw [cm_gtr]; simpa using hw0), bnd hx, bnd (rputs4 (by omega) (by omega)), bnd hx, bnd hs, bnd (app_some (by omega))]
      rfl
    · have hd : dlt a.seen[i] = [] := List.eq_nil_of_length_eq_zero (by omega)
      rw [if_neg (by rw [cm_gtr]; simpa using hw0), hd, List.append_nil]
      rfl) (by
    show ref19_Write_s1 none (hdA a) (whatsL (a.seen.take a.seen.length)) (dltL (a.seen.take a.seen.length)) (a.seen.length : Int) a = _
    have h1 := dltL_len hr.2.2.2
    unfold ref19_Write_s1
    rw [if_neg (by rw [cm_lss]; simp), List.take_length, bnd (rwrite_eq (by omega) (whats_vl hr.2.2.2)), rw_l3 (by omega) (by omega) (by rw [hdA_len]; omega) (wl_in hr)]
    rfl)
  simpa [whatsL, dltL] using this

/-! reading -/
theorem csA_get {b : List Int} {i : Nat} (hi : i < (csA b).length) : (csA b)[i] = numB ((b.drop (8 + 2 * i)).take 2) := by
  unfold csA at hi ⊢
  rw [List.getElem_map]
  congr 1
  unfold chunksL
  rw [List.getElem_map, List.getElem_range, List.drop_drop]
  congr 2
  omega

theorem rnum_eq {b : List Int} {at_ : Nat} (hb : oct b) (hl : b.length ≤ 100000) (h : at_ + 2 ≤ b.length) : ref05_Num none b (at_ : Int) 2 = some (numB ((b.drop at_).take 2)) := by
  have hn := numB_bd ((b.drop at_).take 2) ((hb.drop at_).take 2)
  rw [List.length_take, List.length_drop, show min 2 (b.length - at_) = 2 by omega] at hn
  have hg : ref01_Get none b (at_ : Int) 2 = some (numB ((b.drop at_).take 2), 0) := rget_eq (n := 2) (by omega) (by omega) hb (by omega) h
  unfold ref05_Num
  rw [bnd hg, w_u32 (by omega) (by omega)]

def rdG (b : List Int) (A : Arrive) (out : List Seen) (L : List Int) (pos : Nat) : Arrive × Int :=
  if (b.drop pos).length < sumN L then (zeroA, 2) else if sumN L + 3 < (b.drop pos).length then (zeroA, 4) else ({ A with seen := out ++ deltasS L (b.drop pos) }, 0)

theorem rdelta_loop {b L : List Int} {x1 : Int} {u e : Int} (hb : oct b) (hl : b.length ≤ 100000) (hv : vl L) (hx : x1 = L.length) (hll : L.length ≤ 4000) {A : Arrive} : ∀ (m i pos : Nat) (out : List Seen), i + m = L.length → pos ≤ b.length → out.length + m ≤ 5000 →
    loopG none (fun (s : Int × Int × Arrive × Arrive) => ref19_Read_s2 none b x1 (L, u, e) s.1 s.2.1 s.2.2.1 s.2.2.2) ((pos : Int), (i : Int), zeroA, { A with seen := out }) = some (rdG b A out (L.drop i) pos)
  | 0, i, pos, out, hi, hp, _ => by
    have ei : i = L.length := by omega
    subst ei
    rw [List.drop_length]
    refine loop_inr ?_
    show ref19_Read_s2 none b x1 (L, u, e) (pos : Int) (L.length : Int) zeroA { A with seen := out } = _
    have hs0 : sumN [] = 0 := rfl
    have el : (b.drop pos).length = b.length - pos := List.length_drop
    unfold ref19_Read_s2 rdG
    rw [hx, w_i64 (n := (L.length : Int)) (by omega) (by omega), if_neg (by rw [cm_lss]; simp), ar_sub, w_i64 (by omega) (by omega), hs0, el, if_neg (show ¬ b.length - pos < 0 by omega), cm_gtr]
    by_cases h3 : 3 < b.length - pos
    · rw [if_pos (by simp only [decide_eq_true_eq]; omega), if_pos (show 0 + 3 < b.length - pos by omega)]; rfl
    · rw [if_neg (by simp only [decide_eq_true_eq]; omega), if_neg (show ¬ 0 + 3 < b.length - pos by omega)]
      simp [deltasS]
  | m + 1, i, pos, out, hi, hp, ho => by
    have hil : i < L.length := by omega
    have hd : L.drop i = L[i] :: L.drop (i + 1) := List.drop_eq_getElem_cons hil
    have hvi := hv _ (List.getElem_mem hil)
    rw [hd]
    have e0 : ar .add .i64 (pos : Int) L[i] = ((pos + L[i].toNat : Nat) : Int) := by rw [ar_add, w_i64 (by omega) (by omega)]; omega
    have ei : ar .add .i64 (i : Int) 1 = ((i + 1 : Nat) : Int) := by rw [ar_add, w_i64 (by omega) (by omega)]; rfl
    by_cases hbig : b.length < pos + L[i].toNat
    · refine loop_inr ?_
      show ref19_Read_s2 none b x1 (L, u, e) (pos : Int) (i : Int) zeroA _ = _
      unfold ref19_Read_s2 rdG
      rw [hx, w_i64 (n := (L.length : Int)) (by omega) (by omega), if_pos (by rw [cm_lss]; simpa using hil), bnd (ix_some (n := i) rfl hil), e0, if_pos (by rw [cm_gtr]; simp; omega), sumN_cons, if_pos (by rw [List.length_drop]; omega)]
      rfl
    · have step : ref19_Read_s2 none b x1 (L, u, e) (pos : Int) (i : Int) zeroA { A with seen := out } = some (.inl (((pos + L[i].toNat : Nat) : Int), ((i + 1 : Nat) : Int), zeroA, { A with seen := out ++ [⟨L[i], valD L[i] (b.drop pos)⟩] })) := by
        unfold ref19_Read_s2
        rw [hx, w_i64 (n := (L.length : Int)) (by omega) (by omega), if_pos (by rw [cm_lss]; simpa using hil), bnd (ix_some (n := i) rfl hil), e0, if_neg (by rw [cm_gtr]; simp; omega)]
        unfold valD
        by_cases h1 : L[i] = 1
        · have hpl : pos < b.length := by rw [h1] at hbig; simp at hbig; omega
          have hxx := hb _ (List.getElem_mem hpl)
          have c1 : cm .eql L[i] 1 = true := by rw [cm_eql]; simpa using h1
          have c2 : cm .eql L[i] 2 = false := by rw [cm_eql, h1]; decide
          rw [c1, if_pos rfl, bnd (ix_some (n := pos) rfl hpl), w_i64 (by omega) (by omega), if_pos h1]
          unfold ref19_Read_j3 ref19_Read_j4
          simp only [c2]
          rw [if_neg (by decide), bnd (app_some (by simp; omega)), e0, ei, List.drop_eq_getElem_cons hpl]
          rfl
        · have c1 : cm .eql L[i] 1 = false := by rw [cm_eql]; simpa using h1
          rw [c1, if_neg (by decide), if_neg h1]
          unfold ref19_Read_j3 ref19_Read_j4
          by_cases h2 : L[i] = 2
          · have hpl : pos + 2 ≤ b.length := by rw [h2] at hbig; simp at hbig; omega
            have c2 : cm .eql L[i] 2 = true := by rw [cm_eql]; simpa using h2
            simp only [c2, if_true]
            rw [bnd (rgets2 hb (by omega) hpl), if_pos h2, bnd (app_some (by simp; omega)), e0, ei]
          · have c2 : cm .eql L[i] 2 = false := by rw [cm_eql]; simpa using h2
            simp only [c2]
            rw [if_neg (by decide), if_neg h2, bnd (app_some (by simp; omega)), e0, ei]
      rw [loop_inl step, rdelta_loop hb hl hv hx hll m (i + 1) (pos + L[i].toNat) _ (by omega) (by omega) (by simp; omega)]
      unfold rdG
      have el : (b.drop (pos + L[i].toNat)).length = b.length - (pos + L[i].toNat) := List.length_drop
      have el2 : (b.drop pos).length = b.length - pos := List.length_drop
      have q1 : (b.length - pos < L[i].toNat + sumN (L.drop (i + 1))) ↔ (b.length - (pos + L[i].toNat) < sumN (L.drop (i + 1))) := by omega
      have q2 : (L[i].toNat + sumN (L.drop (i + 1)) + 3 < b.length - pos) ↔ (sumN (L.drop (i + 1)) + 3 < b.length - (pos + L[i].toNat)) := by omega
      have e : b.drop (pos + L[i].toNat) = (b.drop pos).drop L[i].toNat := by rw [List.drop_drop]
      rw [sumN_cons, el, el2]
      simp only [q1, q2]
      rw [e, deltasS, List.append_assoc]; rfl

def rdX (b : List Int) : Arrive × Int := ((rdA b).1, (rdA b).2.2.2)

theorem rread19_eq {b : List Int} (hb : oct b) (hl : b.length ≤ 100000) : ref19_Read none b = some (rdX b) := by
  unfold ref19_Read rdX rdA readA
  by_cases h : 65520 < b.length ∨ b.length % 4 ≠ 0
  · rw [if_pos (by rw [dv_rem (by omega), cm_gtr, cm_neq]; simp; omega), if_pos h]; rfl
  · rw [if_neg (by rw [dv_rem (by omega), cm_gtr, cm_neq]; simp; omega), if_neg h]
    by_cases h8 : b.length < 8
    · rw [if_pos (by rw [cm_lss]; simp; omega), if_pos h8]; rfl
    · rw [if_neg (by rw [cm_lss]; simp; omega), if_neg h8]
      have e4 : b.length % 4 = 0 := by omega
      have g2 : ref05_Num none b 2 2 = some (numA b) := rnum_eq (at_ := 2) hb hl (by omega)
      have n2 := numB_bd ((b.drop 2).take 2) ((hb.drop 2).take 2)
      rw [List.length_take, List.length_drop, show min 2 (b.length - 2) = 2 by omega] at n2
      have hnA : 0 ≤ numA b ∧ numA b < 65536 := n2
      rw [bnd g2, w_i64 (n := numA b) (by omega) (by omega)]
      by_cases h4 : 4000 < numA b
      · rw [if_pos (by rw [cm_gtr]; simpa using h4), if_pos h4]; rfl
      · rw [if_neg (by rw [cm_gtr]; simpa using h4), if_neg h4]
        have hcs := csA_in hb e4 (by omega)
        have hcl := csA_len e4 (by omega : 8 ≤ b.length)
        unfold ref19_Read_l1
        have key := loop_seq (step := fun (s : List Int × Int) => ref19_Read_s1 none b (numA b) s.1 s.2) (r := rdX b) (fun i => ((csA b).take i, ((8 + 2 * i : Nat) : Int))) (csA b).length (fun i hi => by
          show ref19_Read_s1 none b (numA b) _ _ = _
          have hx := hcs _ (List.getElem_mem hi)
          have hg := csA_get hi
          unfold ref19_Read_s1
          rw [if_pos (by rw [cm_lss]; simp; omega), bnd (rnum_eq hb hl (by omega)), ← hg, w_u16 hx.1 hx.2, bnd (app_some (by rw [List.length_take]; simp; omega)), ar_add, w_i64 (by omega) (by omega), take_snoc _ i hi]
          rfl) (by
          show ref19_Read_s1 none b (numA b) _ _ = _
          unfold ref19_Read_s1
          rw [if_neg (by rw [cm_lss]; simp; omega), List.take_length, w_i64 (n := numA b) (by omega) (by omega)]
          have hcr := rread_eq (chunks := csA b) (count := numA b) hcs (by omega)
          unfold rdX rdA readA
          rw [if_neg h, if_neg h8, if_neg h4]
          cases hr : readC (csA b) (numA b) with
          | error e =>
            have he := readC_err hr
            rw [hr] at hcr
            have hcr2 : ref18_Read none (csA b) (numA b) = some ([], 0, e) := hcr
            rw [bnd hcr2, if_pos (by rw [cm_neq]; simpa using he)]; rfl
          | ok p =>
            obtain ⟨L, u⟩ := p
            obtain ⟨r1, r2, r3, r4⟩ := readC_ok hcs hr
            rw [hr] at hcr
            have hcr2 : ref18_Read none (csA b) (numA b) = some (L, (u : Int), 0) := by rw [hcr]; simp [rdR]
            have g4 : ref01_Signed none b 4 3 = some (sg3 (numB ((b.drop 4).take 3)), 0) := rgets3 (at_ := 4) hb (by omega) (by omega)
            have g0 : ref05_Num none b 0 2 = some (numB (b.take 2)) := by
              have := rnum_eq (b := b) (at_ := 0) hb hl (by omega)
              rw [List.drop_zero] at this
              exact this
            have n0 := numB_bd (b.take 2) (hb.take 2)
            rw [List.length_take, show min 2 b.length = 2 by omega] at n0
            have h7 : 7 < b.length := by omega
            have i7 : ix b 7 = some (b.getD 7 0) := by
              have := ix_some (l := b) (n := 7) (i := 7) rfl h7
              rw [this, List.getD_eq_getElem?_getD, List.getElem?_eq_getElem h7]; rfl
            have ep : ar .add .i64 8 (ar .mul .i64 2 (u : Int)) = ((8 + 2 * u : Nat) : Int) := by
              rw [ar_mul, w_i64 (by omega) (by omega), ar_add, w_i64 (by omega) (by omega)]; omega
            rw [bnd hcr2, if_neg (show ¬ cm .neq (0 : Int) 0 = true by decide), bnd g4, bnd g0, bnd i7, ep, w_u16 (n := numB (b.take 2)) (by omega) (by omega)]
            simp only []
            unfold ref19_Read_l2
            have hd := rdelta_loop (u := (u : Int)) (e := 0) (x1 := numA b) hb hl r3 r1.symm r2 (A := ⟨numB (b.take 2), sg3 (numB ((b.drop 4).take 3)), b.getD 7 0, []⟩) L.length 0 (8 + 2 * u) [] (by omega) (by omega) (by simp; omega)
            have hd2 := hd
            rw [List.drop_zero] at hd2
            refine (congrArg (Option.map Sum.inr) hd2).trans ?_
            unfold rdG
            by_cases k1 : (b.drop (8 + 2 * u)).length < sumN L
            · rw [if_pos k1, if_pos k1]; rfl
            · rw [if_neg k1, if_neg k1]
              by_cases k2 : sumN L + 3 < (b.drop (8 + 2 * u)).length
              · rw [if_pos k2, if_pos k2]; rfl
              · rw [if_neg k2, if_neg k2]; rfl)
        have key2 : loopG none (fun (s : List Int × Int) => ref19_Read_s1 none b (numA b) s.1 s.2) ([], 8) = some (rdX b) := key
        refine key2.trans ?_
        unfold rdX rdA readA
        rw [if_neg h, if_neg h8, if_neg h4]
end Xb

namespace Xb
open Go

theorem be4_of {a b : Int} (ha : 0 ≤ a ∧ a ≤ 65535) (hb : 0 ≤ b ∧ b ≤ 65535) : beN 4 (a * 65536 + b) = [a / 256, a % 256, b / 256, b % 256] := by
  have e1 : (a * 65536 + b) % 256 = b % 256 := by omega
  have e2 : (a * 65536 + b) / 256 % 256 = b / 256 := by omega
  have e3 : (a * 65536 + b) / 256 / 256 % 256 = a % 256 := by omega
  have e4 : (a * 65536 + b) / 256 / 256 / 256 % 256 = a / 256 := by omega
  simp only [beN, List.nil_append, List.cons_append]
  rw [e1, e2, e3, e4]

theorem r15write_eq {l : List Pair} (hl : ∀ e, e ∈ l → wf_Pair e) (hn : l.length ≤ 100000) : ref15_Write none l = some (l.flatMap encP) := by
  unfold ref15_Write ref15_Write_l1
  have := loop_seq (step := fun (s : List Int × Int) => ref15_Write_s1 none l s.1 s.2) (r := l.flatMap encP) (fun i => ((l.take i).flatMap encP, (i : Int))) l.length (fun i hi => by
    show ref15_Write_s1 none l ((l.take i).flatMap encP) (i : Int) = _
    have hp := pair_in (hl _ (List.getElem_mem hi))
    have hx := ix_some (l := l) (n := i) (i := (i : Int)) rfl hi
    unfold ref15_Write_s1
    have ee : encP l[i] = [l[i].pid / 256, l[i].pid % 256, l[i].mask / 256, l[i].mask % 256] := be4_of ⟨hp.1, hp.2.1⟩ hp.2.2
    rw [if_pos (by rw [cm_lss]; simpa using hi), bnd hx, bnd hx, bnd hx, bnd hx, dv_quo hp.1, dv_rem hp.1, dv_quo hp.2.2.1, dv_rem hp.2.2.1,
      w_u16 (by omega) (by omega), w_u8 (by omega) (by omega), w_u8 (by omega) (by omega), w_u16 (by omega) (by omega), w_u8 (by omega) (by omega), w_u8 (by omega) (by omega), ← ee,
      bnd (app_some (by rw [flat_lenG encP_len, encP_len, List.length_take]; omega)), ar_add, w_i64 (by omega) (by omega), take_flat encP l i hi]
    rfl) (by
    show ref15_Write_s1 none l _ _ = _
    unfold ref15_Write_s1
    rw [if_neg (by rw [cm_lss]; simp)]
    simp)
  simpa using this

theorem r16write_eq {l : List Entry} (hl : ∀ e, e ∈ l → wf_Entry e) (hn : l.length ≤ 100000) : ref16_Write none l = some (l.flatMap encE) := by
  unfold ref16_Write ref16_Write_l1
  have := loop_seq (step := fun (s : List Int × Int) => ref16_Write_s1 none l s.1 s.2) (r := l.flatMap encE) (fun i => ((l.take i).flatMap encE, (i : Int))) l.length (fun i hi => by
    show ref16_Write_s1 none l ((l.take i).flatMap encE) (i : Int) = _
    have hs := okE_ssrc (hl _ (List.getElem_mem hi))
    have hx := ix_some (l := l) (n := i) (i := (i : Int)) rfl hi
    unfold ref16_Write_s1
    have m1 : ref01_Must none (l[i].ssrc) 4 = some (beN 4 l[i].ssrc) := rmust_eq (n := 4) hs.1 (by omega) (by omega) (by omega) (by omega)
    rw [if_pos (by rw [cm_lss]; simpa using hi), bnd hx, w_u64 (by omega) (by omega), bnd m1, bnd (app_some (by rw [flat_lenG encE_len, beN_len, List.length_take]; omega)), bnd hx,
      bnd (app_some (by rw [List.length_append, flat_lenG encE_len, beN_len, List.length_take]; simp; omega)), ar_add, w_i64 (by omega) (by omega), List.append_assoc,
      ← take_flat encE l i hi]
    rfl) (by
    show ref16_Write_s1 none l _ _ = _
    unfold ref16_Write_s1
    rw [if_neg (by rw [cm_lss]; simp)]
    simp)
  simpa using this

theorem r17write_eq {r : Rate} (hg : GoodR r) (hr : RightR r) : ref17_Write none r = some (writeR r) := by
  obtain ⟨h1, h2, h3, h4, h5⟩ := hr
  have hm := hg.1
  have m1 : ref01_Must none (262144 * r.exp + r.mant) 3 = some (beN 3 (262144 * r.exp + r.mant)) := rmust_eq (n := 3) (by omega) (by omega) (by omega) (by omega) (by omega)
  have eh : [82, 69, 77, 66, (r.srcs.length : Int)] ++ beN 3 (262144 * r.exp + r.mant) = headR r := by
    unfold headR; rw [Int.mul_comm]
  unfold ref17_Write
  rw [w_u64 (by omega) (by omega), w_u64 (by omega) (by omega), ar_mul, w_u64 (by omega) (by omega), ar_add, w_u64 (by omega) (by omega), bnd m1, w_u8 (by omega) (by omega),
    bnd (app_some (by simp [beN_len])), eh]
  unfold ref17_Write_l1
  have := loop_seq (step := fun (s : List Int × Int) => ref17_Write_s1 none r s.1 s.2) (r := writeR r) (fun i => (headR r ++ (r.srcs.take i).flatMap (beN 4), (i : Int))) r.srcs.length (fun i hi => by
    show ref17_Write_s1 none r (headR r ++ (r.srcs.take i).flatMap (beN 4)) (i : Int) = _
    have hx := hg.2.2 _ (List.getElem_mem hi)
    have m1 : ref01_Must none r.srcs[i] 4 = some (beN 4 r.srcs[i]) := rmust_eq (n := 4) hx.1 (by omega) (by omega) (by omega) (by omega)
    unfold ref17_Write_s1
    rw [if_pos (by rw [cm_lss]; simpa using hi), bnd (ix_some (n := i) rfl hi), w_u64 (by omega) (by omega), bnd m1,
      bnd (app_some (by rw [List.length_append, headR_len, flat_lenG be4_len, beN_len, List.length_take]; omega)), ar_add, w_i64 (by omega) (by omega), List.append_assoc, take_flat (beN 4) r.srcs i hi]
    rfl) (by
    show ref17_Write_s1 none r _ _ = _
    unfold ref17_Write_s1
    rw [if_neg (by rw [cm_lss]; simp)]
    simp [writeR])
  simpa using this

/-! reading -/
theorem chunk_get {n : Nat} (hn : 1 ≤ n) {b : List Int} {i : Nat} (hi : i < (chunksL n b).length) : (chunksL n b)[i] = (b.drop (n * i)).take n := by
  unfold chunksL at hi ⊢
  rw [List.getElem_map, List.getElem_range, Nat.mul_comm]
theorem drop_four {b : List Int} {i : Nat} (h : i + 4 ≤ b.length) : (b.drop i).take 4 = [b[i], b[i+1], b[i+2], b[i+3]] := by
  rw [List.drop_eq_getElem_cons (by omega), List.drop_eq_getElem_cons (by omega), List.drop_eq_getElem_cons (by omega), List.drop_eq_getElem_cons (by omega)]
  rfl
theorem decP_four {a b c d : Int} (ha : 0 ≤ a ∧ a ≤ 255) (hb : 0 ≤ b ∧ b ≤ 255) (hc : 0 ≤ c ∧ c ≤ 255) (hd : 0 ≤ d ∧ d ≤ 255) : decP [a, b, c, d] = ⟨256 * a + b, 256 * c + d⟩ := by
  have e : numB [a, b, c, d] = ((a * 256 + b) * 256 + c) * 256 + d := by simp [numB]
  unfold decP
  rw [e]
  congr 1 <;> omega
theorem getD_at {b : List Int} {i : Nat} (h : i < b.length) : b.getD i 0 = b[i] := by rw [List.getD_eq_getElem?_getD, List.getElem?_eq_getElem h]; rfl

theorem r15read_eq {b : List Int} (hb : oct b) (hl : b.length ≤ 1000000) : ref15_Read none b = some (if readOkN b then ((chunksL 4 b).map decP, 0) else ([], if b.length = 0 then 2 else 4)) := by
  unfold ref15_Read
  by_cases h1 : 65520 < b.length ∨ b.length % 4 ≠ 0
  · rw [if_pos (by rw [dv_rem (by omega), cm_gtr, cm_neq]; simp; omega), if_neg (by unfold readOkN; omega), if_neg (by omega)]
  rw [if_neg (by rw [dv_rem (by omega), cm_gtr, cm_neq]; simp; omega)]
  by_cases h0 : b.length = 0
  · rw [if_pos (by rw [cm_eql]; exact decide_eq_true (by omega)), if_neg (by unfold readOkN; omega), if_pos h0]
  rw [if_neg (by rw [cm_eql]; simp; simpa using h0), if_pos (by unfold readOkN; omega)]
  have hc := chunks_count (n := 4) (by omega) (show b.length % 4 = 0 by omega)
  unfold ref15_Read_l1
  have := loop_seq (step := fun (s : List Pair × Int) => ref15_Read_s1 none b s.1 s.2) (r := ((chunksL 4 b).map decP, 0)) (fun i => (((chunksL 4 b).map decP).take i, ((4 * i : Nat) : Int))) (chunksL 4 b).length (fun i hi => by
    show ref15_Read_s1 none b (((chunksL 4 b).map decP).take i) ((4 * i : Nat) : Int) = _
    have hi4 : 4 * i + 4 ≤ b.length := by omega
    have o := fun (j : Nat) (h : j < b.length) => hb _ (List.getElem_mem h)
    have o0 := o (4 * i) (by omega); have o1 := o (4 * i + 1) (by omega); have o2 := o (4 * i + 2) (by omega); have o3 := o (4 * i + 3) (by omega)
    unfold ref15_Read_s1
    rw [if_pos (by rw [cm_lss]; simp; omega), bnd (ix_some (n := 4 * i) rfl (by omega)),
      ar_add, w_i64 (by omega) (by omega), bnd (ix_some (n := 4 * i + 1) (by omega) (by omega)), ar_add, w_i64 (by omega) (by omega), bnd (ix_some (n := 4 * i + 2) (by omega) (by omega)),
      ar_add, w_i64 (by omega) (by omega), bnd (ix_some (n := 4 * i + 3) (by omega) (by omega)),
      w_u16 (by omega) (by omega), w_u16 (by omega) (by omega), w_u16 (by omega) (by omega), w_u16 (by omega) (by omega), ar_mul, w_u16 (by omega) (by omega), ar_add, w_u16 (by omega) (by omega),
      ar_mul, w_u16 (by omega) (by omega), ar_add, w_u16 (by omega) (by omega), ← decP_four o0 o1 o2 o3, ← drop_four hi4, ← chunk_get (by omega) hi,
      bnd (app_some (by rw [List.length_take, List.length_map]; simp; omega)), ar_add, w_i64 (by omega) (by omega)]
    have e : ((chunksL 4 b).map decP).take i ++ [decP (chunksL 4 b)[i]] = ((chunksL 4 b).map decP).take (i + 1) := by
      rw [take_snoc _ i (by rw [List.length_map]; exact hi), List.getElem_map]
    rw [e]
    congr 3) (by
    show ref15_Read_s1 none b (((chunksL 4 b).map decP).take (chunksL 4 b).length) ((4 * (chunksL 4 b).length : Nat) : Int) = _
    unfold ref15_Read_s1
    rw [if_neg (by rw [cm_lss]; simp; omega), List.take_of_length_le (by rw [List.length_map]; exact Nat.le_refl _)]
    rfl)
  simpa using this

theorem rnum4_eq {b : List Int} {at_ n : Nat} (hn : 1 ≤ n ∧ n ≤ 4) (hb : oct b) (hl : b.length ≤ 1000000) (h : at_ + n ≤ b.length) : ref05_Num none b (at_ : Int) (n : Int) = some (numB ((b.drop at_).take n)) := by
  have hg : ref01_Get none b (at_ : Int) n = some (numB ((b.drop at_).take n), 0) := rget_eq (n := n) (by omega) (by omega) hb (by omega) h
  have hk := numB_bd8 ((hb.drop at_).take n) (k := 4) (by rw [List.length_take, List.length_drop]; omega)
  unfold ref05_Num
  rw [bnd hg, w_u32 (by omega) (by omega)]

theorem r16read_eq {b : List Int} (hb : oct b) (hl : b.length ≤ 1000000) : ref16_Read none b = some (if readOkF b then ((chunksL 8 b).map decE, 0) else ([], if b.length = 0 then 2 else 4)) := by
  unfold ref16_Read
  by_cases h1 : 65520 < b.length ∨ b.length % 8 ≠ 0
  · rw [if_pos (by rw [dv_rem (by omega), cm_gtr, cm_neq]; simp; omega), if_neg (by unfold readOkF; omega), if_neg (by omega)]
  rw [if_neg (by rw [dv_rem (by omega), cm_gtr, cm_neq]; simp; omega)]
  by_cases h0 : b.length = 0
  · rw [if_pos (by rw [cm_eql]; exact decide_eq_true (by omega)), if_neg (by unfold readOkF; omega), if_pos h0]
  rw [if_neg (by rw [cm_eql]; simp; simpa using h0), if_pos (by unfold readOkF; omega)]
  have hc := chunks_count (n := 8) (by omega) (show b.length % 8 = 0 by omega)
  unfold ref16_Read_l1
  have := loop_seq (step := fun (s : List Entry × Int) => ref16_Read_s1 none b s.1 s.2) (r := ((chunksL 8 b).map decE, 0)) (fun i => (((chunksL 8 b).map decE).take i, ((8 * i : Nat) : Int))) (chunksL 8 b).length (fun i hi => by
    show ref16_Read_s1 none b (((chunksL 8 b).map decE).take i) ((8 * i : Nat) : Int) = _
    have hi8 : 8 * i + 8 ≤ b.length := by omega
    have g : ref05_Num none b ((8 * i : Nat) : Int) 4 = some (numB ((b.drop (8 * i)).take 4)) := rnum4_eq (n := 4) (by omega) hb hl (by omega)
    have ed : (Entry.mk (numB ((b.drop (8 * i)).take 4)) b[8 * i + 4]) = decE (chunksL 8 b)[i] := by
      rw [chunk_get (by omega) hi]
      unfold decE
      rw [List.take_take]
      congr 1
      rw [List.getD_eq_getElem?_getD, List.getElem?_take, if_pos (by omega), List.getElem?_drop, List.getElem?_eq_getElem (by omega)]; rfl
    unfold ref16_Read_s1
    rw [if_pos (by rw [cm_lss]; simp; omega), bnd g, ar_add, w_i64 (by omega) (by omega), bnd (ix_some (n := 8 * i + 4) (by omega) (by omega)), ed,
      bnd (app_some (by rw [List.length_take, List.length_map]; simp; omega)), ar_add, w_i64 (by omega) (by omega)]
    have e : ((chunksL 8 b).map decE).take i ++ [decE (chunksL 8 b)[i]] = ((chunksL 8 b).map decE).take (i + 1) := by
      rw [take_snoc _ i (by rw [List.length_map]; exact hi), List.getElem_map]
    rw [e]
    congr 3) (by
    show ref16_Read_s1 none b (((chunksL 8 b).map decE).take (chunksL 8 b).length) ((8 * (chunksL 8 b).length : Nat) : Int) = _
    unfold ref16_Read_s1
    rw [if_neg (by rw [cm_lss]; simp; omega), List.take_of_length_le (by rw [List.length_map]; exact Nat.le_refl _)]
    rfl)
  simpa using this

theorem loop_out {σ ρ : Type} {step : σ → Option (σ ⊕ ρ)} {s : σ} {x : Option ρ} (h : step s = x.map .inr) : loopG none step s = x := by
  rw [loopG_eq, h]; cases x <;> rfl
theorem r17_l1 {b : List Int} {x : Int} : ∀ (e : Nat) (m : Int), 0 ≤ m → m < 262144 → e ≤ 100 → ref17_Read_l1 none b x ⟨(e : Int), m, []⟩ = ref17_Read_l2 none b x 0 ⟨(leastS e m).1, (leastS e m).2, []⟩
  | 0, m, h0, h1, he => by
    unfold ref17_Read_l1
    have s : ref17_Read_s1 none b x ⟨((0 : Nat) : Int), m, []⟩ = Option.map .inr (ref17_Read_l2 none b x 0 ⟨((0 : Nat) : Int), m, []⟩) := by
      unfold ref17_Read_s1
      rw [if_neg (by rw [cm_gtr]; simp)]
    exact loop_out s
  | e + 1, m, h0, h1, he => by
    rw [leastS]
    by_cases h : m < 131072
    · rw [if_pos h, ← r17_l1 (b := b) (x := x) e (2 * m) (by omega) (by omega) (by omega)]
      have s : ref17_Read_s1 none b x ⟨((e + 1 : Nat) : Int), m, []⟩ = some (.inl ⟨(e : Int), 2 * m, []⟩) := by
        unfold ref17_Read_s1
        rw [if_pos (by rw [cm_gtr, cm_lss]; simp; omega), ar_sub, w_i64 (by simp only; omega) (by simp only; omega), ar_mul, w_u32 (by simp only; omega) (by simp only; omega)]
        have : ((e + 1 : Nat) : Int) - 1 = e := by omega
        simp only [this]
      unfold ref17_Read_l1
      exact loop_inl s
    · rw [if_neg h]
      have s : ref17_Read_s1 none b x ⟨((e + 1 : Nat) : Int), m, []⟩ = Option.map .inr (ref17_Read_l2 none b x 0 ⟨((e + 1 : Nat) : Int), m, []⟩) := by
        unfold ref17_Read_s1
        rw [if_neg (by rw [cm_gtr, cm_lss]; simp; omega)]
      unfold ref17_Read_l1
      exact loop_out s

theorem r17_l2 {b : List Int} (hb : oct b) (hl : b.length ≤ 65520) (h4 : b.length % 4 = 0) (h8 : 8 ≤ b.length) {e m x : Int} (hx : x = ((b.length / 4 - 2 : Nat) : Int)) :
    ref17_Read_l2 none b x 0 ⟨e, m, []⟩ = some (⟨e, m, (chunksL 4 (b.drop 8)).map numB⟩, 0) := by
  have hd4 : (b.drop 8).length % 4 = 0 := by rw [List.length_drop]; omega
  have hcnt := chunks_count (n := 4) (by omega) hd4
  rw [List.length_drop] at hcnt
  unfold ref17_Read_l2
  have := loop_seq (step := fun (s : Int × Rate) => ref17_Read_s2 none b x s.1 s.2) (r := (⟨e, m, (chunksL 4 (b.drop 8)).map numB⟩, 0)) (fun i => ((i : Int), ⟨e, m, ((chunksL 4 (b.drop 8)).map numB).take i⟩)) (chunksL 4 (b.drop 8)).length (fun i hi => by
    show ref17_Read_s2 none b x (i : Int) ⟨e, m, ((chunksL 4 (b.drop 8)).map numB).take i⟩ = _
    have g : ref05_Num none b ((8 + 4 * i : Nat) : Int) 4 = some (numB ((b.drop (8 + 4 * i)).take 4)) := rnum4_eq (n := 4) (by omega) hb (by omega) (by omega)
    have ea : ar .add .i64 8 (ar .mul .i64 4 (i : Int)) = ((8 + 4 * i : Nat) : Int) := by
      rw [ar_mul, w_i64 (by omega) (by omega), ar_add, w_i64 (by omega) (by omega)]; omega
    have ed : numB ((b.drop (8 + 4 * i)).take 4) = ((chunksL 4 (b.drop 8)).map numB)[i]'(by rw [List.length_map]; exact hi) := by
      rw [List.getElem_map, chunk_get (by omega) hi, List.drop_drop]
    unfold ref17_Read_s2
    rw [w_i64 (by omega) (by omega), if_pos (by rw [cm_lss]; simp; omega), ea, bnd g, ed]
    simp only
    rw [bnd (app_some (by simp only [List.length_take, List.length_singleton]; omega)), ← take_snoc _ i (by rw [List.length_map]; exact hi), ar_add, w_i64 (by omega) (by omega)]
    rfl) (by
    show ref17_Read_s2 none b x ((chunksL 4 (b.drop 8)).length : Int) ⟨e, m, ((chunksL 4 (b.drop 8)).map numB).take (chunksL 4 (b.drop 8)).length⟩ = _
    unfold ref17_Read_s2
    rw [w_i64 (by omega) (by omega), if_neg (by rw [cm_lss]; simp; omega), List.take_of_length_le (by rw [List.length_map]; exact Nat.le_refl _)]
    rfl)
  simpa using this

theorem r17read_eq {b : List Int} (hb : oct b) (hl : b.length ≤ 1000000) : ref17_Read none b = some (rdRR b) := by
  unfold ref17_Read rdRR readR
  by_cases hv : 65520 < b.length ∨ b.length % 4 ≠ 0
  · rw [if_pos (by rw [dv_rem (by omega), cm_gtr, cm_neq]; simp; omega), if_pos hv]; rfl
  rw [if_neg (by rw [dv_rem (by omega), cm_gtr, cm_neq]; simp; omega), if_neg hv]
  by_cases h8 : b.length < 8
  · rw [if_pos (by rw [cm_lss]; exact decide_eq_true (by omega)), if_pos h8]; rfl
  rw [if_neg (by rw [cm_lss]; simp; omega), if_neg h8]
  have i0 : ix b 0 = some b[0] := ix_some (n := 0) rfl (by omega)
  have i1 : ix b 1 = some b[1] := ix_some (n := 1) rfl (by omega)
  have i2 : ix b 2 = some b[2] := ix_some (n := 2) rfl (by omega)
  have i3 : ix b 3 = some b[3] := ix_some (n := 3) rfl (by omega)
  have i4 : ix b 4 = some b[4] := ix_some (n := 4) rfl (by omega)
  have ht : b.take 4 = [b[0], b[1], b[2], b[3]] := by
    have := drop_four (b := b) (i := 0) (by omega)
    simpa using this
  by_cases c4 : b.take 4 ≠ rembL
  · rw [if_pos c4]
    rw [ht] at c4
    unfold rembL at c4
    rw [bnd i0, i1, i2, i3]
    by_cases e0 : b[0] = 82
    · have d0 : cm .neq b[0] 82 = false := by rw [cm_neq]; simpa using e0
      rw [d0]
      simp only [Bool.not_false, gTT, Bool.false_or, Option.bind_some]
      by_cases e1 : b[1] = 69
      · have d1 : cm .neq b[1] 69 = false := by rw [cm_neq]; simpa using e1
        rw [d1]
        simp only [Bool.not_false, gTT, Bool.false_or, Option.bind_some]
        by_cases e2 : b[2] = 77
        · have d2 : cm .neq b[2] 77 = false := by rw [cm_neq]; simpa using e2
          rw [d2]
          simp only [Bool.not_false, gTT, Bool.false_or, Option.bind_some]
          have e3 : b[3] ≠ 66 := fun h => c4 (by rw [e0, e1, e2, h])
          rw [if_pos (by rw [cm_neq]; simpa using e3)]; rfl
        · have d2 : cm .neq b[2] 77 = true := by rw [cm_neq]; simpa using e2
          rw [d2]
          simp only [Bool.not_true, gTF, Bool.true_or, Option.bind_some]
          rfl
      · have d1 : cm .neq b[1] 69 = true := by rw [cm_neq]; simpa using e1
        rw [d1]
        simp only [Bool.not_true, gTF, Bool.true_or, Option.bind_some]
        rfl
    · have d0 : cm .neq b[0] 82 = true := by rw [cm_neq]; simpa using e0
      rw [d0]
      simp only [Bool.not_true, gTF, Bool.true_or, Option.bind_some]
      rfl
  rw [if_neg c4]
  have c4' := Decidable.not_not.1 c4
  rw [ht] at c4'
  unfold rembL at c4'
  injection c4' with e0 t0
  injection t0 with e1 t1
  injection t1 with e2 t2
  injection t2 with e3 t3
  have hb4 := hb _ (List.getElem_mem (show 4 < b.length by omega))
  have g4 : b.getD 4 0 = b[4] := getD_at (by omega)
  have eq4 : dv .quo .i64 (ar .sub .i64 (b.length : Int) 8) 4 = ((b.length / 4 - 2 : Nat) : Int) := by
    rw [ar_sub, w_i64 (by omega) (by omega), dv_quo (by omega), w_i64 (by omega) (by omega)]; omega
  rw [bnd i0, i1, i2, i3, e0, e1, e2, e3, g4]
  have n0 : cm .neq (82 : Int) 82 = false := by decide
  have n1 : cm .neq (69 : Int) 69 = false := by decide
  have n2 : cm .neq (77 : Int) 77 = false := by decide
  have n3 : cm .neq (66 : Int) 66 = false := by decide
  simp only [n0, n1, n2, n3, Bool.not_false, gTT, Bool.false_or, Option.bind_some]
  rw [if_neg (by decide), bnd i4, eq4, w_i64 (by omega) (by omega), cm_lss, cm_gtr]
  by_cases h5 : ((b.length / 4 - 2 : Nat) : Int) < b[4]
  · rw [if_pos (decide_eq_true h5), if_pos h5]; rfl
  rw [if_neg (by simpa using h5), if_neg h5]
  by_cases h6 : b[4] < ((b.length / 4 - 2 : Nat) : Int)
  · rw [if_pos (decide_eq_true h6), if_pos h6]; rfl
  rw [if_neg (by simpa using h6), if_neg h6]
  have hvb := vR_bd hb (by omega)
  have gn : ref05_Num none b 5 3 = some (vR b) := rnum4_eq (at_ := 5) (n := 3) (by omega) hb hl (by omega)
  have ee : vR b / 262144 = (((vR b / 262144).toNat : Nat) : Int) := by omega
  rw [bnd gn, dv_quo hvb.1, dv_rem hvb.1, w_u32 (by omega) (by omega), w_i64 (by omega) (by omega)]
  conv => lhs; rw [ee]
  rw [r17_l1 _ _ (by omega) (by omega) (by omega), r17_l2 hb (by omega) (by omega) (by omega) (by omega)]
end Xb

