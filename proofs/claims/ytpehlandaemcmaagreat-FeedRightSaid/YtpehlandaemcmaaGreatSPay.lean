/- Own text: SPay. -/
import Derived.Test.YtpehlandaemcmaaGreatSFresh
import Derived.Test.YtpehlandaemcmaaGreatSArrA
set_option linter.all false
set_option linter.unusedVariables false
set_option linter.unusedSimpArgs false
set_option linter.unnecessarySimpa false
set_option linter.deprecated false
namespace Xb
open Go

def encP (p : Pair) : List Int := beN 4 (p.pid * 65536 + p.mask)
def decP (c : List Int) : Pair := ⟨numB c / 65536, numB c % 65536⟩
theorem pair_in {p : Pair} (h : wf_Pair p) : 0 ≤ p.pid ∧ p.pid ≤ 65535 ∧ 0 ≤ p.mask ∧ p.mask ≤ 65535 :=
  ⟨(in_u16.1 h.1).1, (in_u16.1 h.1).2, (in_u16.1 h.2).1, (in_u16.1 h.2).2⟩
theorem encP_len (p : Pair) : (encP p).length = 4 := beN_len 4 _
theorem encP_oct (p : Pair) : oct (encP p) := beN_byte 4 _
theorem decP_encP {p : Pair} (h : wf_Pair p) : decP (encP p) = p := by
  have hp := pair_in h
  unfold decP encP
  rw [num_be 4 _ (by omega) (by omega)]
  cases p with
  | mk a b => 
    simp only at hp ⊢
    congr 1 <;> omega
theorem decP_ok {c : List Int} (hl : c.length = 4) (hb : oct c) : wf_Pair (decP c) := by
  have h1 := numB_bd c hb
  rw [hl] at h1
  refine ⟨in_u16.2 ?_, in_u16.2 ?_⟩
  · show 0 ≤ numB c / 65536 ∧ numB c / 65536 ≤ 65535; omega
  · show 0 ≤ numB c % 65536 ∧ numB c % 65536 ≤ 65535; omega
theorem encP_decP {c : List Int} (hl : c.length = 4) (hb : oct c) : encP (decP c) = c := by
  have := be_num c hb
  rw [hl] at this
  unfold encP decP
  have e : numB c / 65536 * 65536 + numB c % 65536 = numB c := by omega
  show beN 4 (numB c / 65536 * 65536 + numB c % 65536) = c
  rw [e]; exact this

theorem flat_lenG {α : Type} {f : α → List Int} {k : Nat} (hf : ∀ a, (f a).length = k) : ∀ (m : List α), (m.flatMap f).length = k * m.length
  | [] => rfl
  | a :: m => by rw [List.flatMap_cons, List.length_append, flat_lenG hf m, hf, List.length_cons, Nat.mul_succ]; omega
theorem take_flat {α : Type} (f : α → List Int) (l : List α) (i : Nat) (hi : i < l.length) : (l.take i).flatMap f ++ f l[i] = (l.take (i + 1)).flatMap f := by
  rw [take_snoc l i hi, List.flatMap_append, List.flatMap_singleton]
theorem oct_flat {α : Type} {f : α → List Int} {l : List α} (h : ∀ a, a ∈ l → oct (f a)) : oct (l.flatMap f) := fun x hx => by
  obtain ⟨e, he, hx⟩ := List.mem_flatMap.1 hx
  exact h e he x hx
theorem chunks_encG {α : Type} {f : α → List Int} {k : Nat} (hk : 1 ≤ k) (hf : ∀ a, (f a).length = k) {l : List α} : chunksL k (l.flatMap f) = l.map f := by
  rw [List.flatMap_def]
  exact chunks_of hk _ fun c hc => by
    obtain ⟨e, _, rfl⟩ := List.mem_map.1 hc
    exact hf e
theorem map_id_of {α β : Type} {f : α → β} {g : β → α} {l : List α} (h : ∀ a, a ∈ l → g (f a) = a) : (l.map f).map g = l := by
  rw [List.map_map]
  conv => rhs; rw [← List.map_id l]
  apply List.map_congr_left
  intro e he; exact h e he
theorem flat_decG {β : Type} {f : β → List Int} {g : List Int → β} {L : List (List Int)} (h : ∀ c, c ∈ L → f (g c) = c) : (L.map g).flatMap f = L.flatten := by
  rw [List.flatMap_def, map_id_of h]

theorem put_pair {p : Pair} (h : wf_Pair p) : octet_Put (ar .or .u64 (sf .shl .u64 (IntKind.u64.wrap p.pid) 16) (IntKind.u64.wrap p.mask)) 4 = some (encP p, 0) := by
  have hp := pair_in h
  rw [w_u64 (by omega) (by omega), w_u64 (by omega) (by omega), sf_shl (y := 16) (n := 16) rfl (by decide), w_u64 (by omega) (by omega),
    ar_or_add (n := 16) (a := p.pid) rfl rfl (by omega) (by omega) (by omega) (by simp [IntKind.bits]; omega) (by decide)]
  exact put_eq (n := 4) (by omega) (by omega) (by omega) (.inr (by omega))

theorem writeN_eq {l : List Pair} (hl : ∀ e, e ∈ l → wf_Pair e) : nack_Write none l = some (if 1 ≤ l.length ∧ l.length ≤ 16380 then (l.flatMap encP, 0) else ([], 1)) := by
  unfold nack_Write
  by_cases h : 1 ≤ l.length ∧ l.length ≤ 16380
  · rw [if_pos h, if_neg (by rw [cm_lss, cm_gtr]; simp; omega)]
    unfold nack_Write_l1
    have := loop_seq (step := fun (s : List Int × Int) => nack_Write_s1 none l s.1 s.2) (r := (l.flatMap encP, 0)) (fun i => ((l.take i).flatMap encP, (i : Int))) l.length (fun i hi => by
      show nack_Write_s1 none l ((l.take i).flatMap encP) (i : Int) = _
      unfold nack_Write_s1
      rw [if_pos (by rw [cm_lss]; simpa using hi), bnd (ix_some (n := i) rfl hi), bnd (put_pair (hl _ (List.getElem_mem hi))),
        bnd (app_some (by rw [flat_lenG encP_len, encP_len, List.length_take]; omega)), ar_add, w_i64 (by omega) (by omega), take_flat encP l i hi]
      rfl) (by
      show nack_Write_s1 none l _ _ = _
      unfold nack_Write_s1
      rw [if_neg (by rw [cm_lss]; simp)]
      simp)
    simpa using this
  · rw [if_neg h, if_pos (by rw [cm_lss, cm_gtr]; simp; omega)]

def readOkN (b : List Int) : Prop := 1 ≤ b.length ∧ b.length ≤ 65520 ∧ b.length % 4 = 0
instance (b : List Int) : Decidable (readOkN b) := inferInstanceAs (Decidable (_ ∧ _))
theorem readN_step {c : List Int} (hl : c.length = 4) (hb : oct c) (v : List Pair) (hv : v.length ≤ 1000000) : nack_Read_s2 none c v = some (.inl (v ++ [decP c])) := by
  unfold nack_Read_s2
  have h1 : octet_Get none c 0 4 = some (numB (c.take 4), 0) := get_eq (at_ := 0) (n := 4) (by omega) (by omega) hb (by omega) (by omega)
  have ht : c.take 4 = c := List.take_of_length_le (by omega)
  have h3 := numB_bd c hb
  rw [hl] at h3
  rw [bnd h1, ht]
  have e1 : sf .shr .u64 (numB c) 16 = numB c / 2 ^ 16 := sf_shr (y := 16) (n := 16) rfl (by decide)
  simp only [e1]
  rw [w_u16 (by omega) (by omega), wu16, bnd (app_some (by simp; omega))]
  rfl
theorem readN_eq {b : List Int} (hb : oct b) (hl : b.length ≤ 1000000) : nack_Read none b = some (if readOkN b then ((chunksL 4 b).map decP, 0) else ([], if b.length = 0 then 2 else 4)) := by
  unfold nack_Read
  by_cases h1 : b.length > 65520
  · have c1 : cm .gtr (b.length : Int) 65520 = true := by rw [cm_gtr]; simp; omega
    rw [c1, if_pos rfl]
    unfold nack_Read_j1
    rw [if_pos rfl, if_neg (by unfold readOkN; omega), if_neg (by omega)]
  · have c1 : cm .gtr (b.length : Int) 65520 = false := by rw [cm_gtr]; simp; omega
    rw [c1, if_neg (by decide), dv_rem (by omega)]
    unfold nack_Read_j1
    by_cases h2 : b.length % 4 = 0
    · have c2 : cm .gtr ((b.length : Int) % 4) 0 = false := by rw [cm_gtr]; simp; omega
      rw [c2, if_neg (by decide)]
      by_cases h3 : b.length = 0
      · rw [if_pos (by rw [cm_eql]; simp; simpa using h3), if_neg (by unfold readOkN; omega), if_pos h3]
      · rw [if_neg (by rw [cm_eql]; simp; simpa using h3), bnd (lnO_okF (by omega))]
        unfold nack_Read_l2
        rw [fold_map (f := decP) (chunksL 4 b) [] (fun c v hc hv => readN_step (chunks_len (by omega) h2 c hc) (fun x hx => hb x (chunks_mem hc hx)) v hv) (by rw [chunks_count (by omega) h2]; simp; omega)]
        rw [if_pos (by unfold readOkN; omega)]
        rfl
    · have c2 : cm .gtr ((b.length : Int) % 4) 0 = true := by rw [cm_gtr]; simp; omega
      rw [c2, if_pos rfl, if_neg (by unfold readOkN; omega), if_neg (by omega)]

theorem sameN_eq (a b : List Pair) (hl : a.length ≤ 1000000) : ref15_Same none a b = some (decide (a = b)) := by
  unfold ref15_Same
  by_cases h : a.length = b.length
  · rw [if_neg (by rw [cm_neq]; simp; omega)]
    unfold ref15_Same_l1
    refine same_loop h (step := fun s => ref15_Same_s1 none a b s) ?_ fun i hi hi' => ?_
    · show ref15_Same_s1 none a b _ = _
      unfold ref15_Same_s1
      rw [if_neg (by rw [cm_lss]; simp)]
      rfl
    · show ref15_Same_s1 none a b _ = _
      unfold ref15_Same_s1
      rw [if_pos (by rw [cm_lss]; simpa using hi), bnd (ix_some (n := i) rfl hi), bnd (ix_some (n := i) rfl hi')]
      have : (!(a[i].pid == b[i].pid && (a[i].mask == b[i].mask && true))) = decide (a[i] ≠ b[i]) := by
        generalize a[i] = x; generalize b[i] = y
        cases x; cases y
        simp
        rfl
      rw [this]
      by_cases he : a[i] ≠ b[i]
      · rw [if_pos (by simpa using he), if_pos he]; rfl
      · rw [if_neg (by simpa using he), if_neg he, ar_add, w_i64 (by omega) (by omega)]
        rfl
  · rw [if_pos (by rw [cm_neq]; simp; omega)]
    have : a ≠ b := fun e => h (by rw [e])
    simp [this]
end Xb

namespace Xb
open Go

/-- the least exponent -/
def leastS : Nat → Int → Int × Int
  | 0, m => (0, m)
  | e + 1, m => if m < 131072 then leastS e (2 * m) else ((e + 1 : Nat), m)

theorem leastS_zero : ∀ e, leastS e 0 = (0, 0)
  | 0 => rfl
  | e + 1 => by rw [leastS, if_pos (by omega)]; exact leastS_zero e

theorem leastS_ok : ∀ (e : Nat) (m : Int), 0 ≤ m → m < 262144 →
    0 ≤ (leastS e m).1 ∧ (leastS e m).1 ≤ e ∧ 0 ≤ (leastS e m).2 ∧ (leastS e m).2 < 262144 ∧ ((leastS e m).1 = 0 ∨ 131072 ≤ (leastS e m).2)
  | 0, m, h0, h1 => ⟨by simp [leastS], by simp [leastS], h0, h1, .inl rfl⟩
  | e + 1, m, h0, h1 => by
    rw [leastS]
    by_cases h : m < 131072
    · rw [if_pos h]
      have := leastS_ok e (2 * m) (by omega) (by omega)
      omega
    · rw [if_neg h]
      refine ⟨?_, ?_, h0, h1, .inr ?_⟩
      · show (0 : Int) ≤ (e + 1 : Nat); omega
      · show ((e + 1 : Nat) : Int) ≤ (e + 1 : Nat); omega
      · show (131072 : Int) ≤ m; omega

theorem leastS_id {e : Nat} {m : Int} (h : e = 0 ∨ 131072 ≤ m) : leastS e m = ((e : Int), m) := by
  cases e with
  | zero => rfl
  | succ e => rw [leastS, if_neg (by omega)]

theorem leastS_of : ∀ (e n : Nat) (m : Int), 1 ≤ n → n ≤ 18 → 2 ^ (n - 1) ≤ m → m < 2 ^ n →
    leastS e m = (((e - min e (18 - n) : Nat) : Int), m * 2 ^ (min e (18 - n)))
  | 0, n, m, _, _, _, _ => by simp [leastS]
  | e + 1, n, m, h1, h2, h3, h4 => by
    rw [leastS]
    by_cases h : m < 131072
    · have hn : n ≤ 17 := by
        rcases Nat.lt_or_ge 17 n with hh | hh
        · have : n = 18 := by omega
          subst this; simp at h3; omega
        · exact hh
      have e1 : (2 : Int) ^ (n - 1 + 1) = 2 ^ (n - 1) * 2 := Int.pow_succ _ _
      have e2 : (2 : Int) ^ (n + 1) = 2 ^ n * 2 := Int.pow_succ _ _
      have e0 : n - 1 + 1 = n := by omega
      rw [e0] at e1
      rw [if_pos h, leastS_of e (n + 1) (2 * m) (by omega) (by omega) (by show (2 : Int) ^ n ≤ _; omega) (by omega)]
      have e3 : min (e + 1) (18 - n) = min e (18 - (n + 1)) + 1 := by omega
      rw [e3, Int.pow_succ]
      congr 1
      · omega
      · rw [Int.mul_comm 2 m, Int.mul_assoc, Int.mul_comm 2]
    · have hn : n = 18 := by
        rcases Nat.lt_or_ge n 18 with hh | hh
        · have : (2 : Int) ^ n ≤ 2 ^ 17 := by have := Nat.pow_le_pow_right (n := 2) (by omega) (show n ≤ 17 by omega); exact_mod_cast this
          omega
        · omega
      subst hn
      rw [if_neg h]; simp

def lenT : List UInt8 := ([0, 1, 2, 2, 3, 3, 3, 3, 4, 4, 4, 4, 4, 4, 4, 4, 5, 5, 5, 5, 5, 5, 5, 5, 5, 5, 5, 5, 5, 5, 5, 5, 6, 6, 6, 6, 6, 6, 6, 6, 6, 6, 6, 6, 6, 6, 6, 6, 6, 6, 6, 6, 6, 6, 6, 6, 6, 6, 6, 6, 6, 6, 6, 6, 7, 7, 7, 7, 7, 7, 7, 7, 7, 7, 7, 7, 7, 7, 7, 7, 7, 7, 7, 7, 7, 7, 7, 7, 7, 7, 7, 7, 7, 7, 7, 7, 7, 7, 7, 7, 7, 7, 7, 7, 7, 7, 7, 7, 7, 7, 7, 7, 7, 7, 7, 7, 7, 7, 7, 7, 7, 7, 7, 7, 7, 7, 7, 7, 8, 8, 8, 8, 8, 8, 8, 8, 8, 8, 8, 8, 8, 8, 8, 8, 8, 8, 8, 8, 8, 8, 8, 8, 8, 8, 8, 8, 8, 8, 8, 8, 8, 8, 8, 8, 8, 8, 8, 8, 8, 8, 8, 8, 8, 8, 8, 8, 8, 8, 8, 8, 8, 8, 8, 8, 8, 8, 8, 8, 8, 8, 8, 8, 8, 8, 8, 8, 8, 8, 8, 8, 8, 8, 8, 8, 8, 8, 8, 8, 8, 8, 8, 8, 8, 8, 8, 8, 8, 8, 8, 8, 8, 8, 8, 8, 8, 8, 8, 8, 8, 8, 8, 8, 8, 8, 8, 8, 8, 8, 8, 8, 8, 8, 8, 8, 8, 8, 8, 8, 8, 8, 8, 8, 8, 8, 8, 8] : List UInt8)
theorem lenT_ok : ∀ i : Fin 256, 1 ≤ i.val → lenT.length = 256 ∧ 1 ≤ (lenT.getD i.val 0).toNat ∧ (lenT.getD i.val 0).toNat ≤ 8 ∧ 2 ^ ((lenT.getD i.val 0).toNat - 1) ≤ i.val ∧ i.val < 2 ^ (lenT.getD i.val 0).toNat := by decide +kernel
theorem j2_eq {i : Nat} (h1 : 1 ≤ i) (h2 : i < 256) {v4 : Int} (h4 : 0 ≤ v4 ∧ v4 ≤ 100) : ∃ n : Nat, math_bits_Len32_j2 (i : Int) v4 = some (v4 + n) ∧ 1 ≤ n ∧ n ≤ 8 ∧ 2 ^ (n - 1) ≤ i ∧ i < 2 ^ n := by
  obtain ⟨hl, k1, k2, k3, k4⟩ := lenT_ok ⟨i, h2⟩ h1
  refine ⟨(lenT.getD i 0).toNat, ?_, k1, k2, k3, k4⟩
  unfold math_bits_Len32_j2
  have e0 : IntKind.u8.wrap (i : Int) = i := w_u8 (by omega) (by omega)
  have e : ix lenT (i : Int) = some (lenT.getD i 0) := by
    rw [ix_some (n := i) rfl (by rw [hl]; exact h2), List.getD_eq_getElem?_getD, List.getElem?_eq_getElem (by rw [hl]; exact h2)]; rfl
  show Option.bind (ix lenT (IntKind.u8.wrap (i : Int))) _ = _
  rw [e0, bnd e]
  simp only at k2
  rw [ar_add, w_i64 (n := ((lenT.getD i 0).toNat : Int)) (by omega) (by omega), w_i64 (by omega) (by omega)]
theorem pw_mul {n k : Nat} (h : 1 ≤ n) : 2 ^ (n + k - 1) = 2 ^ (n - 1) * 2 ^ k := by
  rw [← Nat.pow_add]; congr 1; omega
theorem len_eq {m : Nat} (h1 : 1 ≤ m) (h2 : m < 262144) : ∃ n : Nat, math_bits_Len32 (m : Int) = some (n : Int) ∧ 1 ≤ n ∧ n ≤ 18 ∧ 2 ^ (n - 1) ≤ m ∧ m < 2 ^ n := by
  have bound : ∀ n, 2 ^ (n - 1) ≤ m → n ≤ 18 := fun n h => by
    rcases Nat.lt_or_ge 18 n with hh | hh
    · have : 2 ^ 18 ≤ 2 ^ (n - 1) := Nat.pow_le_pow_right (by omega) (by omega)
      omega
    · exact hh
  unfold math_bits_Len32
  by_cases c : 65536 ≤ m
  · rw [if_pos (by rw [cm_geq]; exact decide_eq_true (by omega)), sf_shr (y := 16) (n := 16) rfl (by decide)]
    have e : (m : Int) / 2 ^ 16 = ((m / 65536 : Nat) : Int) := by simp
    rw [e]
    unfold math_bits_Len32_j1
    rw [if_neg (by rw [cm_geq]; simp; omega)]
    obtain ⟨n, hn, k1, k2, k3, k4⟩ := j2_eq (i := m / 65536) (by omega) (by omega) (v4 := 16) (by omega)
    have a1 : 2 ^ (n + 16 - 1) = 2 ^ (n - 1) * 2 ^ 16 := pw_mul k1
    have a2 : 2 ^ (n + 16) = 2 ^ n * 2 ^ 16 := Nat.pow_add _ _ _
    have b1 : 2 ^ (n + 16 - 1) ≤ m := by rw [a1]; omega
    refine ⟨n + 16, ?_, by omega, bound _ b1, b1, by rw [a2]; omega⟩
    rw [hn]; congr 1; omega
  · rw [if_neg (by rw [cm_geq]; simp; omega)]
    unfold math_bits_Len32_j1
    by_cases d : 256 ≤ m
    · rw [if_pos (by rw [cm_geq]; exact decide_eq_true (by omega)), sf_shr (y := 8) (n := 8) rfl (by decide), ar_add, w_i64 (by omega) (by omega)]
      have e : (m : Int) / 2 ^ 8 = ((m / 256 : Nat) : Int) := by simp
      rw [e]
      obtain ⟨n, hn, k1, k2, k3, k4⟩ := j2_eq (i := m / 256) (by omega) (by omega) (v4 := 0 + 8) (by omega)
      have a1 : 2 ^ (n + 8 - 1) = 2 ^ (n - 1) * 2 ^ 8 := pw_mul k1
      have a2 : 2 ^ (n + 8) = 2 ^ n * 2 ^ 8 := Nat.pow_add _ _ _
      have b1 : 2 ^ (n + 8 - 1) ≤ m := by rw [a1]; omega
      refine ⟨n + 8, ?_, by omega, bound _ b1, b1, by rw [a2]; omega⟩
      rw [hn]; congr 1; omega
    · rw [if_neg (by rw [cm_geq]; simp; omega)]
      obtain ⟨n, hn, k1, k2, k3, k4⟩ := j2_eq (i := m) (by omega) (by omega) (v4 := 0) (by omega)
      refine ⟨n, ?_, k1, by omega, k3, k4⟩
      rw [hn]; congr 1; omega

theorem least_eq {e : Nat} {m : Int} (he : e ≤ 100) (h0 : 0 ≤ m) (h1 : m < 262144) : remb_least (e : Int) m = some (leastS e m) := by
  unfold remb_least
  by_cases hz : m = 0
  · subst hz
    rw [if_pos (by decide), leastS_zero]
  · rw [if_neg (by rw [cm_eql]; simpa using hz)]
    obtain ⟨n, hn, k1, k2, k3, k4⟩ := len_eq (m := m.toNat) (by omega) (by omega)
    have em : (m.toNat : Int) = m := by omega
    rw [em] at hn
    have k3' : (2 : Int) ^ (n - 1) ≤ m := by rw [← em]; exact_mod_cast k3
    have k4' : m < (2 : Int) ^ n := by rw [← em]; exact_mod_cast k4
    have hl := leastS_of e n m k1 k2 k3' k4'
    have hok := leastS_ok e m h0 h1
    rw [bnd hn, ar_sub, w_i64 (by omega) (by omega)]
    have e1 : imin (e : Int) (18 - (n : Int)) = ((min e (18 - n) : Nat) : Int) := by
      have : (18 : Int) - n = ((18 - n : Nat) : Int) := by omega
      rw [this]; exact imin_nat
    rw [e1, sfO_nn (by omega), sf_shl (y := ((min e (18 - n) : Nat) : Int)) (n := min e (18 - n)) rfl (by show _ ≤ 32; omega)]
    rw [hl] at hok ⊢
    simp only at hok
    rw [w_u32 (by omega) (by omega), ar_sub, w_i64 (by omega) (by omega)]
    simp only [Option.bind_some]
    congr 2
    omega
end Xb

namespace Xb
open Go

def RightR (r : Rate) : Prop := 0 ≤ r.exp ∧ r.exp ≤ 63 ∧ r.mant < 262144 ∧ (r.exp = 0 ∨ 131072 ≤ r.mant) ∧ r.srcs.length ≤ 255
instance (r : Rate) : Decidable (RightR r) := inferInstanceAs (Decidable (_ ∧ _))
def GoodR (r : Rate) : Prop := 0 ≤ r.mant ∧ r.mant ≤ 4294967295 ∧ ∀ x, x ∈ r.srcs → 0 ≤ x ∧ x ≤ 4294967295
theorem goodR_of {r : Rate} (h : wf_Rate r) : GoodR r := ⟨(in_u32.1 h.2.1).1, (in_u32.1 h.2.1).2, fun x hx => in_u32.1 (h.2.2.2 x hx)⟩

theorem rembRight_eq {r : Rate} (hg : GoodR r) : remb_Right r = decide (RightR r) := by
  unfold remb_Right
  have e : sf .shr .u32 r.mant 18 = r.mant / 2 ^ 18 := sf_shr (y := 18) (n := 18) rfl (by decide)
  have hm := hg.1
  rw [e, cm_geq, cm_leq, cm_eql, cm_eql, cm_geq, cm_leq]
  rw [Bool.eq_iff_iff, decide_eq_true_iff (p := RightR r)]
  simp only [Bool.and_eq_true, Bool.or_eq_true, decide_eq_true_eq]
  constructor
  · rintro ⟨⟨⟨⟨a, b⟩, c⟩, d⟩, e⟩; exact ⟨a, b, by omega, d, by omega⟩
  · rintro ⟨a, b, c, d, e⟩; exact ⟨⟨⟨⟨a, b⟩, by omega⟩, d⟩, by omega⟩

def headR (r : Rate) : List Int := [82, 69, 77, 66, (r.srcs.length : Int)] ++ beN 3 (r.exp * 262144 + r.mant)
def writeR (r : Rate) : List Int := headR r ++ r.srcs.flatMap (beN 4)
theorem headR_len (r : Rate) : (headR r).length = 8 := by simp [headR, beN_len]
theorem be4_len (v : Int) : (beN 4 v).length = 4 := beN_len 4 v
theorem writeR_len (r : Rate) : (writeR r).length = 8 + 4 * r.srcs.length := by unfold writeR; rw [List.length_append, headR_len, flat_lenG be4_len]
theorem headR_oct {r : Rate} (hr : RightR r) : oct (headR r) := by
  have := hr.2.2.2.2
  refine oct.app (fun x hx => ?_) (beN_byte _ _)
  simp only [List.mem_cons, List.not_mem_nil, or_false] at hx
  omega
theorem writeR_oct {r : Rate} (hr : RightR r) : oct (writeR r) := (headR_oct hr).app (oct_flat fun _ _ => beN_byte _ _)

theorem writeR_eq {r : Rate} (hg : GoodR r) (_hl : r.srcs.length ≤ 1000000) : remb_Write none r = some (if RightR r then (writeR r, 0) else ([], 1)) := by
  unfold remb_Write
  rw [rembRight_eq hg]
  by_cases hr : RightR r
  · obtain ⟨h1, h2, h3, h4, h5⟩ := hr
    have hr : RightR r := ⟨h1, h2, h3, h4, h5⟩
    have hm := hg.1
    rw [decide_eq_true hr, if_neg (by decide), if_pos hr]
    have e1 : octet_Put (ar .or .u64 (sf .shl .u64 (IntKind.u64.wrap r.exp) 18) (IntKind.u64.wrap r.mant)) 3 = some (beN 3 (r.exp * 262144 + r.mant), 0) := by
      rw [w_u64 (by omega) (by omega), w_u64 (by omega) (by omega), sf_shl (y := 18) (n := 18) rfl (by decide), w_u64 (by omega) (by omega),
        ar_or_add (n := 18) (a := r.exp) rfl rfl (by omega) (by omega) (by omega) (by simp [IntKind.bits]; omega) (by decide)]
      exact put_eq (n := 3) (by omega) (by omega) (by omega) (.inr (by omega))
    rw [bnd e1, w_u8 (by omega) (by omega)]
    have e2 : octet_Join none [[82, 69, 77, 66], [(r.srcs.length : Int)], beN 3 (r.exp * 262144 + r.mant)] = some (headR r) := by
      unfold octet_Join
      rw [bnd (concat_eq (by simp) (by simp [beN_len]))]
      simp [headR]
    rw [bnd e2]
    unfold remb_Write_l1
    have := loop_seq (step := fun (s : List Int × Int) => remb_Write_s1 none r s.1 s.2) (r := (writeR r, 0)) (fun i => (headR r ++ (r.srcs.take i).flatMap (beN 4), (i : Int))) r.srcs.length (fun i hi => by
      show remb_Write_s1 none r (headR r ++ (r.srcs.take i).flatMap (beN 4)) (i : Int) = _
      have hx := hg.2.2 _ (List.getElem_mem hi)
      unfold remb_Write_s1
      have e3 : octet_Put (IntKind.u64.wrap r.srcs[i]) 4 = some (beN 4 r.srcs[i], 0) := by
        rw [w_u64 (by omega) (by omega)]
        exact put_eq (n := 4) (by omega) (by omega) (by omega) (.inr (by omega))
      rw [if_pos (by rw [cm_lss]; simpa using hi), bnd (ix_some (n := i) rfl hi), bnd e3,
        bnd (app_some (by rw [List.length_append, headR_len, flat_lenG be4_len, beN_len, List.length_take]; omega)), ar_add, w_i64 (by omega) (by omega), List.append_assoc, take_flat (beN 4) r.srcs i hi]
      rfl) (by
      show remb_Write_s1 none r _ _ = _
      unfold remb_Write_s1
      rw [if_neg (by rw [cm_lss]; simp)]
      simp [writeR])
    simpa using this
  · rw [decide_eq_false hr, if_pos (by decide), if_neg hr]

def rembL : List Int := [82, 69, 77, 66]
def vR (b : List Int) : Int := numB ((b.drop 5).take 3)
def zeroR : Rate := ⟨0, 0, []⟩
def readR (b : List Int) : Except Int Rate :=
  if 65520 < b.length ∨ b.length % 4 ≠ 0 then .error 4
  else if b.length < 8 then .error 2
  else if b.take 4 ≠ rembL then .error 6
  else if ((b.length / 4 - 2 : Nat) : Int) < b.getD 4 0 then .error 2
  else if b.getD 4 0 < ((b.length / 4 - 2 : Nat) : Int) then .error 4
  else .ok ⟨(leastS (vR b / 262144).toNat (vR b % 262144)).1, (leastS (vR b / 262144).toNat (vR b % 262144)).2, (chunksL 4 (b.drop 8)).map numB⟩
def rdRR (b : List Int) : Rate × Int := match readR b with | .ok r => (r, 0) | .error e => (zeroR, e)
theorem readR_err {b : List Int} {e : Int} (h : readR b = .error e) : e ≠ 0 := by
  unfold readR at h
  split at h
  · cases h; decide
  split at h
  · cases h; decide
  split at h
  · cases h; decide
  split at h
  · cases h; decide
  split at h
  · cases h; decide
  cases h
theorem vR_bd {b : List Int} (hb : oct b) (h8 : 8 ≤ b.length) : 0 ≤ vR b ∧ vR b < 16777216 := by
  have h := numB_bd ((b.drop 5).take 3) ((oct.drop hb 5).take 3)
  have hl : ((b.drop 5).take 3).length = 3 := by rw [List.length_take, List.length_drop]; omega
  rw [hl] at h
  exact ⟨h.1, by have := h.2; unfold vR; omega⟩
theorem told_eqR {b : List Int} (hb : oct b) (h8 : 8 ≤ b.length) (hl : b.length ≤ 1000000) : remb_told none b = some (vR b / 262144, vR b % 262144) := by
  have h1 : octet_Get none b 5 3 = some (vR b, 0) := get_eq (at_ := 5) (n := 3) (by omega) (by omega) hb (by omega) (by omega)
  have hv := vR_bd hb h8
  unfold remb_told
  rw [bnd h1]
  have e1 : sf .shr .u64 (vR b) 18 = vR b / 2 ^ 18 := sf_shr (y := 18) (n := 18) rfl (by decide)
  have e2 : ar .and .u64 (vR b) 262143 = vR b % 2 ^ 18 := ar_mask (k := .u64) (n := 18) rfl rfl (by decide) hv.1 (by show vR b < 2 ^ 64; omega)
  simp only [e1, e2]
  rw [w_i64 (by omega) (by omega), w_u32 (by omega) (by omega)]
  rfl
theorem fold_rate {e m : Int} : ∀ (l : List (List Int)) (s : List Int), (∀ c, c ∈ l → c.length = 4 ∧ oct c) → s.length + l.length ≤ 1000000 →
    foldX (fun (y2 : List Int) (s : Rate) => remb_Read_s2 none y2 s) (fun (s : Rate) => remb_Read_d2 none s) l (Rate.mk e m s) = some (Rate.mk e m (s ++ l.map numB), 0)
  | [], s, _, _ => by simp [foldX, remb_Read_d2]
  | c :: l, s, h, hn => by
    simp only [List.length_cons] at hn
    obtain ⟨hc4, hco⟩ := h c (by simp)
    have h1 : octet_Get none c 0 4 = some (numB (c.take 4), 0) := get_eq (at_ := 0) (n := 4) (by omega) (by omega) hco (by omega) (by omega)
    have ht : c.take 4 = c := List.take_of_length_le (by omega)
    have h3 := numB_bd c hco
    rw [hc4] at h3
    have st : remb_Read_s2 none c (Rate.mk e m s) = some (.inl (Rate.mk e m (s ++ [numB c]))) := by
      unfold remb_Read_s2
      rw [bnd h1, ht]
      have w : IntKind.u32.wrap (numB c) = numB c := w_u32 (by omega) (by omega)
      simp only [w]
      rw [bnd (app_some (by simp; omega))]
    simp only [foldX, st]
    rw [fold_rate l _ (fun y hy => h y (by simp [hy])) (by simp; omega)]
    simp
theorem remb_neq {b : List Int} (hb : oct b) : sc .neq (b2s (b.take 4)) ([82, 69, 77, 66] : List UInt8) = decide (b.take 4 ≠ rembL) := by
  have e : ([82, 69, 77, 66] : List UInt8) = b2s rembL := by decide
  rw [e]
  have h : sc .neq (b2s (b.take 4)) (b2s rembL) = !(sc .eql (b2s (b.take 4)) (b2s rembL)) := by simp only [sc]
  rw [h, sc_b2s (oct.take hb 4) (by intro x hx; simp only [rembL, List.mem_cons, List.not_mem_nil, or_false] at hx; omega)]
  by_cases c : b.take 4 = rembL
  · simp [c]
  · simp [c]

theorem rread_j1 {b : List Int} (hb : oct b) (hl : b.length ≤ 1000000) (hv : ¬ (65520 < b.length ∨ b.length % 4 ≠ 0)) : remb_Read_j1 none b false = some (rdRR b) := by
  unfold remb_Read_j1 rdRR readR
  rw [if_neg (by decide), if_neg hv]
  by_cases h8 : b.length < 8
  · rw [if_pos (by rw [cm_lss]; exact decide_eq_true (by omega)), if_pos h8]; rfl
  rw [if_neg (by rw [cm_lss]; simp; omega), if_neg h8, bnd (sub_some (by omega) (by omega) (by omega))]
  have et : (b.drop (0 : Int).toNat).take ((4 : Int).toNat - (0 : Int).toNat) = b.take 4 := by simp
  rw [et, remb_neq hb]
  by_cases ht : b.take 4 ≠ rembL
  · rw [if_pos (decide_eq_true ht), if_pos ht]; rfl
  rw [if_neg (by simpa using ht), if_neg ht]
  have e4 : ix b 4 = some (b.getD 4 0) := ix_getD (by omega) (by omega)
  have hb4 : 0 ≤ b.getD 4 0 ∧ b.getD 4 0 ≤ 255 := by
    rw [List.getD_eq_getElem?_getD, List.getElem?_eq_getElem (by omega)]; exact hb _ (List.getElem_mem _)
  have eq4 : ar .sub .i64 (dv .quo .i64 (b.length : Int) 4) 2 = ((b.length / 4 - 2 : Nat) : Int) := by
    rw [dv_quo (by omega), w_i64 (by omega) (by omega), ar_sub, w_i64 (by omega) (by omega)]; omega
  rw [bnd e4, eq4, w_i64 (by omega) (by omega), bnd e4, w_i64 (by omega) (by omega), cm_lss, cm_gtr]
  by_cases h5 : ((b.length / 4 - 2 : Nat) : Int) < b.getD 4 0
  · rw [if_pos (decide_eq_true h5), if_pos h5]; rfl
  rw [if_neg (by simpa using h5), if_neg h5]
  by_cases h6 : b.getD 4 0 < ((b.length / 4 - 2 : Nat) : Int)
  · rw [if_pos (decide_eq_true h6), if_pos h6]; rfl
  rw [if_neg (by simpa using h6), if_neg h6]
  have hvb := vR_bd hb (by omega)
  rw [bnd (told_eqR hb (by omega) hl)]
  have ee : vR b / 262144 = (((vR b / 262144).toNat : Nat) : Int) := by omega
  have el := least_eq (e := (vR b / 262144).toNat) (m := vR b % 262144) (by omega) (by omega) (by omega)
  rw [← ee] at el
  simp only
  rw [bnd el, bnd (sub_some (by omega) (by omega) (by omega))]
  have ed : (b.drop (8 : Int).toNat).take ((b.length : Int).toNat - (8 : Int).toNat) = b.drop 8 := by
    apply List.take_of_length_le; rw [List.length_drop]; simp
  rw [ed, bnd (lnO_okF (by rw [List.length_drop]; omega))]
  unfold remb_Read_l2
  have hd4 : (b.drop 8).length % 4 = 0 := by rw [List.length_drop]; omega
  rw [fold_rate (chunksL 4 (b.drop 8)) [] (fun c hc => ⟨chunks_len (by omega) hd4 c hc, fun x hx => hb x (List.mem_of_mem_drop (chunks_mem hc hx))⟩)
    (by rw [chunks_count (by omega) hd4, List.length_drop]; simp; omega)]
  simp

theorem readR_eq {b : List Int} (hb : oct b) (hl : b.length ≤ 1000000) : remb_Read none b = some (rdRR b) := by
  unfold remb_Read
  by_cases h1 : b.length > 65520
  · have c1 : cm .gtr (b.length : Int) 65520 = true := by rw [cm_gtr]; simp; omega
    rw [c1, if_pos rfl]
    unfold remb_Read_j1 rdRR readR
    rw [if_pos rfl, if_pos (.inl h1)]; rfl
  · have c1 : cm .gtr (b.length : Int) 65520 = false := by rw [cm_gtr]; simp; omega
    rw [c1, if_neg (by decide), dv_rem (by omega)]
    by_cases h2 : b.length % 4 = 0
    · have c2 : cm .gtr ((b.length : Int) % 4) 0 = false := by rw [cm_gtr]; simp; omega
      rw [c2]
      exact rread_j1 hb hl (by omega)
    · have c2 : cm .gtr ((b.length : Int) % 4) 0 = true := by rw [cm_gtr]; simp; omega
      rw [c2]
      unfold remb_Read_j1 rdRR readR
      rw [if_pos rfl, if_pos (.inr h2)]; rfl

/-- what was read -/
theorem readR_ok {b : List Int} (hb : oct b) {r : Rate} (h : readR b = .ok r) :
    b.length ≤ 65520 ∧ b.length % 4 = 0 ∧ 8 ≤ b.length ∧ b.take 4 = rembL ∧ b.getD 4 0 = r.srcs.length ∧ r.srcs = (chunksL 4 (b.drop 8)).map numB ∧
    r.exp = (leastS (vR b / 262144).toNat (vR b % 262144)).1 ∧ r.mant = (leastS (vR b / 262144).toNat (vR b % 262144)).2 ∧ RightR r ∧ GoodR r := by
  unfold readR at h
  split at h
  · cases h
  rename_i h1
  split at h
  · cases h
  rename_i h2
  split at h
  · cases h
  rename_i h3
  split at h
  · cases h
  rename_i h4
  split at h
  · cases h
  rename_i h5
  cases h
  have hv := vR_bd hb (by omega)
  have hd4 : (b.drop 8).length % 4 = 0 := by rw [List.length_drop]; omega
  have hcnt := chunks_count (n := 4) (by omega) hd4
  rw [List.length_drop] at hcnt
  have hb4 : 0 ≤ b.getD 4 0 ∧ b.getD 4 0 ≤ 255 := by
    rw [List.getD_eq_getElem?_getD, List.getElem?_eq_getElem (by omega)]; exact hb _ (List.getElem_mem _)
  have hok := leastS_ok (vR b / 262144).toNat (vR b % 262144) (by omega) (by omega)
  have hcs : b.getD 4 0 = (((chunksL 4 (b.drop 8)).map numB).length : Int) := by rw [List.length_map]; omega
  refine ⟨by omega, by omega, by omega, ?_, hcs, rfl, rfl, rfl, ⟨hok.1, ?_, hok.2.2.2.1, hok.2.2.2.2, ?_⟩, ⟨hok.2.2.1, ?_, fun x hx => ?_⟩⟩
  · exact Decidable.not_not.1 h3
  · show (leastS (vR b / 262144).toNat (vR b % 262144)).1 ≤ 63; omega
  · show ((chunksL 4 (b.drop 8)).map numB).length ≤ 255; omega
  · show (leastS (vR b / 262144).toNat (vR b % 262144)).2 ≤ 4294967295; omega
  · obtain ⟨c, hc, rfl⟩ := List.mem_map.1 hx
    have := numB_bd c (fun x hx => hb x (List.mem_of_mem_drop (chunks_mem hc hx)))
    rw [chunks_len (by omega) hd4 c hc] at this
    omega

theorem read_writeR {r : Rate} (hg : GoodR r) (hr : RightR r) : readR (writeR r) = .ok r := by
  obtain ⟨h1, h2, h3, h4, h5⟩ := hr
  have hr : RightR r := ⟨h1, h2, h3, h4, h5⟩
  have hl := writeR_len r
  have hm := hg.1
  have hv : vR (writeR r) = r.exp * 262144 + r.mant := by
    have : ((writeR r).drop 5).take 3 = beN 3 (r.exp * 262144 + r.mant) := by
      unfold writeR headR
      simp only [List.cons_append, List.nil_append, List.drop_succ_cons, List.drop_zero, List.append_assoc]
      exact List.take_left' (beN_len 3 _)
    unfold vR
    rw [this, num_be 3 _ (by omega) (by omega)]
  have hd : (writeR r).drop 8 = r.srcs.flatMap (beN 4) := by
    unfold writeR; exact List.drop_left' (headR_len r)
  have h4' : (writeR r).getD 4 0 = (r.srcs.length : Int) := by simp [writeR, headR]
  have e1 : (r.exp * 262144 + r.mant) / 262144 = r.exp := by omega
  have e2 : (r.exp * 262144 + r.mant) % 262144 = r.mant := by omega
  unfold readR
  rw [if_neg (by omega), if_neg (by omega), if_neg (by simp [writeR, headR, rembL]), h4', if_neg (by omega), if_neg (by omega), hv, hd, e1, e2,
    leastS_id (by omega), chunks_encG (by omega) be4_len, map_id_of fun a ha => num_be 4 a (hg.2.2 a ha).1 (by have := (hg.2.2 a ha).2; omega)]
  have e3 : ((r.exp.toNat : Nat) : Int) = r.exp := by omega
  rw [e3]

def canonR (b : List Int) : Bool := match readR b with | .ok r => decide (vR b / 262144 = r.exp ∧ vR b % 262144 = r.mant) | .error _ => false
theorem canonR_eq {b : List Int} (hb : oct b) (hl : b.length ≤ 1000000) : remb_Canon none b = some (canonR b) := by
  unfold remb_Canon canonR
  rw [bnd (readR_eq hb hl)]
  unfold rdRR
  cases hr : readR b with
  | error e =>
    have he := readR_err hr
    rw [if_pos (by rw [cm_neq]; simpa using he)]
  | ok r =>
    obtain ⟨k1, k2, k3, _⟩ := readR_ok hb hr
    have c0 : cm .neq (0 : Int) 0 = false := by decide
    simp only [c0]
    rw [if_neg (by decide), bnd (told_eqR hb (by omega) hl)]
    simp only [cm_eql, Bool.decide_and]
theorem canon_writeR {b : List Int} (hb : oct b) {r : Rate} (h : readR b = .ok r) : canonR b = true ↔ writeR r = b := by
  obtain ⟨k1, k2, k3, k4, k5, k6, k7, k8, k9, k10⟩ := readR_ok hb h
  have hv := vR_bd hb k3
  have hd4 : (b.drop 8).length % 4 = 0 := by rw [List.length_drop]; omega
  have hfl : r.srcs.flatMap (beN 4) = b.drop 8 := by
    rw [k6, flat_decG (f := beN 4) (g := numB) (L := chunksL 4 (b.drop 8)) (fun c hc => by
      have := be_num c (fun x hx => hb x (List.mem_of_mem_drop (chunks_mem hc hx)))
      rwa [chunks_len (by omega) hd4 c hc] at this), chunks_flat (by omega)]
  have hbb : b = rembL ++ [b.getD 4 0] ++ beN 3 (vR b) ++ b.drop 8 := by
    have e3 : beN 3 (vR b) = (b.drop 5).take 3 := by
      have := be_num ((b.drop 5).take 3) ((oct.drop hb 5).take 3)
      rwa [show ((b.drop 5).take 3).length = 3 by rw [List.length_take, List.length_drop]; omega] at this
    have e4 : [b.getD 4 0] = (b.drop 4).take 1 := by
      rw [List.getD_eq_getElem?_getD, List.getElem?_eq_getElem (by omega), List.take_one, List.head?_drop, List.getElem?_eq_getElem (by omega)]; rfl
    rw [e3, e4, ← k4]
    have j1 : b.drop 5 = (b.drop 5).take 3 ++ b.drop 8 := by
      conv => lhs; rw [← List.take_append_drop 3 (b.drop 5)]
      rw [List.drop_drop]
    have j2 : b.drop 4 = (b.drop 4).take 1 ++ b.drop 5 := by
      conv => lhs; rw [← List.take_append_drop 1 (b.drop 4)]
      rw [List.drop_drop]
    rw [List.append_assoc, ← j1, List.append_assoc, ← j2, List.take_append_drop]
  unfold canonR
  rw [h]
  simp only [decide_eq_true_eq]
  constructor
  · rintro ⟨a, c⟩
    conv => rhs; rw [hbb]
    unfold writeR headR rembL
    rw [hfl, k5, ← a, ← c]
    have : vR b / 262144 * 262144 + vR b % 262144 = vR b := by omega
    rw [this]; rfl
  · intro e
    have hw : vR (writeR r) = r.exp * 262144 + r.mant := by
      have : ((writeR r).drop 5).take 3 = beN 3 (r.exp * 262144 + r.mant) := by
        unfold writeR headR
        simp only [List.cons_append, List.nil_append, List.drop_succ_cons, List.drop_zero, List.append_assoc]
        exact List.take_left' (beN_len 3 _)
      obtain ⟨h1, h2, h3, h4, h5⟩ := k9
      have := k10.1
      unfold vR
      rw [‹((writeR r).drop 5).take 3 = _›, num_be 3 _ (by omega) (by omega)]
    rw [e] at hw
    obtain ⟨h1, h2, h3, h4, h5⟩ := k9
    have := k10.1
    omega

theorem numsR_eq (a b : List Int) (hl : a.length ≤ 1000000) : ref05_Numbers none a b = some (decide (a = b)) := by
  unfold ref05_Numbers
  by_cases h : a.length = b.length
  · rw [if_neg (by rw [cm_neq]; simp; omega)]
    unfold ref05_Numbers_l1
    refine same_loop h (step := fun s => ref05_Numbers_s1 none a b s) ?_ fun i hi hi' => ?_
    · show ref05_Numbers_s1 none a b _ = _
      unfold ref05_Numbers_s1
      rw [if_neg (by rw [cm_lss]; simp)]
      rfl
    · show ref05_Numbers_s1 none a b _ = _
      unfold ref05_Numbers_s1
      rw [if_pos (by rw [cm_lss]; simpa using hi), bnd (ix_some (n := i) rfl hi), bnd (ix_some (n := i) rfl hi')]
      rw [cm_neq]
      by_cases he : a[i] ≠ b[i]
      · rw [if_pos (by simpa using he), if_pos he]; rfl
      · rw [if_neg (by simpa using he), if_neg he, ar_add, w_i64 (by omega) (by omega)]
        rfl
  · rw [if_pos (by rw [cm_neq]; simp; omega)]
    have : a ≠ b := fun e => h (by rw [e])
    simp [this]
theorem sameR_eq (a b : Rate) (hl : a.srcs.length ≤ 1000000) : ref17_Same none a b = some (decide (a = b)) := by
  unfold ref17_Same
  rw [numsR_eq _ _ hl, cm_eql, cm_eql]
  cases a with
  | mk e m s =>
  cases b with
  | mk e' m' s' =>
  simp only [Rate.mk.injEq]
  by_cases h1 : e = e' <;> by_cases h2 : m = m' <;> simp [h1, h2, gT]
end Xb

