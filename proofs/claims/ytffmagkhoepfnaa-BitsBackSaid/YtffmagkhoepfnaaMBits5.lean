/- Own text: MBits5. -/
import Derived.Test.YtffmagkhoepfnaaMBits4
set_option linter.all false
set_option linter.unusedVariables false
set_option linter.unusedSimpArgs false
set_option linter.unnecessarySimpa false
set_option linter.deprecated false
namespace Xb
open Go

def addL (b : List Int) (x : Int) : List Int := b.set (b.length - 1) (lastB b + x)
def grow (b : List Int) (m : Nat) : List Int := if m % 8 = 0 then b ++ [0] else b
def putB (b : List Int) (m : Nat) (x : Int) : List Int := addL (grow b m) (x * 2 ^ (7 - m % 8))
def PB (b : List Int) (m : Nat) (v : Int) (n : Nat) : Nat → List Int
  | 0 => b
  | j + 1 => putB (PB b m v n j) (m + j) (v / 2 ^ (n - (j + 1)) % 2)

theorem len_addL (b : List Int) (x : Int) : (addL b x).length = b.length := by simp [addL]
theorem lastB_addL {b : List Int} (h : b ≠ []) (x : Int) : lastB (addL b x) = lastB b + x := by
  have : 0 < b.length := List.length_pos_iff.2 h
  simp only [lastB, addL, List.length_set, List.getD]
  rw [List.getElem?_set_self (by omega)]
  simp
theorem addL_addL {b : List Int} (h : b ≠ []) (x y : Int) : addL (addL b x) y = addL b (x + y) := by
  have e := lastB_addL h x
  simp only [addL] at e ⊢
  rw [e]
  simp only [List.length_set, List.set_set]
  congr 1; omega
theorem addL_ne {b : List Int} (h : b ≠ []) (x : Int) : addL b x ≠ [] := fun hh => by
  have := len_addL b x; rw [hh] at this; simp at this; exact h (List.eq_nil_of_length_eq_zero this.symm)
theorem lastB_app (b : List Int) (x : Int) : lastB (b ++ [x]) = x := by simp [lastB, List.getD]

theorem pow8 {r : Nat} (h : r ≤ 8) : (2 : Int) ^ r ≤ 256 ∧ 1 ≤ (2 : Int) ^ r := by
  have a : (2 : Nat) ^ r ≤ 2 ^ 8 := Nat.pow_le_pow_right (by omega) h
  have b : 1 ≤ 2 ^ r := Nat.one_le_two_pow
  rw [← pow_int]; omega

theorem top {r : Nat} (h : r ≤ 8) {y : Int} (h0 : 0 ≤ y) (h1 : y ≤ 255) (hz : y % 2 ^ r = 0) : y + 2 ^ r ≤ 256 := by
  have hr : r = 0 ∨ r = 1 ∨ r = 2 ∨ r = 3 ∨ r = 4 ∨ r = 5 ∨ r = 6 ∨ r = 7 ∨ r = 8 := by omega
  rcases hr with rfl | rfl | rfl | rfl | rfl | rfl | rfl | rfl | rfl <;> simp at hz ⊢ <;> omega

/-- a list with room in its last byte -/
structure Rm (b : List Int) (r : Nat) : Prop where
  ne : b ≠ []
  u8 : U8 b
  r8 : r ≤ 8
  low : lastB b % 2 ^ r = 0

theorem Rm.last {b : List Int} {r : Nat} (h : Rm b r) : 0 ≤ lastB b ∧ lastB b + 2 ^ r ≤ 256 := by
  have hg := h.u8.get (b.length - 1)
  exact ⟨hg.1, top h.r8 hg.1 hg.2 h.low⟩

theorem Rm.add {b : List Int} {r t : Nat} (h : Rm b r) (ht : t ≤ r) {w : Int} (h0 : 0 ≤ w) (h1 : w < 2 ^ t) : Rm (addL b (w * 2 ^ (r - t))) (r - t) ∧ w * 2 ^ (r - t) < 2 ^ r ∧ 0 ≤ w * 2 ^ (r - t) := by
  have hl := h.last
  have hp := pow8 (r := r - t) (by have := h.r8; omega)
  have e : (2 : Int) ^ r = 2 ^ t * 2 ^ (r - t) := by rw [← Int.pow_add]; congr 1; omega
  have hw0 : 0 ≤ w * 2 ^ (r - t) := Int.mul_nonneg h0 (by omega)
  have hw : w * 2 ^ (r - t) < 2 ^ r := by
    rw [e]; exact Int.mul_lt_mul_of_pos_right h1 (by omega)
  refine ⟨⟨addL_ne h.ne _, h.u8.set (by omega), by have := h.r8; omega, ?_⟩, hw, hw0⟩
  rw [lastB_addL h.ne]
  have hlow := h.low
  have : lastB b % 2 ^ (r - t) = 0 := by
    have hd : (2 : Int) ^ r ∣ lastB b := Int.dvd_of_emod_eq_zero hlow
    rw [e] at hd
    exact Int.emod_eq_zero_of_dvd (Int.dvd_trans (Int.dvd_mul_left _ _) hd)
  rw [Int.add_mul_emod_self_right]
  exact this

theorem OkB.grow {b : List Int} {m : Nat} (h : OkB b m) : Rm (grow b m) (8 - m % 8) ∧ 8 * (grow b m).length = m + (8 - m % 8) := by
  have h1 := h.le
  have h2 := h.ge
  unfold Xb.grow
  by_cases hm : m % 8 = 0
  · rw [if_pos hm]
    refine ⟨⟨by simp, h.u8.app (by intro y hy; simp at hy; omega), by omega, ?_⟩, by simp; omega⟩
    rw [lastB_app]; simp
  · rw [if_neg hm]
    have e : 8 * b.length - m = 8 - m % 8 := by omega
    refine ⟨⟨?_, h.u8, by omega, e ▸ h.low⟩, by omega⟩
    rintro rfl; simp at h1; omega

theorem OkB.put {b : List Int} {m : Nat} (h : OkB b m) {x : Int} (h0 : 0 ≤ x) (h1 : x ≤ 1) : OkB (putB b m x) (m + 1) := by
  obtain ⟨hr, hl⟩ := h.grow
  have ha := hr.add (t := 1) (by omega) h0 (by omega)
  have e : 8 - m % 8 - 1 = 7 - m % 8 := by omega
  rw [e] at ha
  have hlen := len_addL (Xb.grow b m) (x * 2 ^ (7 - m % 8))
  refine ⟨ha.1.u8, ?_, ?_, ?_⟩
  · unfold putB; omega
  · unfold putB; omega
  · have e2 : 8 * (putB b m x).length - (m + 1) = 7 - m % 8 := by unfold putB; omega
    rw [e2]; exact ha.1.low

theorem PB_ok {b : List Int} {m : Nat} (h : OkB b m) (v : Int) (n : Nat) : ∀ j, OkB (PB b m v n j) (m + j)
  | 0 => h
  | j + 1 => (PB_ok h v n j).put (by omega) (by omega)

/-- some bits into one byte -/
theorem PB_byte {b : List Int} {m : Nat} (h : OkB b m) (v : Int) (n j : Nat) : ∀ t, t + 1 ≤ 8 - (m + j) % 8 → j + (t + 1) ≤ n →
    PB b m v n (j + (t + 1)) = addL (grow (PB b m v n j) (m + j)) ((v / 2 ^ (n - (j + (t + 1))) % 2 ^ (t + 1)) * 2 ^ (8 - (m + j) % 8 - (t + 1)))
  | 0, h1, h2 => by
    show putB _ _ _ = _
    unfold putB
    have e : 8 - (m + j) % 8 - (0 + 1) = 7 - (m + j) % 8 := by omega
    rw [e]
    simp
  | t + 1, h1, h2 => by
    have ih := PB_byte h v n j t (by omega) (by omega)
    have hr := (PB_ok h v n j).grow.1
    have e1 : j + (t + 1 + 1) = (j + (t + 1)) + 1 := by omega
    rw [e1]
    show putB _ _ _ = _
    rw [ih]
    unfold putB
    have e2 : (m + (j + (t + 1))) % 8 = (m + j) % 8 + (t + 1) := by omega
    have hg : ∀ l : List Int, grow l (m + (j + (t + 1))) = l := fun l => by unfold grow; rw [if_neg (by omega)]
    rw [hg, e2, addL_addL hr.ne]
    congr 1
    have e3 : 8 - (m + j) % 8 - (t + 1) = (7 - ((m + j) % 8 + (t + 1))) + 1 := by omega
    have e4 : 8 - (m + j) % 8 - (t + 1 + 1) = 7 - ((m + j) % 8 + (t + 1)) := by omega
    have e5 : n - (j + (t + 1)) = (n - (j + (t + 1) + 1)) + 1 := by omega
    have p1 : (2 : Int) ^ (7 - ((m + j) % 8 + (t + 1)) + 1) = 2 ^ (7 - ((m + j) % 8 + (t + 1))) * 2 := Int.pow_succ _ _
    have p2 : (2 : Int) ^ (n - (j + (t + 1) + 1) + 1) = 2 ^ (n - (j + (t + 1) + 1)) * 2 := Int.pow_succ _ _
    rw [e3, e4, e5, p1, p2, ← mod_two (t := t + 1), ← Int.ediv_ediv_of_nonneg (Int.le_of_lt (Int.pow_pos (by omega))), Int.add_mul]
    congr 1
    rw [Int.mul_assoc _ 2, Int.mul_comm 2]

/-- a number of so many bits, written -/
def addK (k : Ink) (v n : Int) : Ink × Int :=
  if okK k = false ∨ n < 0 ∨ n > 64 then (k, 1)
  else if 2 ^ n.toNat ≤ v then (k, 6)
  else ({ bytes := PB k.bytes k.many.toNat v n.toNat n.toNat, many := k.many + n }, 0)

theorem bits_Add_eq {k : Ink} (hu : U8 k.bytes) (hl : k.bytes.length ≤ 100000000) (hm : inK .i64 k.many) {v : Int} (hv : inK .u64 v) (n : Int) : bits_Add none k v n = some (addK k v n) := by
  have hb : By k.bytes := ⟨hu, by omega⟩
  rw [in_u64] at hv
  unfold bits_Add addK
  rw [bnd (bits_Right_eq hb hm)]
  simp only [bits_Add_j1, cm_lss, cm_gtr]
  by_cases h1 : okK k = false ∨ n < 0 ∨ n > 64
  · rw [if_pos h1]
    rcases h1 with h1 | h1 | h1
    · simp [h1]
    · cases okK k <;> simp [h1]
    · cases okK k <;> simp
      by_cases h : n < 0 <;> simp [h]
      omega
  · rw [if_neg h1]
    simp only [not_or, Bool.not_eq_false, Int.not_lt] at h1
    obtain ⟨ho, h0, h64⟩ := h1
    have e1 : ¬ n < 0 := by omega
    have e2 : ¬ 64 < n := by omega
    simp only [ho, e1, e2, Bool.not_true, Bool.false_eq_true, if_false, decide_false, decide_eq_true_eq]
    obtain ⟨hok, hm0⟩ := okK_ok hu ho
    obtain ⟨N, rfl⟩ := Int.eq_ofNat_of_zero_le h0
    obtain ⟨V, rfl⟩ := Int.eq_ofNat_of_zero_le hv.1
    obtain ⟨m, hme⟩ := Int.eq_ofNat_of_zero_le hm0
    rw [bnd (len64_eq V (by omega))]
    simp only [Int.toNat_natCast]
    have hp64 := pow_le64 (n := N) (by omega)
    have hbl : (N : Int) < bl V ↔ (2 : Int) ^ N ≤ V := by
      rw [← pow_int]
      constructor
      · intro h
        by_cases hV : V = 0
        · subst hV; simp [bl] at h; omega
        · have a := bl_le hV
          have b : 2 ^ N ≤ 2 ^ (bl V - 1) := Nat.pow_le_pow_right (by omega) (by omega)
          omega
      · intro h
        have a := bl_lt V
        have b : 2 ^ N < 2 ^ bl V := by omega
        have := (Nat.pow_lt_pow_iff_right (a := 2) (by omega)).1 b
        omega
    by_cases h2 : (2 : Int) ^ N ≤ V
    · rw [if_pos (hbl.2 h2), if_pos h2]
    · rw [if_neg (fun h => h2 (hbl.1 h)), if_neg h2]
      have hcl : slices_Clone k.bytes = some k.bytes := by simp [slices_Clone, app]; omega
      rw [bnd hcl]
      unfold bits_Add_l2
      rw [hme] at hok ⊢
      simp only [Int.toNat_natCast] at hok ⊢
      obtain ⟨r, hr, hq⟩ := loop_inv (step := fun (s : Int × List Int × Ink) => bits_Add_s2 none V s.1 s.2.1 s.2.2) (Q := fun r => r = (({ bytes := PB k.bytes m V N N, many := (m : Int) + N } : Ink), (0 : Int)))
        (fun s => ∃ j : Nat, j ≤ N ∧ s = (((N - j : Nat) : Int), PB k.bytes m V N j, { k with many := ((m + j : Nat) : Int) })) (fun s => s.1.toNat) (↑N, k.bytes, k) ⟨0, by omega, by simp [PB, ← hme]⟩ (by
        rintro s ⟨j, hj, rfl⟩
        by_cases hjN : j = N
        · right
          subst hjN
          refine ⟨_, ?_, rfl⟩
          simp [bits_Add_s2, cm_gtr]
        · left
          have hgt : (0 : Int) < ((N - j : Nat) : Int) := by omega
          have hokj := PB_ok hok V N j
          have hle := hokj.le
          have hge := hokj.ge
          obtain ⟨hrm, hrl⟩ := hokj.grow
          have hlen : 8 * k.bytes.length ≤ m + 7 := hok.ge
          have hlen2 : m ≤ 8 * k.bytes.length := hok.le
          let t : Nat := min (8 - (m + j) % 8) (N - j)
          have ht : t ≤ 8 ∧ 1 ≤ t ∧ t ≤ 8 - (m + j) % 8 ∧ j + t ≤ N := by omega
          have hPB : PB k.bytes m V N (j + t) = addL (grow (PB k.bytes m V N j) (m + j)) ((V / 2 ^ (N - (j + t)) % 2 ^ t) * 2 ^ (8 - (m + j) % 8 - t)) := by
            have := PB_byte hok V N j (t - 1) (by omega) (by omega)
            rwa [show t - 1 + 1 = t by omega] at this
          have hw : 0 ≤ (V : Int) / 2 ^ (N - (j + t)) % 2 ^ t ∧ (V : Int) / 2 ^ (N - (j + t)) % 2 ^ t < 2 ^ t :=
            ⟨Int.emod_nonneg _ (by have := (pow8 ht.1).2; omega), Int.emod_lt_of_pos _ (by have := (pow8 ht.1).2; omega)⟩
          have hpt := pow8 ht.1
          obtain ⟨ha, hw1, hw2⟩ := hrm.add ht.2.2.1 hw.1 hw.2
          have hlast := hrm.last
          have hpr := pow8 (r := 8 - (m + j) % 8) (by omega)
          have et : imin ((8 - (m + j) % 8 : Nat) : Int) ((N - j : Nat) : Int) = (t : Int) := by rw [imin_eq]; omega
          have core : ∀ l : List Int, l = grow (PB k.bytes m V N j) (m + j) → bits_Add_j3 none V ((N - j : Nat) : Int) { k with many := ((m + j : Nat) : Int) } l ((8 - (m + j) % 8 : Nat) : Int) =
              some (Sum.inl (((N - (j + t) : Nat) : Int), PB k.bytes m V N (j + t), { k with many := ((m + (j + t) : Nat) : Int) })) := by
            rintro l rfl
            have hll : 0 < (grow (PB k.bytes m V N j) (m + j)).length := List.length_pos_iff.2 hrm.ne
            generalize hg : grow (PB k.bytes m V N j) (m + j) = l at *
            unfold bits_Add_j3
            have ei : ar .sub .i64 (l.length : Int) 1 = ((l.length - 1 : Nat) : Int) := by rw [ar_sub, w_i64 (by omega) (by omega)]; omega
            have en : ar .sub .i64 ((N - j : Nat) : Int) (t : Int) = ((N - (j + t) : Nat) : Int) := by rw [ar_sub, w_i64 (by omega) (by omega)]; omega
            have er : ar .sub .i64 ((8 - (m + j) % 8 : Nat) : Int) (t : Int) = ((8 - (m + j) % 8 - t : Nat) : Int) := by rw [ar_sub, w_i64 (by omega) (by omega)]; omega
            have em : ar .add .i64 ((m + j : Nat) : Int) (t : Int) = ((m + (j + t) : Nat) : Int) := by rw [ar_add, w_i64 (by omega) (by omega)]; omega
            have esh : sf .shl .u64 1 (t : Int) = 2 ^ t := by rw [sf_shl rfl (by simp only [IntKind.bits]; omega), w_u64 (by omega) (by omega)]; omega
            have emk : ar .sub .u64 ((2 : Int) ^ t) 1 = 2 ^ t - 1 := by rw [ar_sub, w_u64 (by omega) (by omega)]
            rw [et, ei, en, er, em, bnd (ix_getD (by omega) (by omega)), sfO_nn (by omega), Option.bind_some, sfO_nn (by omega), Option.bind_some, sfO_nn (by omega), Option.bind_some, bnd (ix_getD (by omega) (by omega)), esh, emk,
              sf_shr rfl (by simp only [IntKind.bits]; omega), ar_mask (k := .u64) (n := t) rfl rfl (by simp only [IntKind.bits]; omega) (Int.ediv_nonneg (by omega) (Int.le_of_lt (Int.pow_pos (by omega)))) (Int.lt_of_le_of_lt (Int.ediv_le_self _ (by omega)) (by simp only [IntKind.bits]; omega)),
              w_u8 (by omega) (by omega), sf_shl rfl (by simp only [IntKind.bits]; omega), w_u8 (by omega) (by omega)]
            have eq1 : ((l.length - 1 : Nat) : Int).toNat = l.length - 1 := by omega
            rw [eq1]
            have elb : l.getD (l.length - 1) 0 = lastB l := rfl
            rw [elb]
            obtain ⟨q, hq⟩ : ∃ q : Int, lastB l = q * 2 ^ (8 - (m + j) % 8) := by
              obtain ⟨q, hq⟩ := Int.dvd_of_emod_eq_zero hrm.low
              exact ⟨q, by rw [hq, Int.mul_comm]⟩
            have hq0 : 0 ≤ q := by
              rcases Int.lt_or_le q 0 with hneg | h
              · have := Int.mul_neg_of_neg_of_pos hneg (show (0 : Int) < 2 ^ (8 - (m + j) % 8) by omega)
                omega
              · exact h
            rw [ar_or_add (k := .u8) rfl hq hq0 hw2 hw1 (by simp only [IntKind.bits]; omega) (by simp only [IntKind.bits]; omega), hPB]
            rfl
          refine ⟨(((N - (j + t) : Nat) : Int), PB k.bytes m V N (j + t), { k with many := ((m + (j + t) : Nat) : Int) }), ?_, ⟨j + t, ht.2.2.2, rfl⟩, by simp; omega⟩
          simp only [bits_Add_s2, cm_gtr, decide_eq_true_eq]
          rw [if_pos hgt]
          have erest : ar .sub .i64 (ar .mul .i64 8 ((PB k.bytes m V N j).length : Int)) ((m + j : Nat) : Int) = ((8 * (PB k.bytes m V N j).length - (m + j) : Nat) : Int) := by
            rw [ar_mul, w_i64 (by omega) (by omega), ar_sub, w_i64 (by omega) (by omega)]; omega
          rw [erest]
          simp only [cm_eql, decide_eq_true_eq]
          by_cases hr0 : (m + j) % 8 = 0
          · rw [if_pos (by omega), bnd (app_some (by simp; omega))]
            have := core (PB k.bytes m V N j ++ [0]) (by unfold grow; rw [if_pos hr0])
            rw [hr0] at this
            exact this
          · rw [if_neg (by omega)]
            have := core (PB k.bytes m V N j) (by unfold grow; rw [if_neg hr0])
            rw [show 8 - (m + j) % 8 = 8 * (PB k.bytes m V N j).length - (m + j) by omega] at this
            exact this)
      rw [hr, hq]
end Xb
