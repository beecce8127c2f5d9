/- Own text: BTrueBitsBack. -/
import Derived.Test.YtffmagkhoepfnaaMBitsB2
import Derived.Test.YtffmagkhoepfnaaBWf
set_option linter.all false
set_option linter.unusedVariables false
set_option linter.unusedSimpArgs false
set_option linter.unnecessarySimpa false
set_option linter.deprecated false
namespace Xb
open Go

theorem bt1_take {b : List Int} {L i : Nat} (h : i < 8 * L) : bt1 (b.take L) i = bt1 b i := by
  unfold bt1
  simp only [List.getD]
  rw [List.getElem?_take_of_lt (by omega)]

/-- what is written of one number -/
theorem item {k : Ink} {m : Nat} (hk : k.many = (m : Int)) (hok : OkB k.bytes m) (hm : m ≤ 100000) {v : Int} {n : Nat} (h1 : v < 2 ^ n) (hn : n ≤ 64) :
    addK k v (n : Int) = ({ bytes := PB k.bytes m v n n, many := ((m + n : Nat) : Int) }, 0) ∧ OkB (PB k.bytes m v n n) (m + n) ∧ okK { bytes := PB k.bytes m v n n, many := ((m + n : Nat) : Int) } = true := by
  have hgo := PB_ok hok v n n
  have ho : okK k = true := by
    have a := hok.le; have b := hok.ge; have c := hok.low
    simp only [okK, Bool.and_eq_true, decide_eq_true_eq, hk, Int.toNat_natCast]
    exact ⟨⟨⟨by omega, by omega⟩, by omega⟩, c⟩
  refine ⟨?_, hgo, ?_⟩
  · unfold addK
    rw [if_neg (by simp [ho]; omega), Int.toNat_natCast, if_neg (by omega), hk]
    simp
  · have a := hgo.le; have b := hgo.ge; have c := hgo.low
    simp only [okK, Bool.and_eq_true, decide_eq_true_eq, Int.toNat_natCast]
    exact ⟨⟨⟨by omega, by omega⟩, by omega⟩, c⟩

theorem bitsBack_true {l widths : List Int} {ranges : List Bool} (hl : l.length ≤ maxLen ∧ ∀ x, x ∈ l → inK .u64 x) (hw : widths.length ≤ maxLen ∧ ∀ x, x ∈ widths → inK .u8 x)
    (_hr : ranges.length ≤ maxLen ∧ ∀ x, x ∈ ranges → (fun _ : Bool => True) x) : law02_BitsBack none l widths ranges = some true := by
  unfold law02_BitsBack
  by_cases hg : ((cm .gtr (l.length : Int) 60 || cm .lss (widths.length : Int) (l.length : Int)) || cm .lss (ranges.length : Int) (l.length : Int)) = true
  · rw [if_pos hg]
  · rw [if_neg hg]
    rw [cm_gtr, cm_lss, cm_lss] at hg
    simp at hg
    obtain ⟨⟨hl60, hwl⟩, hrl⟩ := hg
    have hwu : U8 widths := hw.2
    unfold law02_BitsBack_l1
    obtain ⟨r, hr, hq⟩ := loop_inv (step := fun (s : List Int × Int × Ink) => law02_BitsBack_s1 none l widths ranges s.1 s.2.1 s.2.2) (Q := fun r => r = true)
      (fun s => ∃ (i m : Nat) (pos : Nat → Nat), i ≤ l.length ∧ s.2.1 = i ∧ s.1.length = i ∧ s.2.2.many = m ∧ OkB s.2.2.bytes m ∧ m ≤ 65 * i ∧ pos 0 = 0 ∧ pos i = m ∧ (∀ j, j ≤ i → pos j ≤ m) ∧
        ∀ j (h1 : j < s.1.length) (h2 : j < ranges.length) (h3 : j < widths.length), Rds s.2.2.bytes (pos j) (pos (j + 1)) ranges[j] (widths[j]).toNat s.1[j])
      (fun s => l.length - s.2.1.toNat) ([], 0, Ink.mk [] 0) ⟨0, 0, fun _ => 0, by omega, rfl, rfl, rfl, ⟨by intro y hy; simp at hy, by simp, by simp, by simp [lastB]⟩, by omega, rfl, rfl, by simp, by simp⟩ (by
      rintro ⟨put, s2, k⟩ ⟨i, m, pos, hi, rfl, hpl, hkm, hok, hm65, hp0, hpi, hple, hR⟩
      simp only at hpl hkm hok hR
      have hge := hok.ge
      have hle := hok.le
      simp only [law02_BitsBack_s1]
      rw [cm_lss]
      by_cases hil : i < l.length
      · left
        rw [if_pos (by simpa using hil)]
        have hwd := hwu _ (List.getElem_mem (show i < widths.length by omega))
        have hlv := hl.2 _ (List.getElem_mem hil)
        rw [in_u64] at hlv
        rw [bnd (ix_nat (show i < widths.length by omega)), bnd (ix_nat hil)]
        generalize hwe : widths[i] = wd at hwd
        obtain ⟨W, rfl⟩ := Int.eq_ofNat_of_zero_le hwd.1
        have hlv' := hlv
        generalize hle' : l[i] = v at hlv
        have en : dv .rem .i64 (IntKind.i64.wrap (W : Int)) 65 = ((W % 65 : Nat) : Int) := by rw [w_i64 (by omega) (by omega), dv_rem (by omega)]; omega
        rw [en]
        -- the number that is put
        have hN : W % 65 ≤ 64 := by omega
        have hmask : 0 ≤ v % 2 ^ (W % 65) ∧ v % 2 ^ (W % 65) < 2 ^ (W % 65) := ⟨Int.emod_nonneg _ (by have : (0 : Int) < 2 ^ (W % 65) := Int.pow_pos (by omega); omega), Int.emod_lt_of_pos _ (Int.pow_pos (by omega))⟩
        have core : ∃ s', law02_BitsBack_j2 none l widths ranges put i k W (v % 2 ^ (W % 65)) = some (Sum.inl s') ∧ (∃ (i m : Nat) (pos : Nat → Nat), i ≤ l.length ∧ s'.2.1 = i ∧ s'.1.length = i ∧ s'.2.2.many = m ∧ OkB s'.2.2.bytes m ∧ m ≤ 65 * i ∧ pos 0 = 0 ∧ pos i = m ∧ (∀ j, j ≤ i → pos j ≤ m) ∧
            ∀ j (h1 : j < s'.1.length) (h2 : j < ranges.length) (h3 : j < widths.length), Rds s'.2.2.bytes (pos j) (pos (j + 1)) ranges[j] (widths[j]).toNat s'.1[j]) ∧ l.length - s'.2.1.toNat < l.length - ((i : Int)).toNat := by
          -- behind the writing
          have fin : ∀ (x c : Int) (n : Nat), 0 ≤ c → c < 2 ^ n → n ≤ 64 → Rds (PB k.bytes m c n n) m (m + n) ranges[i] W x →
              ∃ s', law02_BitsBack_j3 none put i x 0 ({ bytes := PB k.bytes m c n n, many := ((m + n : Nat) : Int) } : Ink) = some (Sum.inl s') ∧ (∃ (i m : Nat) (pos : Nat → Nat), i ≤ l.length ∧ s'.2.1 = i ∧ s'.1.length = i ∧ s'.2.2.many = m ∧ OkB s'.2.2.bytes m ∧ m ≤ 65 * i ∧ pos 0 = 0 ∧ pos i = m ∧ (∀ j, j ≤ i → pos j ≤ m) ∧
                ∀ j (h1 : j < s'.1.length) (h2 : j < ranges.length) (h3 : j < widths.length), Rds s'.2.2.bytes (pos j) (pos (j + 1)) ranges[j] (widths[j]).toNat s'.1[j]) ∧ l.length - s'.2.1.toNat < l.length - ((i : Int)).toNat := by
            intro x c n hc0 hc1 hn hrd
            obtain ⟨_, hgo, hko⟩ := item hkm hok (by omega) hc1 hn
            have hge2 := hgo.ge
            refine ⟨(put ++ [x], (i : Int) + 1, { bytes := PB k.bytes m c n n, many := ((m + n : Nat) : Int) }), ?_, ⟨i + 1, m + n, fun j => if j ≤ i then pos j else m + n, by omega, by simp, by simp [hpl], rfl, hgo, by omega, by simp [hp0], by show (if i + 1 ≤ i then _ else _) = _; rw [if_neg (by omega)], ?_, ?_⟩, by simp; omega⟩
            · unfold law02_BitsBack_j3
              have hby : By (PB k.bytes m c n n) := ⟨hgo.u8, by omega⟩
              rw [cm_neq]
              simp only [decide_true, Bool.not_true, Bool.not_false, gTT, Bool.false_or]
              rw [bnd (bits_Right_eq (k := { bytes := PB k.bytes m c n n, many := ((m + n : Nat) : Int) }) hby (in_i64.2 (by simp only; omega))), hko, bnd (app_some (by simp [hpl]; omega)), ar_add, w_i64 (by omega) (by omega)]
              simp
            · intro j hj
              by_cases hji : j ≤ i
              · simp only [hji, if_true]; have := hple j hji; omega
              · simp [hji]
            · intro j h1 h2 h3
              simp only at h1 ⊢
              simp only [List.length_append, List.length_cons, List.length_nil] at h1
              by_cases hji : j < i
              · rw [if_pos (by omega), if_pos (by omega)]
                have h := hR j (by omega) h2 h3
                rw [List.getElem_append_left (by omega)]
                refine h.congr fun q _ hq => (bt1_PB hok c n n q ?_).symm
                have := hple (j + 1) (by omega)
                omega
              · have : j = i := by omega
                subst this
                rw [if_pos (Nat.le_refl _), if_neg (by omega), hpi, List.getElem_append_right (by omega)]
                simp only [hpl, Nat.sub_self, List.getElem_cons_zero]
                rw [hwe]
                simpa using hrd
          unfold law02_BitsBack_j2
          rw [bnd (ix_nat (show i < ranges.length by omega))]
          cases hrg : ranges[i] with
          | true =>
            rw [hrg] at fin
            simp only [if_true]
            have hn1 : ar .add .u64 (IntKind.u64.wrap (W : Int)) 1 = (W : Int) + 1 := by rw [w_u64 (by omega) (by omega), ar_add, w_u64 (by omega) (by omega)]
            rw [bnd (ix_nat hil), bnd (ix_nat (show i < widths.length by omega)), hle', hwe, hn1, dvO_nz (by omega), Option.bind_some, dv_rem hlv.1, bnd (ix_nat (show i < widths.length by omega)), hwe, hn1]
            generalize hx : v % ((W : Int) + 1) = x
            have hx0 : 0 ≤ x ∧ x < (W : Int) + 1 := by
              subst hx; exact ⟨Int.emod_nonneg _ (by omega), Int.emod_lt_of_pos _ (by omega)⟩
            have hu : U8 k.bytes := hok.u8
            rw [bnd (bits_AddRange_eq hu (by omega) (in_i64.2 (by omega)) (in_u64.2 (by omega)) _)]
            have ho : okK k = true := by
              have c := hok.low
              simp only [okK, Bool.and_eq_true, decide_eq_true_eq, hkm, Int.toNat_natCast]
              exact ⟨⟨⟨by omega, by omega⟩, by omega⟩, c⟩
            have hbl : bl (W + 1) ≤ 9 := bl_le_of_lt (by omega)
            have hlt := bl_lt (W + 1)
            have hge3 := bl_le (n := W + 1) (by omega)
            have hbp := bl_pos (n := W + 1) (by omega)
            have hnn : ((W : Int) + 1).toNat = W + 1 := by omega
            unfold addRangeK
            rw [if_neg (by simp [ho]; omega), if_neg (by omega), hnn]
            simp only
            generalize hq : bl (W + 1) - 1 = q at *
            have hqq : bl (W + 1) = q + 1 := by omega
            rw [hqq] at hlt
            have hlt' : (W : Int) + 1 < 2 ^ (q + 1) := by rw [← pow_int]; omega
            have hge' : (2 : Int) ^ q ≤ (W : Int) + 1 := by rw [← pow_int]; omega
            have hp2 : (2 : Int) ^ (q + 1) = 2 ^ q * 2 := Int.pow_succ _ _
            by_cases hs : x < 2 ^ (q + 1) - ((W : Int) + 1)
            · rw [if_pos hs]
              obtain ⟨e1, _, _⟩ := item hkm hok (by omega) (v := x) (n := q) (by omega) (by omega)
              rw [e1]
              refine fin x x q hx0.1 (by omega) (by omega) ?_
              unfold Rds
              rw [if_pos rfl, hq]
              exact .inl ⟨rfl, vl_put hok hx0.1 (by omega), by simpa using hs⟩
            · rw [if_neg hs]
              have e0 : (q : Int) + 1 = ((q + 1 : Nat) : Int) := by simp
              obtain ⟨e1, _, _⟩ := item hkm hok (by omega) (v := x + (2 ^ (q + 1) - ((W : Int) + 1))) (n := q + 1) (by omega) (by omega)
              rw [e0, e1]
              have hvp := vl_put hok (v := x + (2 ^ (q + 1) - ((W : Int) + 1))) (n := q + 1) (by omega) (by omega)
              refine fin x _ (q + 1) (by omega) (by omega) (by omega) ?_
              unfold Rds
              rw [if_pos rfl, hq]
              right
              refine ⟨by omega, ?_, ?_⟩
              · have hb := bt1_in (PB k.bytes m (x + (2 ^ (q + 1) - ((W : Int) + 1))) (q + 1) (q + 1)) (m + q)
                simp only [vl] at hvp
                omega
              · rw [hvp]
          | false =>
            rw [hrg] at fin
            simp only [Bool.false_eq_true, if_false]
            rw [en, bnd (bits_Add_eq hok.u8 (by omega) (in_i64.2 (by omega)) (in_u64.2 (by have := pow_le64 hN; omega)) _)]
            obtain ⟨e1, _, _⟩ := item hkm hok (by omega) hmask.2 hN
            rw [e1]
            refine fin _ _ _ hmask.1 hmask.2 hN ?_
            unfold Rds
            rw [if_neg (by simp)]
            exact ⟨rfl, vl_put hok hmask.1 hmask.2⟩
        rw [cm_lss]
        by_cases h64 : W % 65 < 64
        · rw [if_pos (by simp; omega), sfO_nn (by omega), Option.bind_some]
          have hp : (2 : Int) ^ (W % 65) ≤ 9223372036854775808 ∧ 1 ≤ (2 : Int) ^ (W % 65) := by
            have a : (2 : Nat) ^ (W % 65) ≤ 2 ^ 63 := Nat.pow_le_pow_right (by omega) (by omega)
            have b : 1 ≤ 2 ^ (W % 65) := Nat.one_le_two_pow
            rw [← pow_int]; omega
          rw [sf_shl rfl (by simp only [IntKind.bits]; omega), w_u64 (by omega) (by omega), ar_sub, w_u64 (by omega) (by omega), ar_mask (k := .u64) (n := W % 65) rfl (by omega) (by simp only [IntKind.bits]; omega) hlv.1 (by simp only [IntKind.bits]; omega)]
          exact core
        · rw [if_neg (by simp; omega)]
          have e : W % 65 = 64 := by omega
          rw [e] at core
          have : v % 2 ^ 64 = v := Int.emod_eq_of_lt hlv.1 (by omega)
          rw [this] at core
          exact core
      · right
        have hie : i = l.length := by omega
        subst hie
        rw [if_neg (by simp)]
        have hby : By k.bytes := ⟨hok.u8, by omega⟩
        obtain ⟨d, hd, h1, _⟩ := read_eq (C := k.bytes) (B := k.bytes) hby (put := put) (widths := widths) (ranges := ranges) (pos := pos) (m := m) (by omega) (by omega) hwu (by omega) hp0 (by rw [hpl]; exact hpi) (by rw [hpl]; exact hple)
          (fun j h => hR j h (by omega) (by omega)) (fun _ _ _ => rfl)
        have hd1 := h1 hle
        subst hd1
        rw [bnd hd, bits_Left_eq (c := { bytes := k.bytes, at_ := (m : Int), err := 0 }) hby]
        have hok0 : okG { bytes := k.bytes, at_ := (m : Int), err := 0 } = true := by simp [okG]; omega
        rw [hok0, cm_neq, cm_neq, cm_geq, hkm, if_neg (by simp; omega), cm_eql]
        by_cases h0 : k.bytes.length = 0
        · rw [if_pos (by simp [h0])]
          exact ⟨true, rfl, rfl⟩
        · rw [if_neg (by simpa using h0), ar_sub, w_i64 (by omega) (by omega), bnd (sub_some (by omega) (by omega) (by omega))]
          have ht : List.take (((k.bytes.length : Int) - 1).toNat - (0 : Int).toNat) (List.drop (0 : Int).toNat k.bytes) = k.bytes.take (k.bytes.length - 1) := by
            have : ((k.bytes.length : Int) - 1).toNat - (0 : Int).toNat = k.bytes.length - 1 := by omega
            rw [this]; simp
          rw [ht]
          have hby2 : By (k.bytes.take (k.bytes.length - 1)) := ⟨fun y hy => hok.u8 y (List.mem_of_mem_take hy), by simp; omega⟩
          obtain ⟨d, hd, _, h2⟩ := read_eq (C := k.bytes.take (k.bytes.length - 1)) (B := k.bytes) hby2 (put := put) (widths := widths) (ranges := ranges) (pos := pos) (m := m) (by omega) (by omega) hwu (by omega) hp0 (by rw [hpl]; exact hpi) (by rw [hpl]; exact hple)
            (fun j h => hR j h (by omega) (by omega)) (fun q _ hq => bt1_take (by simp at hq; omega))
          rw [bnd hd, cm_eql, h2 (by simp; omega)]
          exact ⟨true, rfl, rfl⟩)
    rw [hr, hq]
end Xb
