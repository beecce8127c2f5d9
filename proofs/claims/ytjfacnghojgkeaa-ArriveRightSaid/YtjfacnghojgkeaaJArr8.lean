/- Own text: JArr8. -/
import Derived.Test.YtjfacnghojgkeaaJArr7
set_option linter.all false
set_option linter.unusedVariables false
set_option linter.unusedSimpArgs false
set_option linter.unnecessarySimpa false
set_option linter.deprecated false
/-! The document's telling. -/
namespace Xb
open Go

theorem rright_eq {a : Arrive} (hl : a.seen.length ≤ 1000000) : ref19_Right none a = some (decide (RightA a)) := by
  unfold ref19_Right
  by_cases hc : -8388608 ≤ a.time ∧ a.time ≤ 8388607 ∧ a.seen.length ≤ 4000
  · rw [if_neg (by rw [cm_lss, cm_gtr, cm_gtr]; simp only [Bool.or_eq_true, decide_eq_true_eq]; omega)]
    unfold ref19_Right_l1
    have := find_loop (l := a.seen) (step := fun s => ref19_Right_s1 none a s) (p := fun s => !decide (FitS s)) (hit := fun _ => false) (miss := true) (by
      show ref19_Right_s1 none a _ = _
      unfold ref19_Right_s1
      rw [if_neg (by rw [cm_lss]; simp)]; rfl) (fun i hi => by
      show ref19_Right_s1 none a (i : Int) = _
      unfold ref19_Right_s1 ref19_Right_j2 ref19_Right_j3
      rw [if_pos (by rw [cm_lss]; simpa using hi), bnd (ix_some (n := i) rfl hi), ar_add, w_i64 (by omega) (by omega)]
      generalize a.seen[i] = s
      simp only [cm_eql, cm_lss, cm_gtr, decide_eq_true_eq, Bool.or_eq_true]
      by_cases hf : FitS s
      · rw [decide_eq_true hf]
        unfold FitS at hf
        by_cases h1 : s.what = 1
        · rw [if_pos h1, if_neg (by omega), if_neg (by omega)]; rfl
        · rw [if_neg h1]
          by_cases h2 : s.what = 2
          · rw [if_pos h2, if_neg (by omega)]; rfl
          · rw [if_neg h2, if_neg (by omega)]; rfl
      · rw [decide_eq_false hf]
        unfold FitS at hf
        by_cases h1 : s.what = 1
        · rw [if_pos h1, if_neg (by omega), if_pos (by omega)]; rfl
        · rw [if_neg h1]
          by_cases h2 : s.what = 2
          · rw [if_pos h2, if_pos (by omega)]; rfl
          · rw [if_neg h2, if_pos (by omega)]; rfl)
    rw [this]
    congr 1
    cases hf : a.seen.findIdx? (fun s => !decide (FitS s)) with
    | none =>
      rw [List.findIdx?_eq_none_iff] at hf
      exact (decide_eq_true (show RightA a from ⟨hc.1, hc.2.1, hc.2.2, fun s hs => by simpa using hf s hs⟩)).symm
    | some i =>
      rw [List.findIdx?_eq_some_iff_getElem] at hf
      obtain ⟨hi, hp, _⟩ := hf
      refine (decide_eq_false fun h => ?_).symm
      have := h.2.2.2 _ (List.getElem_mem hi)
      simp [this] at hp
  · rw [if_pos (by rw [cm_lss, cm_gtr, cm_gtr]; simp only [Bool.or_eq_true, decide_eq_true_eq]; omega)]
    exact congrArg some (decide_eq_false fun h => hc ⟨h.1, h.2.1, h.2.2.1⟩).symm

theorem be4_drop {d : Int} : (beN 4 (d % 4294967296)).drop 2 = beN 2 (d % 65536) := by
  simp only [beN, List.nil_append, List.cons_append, List.drop_succ_cons, List.drop_zero]
  have e1 : d % 4294967296 / 256 % 256 = d % 65536 / 256 % 256 := by omega
  have e2 : d % 4294967296 % 256 = d % 65536 % 256 := by omega
  rw [e1, e2]
theorem be4_drop1 {d : Int} (h0 : 0 ≤ d) (h1 : d ≤ 255) : (beN 4 (d % 4294967296)).drop 3 = [d] := by
  simp only [beN, List.nil_append, List.cons_append, List.drop_succ_cons, List.drop_zero]
  have e2 : d % 4294967296 % 256 = d := by omega
  rw [e2]

theorem rw_l3 {v : List Int} {c w : List Int} (hv : v.length ≤ 10000) (hc : c.length ≤ 10000) (hw : w.length ≤ 10000) (hcs : ∀ x, x ∈ c → 0 ≤ x ∧ x ≤ 65535) :
    ref19_Write_l3 none v c w 0 = some (w ++ numsL c ++ v ++ List.replicate (fillN (w ++ numsL c ++ v).length) 0) := by
  unfold ref19_Write_l3
  have := loop_seq (step := fun (s : List Int × Int) => ref19_Write_s3 none v c s.1 s.2) (r := w ++ numsL c ++ v ++ List.replicate (fillN (w ++ numsL c ++ v).length) 0) (fun i => (w ++ numsL (c.take i), (i : Int))) c.length (fun i hi => by
    show ref19_Write_s3 none v c _ (i : Int) = _
    have hx := hcs _ (List.getElem_mem hi)
    have h1 := numsL_len (c.take i)
    rw [List.length_take] at h1
    unfold ref19_Write_s3
    have hm : ref01_Must none c[i] 2 = some (beN 2 c[i]) := rmust_eq (n := 2) (by omega) (by omega) (by omega) (by omega) (by omega)
    rw [if_pos (by rw [cm_lss]; simpa using hi), bnd (ix_some (n := i) rfl hi), w_u64 (by omega) (by omega), bnd hm, bnd (app_some (by rw [List.length_append, beN_len]; omega)), ar_add, w_i64 (by omega) (by omega), take_snoc _ i hi, numsL_snoc, List.append_assoc]
    rfl) (by
    show ref19_Write_s3 none v c _ _ = _
    have h1 := numsL_len c
    unfold ref19_Write_s3
    rw [if_neg (by rw [cm_lss]; simp), List.take_length, bnd (app_some (by rw [List.length_append]; omega)), bnd (refFill_eq (by rw [List.length_append, List.length_append]; omega))]; rfl)
  simpa [numsL] using this

theorem rwriteA_eq {a : Arrive} (hg : GoodA a) (hr : RightA a) : ref19_Write none a = some (writeA a) := by
  have hc := hr.2.2.1
  have hb0 := hg.b0; have hb1 := hg.b1
  have hw := writeS_len' (whatsL a.seen)
  have hwl : (whatsL a.seen).length = a.seen.length := by simp [whatsL]
  have m1 : ref01_Must none a.base 2 = some (beN 2 a.base) := rmust_eq (n := 2) (by omega) (by omega) (by omega) (by omega) (by omega)
  have m2 : ref01_Must none (a.seen.length : Int) 2 = some (beN 2 (a.seen.length : Int)) := rmust_eq (n := 2) (by omega) (by omega) (by omega) (by omega) (by omega)
  unfold ref19_Write
  rw [w_u64 (by omega) (by omega), bnd m1, w_u64 (by omega) (by omega), bnd m2, bnd (app_some (by simp [beN_len])), bnd (rputs3 hr.1 hr.2.1), bnd (app_some (by simp [beN_len])), bnd (app_some (by simp [beN_len]))]
  show ref19_Write_l1 none a (hdA a) [] [] 0 = _
  unfold ref19_Write_l1
  have := loop_seq (step := fun (s : List Int × List Int × Int) => ref19_Write_s1 none a (hdA a) s.1 s.2.1 s.2.2) (r := writeA a) (fun i => (whatsL (a.seen.take i), dltL (a.seen.take i), (i : Int))) a.seen.length (fun i hi => by
    show ref19_Write_s1 none a (hdA a) (whatsL (a.seen.take i)) (dltL (a.seen.take i)) (i : Int) = _
    have hf := hr.2.2.2 _ (List.getElem_mem hi)
    have h1 := dltL_len (l := a.seen.take i) fun s hs => hr.2.2.2 s (List.mem_of_mem_take hs)
    have h2 := dlt_len hf
    have h0 : (whatsL (a.seen.take i)).length = min i a.seen.length := by simp [whatsL]
    rw [List.length_take] at h1
    have hx := ix_some (l := a.seen) (n := i) (i := (i : Int)) rfl hi
    have hf' := hf
    unfold FitS at hf'
    unfold ref19_Write_s1 ref19_Write_j2
    rw [if_pos (by rw [cm_lss]; simpa using hi), bnd hx, bnd (app_some (by simp [whatsL]; omega)), bnd hx, ar_add, w_i64 (by omega) (by omega), take_snoc _ i hi, whatsL_snoc, dltL_snoc]
    by_cases hw0 : 0 < a.seen[i].what
    · have hs : sub (beN 4 (a.seen[i].delta % 4294967296)) (ar .sub .i64 4 a.seen[i].what) ((beN 4 (a.seen[i].delta % 4294967296)).length : Int) = some (dlt a.seen[i]) := by
        rw [ar_sub, w_i64 (by omega) (by omega), sub_some (by omega) (by rw [beN_len]; omega) (by omega)]
        congr 1
        rw [List.take_of_length_le (by rw [List.length_drop]; omega)]
        unfold dlt
        rcases hf' with h | h | h
        · omega
        · rw [if_neg (by omega), if_pos h.1, h.1]
          exact be4_drop1 h.2.1 h.2.2
        · rw [if_pos h.1, h.1]
          exact be4_drop
      rw [if_pos (by rw [cm_gtr]; simpa using hw0), bnd hx, bnd (rputs4 (by omega) (by omega)), bnd hx, bnd hs, bnd (app_some (by omega))]
      rfl
    · have hd : dlt a.seen[i] = [] := List.eq_nil_of_length_eq_zero (by omega)
      rw [if_neg (by rw [cm_gtr]; simpa using hw0), hd, List.append_nil]
      rfl) (by
    show ref19_Write_s1 none a (hdA a) (whatsL (a.seen.take a.seen.length)) (dltL (a.seen.take a.seen.length)) (a.seen.length : Int) = _
    have h1 := dltL_len hr.2.2.2
    unfold ref19_Write_s1
    rw [if_neg (by rw [cm_lss]; simp), List.take_length, bnd (rwrite_eq (by omega) (whats_vl hr.2.2.2)), rw_l3 (by omega) (by omega) (by rw [hdA_len]; omega) (wl_in hr)]
    rfl)
  simpa [whatsL, dltL] using this

/-! reading -/
theorem csA_get {b : List Int} {i : Nat} (hi : i < (csA b).length) : (csA b)[i] = numB ((b.drop (8 + 2 * i)).take 2) := by
  unfold csA at hi ⊢
  rw [List.getElem_map]
  congr 1
  unfold chunksL
  rw [List.getElem_map, List.getElem_range, List.drop_drop]
  congr 2
  omega

theorem rnum_eq {b : List Int} {at_ : Nat} (hb : oct b) (hl : b.length ≤ 100000) (h : at_ + 2 ≤ b.length) : ref05_Num none b (at_ : Int) 2 = some (numB ((b.drop at_).take 2)) := by
  have hn := numB_bd ((b.drop at_).take 2) ((hb.drop at_).take 2)
  rw [List.length_take, List.length_drop, show min 2 (b.length - at_) = 2 by omega] at hn
  have hg : ref01_Get none b (at_ : Int) 2 = some (numB ((b.drop at_).take 2), 0) := rget_eq (n := 2) (by omega) (by omega) hb (by omega) h
  unfold ref05_Num
  rw [bnd hg, w_u32 (by omega) (by omega)]

def rdG (b : List Int) (A : Arrive) (out : List Seen) (L : List Int) (pos : Nat) : Arrive × Int :=
  if (b.drop pos).length < sumN L then (zeroA, 2) else if sumN L + 3 < (b.drop pos).length then (zeroA, 4) else ({ A with seen := out ++ deltasS L (b.drop pos) }, 0)

theorem rdelta_loop {b L : List Int} {x1 : Int} {u e : Int} (hb : oct b) (hl : b.length ≤ 100000) (hv : vl L) (hx : x1 = L.length) (hll : L.length ≤ 4000) {A : Arrive} : ∀ (m i pos : Nat) (out : List Seen), i + m = L.length → pos ≤ b.length → out.length + m ≤ 5000 →
    loopG none (fun (s : Int × Int × Arrive × Arrive) => ref19_Read_s2 none b x1 (L, u, e) s.1 s.2.1 s.2.2.1 s.2.2.2) ((pos : Int), (i : Int), zeroA, { A with seen := out }) = some (rdG b A out (L.drop i) pos)
  | 0, i, pos, out, hi, hp, _ => by
    have ei : i = L.length := by omega
    subst ei
    rw [List.drop_length]
    refine loop_inr ?_
    show ref19_Read_s2 none b x1 (L, u, e) (pos : Int) (L.length : Int) zeroA { A with seen := out } = _
    have hs0 : sumN [] = 0 := rfl
    have el : (b.drop pos).length = b.length - pos := List.length_drop
    unfold ref19_Read_s2 rdG
    rw [hx, w_i64 (n := (L.length : Int)) (by omega) (by omega), if_neg (by rw [cm_lss]; simp), ar_sub, w_i64 (by omega) (by omega), hs0, el, if_neg (show ¬ b.length - pos < 0 by omega), cm_gtr]
    by_cases h3 : 3 < b.length - pos
    · rw [if_pos (by simp only [decide_eq_true_eq]; omega), if_pos (show 0 + 3 < b.length - pos by omega)]; rfl
    · rw [if_neg (by simp only [decide_eq_true_eq]; omega), if_neg (show ¬ 0 + 3 < b.length - pos by omega)]
      simp [deltasS]
  | m + 1, i, pos, out, hi, hp, ho => by
    have hil : i < L.length := by omega
    have hd : L.drop i = L[i] :: L.drop (i + 1) := List.drop_eq_getElem_cons hil
    have hvi := hv _ (List.getElem_mem hil)
    rw [hd]
    have e0 : ar .add .i64 (pos : Int) L[i] = ((pos + L[i].toNat : Nat) : Int) := by rw [ar_add, w_i64 (by omega) (by omega)]; omega
    have ei : ar .add .i64 (i : Int) 1 = ((i + 1 : Nat) : Int) := by rw [ar_add, w_i64 (by omega) (by omega)]; rfl
    by_cases hbig : b.length < pos + L[i].toNat
    · refine loop_inr ?_
      show ref19_Read_s2 none b x1 (L, u, e) (pos : Int) (i : Int) zeroA _ = _
      unfold ref19_Read_s2 rdG
      rw [hx, w_i64 (n := (L.length : Int)) (by omega) (by omega), if_pos (by rw [cm_lss]; simpa using hil), bnd (ix_some (n := i) rfl hil), e0, if_pos (by rw [cm_gtr]; simp; omega), sumN_cons, if_pos (by rw [List.length_drop]; omega)]
      rfl
    · have step : ref19_Read_s2 none b x1 (L, u, e) (pos : Int) (i : Int) zeroA { A with seen := out } = some (.inl (((pos + L[i].toNat : Nat) : Int), ((i + 1 : Nat) : Int), zeroA, { A with seen := out ++ [⟨L[i], valD L[i] (b.drop pos)⟩] })) := by
        unfold ref19_Read_s2
        rw [hx, w_i64 (n := (L.length : Int)) (by omega) (by omega), if_pos (by rw [cm_lss]; simpa using hil), bnd (ix_some (n := i) rfl hil), e0, if_neg (by rw [cm_gtr]; simp; omega)]
        unfold valD
        by_cases h1 : L[i] = 1
        · have hpl : pos < b.length := by rw [h1] at hbig; simp at hbig; omega
          have hxx := hb _ (List.getElem_mem hpl)
          have c1 : cm .eql L[i] 1 = true := by rw [cm_eql]; simpa using h1
          have c2 : cm .eql L[i] 2 = false := by rw [cm_eql, h1]; decide
          rw [c1, if_pos rfl, bnd (ix_some (n := pos) rfl hpl), w_i64 (by omega) (by omega), if_pos h1]
          unfold ref19_Read_j3 ref19_Read_j4
          simp only [c2]
          rw [if_neg (by decide), bnd (app_some (by simp; omega)), e0, ei, List.drop_eq_getElem_cons hpl]
          rfl
        · have c1 : cm .eql L[i] 1 = false := by rw [cm_eql]; simpa using h1
          rw [c1, if_neg (by decide), if_neg h1]
          unfold ref19_Read_j3 ref19_Read_j4
          by_cases h2 : L[i] = 2
          · have hpl : pos + 2 ≤ b.length := by rw [h2] at hbig; simp at hbig; omega
            have c2 : cm .eql L[i] 2 = true := by rw [cm_eql]; simpa using h2
            simp only [c2, if_true]
            rw [bnd (rgets2 hb (by omega) hpl), if_pos h2, bnd (app_some (by simp; omega)), e0, ei]
          · have c2 : cm .eql L[i] 2 = false := by rw [cm_eql]; simpa using h2
            simp only [c2]
            rw [if_neg (by decide), if_neg h2, bnd (app_some (by simp; omega)), e0, ei]
      rw [loop_inl step, rdelta_loop hb hl hv hx hll m (i + 1) (pos + L[i].toNat) _ (by omega) (by omega) (by simp; omega)]
      unfold rdG
      have el : (b.drop (pos + L[i].toNat)).length = b.length - (pos + L[i].toNat) := List.length_drop
      have el2 : (b.drop pos).length = b.length - pos := List.length_drop
      have q1 : (b.length - pos < L[i].toNat + sumN (L.drop (i + 1))) ↔ (b.length - (pos + L[i].toNat) < sumN (L.drop (i + 1))) := by omega
      have q2 : (L[i].toNat + sumN (L.drop (i + 1)) + 3 < b.length - pos) ↔ (sumN (L.drop (i + 1)) + 3 < b.length - (pos + L[i].toNat)) := by omega
      have e : b.drop (pos + L[i].toNat) = (b.drop pos).drop L[i].toNat := by rw [List.drop_drop]
      rw [sumN_cons, el, el2]
      simp only [q1, q2]
      rw [e, deltasS, List.append_assoc]; rfl

def rdX (b : List Int) : Arrive × Int := ((rdA b).1, (rdA b).2.2.2)

theorem rread19_eq {b : List Int} (hb : oct b) (hl : b.length ≤ 100000) : ref19_Read none b = some (rdX b) := by
  unfold ref19_Read rdX rdA readA
  by_cases h : 65520 < b.length ∨ b.length % 4 ≠ 0
  · rw [if_pos (by rw [dv_rem (by omega), cm_gtr, cm_neq]; simp; omega), if_pos h]; rfl
  · rw [if_neg (by rw [dv_rem (by omega), cm_gtr, cm_neq]; simp; omega), if_neg h]
    by_cases h8 : b.length < 8
    · rw [if_pos (by rw [cm_lss]; simp; omega), if_pos h8]; rfl
    · rw [if_neg (by rw [cm_lss]; simp; omega), if_neg h8]
      have e4 : b.length % 4 = 0 := by omega
      have g2 : ref05_Num none b 2 2 = some (numA b) := rnum_eq (at_ := 2) hb hl (by omega)
      have n2 := numB_bd ((b.drop 2).take 2) ((hb.drop 2).take 2)
      rw [List.length_take, List.length_drop, show min 2 (b.length - 2) = 2 by omega] at n2
      have hnA : 0 ≤ numA b ∧ numA b < 65536 := n2
      rw [bnd g2, w_i64 (n := numA b) (by omega) (by omega)]
      by_cases h4 : 4000 < numA b
      · rw [if_pos (by rw [cm_gtr]; simpa using h4), if_pos h4]; rfl
      · rw [if_neg (by rw [cm_gtr]; simpa using h4), if_neg h4]
        have hcs := csA_in hb e4 (by omega)
        have hcl := csA_len e4 (by omega : 8 ≤ b.length)
        unfold ref19_Read_l1
        have key := loop_seq (step := fun (s : List Int × Int) => ref19_Read_s1 none b (numA b) s.1 s.2) (r := rdX b) (fun i => ((csA b).take i, ((8 + 2 * i : Nat) : Int))) (csA b).length (fun i hi => by
          show ref19_Read_s1 none b (numA b) _ _ = _
          have hx := hcs _ (List.getElem_mem hi)
          have hg := csA_get hi
          unfold ref19_Read_s1
          rw [if_pos (by rw [cm_lss]; simp; omega), bnd (rnum_eq hb hl (by omega)), ← hg, w_u16 hx.1 hx.2, bnd (app_some (by rw [List.length_take]; simp; omega)), ar_add, w_i64 (by omega) (by omega), take_snoc _ i hi]
          rfl) (by
          show ref19_Read_s1 none b (numA b) _ _ = _
          unfold ref19_Read_s1
          rw [if_neg (by rw [cm_lss]; simp; omega), List.take_length, w_i64 (n := numA b) (by omega) (by omega)]
          have hcr := rread_eq (chunks := csA b) (count := numA b) hcs (by omega)
          unfold rdX rdA readA
          rw [if_neg h, if_neg h8, if_neg h4]
          cases hr : readC (csA b) (numA b) with
          | error e =>
            have he := readC_err hr
            rw [hr] at hcr
            have hcr2 : ref18_Read none (csA b) (numA b) = some ([], 0, e) := hcr
            rw [bnd hcr2, if_pos (by rw [cm_neq]; simpa using he)]; rfl
          | ok p =>
            obtain ⟨L, u⟩ := p
            obtain ⟨r1, r2, r3, r4⟩ := readC_ok hcs hr
            rw [hr] at hcr
            have hcr2 : ref18_Read none (csA b) (numA b) = some (L, (u : Int), 0) := by rw [hcr]; simp [rdR]
            have g4 : ref01_Signed none b 4 3 = some (sg3 (numB ((b.drop 4).take 3)), 0) := rgets3 (at_ := 4) hb (by omega) (by omega)
            have g0 : ref05_Num none b 0 2 = some (numB (b.take 2)) := by
              have := rnum_eq (b := b) (at_ := 0) hb hl (by omega)
              rw [List.drop_zero] at this
              exact this
            have n0 := numB_bd (b.take 2) (hb.take 2)
            rw [List.length_take, show min 2 b.length = 2 by omega] at n0
            have h7 : 7 < b.length := by omega
            have i7 : ix b 7 = some (b.getD 7 0) := by
              have := ix_some (l := b) (n := 7) (i := 7) rfl h7
              rw [this, List.getD_eq_getElem?_getD, List.getElem?_eq_getElem h7]; rfl
            have ep : ar .add .i64 8 (ar .mul .i64 2 (u : Int)) = ((8 + 2 * u : Nat) : Int) := by
              rw [ar_mul, w_i64 (by omega) (by omega), ar_add, w_i64 (by omega) (by omega)]; omega
            rw [bnd hcr2, if_neg (show ¬ cm .neq (0 : Int) 0 = true by decide), bnd g4, bnd g0, bnd i7, ep, w_u16 (n := numB (b.take 2)) (by omega) (by omega)]
            simp only []
            unfold ref19_Read_l2
            have hd := rdelta_loop (u := (u : Int)) (e := 0) (x1 := numA b) hb hl r3 r1.symm r2 (A := ⟨numB (b.take 2), sg3 (numB ((b.drop 4).take 3)), b.getD 7 0, []⟩) L.length 0 (8 + 2 * u) [] (by omega) (by omega) (by simp; omega)
            have hd2 := hd
            rw [List.drop_zero] at hd2
            refine (congrArg (Option.map Sum.inr) hd2).trans ?_
            unfold rdG
            by_cases k1 : (b.drop (8 + 2 * u)).length < sumN L
            · rw [if_pos k1, if_pos k1]; rfl
            · rw [if_neg k1, if_neg k1]
              by_cases k2 : sumN L + 3 < (b.drop (8 + 2 * u)).length
              · rw [if_pos k2, if_pos k2]; rfl
              · rw [if_neg k2, if_neg k2]; rfl)
        have key2 : loopG none (fun (s : List Int × Int) => ref19_Read_s1 none b (numA b) s.1 s.2) ([], 8) = some (rdX b) := key
        refine key2.trans ?_
        unfold rdX rdA readA
        rw [if_neg h, if_neg h8, if_neg h4]

theorem rwhen_eq {a : Arrive} {nth : Int} (hl : a.seen.length ≤ 1000000) (hn : inK .i64 nth) : ref19_When none a nth = some (whenS a nth) := by
  unfold ref19_When whenS
  rw [bnd (rright_eq hl), cm_lss, cm_geq]
  by_cases hc : ¬ RightA a ∨ nth < 0 ∨ (a.seen.length : Int) ≤ nth
  · rw [if_pos hc, if_pos (by
      rcases hc with h | h | h
      · rw [decide_eq_false h]; rfl
      · rw [decide_eq_true h]; simp
      · rw [decide_eq_true h]; simp)]
  · have hr : RightA a := Classical.byContradiction fun h => hc (.inl h)
    have h0 : ¬ nth < 0 := fun h => hc (.inr (.inl h))
    have h1 : ¬ (a.seen.length : Int) ≤ nth := fun h => hc (.inr (.inr h))
    have hlen := hr.2.2.1
    have hi : nth.toNat < a.seen.length := by omega
    have hnn : nth = (nth.toNat : Int) := by omega
    have hg : a.seen.getD nth.toNat ⟨0, 0⟩ = a.seen[nth.toNat] := by rw [List.getD_eq_getElem?_getD, List.getElem?_eq_getElem hi]; rfl
    rw [if_neg hc, if_neg (by rw [decide_eq_true hr, decide_eq_false h0, decide_eq_false h1]; decide), bnd (ix_some (n := nth.toNat) hnn hi), hg]
    by_cases hw : a.seen[nth.toNat].what = 0
    · rw [if_pos (by rw [cm_eql]; simpa using hw), if_pos hw]
    · rw [if_neg (by rw [cm_eql]; simpa using hw), if_neg hw]
      have ht0 := hr.1; have ht1 := hr.2.1
      rw [ar_mul, w_i64 (by omega) (by omega)]
      unfold ref19_When_l1
      have := loop_seq (step := fun (s : Int × Int) => ref19_When_s1 none a nth s.1 s.2) (r := (256 * a.time + sumD (a.seen.take (nth.toNat + 1)), 0)) (fun i => (256 * a.time + sumD (a.seen.take i), (i : Int))) (nth.toNat + 1) (fun i hi' => by
        show ref19_When_s1 none a nth _ (i : Int) = _
        have hil : i < a.seen.length := by omega
        have hb := sumD_bd (a.seen.take (i + 1)) fun s hs => hr.2.2.2 s (List.mem_of_mem_take hs)
        rw [List.length_take, take_snoc _ i hil, sumD_snoc] at hb
        unfold ref19_When_s1
        rw [if_pos (by rw [cm_leq]; simp; omega), bnd (ix_some (n := i) rfl hil), ar_add, w_i64 (by omega) (by omega), ar_add, w_i64 (by omega) (by omega), take_snoc _ i hil, sumD_snoc, Int.add_assoc]
        rfl) (by
        show ref19_When_s1 none a nth _ _ = _
        unfold ref19_When_s1
        rw [if_neg (by rw [cm_leq]; simp; omega)]; rfl)
      simpa [sumD] using this

theorem rcanon19_eq {b : List Int} (hb : oct b) (hl : b.length ≤ 70000) : ref19_Canon none b = some (canonS b) := by
  unfold ref19_Canon
  rw [bnd (rread19_eq hb (by omega))]
  unfold rdX
  cases hr : readA b with
  | error e =>
    have he := readA_err hr
    have e1 : rdA b = (zeroA, [], [], e) := by unfold rdA; rw [hr]
    have c : cm .eql e 0 = false := by rw [cm_eql]; simpa using he
    rw [e1]
    simp only [c, gTF, Option.bind_some, Bool.false_and]
    have : canonS b = false := by unfold canonS; rw [hr]
    rw [this]
  | ok p =>
    obtain ⟨a, u, n⟩ := p
    obtain ⟨k1, k2, k3, k4, k5, k6⟩ := read_ok hb hr
    have e1 : rdA b = (a, (csA b).take u, (b.drop (8 + 2 * u)).drop n, 0) := by unfold rdA; rw [hr]
    have c1 : cm .eql (0 : Int) 0 = true := by decide
    rw [e1]
    simp only [c1, gTT, Bool.true_and]
    rw [bnd (rwriteA_eq k5 k4), sc_b2s (write_oct k5 k4) hb]
    congr 1
    rw [Bool.eq_iff_iff, canon_write hb hr, decide_eq_true_iff (p := writeA a = b)]
end Xb
