/- Own text: JArr4. -/
import Derived.Test.YtjfacnghojgkeaaJArr3
set_option linter.all false
set_option linter.unusedVariables false
set_option linter.unusedSimpArgs false
set_option linter.unnecessarySimpa false
set_option linter.deprecated false
/-! A telling, written and read, and read and written. -/
namespace Xb
open Go

theorem sum_whats {l : List Seen} (h : ∀ s, s ∈ l → FitS s) : sumN (whatsL l) = (dltL l).length := by
  induction l with
  | nil => rfl
  | cons a l ih =>
    have h1 := ih fun s hs => h s (by simp [hs])
    have h2 := dlt_len (h a (by simp))
    have e : dltL (a :: l) = dlt a ++ dltL l := by simp [dltL]
    have e2 : whatsL (a :: l) = a.what :: whatsL l := rfl
    rw [e, e2, sumN_cons, List.length_append, h1]; omega

theorem valD_dlt {s : Seen} (h : FitS s) (t : List Int) : valD s.what (dlt s ++ t) = s.delta := by
  unfold FitS at h; unfold valD dlt
  by_cases h1 : s.what = 1
  · rw [if_pos h1, if_neg (by omega), if_pos h1]; rfl
  · rw [if_neg h1]
    by_cases h2 : s.what = 2
    · have e : (beN 2 (s.delta % 65536) ++ t).take 2 = beN 2 (s.delta % 65536) := List.take_left' (beN_len 2 _)
      rw [if_pos h2, if_pos h2, e, num_be 2 _ (by omega) (by omega)]
      unfold sg2
      split <;> omega
    · rw [if_neg h2]; omega

theorem deltas_write : ∀ {l : List Seen} (t : List Int), (∀ s, s ∈ l → FitS s) → deltasS (whatsL l) (dltL l ++ t) = l
  | [], _, _ => rfl
  | a :: l, t, h => by
    have ha := h a (by simp)
    have e : dltL (a :: l) ++ t = dlt a ++ (dltL l ++ t) := by simp [dltL]
    have e2 : whatsL (a :: l) = a.what :: whatsL l := rfl
    have hl := dlt_len ha
    rw [e, e2, deltasS, valD_dlt ha, List.drop_left' (by omega), deltas_write t fun s hs => h s (by simp [hs])]

theorem deltas_back : ∀ {l b : List Int}, vl l → oct b → sumN l ≤ b.length → whatsL (deltasS l b) = l ∧ dltL (deltasS l b) = b.take (sumN l) ∧ ∀ s, s ∈ deltasS l b → FitS s
  | [], b, _, _, _ => by simp [deltasS, whatsL, dltL, sumN]
  | v :: l, b, hv, hb, h => by
    rw [sumN_cons] at h
    have hvv := hv v (by simp)
    obtain ⟨i1, i2, i3⟩ := deltas_back (l := l) (b := b.drop v.toNat) (fun x hx => hv x (by simp [hx])) (hb.drop _) (by rw [List.length_drop]; omega)
    have key : dlt ⟨v, valD v b⟩ = b.take v.toNat ∧ FitS ⟨v, valD v b⟩ := by
      unfold dlt FitS valD
      by_cases h1 : v = 1
      · subst h1
        cases b with
        | nil => simp at h
        | cons x b =>
          have := hb x (by simp)
          simp; omega
      · by_cases h2 : v = 2
        · subst h2
          have hn := numB_bd (b.take 2) (hb.take 2)
          have hl : (b.take 2).length = 2 := by rw [List.length_take]; simp at h; omega
          rw [hl] at hn
          have e : sg2 (numB (b.take 2)) % 65536 = numB (b.take 2) := by unfold sg2; split <;> omega
          have hbe := be_num (b.take 2) (hb.take 2)
          rw [hl] at hbe
          have hr : -32768 ≤ sg2 (numB (b.take 2)) ∧ sg2 (numB (b.take 2)) ≤ 32767 := by unfold sg2; split <;> omega
          simp only [if_neg h1, if_true, e, hbe]
          exact ⟨rfl, .inr (.inr ⟨trivial, hr.1, hr.2⟩)⟩
        · have h0 : v = 0 := by omega
          subst h0; simp
    refine ⟨?_, ?_, ?_⟩
    · show v :: whatsL (deltasS l (b.drop v.toNat)) = _
      rw [i1]
    · have e : dltL (deltasS (v :: l) b) = dlt ⟨v, valD v b⟩ ++ dltL (deltasS l (b.drop v.toNat)) := by simp [deltasS, dltL]
      rw [e, key.1, i2, sumN_cons, List.take_add]
    · intro s hs
      rcases List.mem_cons.1 hs with rfl | hs
      · exact key.2
      · exact i3 s hs

theorem chunks_app {α : Type} {n : Nat} (h : 1 ≤ n) (r : List α) : ∀ (L : List (List α)), (∀ c, c ∈ L → c.length = n) → chunksL n (L.flatten ++ r) = L ++ chunksL n r
  | [], _ => by simp
  | c :: L, hc => by
    have h1 := hc c (by simp)
    have hne : (c :: L).flatten ++ r ≠ [] := by
      intro h0
      have := congrArg List.length h0
      simp only [List.flatten_cons, List.length_append, List.length_nil] at this; omega
    rw [chunks_cons h hne]
    have e : (c :: L).flatten ++ r = c ++ (L.flatten ++ r) := by simp
    rw [e, List.take_left' h1, List.drop_left' h1, chunks_app h r L fun d hd => hc d (by simp [hd])]
    rfl

theorem nums_chunks {ws r : List Int} (hw : ∀ x, x ∈ ws → 0 ≤ x ∧ x ≤ 65535) : (chunksL 2 (numsL ws ++ r)).map numB = ws ++ (chunksL 2 r).map numB := by
  have e : numsL ws = (ws.map (beN 2)).flatten := by simp [numsL, List.flatMap_def]
  rw [e, chunks_app (by omega) r _ (fun c hc => by
    obtain ⟨x, _, rfl⟩ := List.mem_map.1 hc
    exact beN_len 2 x), List.map_append, List.map_map]
  congr 1
  have : ∀ (l : List Int), (∀ x, x ∈ l → 0 ≤ x ∧ x ≤ 65535) → l.map (numB ∘ beN 2) = l := by
    intro l hl
    induction l with
    | nil => rfl
    | cons a l ih =>
      have := hl a (by simp)
      rw [List.map_cons, ih fun x hx => hl x (by simp [hx])]
      congr 1
      exact num_be 2 a (by omega) (by omega)
  exact this ws hw

theorem nums_back {C : List (List Int)} (hC : ∀ c, c ∈ C → c.length = 2 ∧ oct c) : numsL (C.map numB) = C.flatten := by
  induction C with
  | nil => rfl
  | cons c C ih =>
    have h := hC c (by simp)
    have hb := be_num c h.2
    rw [h.1] at hb
    have e : numsL ((c :: C).map numB) = beN 2 (numB c) ++ numsL (C.map numB) := by simp [numsL]
    rw [e, hb, ih fun d hd => hC d (by simp [hd])]
    simp

theorem wl_in {a : Arrive} (hr : RightA a) : ∀ x, x ∈ writeS (whatsL a.seen) → 0 ≤ x ∧ x ≤ 65535 :=
  writeS_in ((whatsL a.seen).length + 1) (by omega) (whats_vl hr.2.2.2)

/-- what is written of one that is right is read as it was -/
theorem read_write {a : Arrive} (hg : GoodA a) (hr : RightA a) : readA (writeA a) = .ok (a, (writeS (whatsL a.seen)).length, sumN (whatsL a.seen)) := by
  have hbl := body_len hr
  have hw4 := write_len4 a
  have hc := hr.2.2.1
  have hhd := hdA_len a
  have hb0 := hg.b0; have hb1 := hg.b1; have hc0 := hg.c0; have hc1 := hg.c1
  have ht0 := hr.1; have ht1 := hr.2.1
  have hsw := sum_whats hr.2.2.2
  obtain ⟨Z, hZ⟩ : ∃ Z, Z = List.replicate (fillN (bodyA a).length) (0 : Int) := ⟨_, rfl⟩
  have hZl : Z.length ≤ 3 := by rw [hZ, List.length_replicate]; unfold fillN; omega
  have e0 : writeA a = hdA a ++ (numsL (writeS (whatsL a.seen)) ++ (dltL a.seen ++ Z)) := by rw [hZ]; simp [writeA, bodyA]
  have e1 : writeA a = beN 2 a.base ++ (beN 2 (a.seen.length : Int) ++ (beN 3 (a.time % 16777216) ++ ([a.count] ++ (numsL (writeS (whatsL a.seen)) ++ (dltL a.seen ++ Z))))) := by rw [e0]; simp [hdA]
  have d8 : (writeA a).drop 8 = numsL (writeS (whatsL a.seen)) ++ (dltL a.seen ++ Z) := by rw [e0, List.drop_left' hhd]
  have dx : (writeA a).drop (8 + 2 * (writeS (whatsL a.seen)).length) = dltL a.seen ++ Z := by
    rw [← List.drop_drop, d8, List.drop_left' (numsL_len _)]
  have hn : numA (writeA a) = (a.seen.length : Int) := by
    unfold numA
    rw [e1, List.drop_left' (beN_len 2 _), List.take_left' (beN_len 2 _), num_be 2 _ (by omega) (by omega)]
  have hcs : csA (writeA a) = writeS (whatsL a.seen) ++ (chunksL 2 (dltL a.seen ++ Z)).map numB := by
    unfold csA
    rw [d8, nums_chunks (wl_in hr)]
  have hwl : (whatsL a.seen).length = a.seen.length := by simp [whatsL]
  have hrd := readC_write (more := (chunksL 2 (dltL a.seen ++ Z)).map numB) (whats_vl hr.2.2.2) (by omega : (whatsL a.seen).length ≤ 4000)
  rw [hwl] at hrd
  have hlen : 8 ≤ (writeA a).length := by rw [e0, List.length_append, hhd]; omega
  unfold readA
  rw [if_neg (by omega), if_neg (by omega), hn, if_neg (by omega), hcs, hrd]
  simp only []
  rw [dx, hsw, if_neg (by simp), if_neg (by simp; omega), ← hsw]
  have hs : deltasS (whatsL a.seen) (dltL a.seen ++ Z) = a.seen := deltas_write Z hr.2.2.2
  have h0 : numB ((writeA a).take 2) = a.base := by
    rw [e1, List.take_left' (beN_len 2 _), num_be 2 _ (by omega) (by omega)]
  have h4 : sg3 (numB (((writeA a).drop 4).take 3)) = a.time := by
    have : (writeA a).drop 4 = beN 3 (a.time % 16777216) ++ ([a.count] ++ (numsL (writeS (whatsL a.seen)) ++ (dltL a.seen ++ Z))) := by
      rw [show (4 : Nat) = 2 + 2 from rfl, ← List.drop_drop, e1, List.drop_left' (beN_len 2 _), List.drop_left' (beN_len 2 _)]
    rw [this, List.take_left' (beN_len 3 _), num_be 3 _ (by omega) (by omega)]
    unfold sg3
    split <;> omega
  have h7 : (writeA a).getD 7 0 = a.count := by
    have : (writeA a).drop 7 = [a.count] ++ (numsL (writeS (whatsL a.seen)) ++ (dltL a.seen ++ Z)) := by
      rw [show (7 : Nat) = 2 + 2 + 3 from rfl, ← List.drop_drop, ← List.drop_drop, e1, List.drop_left' (beN_len 2 _), List.drop_left' (beN_len 2 _), List.drop_left' (beN_len 3 _)]
    have hq : (writeA a)[7]? = some a.count := by
      rw [show (7 : Nat) = 7 + 0 from rfl, ← List.getElem?_drop, this]; rfl
    rw [List.getD_eq_getElem?_getD, hq]; rfl
  rw [hs, h0, h4, h7]

/-- what is read -/
theorem read_ok {b : List Int} (hb : oct b) {a : Arrive} {u n : Nat} (h : readA b = .ok (a, u, n)) :
    b.length ≤ 65520 ∧ b.length % 4 = 0 ∧ 8 ≤ b.length ∧ RightA a ∧ GoodA a ∧ numA b = (a.seen.length : Int) ∧ readC (csA b) (a.seen.length : Int) = .ok (whatsL a.seen, u) ∧ u ≤ (csA b).length ∧ n = sumN (whatsL a.seen) ∧
    n ≤ (b.drop (8 + 2 * u)).length ∧ (b.drop (8 + 2 * u)).length ≤ n + 3 ∧ dltL a.seen = (b.drop (8 + 2 * u)).take n ∧ hdA a = b.take 8 := by
  unfold readA at h
  split at h
  · cases h
  · rename_i h1
    split at h
    · cases h
    · rename_i h2
      split at h
      · cases h
      · rename_i h3
        cases hr : readC (csA b) (numA b) with
        | error e => rw [hr] at h; cases h
        | ok p =>
          obtain ⟨L, v⟩ := p
          rw [hr] at h
          simp only [] at h
          split at h
          · cases h
          · rename_i h4
            split at h
            · cases h
            · rename_i h5
              cases h
              have e4 : b.length % 4 = 0 := by omega
              have hcs := csA_in hb e4 (by omega)
              obtain ⟨r1, r2, r3, r4⟩ := readC_ok hcs hr
              obtain ⟨d1, d2, d3⟩ := deltas_back r3 (hb.drop (8 + 2 * u)) (by omega)
              have hlen : (deltasS L (b.drop (8 + 2 * u))).length = L.length := by
                have := congrArg List.length d1
                simpa [whatsL] using this
              have l2 : (b.take 2).length = 2 := by rw [List.length_take]; omega
              have l22 : ((b.drop 2).take 2).length = 2 := by rw [List.length_take, List.length_drop]; omega
              have l43 : ((b.drop 4).take 3).length = 3 := by rw [List.length_take, List.length_drop]; omega
              have n0 := numB_bd (b.take 2) (hb.take 2)
              have n3 := numB_bd ((b.drop 4).take 3) ((hb.drop 4).take 3)
              rw [l2] at n0
              rw [l43] at n3
              have b0 := be_num _ (hb.take 2)
              have b2 := be_num _ ((hb.drop 2).take 2)
              have b4 := be_num _ ((hb.drop 4).take 3)
              rw [l2] at b0; rw [l22] at b2; rw [l43] at b4
              have h7 : 7 < b.length := by omega
              have g7 : b.getD 7 0 = b[7] := by rw [List.getD_eq_getElem?_getD, List.getElem?_eq_getElem h7]; rfl
              have h7b := hb _ (List.getElem_mem h7)
              have hsg : sg3 (numB ((b.drop 4).take 3)) % 16777216 = numB ((b.drop 4).take 3) := by unfold sg3; split <;> omega
              have hsr : -8388608 ≤ sg3 (numB ((b.drop 4).take 3)) ∧ sg3 (numB ((b.drop 4).take 3)) ≤ 8388607 := by unfold sg3; split <;> omega
              refine ⟨by omega, e4, by omega, ⟨hsr.1, hsr.2, by rw [hlen]; exact r2, d3⟩, ⟨n0.1, by show numB (b.take 2) ≤ 65535; omega, by rw [g7]; exact h7b.1, by rw [g7]; exact h7b.2⟩, ?_, ?_, r4, ?_, by omega, by omega, d2, ?_⟩
              · show numA b = ((deltasS L (b.drop (8 + 2 * u))).length : Int)
                rw [hlen]; omega
              · show readC (csA b) ((deltasS L (b.drop (8 + 2 * u))).length : Int) = .ok (whatsL (deltasS L (b.drop (8 + 2 * u))), u)
                rw [hlen, d1, r1, hr]
              · show sumN L = sumN (whatsL (deltasS L (b.drop (8 + 2 * u))))
                rw [d1]
              · unfold hdA
                show beN 2 (numB (b.take 2)) ++ beN 2 ((deltasS L (b.drop (8 + 2 * u))).length : Int) ++ beN 3 (sg3 (numB ((b.drop 4).take 3)) % 16777216) ++ [b.getD 7 0] = b.take 8
                rw [hlen, r1, b0, hsg, b4]
                unfold numA
                rw [b2, g7]
                have t8 : b.take 8 = b.take 2 ++ (b.drop 2).take 2 ++ (b.drop 4).take 3 ++ (b.drop 7).take 1 := by
                  rw [show (8 : Nat) = 2 + 2 + 3 + 1 from rfl, List.take_add, List.take_add, List.take_add]
                have t1 : (b.drop 7).take 1 = [b[7]] := by rw [List.drop_eq_getElem_cons h7]; rfl
                rw [t8, t1]
end Xb
