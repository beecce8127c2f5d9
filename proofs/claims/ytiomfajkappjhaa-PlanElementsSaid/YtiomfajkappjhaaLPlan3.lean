/- Own text: LPlan3. -/
import Derived.Test.YtiomfajkappjhaaLPlan2
set_option linter.all false
set_option linter.unusedVariables false
set_option linter.unusedSimpArgs false
set_option linter.unnecessarySimpa false
set_option linter.deprecated false
/-! A packet's elements turned in place. -/
namespace Xb
open Go

theorem spotsT {n pos : Nat} {x : Int} {r : List Int} {out : List Spot} (h0 : x ≠ 0) : spotsG true (n + 1) pos (x :: r) out =
    if x / 16 = 0 ∨ x / 16 = 15 then (out, 0) else if r.length < (x % 16 + 1).toNat then ([], 4) else if dupS out (x / 16) then ([], 6)
      else spotsG true n (pos + 1 + (x % 16 + 1).toNat) (r.drop (x % 16 + 1).toNat) (out ++ [⟨x / 16, pos + 1, x % 16 + 1⟩]) := by
  cases r <;> simp [spotsG, h0]
theorem spotsF {n pos : Nat} {x s : Int} {r : List Int} {out : List Spot} (h0 : x ≠ 0) : spotsG false (n + 1) pos (x :: s :: r) out =
    if r.length < s.toNat then ([], 4) else if dupS out x then ([], 6) else spotsG false n (pos + 2 + s.toNat) (r.drop s.toNat) (out ++ [⟨x, pos + 2, s⟩]) := by
  simp [spotsG, h0]
theorem spotsF1 {n pos : Nat} {x : Int} {out : List Spot} (h0 : x ≠ 0) : spotsG false (n + 1) pos [x] out = ([], 4) := by
  simp [spotsG, h0]

/-- bytes whose elements could be read are these elements, with noughts ahead of each, and an end -/
theorem spots_dec {nar : Bool} : ∀ (n pos : Nat) (rest : List Int) (out : List Spot), rest.length < n → oct rest → (spotsG nar n pos rest out).2 = 0 →
    ∃ (L : List (Nat × Elem)) (t : List Int), rest = bodyP nar L ++ t ∧ (spotsG nar n pos rest out).1 = out ++ mkP nar pos L ∧ (∀ x, x ∈ L → FitE x.2 ∧ (nar = true → Nar x.2) ∧ oct x.2.data) ∧ ∀ m pos' out', t.length < m → spotsG nar m pos' t out' = (out', 0)
  | 0, _, _, _, h, _, _ => by omega
  | n + 1, pos, [], out, _, _, _ => by
    refine ⟨[], [], rfl, ?_, fun x hx => (List.not_mem_nil hx).elim, fun m pos' out' hm => ?_⟩
    · cases nar <;> simp [spotsG, mkP]
    · obtain ⟨m', rfl⟩ : ∃ m', m = m' + 1 := ⟨m - 1, by omega⟩
      cases nar <;> rfl
  | n + 1, pos, x :: r, out, hl, hb, he => by
    have hx := hb x (by simp)
    have hbr : oct r := fun y hy => hb y (by simp [hy])
    simp only [List.length_cons] at hl
    by_cases h0 : x = 0
    · subst h0
      have e : spotsG nar (n + 1) pos (0 :: r) out = spotsG nar n (pos + 1) r out := by
        cases r <;> cases nar <;> simp [spotsG]
      rw [e] at he ⊢
      obtain ⟨L, t, h1, h2, h3, h4⟩ := spots_dec n (pos + 1) r out (by omega) hbr he
      cases L with
      | nil =>
        refine ⟨[], 0 :: t, by rw [h1]; rfl, by rw [h2]; rfl, fun x hx => (List.not_mem_nil hx).elim, fun m pos' out' hm => ?_⟩
        obtain ⟨m', rfl⟩ : ∃ m', m = m' + 1 := ⟨m - 1, by simp at hm; omega⟩
        have e : spotsG nar (m' + 1) pos' (0 :: t) out' = spotsG nar m' (pos' + 1) t out' := by
          cases t <;> cases nar <;> simp [spotsG]
        rw [e]
        exact h4 m' _ _ (by simp at hm; omega)
      | cons y L =>
        refine ⟨(y.1 + 1, y.2) :: L, t, ?_, ?_, fun x hx => ?_, h4⟩
        · rw [h1, bodyP_cons, bodyP_cons, List.replicate_succ]; rfl
        · rw [h2]
          simp only [mkP]
          have e1 : pos + 1 + y.1 + ah nar = pos + (y.1 + 1) + ah nar := by omega
          rw [e1]
        · rcases List.mem_cons.1 hx with rfl | hx
          · exact h3 y (by simp)
          · exact h3 x (by simp [hx])
    · cases nar with
      | true =>
        rw [spotsT h0] at he ⊢
        by_cases h1 : x / 16 = 0 ∨ x / 16 = 15
        · rw [if_pos h1] at he ⊢
          refine ⟨[], x :: r, rfl, by simp [mkP], fun x hx => (List.not_mem_nil hx).elim, fun m pos' out' hm => ?_⟩
          obtain ⟨m', rfl⟩ : ∃ m', m = m' + 1 := ⟨m - 1, by simp at hm; omega⟩
          rw [spotsT h0, if_pos h1]
        · rw [if_neg h1] at he ⊢
          by_cases h2 : r.length < (x % 16 + 1).toNat
          · rw [if_pos h2] at he; cases he
          · rw [if_neg h2] at he ⊢
            by_cases h3 : dupS out (x / 16) = true
            · rw [if_pos h3] at he; cases he
            · rw [if_neg h3] at he ⊢
              obtain ⟨L, t, k1, k2, k3, k4⟩ := spots_dec n _ _ _ (by rw [List.length_drop]; omega) (fun y hy => hbr y (List.mem_of_mem_drop hy)) he
              have hq : (r.take (x % 16 + 1).toNat).length = (x % 16 + 1).toNat := by rw [List.length_take]; omega
              refine ⟨(0, ⟨x / 16, r.take (x % 16 + 1).toNat⟩) :: L, t, ?_, ?_, fun y hy => ?_, k4⟩
              · rw [bodyP_cons]
                have e : encE true ⟨x / 16, r.take (x % 16 + 1).toNat⟩ = x :: r.take (x % 16 + 1).toNat := by
                  unfold encE hdr
                  rw [if_pos rfl, hq]
                  show (16 * (x / 16) + ((x % 16 + 1).toNat : Int) - 1) :: _ = _
                  congr 1; omega
                rw [e]
                show x :: r = x :: (r.take _ ++ bodyP true L ++ t)
                rw [List.append_assoc, ← k1, List.take_append_drop]
              · rw [k2]
                have e1 : ah true = 1 := rfl
                have es : (⟨x / 16, (pos : Int) + 1, x % 16 + 1⟩ : Spot) = ⟨x / 16, ((pos + 0 + 1 : Nat) : Int), ((x % 16 + 1).toNat : Int)⟩ := by
                  rw [Spot.mk.injEq]; omega
                have ep : pos + 1 + (x % 16 + 1).toNat = pos + 0 + 1 + (x % 16 + 1).toNat := by omega
                simp only [mkP, hq, e1]
                rw [es, ep, List.append_assoc]
                rfl
              · rcases List.mem_cons.1 hy with rfl | hy
                · have hid : 1 ≤ x / 16 ∧ x / 16 ≤ 14 := by omega
                  exact ⟨⟨hid.1, Int.le_trans hid.2 (by decide), by show (r.take (x % 16 + 1).toNat).length ≤ 255; rw [hq]; omega⟩, fun _ => ⟨hid.2, by show 1 ≤ (r.take (x % 16 + 1).toNat).length; rw [hq]; omega, by show (r.take (x % 16 + 1).toNat).length ≤ 16; rw [hq]; omega⟩, fun z hz => hbr z (List.mem_of_mem_take hz)⟩
                · exact k3 y hy
      | false =>
        cases r with
        | nil =>
          rw [spotsF1 h0] at he
          cases he
        | cons s r' =>
          have hs := hb s (by simp)
          have hbr' : oct r' := fun y hy => hb y (by simp [hy])
          simp only [List.length_cons] at hl
          rw [spotsF h0] at he ⊢
          by_cases h2 : r'.length < s.toNat
          · rw [if_pos h2] at he; cases he
          · rw [if_neg h2] at he ⊢
            by_cases h3 : dupS out x = true
            · rw [if_pos h3] at he; cases he
            · rw [if_neg h3] at he ⊢
              obtain ⟨L, t, k1, k2, k3, k4⟩ := spots_dec n _ _ _ (by rw [List.length_drop]; omega) (fun y hy => hbr' y (List.mem_of_mem_drop hy)) he
              have hq : (r'.take s.toNat).length = s.toNat := by rw [List.length_take]; omega
              refine ⟨(0, ⟨x, r'.take s.toNat⟩) :: L, t, ?_, ?_, fun y hy => ?_, k4⟩
              · rw [bodyP_cons]
                have e : encE false ⟨x, r'.take s.toNat⟩ = x :: s :: r'.take s.toNat := by
                  unfold encE hdr
                  rw [if_neg (by decide), hq]
                  show x :: (s.toNat : Int) :: _ = _
                  congr 2; omega
                rw [e]
                show x :: s :: r' = x :: s :: (r'.take _ ++ bodyP false L ++ t)
                rw [List.append_assoc, ← k1, List.take_append_drop]
              · rw [k2]
                have e1 : ah false = 2 := rfl
                have es : (⟨x, (pos : Int) + 2, s⟩ : Spot) = ⟨x, ((pos + 0 + 2 : Nat) : Int), ((s.toNat : Nat) : Int)⟩ := by
                  rw [Spot.mk.injEq]; omega
                have ep : pos + 2 + s.toNat = pos + 0 + 2 + s.toNat := by omega
                simp only [mkP, hq, e1]
                rw [es, ep, List.append_assoc]
                rfl
              · rcases List.mem_cons.1 hy with rfl | hy
                · exact ⟨⟨by show 1 ≤ x; omega, by show x ≤ 255; omega, by show (r'.take s.toNat).length ≤ 255; rw [hq]; omega⟩, fun h => (by cases h), fun z hz => hbr' z (List.mem_of_mem_take hz)⟩
                · exact k3 y hy

theorem mkP_get {nar : Bool} : ∀ (L : List (Nat × Elem)) (pos i : Nat) (hi : i < L.length), (mkP nar pos L)[i]? = some ⟨L[i].2.id_, ((pos + (bodyP nar (L.take i)).length + L[i].1 + ah nar : Nat) : Int), (L[i].2.data.length : Int)⟩
  | [], _, _, h => by simp at h
  | x :: L, pos, 0, _ => by simp [mkP, bodyP]
  | x :: L, pos, i + 1, h => by
    have h' : i < L.length := by simpa using h
    have := mkP_get (nar := nar) L (pos + x.1 + ah nar + x.2.data.length) i h'
    simp only [mkP, List.getElem?_cons_succ, this, List.getElem_cons_succ]
    congr 2
    have : (bodyP nar ((x :: L).take (i + 1))).length = x.1 + (ah nar + x.2.data.length) + (bodyP nar (L.take i)).length := by
      rw [List.take_succ_cons, bodyP_cons, List.length_append, List.length_append, List.length_replicate, encE_len]; omega
    rw [this]; omega
theorem mkP_len {nar : Bool} : ∀ (L : List (Nat × Elem)) (pos : Nat), (mkP nar pos L).length = L.length
  | [], _ => rfl
  | x :: L, pos => by simp [mkP, mkP_len L]

theorem set_at {α : Type} (P Q : List α) (h x : α) : (P ++ h :: Q).set P.length x = P ++ x :: Q := by
  rw [List.set_append_right _ _ (Nat.le_refl _), Nat.sub_self]; rfl
theorem cpy_at {α : Type} {P d R q : List α} {a b : Int} (ha : a = P.length) (hb : b = (P.length + d.length : Nat)) (hq : q.length = d.length) : cpy (P ++ (d ++ R)) a b q = P ++ (q ++ R) := by
  subst ha; subst hb
  unfold cpy
  have e1 : ((P.length + d.length : Nat) : Int).toNat - (P.length : Int).toNat = d.length := by omega
  rw [e1, Int.toNat_natCast, List.take_of_length_le (show q.length ≤ d.length by omega), List.take_left, hq]
  have e2 : (P ++ (d ++ R)).drop (P.length + d.length) = R := by
    rw [← List.drop_drop, List.drop_left, List.drop_left]
  rw [e2, List.append_assoc]
theorem sub_mid {α : Type} {P d R : List α} {a b : Int} (ha : a = P.length) (hb : b = (P.length + d.length : Nat)) : sub (P ++ (d ++ R)) a b = some d := by
  subst ha; subst hb
  rw [sub_some (by omega) (by omega) (by simp only [List.length_append]; omega)]
  have e1 : ((P.length + d.length : Nat) : Int).toNat - (P.length : Int).toNat = d.length := by omega
  rw [e1, Int.toNat_natCast, List.drop_left, List.take_left]

theorem dataY_eq {p : Plan} (hl : p.over.length ≤ 300) {id a b : Int} {e : Elem} (hi : e.id_ = id) (hab : b.toNat - a.toNat = e.data.length) :
    plan_data_y1 none p id a b = some (match p.over.find? (fun y => decide (y.id_ = e.id_)) with | some y => (some y.data, okS p e) | none => (none, true)) := by
  subst hi
  unfold plan_data_y1 plan_data_y1_l1
  rw [find_by (l := p.over) (q := fun y => decide (y.id_ = e.id_)) (hit := fun y => (some y.data, decide (y.data.length = e.data.length))) (miss := (none, true)) (by omega) (fun i hi => by
    show plan_data_y1_s1 none p e.id_ a b (i : Int) = _
    unfold plan_data_y1_s1
    rw [if_pos (by rw [cm_lss]; simpa using hi), bnd (ix_some (n := i) rfl hi), cm_eql]
    by_cases h : p.over[i].id_ = e.id_
    · rw [if_pos (by simpa using h), if_pos (by simpa using h), cm_eql, hab]
      simp; omega
    · rw [if_neg (by simpa using h), if_neg (by simpa using h)]) (by
    show plan_data_y1_s1 none p e.id_ a b _ = _
    unfold plan_data_y1_s1
    rw [if_neg (by rw [cm_lss]; simp)]; rfl)]
  unfold okS
  cases p.over.find? (fun y => decide (y.id_ = e.id_)) <;> rfl

def newP (p : Plan) (x : Nat × Elem) : Nat × Elem := (x.1, newS p x.2)
theorem dat_len {p : Plan} {e : Elem} (h : okS p e = true) : (datS p e).length = e.data.length := by
  unfold okS at h; unfold datS
  cases hf : p.over.find? (fun y => decide (y.id_ = e.id_)) with
  | none => rfl
  | some y => rw [hf] at h; simpa using h

theorem bodyP_app {nar : Bool} (L M : List (Nat × Elem)) : bodyP nar (L ++ M) = bodyP nar L ++ bodyP nar M := by simp [bodyP]
theorem newP_len {nar : Bool} {p : Plan} : ∀ {L : List (Nat × Elem)}, (∀ x, x ∈ L → okS p x.2 = true) → (bodyP nar (L.map (newP p))).length = (bodyP nar L).length
  | [], _ => rfl
  | x :: L, h => by
    have ih := newP_len (nar := nar) (L := L) fun y hy => h y (by simp [hy])
    have hx := dat_len (h x (by simp))
    rw [List.map_cons, bodyP_cons, bodyP_cons, List.length_append, List.length_append, List.length_append, List.length_append, encE_len, encE_len, ih]
    simp only [newP, newS, List.length_replicate, hx]

theorem or_nib {x y : Int} (h0 : 0 ≤ x) (h1 : x ≤ 14) (h2 : 0 ≤ y) (h3 : y ≤ 255) : ar .or .u8 (IntKind.u8.wrap (sf .shl .i64 x 4)) (ar .and .u8 y 15) = 16 * x + y % 16 := by
  have key : ∀ a : Fin 15, ∀ b : Fin 256, ar .or .u8 (IntKind.u8.wrap (sf .shl .i64 (a.val : Int) 4)) (ar .and .u8 (b.val : Int) 15) = 16 * (a.val : Int) + (b.val : Int) % 16 := by decide +kernel
  have := key ⟨x.toNat, by omega⟩ ⟨y.toNat, by omega⟩
  have ex : ((x.toNat : Nat) : Int) = x := by omega
  have ey : ((y.toNat : Nat) : Int) = y := by omega
  simp only [ex, ey] at this
  exact this
end Xb
