/- Own text: KTrueElemPads. -/
import Derived.Test.YtcdhafhamjinlaaKTrueElemBack
set_option linter.all false
set_option linter.unusedVariables false
set_option linter.unusedSimpArgs false
set_option linter.unnecessarySimpa false
set_option linter.deprecated false
namespace Xb
open Go

/-! elements with noughts ahead of each -/
def bodyP (nar : Bool) (L : List (Nat × Elem)) : List Int := L.flatMap fun x => List.replicate x.1 0 ++ encE nar x.2
def mkP (nar : Bool) : Nat → List (Nat × Elem) → List Spot
  | _, [] => []
  | pos, x :: L => ⟨x.2.id_, ((pos + x.1 + ah nar : Nat) : Int), (x.2.data.length : Int)⟩ :: mkP nar (pos + x.1 + ah nar + x.2.data.length) L

theorem spots_skip {nar : Bool} : ∀ (k n pos : Nat) (r : List Int) (out : List Spot), k ≤ n → spotsG nar (n) pos (List.replicate k 0 ++ r) out = spotsG nar (n - k) (pos + k) r out
  | 0, n, pos, r, out, _ => by simp
  | k + 1, 0, _, _, _, h => by omega
  | k + 1, n + 1, pos, r, out, h => by
    have e : spotsG nar (n + 1) pos (0 :: (List.replicate k 0 ++ r)) out = spotsG nar n (pos + 1) (List.replicate k 0 ++ r) out := by
      cases hh : List.replicate k 0 ++ r <;> cases nar <;> simp [spotsG]
    rw [List.replicate_succ, List.cons_append, e, spots_skip k n (pos + 1) r out (by omega)]
    congr 1 <;> omega

theorem encE_len (nar : Bool) (e : Elem) : (encE nar e).length = ah nar + e.data.length := by
  unfold encE ah; rw [List.length_append, hdr_len]
theorem bodyP_cons (nar : Bool) (x : Nat × Elem) (L : List (Nat × Elem)) : bodyP nar (x :: L) = List.replicate x.1 0 ++ (encE nar x.2 ++ bodyP nar L) := by simp [bodyP]

theorem spots_fwdP {nar : Bool} : ∀ (L : List (Nat × Elem)) (n pos : Nat) (t : List Int) (out : List Spot), (∀ x, x ∈ L → FitE x.2) → (nar = true → ∀ x, x ∈ L → Nar x.2) → (out.map (·.id_) ++ L.map (·.2.id_)).Nodup → (bodyP nar L ++ t).length < n →
    ∃ m, t.length < m ∧ spotsG nar n pos (bodyP nar L ++ t) out = spotsG nar m (pos + (bodyP nar L).length) t (out ++ mkP nar pos L)
  | [], n, pos, t, out, _, _, _, hn => ⟨n, by simpa [bodyP] using hn, by simp [bodyP, mkP]⟩
  | x :: L, n, pos, t, out, hf, hna, hd, hn => by
    have hlen : (bodyP nar (x :: L) ++ t).length = x.1 + (ah nar + x.2.data.length) + (bodyP nar L ++ t).length := by
      rw [bodyP_cons]; simp only [List.length_append, List.length_replicate, encE_len]; omega
    rw [hlen] at hn
    have hsplit : bodyP nar (x :: L) ++ t = List.replicate x.1 0 ++ (bodyL nar [x.2] ++ (bodyP nar L ++ t)) := by
      rw [bodyP_cons]; simp [bodyL]
    have hd1 : (out.map (·.id_) ++ [x.2].map (·.id_)).Nodup := by
      have : (out.map (·.id_) ++ (x :: L).map (·.2.id_)) = (out.map (·.id_) ++ [x.2].map (·.id_)) ++ L.map (·.2.id_) := by simp
      rw [this, List.nodup_append] at hd
      exact hd.1
    obtain ⟨m1, h1, h2⟩ := spots_fwd (nar := nar) [x.2] (n - x.1) (pos + x.1) (bodyP nar L ++ t) out (fun e he => by rw [List.mem_singleton.1 he]; exact hf x (by simp)) (fun h e he => by rw [List.mem_singleton.1 he]; exact hna h x (by simp)) hd1 (by
      have : (bodyL nar [x.2]).length = ah nar + x.2.data.length := by simp [bodyL, encE_len]
      rw [List.length_append, this]; omega)
    have hbl : (bodyL nar [x.2]).length = ah nar + x.2.data.length := by simp [bodyL, encE_len]
    obtain ⟨m, h3, h4⟩ := spots_fwdP L m1 (pos + x.1 + ah nar + x.2.data.length) t (out ++ mkSpots nar (pos + x.1) [x.2]) (fun y hy => hf y (by simp [hy])) (fun h y hy => hna h y (by simp [hy])) (by simpa [mkSpots] using hd) h1
    refine ⟨m, h3, ?_⟩
    rw [hsplit, spots_skip _ _ _ _ _ (by omega), h2, hbl]
    have ep : pos + x.1 + (ah nar + x.2.data.length) = pos + x.1 + ah nar + x.2.data.length := by omega
    rw [ep, h4]
    have el : (bodyP nar (x :: L)).length = x.1 + (ah nar + x.2.data.length) + (bodyP nar L).length := by
      rw [bodyP_cons]; simp only [List.length_append, List.length_replicate, encE_len]; omega
    rw [el]
    congr 1
    · omega
    · simp [mkP, mkSpots]

theorem mkP_at {nar : Bool} {data : List Int} : ∀ (L : List (Nat × Elem)) (pos : Nat) (t : List Int), data.drop pos = bodyP nar L ++ t → (mkP nar pos L).map (elemAt data) = L.map (·.2)
  | [], _, _, _ => rfl
  | x :: L, pos, t, h => by
    have hah : (hdr nar x.2).length = ah nar := by rw [hdr_len]; rfl
    have h0 : data.drop (pos + x.1) = encE nar x.2 ++ (bodyP nar L ++ t) := by
      rw [← List.drop_drop, h, bodyP_cons, List.append_assoc, List.append_assoc]
      exact List.drop_left' (by simp)
    have h1 : data.drop (pos + x.1 + ah nar) = x.2.data ++ (bodyP nar L ++ t) := by
      rw [← List.drop_drop, h0]
      unfold encE
      rw [List.append_assoc]
      exact List.drop_left' hah
    have h2 : data.drop (pos + x.1 + ah nar + x.2.data.length) = bodyP nar L ++ t := by
      rw [← List.drop_drop, h1, List.drop_left]
    simp only [mkP, List.map_cons]
    rw [mkP_at L _ t h2]
    congr 1
    unfold elemAt
    simp only [Int.toNat_natCast]
    rw [h1, List.take_left]

/-! how many noughts stand ahead of each -/
def padN (pads : List Int) (i : Nat) : Nat := if h : i < pads.length then (pads[i] % 9).toNat else 0
def padL (pads : List Int) (l : List Elem) : List (Nat × Elem) := l.mapIdx fun i e => (padN pads i, e)
theorem padL_len (pads : List Int) (l : List Elem) : (padL pads l).length = l.length := by simp [padL]
theorem padL_get (pads : List Int) (l : List Elem) (i : Nat) (hi : i < l.length) : (padL pads l)[i]'(by rw [padL_len]; exact hi) = (padN pads i, l[i]) := by simp [padL]
theorem padL_snd (pads : List Int) (l : List Elem) : (padL pads l).map (·.2) = l := by
  refine List.ext_getElem (by simp [padL]) fun i h1 h2 => ?_
  simp [padL]
theorem padN_le {pads : List Int} (i : Nat) : padN pads i ≤ 8 := by
  unfold padN; split
  · omega
  · omega
theorem bodyP_take (nar : Bool) (L : List (Nat × Elem)) (i : Nat) (hi : i < L.length) : bodyP nar (L.take (i + 1)) = bodyP nar (L.take i) ++ (List.replicate L[i].1 0 ++ encE nar L[i].2) := by
  simp only [bodyP]
  rw [List.take_add_one, List.getElem?_eq_getElem hi, Option.toList_some, List.flatMap_append, List.flatMap_singleton]
theorem bodyP_len {nar : Bool} : ∀ {L : List (Nat × Elem)}, (∀ x, x ∈ L → x.1 ≤ 8 ∧ x.2.data.length ≤ 255) → (bodyP nar L).length ≤ 265 * L.length
  | [], _ => by simp [bodyP]
  | a :: L, h => by
    have ih := bodyP_len (nar := nar) (L := L) fun e he => h e (by simp [he])
    have := h a (by simp)
    have ha : ah nar ≤ 2 := by unfold ah; split <;> omega
    rw [bodyP_cons, List.length_append, List.length_append, List.length_replicate, encE_len, List.length_cons]
    omega
theorem bodyP_ge {nar : Bool} : ∀ (L : List (Nat × Elem)), (bodyL nar (L.map (·.2))).length ≤ (bodyP nar L).length
  | [] => by simp [bodyP, bodyL]
  | a :: L => by
    have ih := bodyP_ge (nar := nar) L
    rw [bodyP_cons, List.length_append, List.length_append]
    simp only [List.map_cons, bodyL, List.flatMap_cons, List.length_append] at ih ⊢
    omega

theorem mk_get {nar : Bool} : ∀ (l : List Elem) (pos i : Nat) (hi : i < l.length), (mkSpots nar pos l)[i]? = some ⟨l[i].id_, ((pos + (bodyL nar (l.take i)).length + ah nar : Nat) : Int), (l[i].data.length : Int)⟩
  | [], _, _, h => by simp at h
  | e :: l, pos, 0, _ => by simp [mkSpots, bodyL]
  | e :: l, pos, i + 1, h => by
    have h' : i < l.length := by simpa using h
    have := mk_get (nar := nar) l (pos + ah nar + e.data.length) i h'
    simp only [mkSpots, List.getElem?_cons_succ, this, List.getElem_cons_succ]
    congr 2
    have : (bodyL nar ((e :: l).take (i + 1))).length = ah nar + e.data.length + (bodyL nar (l.take i)).length := by
      simp [bodyL, encE_len]
    rw [this]; omega
theorem body_slice {nar : Bool} (l : List Elem) (t : List Int) (i : Nat) (hi : i < l.length) : ((bodyL nar l ++ t).drop (bodyL nar (l.take i)).length).take (ah nar + l[i].data.length) = encE nar l[i] := by
  have e : bodyL nar l = bodyL nar (l.take i) ++ (encE nar l[i] ++ bodyL nar (l.drop (i + 1))) := by
    simp only [bodyL]
    rw [← List.flatMap_cons, ← List.drop_eq_getElem_cons hi, ← List.flatMap_append, List.take_append_drop]
  rw [e, List.append_assoc, List.drop_left, List.append_assoc, ← encE_len, List.take_left]
theorem body_pos {nar : Bool} (l : List Elem) (i : Nat) (hi : i < l.length) : (bodyL nar (l.take i)).length + ah nar + l[i].data.length ≤ (bodyL nar l).length := by
  have e : bodyL nar l = bodyL nar (l.take i) ++ (encE nar l[i] ++ bodyL nar (l.drop (i + 1))) := by
    simp only [bodyL]
    rw [← List.flatMap_cons, ← List.drop_eq_getElem_cons hi, ← List.flatMap_append, List.take_append_drop]
  rw [e, List.length_append, List.length_append, encE_len]; omega

theorem pads_j3 {l : List Elem} {i : Nat} (hi : i < l.length) (hr : RightL l) (v : List Int) (hv : v.length ≤ 1000000) :
    law08_ElemPads_j3 none (profS l, writeL l, 0) (mkSpots (narB l) 0 l, 0) (ah (narB l) : Int) (i : Int) v = some (.inl (v ++ encE (narB l) l[i], ((i + 1 : Nat) : Int))) := by
  have hg := mk_get (nar := narB l) l 0 i hi
  have hlen : i < (mkSpots (narB l) 0 l).length := by
    refine Classical.byContradiction fun hn => ?_
    rw [List.getElem?_eq_none (by omega)] at hg; cases hg
  have hS : (mkSpots (narB l) 0 l)[i] = ⟨l[i].id_, ((0 + (bodyL (narB l) (l.take i)).length + ah (narB l) : Nat) : Int), (l[i].data.length : Int)⟩ := by
    rw [List.getElem?_eq_getElem hlen] at hg; exact Option.some.inj hg
  have hx := ix_some (l := mkSpots (narB l) 0 l) (n := i) (i := (i : Int)) rfl hlen
  rw [hS] at hx
  have hw : writeL l = bodyL (narB l) l ++ List.replicate (fillN (bodyL (narB l) l).length) 0 := rfl
  have hwl := (write_len hr).1
  have hpos := body_pos (nar := narB l) l i hi
  have hwg : (bodyL (narB l) l).length ≤ (writeL l).length := by rw [hw, List.length_append]; omega
  have hd := (hr.1 _ (List.getElem_mem hi)).2.2
  have hrl := right_len hr
  have hah : ah (narB l) ≤ 2 := by unfold ah; split <;> omega
  unfold law08_ElemPads_j3
  simp only [hx, Option.bind_some]
  have c0 : cm .lss ((0 + (bodyL (narB l) (l.take i)).length + ah (narB l) : Nat) : Int) (ah (narB l) : Int) = false := by rw [cm_lss]; exact decide_eq_false (by omega)
  have c1 : cm .lss (l[i].data.length : Int) 0 = false := by rw [cm_lss]; exact decide_eq_false (by omega)
  have c2 : cm .gtr (l[i].data.length : Int) ((writeL l).length : Int) = false := by rw [cm_gtr]; exact decide_eq_false (by omega)
  simp only [c0, c1, Bool.not_false, gTT, Option.bind_some, Bool.or_self, c2]
  have e1 : ar .sub .i64 ((writeL l).length : Int) (l[i].data.length : Int) = (((writeL l).length - l[i].data.length : Nat) : Int) := by
    rw [ar_sub, w_i64 (by omega) (by omega)]; omega
  have c3 : cm .gtr ((0 + (bodyL (narB l) (l.take i)).length + ah (narB l) : Nat) : Int) (((writeL l).length - l[i].data.length : Nat) : Int) = false := by rw [cm_gtr]; exact decide_eq_false (by omega)
  have e2 : ar .sub .i64 ((0 + (bodyL (narB l) (l.take i)).length + ah (narB l) : Nat) : Int) (ah (narB l) : Int) = ((bodyL (narB l) (l.take i)).length : Int) := by
    rw [ar_sub, w_i64 (by omega) (by omega)]; omega
  have e3 : ar .add .i64 ((0 + (bodyL (narB l) (l.take i)).length + ah (narB l) : Nat) : Int) (l[i].data.length : Int) = (((bodyL (narB l) (l.take i)).length + (ah (narB l) + l[i].data.length) : Nat) : Int) := by
    rw [ar_add, w_i64 (by omega) (by omega)]; omega
  rw [e1, c3, e2, e3]
  rw [if_neg (by decide), bnd (sub_some (by omega) (by omega) (by omega))]
  have e4 : (((bodyL (narB l) (l.take i)).length + (ah (narB l) + l[i].data.length) : Nat) : Int).toNat - ((bodyL (narB l) (l.take i)).length : Int).toNat = ah (narB l) + l[i].data.length := by omega
  rw [e4, Int.toNat_natCast, hw, body_slice _ _ _ hi, bnd (app_some (by rw [encE_len]; omega)), ar_add, w_i64 (by omega) (by omega)]
  rfl

theorem appZ_some {l : List Int} {n : Int} (h0 : 0 ≤ n) (h1 : (l.length : Int) + n ≤ 4294967296) : appZ (0 : Int) l n = some (l ++ List.replicate n.toNat 0) := by
  unfold appZ; rw [if_pos ⟨h0, h1⟩]

theorem pads_step {l : List Elem} {pads more : List Int} {low : Int} (hpl : pads.length ≤ 9223372036854775807) (hp : oct pads) (hr : RightL l) {i : Nat} (hi : i < l.length) :
    law08_ElemPads_s2 none l pads low more (profS l, writeL l, 0) (mkSpots (narB l) 0 l, 0) (ah (narB l) : Int) (bodyP (narB l) ((padL pads l).take i)) (i : Int) = some (.inl (bodyP (narB l) ((padL pads l).take (i + 1)), ((i + 1 : Nat) : Int))) := by
  have hiP : i < (padL pads l).length := by rw [padL_len]; exact hi
  have hrl := right_len hr
  have hb := bodyP_len (nar := narB l) (L := (padL pads l).take i) fun x hx => by
    obtain ⟨j, hj, rfl⟩ := List.mem_iff_getElem.1 (List.mem_of_mem_take hx)
    rw [padL_len] at hj
    rw [padL_get _ _ _ hj]
    exact ⟨padN_le j, (hr.1 _ (List.getElem_mem hj)).2.2⟩
  rw [List.length_take, padL_len] at hb
  have hb2 : (bodyP (narB l) ((padL pads l).take i)).length ≤ 900000 := by omega
  rw [bodyP_take _ _ _ hiP, padL_get _ _ _ hi]
  unfold law08_ElemPads_s2
  rw [if_pos (by rw [cm_lss]; simpa using hi)]
  by_cases h : i < pads.length
  · have hx := hp _ (List.getElem_mem h)
    have e : padN pads i = (pads[i] % 9).toNat := by unfold padN; rw [dif_pos h]
    rw [if_pos (by rw [cm_lss]; simpa using h), bnd (ix_some (n := i) rfl h), w_i64 (by omega) (by omega), dv_rem (by omega)]
    rw [bnd (appZ_some (by omega) (by omega)), ← e, pads_j3 hi hr _ (by rw [List.length_append, List.length_replicate]; have := padN_le (pads := pads) i; omega), List.append_assoc]
  · have e : padN pads i = 0 := by unfold padN; rw [dif_neg h]
    rw [if_neg (by rw [cm_lss]; simpa using h), pads_j3 hi hr _ (by omega), e]
    simp

theorem bodyP_oct {nar : Bool} {L : List (Nat × Elem)} (hg : ∀ x, x ∈ L → oct x.2.data) (hf : ∀ x, x ∈ L → FitE x.2) (hn : nar = true → ∀ x, x ∈ L → Nar x.2) : oct (bodyP nar L) := by
  intro y hy
  obtain ⟨x, hx, hy⟩ := List.mem_flatMap.1 hy
  rcases List.mem_append.1 hy with hy | hy
  · rw [List.eq_of_mem_replicate hy]; omega
  · exact bodyL_oct (nar := nar) (l := [x.2]) ⟨fun e he => by rw [List.mem_singleton.1 he]; exact hg x hx⟩ (fun e he => by rw [List.mem_singleton.1 he]; exact hf x hx) (fun h e he => by rw [List.mem_singleton.1 he]; exact hn h x hx) y (by simpa [bodyL] using hy)

theorem padL_mem {pads : List Int} {l : List Elem} {x : Nat × Elem} (h : x ∈ padL pads l) : x.1 ≤ 8 ∧ x.2 ∈ l := by
  obtain ⟨j, hj, rfl⟩ := List.mem_iff_getElem.1 h
  rw [padL_len] at hj
  rw [padL_get _ _ _ hj]
  exact ⟨padN_le j, List.getElem_mem hj⟩

theorem read_pads {l : List Elem} {pads t : List Int} {q : Int} (hr : RightL l) (hq : profOf q = if narB l then .nar else .wide)
    (ht : ∀ m pos out, t.length < m → spotsG (narB l) m pos t out = (out, 0)) : readS q (bodyP (narB l) (padL pads l) ++ t) = (l, 0) := by
  have key : spotsG (narB l) ((bodyP (narB l) (padL pads l) ++ t).length + 1) 0 (bodyP (narB l) (padL pads l) ++ t) [] = (mkP (narB l) 0 (padL pads l), 0) := by
    obtain ⟨m, hm1, hm2⟩ := spots_fwdP (nar := narB l) (padL pads l) _ 0 t [] (fun x hx => hr.1 _ (padL_mem hx).2) (fun h x hx => of_decide_eq_true h _ (padL_mem hx).2) (by
      have : (padL pads l).map (·.2.id_) = l.map (·.id_) := by
        conv => rhs; rw [← padL_snd pads l, List.map_map]
        rfl
      rw [this]; simpa using hr.2) (Nat.lt_succ_self _)
    rw [hm2, ht _ _ _ hm1]
    simp
  have hs : spotsS q (bodyP (narB l) (padL pads l) ++ t) = (mkP (narB l) 0 (padL pads l), 0) := by
    unfold spotsS
    rw [hq]
    cases h : narB l
    · rw [h] at key; exact key
    · rw [h] at key; exact key
  unfold readS
  rw [hs]
  simp only []
  rw [mkP_at (nar := narB l) (padL pads l) 0 t rfl, padL_snd]

theorem stop_nar (k : Nat) (x : Int) (more : List Int) (hx : x / 16 = 15) (m pos : Nat) (out : List Spot) (h : (List.replicate k 0 ++ x :: more).length < m) : spotsG true m pos (List.replicate k 0 ++ x :: more) out = (out, 0) := by
  rw [List.length_append, List.length_replicate, List.length_cons] at h
  rw [spots_skip k m pos _ out (by omega)]
  obtain ⟨n, hn⟩ : ∃ n, m - k = n + 1 := ⟨m - k - 1, by omega⟩
  rw [hn]
  unfold spotsG
  rw [if_neg (by omega), if_pos rfl, if_pos (.inr hx)]

/-- behind the elements the narrower form has a byte that isn't 0: not canonical -/
theorem not_canon {l : List Elem} {pads more : List Int} {k : Nat} {x : Int} (hx : x / 16 = 15) : writeL l ≠ bodyP (narB l) (padL pads l) ++ (List.replicate k 0 ++ x :: more) := by
  intro h
  have hge := bodyP_ge (nar := narB l) (padL pads l)
  rw [padL_snd] at hge
  have h1 : (writeL l)[(bodyP (narB l) (padL pads l)).length + k]? = some x := by
    rw [h, List.getElem?_append_right (by omega), List.getElem?_append_right (by simp)]
    simp
  have h2 : writeL l = bodyL (narB l) l ++ List.replicate (fillN (bodyL (narB l) l).length) 0 := rfl
  rw [h2, List.getElem?_append_right (by omega), List.getElem?_replicate] at h1
  split at h1
  · have := Option.some.inj h1; omega
  · cases h1

theorem pads_j4 {l : List Elem} {data : List Int} {q p : Int} {w : List Int} (hg : GoodE l) (hr : RightL l) (h0 : 0 ≤ q) (h1 : q ≤ 65535) (hb : oct data) (hl : data.length ≤ 100000) (hrd : readS q data = (l, 0)) (hc : p = 4096 ∨ writeL l ≠ data) :
    law08_ElemPads_j4 none l (p, w, 0) data q = some true := by
  have hrl := right_len hr
  have c1 : cm .eql (0 : Int) 0 = true := by decide
  unfold law08_ElemPads_j4
  rw [bnd (eread_eq h0 h1 hb hl), hrd]
  simp only [c1, gTT]
  rw [bnd (sameE_eq hg hg (by omega))]
  simp only [decide_true, Bool.and_self, Bool.true_and]
  by_cases hp : p = 4096
  · have c2 : cm .eql p 4096 = true := by rw [cm_eql]; exact decide_eq_true hp
    simp only [c2, Bool.not_true, gTF, Option.bind_some, Bool.true_or]
  · have c2 : cm .eql p 4096 = false := by rw [cm_eql]; exact decide_eq_false hp
    have hn := hc.resolve_left hp
    have he : (spotsS q data).2 = 0 := congrArg Prod.snd hrd
    have hcn : canonE q data = false := by
      rw [Bool.eq_false_iff]
      intro h
      have := ((canon_iff hb he).1 h).2
      rw [hrd] at this
      exact hn this
    simp only [c2, Bool.not_false, gTT]
    rw [bnd (ecanon_eq h0 h1 hb hl), hcn]
    rfl

theorem pads_tail {l : List Elem} {pads more : List Int} {low : Int} (hl : l.length ≤ 100) (hml : more.length ≤ 300) (hm : oct more) (hlow : 0 ≤ low ∧ low ≤ 255) (hg : GoodE l) (hr : RightL l) (x3 : List Spot × Int) (v4 : Int) :
    law08_ElemPads_s2 none l pads low more (profS l, writeL l, 0) x3 v4 (bodyP (narB l) ((padL pads l).take l.length)) (l.length : Int) = some (.inr true) := by
  have hL : (padL pads l).take l.length = padL pads l := by rw [← padL_len pads l, List.take_length]
  have hb := bodyP_len (nar := narB l) (L := padL pads l) fun x hx => ⟨(padL_mem hx).1, (hr.1 _ (padL_mem hx).2).2.2⟩
  rw [padL_len] at hb
  have hob := bodyP_oct (nar := narB l) (L := padL pads l) (fun x hx => hg.d _ (padL_mem hx).2) (fun x hx => hr.1 _ (padL_mem hx).2) (fun h x hx => of_decide_eq_true h _ (padL_mem hx).2)
  have hz : ∀ k, oct (List.replicate k (0 : Int)) := fun k x hx => by rw [List.eq_of_mem_replicate hx]; omega
  have happ : ∀ {a b : List Int}, oct a → oct b → oct (a ++ b) := fun h1 h2 x hx => (List.mem_append.1 hx).elim (h1 x) (h2 x)
  have e1 : dv .quo .i64 (IntKind.i64.wrap low) 16 = low / 16 := by rw [w_i64 (by omega) (by omega), dv_quo (by omega), w_i64 (by omega) (by omega)]
  have e2 : dv .rem .u8 low 16 = low % 16 := dv_rem (by omega)
  unfold law08_ElemPads_s2
  rw [if_neg (by rw [cm_lss]; simp), hL, e1, e2, bnd (appZ_some (by omega) (by omega))]
  by_cases hn : NarL l
  · have hnb : narB l = true := decide_eq_true hn
    have hp : profS l = 48862 := by unfold profS; rw [if_pos hr, if_pos hn]
    have hq : profOf 48862 = if narB l then .nar else .wide := by rw [hnb]; rfl
    have e3 : ar .add .u8 240 (low % 16) = 240 + low % 16 := by rw [ar_add, w_u8 (by omega) (by omega)]
    rw [hp, if_neg (show ¬ cm .eql (48862 : Int) 4096 = true by decide), e3, bnd (app_some (by simp; omega)), bnd (app_some (by simp; omega))]
    have ed : bodyP (narB l) (padL pads l) ++ List.replicate (low / 16).toNat 0 ++ [240 + low % 16] ++ more = bodyP (narB l) (padL pads l) ++ (List.replicate (low / 16).toNat 0 ++ (240 + low % 16) :: more) := by simp
    have hx : (240 + low % 16) / 16 = 15 := by omega
    rw [ed]
    have hrd := read_pads (pads := pads) (t := List.replicate (low / 16).toNat 0 ++ (240 + low % 16) :: more) hr hq (fun m pos out h => by rw [hnb]; exact stop_nar _ _ _ hx m pos out h)
    have := pads_j4 (p := 48862) (w := writeL l) (q := 48862) hg hr (by omega) (by omega) (data := bodyP (narB l) (padL pads l) ++ (List.replicate (low / 16).toNat 0 ++ (240 + low % 16) :: more)) (happ hob (happ (hz _) (fun y hy => by
      rcases List.mem_cons.1 hy with rfl | hy
      · omega
      · exact hm y hy))) (by simp; omega) hrd (.inr (not_canon hx))
    rw [this]; rfl
  · have hnb : narB l = false := decide_eq_false hn
    have hp : profS l = 4096 := by unfold profS; rw [if_pos hr, if_neg hn]
    have hq : profOf (4096 + low % 16) = if narB l then .nar else .wide := by
      rw [hnb]; unfold profOf
      rw [if_neg (by omega), if_pos (by omega)]; rfl
    have e3 : ar .add .u16 4096 (IntKind.u16.wrap (low % 16)) = 4096 + low % 16 := by rw [w_u16 (by omega) (by omega), ar_add, w_u16 (by omega) (by omega)]
    rw [hp, if_pos (show cm .eql (4096 : Int) 4096 = true by decide)]
    simp only [e3]
    have hrd := read_pads (pads := pads) (t := List.replicate (low / 16).toNat 0) hr hq (fun m pos out h => spots_zeros _ _ _ _ (by simpa using h))
    rw [pads_j4 (p := 4096) (w := writeL l) hg hr (by omega) (by omega) (happ hob (hz _)) (by simp; omega) hrd (.inl rfl)]
    rfl

theorem mkS_len {nar : Bool} : ∀ (l : List Elem) (pos : Nat), (mkSpots nar pos l).length = l.length
  | [], _ => rfl
  | e :: l, pos => by simp [mkSpots, mkS_len l]

theorem elemPads_true {l : List Elem} {pads more : List Int} {low : Int} (hl : l.length ≤ maxLen ∧ ∀ x, x ∈ l → wf_Elem x) (hp : pads.length ≤ maxLen ∧ ∀ x, x ∈ pads → inK .u8 x) (hlow : inK .u8 low) (hm : more.length ≤ maxLen ∧ ∀ x, x ∈ more → inK .u8 x) :
    law08_ElemPads none l pads low more = some true := by
  have hg := goodE_of hl
  have hlow' := in_u8.1 hlow
  have hmax : maxLen ≤ 9223372036854775807 := by decide
  have c0 : cm .neq (0 : Int) 0 = false := by decide
  unfold law08_ElemPads
  rw [bnd (short_eq (by omega))]
  by_cases h : ShortL l ∧ l.length ≤ 100 ∧ more.length ≤ 300
  · obtain ⟨hs, hl1, hm1⟩ := h
    rw [decide_eq_true hs, if_neg (by rw [cm_gtr, cm_gtr]; simp; omega), bnd (ewrite_eq hs)]
    by_cases hr : RightL l
    · rw [if_pos hr]
      have hwl := (write_len hr).1
      have hsw := spots_write hr (List.replicate (fillN (bodyL (narB l) l).length) 0)
      have e0 : writeL l = bodyL (narB l) l ++ List.replicate (List.replicate (fillN (bodyL (narB l) l).length) (0 : Int)).length 0 := by unfold writeL fill4; simp
      rw [← e0] at hsw
      simp only []
      rw [bnd (espots_eq (prof_in l).1 (prof_in l).2 (writeL_oct hg hr) (by omega)), hsw]
      have c1 : cm .neq ((mkSpots (narB l) 0 l).length : Int) (l.length : Int) = false := by rw [mkS_len, cm_neq]; simp
      simp only [c0, c1, Bool.or_self]
      rw [if_neg (by decide)]
      have fin : law08_ElemPads_j1 none l pads low more (profS l, writeL l, 0) (mkSpots (narB l) 0 l, 0) (ah (narB l) : Int) = some true := by
        unfold law08_ElemPads_j1 law08_ElemPads_l2
        have := loop_seq (step := fun (s : List Int × Int) => law08_ElemPads_s2 none l pads low more (profS l, writeL l, 0) (mkSpots (narB l) 0 l, 0) (ah (narB l) : Int) s.1 s.2) (r := true) (fun i => (bodyP (narB l) ((padL pads l).take i), (i : Int))) l.length (fun i hi => pads_step (by omega) (octs hp) hr hi) (pads_tail hl1 hm1 (octs hm) hlow' hg hr _ _)
        simpa [bodyP] using this
      rw [prof_nar hr]
      cases hnb : narB l with
      | true => rw [hnb] at fin; exact fin
      | false => rw [hnb] at fin; exact fin
    · rw [if_neg hr]
      have hsp : ∃ x3, elem_Spots none 0 [] = some x3 := ⟨_, espots_eq (by omega) (by omega) (by intro x hx; cases hx) (by simp)⟩
      obtain ⟨x3, hx3⟩ := hsp
      have c5 : cm .neq (1 : Int) 0 = true := by decide
      simp only []
      rw [bnd hx3]
      simp only [c5, Bool.true_or]
      rfl
  · rw [if_pos (by
      rw [cm_gtr, cm_gtr]
      by_cases h1 : ShortL l
      · rw [decide_eq_true h1]
        have : ¬ (l.length ≤ 100 ∧ more.length ≤ 300) := fun h2 => h ⟨h1, h2⟩
        simp; omega
      · rw [decide_eq_false h1]; rfl)]
end Xb
