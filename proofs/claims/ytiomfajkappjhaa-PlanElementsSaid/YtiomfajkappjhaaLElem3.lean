/- Own text: LElem3. -/
import Derived.Test.YtiomfajkappjhaaLElem2
set_option linter.all false
set_option linter.unusedVariables false
set_option linter.unusedSimpArgs false
set_option linter.unnecessarySimpa false
set_option linter.deprecated false
namespace Xb
open Go

theorem right_read {p : Int} {data : List Int} (hb : oct data) : RightL (readS p data).1 := by
  obtain ⟨i1, i2, i3⟩ := spotsS_inv (p := p) hb
  refine ⟨fun e he => ?_, ?_⟩
  · obtain ⟨s, hs, rfl⟩ := List.mem_map.1 he
    obtain ⟨a, q, h1, h2, h3, h4, h5, h6, h7, h8, h9⟩ := (i1 s hs).ex
    refine ⟨h6, h7, ?_⟩
    show ((data.drop s.at_.toNat).take s.size.toNat).length ≤ 255
    rw [List.length_take, h2]; omega
  · show (((spotsS p data).1.map (elemAt data)).map (·.id_)).Nodup
    rw [List.map_map]
    exact i2
theorem good_read {p : Int} {data : List Int} (hb : oct data) : GoodE (readS p data).1 := ⟨fun e he => by
  obtain ⟨s, hs, rfl⟩ := List.mem_map.1 he
  intro x hx
  exact hb x (List.mem_of_mem_drop (List.mem_of_mem_take hx))⟩
theorem octs {l : List Int} (h : l.length ≤ maxLen ∧ ∀ x, x ∈ l → inK .u8 x) : oct l := fun x hx => in_u8.1 (h.2 x hx)
theorem goodE_of {l : List Elem} (h : l.length ≤ maxLen ∧ ∀ x, x ∈ l → wf_Elem x) : GoodE l := ⟨fun e he => octs (h.2 e he).2⟩
theorem len_read {p : Int} {data : List Int} : (readS p data).1.length ≤ data.length := by
  unfold readS
  rw [List.length_map]
  exact spotsS_len
theorem short_read {p : Int} {data : List Int} (hb : oct data) (hl : (readS p data).1.length ≤ 300) : ShortL (readS p data).1 :=
  ⟨hl, fun e he => by have := (right_read (p := p) hb).1 e he; unfold FitE at this; omega⟩
/-- no two alike of 255: not more than 255 -/
theorem right_len {l : List Elem} (h : RightL l) : l.length ≤ 255 := by
  have h2 : l.map (·.id_) ⊆ (List.range 255).map (fun n : Nat => ((n : Int) + 1)) := by
    intro x hx
    obtain ⟨a, ha, rfl⟩ := List.mem_map.1 hx
    have h1 := h.1 a ha
    unfold FitE at h1
    exact List.mem_map.2 ⟨a.id_.toNat - 1, List.mem_range.2 (by omega), by omega⟩
  have := List.Nodup.length_le_of_subset h.2 h2
  simpa using this
theorem short_read' {p : Int} {data : List Int} (hb : oct data) : ShortL (readS p data).1 :=
  short_read hb (by have := right_len (right_read (p := p) hb); omega)
theorem write_len {l : List Elem} (hr : RightL l) : (writeL l).length ≤ 80000 ∧ (writeL l).length % 4 = 0 := by
  have h1 := right_len hr
  have h2 := bodyL_len (nar := narB l) (l := l) fun e he => by have := hr.1 e he; unfold FitE at this; omega
  have h3 : (writeL l).length = (bodyL (narB l) l).length + fillN (bodyL (narB l) l).length := by unfold writeL fill4; simp
  rw [h3]
  have : fillN (bodyL (narB l) l).length ≤ 3 := by unfold fillN; omega
  have : 402 * l.length ≤ 80000 ∨ True := .inr trivial
  refine ⟨?_, by unfold fillN; omega⟩
  have h4 : (bodyL (narB l) l).length ≤ 257 * l.length := by
    have key : ∀ (m : List Elem), (∀ e, e ∈ m → e.data.length ≤ 255) → (bodyL (narB l) m).length ≤ 257 * m.length := by
      intro m
      induction m with
      | nil => intro _; simp [bodyL]
      | cons a m ih =>
        intro h
        have := ih fun e he => h e (by simp [he])
        have := h a (by simp)
        simp only [bodyL, List.flatMap_cons, List.length_append, encE, hdr_len, List.length_cons] at *
        split <;> omega
    exact key l fun e he => by have := hr.1 e he; unfold FitE at this; omega
  omega
theorem prof_in (l : List Elem) : 0 ≤ profS l ∧ profS l ≤ 65535 := by
  unfold profS
  split
  · split <;> omega
  · omega
theorem read_back {l : List Elem} (hg : GoodE l) (hr : RightL l) : elem_Read none (profS l) (writeL l) = some (l, 0) := by
  have := (write_len hr).1
  rw [eread_eq (prof_in l).1 (prof_in l).2 (writeL_oct hg hr) (by omega), read_write hr]
def bodyP (nar : Bool) (L : List (Nat × Elem)) : List Int := L.flatMap fun x => List.replicate x.1 0 ++ encE nar x.2
def mkP (nar : Bool) : Nat → List (Nat × Elem) → List Spot
  | _, [] => []
  | pos, x :: L => ⟨x.2.id_, ((pos + x.1 + ah nar : Nat) : Int), (x.2.data.length : Int)⟩ :: mkP nar (pos + x.1 + ah nar + x.2.data.length) L
theorem spots_skip {nar : Bool} : ∀ (k n pos : Nat) (r : List Int) (out : List Spot), k ≤ n → spotsG nar (n) pos (List.replicate k 0 ++ r) out = spotsG nar (n - k) (pos + k) r out
  | 0, n, pos, r, out, _ => by simp
  | k + 1, 0, _, _, _, h => by omega
  | k + 1, n + 1, pos, r, out, h => by
    have e : spotsG nar (n + 1) pos (0 :: (List.replicate k 0 ++ r)) out = spotsG nar n (pos + 1) (List.replicate k 0 ++ r) out := by
      cases hh : List.replicate k 0 ++ r <;> cases nar <;> simp [spotsG]
    rw [List.replicate_succ, List.cons_append, e, spots_skip k n (pos + 1) r out (by omega)]
    congr 1 <;> omega
theorem encE_len (nar : Bool) (e : Elem) : (encE nar e).length = ah nar + e.data.length := by
  unfold encE ah; rw [List.length_append, hdr_len]
theorem bodyP_cons (nar : Bool) (x : Nat × Elem) (L : List (Nat × Elem)) : bodyP nar (x :: L) = List.replicate x.1 0 ++ (encE nar x.2 ++ bodyP nar L) := by simp [bodyP]
theorem spots_fwdP {nar : Bool} : ∀ (L : List (Nat × Elem)) (n pos : Nat) (t : List Int) (out : List Spot), (∀ x, x ∈ L → FitE x.2) → (nar = true → ∀ x, x ∈ L → Nar x.2) → (out.map (·.id_) ++ L.map (·.2.id_)).Nodup → (bodyP nar L ++ t).length < n →
    ∃ m, t.length < m ∧ spotsG nar n pos (bodyP nar L ++ t) out = spotsG nar m (pos + (bodyP nar L).length) t (out ++ mkP nar pos L)
  | [], n, pos, t, out, _, _, _, hn => ⟨n, by simpa [bodyP] using hn, by simp [bodyP, mkP]⟩
  | x :: L, n, pos, t, out, hf, hna, hd, hn => by
    have hlen : (bodyP nar (x :: L) ++ t).length = x.1 + (ah nar + x.2.data.length) + (bodyP nar L ++ t).length := by
      rw [bodyP_cons]; simp only [List.length_append, List.length_replicate, encE_len]; omega
    rw [hlen] at hn
    have hsplit : bodyP nar (x :: L) ++ t = List.replicate x.1 0 ++ (bodyL nar [x.2] ++ (bodyP nar L ++ t)) := by
      rw [bodyP_cons]; simp [bodyL]
    have hd1 : (out.map (·.id_) ++ [x.2].map (·.id_)).Nodup := by
      have : (out.map (·.id_) ++ (x :: L).map (·.2.id_)) = (out.map (·.id_) ++ [x.2].map (·.id_)) ++ L.map (·.2.id_) := by simp
      rw [this, List.nodup_append] at hd
      exact hd.1
    obtain ⟨m1, h1, h2⟩ := spots_fwd (nar := nar) [x.2] (n - x.1) (pos + x.1) (bodyP nar L ++ t) out (fun e he => by rw [List.mem_singleton.1 he]; exact hf x (by simp)) (fun h e he => by rw [List.mem_singleton.1 he]; exact hna h x (by simp)) hd1 (by
      have : (bodyL nar [x.2]).length = ah nar + x.2.data.length := by simp [bodyL, encE_len]
      rw [List.length_append, this]; omega)
    have hbl : (bodyL nar [x.2]).length = ah nar + x.2.data.length := by simp [bodyL, encE_len]
    obtain ⟨m, h3, h4⟩ := spots_fwdP L m1 (pos + x.1 + ah nar + x.2.data.length) t (out ++ mkSpots nar (pos + x.1) [x.2]) (fun y hy => hf y (by simp [hy])) (fun h y hy => hna h y (by simp [hy])) (by simpa [mkSpots] using hd) h1
    refine ⟨m, h3, ?_⟩
    rw [hsplit, spots_skip _ _ _ _ _ (by omega), h2, hbl]
    have ep : pos + x.1 + (ah nar + x.2.data.length) = pos + x.1 + ah nar + x.2.data.length := by omega
    rw [ep, h4]
    have el : (bodyP nar (x :: L)).length = x.1 + (ah nar + x.2.data.length) + (bodyP nar L).length := by
      rw [bodyP_cons]; simp only [List.length_append, List.length_replicate, encE_len]; omega
    rw [el]
    congr 1
    · omega
    · simp [mkP, mkSpots]
theorem mkP_at {nar : Bool} {data : List Int} : ∀ (L : List (Nat × Elem)) (pos : Nat) (t : List Int), data.drop pos = bodyP nar L ++ t → (mkP nar pos L).map (elemAt data) = L.map (·.2)
  | [], _, _, _ => rfl
  | x :: L, pos, t, h => by
    have hah : (hdr nar x.2).length = ah nar := by rw [hdr_len]; rfl
    have h0 : data.drop (pos + x.1) = encE nar x.2 ++ (bodyP nar L ++ t) := by
      rw [← List.drop_drop, h, bodyP_cons, List.append_assoc, List.append_assoc]
      exact List.drop_left' (by simp)
    have h1 : data.drop (pos + x.1 + ah nar) = x.2.data ++ (bodyP nar L ++ t) := by
      rw [← List.drop_drop, h0]
      unfold encE
      rw [List.append_assoc]
      exact List.drop_left' hah
    have h2 : data.drop (pos + x.1 + ah nar + x.2.data.length) = bodyP nar L ++ t := by
      rw [← List.drop_drop, h1, List.drop_left]
    simp only [mkP, List.map_cons]
    rw [mkP_at L _ t h2]
    congr 1
    unfold elemAt
    simp only [Int.toNat_natCast]
    rw [h1, List.take_left]
theorem bodyP_take (nar : Bool) (L : List (Nat × Elem)) (i : Nat) (hi : i < L.length) : bodyP nar (L.take (i + 1)) = bodyP nar (L.take i) ++ (List.replicate L[i].1 0 ++ encE nar L[i].2) := by
  simp only [bodyP]
  rw [List.take_add_one, List.getElem?_eq_getElem hi, Option.toList_some, List.flatMap_append, List.flatMap_singleton]
theorem bodyP_len {nar : Bool} : ∀ {L : List (Nat × Elem)}, (∀ x, x ∈ L → x.1 ≤ 8 ∧ x.2.data.length ≤ 255) → (bodyP nar L).length ≤ 265 * L.length
  | [], _ => by simp [bodyP]
  | a :: L, h => by
    have ih := bodyP_len (nar := nar) (L := L) fun e he => h e (by simp [he])
    have := h a (by simp)
    have ha : ah nar ≤ 2 := by unfold ah; split <;> omega
    rw [bodyP_cons, List.length_append, List.length_append, List.length_replicate, encE_len, List.length_cons]
    omega
theorem bodyP_oct {nar : Bool} {L : List (Nat × Elem)} (hg : ∀ x, x ∈ L → oct x.2.data) (hf : ∀ x, x ∈ L → FitE x.2) (hn : nar = true → ∀ x, x ∈ L → Nar x.2) : oct (bodyP nar L) := by
  intro y hy
  obtain ⟨x, hx, hy⟩ := List.mem_flatMap.1 hy
  rcases List.mem_append.1 hy with hy | hy
  · rw [List.eq_of_mem_replicate hy]; omega
  · exact bodyL_oct (nar := nar) (l := [x.2]) ⟨fun e he => by rw [List.mem_singleton.1 he]; exact hg x hx⟩ (fun e he => by rw [List.mem_singleton.1 he]; exact hf x hx) (fun h e he => by rw [List.mem_singleton.1 he]; exact hn h x hx) y (by simpa [bodyL] using hy)

end Xb
