/- Own text: KElem7. -/
import Derived.Test.YtcdhafhamjinlaaKElem6
set_option linter.all false
set_option linter.unusedVariables false
set_option linter.unusedSimpArgs false
set_option linter.unnecessarySimpa false
set_option linter.deprecated false
namespace Xb
open Go

def mkSpots (nar : Bool) : Nat → List Elem → List Spot
  | _, [] => []
  | pos, e :: l => ⟨e.id_, ((pos + ah nar : Nat) : Int), (e.data.length : Int)⟩ :: mkSpots nar (pos + ah nar + e.data.length) l

theorem spots_zeros {nar : Bool} : ∀ (k n pos : Nat) (out : List Spot), k < n → spotsG nar n pos (List.replicate k 0) out = (out, 0)
  | 0, n + 1, pos, out, _ => by cases nar <;> rfl
  | k + 1, n + 1, pos, out, h => by
    have e : spotsG nar (n + 1) pos (0 :: List.replicate k 0) out = spotsG nar n (pos + 1) (List.replicate k 0) out := by
      cases nar <;> cases k <;> simp [spotsG, List.replicate_succ]
    rw [List.replicate_succ, e]
    exact spots_zeros k n (pos + 1) out (by omega)
  | _, 0, _, _, h => by omega

theorem nodup_not_dup {out : List Spot} {id : Int} (h : id ∉ out.map (·.id_)) : dupS out id = false := by
  unfold dupS
  rw [List.any_eq_false]
  intro s hs he
  exact h (List.mem_map.2 ⟨s, hs, by simpa using he⟩)

theorem spots_fwd {nar : Bool} : ∀ (l : List Elem) (n pos : Nat) (t : List Int) (out : List Spot), (∀ e, e ∈ l → FitE e) → (nar = true → ∀ e, e ∈ l → Nar e) → (out.map (·.id_) ++ l.map (·.id_)).Nodup → (bodyL nar l ++ t).length < n →
    ∃ m, t.length < m ∧ spotsG nar n pos (bodyL nar l ++ t) out = spotsG nar m (pos + (bodyL nar l).length) t (out ++ mkSpots nar pos l)
  | [], n, pos, t, out, _, _, _, hn => ⟨n, by simpa [bodyL] using hn, by simp [bodyL, mkSpots]⟩
  | e :: l, n, pos, t, out, hf, hna, hd, hn => by
    have hfe := hf e (by simp)
    unfold FitE at hfe
    have hbody : bodyL nar (e :: l) = hdr nar e ++ (e.data ++ bodyL nar l) := by simp [bodyL, encE]
    have hlen : (bodyL nar (e :: l) ++ t).length = ah nar + e.data.length + (bodyL nar l ++ t).length := by
      rw [hbody]; simp only [List.length_append, hdr_len, ah]; omega
    rw [hlen] at hn
    obtain ⟨n', rfl⟩ : ∃ n', n = n' + 1 := ⟨n - 1, by omega⟩
    have hnd : e.id_ ∉ out.map (·.id_) := by
      intro hm
      rw [List.nodup_append] at hd
      exact hd.2.2 _ hm e.id_ (by simp) rfl
    have hd' : ((out ++ [Spot.mk e.id_ ((pos + ah nar : Nat) : Int) (e.data.length : Int)]).map (·.id_) ++ l.map (·.id_)).Nodup := by
      simpa using hd
    have hpos : 1 ≤ ah nar := by unfold ah; split <;> omega
    obtain ⟨m, hm1, hm2⟩ := spots_fwd l n' (pos + ah nar + e.data.length) t (out ++ [⟨e.id_, ((pos + ah nar : Nat) : Int), (e.data.length : Int)⟩]) (fun x hx => hf x (by simp [hx])) (fun h x hx => hna h x (by simp [hx])) hd' (by omega)
    refine ⟨m, hm1, ?_⟩
    have step : spotsG nar (n' + 1) pos (bodyL nar (e :: l) ++ t) out = spotsG nar n' (pos + ah nar + e.data.length) (bodyL nar l ++ t) (out ++ [⟨e.id_, ((pos + ah nar : Nat) : Int), (e.data.length : Int)⟩]) := by
      have hsplit : bodyL nar (e :: l) ++ t = hdr nar e ++ (e.data ++ (bodyL nar l ++ t)) := by rw [hbody]; simp
      rw [hsplit]
      cases nar with
      | true =>
        have hne := hna rfl e (by simp)
        unfold Nar at hne
        have hh : hdr true e = [16 * e.id_ + e.data.length - 1] := rfl
        rw [hh, List.singleton_append]
        have h0 : ¬ (16 * e.id_ + (e.data.length : Int) - 1 = 0) := by omega
        have e1 : (16 * e.id_ + (e.data.length : Int) - 1) / 16 = e.id_ := by omega
        have e2 : (16 * e.id_ + (e.data.length : Int) - 1) % 16 + 1 = e.data.length := by omega
        have ee : ∀ (x : Int) (r : List Int), x ≠ 0 → spotsG true (n' + 1) pos (x :: r) out = if x / 16 = 0 ∨ x / 16 = 15 then (out, 0) else if r.length < (x % 16 + 1).toNat then ([], 4) else if dupS out (x / 16) then ([], 6) else spotsG true n' (pos + 1 + (x % 16 + 1).toNat) (r.drop (x % 16 + 1).toNat) (out ++ [⟨x / 16, pos + 1, x % 16 + 1⟩]) := by
          intro x r h0
          cases r <;> simp [spotsG, h0]
        rw [ee _ _ h0, e1, e2, if_neg (by omega), if_neg (by simp), nodup_not_dup hnd, if_neg (by decide), Int.toNat_natCast, List.drop_left]
        simp [ah]
      | false =>
        have hh : hdr false e = [e.id_, (e.data.length : Int)] := rfl
        rw [hh]
        have h0 : ¬ (e.id_ = 0) := by omega
        have ee : ∀ (x s : Int) (r' : List Int), x ≠ 0 → spotsG false (n' + 1) pos (x :: s :: r') out = if r'.length < s.toNat then ([], 4) else if dupS out x then ([], 6) else spotsG false n' (pos + 2 + s.toNat) (r'.drop s.toNat) (out ++ [⟨x, pos + 2, s⟩]) := by
          intro x s r' h0
          simp [spotsG, h0]
        simp only [List.cons_append, List.nil_append]
        rw [ee _ _ _ h0, if_neg (by simp), nodup_not_dup hnd, if_neg (by decide), Int.toNat_natCast, List.drop_left]
        simp [ah]
    rw [step, hm2]
    have el : (bodyL nar (e :: l)).length = ah nar + e.data.length + (bodyL nar l).length := by
      rw [hbody]; simp only [List.length_append, hdr_len, ah]; omega
    rw [el]
    congr 1
    · omega
    · simp [mkSpots]

theorem mk_at {nar : Bool} {data : List Int} : ∀ (l : List Elem) (pos : Nat) (t : List Int), data.drop pos = bodyL nar l ++ t → (mkSpots nar pos l).map (elemAt data) = l
  | [], _, _, _ => rfl
  | e :: l, pos, t, h => by
    have hbody : bodyL nar (e :: l) = hdr nar e ++ (e.data ++ bodyL nar l) := by simp [bodyL, encE]
    have hah : (hdr nar e).length = ah nar := by rw [hdr_len]; rfl
    have h1 : data.drop (pos + ah nar) = e.data ++ (bodyL nar l ++ t) := by
      rw [← List.drop_drop, h, hbody, List.append_assoc, ← hah, List.drop_left, List.append_assoc]
    have h2 : data.drop (pos + ah nar + e.data.length) = bodyL nar l ++ t := by
      rw [← List.drop_drop, h1, List.drop_left]
    simp only [mkSpots, List.map_cons]
    rw [mk_at l _ t h2]
    congr 1
    unfold elemAt
    simp only [Int.toNat_natCast]
    rw [h1, List.take_left]

theorem bodyL_oct {nar : Bool} {l : List Elem} (hg : GoodE l) (hf : ∀ e, e ∈ l → FitE e) (hn : nar = true → ∀ e, e ∈ l → Nar e) : oct (bodyL nar l) := by
  intro x hx
  obtain ⟨e, he, hx⟩ := List.mem_flatMap.1 hx
  have hfe := hf e he
  unfold FitE at hfe
  rcases List.mem_append.1 hx with hx | hx
  · unfold hdr at hx
    cases nar with
    | true =>
      have := hn rfl e he
      unfold Nar at this
      simp at hx; omega
    | false => simp at hx; omega
  · exact hg.d e he x hx
theorem fill_oct {b : List Int} (h : oct b) : oct (fill4 b) := by
  intro x hx
  rcases List.mem_append.1 hx with hx | hx
  · exact h x hx
  · rw [List.eq_of_mem_replicate hx]; omega
theorem writeL_oct {l : List Elem} (hg : GoodE l) (hr : RightL l) : oct (writeL l) :=
  fill_oct (bodyL_oct hg hr.1 fun h => of_decide_eq_true h)
theorem narP_prof {l : List Elem} (hr : RightL l) : narP (profS l) = narB l := by
  have := prof_nar hr
  rw [cm_eql] at this
  exact this

theorem spots_write {l : List Elem} (hr : RightL l) (t : List Int) : spotsS (profS l) (bodyL (narB l) l ++ List.replicate t.length 0) = (mkSpots (narB l) 0 l, 0) := by
  have hp : profOf (profS l) = if narB l then .nar else .wide := by
    unfold profOf profS narB
    rw [if_pos hr]
    by_cases h : NarL l
    · rw [if_pos h, decide_eq_true h]; rfl
    · rw [if_neg h, decide_eq_false h]; rfl
  have key : ∀ nar : Bool, nar = narB l → spotsG nar ((bodyL nar l ++ List.replicate t.length 0).length + 1) 0 (bodyL nar l ++ List.replicate t.length 0) [] = (mkSpots nar 0 l, 0) := by
    rintro nar rfl
    obtain ⟨m, hm1, hm2⟩ := spots_fwd (nar := narB l) l _ 0 (List.replicate t.length 0) [] hr.1 (fun h => of_decide_eq_true h) (by simpa using hr.2) (Nat.lt_succ_self _)
    rw [hm2, spots_zeros _ _ _ _ (by simpa using hm1)]
    simp
  unfold spotsS
  rw [hp]
  cases h : narB l
  · exact key false h.symm
  · exact key true h.symm
theorem read_write {l : List Elem} (hr : RightL l) : readS (profS l) (writeL l) = (l, 0) := by
  have e : writeL l = bodyL (narB l) l ++ List.replicate (List.replicate (fillN (bodyL (narB l) l).length) (0 : Int)).length 0 := by unfold writeL fill4; simp
  unfold readS
  rw [e, spots_write hr]
  simp only []
  rw [mk_at (nar := narB l) l 0 _ rfl]
end Xb
