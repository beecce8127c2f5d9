/- Own text: LElem2. -/
import Derived.Test.YtiomfajkappjhaaLElem1
set_option linter.all false
set_option linter.unusedVariables false
set_option linter.unusedSimpArgs false
set_option linter.unnecessarySimpa false
set_option linter.deprecated false
namespace Xb
open Go

def ah (nar : Bool) : Nat := if nar then 1 else 2
structure HdS (nar : Bool) (data : List Int) (s : Spot) : Prop where
  ex : ∃ a q : Nat, s.at_ = a ∧ s.size = q ∧ ah nar ≤ a ∧ a + q ≤ data.length ∧ data.drop (a - ah nar) = (if nar then [16 * s.id_ + q - 1] else [s.id_, (q : Int)]) ++ data.drop a ∧
    1 ≤ s.id_ ∧ s.id_ ≤ 255 ∧ q ≤ 255 ∧ (nar = true → s.id_ ≤ 14 ∧ 1 ≤ q ∧ q ≤ 16)
theorem dup_not {out : List Spot} {id : Int} (h : ¬ dupS out id = true) : id ∉ out.map (·.id_) := by
  intro hm
  obtain ⟨s, hs, rfl⟩ := List.mem_map.1 hm
  exact h (List.any_eq_true.2 ⟨s, hs, by simp⟩)
theorem spotsG_inv {nar : Bool} {data : List Int} (hb : oct data) : ∀ (n pos : Nat) (rest : List Int) (out : List Spot), data.drop pos = rest → (∀ s, s ∈ out → HdS nar data s) → (out.map (·.id_)).Nodup →
    (∀ s, s ∈ (spotsG nar n pos rest out).1 → HdS nar data s) ∧ ((spotsG nar n pos rest out).1.map (·.id_)).Nodup ∧ ((spotsG nar n pos rest out).2 ≠ 0 → (spotsG nar n pos rest out).1 = [])
  | 0, pos, rest, out, _, h1, h2 => by
    have : spotsG nar 0 pos rest out = (out, 0) := by cases nar <;> rfl
    rw [this]; exact ⟨h1, h2, fun h => absurd rfl h⟩
  | n + 1, pos, [], out, _, h1, h2 => by
    have : spotsG nar (n + 1) pos [] out = (out, 0) := by cases nar <;> rfl
    rw [this]; exact ⟨h1, h2, fun h => absurd rfl h⟩
  | n + 1, pos, x :: r, out, hd, h1, h2 => by
    obtain ⟨hpl, hx, hr⟩ := drop_cons hd
    have hxb := hb x (by rw [← hx]; exact List.getElem_mem hpl)
    have hrl : r.length = data.length - (pos + 1) := by rw [← hr, List.length_drop]
    have err : ∀ e : Int, (∀ s, s ∈ (([] : List Spot), e).1 → HdS nar data s) ∧ ((([] : List Spot), e).1.map (·.id_)).Nodup ∧ ((([] : List Spot), e).2 ≠ 0 → (([] : List Spot), e).1 = []) := fun e => ⟨by simp, by simp, fun _ => rfl⟩
    have fin : (∀ s, s ∈ (out, (0 : Int)).1 → HdS nar data s) ∧ ((out, (0 : Int)).1.map (·.id_)).Nodup ∧ ((out, (0 : Int)).2 ≠ 0 → (out, (0 : Int)).1 = []) := ⟨h1, h2, fun h => absurd rfl h⟩
    by_cases h0 : x = 0
    · have e : spotsG nar (n + 1) pos (x :: r) out = spotsG nar n (pos + 1) r out := by cases nar <;> cases r <;> simp [spotsG, h0]
      rw [e]; exact spotsG_inv hb n (pos + 1) r out hr h1 h2
    · cases nar with
      | true =>
        have e : spotsG true (n + 1) pos (x :: r) out = if x / 16 = 0 ∨ x / 16 = 15 then (out, 0) else if r.length < (x % 16 + 1).toNat then ([], 4) else if dupS out (x / 16) then ([], 6) else spotsG true n (pos + 1 + (x % 16 + 1).toNat) (r.drop (x % 16 + 1).toNat) (out ++ [⟨x / 16, pos + 1, x % 16 + 1⟩]) := by
          cases r <;> simp [spotsG, h0]
        rw [e]
        by_cases c1 : x / 16 = 0 ∨ x / 16 = 15
        · rw [if_pos c1]; exact fin
        · rw [if_neg c1]
          by_cases c2 : r.length < (x % 16 + 1).toNat
          · rw [if_pos c2]; exact err 4
          · rw [if_neg c2]
            by_cases c3 : dupS out (x / 16) = true
            · rw [if_pos c3]; exact err 6
            · rw [if_neg c3]
              refine spotsG_inv hb n _ _ _ (by rw [← hr, List.drop_drop]) (fun s hs => ?_) (by rw [List.map_append, List.map_singleton]; exact nodup_snoc.2 ⟨h2, dup_not c3⟩)
              rcases List.mem_append.1 hs with hs | hs
              · exact h1 s hs
              · rw [List.mem_singleton.1 hs]
                refine ⟨pos + 1, (x % 16 + 1).toNat, by simp, by simp; omega, by simp [ah], by omega, ?_, by simp; omega, by simp; omega, by omega, fun _ => ⟨by simp; omega, by omega, by omega⟩⟩
                simp only [ah, if_true, Nat.add_sub_cancel, List.singleton_append]
                rw [hd, hr]
                congr 1
                omega
      | false =>
        cases r with
        | nil =>
          have e : spotsG false (n + 1) pos [x] out = ([], 4) := by simp [spotsG, h0]
          rw [e]; exact err 4
        | cons s r' =>
          obtain ⟨hpl2, hx2, hr2⟩ := drop_cons hr
          have hsb := hb s (by rw [← hx2]; exact List.getElem_mem hpl2)
          simp only [List.length_cons] at hrl
          have e : spotsG false (n + 1) pos (x :: s :: r') out = if r'.length < s.toNat then ([], 4) else if dupS out x then ([], 6) else spotsG false n (pos + 2 + s.toNat) (r'.drop s.toNat) (out ++ [⟨x, pos + 2, s⟩]) := by
            simp [spotsG, h0]
          rw [e]
          by_cases c2 : r'.length < s.toNat
          · rw [if_pos c2]; exact err 4
          · rw [if_neg c2]
            by_cases c3 : dupS out x = true
            · rw [if_pos c3]; exact err 6
            · rw [if_neg c3]
              refine spotsG_inv hb n _ _ _ (by rw [← hr2, List.drop_drop]) (fun y hs => ?_) (by rw [List.map_append, List.map_singleton]; exact nodup_snoc.2 ⟨h2, dup_not c3⟩)
              rcases List.mem_append.1 hs with hs | hs
              · exact h1 y hs
              · rw [List.mem_singleton.1 hs]
                refine ⟨pos + 2, s.toNat, by simp, by simp; omega, by simp [ah], by omega, ?_, by simp; omega, by simp; omega, by omega, fun h => by cases h⟩
                simp only [ah, Bool.false_eq_true, if_false, Nat.add_sub_cancel]
                rw [hd]
                have e2 : data.drop (pos + 2) = r' := hr2
                rw [e2]
                simp
                omega
def elemAt (data : List Int) (s : Spot) : Elem := ⟨s.id_, (data.drop s.at_.toNat).take s.size.toNat⟩
def readS (p : Int) (data : List Int) : List Elem × Int := ((spotsS p data).1.map (elemAt data), (spotsS p data).2)
def narP (p : Int) : Bool := decide (p = 48862)
theorem spotsS_inv {p : Int} {data : List Int} (hb : oct data) : (∀ s, s ∈ (spotsS p data).1 → HdS (narP p) data s) ∧ ((spotsS p data).1.map (·.id_)).Nodup ∧ ((spotsS p data).2 ≠ 0 → (spotsS p data).1 = []) := by
  unfold spotsS profOf narP
  by_cases hn : p = 48862
  · rw [if_pos hn, decide_eq_true hn]
    exact spotsG_inv hb _ 0 data [] rfl (by simp) (by simp)
  · rw [if_neg hn, decide_eq_false hn]
    by_cases hw : p / 16 = 256
    · rw [if_pos hw]
      exact spotsG_inv hb _ 0 data [] rfl (by simp) (by simp)
    · rw [if_neg hw]
      exact ⟨by simp, by simp, fun _ => rfl⟩
theorem spotsG_len {nar : Bool} : ∀ (n pos : Nat) (rest : List Int) (out : List Spot), (spotsG nar n pos rest out).1.length ≤ out.length + rest.length
  | 0, pos, rest, out => by
    have : spotsG nar 0 pos rest out = (out, 0) := by cases nar <;> rfl
    rw [this]; simp
  | n + 1, pos, [], out => by
    have : spotsG nar (n + 1) pos [] out = (out, 0) := by cases nar <;> rfl
    rw [this]; simp
  | n + 1, pos, x :: r, out => by
    by_cases h0 : x = 0
    · have e : spotsG nar (n + 1) pos (x :: r) out = spotsG nar n (pos + 1) r out := by cases nar <;> cases r <;> simp [spotsG, h0]
      rw [e]
      have := spotsG_len (nar := nar) n (pos + 1) r out
      simp only [List.length_cons]; omega
    · cases nar with
      | true =>
        have e : spotsG true (n + 1) pos (x :: r) out = if x / 16 = 0 ∨ x / 16 = 15 then (out, 0) else if r.length < (x % 16 + 1).toNat then ([], 4) else if dupS out (x / 16) then ([], 6) else spotsG true n (pos + 1 + (x % 16 + 1).toNat) (r.drop (x % 16 + 1).toNat) (out ++ [⟨x / 16, pos + 1, x % 16 + 1⟩]) := by
          cases r <;> simp [spotsG, h0]
        rw [e]
        split
        · simp
        · split
          · simp
          · split
            · simp
            · have := spotsG_len (nar := true) n (pos + 1 + (x % 16 + 1).toNat) (r.drop (x % 16 + 1).toNat) (out ++ [⟨x / 16, pos + 1, x % 16 + 1⟩])
              simp only [List.length_append, List.length_drop, List.length_cons, List.length_nil] at this ⊢
              omega
      | false =>
        cases r with
        | nil =>
          have e : spotsG false (n + 1) pos [x] out = ([], 4) := by simp [spotsG, h0]
          rw [e]; simp
        | cons s r' =>
          have e : spotsG false (n + 1) pos (x :: s :: r') out = if r'.length < s.toNat then ([], 4) else if dupS out x then ([], 6) else spotsG false n (pos + 2 + s.toNat) (r'.drop s.toNat) (out ++ [⟨x, pos + 2, s⟩]) := by
            simp [spotsG, h0]
          rw [e]
          split
          · simp
          · split
            · simp
            · have := spotsG_len (nar := false) n (pos + 2 + s.toNat) (r'.drop s.toNat) (out ++ [⟨x, pos + 2, s⟩])
              simp only [List.length_append, List.length_drop, List.length_cons, List.length_nil] at this ⊢
              omega
theorem spotsS_len {p : Int} {data : List Int} : (spotsS p data).1.length ≤ data.length := by
  unfold spotsS
  split
  · have := spotsG_len (nar := true) (data.length + 1) 0 data []; simpa using this
  · have := spotsG_len (nar := false) (data.length + 1) 0 data []; simpa using this
  · simp
theorem sub_at {nar : Bool} {data : List Int} {s : Spot} (h : HdS nar data s) (hl : data.length ≤ 400000) : sub data s.at_ (ar .add .i64 s.at_ s.size) = some ((elemAt data s).data) := by
  obtain ⟨a, q, h1, h2, h3, h4, _⟩ := h.ex
  have e : ar .add .i64 s.at_ s.size = ((a + q : Nat) : Int) := by rw [h1, h2, ar_add, w_i64 (by omega) (by omega)]; omega
  rw [e, h1, sub_some (by omega) (by omega) (by omega)]
  unfold elemAt
  rw [h1, h2]
  simp only [Int.toNat_natCast]
  congr 2
  omega
theorem eread_eq {p : Int} {data : List Int} (h0 : 0 ≤ p) (h1 : p ≤ 65535) (hb : oct data) (hl : data.length ≤ 400000) : elem_Read none p data = some (readS p data) := by
  obtain ⟨i1, i2, i3⟩ := spotsS_inv (p := p) hb
  have hlen := spotsS_len (p := p) (data := data)
  unfold elem_Read readS
  rw [bnd (espots_eq h0 h1 hb hl)]
  by_cases he : (spotsS p data).2 = 0
  · rw [if_neg (by rw [cm_neq]; simp [he])]
    unfold elem_Read_l1
    have := loop_seq (step := fun (s : List Elem × Int) => elem_Read_s1 none data (spotsS p data) s.1 s.2) (r := ((spotsS p data).1.map (elemAt data), 0)) (fun i => (((spotsS p data).1.take i).map (elemAt data), (i : Int))) (spotsS p data).1.length (fun i hi => by
      show elem_Read_s1 none data (spotsS p data) _ (i : Int) = _
      unfold elem_Read_s1
      have hm := List.getElem_mem hi
      rw [if_pos (by rw [cm_lss]; simpa using hi), bnd (ix_some (n := i) rfl hi), bnd (sub_at (i1 _ hm) hl)]
      have hc : slices_Clone (elemAt data (spotsS p data).1[i]).data = some (elemAt data (spotsS p data).1[i]).data := by
        unfold slices_Clone
        rw [app_some (by simp [elemAt]; omega)]; rfl
      rw [bnd hc, bnd (app_some (by simp; omega)), ar_add, w_i64 (by omega) (by omega), List.take_add_one, List.getElem?_eq_getElem hi, Option.toList_some, List.map_append]
      rfl) (by
      show elem_Read_s1 none data (spotsS p data) _ _ = _
      unfold elem_Read_s1
      rw [if_neg (by rw [cm_lss]; simp), List.take_length]; rfl)
    rw [he]
    simpa using this
  · rw [if_pos (by rw [cm_neq]; simp [he]), i3 he]
    rfl
def mkSpots (nar : Bool) : Nat → List Elem → List Spot
  | _, [] => []
  | pos, e :: l => ⟨e.id_, ((pos + ah nar : Nat) : Int), (e.data.length : Int)⟩ :: mkSpots nar (pos + ah nar + e.data.length) l
theorem spots_zeros {nar : Bool} : ∀ (k n pos : Nat) (out : List Spot), k < n → spotsG nar n pos (List.replicate k 0) out = (out, 0)
  | 0, n + 1, pos, out, _ => by cases nar <;> rfl
  | k + 1, n + 1, pos, out, h => by
    have e : spotsG nar (n + 1) pos (0 :: List.replicate k 0) out = spotsG nar n (pos + 1) (List.replicate k 0) out := by
      cases nar <;> cases k <;> simp [spotsG, List.replicate_succ]
    rw [List.replicate_succ, e]
    exact spots_zeros k n (pos + 1) out (by omega)
  | _, 0, _, _, h => by omega
theorem nodup_not_dup {out : List Spot} {id : Int} (h : id ∉ out.map (·.id_)) : dupS out id = false := by
  unfold dupS
  rw [List.any_eq_false]
  intro s hs he
  exact h (List.mem_map.2 ⟨s, hs, by simpa using he⟩)
theorem spots_fwd {nar : Bool} : ∀ (l : List Elem) (n pos : Nat) (t : List Int) (out : List Spot), (∀ e, e ∈ l → FitE e) → (nar = true → ∀ e, e ∈ l → Nar e) → (out.map (·.id_) ++ l.map (·.id_)).Nodup → (bodyL nar l ++ t).length < n →
    ∃ m, t.length < m ∧ spotsG nar n pos (bodyL nar l ++ t) out = spotsG nar m (pos + (bodyL nar l).length) t (out ++ mkSpots nar pos l)
  | [], n, pos, t, out, _, _, _, hn => ⟨n, by simpa [bodyL] using hn, by simp [bodyL, mkSpots]⟩
  | e :: l, n, pos, t, out, hf, hna, hd, hn => by
    have hfe := hf e (by simp)
    unfold FitE at hfe
    have hbody : bodyL nar (e :: l) = hdr nar e ++ (e.data ++ bodyL nar l) := by simp [bodyL, encE]
    have hlen : (bodyL nar (e :: l) ++ t).length = ah nar + e.data.length + (bodyL nar l ++ t).length := by
      rw [hbody]; simp only [List.length_append, hdr_len, ah]; omega
    rw [hlen] at hn
    obtain ⟨n', rfl⟩ : ∃ n', n = n' + 1 := ⟨n - 1, by omega⟩
    have hnd : e.id_ ∉ out.map (·.id_) := by
      intro hm
      rw [List.nodup_append] at hd
      exact hd.2.2 _ hm e.id_ (by simp) rfl
    have hd' : ((out ++ [Spot.mk e.id_ ((pos + ah nar : Nat) : Int) (e.data.length : Int)]).map (·.id_) ++ l.map (·.id_)).Nodup := by
      simpa using hd
    have hpos : 1 ≤ ah nar := by unfold ah; split <;> omega
    obtain ⟨m, hm1, hm2⟩ := spots_fwd l n' (pos + ah nar + e.data.length) t (out ++ [⟨e.id_, ((pos + ah nar : Nat) : Int), (e.data.length : Int)⟩]) (fun x hx => hf x (by simp [hx])) (fun h x hx => hna h x (by simp [hx])) hd' (by omega)
    refine ⟨m, hm1, ?_⟩
    have step : spotsG nar (n' + 1) pos (bodyL nar (e :: l) ++ t) out = spotsG nar n' (pos + ah nar + e.data.length) (bodyL nar l ++ t) (out ++ [⟨e.id_, ((pos + ah nar : Nat) : Int), (e.data.length : Int)⟩]) := by
      have hsplit : bodyL nar (e :: l) ++ t = hdr nar e ++ (e.data ++ (bodyL nar l ++ t)) := by rw [hbody]; simp
      rw [hsplit]
      cases nar with
      | true =>
        have hne := hna rfl e (by simp)
        unfold Nar at hne
        have hh : hdr true e = [16 * e.id_ + e.data.length - 1] := rfl
        rw [hh, List.singleton_append]
        have h0 : ¬ (16 * e.id_ + (e.data.length : Int) - 1 = 0) := by omega
        have e1 : (16 * e.id_ + (e.data.length : Int) - 1) / 16 = e.id_ := by omega
        have e2 : (16 * e.id_ + (e.data.length : Int) - 1) % 16 + 1 = e.data.length := by omega
        have ee : ∀ (x : Int) (r : List Int), x ≠ 0 → spotsG true (n' + 1) pos (x :: r) out = if x / 16 = 0 ∨ x / 16 = 15 then (out, 0) else if r.length < (x % 16 + 1).toNat then ([], 4) else if dupS out (x / 16) then ([], 6) else spotsG true n' (pos + 1 + (x % 16 + 1).toNat) (r.drop (x % 16 + 1).toNat) (out ++ [⟨x / 16, pos + 1, x % 16 + 1⟩]) := by
          intro x r h0
          cases r <;> simp [spotsG, h0]
        rw [ee _ _ h0, e1, e2, if_neg (by omega), if_neg (by simp), nodup_not_dup hnd, if_neg (by decide), Int.toNat_natCast, List.drop_left]
        simp [ah]
      | false =>
        have hh : hdr false e = [e.id_, (e.data.length : Int)] := rfl
        rw [hh]
        have h0 : ¬ (e.id_ = 0) := by omega
        have ee : ∀ (x s : Int) (r' : List Int), x ≠ 0 → spotsG false (n' + 1) pos (x :: s :: r') out = if r'.length < s.toNat then ([], 4) else if dupS out x then ([], 6) else spotsG false n' (pos + 2 + s.toNat) (r'.drop s.toNat) (out ++ [⟨x, pos + 2, s⟩]) := by
          intro x s r' h0
          simp [spotsG, h0]
        simp only [List.cons_append, List.nil_append]
        rw [ee _ _ _ h0, if_neg (by simp), nodup_not_dup hnd, if_neg (by decide), Int.toNat_natCast, List.drop_left]
        simp [ah]
    rw [step, hm2]
    have el : (bodyL nar (e :: l)).length = ah nar + e.data.length + (bodyL nar l).length := by
      rw [hbody]; simp only [List.length_append, hdr_len, ah]; omega
    rw [el]
    congr 1
    · omega
    · simp [mkSpots]
theorem mk_at {nar : Bool} {data : List Int} : ∀ (l : List Elem) (pos : Nat) (t : List Int), data.drop pos = bodyL nar l ++ t → (mkSpots nar pos l).map (elemAt data) = l
  | [], _, _, _ => rfl
  | e :: l, pos, t, h => by
    have hbody : bodyL nar (e :: l) = hdr nar e ++ (e.data ++ bodyL nar l) := by simp [bodyL, encE]
    have hah : (hdr nar e).length = ah nar := by rw [hdr_len]; rfl
    have h1 : data.drop (pos + ah nar) = e.data ++ (bodyL nar l ++ t) := by
      rw [← List.drop_drop, h, hbody, List.append_assoc, ← hah, List.drop_left, List.append_assoc]
    have h2 : data.drop (pos + ah nar + e.data.length) = bodyL nar l ++ t := by
      rw [← List.drop_drop, h1, List.drop_left]
    simp only [mkSpots, List.map_cons]
    rw [mk_at l _ t h2]
    congr 1
    unfold elemAt
    simp only [Int.toNat_natCast]
    rw [h1, List.take_left]
theorem bodyL_oct {nar : Bool} {l : List Elem} (hg : GoodE l) (hf : ∀ e, e ∈ l → FitE e) (hn : nar = true → ∀ e, e ∈ l → Nar e) : oct (bodyL nar l) := by
  intro x hx
  obtain ⟨e, he, hx⟩ := List.mem_flatMap.1 hx
  have hfe := hf e he
  unfold FitE at hfe
  rcases List.mem_append.1 hx with hx | hx
  · unfold hdr at hx
    cases nar with
    | true =>
      have := hn rfl e he
      unfold Nar at this
      simp at hx; omega
    | false => simp at hx; omega
  · exact hg.d e he x hx
theorem fill_oct {b : List Int} (h : oct b) : oct (fill4 b) := by
  intro x hx
  rcases List.mem_append.1 hx with hx | hx
  · exact h x hx
  · rw [List.eq_of_mem_replicate hx]; omega
theorem writeL_oct {l : List Elem} (hg : GoodE l) (hr : RightL l) : oct (writeL l) :=
  fill_oct (bodyL_oct hg hr.1 fun h => of_decide_eq_true h)
theorem narP_prof {l : List Elem} (hr : RightL l) : narP (profS l) = narB l := by
  have := prof_nar hr
  rw [cm_eql] at this
  exact this
theorem spots_write {l : List Elem} (hr : RightL l) (t : List Int) : spotsS (profS l) (bodyL (narB l) l ++ List.replicate t.length 0) = (mkSpots (narB l) 0 l, 0) := by
  have hp : profOf (profS l) = if narB l then .nar else .wide := by
    unfold profOf profS narB
    rw [if_pos hr]
    by_cases h : NarL l
    · rw [if_pos h, decide_eq_true h]; rfl
    · rw [if_neg h, decide_eq_false h]; rfl
  have key : ∀ nar : Bool, nar = narB l → spotsG nar ((bodyL nar l ++ List.replicate t.length 0).length + 1) 0 (bodyL nar l ++ List.replicate t.length 0) [] = (mkSpots nar 0 l, 0) := by
    rintro nar rfl
    obtain ⟨m, hm1, hm2⟩ := spots_fwd (nar := narB l) l _ 0 (List.replicate t.length 0) [] hr.1 (fun h => of_decide_eq_true h) (by simpa using hr.2) (Nat.lt_succ_self _)
    rw [hm2, spots_zeros _ _ _ _ (by simpa using hm1)]
    simp
  unfold spotsS
  rw [hp]
  cases h : narB l
  · exact key false h.symm
  · exact key true h.symm
theorem read_write {l : List Elem} (hr : RightL l) : readS (profS l) (writeL l) = (l, 0) := by
  have e : writeL l = bodyL (narB l) l ++ List.replicate (List.replicate (fillN (bodyL (narB l) l).length) (0 : Int)).length 0 := by unfold writeL fill4; simp
  unfold readS
  rw [e, spots_write hr]
  simp only []
  rw [mk_at (nar := narB l) l 0 _ rfl]

end Xb
