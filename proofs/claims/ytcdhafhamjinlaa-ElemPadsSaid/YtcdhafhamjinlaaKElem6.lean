/- Own text: KElem6. -/
import Derived.Test.YtcdhafhamjinlaaKElem5
set_option linter.all false
set_option linter.unusedVariables false
set_option linter.unusedSimpArgs false
set_option linter.unnecessarySimpa false
set_option linter.deprecated false
namespace Xb
open Go

def ah (nar : Bool) : Nat := if nar then 1 else 2
structure HdS (nar : Bool) (data : List Int) (s : Spot) : Prop where
  ex : ∃ a q : Nat, s.at_ = a ∧ s.size = q ∧ ah nar ≤ a ∧ a + q ≤ data.length ∧ data.drop (a - ah nar) = (if nar then [16 * s.id_ + q - 1] else [s.id_, (q : Int)]) ++ data.drop a ∧
    1 ≤ s.id_ ∧ s.id_ ≤ 255 ∧ q ≤ 255 ∧ (nar = true → s.id_ ≤ 14 ∧ 1 ≤ q ∧ q ≤ 16)

theorem dup_not {out : List Spot} {id : Int} (h : ¬ dupS out id = true) : id ∉ out.map (·.id_) := by
  intro hm
  obtain ⟨s, hs, rfl⟩ := List.mem_map.1 hm
  exact h (List.any_eq_true.2 ⟨s, hs, by simp⟩)

theorem spotsG_inv {nar : Bool} {data : List Int} (hb : oct data) : ∀ (n pos : Nat) (rest : List Int) (out : List Spot), data.drop pos = rest → (∀ s, s ∈ out → HdS nar data s) → (out.map (·.id_)).Nodup →
    (∀ s, s ∈ (spotsG nar n pos rest out).1 → HdS nar data s) ∧ ((spotsG nar n pos rest out).1.map (·.id_)).Nodup ∧ ((spotsG nar n pos rest out).2 ≠ 0 → (spotsG nar n pos rest out).1 = [])
  | 0, pos, rest, out, _, h1, h2 => by
    have : spotsG nar 0 pos rest out = (out, 0) := by cases nar <;> rfl
    rw [this]; exact ⟨h1, h2, fun h => absurd rfl h⟩
  | n + 1, pos, [], out, _, h1, h2 => by
    have : spotsG nar (n + 1) pos [] out = (out, 0) := by cases nar <;> rfl
    rw [this]; exact ⟨h1, h2, fun h => absurd rfl h⟩
  | n + 1, pos, x :: r, out, hd, h1, h2 => by
    obtain ⟨hpl, hx, hr⟩ := drop_cons hd
    have hxb := hb x (by rw [← hx]; exact List.getElem_mem hpl)
    have hrl : r.length = data.length - (pos + 1) := by rw [← hr, List.length_drop]
    have err : ∀ e : Int, (∀ s, s ∈ (([] : List Spot), e).1 → HdS nar data s) ∧ ((([] : List Spot), e).1.map (·.id_)).Nodup ∧ ((([] : List Spot), e).2 ≠ 0 → (([] : List Spot), e).1 = []) := fun e => ⟨by simp, by simp, fun _ => rfl⟩
    have fin : (∀ s, s ∈ (out, (0 : Int)).1 → HdS nar data s) ∧ ((out, (0 : Int)).1.map (·.id_)).Nodup ∧ ((out, (0 : Int)).2 ≠ 0 → (out, (0 : Int)).1 = []) := ⟨h1, h2, fun h => absurd rfl h⟩
    by_cases h0 : x = 0
    · have e : spotsG nar (n + 1) pos (x :: r) out = spotsG nar n (pos + 1) r out := by cases nar <;> cases r <;> simp [spotsG, h0]
      rw [e]; exact spotsG_inv hb n (pos + 1) r out hr h1 h2
    · cases nar with
      | true =>
        have e : spotsG true (n + 1) pos (x :: r) out = if x / 16 = 0 ∨ x / 16 = 15 then (out, 0) else if r.length < (x % 16 + 1).toNat then ([], 4) else if dupS out (x / 16) then ([], 6) else spotsG true n (pos + 1 + (x % 16 + 1).toNat) (r.drop (x % 16 + 1).toNat) (out ++ [⟨x / 16, pos + 1, x % 16 + 1⟩]) := by
          cases r <;> simp [spotsG, h0]
        rw [e]
        by_cases c1 : x / 16 = 0 ∨ x / 16 = 15
        · rw [if_pos c1]; exact fin
        · rw [if_neg c1]
          by_cases c2 : r.length < (x % 16 + 1).toNat
          · rw [if_pos c2]; exact err 4
          · rw [if_neg c2]
            by_cases c3 : dupS out (x / 16) = true
            · rw [if_pos c3]; exact err 6
            · rw [if_neg c3]
              refine spotsG_inv hb n _ _ _ (by rw [← hr, List.drop_drop]) (fun s hs => ?_) (by rw [List.map_append, List.map_singleton]; exact nodup_snoc.2 ⟨h2, dup_not c3⟩)
              rcases List.mem_append.1 hs with hs | hs
              · exact h1 s hs
              · rw [List.mem_singleton.1 hs]
                refine ⟨pos + 1, (x % 16 + 1).toNat, by simp, by simp; omega, by simp [ah], by omega, ?_, by simp; omega, by simp; omega, by omega, fun _ => ⟨by simp; omega, by omega, by omega⟩⟩
                simp only [ah, if_true, Nat.add_sub_cancel, List.singleton_append]
                rw [hd, hr]
                congr 1
                omega
      | false =>
        cases r with
        | nil =>
          have e : spotsG false (n + 1) pos [x] out = ([], 4) := by simp [spotsG, h0]
          rw [e]; exact err 4
        | cons s r' =>
          obtain ⟨hpl2, hx2, hr2⟩ := drop_cons hr
          have hsb := hb s (by rw [← hx2]; exact List.getElem_mem hpl2)
          simp only [List.length_cons] at hrl
          have e : spotsG false (n + 1) pos (x :: s :: r') out = if r'.length < s.toNat then ([], 4) else if dupS out x then ([], 6) else spotsG false n (pos + 2 + s.toNat) (r'.drop s.toNat) (out ++ [⟨x, pos + 2, s⟩]) := by
            simp [spotsG, h0]
          rw [e]
          by_cases c2 : r'.length < s.toNat
          · rw [if_pos c2]; exact err 4
          · rw [if_neg c2]
            by_cases c3 : dupS out x = true
            · rw [if_pos c3]; exact err 6
            · rw [if_neg c3]
              refine spotsG_inv hb n _ _ _ (by rw [← hr2, List.drop_drop]) (fun y hs => ?_) (by rw [List.map_append, List.map_singleton]; exact nodup_snoc.2 ⟨h2, dup_not c3⟩)
              rcases List.mem_append.1 hs with hs | hs
              · exact h1 y hs
              · rw [List.mem_singleton.1 hs]
                refine ⟨pos + 2, s.toNat, by simp, by simp; omega, by simp [ah], by omega, ?_, by simp; omega, by simp; omega, by omega, fun h => by cases h⟩
                simp only [ah, Bool.false_eq_true, if_false, Nat.add_sub_cancel]
                rw [hd]
                have e2 : data.drop (pos + 2) = r' := hr2
                rw [e2]
                simp
                omega

def elemAt (data : List Int) (s : Spot) : Elem := ⟨s.id_, (data.drop s.at_.toNat).take s.size.toNat⟩
def readS (p : Int) (data : List Int) : List Elem × Int := ((spotsS p data).1.map (elemAt data), (spotsS p data).2)
def narP (p : Int) : Bool := decide (p = 48862)

theorem spotsS_inv {p : Int} {data : List Int} (hb : oct data) : (∀ s, s ∈ (spotsS p data).1 → HdS (narP p) data s) ∧ ((spotsS p data).1.map (·.id_)).Nodup ∧ ((spotsS p data).2 ≠ 0 → (spotsS p data).1 = []) := by
  unfold spotsS profOf narP
  by_cases hn : p = 48862
  · rw [if_pos hn, decide_eq_true hn]
    exact spotsG_inv hb _ 0 data [] rfl (by simp) (by simp)
  · rw [if_neg hn, decide_eq_false hn]
    by_cases hw : p / 16 = 256
    · rw [if_pos hw]
      exact spotsG_inv hb _ 0 data [] rfl (by simp) (by simp)
    · rw [if_neg hw]
      exact ⟨by simp, by simp, fun _ => rfl⟩

theorem spotsG_len {nar : Bool} : ∀ (n pos : Nat) (rest : List Int) (out : List Spot), (spotsG nar n pos rest out).1.length ≤ out.length + rest.length
  | 0, pos, rest, out => by
    have : spotsG nar 0 pos rest out = (out, 0) := by cases nar <;> rfl
    rw [this]; simp
  | n + 1, pos, [], out => by
    have : spotsG nar (n + 1) pos [] out = (out, 0) := by cases nar <;> rfl
    rw [this]; simp
  | n + 1, pos, x :: r, out => by
    by_cases h0 : x = 0
    · have e : spotsG nar (n + 1) pos (x :: r) out = spotsG nar n (pos + 1) r out := by cases nar <;> cases r <;> simp [spotsG, h0]
      rw [e]
      have := spotsG_len (nar := nar) n (pos + 1) r out
      simp only [List.length_cons]; omega
    · cases nar with
      | true =>
        have e : spotsG true (n + 1) pos (x :: r) out = if x / 16 = 0 ∨ x / 16 = 15 then (out, 0) else if r.length < (x % 16 + 1).toNat then ([], 4) else if dupS out (x / 16) then ([], 6) else spotsG true n (pos + 1 + (x % 16 + 1).toNat) (r.drop (x % 16 + 1).toNat) (out ++ [⟨x / 16, pos + 1, x % 16 + 1⟩]) := by
          cases r <;> simp [spotsG, h0]
        rw [e]
        split
        · simp
        · split
          · simp
          · split
            · simp
            · have := spotsG_len (nar := true) n (pos + 1 + (x % 16 + 1).toNat) (r.drop (x % 16 + 1).toNat) (out ++ [⟨x / 16, pos + 1, x % 16 + 1⟩])
              simp only [List.length_append, List.length_drop, List.length_cons, List.length_nil] at this ⊢
              omega
      | false =>
        cases r with
        | nil =>
          have e : spotsG false (n + 1) pos [x] out = ([], 4) := by simp [spotsG, h0]
          rw [e]; simp
        | cons s r' =>
          have e : spotsG false (n + 1) pos (x :: s :: r') out = if r'.length < s.toNat then ([], 4) else if dupS out x then ([], 6) else spotsG false n (pos + 2 + s.toNat) (r'.drop s.toNat) (out ++ [⟨x, pos + 2, s⟩]) := by
            simp [spotsG, h0]
          rw [e]
          split
          · simp
          · split
            · simp
            · have := spotsG_len (nar := false) n (pos + 2 + s.toNat) (r'.drop s.toNat) (out ++ [⟨x, pos + 2, s⟩])
              simp only [List.length_append, List.length_drop, List.length_cons, List.length_nil] at this ⊢
              omega
theorem spotsS_len {p : Int} {data : List Int} : (spotsS p data).1.length ≤ data.length := by
  unfold spotsS
  split
  · have := spotsG_len (nar := true) (data.length + 1) 0 data []; simpa using this
  · have := spotsG_len (nar := false) (data.length + 1) 0 data []; simpa using this
  · simp

theorem sub_at {nar : Bool} {data : List Int} {s : Spot} (h : HdS nar data s) (hl : data.length ≤ 100000) : sub data s.at_ (ar .add .i64 s.at_ s.size) = some ((elemAt data s).data) := by
  obtain ⟨a, q, h1, h2, h3, h4, _⟩ := h.ex
  have e : ar .add .i64 s.at_ s.size = ((a + q : Nat) : Int) := by rw [h1, h2, ar_add, w_i64 (by omega) (by omega)]; omega
  rw [e, h1, sub_some (by omega) (by omega) (by omega)]
  unfold elemAt
  rw [h1, h2]
  simp only [Int.toNat_natCast]
  congr 2
  omega

theorem eread_eq {p : Int} {data : List Int} (h0 : 0 ≤ p) (h1 : p ≤ 65535) (hb : oct data) (hl : data.length ≤ 100000) : elem_Read none p data = some (readS p data) := by
  obtain ⟨i1, i2, i3⟩ := spotsS_inv (p := p) hb
  have hlen := spotsS_len (p := p) (data := data)
  unfold elem_Read readS
  rw [bnd (espots_eq h0 h1 hb hl)]
  by_cases he : (spotsS p data).2 = 0
  · rw [if_neg (by rw [cm_neq]; simp [he])]
    unfold elem_Read_l1
    have := loop_seq (step := fun (s : List Elem × Int) => elem_Read_s1 none data (spotsS p data) s.1 s.2) (r := ((spotsS p data).1.map (elemAt data), 0)) (fun i => (((spotsS p data).1.take i).map (elemAt data), (i : Int))) (spotsS p data).1.length (fun i hi => by
      show elem_Read_s1 none data (spotsS p data) _ (i : Int) = _
      unfold elem_Read_s1
      have hm := List.getElem_mem hi
      rw [if_pos (by rw [cm_lss]; simpa using hi), bnd (ix_some (n := i) rfl hi), bnd (sub_at (i1 _ hm) hl)]
      have hc : slices_Clone (elemAt data (spotsS p data).1[i]).data = some (elemAt data (spotsS p data).1[i]).data := by
        unfold slices_Clone
        rw [app_some (by simp [elemAt]; omega)]; rfl
      rw [bnd hc, bnd (app_some (by simp; omega)), ar_add, w_i64 (by omega) (by omega), List.take_add_one, List.getElem?_eq_getElem hi, Option.toList_some, List.map_append]
      rfl) (by
      show elem_Read_s1 none data (spotsS p data) _ _ = _
      unfold elem_Read_s1
      rw [if_neg (by rw [cm_lss]; simp), List.take_length]; rfl)
    rw [he]
    simpa using this
  · rw [if_pos (by rw [cm_neq]; simp [he]), i3 he]
    rfl
theorem rread_eq {p : Int} {data : List Int} (h0 : 0 ≤ p) (h1 : p ≤ 65535) (hb : oct data) (hl : data.length ≤ 100000) : ref08_Read none p data = some (readS p data) := by
  obtain ⟨i1, i2, i3⟩ := spotsS_inv (p := p) hb
  have hlen := spotsS_len (p := p) (data := data)
  unfold ref08_Read readS
  rw [bnd (rspots_eq h0 h1 hb hl)]
  unfold ref08_Read_l1
  have := loop_seq (step := fun (s : List Elem × Int) => ref08_Read_s1 none data (spotsS p data) s.1 s.2) (r := ((spotsS p data).1.map (elemAt data), (spotsS p data).2)) (fun i => (((spotsS p data).1.take i).map (elemAt data), (i : Int))) (spotsS p data).1.length (fun i hi => by
    show ref08_Read_s1 none data (spotsS p data) _ (i : Int) = _
    unfold ref08_Read_s1
    have hm := List.getElem_mem hi
    have hx := ix_some (l := (spotsS p data).1) (n := i) (i := (i : Int)) rfl hi
    rw [if_pos (by rw [cm_lss]; simpa using hi), bnd hx, bnd hx, bnd hx, bnd hx, bnd (sub_at (i1 _ hm) hl), bnd (app_some (by simp [elemAt]; omega)), bnd (app_some (by simp; omega)), ar_add, w_i64 (by omega) (by omega), List.take_add_one, List.getElem?_eq_getElem hi, Option.toList_some, List.map_append]
    rfl) (by
    show ref08_Read_s1 none data (spotsS p data) _ _ = _
    unfold ref08_Read_s1
    rw [if_neg (by rw [cm_lss]; simp), List.take_length]; rfl)
  simpa using this
end Xb
