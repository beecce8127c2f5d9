/- Own text: KElem5. -/
import Derived.Test.YtcdhafhamjinlaaKElem4
set_option linter.all false
set_option linter.unusedVariables false
set_option linter.unusedSimpArgs false
set_option linter.unnecessarySimpa false
set_option linter.deprecated false
namespace Xb
open Go

/-! ref08.Spots -/
theorem rdup_eq {out : List Spot} {s : Spot} (hl : out.length ≤ 1000000) : ref08_Spots_l3 none out s 0 = some (if dupS out s.id_ then .inr ([], 6) else .inl (out ++ [s], ar .add .i64 s.at_ s.size)) := by
  unfold ref08_Spots_l3
  have := find_loop (l := out) (step := fun v => ref08_Spots_s3 none out s v) (p := fun y => decide (y.id_ = s.id_)) (hit := fun _ => (.inr ([], 6) : (List Spot × Int) ⊕ (List Spot × Int))) (miss := .inl (out ++ [s], ar .add .i64 s.at_ s.size)) (by
    show ref08_Spots_s3 none out s _ = _
    unfold ref08_Spots_s3
    rw [if_neg (by rw [cm_lss]; simp), bnd (app_some (by simp; omega))]; rfl) (fun i hi => by
    show ref08_Spots_s3 none out s (i : Int) = _
    unfold ref08_Spots_s3
    rw [if_pos (by rw [cm_lss]; simpa using hi), bnd (ix_some (n := i) rfl hi), cm_eql]
    by_cases h : out[i].id_ = s.id_
    · simp [h]
    · simp only [h, decide_false, Bool.false_eq_true, if_false]
      rw [ar_add, w_i64 (by omega) (by omega)]; rfl)
  rw [this]
  congr 1
  unfold dupS
  cases h : out.findIdx? (fun y => decide (y.id_ = s.id_)) with
  | none =>
    rw [List.findIdx?_eq_none_iff] at h
    have : (out.any fun y => decide (y.id_ = s.id_)) = false := by rw [List.any_eq_false]; intro x hx; simp only [h x hx]; decide
    rw [this]; rfl
  | some i =>
    rw [List.findIdx?_eq_some_iff_getElem] at h
    obtain ⟨hi, hp, _⟩ := h
    have : (out.any fun y => decide (y.id_ = s.id_)) = true := List.any_eq_true.2 ⟨out[i], List.getElem_mem hi, hp⟩
    rw [this]; rfl

theorem rspots_loop {p : Int} {nar : Bool} {data : List Int} (hw : cm .eql p 48862 = nar) (hb : oct data) (hl : data.length ≤ 1000000) :
    ∀ (n pos : Nat) (rest : List Int) (out : List Spot), rest.length < n → data.drop pos = rest → pos ≤ data.length → out.length + rest.length ≤ 1000000 →
      ref08_Spots_l1 none p data out (pos : Int) = some (spotsG nar n pos rest out)
  | 0, _, _, _, h, _, _, _ => by omega
  | n + 1, pos, [], out, _, hd, hp, _ => by
    have hpos : pos = data.length := by
      have := congrArg List.length hd
      rw [List.length_drop] at this; simp at this; omega
    unfold ref08_Spots_l1
    have : ref08_Spots_s1 none p data out (pos : Int) = some (.inr (out, 0)) := by
      unfold ref08_Spots_s1
      rw [if_neg (by rw [cm_lss, hpos]; simp)]; rfl
    exact loop_inr (step := fun (s : List Spot × Int) => ref08_Spots_s1 none p data s.1 s.2) (s := (out, (pos : Int))) this
  | n + 1, pos, x :: r, out, hn, hd, hp, hol => by
    obtain ⟨hpl, hx, hr⟩ := drop_cons hd
    have hxb := hb x (by rw [← hx]; exact List.getElem_mem hpl)
    have hrl : r.length = data.length - (pos + 1) := by rw [← hr, List.length_drop]
    simp only [List.length_cons] at hn hol
    have hix : ix data (pos : Int) = some x := by rw [ix_some (n := pos) rfl hpl, hx]
    unfold ref08_Spots_l1
    have next : ∀ (out' : List Spot) (pos' : Nat) (rest' : List Int), ref08_Spots_s1 none p data out (pos : Int) = some (.inl (out', (pos' : Int))) → rest'.length < n → data.drop pos' = rest' → pos' ≤ data.length → out'.length + rest'.length ≤ 1000000 →
        loopG none (fun (s : List Spot × Int) => ref08_Spots_s1 none p data s.1 s.2) (out, (pos : Int)) = some (spotsG nar n pos' rest' out') := fun out' pos' rest' h1 h2 h3 h4 h5 => by
      rw [loop_inl (s := (out, (pos : Int))) (s' := (out', (pos' : Int))) h1]
      exact rspots_loop hw hb hl n pos' rest' out' h2 h3 h4 h5
    have stop : ∀ (q : List Spot × Int), ref08_Spots_s1 none p data out (pos : Int) = some (.inr q) → loopG none (fun (s : List Spot × Int) => ref08_Spots_s1 none p data s.1 s.2) (out, (pos : Int)) = some q := fun q h1 => loop_inr (s := (out, (pos : Int))) h1
    have wx : IntKind.i64.wrap x = x := w_i64 (by omega) (by omega)
    have ep : ∀ k : Int, 0 ≤ k → k ≤ 10 → ar .add .i64 (pos : Int) k = pos + k := fun k _ _ => by rw [ar_add, w_i64 (by omega) (by omega)]
    by_cases h0 : x = 0
    · have e : spotsG nar (n + 1) pos (x :: r) out = spotsG nar n (pos + 1) r out := by cases nar <;> cases r <;> simp [spotsG, h0]
      rw [e]
      refine next out (pos + 1) r ?_ (by omega) hr (by omega) (by omega)
      unfold ref08_Spots_s1
      rw [if_pos (by rw [cm_lss]; simpa using hpl), bnd hix, wx, if_pos (by rw [cm_eql]; simpa using h0), ep 1 (by omega) (by omega)]
      rfl
    · have c0 : ¬ cm .eql x 0 = true := by rw [cm_eql]; simpa using h0
      cases nar with
      | true =>
        have q16 : dv .quo .i64 x 16 = x / 16 := by rw [dv_quo hxb.1, w_i64 (by omega) (by omega)]
        have r16 : ar .add .i64 (dv .rem .i64 x 16) 1 = x % 16 + 1 := by rw [dv_rem hxb.1, ar_add, w_i64 (by omega) (by omega)]
        have st : ref08_Spots_s1 none p data out (pos : Int) = (if ((cm .eql (x / 16) 0) || (cm .eql (x / 16) 15)) = true then Option.map Sum.inr (some (out, 0)) else ref08_Spots_j2 none data out (Spot.mk (x / 16) (pos + 1) (x % 16 + 1))) := by
          conv => lhs; unfold ref08_Spots_s1
          rw [if_pos (by rw [cm_lss]; simpa using hpl), bnd hix, wx, if_neg c0, hw, if_pos rfl, q16, r16, ep 1 (by omega) (by omega)]
        have e : spotsG true (n + 1) pos (x :: r) out = if x / 16 = 0 ∨ x / 16 = 15 then (out, 0) else if r.length < (x % 16 + 1).toNat then ([], 4) else if dupS out (x / 16) then ([], 6) else spotsG true n (pos + 1 + (x % 16 + 1).toNat) (r.drop (x % 16 + 1).toNat) (out ++ [⟨x / 16, pos + 1, x % 16 + 1⟩]) := by
          cases r <;> simp [spotsG, h0]
        rw [e]
        by_cases h1 : x / 16 = 0 ∨ x / 16 = 15
        · rw [if_pos h1]
          refine stop _ ?_
          rw [st, if_pos (by rw [cm_eql, cm_eql]; rcases h1 with h1 | h1 <;> simp [h1])]
          rfl
        · rw [if_neg h1]
          rw [if_neg (by rw [cm_eql, cm_eql]; simp; omega)] at st
          unfold ref08_Spots_j2 at st
          simp only [] at st
          by_cases h2 : r.length < (x % 16 + 1).toNat
          · rw [if_pos h2]
            refine stop _ ?_
            rw [st, if_pos (by rw [cm_gtr, ar_add, w_i64 (by omega) (by omega)]; simp; omega)]
            rfl
          · rw [if_neg h2]
            rw [if_neg (by rw [cm_gtr, ar_add, w_i64 (by omega) (by omega)]; simp; omega), rdup_eq (by omega)] at st
            by_cases h3 : dupS out (x / 16) = true
            · rw [if_pos h3]
              refine stop _ ?_
              rw [st, if_pos h3]
            · rw [if_neg h3]
              rw [if_neg h3] at st
              simp only [] at st
              rw [ar_add, w_i64 (by omega) (by omega)] at st
              refine next _ _ _ (by rw [st]; congr 3; omega) (by rw [List.length_drop]; omega) ?_ (by omega) (by rw [List.length_drop, List.length_append]; simp; omega)
              rw [← hr, List.drop_drop]
      | false =>
        cases r with
        | nil =>
          have e : spotsG false (n + 1) pos [x] out = ([], 4) := by simp [spotsG, h0]
          rw [e]
          refine stop _ ?_
          simp only [List.length_nil] at hrl
          unfold ref08_Spots_s1
          rw [if_pos (by rw [cm_lss]; simpa using hpl), bnd hix, wx, if_neg c0, hw, if_neg (by decide), ep 1 (by omega) (by omega), if_pos (by rw [cm_geq]; simp; omega)]
          rfl
        | cons s r' =>
          obtain ⟨hpl2, hx2, hr2⟩ := drop_cons hr
          have hsb := hb s (by rw [← hx2]; exact List.getElem_mem hpl2)
          have hix2 : ix data ((pos : Int) + 1) = some s := by
            have : ((pos : Int) + 1) = ((pos + 1 : Nat) : Int) := by omega
            rw [this, ix_some (n := pos + 1) rfl hpl2, hx2]
          simp only [List.length_cons] at hrl hn hol
          have ws : IntKind.i64.wrap s = s := w_i64 (by omega) (by omega)
          have st : ref08_Spots_s1 none p data out (pos : Int) = ref08_Spots_j2 none data out (Spot.mk x (pos + 2) s) := by
            conv => lhs; unfold ref08_Spots_s1
            rw [if_pos (by rw [cm_lss]; simpa using hpl), bnd hix, wx, if_neg c0, hw, if_neg (by decide), ep 1 (by omega) (by omega), if_neg (by rw [cm_geq]; simp; omega), bnd hix2, ws, ep 2 (by omega) (by omega)]
          have e : spotsG false (n + 1) pos (x :: s :: r') out = if r'.length < s.toNat then ([], 4) else if dupS out x then ([], 6) else spotsG false n (pos + 2 + s.toNat) (r'.drop s.toNat) (out ++ [⟨x, pos + 2, s⟩]) := by
            simp [spotsG, h0]
          rw [e]
          unfold ref08_Spots_j2 at st
          simp only [] at st
          by_cases h2 : r'.length < s.toNat
          · rw [if_pos h2]
            refine stop _ ?_
            rw [st, if_pos (by rw [cm_gtr, ar_add, w_i64 (by omega) (by omega)]; simp; omega)]
            rfl
          · rw [if_neg h2]
            rw [if_neg (by rw [cm_gtr, ar_add, w_i64 (by omega) (by omega)]; simp; omega), rdup_eq (by omega)] at st
            by_cases h3 : dupS out x = true
            · rw [if_pos h3]
              refine stop _ ?_
              rw [st, if_pos h3]
            · rw [if_neg h3]
              rw [if_neg h3] at st
              simp only [] at st
              rw [ar_add, w_i64 (by omega) (by omega)] at st
              refine next _ _ _ (by rw [st]; congr 3; omega) (by rw [List.length_drop]; omega) ?_ (by omega) (by rw [List.length_drop, List.length_append]; simp; omega)
              rw [← hr2, List.drop_drop]

theorem rspots_eq {p : Int} {data : List Int} (h0 : 0 ≤ p) (h1 : p ≤ 65535) (hb : oct data) (hl : data.length ≤ 100000) : ref08_Spots none p data = some (spotsS p data) := by
  unfold ref08_Spots spotsS profOf
  have q : dv .quo .u16 p 16 = p / 16 := by rw [dv_quo h0, w_u16 (by omega) (by omega)]
  rw [q]
  by_cases hn : p = 48862
  · have hc : cm .eql p 48862 = true := by rw [cm_eql]; simpa using hn
    rw [hc, if_neg (by simp), if_pos hn]
    exact rspots_loop (nar := true) hc hb (by omega) (data.length + 1) 0 data [] (by omega) rfl (by omega) (by simp; omega)
  · have hc : cm .eql p 48862 = false := by rw [cm_eql]; simpa using hn
    rw [hc, if_neg hn]
    by_cases hw : p / 16 = 256
    · rw [if_neg (by rw [cm_neq]; simp [hw]), if_pos hw]
      exact rspots_loop (nar := false) hc hb (by omega) (data.length + 1) 0 data [] (by omega) rfl (by omega) (by simp; omega)
    · rw [if_pos (by rw [cm_neq]; simp [hw]), if_neg hw]
end Xb
