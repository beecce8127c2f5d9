/- Own text: KElem4. -/
import Derived.Test.YtcdhafhamjinlaaKElem3
set_option linter.all false
set_option linter.unusedVariables false
set_option linter.unusedSimpArgs false
set_option linter.unnecessarySimpa false
set_option linter.deprecated false
namespace Xb
open Go

theorem nat_hi (x : Nat) (hx : x < 65536) : x &&& 65520 = x / 16 * 16 := by
  have h : x &&& 65520 = (x / 2 ^ 4 &&& 4095) * 2 ^ 4 := by
    apply Nat.eq_of_testBit_eq
    intro i
    have e : (65520 : Nat) = 4095 * 2 ^ 4 := by decide
    rw [Nat.testBit_and, e, Nat.testBit_mul_two_pow, Nat.testBit_mul_two_pow, Nat.testBit_and, Nat.testBit_div_two_pow]
    by_cases hi : 4 ≤ i
    · have : i - 4 + 4 = i := by omega
      simp [hi, this]
    · simp [hi]
  rw [h]
  have e2 : (4095 : Nat) = 2 ^ 12 - 1 := by decide
  rw [e2, nat_and_mask]
  omega
theorem andNot15 {x : Int} (h0 : 0 ≤ x) (h1 : x ≤ 65535) : ar .andNot .u16 x 15 = x / 16 * 16 := by
  obtain ⟨n, rfl⟩ : ∃ n : Nat, x = n := ⟨x.toNat, by omega⟩
  have e : ~~~ (BitVec.ofInt 16 15) = 65520#16 := by decide
  have hb : IntKind.u16.bits = 16 := rfl
  show IntKind.u16.wrap ((BitVec.ofInt 16 (n : Int) &&& ~~~ BitVec.ofInt 16 15).toNat : Int) = _
  rw [e, BitVec.toNat_and]
  have e1 : (BitVec.ofInt 16 (n : Int)).toNat = n := by
    rw [BitVec.toNat_ofInt]; omega
  have e2 : (65520#16).toNat = 65520 := rfl
  rw [e1, e2, nat_hi n (by omega), w_u16 (by omega) (by omega)]
  omega

/-- where elements stand -/
def dupS (out : List Spot) (id : Int) : Bool := out.any fun s => decide (s.id_ = id)
def spotsG (nar : Bool) : Nat → Nat → List Int → List Spot → List Spot × Int
  | 0, _, _, out => (out, 0)
  | _ + 1, _, [], out => (out, 0)
  | n + 1, pos, x :: r, out =>
    if x = 0 then spotsG nar n (pos + 1) r out else
    if nar then
      if x / 16 = 0 ∨ x / 16 = 15 then (out, 0)
      else if r.length < (x % 16 + 1).toNat then ([], 4)
      else if dupS out (x / 16) then ([], 6)
      else spotsG nar n (pos + 1 + (x % 16 + 1).toNat) (r.drop (x % 16 + 1).toNat) (out ++ [⟨x / 16, pos + 1, x % 16 + 1⟩])
    else
      match r with
      | [] => ([], 4)
      | s :: r' =>
        if r'.length < s.toNat then ([], 4)
        else if dupS out x then ([], 6)
        else spotsG nar n (pos + 2 + s.toNat) (r'.drop s.toNat) (out ++ [⟨x, pos + 2, s⟩])

inductive Prof where
  | nar | wide | none
def profOf (p : Int) : Prof := if p = 48862 then .nar else if p / 16 = 256 then .wide else .none
def spotsS (p : Int) (data : List Int) : List Spot × Int :=
  match profOf p with
  | .nar => spotsG true (data.length + 1) 0 data []
  | .wide => spotsG false (data.length + 1) 0 data []
  | .none => ([], 6)

theorem containsS_eq {l : List Spot} {f : Spot → Option Bool} {p : Spot → Bool} (hf : ∀ s, f s = some (p s)) (hl : l.length ≤ 1000000) : slices_ContainsFunc_Spot none l f = some (l.any p) := by
  unfold slices_ContainsFunc_Spot slices_IndexFunc_Spot slices_IndexFunc_Spot_l1
  have := find_loop (l := l) (step := fun s => slices_IndexFunc_Spot_s1 none l f s) (p := p) (hit := fun i => (i : Int)) (miss := -1) (by
    show slices_IndexFunc_Spot_s1 none l f _ = _
    unfold slices_IndexFunc_Spot_s1
    rw [if_neg (by rw [cm_lss]; simp)]; rfl) (fun i hi => by
    show slices_IndexFunc_Spot_s1 none l f _ = _
    unfold slices_IndexFunc_Spot_s1
    rw [if_pos (by rw [cm_lss]; simpa using hi), bnd (ix_some (n := i) rfl hi), bnd (hf _)]
    by_cases hp : p l[i] = true
    · rw [if_pos hp, if_pos hp]; rfl
    · rw [if_neg hp, if_neg hp, ar_add, w_i64 (by omega) (by omega)]; rfl)
  rw [bnd this]
  congr 1
  cases h : l.findIdx? p with
  | none =>
    rw [List.findIdx?_eq_none_iff] at h
    have : l.any p = false := by rw [List.any_eq_false]; intro x hx; simp [h x hx]
    rw [this]; decide
  | some i =>
    rw [List.findIdx?_eq_some_iff_getElem] at h
    obtain ⟨hi, hp, _⟩ := h
    have : l.any p = true := List.any_eq_true.2 ⟨l[i], List.getElem_mem hi, hp⟩
    rw [this, cm_geq]; simp

theorem drop_cons {data : List Int} {pos : Nat} {x : Int} {r : List Int} (h : data.drop pos = x :: r) : ∃ hp : pos < data.length, data[pos] = x ∧ data.drop (pos + 1) = r := by
  have hp : pos < data.length := by
    refine Classical.byContradiction fun hn => ?_
    rw [List.drop_of_length_le (by omega)] at h; cases h
  rw [List.drop_eq_getElem_cons hp] at h
  simp only [List.cons.injEq] at h
  exact ⟨hp, h.1, h.2⟩

theorem walk_nar : elem_walk 48862 = .c61 ⟨⟩ := by decide
theorem walk_wide {p : Int} (h0 : 0 ≤ p) (h1 : p ≤ 65535) (h : p / 16 = 256) : elem_walk p = .c66 ⟨⟩ := by
  unfold elem_walk
  rw [if_neg (by rw [cm_eql]; simp; omega), andNot15 h0 h1, if_pos (by rw [cm_eql]; simp; omega)]
theorem walk_none {p : Int} (h0 : 0 ≤ p) (h1 : p ≤ 65535) (h : p ≠ 48862) (h2 : p / 16 ≠ 256) : elem_walk p = .nil := by
  unfold elem_walk
  rw [if_neg (by rw [cm_eql]; simpa using h), andNot15 h0 h1, if_neg (by rw [cm_eql]; simp; omega)]

theorem shr4 {x : Int} (h0 : 0 ≤ x) (h1 : x ≤ 255) : IntKind.i64.wrap (sf .shr .u8 x 4) = x / 16 := by
  rw [sf_shr (y := 4) (n := 4) rfl (by decide), w_i64 (by omega) (by omega)]
  rfl
theorem and15' {x : Int} (h0 : 0 ≤ x) (h1 : x ≤ 255) : IntKind.i64.wrap (ar .and .u8 x 15) = x % 16 := by
  have : ar .and .u8 x 15 = x % 16 := ar_mask (k := .u8) (n := 4) rfl (by decide) (by decide) h0 (by simp [IntKind.bits]; omega)
  rw [this, w_i64 (by omega) (by omega)]

theorem spots_loop {p : Int} {nar : Bool} {data : List Int} (hw : elem_walk p = if nar then .c61 ⟨⟩ else .c66 ⟨⟩) (hb : oct data) (hl : data.length ≤ 1000000) :
    ∀ (n pos : Nat) (rest : List Int) (out : List Spot), rest.length < n → data.drop pos = rest → pos ≤ data.length → out.length + rest.length ≤ 1000000 →
      elem_Spots_l2 none p data out (pos : Int) = some (spotsG nar n pos rest out)
  | 0, _, _, _, h, _, _, _ => by omega
  | n + 1, pos, [], out, _, hd, hp, _ => by
    have hpos : pos = data.length := by
      have := congrArg List.length hd
      rw [List.length_drop] at this; simp at this; omega
    unfold elem_Spots_l2
    have : elem_Spots_s2 none p data out (pos : Int) = some (.inr (out, 0)) := by
      unfold elem_Spots_s2 elem_Spots_j1
      rw [if_neg (by rw [cm_lss, hpos]; simp)]; rfl
    exact loop_inr (step := fun (s : List Spot × Int) => elem_Spots_s2 none p data s.1 s.2) (s := (out, (pos : Int))) this
  | n + 1, pos, x :: r, out, hn, hd, hp, hol => by
    obtain ⟨hpl, hx, hr⟩ := drop_cons hd
    have hxb := hb x (by rw [← hx]; exact List.getElem_mem hpl)
    have hrl : r.length = data.length - (pos + 1) := by rw [← hr, List.length_drop]
    simp only [List.length_cons] at hn hol
    have hix : ix data (pos : Int) = some x := by rw [ix_some (n := pos) rfl hpl, hx]
    unfold elem_Spots_l2
    have next : ∀ (out' : List Spot) (pos' : Nat) (rest' : List Int), elem_Spots_s2 none p data out (pos : Int) = some (.inl (out', (pos' : Int))) → rest'.length < n → data.drop pos' = rest' → pos' ≤ data.length → out'.length + rest'.length ≤ 1000000 →
        loopG none (fun (s : List Spot × Int) => elem_Spots_s2 none p data s.1 s.2) (out, (pos : Int)) = some (spotsG nar n pos' rest' out') := fun out' pos' rest' h1 h2 h3 h4 h5 => by
      rw [loop_inl (s := (out, (pos : Int))) (s' := (out', (pos' : Int))) h1]
      exact spots_loop hw hb hl n pos' rest' out' h2 h3 h4 h5
    have stop : ∀ (q : List Spot × Int), elem_Spots_s2 none p data out (pos : Int) = some (.inr q) → loopG none (fun (s : List Spot × Int) => elem_Spots_s2 none p data s.1 s.2) (out, (pos : Int)) = some q := fun q h1 => loop_inr (s := (out, (pos : Int))) h1
    have st : elem_Spots_s2 none p data out (pos : Int) = (if cm .eql x 0 = true then some (Sum.inl (out, (ar .add .i64 (pos : Int) 1)))
      else Option.bind (I_elem_walker_next (elem_walk p) data (pos : Int)) fun x5 =>
        if (!x5.2) then Option.map Sum.inr (elem_Spots_j1 none out)
        else if ((cm .gtr x5.1.at_ (data.length : Int)) || (cm .gtr x5.1.size (ar .sub .i64 (data.length : Int) x5.1.at_))) then Option.map Sum.inr (some ([], 4))
        else Option.bind (slices_ContainsFunc_Spot none out (fun (y0 : Spot) => some (elem_Spots_1 y0 x5.1))) fun x6 =>
          if x6 then Option.map Sum.inr (some ([], 6))
          else Option.bind (app out [x5.1]) fun x7 => some (Sum.inl (x7, (ar .add .i64 x5.1.at_ x5.1.size)))) := by
      conv => lhs; unfold elem_Spots_s2
      rw [if_pos (by rw [cm_lss]; simpa using hpl), bnd hix]
    have hdup : ∀ (s : Spot), slices_ContainsFunc_Spot none out (fun (y0 : Spot) => some (elem_Spots_1 y0 s)) = some (dupS out s.id_) := fun s =>
      containsS_eq (p := fun y => decide (y.id_ = s.id_)) (fun y => by unfold elem_Spots_1; rw [cm_eql]) (by omega)
    by_cases h0 : x = 0
    · have e : spotsG nar (n + 1) pos (x :: r) out = spotsG nar n (pos + 1) r out := by cases nar <;> cases r <;> simp [spotsG, h0]
      rw [e]
      refine next out (pos + 1) r ?_ (by omega) hr (by omega) (by omega)
      rw [st, if_pos (by rw [cm_eql]; simpa using h0), ar_add, w_i64 (by omega) (by omega)]
      rfl
    · have c0 : ¬ cm .eql x 0 = true := by rw [cm_eql]; simpa using h0
      rw [if_neg c0] at st
      have ep : ∀ k : Int, 0 ≤ k → k ≤ 10 → ar .add .i64 (pos : Int) k = pos + k := fun k _ _ => by rw [ar_add, w_i64 (by omega) (by omega)]
      cases nar with
      | true =>
        rw [hw] at st
        simp only [if_true, I_elem_walker_next] at st
        have hnx : elem_low_next ⟨⟩ data (pos : Int) = some (⟨x / 16, pos + 1, x % 16 + 1⟩, (cm .neq (x / 16) 0) && (cm .neq (x / 16) 15)) := by
          unfold elem_low_next
          rw [bnd hix, bnd hix, shr4 hxb.1 hxb.2, and15' hxb.1 hxb.2, ep 1 (by omega) (by omega), ar_add, w_i64 (by omega) (by omega)]
        rw [bnd hnx] at st
        have e : spotsG true (n + 1) pos (x :: r) out = if x / 16 = 0 ∨ x / 16 = 15 then (out, 0) else if r.length < (x % 16 + 1).toNat then ([], 4) else if dupS out (x / 16) then ([], 6) else spotsG true n (pos + 1 + (x % 16 + 1).toNat) (r.drop (x % 16 + 1).toNat) (out ++ [⟨x / 16, pos + 1, x % 16 + 1⟩]) := by
          cases r <;> simp [spotsG, h0]
        rw [e]
        simp only [] at st
        by_cases h1 : x / 16 = 0 ∨ x / 16 = 15
        · rw [if_pos h1]
          refine stop _ ?_
          rw [st, if_pos (by rw [cm_neq, cm_neq]; rcases h1 with h1 | h1 <;> simp [h1])]
          rfl
        · rw [if_neg h1]
          rw [if_neg (by rw [cm_neq, cm_neq]; simp; omega)] at st
          by_cases h2 : r.length < (x % 16 + 1).toNat
          · rw [if_pos h2]
            refine stop _ ?_
            rw [st, if_pos (by rw [cm_gtr, cm_gtr, ar_sub, w_i64 (by omega) (by omega)]; simp; omega)]
            rfl
          · rw [if_neg h2]
            rw [if_neg (by rw [cm_gtr, cm_gtr, ar_sub, w_i64 (by omega) (by omega)]; simp; omega), bnd (hdup _)] at st
            by_cases h3 : dupS out (x / 16) = true
            · rw [if_pos h3]
              refine stop _ ?_
              rw [st, if_pos h3]; rfl
            · rw [if_neg h3]
              rw [if_neg h3, bnd (app_some (by simp; omega)), ar_add, w_i64 (by omega) (by omega)] at st
              refine next _ _ _ (by rw [st]; congr 3; omega) (by rw [List.length_drop]; omega) ?_ (by omega) (by rw [List.length_drop, List.length_append]; simp; omega)
              rw [← hr, List.drop_drop]
      | false =>
        rw [hw] at st
        simp only [Bool.false_eq_true, if_false, I_elem_walker_next] at st
        cases r with
        | nil =>
          have hnx : elem_high_next ⟨⟩ data (pos : Int) = some (⟨x, pos + 2, 256⟩, true) := by
            unfold elem_high_next elem_high_next_j1
            rw [bnd hix, ep 1 (by omega) (by omega), if_neg (by rw [cm_lss]; simp at hrl; simp; omega), w_i64 (by omega) (by omega), ep 2 (by omega) (by omega)]
          rw [bnd hnx] at st
          have e : spotsG false (n + 1) pos [x] out = ([], 4) := by simp [spotsG, h0]
          rw [e]
          refine stop _ ?_
          simp only [List.length_nil] at hrl
          simp only [Bool.not_true] at st
          rw [st, if_neg (by decide), if_pos (by rw [cm_gtr]; simp; left; omega)]
          rfl
        | cons s r' =>
          obtain ⟨hpl2, hx2, hr2⟩ := drop_cons hr
          have hsb := hb s (by rw [← hx2]; exact List.getElem_mem hpl2)
          have hix2 : ix data ((pos + 1 : Nat) : Int) = some s := by rw [ix_some (n := pos + 1) rfl hpl2, hx2]
          simp only [List.length_cons] at hrl hn hol
          have hnx : elem_high_next ⟨⟩ data (pos : Int) = some (⟨x, pos + 2, s⟩, true) := by
            unfold elem_high_next elem_high_next_j1
            have e1 : ((pos : Int) + 1) = ((pos + 1 : Nat) : Int) := by omega
            rw [bnd hix, ep 1 (by omega) (by omega), if_pos (by rw [cm_lss]; simp; omega), e1, bnd hix2, w_i64 (by omega) (by omega), ep 2 (by omega) (by omega), w_i64 (by omega) (by omega)]
          rw [bnd hnx] at st
          have e : spotsG false (n + 1) pos (x :: s :: r') out = if r'.length < s.toNat then ([], 4) else if dupS out x then ([], 6) else spotsG false n (pos + 2 + s.toNat) (r'.drop s.toNat) (out ++ [⟨x, pos + 2, s⟩]) := by
            simp [spotsG, h0]
          rw [e]
          simp only [Bool.not_true] at st
          rw [if_neg (by decide)] at st
          by_cases h2 : r'.length < s.toNat
          · rw [if_pos h2]
            refine stop _ ?_
            rw [st, if_pos (by rw [cm_gtr, cm_gtr, ar_sub, w_i64 (by omega) (by omega)]; simp; omega)]
            rfl
          · rw [if_neg h2]
            rw [if_neg (by rw [cm_gtr, cm_gtr, ar_sub, w_i64 (by omega) (by omega)]; simp; omega), bnd (hdup _)] at st
            by_cases h3 : dupS out x = true
            · rw [if_pos h3]
              refine stop _ ?_
              rw [st, if_pos h3]; rfl
            · rw [if_neg h3]
              rw [if_neg h3, bnd (app_some (by simp; omega)), ar_add, w_i64 (by omega) (by omega)] at st
              refine next _ _ _ (by rw [st]; congr 3; omega) (by rw [List.length_drop]; omega) ?_ (by omega) (by rw [List.length_drop, List.length_append]; simp; omega)
              rw [← hr2, List.drop_drop]

theorem espots_eq {p : Int} {data : List Int} (h0 : 0 ≤ p) (h1 : p ≤ 65535) (hb : oct data) (hl : data.length ≤ 100000) : elem_Spots none p data = some (spotsS p data) := by
  unfold elem_Spots spotsS profOf
  by_cases hn : p = 48862
  · subst hn
    rw [walk_nar, if_neg (by decide), if_pos rfl]
    exact spots_loop (nar := true) walk_nar hb (by omega) (data.length + 1) 0 data [] (by omega) rfl (by omega) (by simp; omega)
  · rw [if_neg hn]
    by_cases hw : p / 16 = 256
    · rw [walk_wide h0 h1 hw, if_neg (by decide), if_pos hw]
      exact spots_loop (nar := false) (walk_wide h0 h1 hw) hb (by omega) (data.length + 1) 0 data [] (by omega) rfl (by omega) (by simp; omega)
    · rw [walk_none h0 h1 hn hw, if_pos (by decide), if_neg hw]
end Xb
