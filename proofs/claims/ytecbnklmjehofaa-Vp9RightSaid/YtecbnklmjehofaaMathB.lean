/- Own text: MathB. -/
import Derived.Test.YtecbnklmjehofaaMathA
set_option linter.all false
set_option linter.unusedVariables false
set_option linter.unusedSimpArgs false
set_option linter.unnecessarySimpa false
set_option linter.deprecated false
namespace Xb
open Go

/-- what is read at last -/
def endE (B : List Int) (x : Vp9 × RS) : Vp9 × Int × Int :=
  match x.2 with
  | .ok R => (x.1, (8 * (B.length : Int) - R.length) / 8, 0)
  | .error e => (zD, 0, e)
theorem rdV_end (b : List Int) : rdV b = endE b (thrS (.ok (bitsOf b))) := by
  unfold rdV endE
  cases thrS (.ok (bitsOf b)) with
  | mk d s => cases s <;> rfl
theorem endE_eq {B : List Int} {x x' : Vp9 × RS} (h : x.2 = x'.2) (h2 : ∀ R, x.2 = .ok R → x.1 = x'.1) : endE B x = endE B x' := by
  obtain ⟨a, s⟩ := x; obtain ⟨a', s'⟩ := x'
  simp only at h h2
  subst h
  cases s with
  | ok R => rw [h2 R rfl]
  | error e => rfl
theorem j4E {B : List Int} {y : crossbarref24_Eye} {x : Vp9 × RS} {v : Vp9} (h : TellE B v y x) : ref24_Read_j4 none v y = some (endE B x) := by
  obtain ⟨h1, h2⟩ := h
  obtain ⟨d, s⟩ := x
  unfold ref24_Read_j4 endE
  cases s with
  | ok R =>
    obtain ⟨g1, g2, g3, g4, g5⟩ := h1
    rw [if_neg (by rw [cm_neq, g2]; decide), h2 R rfl]
    have hl : R.length = 8 * B.length - 8 * y.at_.toNat := by rw [g5, List.length_drop, bitsOf_len]
    simp only
    congr 3; omega
  | error e =>
    obtain ⟨g1, g2, g3⟩ := h1
    rw [if_pos (by rw [cm_neq, g2]; simpa using g3), g2]; rfl
def t3 (v : Vp9) : RD Vp9 := bdR (opt v.hasScale scaleB zSc) (fun c => pr ({ v with scale := c } : Vp9))
theorem t3_err (v : Vp9) : ErrP (t3 v) := .bd (.opt .scaleB) fun _ => .pr _
theorem j3E {B : List Int} (hB : By B) {y : crossbarref24_Eye} {s : RS} {v : Vp9} (hv : v.scale = zSc) (h : RepE B y s) :
    ref24_Read_j3 none v y = some (endE B (t3 v s)) := by
  unfold ref24_Read_j3
  by_cases hh : v.hasScale = true
  · obtain ⟨a, y', a1, b1, c1⟩ := scaleE hB h
    have e : t3 v s = ({ v with scale := (scaleB s).1 }, (scaleB s).2) := by unfold t3; rw [hh]; rfl
    rw [if_pos hh, bnd a1, e]
    refine j4E ⟨b1, fun R hR => ?_⟩
    show ({ v with scale := a } : Vp9) = { v with scale := (scaleB s).1 }
    rw [c1 R hR]
  · have e : t3 v s = (v, s) := by
      simp only [Bool.not_eq_true] at hh
      have : v = { v with scale := zSc } := by rw [← hv]
      unfold t3; rw [hh]
      show (({ v with hasScale := false, scale := zSc } : Vp9), s) = _
      rw [← hv, ← hh]
    rw [if_neg hh, e]
    exact j4E ⟨h, fun R hR => rfl⟩
theorem endE_err {B : List Int} {x : Vp9 × RS} {e : Int} (h : x.2 = .error e) : endE B x = (zD, 0, e) := by
  obtain ⟨a, s⟩ := x
  simp only at h
  subst h; rfl
theorem l5E {B : List Int} (hB : By B) {v : Vp9} (hv : v.scale = zSc) : ∀ (j : Nat) (out : List Int) (y : crossbarref24_Eye) (s : RS), out.length + j = 3 → 1 ≤ j → RepE B y s →
    ref24_Read_l5 none { v with refs := out } y = some (endE B (bdR (refsS j) (fun l => t3 { v with refs := out ++ l }) s))
  | 0, _, _, _, _, h1, _ => absurd h1 (by decide)
  | j + 1, out, y, s, hj, _, hrep => by
    obtain ⟨y1, a1, b1⟩ := byteE hB hrep
    have d1 := gN8_bd hrep
    unfold ref24_Read_l5
    have stop : ∀ {r}, ref24_Read_s5 none { v with refs := out } y = some (.inr r) → loopG none (fun (s : Vp9 × crossbarref24_Eye) => ref24_Read_s5 none s.1 s.2) ({ v with refs := out }, y) = some r := fun h => loop_inr h
    cases hs1 : (gN 8 s).2 with
    | error e =>
      rw [hs1] at b1
      refine stop ?_
      unfold ref24_Read_s5
      rw [bnd a1]
      simp only
      rw [if_pos (by rw [cm_neq, b1.st.1]; simpa using b1.st.2), j3E hB (v := { v with refs := out }) hv b1]
      show some (Sum.inr (endE B _)) = _
      congr 2
      have e1 : (refsS (j + 1) s).2 = .error e := by
        cases s with
        | error x =>
          have : (Except.error x : RS) = .error e := hs1
          rw [this]; rfl
        | ok R =>
          obtain ⟨q1, _⟩ := gN_split 7 1 (.ok R)
          change (gN 1 (gN 7 (.ok R)).2).2 = (gN 8 (.ok R)).2 at q1
          rw [hs1] at q1
          have ht : (tS (gN 7 (.ok R)).2).2 = .error e := q1
          unfold refsS
          simp only
          rw [ht]
          have hb : ∀ P [Decidable P], (if P then badS (.error e) else (.error e : RS)) = .error e := fun P _ => by split <;> rfl
          rw [hb]
          split
          · exact ErrP.refs j e
          · rfl
      rw [endE_err (e := e) (t3_err _ e), endE_err (e := e)]
      show (t3 _ (refsS (j + 1) s).2).2 = _
      rw [e1]; exact t3_err _ e
    | ok S =>
      rw [hs1] at b1
      cases s with
      | error x => exact absurd hs1 (by intro h; cases h)
      | ok R =>
      obtain ⟨q1, q2⟩ := gN_split 7 1 (.ok R)
      change (gN 1 (gN 7 (.ok R)).2).2 = (gN 8 (.ok R)).2 at q1
      change ∀ R', (gN 8 (.ok R)).2 = .ok R' → (gN 8 (.ok R)).1 = (gN 7 (.ok R)).1 * 2 ^ 1 + (gN 1 (gN 7 (.ok R)).2).1 at q2
      have hv1 := q2 S hs1
      have b7 := gN_bdS hrep.binS 7
      have b17 := gN_bdS (hrep.binS.gN 7) 1
      have ht : (tS (gN 7 (.ok R)).2) = (decide ((gN 1 (gN 7 (.ok R)).2).1 = 1), .ok S) := by
        show (decide ((gN 1 (gN 7 (.ok R)).2).1 = 1), (gN 1 (gN 7 (.ok R)).2).2) = _
        rw [q1, hs1]
      have hrf : refsS (j + 1) (.ok R) = gR j (gN 7 (.ok R)).1 (decide ((gN 1 (gN 7 (.ok R)).2).1 = 1)) (.ok S) := by
        show gR j (gN 7 (.ok R)).1 (tS (gN 7 (.ok R)).2).1 (tS (gN 7 (.ok R)).2).2 = _
        rw [ht]
      generalize hm : (gN 8 (.ok R)).1 = m at *
      generalize (gN 7 (.ok R)).1 = a at *
      generalize (gN 1 (gN 7 (.ok R)).2).1 = t at *
      have b72 : a < 128 := b7.2
      have b171 : t < 2 := b17.2
      have hma : m / 2 = a := by omega
      have hmt : m % 2 = t := by omega
      have tgt : (bdR (refsS (j + 1)) (fun l => t3 { v with refs := out ++ l }) (.ok R)) = t3 { v with refs := out ++ (gR j a (decide (t = 1)) (.ok S)).1 } (gR j a (decide (t = 1)) (.ok S)).2 := by
        show t3 { v with refs := out ++ (refsS (j + 1) (.ok R)).1 } (refsS (j + 1) (.ok R)).2 = _
        rw [hrf]
      rw [tgt]
      have base : ref24_Read_s5 none { v with refs := out } y = ref24_Read_j6 none { v with refs := out } (m, y1) (out ++ [a]) (if a = 0 ∨ (decide (t = 1) = true ∧ j = 0) then { y1 with e := 6 } else y1) := by
        unfold ref24_Read_s5
        rw [bnd a1]
        simp only
        rw [if_neg (by rw [cm_neq, b1.st.1]; decide), dq d1.1 (by omega) 2 (by decide), dr d1.1, bnd (app_some (by simp; omega)), hma, hmt]
        have hcond : ((cm .eql a 0) || ((cm .eql t 1) && (cm .eql ((out ++ [a]).length : Int) 3))) = decide (a = 0 ∨ (decide (t = 1) = true ∧ j = 0)) := by
          rw [cm_eql, cm_eql, cm_eql]
          have : (((out ++ [a]).length : Int) = 3) ↔ j = 0 := by simp; omega
          rw [Bool.eq_iff_iff]
          simp only [Bool.or_eq_true, Bool.and_eq_true, decide_eq_true_eq]
          rw [this]
        rw [hcond]
        by_cases hc : a = 0 ∨ (decide (t = 1) = true ∧ j = 0)
        · rw [if_pos (decide_eq_true hc), if_pos hc]
        · rw [if_neg (by simpa using hc), if_neg hc]
      have hrep2 : RepE B (if a = 0 ∨ (decide (t = 1) = true ∧ j = 0) then { y1 with e := 6 } else y1) (if a = 0 ∨ (decide (t = 1) = true ∧ j = 0) then badS (.ok S) else .ok S) := by
        split
        · exact ⟨b1.by_, rfl, by decide⟩
        · exact b1
      generalize hy2 : (if a = 0 ∨ (decide (t = 1) = true ∧ j = 0) then { y1 with e := 6 } else y1) = y2 at *
      unfold gR
      generalize hs2 : (if a = 0 ∨ (decide (t = 1) = true ∧ j = 0) then badS (.ok S) else (.ok S : RS)) = s2 at *
      have hmt2 : dv .rem .i64 m 2 = t := by rw [dr d1.1, hmt]
      by_cases ht1 : t = 1
      · rw [if_pos (decide_eq_true ht1)]
        cases s2 with
        | error e =>
          have hend : endE B (t3 { v with refs := out ++ (a :: (refsS j (.error e)).1) } (refsS j (.error e)).2) = (zD, 0, e) := endE_err (by rw [ErrP.refs]; exact t3_err _ e)
          rw [hend]
          refine stop ?_
          rw [base]
          unfold ref24_Read_j6
          rw [hmt2, if_pos (by rw [cm_neq, hrep2.st.1]; simp [hrep2.st.2]), j3E hB (v := { v with refs := out ++ [a] }) hv hrep2, endE_err (e := e) (t3_err _ e)]; rfl
        | ok S2 =>
          have hc : ¬ (a = 0 ∨ (decide (t = 1) = true ∧ j = 0)) := fun h => by
            rw [if_pos h] at hs2; cases hs2
          have hj1 : 1 ≤ j := by
            rcases Nat.eq_zero_or_pos j with h | h
            · exact absurd (.inr ⟨decide_eq_true ht1, h⟩) hc
            · exact h
          have st : ref24_Read_s5 none { v with refs := out } y = some (.inl ({ v with refs := out ++ [a] }, y2)) := by
            rw [base]
            unfold ref24_Read_j6
            rw [hmt2, if_neg (by rw [cm_neq, hrep2.st.1, cm_eql]; simp; omega)]
          have ih := l5E hB hv j (out ++ [a]) y2 (.ok S2) (by simp; omega) hj1 hrep2
          unfold ref24_Read_l5 at ih
          rw [loop_inl (s' := ({ v with refs := out ++ [a] }, y2)) st, ih]
          have e9 : ∀ l : List Int, out ++ [a] ++ l = out ++ a :: l := fun l => by simp
          simp only [bdR, e9]
      · rw [if_neg (by simpa using ht1)]
        refine stop ?_
        rw [base]
        unfold ref24_Read_j6
        rw [hmt2, if_pos (by rw [cm_eql]; simp; left; omega), j3E hB (v := { v with refs := out ++ [a] }) hv hrep2]; rfl
theorem j2E {B : List Int} (hB : By B) {y : crossbarref24_Eye} {s : RS} {v : Vp9} (hv : v.scale = zSc) (hf : v.refs = []) (h : RepE B y s) :
    ref24_Read_j2 none v y = some (endE B (bdR (opt (v.flexible && v.inter) (refsS 3) []) (fun l => t3 { v with refs := l }) s)) := by
  unfold ref24_Read_j2
  cases hh : (v.flexible && v.inter) with
  | true =>
    rw [if_pos rfl]
    have := l5E hB hv 3 [] y s rfl (by decide) h
    have e : ({ v with refs := [] } : Vp9) = v := by rw [← hf]
    rw [e] at this
    exact this
  | false =>
    rw [if_neg (by decide), j3E hB hv h]
    show some (endE B (t3 v s)) = some (endE B (t3 { v with refs := [] } s))
    rw [← hf]
def vB (h : H8) (p : Bool × Int) (y : Int × Bool × Int × Bool × Int) : Vp9 := ⟨h.1, p.1, p.2, h.2.1, h.2.2.1, y.1, y.2.2.1, y.2.1, y.2.2.2.1, h.2.2.2.1, y.2.2.2.2, [], h.2.2.2.2.1, h.2.2.2.2.2.1, h.2.2.2.2.2.2.1, zSc, h.2.2.2.2.2.2.2⟩
theorem j2E' {B : List Int} (hB : By B) {y : crossbarref24_Eye} {s : RS} (h : H8) (p : Bool × Int) (q : Int × Bool × Int × Bool × Int) (hr : RepE B y s) :
    ref24_Read_j2 none (vB h p q) y = some (endE B (tailB h p q s)) := j2E hB rfl rfl hr
theorem j1E {B : List Int} (hB : By B) {y : crossbarref24_Eye} {s : RS} (h : H8) (p : Bool × Int) (hr : RepE B y s) :
    ref24_Read_j1 none (vB h p (0, false, 0, false, 0)) y = some (endE B (bdR (opt h.2.2.1 (layB h.2.2.2.1) (0, false, 0, false, 0)) (fun q => tailB h p q) s)) := by
  unfold ref24_Read_j1
  show (if h.2.2.1 = true then _ else _) = _
  cases hh : h.2.2.1 with
  | false =>
    rw [if_neg (by decide)]
    exact j2E' hB h p _ hr
  | true =>
    obtain ⟨y1, a1, b1⟩ := byteE hB hr
    have d1 := gN8_bd hr
    rw [if_pos rfl, bnd a1]
    simp only
    rw [dq d1.1 (by omega) 32 (by decide), dq d1.1 (by omega) 16 (by decide), dq d1.1 (by omega) 2 (by decide), dr (by omega), dr (by omega), dr (by omega), cm_eql, cm_eql]
    show (if (!h.2.2.2.1) = true then _ else _) = _
    cases hf : h.2.2.2.1 with
    | true =>
      rw [if_neg (by decide)]
      exact j2E' hB h p ((gN 8 s).1 / 32, o1 ((gN 8 s).1 / 16 % 2), (gN 8 s).1 / 2 % 8, o1 ((gN 8 s).1 % 2), 0) b1
    | false =>
      obtain ⟨y2, a2, b2⟩ := byteE hB b1
      rw [if_pos (by decide), bnd a2]
      exact j2E' hB h p ((gN 8 s).1 / 32, o1 ((gN 8 s).1 / 16 % 2), (gN 8 s).1 / 2 % 8, o1 ((gN 8 s).1 % 2), (gN 8 (gN 8 s).2).1) b2
theorem rread_eq {b : List Int} (hb : By b) : ref24_Read none b = some (rdV b) := by
  have hl := hb.len
  have hr0 : RepE b ⟨b, 0, 0⟩ (.ok (bitsOf b)) := ⟨rfl, rfl, Int.le_refl _, by show (0 : Int) ≤ (b.length : Int); omega, rfl⟩
  have hbin : binS (.ok (bitsOf b)) := hr0.binS
  have e0 : rdV b = endE b (thrB (.ok (bitsOf b))) := by
    rw [rdV_end]
    obtain ⟨h1, h2⟩ := EqR.thr _ hbin
    exact endE_eq h1 fun R e => (h2 R e).1
  rw [e0]
  unfold ref24_Read
  obtain ⟨y1, a1, b1⟩ := byteE hb hr0
  have d1 := gN8_bd hr0
  rw [bnd a1]
  simp only
  rw [dq d1.1 (by omega) 128 (by decide), dq d1.1 (by omega) 64 (by decide), dq d1.1 (by omega) 32 (by decide), dq d1.1 (by omega) 16 (by decide), dq d1.1 (by omega) 8 (by decide), dq d1.1 (by omega) 4 (by decide), dq d1.1 (by omega) 2 (by decide)]
  rw [dr (by omega), dr (by omega), dr (by omega), dr (by omega), dr (by omega), dr (by omega), dr (by omega)]
  simp only [cm_eql]
  generalize hm : (gN 8 (.ok (bitsOf b))).1 = m at *
  generalize hs1 : (gN 8 (.ok (bitsOf b))).2 = s1 at *
  have hhdr : hdrB (.ok (bitsOf b)) = ((o1 (m / 128), o1 (m / 64 % 2), o1 (m / 32 % 2), o1 (m / 16 % 2), o1 (m / 8 % 2), o1 (m / 4 % 2), o1 (m / 2 % 2), o1 (m % 2)), s1) := by
    unfold hdrB; simp only [bdR, pr]; rw [hm, hs1]
  have hthr : thrB (.ok (bitsOf b)) = bdR (opt (o1 (m / 128)) hdB (false, 0)) (fun p => bdR (opt (o1 (m / 32 % 2)) (layB (o1 (m / 16 % 2))) (0, false, 0, false, 0)) fun y => tailB (o1 (m / 128), o1 (m / 64 % 2), o1 (m / 32 % 2), o1 (m / 16 % 2), o1 (m / 8 % 2), o1 (m / 4 % 2), o1 (m / 2 % 2), o1 (m % 2)) p y) s1 := by
    unfold thrB
    have ap : ∀ (g : H8 → RD Vp9) (s : RS), bdR hdrB g s = g (hdrB s).1 (hdrB s).2 := fun _ _ => rfl
    rw [ap, hhdr]
  rw [hthr]
  generalize hH : ((o1 (m / 128), o1 (m / 64 % 2), o1 (m / 32 % 2), o1 (m / 16 % 2), o1 (m / 8 % 2), o1 (m / 4 % 2), o1 (m / 2 % 2), o1 (m % 2)) : H8) = H at *
  have hv : ∀ (w : Bool) (p : Int), (⟨decide (m / 128 = 1), w, p, decide (m / 64 % 2 = 1), decide (m / 32 % 2 = 1), 0, 0, false, false, decide (m / 16 % 2 = 1), 0, [], decide (m / 8 % 2 = 1), decide (m / 4 % 2 = 1), decide (m / 2 % 2 = 1), ⟨0, false, [], false, []⟩, decide (m % 2 = 1)⟩ : Vp9) = vB H (w, p) (0, false, 0, false, 0) := fun w p => by rw [← hH]; rfl
  have e3 : o1 (m / 32 % 2) = H.2.2.1 := by rw [← hH]
  have e4 : o1 (m / 16 % 2) = H.2.2.2.1 := by rw [← hH]
  rw [e3, e4]
  cases hp : decide (m / 128 = 1) with
  | true =>
    rw [hp] at hv
    have hp' : o1 (m / 128) = true := hp
    obtain ⟨y2, a2, b2⟩ := byteE hb b1
    have d2 := gN8_bd b1
    rw [if_pos rfl, bnd a2, hp']
    simp only
    show _ = some (endE b ((fun p => bdR (opt H.2.2.1 (layB H.2.2.2.1) (0, false, 0, false, 0)) fun y => tailB H p y) (hdC (gN 8 s1).1 (gN 8 s1).2).1 (hdC (gN 8 s1).1 (gN 8 s1).2).2))
    unfold hdC
    by_cases hw : 128 ≤ (gN 8 s1).1
    · obtain ⟨y3, a3, b3⟩ := byteE hb b2
      have d3 := gN8_bd b2
      rw [if_pos (by rw [cm_geq]; simpa using hw), bnd a3, if_pos hw]
      have e5 : ar .add .i64 (ar .mul .i64 256 (ar .sub .i64 (gN 8 s1).1 128)) (gN 8 (gN 8 s1).2).1 = 256 * ((gN 8 s1).1 - 128) + (gN 8 (gN 8 s1).2).1 := by
        rw [ar_sub, w_i64 (by omega) (by omega), ar_mul, w_i64 (by omega) (by omega), ar_add, w_i64 (by omega) (by omega)]
      rw [e5, hv]
      exact j1E hb H _ b3
    · rw [if_neg (by rw [cm_geq]; simpa using hw), if_neg hw, hv]
      exact j1E hb H _ b2
  | false =>
    rw [hp] at hv
    have hp' : o1 (m / 128) = false := hp
    rw [if_neg (by decide), hp', hv]
    exact j1E hb H _ b1
end Xb

namespace Xb
open Go

theorem ix_atG {α : Type} {A B : List α} {x : α} {i : Int} (h : i = A.length) : ix (A ++ x :: B) i = some x := by
  rw [ix_some (n := A.length) h (by simp)]; simp
theorem app_loop {α ρ : Type} {l : List α} {W : α → List α → List Int} {F : List α → List Int} (F0 : F [] = []) (F1 : ∀ a r, F (a :: r) = W a r ++ F r)
    {step : List Int × Int → Option ((List Int × Int) ⊕ ρ)} {N : Nat} (h : ∀ done a r acc, l = done ++ a :: r → acc.length + (W a r).length ≤ N → step (acc, (done.length : Int)) = some (.inl (acc ++ W a r, ((done.length + 1 : Nat) : Int)))) :
    ∀ (rest done : List α) (acc : List Int), l = done ++ rest → acc.length + (F rest).length ≤ N → loopG none step (acc, (done.length : Int)) = loopG none step (acc ++ F rest, (l.length : Int))
  | [], done, acc, hl, hN => by
    have : done = l := by rw [hl]; simp
    rw [F0, List.append_nil, this]
  | a :: rest, done, acc, hl, hN => by
    rw [F1, List.length_append] at hN
    rw [loop_inl (h done a rest acc hl (by omega))]
    have ih := app_loop F0 F1 h rest (done ++ [a]) (acc ++ W a rest) (by rw [hl]; simp) (by rw [List.length_append]; omega)
    rw [List.length_append, List.length_singleton] at ih
    rw [ih, F1, List.append_assoc]
theorem put_eq (b : Bool) (n : Int) : ref24_put b n = if b then n else 0 := by unfold ref24_put; cases b <;> rfl
def refBy : List Int → List Int
  | [] => []
  | a :: r => [2 * a + (if (!r.isEmpty) then 1 else 0)] ++ refBy r
def sizeBy (z : Size) : List Int := [z.wide / 256, z.wide % 256, z.high / 256, z.high % 256]
def picBy (g : Group) : List Int := [32 * g.tid + (if g.up then 16 else 0) + 4 * g.refs.length] ++ g.refs
def scaleBy (s : Scale) : List Int := [32 * (s.layers - 1) + (if s.hasSizes then 16 else 0) + (if s.hasPics then 8 else 0)] ++ (s.sizes.flatMap sizeBy ++ ((if s.hasPics then [(s.pics.length : Int)] else []) ++ s.pics.flatMap picBy))
def wrB (d : Vp9) : List Int := headD d ++ (refBy d.refs ++ (if d.hasScale then scaleBy d.scale else []))
theorem it01 (b : Bool) : (0 : Int) ≤ (if b then 1 else 0) ∧ (if b then 1 else 0 : Int) ≤ 1 := by cases b <;> decide
theorem it16 (b : Bool) : (if b then 16 else 0 : Int) = 16 * (if b then 1 else 0) := by cases b <;> rfl
theorem it8 (b : Bool) : (if b then 8 else 0 : Int) = 8 * (if b then 1 else 0) := by cases b <;> rfl
theorem refBy_bits : ∀ {l : List Int}, (∀ n, n ∈ l → 1 ≤ n ∧ n ≤ 127) → bitsOf (refBy l) = refsW l
  | [], _ => rfl
  | a :: r, h => by
    have ha := h a (by simp)
    rw [refBy, bitsOf_app, bits1, refBy_bits (fun n hn => h n (by simp [hn])), refsW, ← List.append_assoc]
    congr 1
    have q := it01 (!r.isEmpty)
    unfold wb
    generalize (if (!r.isEmpty) = true then 1 else 0 : Int) = u at *
    rw [show nb 8 (2 * a + u) = nb (7 + 1) (2 * a + u) from rfl, nb_split]
    rw [nb_mod 7 ((2 * a + u) / 2 ^ 1) a (by omega), nb_mod 1 (2 * a + u) u (by omega)]
theorem nb16 (v : Int) : nb 8 (v / 256) ++ nb 8 (v % 256) = nb 16 v := by
  rw [show nb 16 v = nb (8 + 8) v from rfl, nb_split]
  rw [nb_mod 8 (v % 256) v (by omega)]; rfl
theorem sizeBy_bits (z : Size) : bitsOf (sizeBy z) = sizeW z := by
  rw [sizeBy, bitsOf_cons, bitsOf_cons, bits2, ← List.append_assoc, nb16, nb16]; rfl
theorem flat_bits {α : Type} {f g : α → List Int} : ∀ {l : List α}, (∀ a, a ∈ l → bitsOf (f a) = g a) → bitsOf (l.flatMap f) = l.flatMap g
  | [], _ => rfl
  | a :: l, h => by rw [List.flatMap_cons, List.flatMap_cons, bitsOf_app, h a (by simp), flat_bits fun x hx => h x (by simp [hx])]
theorem bits_map : ∀ l : List Int, bitsOf l = l.flatMap (nb 8)
  | [] => rfl
  | a :: l => by rw [bitsOf_cons, bits_map l]; rfl
theorem picBy_bits {g : Group} (h : RightG g) : bitsOf (picBy g) = picW g := by
  obtain ⟨a, b, c⟩ := h
  rw [picBy, bitsOf_app, bits1, bits_map g.refs, picW]
  have s1 : ∀ v : Int, nb 8 v = nb 3 (v / 2 ^ 5) ++ (nb 1 (v / 2 ^ 4) ++ (nb 2 (v / 2 ^ 2) ++ nb 2 v)) := fun v => by
    rw [show nb 8 v = nb (3 + 5) v from rfl, nb_split, show nb 5 v = nb (1 + 4) v from rfl, nb_split, show nb 4 v = nb (2 + 2) v from rfl, nb_split]
  rw [s1, it16]
  have q := it01 g.up
  unfold wb
  generalize (if g.up = true then 1 else 0 : Int) = u at *
  generalize (g.refs.length) = k at *
  rw [nb_mod 3 ((32 * g.tid + 16 * u + 4 * k) / 2 ^ 5) g.tid (by omega), nb_mod 1 ((32 * g.tid + 16 * u + 4 * k) / 2 ^ 4) u (by omega),
    nb_mod 2 ((32 * g.tid + 16 * u + 4 * k) / 2 ^ 2) k (by omega), nb_mod 2 (32 * g.tid + 16 * u + 4 * k) 0 (by omega)]
  simp only [List.append_assoc]
theorem scaleBy_bits {s : Scale} (h : RightS s) : bitsOf (scaleBy s) = scaleW s := by
  obtain ⟨a, b, c, d, e⟩ := h
  have h1 : bitsOf (s.sizes.flatMap sizeBy) = optW s.hasSizes (s.sizes.flatMap sizeW) := by
    rw [flat_bits (g := sizeW) fun x _ => sizeBy_bits x]
    cases hh : s.hasSizes with
    | true => rfl
    | false =>
      rw [hh] at b
      have : s.sizes = [] := List.length_eq_zero_iff.1 (by simpa using b)
      rw [this]; rfl
  have h2 : bitsOf ((if s.hasPics then [(s.pics.length : Int)] else []) ++ s.pics.flatMap picBy) = optW s.hasPics (nb 8 s.pics.length ++ s.pics.flatMap picW) := by
    rw [bitsOf_app, flat_bits (g := picW) fun x hx => picBy_bits (e x hx)]
    cases hh : s.hasPics with
    | true => rw [if_pos rfl, bits1]; rfl
    | false =>
      rw [hh] at c
      have : s.pics = [] := List.length_eq_zero_iff.1 (by simp at c; simpa using c)
      rw [this]; rfl
  rw [scaleBy, bitsOf_app, bitsOf_app, h1, h2, bits1, scaleW]
  have s1 : ∀ v : Int, nb 8 v = nb 3 (v / 2 ^ 5) ++ (nb 1 (v / 2 ^ 4) ++ (nb 1 (v / 2 ^ 3) ++ nb 3 v)) := fun v => by
    rw [show nb 8 v = nb (3 + 5) v from rfl, nb_split, show nb 5 v = nb (1 + 4) v from rfl, nb_split, show nb 4 v = nb (1 + 3) v from rfl, nb_split]
  rw [s1, it16, it8]
  have q := it01 s.hasSizes
  have q2 := it01 s.hasPics
  unfold wb
  generalize (if s.hasSizes = true then 1 else 0 : Int) = u at *
  generalize (if s.hasPics = true then 1 else 0 : Int) = w at *
  rw [nb_mod 3 ((32 * (s.layers - 1) + 16 * u + 8 * w) / 2 ^ 5) (s.layers - 1) (by omega), nb_mod 1 ((32 * (s.layers - 1) + 16 * u + 8 * w) / 2 ^ 4) u (by omega),
    nb_mod 1 ((32 * (s.layers - 1) + 16 * u + 8 * w) / 2 ^ 3) w (by omega), nb_mod 3 (32 * (s.layers - 1) + 16 * u + 8 * w) 0 (by omega)]
  simp only [List.append_assoc]
theorem wrB_bits {d : Vp9} (h : RightD d) : bitsOf (wrB d) = thrW d := by
  obtain ⟨a, b, c, e, f⟩ := h
  rw [wrB, bitsOf_app, bitsOf_app, headD_bits a c]
  have h1 : bitsOf (refBy d.refs) = optW (d.flexible && d.inter) (refsW d.refs) := by
    unfold RefD at e
    cases hh : (d.flexible && d.inter) with
    | true => rw [hh] at e; exact refBy_bits e.2
    | false => rw [hh] at e; simp only [Bool.false_eq_true, if_false] at e; rw [e]; rfl
  have h2 : bitsOf (if d.hasScale then scaleBy d.scale else []) = optW d.hasScale (scaleW d.scale) := by
    unfold ScD at f
    cases hh : d.hasScale with
    | true => rw [hh] at f; exact scaleBy_bits f
    | false => rfl
  rw [h1, h2, thrW, tailW, h8]
  simp only [List.append_assoc]
  rfl
theorem wrB_u8 {d : Vp9} (h : RightD d) : U8 (wrB d) := by
  obtain ⟨a, b, c, e, f⟩ := h
  refine (headD_u8 a c).app (U8.app ?_ ?_)
  · unfold RefD at e
    have key : ∀ l : List Int, (∀ n, n ∈ l → 1 ≤ n ∧ n ≤ 127) → U8 (refBy l) := fun l => by
      induction l with
      | nil => exact fun _ x hx => absurd hx List.not_mem_nil
      | cons x r ih =>
        intro hx
        refine U8.app (fun y hy => ?_) (ih fun n hn => hx n (by simp [hn]))
        rw [List.mem_singleton] at hy
        have := hx x (by simp)
        have q := it01 (!r.isEmpty)
        rw [hy]
        generalize (if (!r.isEmpty) = true then 1 else 0 : Int) = u at *
        omega
    split at e
    · exact key _ e.2
    · rw [e]; exact fun x hx => absurd hx List.not_mem_nil
  · unfold ScD at f
    split
    · rename_i hh
      rw [if_pos hh] at f
      obtain ⟨a, b, c, d', e'⟩ := f
      have q := it01 d.scale.hasSizes
      have q2 := it01 d.scale.hasPics
      refine U8.app (fun y hy => ?_) (U8.app (fun y hy => ?_) (U8.app (fun y hy => ?_) fun y hy => ?_))
      · rw [List.mem_singleton, it16, it8] at hy
        generalize (if d.scale.hasSizes = true then 1 else 0 : Int) = u at *
        generalize (if d.scale.hasPics = true then 1 else 0 : Int) = w at *
        omega
      · obtain ⟨z, hz, hy⟩ := List.mem_flatMap.1 hy
        have := d' z hz
        unfold RightZ at this
        simp only [sizeBy, List.mem_cons, List.not_mem_nil, or_false] at hy
        rcases hy with hy | hy | hy | hy <;> omega
      · split at hy
        · rename_i h2
          rw [if_pos h2] at c
          rw [List.mem_singleton] at hy; omega
        · exact absurd hy List.not_mem_nil
      · obtain ⟨z, hz, hy⟩ := List.mem_flatMap.1 hy
        obtain ⟨g1, g2, g3⟩ := e' z hz
        have q3 := it01 z.up
        rw [picBy, List.mem_append, List.mem_singleton, it16] at hy
        rcases hy with hy | hy
        · generalize (if z.up = true then 1 else 0 : Int) = u at *
          omega
        · exact g3 y hy
    · exact fun x hx => absurd hx List.not_mem_nil
theorem wrB_eq {d : Vp9} (h : RightD d) : wrB d = wrD d := bytes_ext (wrB_u8 h) (wrD_spec h).1 (by rw [wrB_bits h, (wrD_spec h).2])

theorem w7 {v15 : Int} {g : Group} {acc : List Int} (h : RightG g) (ha : acc.length ≤ 1000000) (hv : 0 ≤ v15 ∧ v15 ≤ 1000) : ref24_Write_l7 none v15 g acc 0 = some (.inl (acc ++ g.refs, v15 + 1)) := by
  unfold ref24_Write_l7
  have := app_loop (ρ := (List Int × Int) ⊕ List Int) (l := g.refs) (W := fun a _ => [a]) (F := fun r => r) rfl (fun _ _ => rfl) (step := fun (s : List Int × Int) => ref24_Write_s7 none v15 g s.1 s.2) (N := 1000100) (fun done a r acc hl hN => by
    show ref24_Write_s7 none v15 g acc done.length = _
    have hg := h.2.1
    have hlen : g.refs.length = done.length + (r.length + 1) := by rw [hl]; simp
    have hm := h.2.2 a (by rw [hl]; simp)
    unfold ref24_Write_s7
    rw [if_pos (by rw [cm_lss]; simp; omega), hl, bnd (ix_atG rfl), w_u8 (by omega) (by omega), bnd (app_some (by simp at hN ⊢; omega)), ar_add, w_i64 (by omega) (by omega)]; rfl) g.refs [] acc rfl (by have := h.2.1; omega)
  refine this.trans (loop_inr ?_)
  show ref24_Write_s7 none v15 g (acc ++ g.refs) g.refs.length = _
  unfold ref24_Write_s7
  rw [if_neg (by rw [cm_lss]; simp), ar_add, w_i64 (by omega) (by omega)]; rfl
theorem flat_len_le {α : Type} {W : α → List Int} {n : Nat} : ∀ {l : List α}, (∀ a, a ∈ l → (W a).length ≤ n) → (l.flatMap W).length ≤ n * l.length
  | [], _ => by simp
  | a :: l, h => by
    have h1 := h a (by simp)
    have h2 := flat_len_le (l := l) fun x hx => h x (by simp [hx])
    rw [List.flatMap_cons, List.length_append, List.length_cons, Nat.mul_succ]; omega
theorem w6 {d : Vp9} {acc : List Int} (h : RightS d.scale) (ha : acc.length ≤ 100000) : ref24_Write_l6 none d acc 0 = some (acc ++ d.scale.pics.flatMap picBy) := by
  unfold ref24_Write_l6
  obtain ⟨_, _, c, _, e⟩ := h
  have hc : d.scale.pics.length ≤ 255 := by split at c <;> omega
  have hb : ∀ g, g ∈ d.scale.pics → (picBy g).length ≤ 4 := fun g hg => by have := (e g hg).2.1; simp [picBy]; omega
  have hf := flat_len_le hb
  have := app_loop (ρ := List Int) (l := d.scale.pics) (W := fun g _ => picBy g) (F := fun r => r.flatMap picBy) rfl (fun _ _ => rfl) (step := fun (s : List Int × Int) => ref24_Write_s6 none d s.1 s.2) (N := 200000) (fun done a r acc hl hN => by
    show ref24_Write_s6 none d acc done.length = _
    have hlen : d.scale.pics.length = done.length + (r.length + 1) := by rw [hl]; simp
    have hg := e a (by rw [hl]; simp)
    obtain ⟨g1, g2, g3⟩ := hg
    have q := it01 a.up
    unfold ref24_Write_s6
    rw [if_pos (by rw [cm_lss]; simp; omega), hl, bnd (ix_atG rfl)]
    have ev : IntKind.u8.wrap (ar .add .i64 (ar .add .i64 (ar .mul .i64 32 a.tid) (ref24_put a.up 16)) (ar .mul .i64 4 (a.refs.length : Int))) = 32 * a.tid + (if a.up then 16 else 0) + 4 * a.refs.length := by
      simp only [ar_add, ar_mul, put_eq, it16]
      generalize (if a.up = true then 1 else 0 : Int) = u at *
      rw [w_i64 (n := 32 * a.tid) (by omega) (by omega), w_i64 (n := 32 * a.tid + 16 * u) (by omega) (by omega), w_i64 (n := 4 * (a.refs.length : Int)) (by omega) (by omega), w_i64 (by omega) (by omega), w_u8 (by omega) (by omega)]
    rw [ev, bnd (app_some (by simp at hN ⊢; omega)), w7 ⟨g1, g2, g3⟩ (by simp at hN ⊢; omega) (by omega)]
    simp [picBy]) d.scale.pics [] acc rfl (by omega)
  refine this.trans (loop_inr ?_)
  show ref24_Write_s6 none d _ d.scale.pics.length = _
  unfold ref24_Write_s6
  rw [if_neg (by rw [cm_lss]; simp)]; rfl
theorem w4 {d : Vp9} {acc : List Int} (h : RightS d.scale) (ha : acc.length ≤ 10000) : ref24_Write_l4 none d acc 0 = some (acc ++ (d.scale.sizes.flatMap sizeBy ++ ((if d.scale.hasPics then [(d.scale.pics.length : Int)] else []) ++ d.scale.pics.flatMap picBy))) := by
  have h' := h
  obtain ⟨a0, b, c, e', _⟩ := h'
  have hc : d.scale.sizes.length ≤ 8 := by split at b <;> omega
  have hp : d.scale.pics.length ≤ 255 := by split at c <;> omega
  unfold ref24_Write_l4
  have hf := flat_len_le (W := sizeBy) (n := 4) (l := d.scale.sizes) (fun z _ => by simp [sizeBy])
  have := app_loop (ρ := List Int) (l := d.scale.sizes) (W := fun g _ => sizeBy g) (F := fun r => r.flatMap sizeBy) rfl (fun _ _ => rfl) (step := fun (s : List Int × Int) => ref24_Write_s4 none d s.1 s.2) (N := 20000) (fun done a r acc hl hN => by
    show ref24_Write_s4 none d acc done.length = _
    have hlen : d.scale.sizes.length = done.length + (r.length + 1) := by rw [hl]; simp
    have hz := e' a (by rw [hl]; simp)
    unfold RightZ at hz
    unfold ref24_Write_s4
    rw [if_pos (by rw [cm_lss]; simp; omega), hl, bnd (ix_atG rfl), dq (by omega) (by omega) 256 (by decide), dq (by omega) (by omega) 256 (by decide), dr (by omega), dr (by omega), w_u8 (by omega) (by omega), w_u8 (by omega) (by omega), w_u8 (by omega) (by omega), w_u8 (by omega) (by omega)]
    rw [bnd (app_some (by simp [sizeBy] at hN ⊢; omega)), ar_add, w_i64 (by omega) (by omega)]; rfl) d.scale.sizes [] acc rfl (by omega)
  refine this.trans (loop_inr ?_)
  show ref24_Write_s4 none d _ d.scale.sizes.length = _
  unfold ref24_Write_s4
  rw [if_neg (by rw [cm_lss]; simp)]
  unfold ref24_Write_j5
  cases hh : d.scale.hasPics with
  | true =>
    rw [if_pos rfl, w_u8 (by omega) (by omega), bnd (app_some (by simp only [List.length_append, List.length_singleton]; omega)), w6 h (by simp only [List.length_append, List.length_singleton]; omega), if_pos rfl]
    simp only [List.append_assoc]; rfl
  | false =>
    rw [if_neg (by decide), w6 h (by simp only [List.length_append]; omega), if_neg (by decide)]
    simp only [List.append_assoc, List.nil_append]; rfl
theorem w3' {d : Vp9} {acc : List Int} (h : RightD d) (ha : acc.length ≤ 1000) : ref24_Write_l3 none d acc 0 = some (acc ++ (refBy d.refs ++ (if d.hasScale then scaleBy d.scale else []))) := by
  obtain ⟨_, _, _, hr, hs⟩ := h
  have hrr : d.refs.length ≤ 3 ∧ ∀ n, n ∈ d.refs → 1 ≤ n ∧ n ≤ 127 := by
    unfold RefD at hr
    split at hr
    · exact ⟨hr.1.2, hr.2⟩
    · rw [hr]; exact ⟨by simp, fun n hn => absurd hn List.not_mem_nil⟩
  have hrl : ∀ l : List Int, (refBy l).length = l.length := fun l => by
    induction l with
    | nil => rfl
    | cons a r ih => rw [refBy, List.length_append, ih]; simp; omega
  unfold ref24_Write_l3
  have := app_loop (ρ := List Int) (l := d.refs) (W := fun a r => [2 * a + (if (!r.isEmpty) then 1 else 0)]) (F := refBy) rfl (fun _ _ => rfl) (step := fun (s : List Int × Int) => ref24_Write_s3 none d s.1 s.2) (N := 2000) (fun done a r acc hl hN => by
    show ref24_Write_s3 none d acc done.length = _
    have hlen : d.refs.length = done.length + (r.length + 1) := by rw [hl]; simp
    have hm := hrr.2 a (by rw [hl]; simp)
    have hle := hrr.1
    unfold ref24_Write_s3
    rw [if_pos (by rw [cm_lss]; simp; omega), hl, bnd (ix_atG rfl)]
    have e1 : cm .lss (ar .add .i64 (done.length : Int) 1) ((done ++ a :: r).length : Int) = !r.isEmpty := by
      rw [ar_add, w_i64 (by omega) (by omega), cm_lss]
      cases r with
      | nil => simp
      | cons x y => simp; omega
    have q := it01 (!r.isEmpty)
    rw [e1, put_eq]
    generalize (if (!r.isEmpty) = true then 1 else 0 : Int) = u at *
    simp only [ar_add, ar_mul]
    rw [w_i64 (n := 2 * a) (by omega) (by omega), w_i64 (n := 2 * a + u) (by omega) (by omega), w_u8 (by omega) (by omega), bnd (app_some (by simp at hN ⊢; omega)), w_i64 (by omega) (by omega)]; rfl) d.refs [] acc rfl (by rw [hrl]; omega)
  refine this.trans (loop_inr ?_)
  show ref24_Write_s3 none d _ d.refs.length = _
  unfold ref24_Write_s3
  rw [if_neg (by rw [cm_lss]; simp)]
  unfold ScD at hs
  cases hh : d.hasScale with
  | false => rw [if_pos (by decide), if_neg (by decide), List.append_nil]; rfl
  | true =>
    rw [hh] at hs
    simp only [if_true] at hs
    rw [if_neg (by decide), if_pos rfl]
    have q := it01 d.scale.hasSizes
    have q2 := it01 d.scale.hasPics
    have hl := hs.1
    have ev : IntKind.u8.wrap (ar .add .i64 (ar .add .i64 (ar .mul .i64 32 (ar .sub .i64 d.scale.layers 1)) (ref24_put d.scale.hasSizes 16)) (ref24_put d.scale.hasPics 8)) = 32 * (d.scale.layers - 1) + (if d.scale.hasSizes then 16 else 0) + (if d.scale.hasPics then 8 else 0) := by
      simp only [ar_add, ar_mul, ar_sub, put_eq, it16, it8]
      generalize (if d.scale.hasSizes = true then 1 else 0 : Int) = u at *
      generalize (if d.scale.hasPics = true then 1 else 0 : Int) = w at *
      rw [w_i64 (n := d.scale.layers - 1) (by omega) (by omega), w_i64 (n := 32 * (d.scale.layers - 1)) (by omega) (by omega), w_i64 (n := 32 * (d.scale.layers - 1) + 16 * u) (by omega) (by omega), w_i64 (by omega) (by omega), w_u8 (by omega) (by omega)]
    rw [ev, bnd (app_some (by rw [List.length_append, hrl]; simp; omega)), w4 hs (by rw [List.length_append, List.length_append, hrl]; simp; omega)]
    unfold scaleBy
    simp only [List.append_assoc]; rfl
theorem rwrite_eq {d : Vp9} (h : RightD d) : ref24_Write none d = some (wrD d) := by
  rw [← wrB_eq h]
  have h' := h
  obtain ⟨a, b, c, _, _⟩ := h'
  unfold ref24_Write wrB headD
  have eh : IntKind.u8.wrap (ar .add .i64 (ar .add .i64 (ar .add .i64 (ar .add .i64 (ar .add .i64 (ar .add .i64 (ar .add .i64 (ref24_put d.hasPic 128) (ref24_put d.inter 64)) (ref24_put d.hasLayer 32)) (ref24_put d.flexible 16)) (ref24_put d.begin 8)) (ref24_put d.end_ 4)) (ref24_put d.hasScale 2)) (ref24_put d.notRef 1)) = (hbD d).headD 0 := by
    simp only [put_eq, hbD, List.headD_cons]
    cases d.hasPic <;> cases d.inter <;> cases d.hasLayer <;> cases d.flexible <;> cases d.begin <;> cases d.end_ <;> cases d.hasScale <;> cases d.notRef <;> rfl
  rw [eh]
  have hb1 : [(hbD d).headD 0] = hbD d := rfl
  rw [hb1]
  have hpl := pbD_len d
  have hbl : (hbD d).length = 1 := rfl
  have key : ∀ p : List Int, p = pbD d → ref24_Write_j1 none d (hbD d ++ p) = some (hbD d ++ (pbD d ++ lbD d) ++ (refBy d.refs ++ (if d.hasScale then scaleBy d.scale else []))) := by
    intro p hp
    subst hp
    have hl2 : (pbD d).length ≤ 2 := by rw [hpl]; cases d.hasPic <;> cases d.wide <;> simp
    unfold ref24_Write_j1 ref24_Write_j2
    unfold LayD at c
    cases hL : d.hasLayer with
    | false =>
      have : lbD d = [] := by unfold lbD; rw [hL]; rfl
      rw [if_neg (by decide), w3' h (by rw [List.length_append]; omega), this]
      simp only [List.append_assoc, List.append_nil]
    | true =>
      rw [hL] at c
      simp only [if_true] at c
      have q := it01 d.up
      have q2 := it01 d.depends
      have ev : IntKind.u8.wrap (ar .add .i64 (ar .add .i64 (ar .add .i64 (ar .mul .i64 32 d.tid) (ref24_put d.up 16)) (ar .mul .i64 2 d.sid)) (ref24_put d.depends 1)) = 32 * d.tid + (if d.up then 16 else 0) + 2 * d.sid + (if d.depends then 1 else 0) := by
        simp only [ar_add, ar_mul, put_eq, it16]
        generalize (if d.up = true then 1 else 0 : Int) = u at *
        generalize (if d.depends = true then 1 else 0 : Int) = w at *
        rw [w_i64 (n := 32 * d.tid) (by omega) (by omega), w_i64 (n := 32 * d.tid + 16 * u) (by omega) (by omega), w_i64 (n := 2 * d.sid) (by omega) (by omega), w_i64 (n := 32 * d.tid + 16 * u + 2 * d.sid) (by omega) (by omega), w_i64 (by omega) (by omega), w_u8 (by omega) (by omega)]
      rw [if_pos rfl, ev, bnd (app_some (by rw [List.length_append]; simp; omega))]
      cases hf : d.flexible with
      | true =>
        have : lbD d = [32 * d.tid + (if d.up then 16 else 0) + 2 * d.sid + (if d.depends then 1 else 0)] := by unfold lbD; rw [hL, hf]; rfl
        rw [if_neg (by decide), w3' h (by rw [List.length_append, List.length_append]; simp; omega), this]
        simp only [List.append_assoc]
      | false =>
        have : lbD d = [32 * d.tid + (if d.up then 16 else 0) + 2 * d.sid + (if d.depends then 1 else 0), d.level] := by unfold lbD; rw [hL, hf]; rfl
        rw [if_pos (by decide), w_u8 (by omega) (by omega), bnd (app_some (by rw [List.length_append, List.length_append]; simp; omega)), w3' h (by rw [List.length_append, List.length_append, List.length_append]; simp; omega), this]
        simp only [List.append_assoc]; rfl
  unfold mostP at a
  cases hp : d.hasPic with
  | false =>
    have : pbD d = [] := by unfold pbD; rw [hp]; rfl
    rw [Bool.false_and, if_neg (by decide), if_neg (by decide)]
    have := key [] this.symm
    rw [List.append_nil] at this
    exact this
  | true =>
    rw [hp] at a
    simp only [if_true] at a
    cases hw : d.wide with
    | true =>
      rw [hw] at a
      simp only [if_true] at a
      have e : pbD d = [128 + d.pic / 256, d.pic % 256] := by unfold pbD; rw [hp, hw]; rfl
      rw [if_pos (by decide), dq (by omega) (by omega) 256 (by decide), dr (by omega), ar_add, w_i64 (by omega) (by omega), w_u8 (by omega) (by omega), w_u8 (by omega) (by omega), bnd (app_some (by simp [hbl]))]
      exact key _ e.symm
    | false =>
      rw [hw] at a
      simp only [Bool.false_eq_true, if_false] at a
      have e : pbD d = [d.pic] := by unfold pbD; rw [hp, hw]; rfl
      rw [if_neg (by decide), if_pos rfl, w_u8 (by omega) (by omega), bnd (app_some (by simp [hbl]))]
      exact key _ e.symm
end Xb

namespace Xb
open Go

theorem rcanon_eq {b : List Int} (hb : By b) : ref24_Canon none b = some (decide ((rdV b).2.2 = 0 ∧ wrD (rdV b).1 = b.take (rdV b).2.1.toNat)) := by
  unfold ref24_Canon
  rw [bnd (rread_eq hb)]
  rcases rdV_cases (b := b) with ⟨d, R, _, h2, h3, h4⟩ | ⟨d, e, h1, h2⟩
  · rw [h2]
    simp only
    rw [gT_bnd (by decide) (rwrite_eq h3), gT_bnd (by decide) (sub_some (by omega) (by omega) (by omega)), Int.toNat_zero, List.drop_zero, Nat.sub_zero, sc_b2s (wrD_spec h3).1 (fun x hx => hb.u8 x (List.mem_of_mem_take hx))]
    congr 1
    rw [show cm .eql (0 : Int) 0 = true from rfl, Bool.true_and]
    simp
  · rw [h2]
    have := err_ne hb h1
    simp only
    have e0 : cm .eql e 0 = false := by rw [cm_eql]; simpa using this
    rw [e0, gTF, gTF]
    simp [this]
theorem wrD_head {d : Vp9} (h : RightD d) (pic level : Int) (hk : RightD (kD d pic level)) : ∃ Z, wrD d = headD d ++ Z ∧ wrD (kD d pic level) = headD (kD d pic level) ++ Z :=
  ⟨refBy d.refs ++ (if d.hasScale then scaleBy d.scale else []), (wrB_eq h).symm, (wrB_eq hk).symm⟩
theorem kD_len (d : Vp9) (pic level : Int) : (headD (kD d pic level)).length = (headD d).length := by
  have lb : ∀ d : Vp9, (lbD d).length = if d.hasLayer then (if d.flexible then 1 else 2) else 0 := fun d => by
    unfold lbD; cases d.hasLayer <;> cases d.flexible <;> rfl
  simp only [headD, List.length_append, pbD_len, lb]; rfl
theorem rset_loop {D K Z tb : List Int} (hl : K.length = D.length) (h5 : D.length ≤ 5) (hZ : Z.length ≤ 1000000) : ref24_Set_l3 none (D ++ Z) (K ++ Z) (D ++ tb) 0 = some (K ++ tb, 0) := by
  unfold ref24_Set_l3
  have := loop_seq (step := fun (s : List Int × Int) => ref24_Set_s3 none (D ++ Z) (K ++ Z) s.1 s.2) (r := (K ++ tb, (0 : Int))) (fun i => (K.take i ++ (D.drop i ++ tb), ((i : Nat) : Int))) (min 5 (D ++ Z).length) (fun i hi => by
    show ref24_Set_s3 none (D ++ Z) (K ++ Z) (K.take i ++ (D.drop i ++ tb)) i = _
    have hi1 : i < (D ++ Z).length := by omega
    have hi2 : i < (K ++ Z).length := by rw [List.length_append] at hi1 ⊢; omega
    unfold ref24_Set_s3 ref24_Set_j4
    rw [if_pos (by rw [cm_lss, cm_lss]; simp only [Bool.and_eq_true, decide_eq_true_eq]; omega), bnd (ix_some rfl hi1), bnd (ix_some rfl hi2)]
    have ei : ar .add .i64 (i : Int) 1 = ((i + 1 : Nat) : Int) := by rw [ar_add, w_i64 (by omega) (by omega)]; rfl
    rw [ei]
    by_cases hD : i < D.length
    · have hK : i < K.length := by omega
      have e1 : (D ++ Z)[i] = D[i] := List.getElem_append_left hD
      have e2 : (K ++ Z)[i] = K[i] := List.getElem_append_left hK
      have e3 : D.drop i = D[i] :: D.drop (i + 1) := List.drop_eq_getElem_cons hD
      have hlen : (K.take i).length = i := by rw [List.length_take]; omega
      have e4 : K.take (i + 1) = K.take i ++ [K[i]] := by rw [List.take_add_one, List.getElem?_eq_getElem hK]; rfl
      rw [e1, e2, e3, e4]
      have hix : ix (K.take i ++ (D[i] :: D.drop (i + 1) ++ tb)) (i : Int) = some D[i] := ix_atG (A := K.take i) (B := D.drop (i + 1) ++ tb) (by rw [hlen])
      have hset : ∀ y, (K.take i ++ (D[i] :: D.drop (i + 1) ++ tb)).set i y = K.take i ++ y :: (D.drop (i + 1) ++ tb) := fun y => by
        have := set_at (A := K.take i) (B := D.drop (i + 1) ++ tb) (x := D[i]) (y := y)
        rwa [hlen] at this
      by_cases hq : D[i] = K[i]
      · rw [if_neg (by rw [cm_neq]; simp [hq]), hq, ← List.append_cons]; rfl
      · rw [if_pos (by rw [cm_neq]; simp [hq]), bnd (ix_some rfl hi2), bnd hix, Int.toNat_natCast, hset, e2, List.append_assoc]; rfl
    · have e1 : (D ++ Z)[i] = (K ++ Z)[i] := by
        rw [List.getElem_append_right (by omega), List.getElem_append_right (by omega)]
        congr 1; omega
      rw [if_neg (by rw [cm_neq, e1]; simp)]
      have t1 : K.take (i + 1) = K.take i := by rw [List.take_of_length_le (by omega), List.take_of_length_le (by omega)]
      have t2 : D.drop (i + 1) = D.drop i := by rw [List.drop_eq_nil_of_le (by omega), List.drop_eq_nil_of_le (by omega)]
      rw [t1, t2]) (by
    show ref24_Set_s3 none (D ++ Z) (K ++ Z) (K.take (min 5 (D ++ Z).length) ++ (D.drop (min 5 (D ++ Z).length) ++ tb)) ((min 5 (D ++ Z).length : Nat) : Int) = _
    unfold ref24_Set_s3
    rw [if_neg (by rw [cm_lss, cm_lss]; simp only [Bool.and_eq_true, decide_eq_true_eq]; omega)]
    have hm : D.length ≤ min 5 (D ++ Z).length := by rw [List.length_append]; omega
    rw [List.take_of_length_le (by omega), List.drop_eq_nil_of_le hm, List.nil_append]; rfl)
  simpa using this
theorem rset_eq {b : List Int} (hb : By b) (hl : b.length ≤ 4000000000) (pic level : Int) : ref24_Set none b pic level = some (setV b pic level) := by
  unfold ref24_Set
  rw [bnd (rread_eq hb)]
  rcases rdV_cases (b := b) with ⟨d, R, h1, h2, h3, h4⟩ | ⟨d, e, h1, h2⟩
  · obtain ⟨tb, g1, g2⟩ := read_head hb.u8 h1 h3
    rw [h2]
    simp only
    rw [if_neg (by decide)]
    have fin : ∀ n : Int, ref24_Set_j2 none b (d, n, 0) (kD d pic level) = some (setV b pic level) := by
      intro n
      unfold ref24_Set_j2
      have hsm : SmD (kD d pic level) := ⟨h3.sm.refs, h3.sm.sc⟩
      rw [bnd (rright_eq hsm)]
      by_cases hk : RightD (kD d pic level)
      · rw [rD_iff.2 hk, if_neg (by decide)]
        obtain ⟨Z, z1, z2⟩ := wrD_head h3 pic level hk
        have hz : Z.length ≤ 1000000 := by
          have := (wrD_bd h3).2
          rw [z1, List.length_append] at this; omega
        simp only
        rw [bnd (rwrite_eq h3), bnd (rwrite_eq hk), bnd (app_some (by simp; omega)), List.nil_append, z1, z2]
        rw [setV_ok h1 hk]
        have hdr : b.drop (headD d).length = tb := by conv => lhs; rw [g1]
                                                      exact List.drop_left' rfl
        rw [hdr]
        conv => lhs; rw [g1]
        exact rset_loop (kD_len d pic level) (headD_len d).2 hz
      · have : rD (kD d pic level) = false := by rw [← Bool.not_eq_true, rD_iff]; exact hk
        rw [this, if_pos (by rfl), setV_no h1 hk]
    unfold ref24_Set_j1
    simp only
    have f := fin ((8 * (b.length : Int) - R.length) / 8)
    rw [← law_k (d := d) (pic := pic) (level := level)] at f
    cases hA : (d.hasPic && (cm .neq pic (-1))) with
    | true =>
      rw [hA] at f
      simp only [if_true] at f ⊢
      cases hC : ((d.hasLayer && (!d.flexible)) && (cm .neq level (-1))) with
      | true => rw [hC] at f; exact f
      | false => rw [hC] at f; exact f
    | false =>
      rw [hA] at f
      simp only [Bool.false_eq_true, if_false] at f ⊢
      cases hC : ((d.hasLayer && (!d.flexible)) && (cm .neq level (-1))) with
      | true => rw [hC] at f; exact f
      | false => rw [hC] at f; exact f
  · rw [h2]
    have := err_ne hb h1
    simp only
    rw [if_pos (by rw [cm_neq]; simpa using this)]
    unfold setV
    rw [h2, if_pos this]
end Xb

namespace Xb
open Go

theorem right_j1 {d : Vp9} {b : List Int} {pic level : Int} (hD : SmD d) (hb : By b) (hl : b.length ≤ 3000) : law24_Vp9Right_j1 none b pic level (rD d) d = some true := by
  unfold law24_Vp9Right_j1
  have hsm : SmD (rdV b).1 := by
    rcases rdV_cases (b := b) with ⟨d, R, _, h2, h3, h4⟩ | ⟨d, e, h1, h2⟩
    · rw [h2]; exact h3.sm
    · rw [h2]; exact zD_sm
  have us : U8 (setV b pic level).1 := by
    rcases rdV_cases (b := b) with ⟨d, R, h1, h2, h3, h4⟩ | ⟨d, e, h1, h2⟩
    · by_cases hk : RightD (kD d pic level)
      · rw [setV_ok h1 hk]
        exact (headD_u8 hk.1 hk.2.2.1).app fun x hx => hb.u8 x (List.mem_of_mem_drop hx)
      · rw [setV_no h1 hk]; exact fun x hx => absurd hx List.not_mem_nil
    · unfold setV
      rw [h2, if_pos (err_ne hb h1)]; exact fun x hx => absurd hx List.not_mem_nil
  rw [bnd (read_eq hb), bnd (rread_eq hb)]
  have c0 : ∀ x : Int, cm .neq x x = false := fun x => by rw [cm_neq]; simp
  have c1 : ∀ x : Bool, bq .neq x x = false := fun x => by cases x <;> rfl
  have c2 : ∀ x : Bool, bq .eql x x = true := fun x => by cases x <;> rfl
  have c3 : ∀ x : Int, cm .eql x x = true := fun x => by rw [cm_eql]; simp
  simp only [c0, Bool.or_false, Bool.not_false, gTT]
  rw [bnd (same_eq hsm), decide_eq_true (rfl : (rdV b).1 = (rdV b).1)]
  simp only [Bool.not_true, Bool.or_false, Bool.not_false, gTT]
  rw [bnd (vscale_eq hD.sc), bnd (rscale_eq hD.sc), c1]
  simp only [Bool.or_false, Bool.false_eq_true, if_false]
  rw [bnd (set_eq hb (by omega) _ _), bnd (rset_eq hb (by omega) _ _), bnd (vright_eq hD), c2]
  simp only [gTT]
  rw [bnd (canon_eq hb), bnd (rcanon_eq hb), c2, c3, sc_b2s us us]
  simp
theorem vp9Right_true {d : Vp9} {b : List Int} {pic level : Int} (hd : wf_Vp9 d) (hb : b.length ≤ maxLen ∧ ∀ x, x ∈ b → inK .u8 x) (hp : inK .i64 pic) (hl : inK .i64 level) : law24_Vp9Right none d b pic level = some true := by
  unfold law24_Vp9Right
  obtain ⟨x1, s1, s2⟩ := short_eq (d := d) hd.2.2.2.2.2.2.2.2.2.2.2.2.2.2.2.1.2.2.2.2.1
  rw [bnd s1]
  cases x1 with
  | false => simp
  | true =>
    by_cases hlen : b.length ≤ 3000
    · rw [if_neg (by simp [cm_gtr]; omega)]
      have hu : U8 b := fun x hx => in_u8.1 (hb.2 x hx)
      have hB : By b := .of hu (by omega)
      have hD := s2 rfl
      rw [bnd (rright_eq hD), bnd (write_eq hD)]
      have fin := right_j1 (pic := pic) (level := level) hD hB hlen
      cases hr : rD d with
      | true =>
        rw [hr] at fin
        have hR := rD_iff.1 hr
        simp only [if_true]
        rw [show (!(cm .neq (0 : Int) 0)) = true from rfl, gTT, bnd (rwrite_eq hR)]
        have e : sc .neq (b2s (wrD d)) (b2s (wrD d)) = false := by simp [sc]
        rw [e, if_neg (by decide)]
        exact fin
      | false =>
        rw [hr] at fin
        simp only [Bool.false_eq_true, if_false]
        rw [if_neg (by decide)]
        exact fin
    · rw [if_pos (by simp [cm_gtr]; omega)]
end Xb

