/- Own text: Core32. -/
import Derived.Test.YtemfkddlidfbfaaGreatCore31
set_option linter.all false
set_option linter.unusedVariables false
set_option linter.unusedSimpArgs false
set_option linter.unnecessarySimpa false
set_option linter.deprecated false
/-! The bytes of a constant text; methods of data that are lent boxes; zero values. -/
namespace Xb
open Go

theorem freeze_cell {w : World} {b k n : Nat} {a : Addr} : (w.freeze ⟨b, k, none⟩ n).cell? a = w.cell? a := by
  unfold World.freeze
  split
  · rfl
  · unfold World.cell?
    simp only [Array.getElem?_modify]
    by_cases h : b = a.block
    · rw [if_pos h]
      cases hh : w.heap[a.block]? with
      | none => rfl
      | some o => cases o <;> rfl
    · rw [if_neg h]
theorem Chg.freeze (w : World) (b k n : Nat) : Chg w (w.freeze ⟨b, k, none⟩ n) (fun j => j = b) := by
  unfold World.freeze
  split
  · exact ⟨rfl, rfl, rfl, Nat.le_refl _, fun _ _ _ => rfl⟩
  · refine ⟨rfl, rfl, rfl, by simp, fun j hj hb => ?_⟩
    simp only [Array.getElem?_modify]
    rw [if_neg (fun h => hb h.symm)]

theorem VR.frz {w : World} {M : Nat → Prop} {a : A} {v : Value} {b k n : Nat} (h : VR w M a v) : VR (w.freeze ⟨b, k, none⟩ n) M a v := by
  have hs : (w.freeze ⟨b, k, none⟩ n).heap.size = w.heap.size := by unfold World.freeze; split <;> simp
  induction h with
  | bool b => exact .bool b
  | int k n h1 h2 => exact .int k n h1 h2
  | str s h => exact .str s h
  | emp sz o cap h => exact .emp sz o cap h
  | list sz l b' off cap vs h1 h2 hMb hb hs' hl hc ho _ ih =>
    exact .list sz l b' off cap vs h1 h2 hMb (by rw [hs]; exact hb) hs' hl (fun k v hk => by rw [freeze_cell]; exact hc k v hk) ho ih
  | agg cs vs hl ho _ ih => exact .agg cs vs hl ho ih
  | tup cs vs hl _ ih => exact .tup cs vs hl ih
  | raw v h => exact .raw v h
  | ifc t x v _ ih => exact .ifc t x v ih

section
variable {P : Program} {ops : Array Oper} {S S' : St} {os : List Oper} {es : List Eff}
variable {d : Option Nat} {ty : TypeId} {pos : String} {af : Array Edge}

/-- the bytes of a constant text: what was laid is only read from now on -/
theorem cvb {t e id : Nat} {x : Operand} {l : List (List A)} (hT : SF P t e 1) (hE : P.underlying e = some (.int .u8)) (hx : Ev S x (.own id)) (hO : S.go id = some (.arr e 1 l)) (hn : l.isEmpty = false)
    (D : Der P ops ((me (rd x (.own id)) [(id, .arr e 1 l)] (.ro (.list 1 l)) [(id, none)] []).app d S) os es S') :
    Der P ops S (⟨d, .convert t t x, ty, pos, af, none⟩ :: os) (me (rd x (.own id)) [(id, .arr e 1 l)] (.ro (.list 1 l)) [(id, none)] [] :: es) S' := by
  refine .cons ?_ (pre_me hx.rd (by simp; exact hO) (fun _ h => (List.not_mem_nil h).elim)) D
  rintro C S2 a w ⟨hd, hs⟩ hp hdst
  unfold stepOp
  rw [if_pos (by simp [Region.wanted])]
  have h2 := hp.rs trivial
  have e1 := ((hx.of h2).vv hs).own_inv.1
  have hgo := hp.ro trivial (id, .arr e 1 l) (by simp [me])
  have hOO := hs.ob id _ hgo
  obtain ⟨xs, hr, _, hls, hlo, hlv⟩ := stands_own hOO
  rcases hr.2 with ⟨h0, hz⟩ | ⟨g', cap, cur, hv', hg0, hg, hnc, hm, hcs, htake⟩
  · rw [List.length_eq_zero_iff.1 hz] at hn; cases hn
  have hU : P.underlying t = some (.slice e) := hT.u
  have hsh : w.shape? g' = some (e, cur.size) := by unfold World.shape?; rw [hg]
  have hrun : (execOp a.eval ⟨d, .convert t t x, ty, pos, af, none⟩).run P w = .ok (.value (hd id)) (w.freeze ⟨g', cur.size, none⟩ 1) := by
    simp only [execOp, e1, hv', convert, Sem.run_bind, run_underlying hU, run_underlying hE, Result.andThen_ok, beq_self_eq_true, markStringish]
    simp [hsh]
  simp only [Oper.wp, hrun]
  refine ⟨hd, hs.step _ hp d (hd id) hdst (fun b => b = g') (Chg.freeze w g' cur.size 1) (fun b hb => ⟨id, _, none, hgo, by rw [hb, hv']; rfl, by simp [me, lk]⟩) (fun _ _ => rfl) (fun _ => ?_) (fun j y hy => ?_) (fun j y b hy => ?_) (fun i1 i2 x1 x2 b h1 => ?_)⟩
  · refine .ro _ _ (VR.frz ?_)
    have hMM : ∀ b, (C.M0 b ∨ Ow ((me (rd x (.own id)) [(id, .arr e 1 l)] (.ro (.list 1 l)) [(id, none)] []).app d S2) hd b) → (C.M0 b ∨ ∃ j x, j ≠ id ∧ S2.go j = some x ∧ blk (hd j) = some b) := by
      rintro b (hm | ⟨j, y, hy, hb⟩)
      · exact .inl hm
      · rw [app_go] at hy
        by_cases hj : id = j
        · subst hj; simp [me, lk] at hy
        · simp only [me, lk, beq_ne hj, cond_false] at hy
          exact .inr ⟨j, y, fun e => hj e.symm, hy, hb⟩
    refine ownsRow_VR hOO _ (fun b _ h => (hMM b h).elim .inl fun ⟨j, y, _, h1, h2⟩ => .inr ⟨j, y, h1, h2⟩) fun b hb hmm => ?_
    rcases hMM b hmm with h0 | ⟨j, y, hne, h1, h2⟩
    · have h1 := C.hM0 b h0
      rcases (hs.lv b ⟨id, _, hgo, hb⟩).1 with h2 | h2
      · omega
      · exact h1.2 h2
    · exact hne (hs.inj j id y _ b h1 hgo h2 hb)
  · simp only [me, lk] at hy
    by_cases hj : id = j
    · subst hj; simp at hy
    · simp [beq_ne hj] at hy
  · simp only [me, lk] at hy
    by_cases hj : id = j
    · subst hj; simp at hy
    · simp [beq_ne hj] at hy
  · simp only [me, lk] at h1
    by_cases hj : id = i1
    · subst hj; simp at h1
    · simp [beq_ne hj] at h1

/-- a method, whatever the dynamic type, that is lent boxes -/
def MY (P : Program) (name : String) (x : A) (args : List V) (lo : List (Nat × List A)) (pn : List Nat) (r : V) (ob : List (Nat × O)) (kp : List (Nat × V)) (lo' : List (Nat × List A)) : Prop :=
  ∃ t y f, x = .ifc t y ∧ CM P t name f ∧ AY P f (.ro y :: args) lo pn r ob kp lo'

/-- what a call of a method wants -/
structure LM (P : Program) (name : String) (x : A) (g : Nat → Nat) (args : List V) (lo : List (Nat × List A)) (pn : List Nat) (r : V) (ob : List (Nat × O)) (kp : List (Nat × V)) (lo' : List (Nat × List A)) : Prop where
  c : MY P name x args lo pn r ob kp lo'
  k : ∀ y, kpB lo (.ro y :: args) kp = true
  i : injB g (lo.map (·.1)) = true
  l : lo'.map (·.1) = lo.map (·.1)
  n : nodB (lo.map (·.1)) = true
  m : r.onlyI (ob.map (·.1)) = true
  a : (ob.all fun p => p.2.isArr) = true
  s : (ob.all fun p => !inB p.1 (lo.map (·.1))) = true
theorem MY.lm {name : String} {x : A} {args : List V} {lo : List (Nat × List A)} {pn : List Nat} {r : V} {ob : List (Nat × O)} {kp : List (Nat × V)} {lo' : List (Nat × List A)} (g : Nat → Nat) (c : MY P name x args lo pn r ob kp lo')
    (k : ∀ y, kpB lo (.ro y :: args) kp = true) (i : injB g (lo.map (·.1)) = true) (l : lo'.map (·.1) = lo.map (·.1)) (n : nodB (lo.map (·.1)) = true) (m : r.onlyI (ob.map (·.1)) = true) (a : (ob.all fun p => p.2.isArr) = true)
    (s : (ob.all fun p => !inB p.1 (lo.map (·.1))) = true) : LM P name x g args lo pn r ob kp lo' := ⟨c, k, i, l, n, m, a, s⟩

theorem cmy {x : Operand} {name : String} {xs : Array Operand} {ts : Array TypeId} {a : A} {g : Nat → Nat} (K : Nat) {ys args : List V} {lo lo' : List (Nat × List A)} {pn : List Nat} {r : V} {ob : List (Nat × O)} {kp : List (Nat × V)}
    (hC : LM P name a g args lo pn r ob kp lo') (h0 : Ev S x (.ro a)) (hx : Evs S xs.toList ys) (he : ys = args.map (V.mp g)) (hL : Lnt S g lo) (hf : ((shiftI K ob).all S.free) = true)
    (D : Der P ops ((eyy g K (rd x (.ro a) ++ rds xs.toList ys) lo lo' r ob).app d S) os es S') :
    Der P ops S (⟨d, .call ⟨.invoke x name, xs, ts⟩, ty, pos, af, none⟩ :: os) (eyy g K (rd x (.ro a) ++ rds xs.toList ys) lo lo' r ob :: es) S' := by
  obtain ⟨⟨t, y, f, rfl, hF, hA⟩, hk, hi, hl, hn, hm, ha, hs'⟩ := hC
  refine .cons (Trip.callY (o := ⟨d, .call ⟨.invoke x name, xs, ts⟩, ty, pos, af, none⟩) g K (AY.ly g hA (hk y) hi hl hn hm ha hs') rfl fun C S2 hd a w hs h2 => ?_)
    ⟨fun _ h => (List.not_mem_nil h).elim, fun _ => mem_app h0.rd hx.rd, fun _ => hL.ok, fun id hid => List.all_eq_true.1 hf id hid⟩ D
  have h3 := (hx.of fun p hp => h2 p (List.mem_append_right _ hp)).vv hs
  have h4 := ((h0.of fun p hp => h2 p (List.mem_append_left _ hp)).vv hs).ro_of
  obtain ⟨u, e1, hu⟩ : ∃ u, a.eval x = .iface t u ∧ VR w (MM C S2 hd) y u := by
    generalize a.eval x = vx at h4
    cases h4 with
    | ifc _ _ u hu => exact ⟨u, rfl, hu⟩
  subst he
  refine ⟨u :: xs.toList.map a.eval, run_invoke (ρ := a.eval) e1 hF, ?_, fun i z v hz hv => ?_⟩
  · simpa using h3.1
  · cases i with
    | zero => simp at hz hv; subst hv; subst hz; exact .ro _ _ hu
    | succ i => exact h3.2 i (z.mp g) v (by simp at hz ⊢; exact ⟨z, hz, rfl⟩) (by simpa using hv)

/-- zero values, cell by cell -/
inductive VL (w : World) (M : Nat → Prop) : List A → List Value → Prop
  | n : VL w M [] []
  | c {a : A} {v : Value} {cs : List A} {vs : List Value} (h : VR w M a v) (h1 : v.oneCell' = true) (t : VL w M cs vs) : VL w M (a :: cs) (v :: vs)
theorem VL.get {w : World} {M : Nat → Prop} {cs : List A} {vs : List Value} (h : VL w M cs vs) : cs.length = vs.length ∧ (∀ (i : Nat) (v : Value), vs[i]? = some v → v.oneCell' = true) ∧ ∀ (i : Nat) (a : A) (v : Value), cs[i]? = some a → vs[i]? = some v → VR w M a v := by
  induction h with
  | n => simp
  | c h h1 _ ih =>
    refine ⟨by simp [ih.1], fun i v hv => ?_, fun i a v ha hv => ?_⟩
    · cases i with
      | zero => simp at hv; subst hv; exact h1
      | succ i => exact ih.2.1 i v (by simpa using hv)
    · cases i with
      | zero => simp at ha hv; subst ha; subst hv; exact h
      | succ i => exact ih.2.2 i a v (by simpa using ha) (by simpa using hv)
theorem VL.agg {w : World} {M : Nat → Prop} {cs : List A} {vs : List Value} (h : VL w M cs vs) : VR w M (.agg cs) (.agg ⟨vs⟩) := .agg cs vs h.get.1 h.get.2.1 h.get.2.2
end
end Xb
