/- Own text: Core31. -/
import Derived.Test.YtemfkddlidfbfaaGreatCore30
set_option linter.all false
set_option linter.unusedVariables false
set_option linter.unusedSimpArgs false
set_option linter.unnecessarySimpa false
set_option linter.deprecated false
/-! Calls that lend boxes and hand back new lists. -/
namespace Xb
open Go

section
variable {P : Program} {T : Tgt} {C : Ctx} {k : List Item} {S : St}

/-- the end of a function that was lent something, behind its last statement -/
theorem AK.rte {f : FuncId} {r : V} {ob : List (Nat × Option O)} {kp : List (Nat × V)} {C0 : Ctx} {fn : Func} {xs : List V} {o : List (Nat × Option O)} (hf : P.funcs[f]? = some fn) (hr : Res P S fn.results.toList xs) (ho : KeepO S o) (hp : pack xs = r) (hob : o = ob)
    (hk : Keep S kp) (hpn : (kp.all fun p => inB p.1 C.pn) = true)
    (hC : C0.w0 = C.w0 ∧ C0.X = C.X ∧ C0.M0 = C.M0 ∧ C0.pv = C.pv := by exact ⟨rfl, rfl, rfl, rfl⟩) :
    AK P (tx P f r ob kp C0) C [] S := by
  rintro a w ⟨hd, hs1⟩ b cs hro hbk hbf
  subst hob
  change b.fn = f at hbf
  change b.roundOf = none at hro
  obtain ⟨w2, hst, e1, e2, e3, e4, e5⟩ := take_marks (P := P) (cs := cs) C.mks { b.atR a [] with mode := .returning } w rfl hs1.df.df hs1.df.nd (fun D hD => (hs1.df.mkd D hD).2)
  have hs : Sat' { C with mks := [], fx := [], pn := [] } S hd { a with defers := [] } w2 :=
    hs1.turn rfl rfl rfl rfl rfl (B := fun D => D ∈ C.mks) ⟨e1, e2, e3, by omega, fun k _ hk => e5 k hk⟩ (fun D hD => ⟨(hs1.df.mkd D hD).1, fun _ => ⟨_, (hs1.df.mkd D hD).2, rfl⟩⟩)
      ⟨rfl, List.nodup_nil, fun _ h => (List.not_mem_nil h).elim, fun _ h => (List.not_mem_nil h).elim, fun _ h => (List.not_mem_nil h).elim⟩
  obtain ⟨vs, hrun, hl, hv⟩ := run_Res hs hr
  have hres : (results fn a.tmps).run P w2 = .ok (if h : vs.toArray.size = 1 then vs.toArray[0] else .tuple vs.toArray) w2 := by
    have e : results fn a.tmps = (do let us ← fn.results.mapM (resOne a.tmps); pure (if h : us.size = 1 then us[0] else .tuple us)) := by
      unfold results
      congr 2
    rw [e, Sem.run_bind, Array.mapM_eq_mapM_toList]
    simp only [Sem.run_map, hrun, Result.andThen_ok]
    rfl
  have hM : ∀ b, b < w2.heap.size → MM C ⟨[], o⟩ hd b → MM C S hd b := by
    rintro b _ (hm | ⟨id, x, hx, hb⟩)
    · exact .inl hm
    · exact .inr ⟨id, x, ho.go hx, hb⟩
  have hext : ∀ {x : V} {v : Value}, VV w2 (MM C S hd) hd x v → VV w2 (MM C ⟨[], o⟩ hd) hd x v := fun h => h.ext (Chg.refl w2 (fun _ => False)) (fun _ h => h.elim) hM (fun _ _ => rfl)
  refine ⟨_, ⟨_, w2, { { b.atR a [] with mode := .returning } with defers := [] }, _, PostX.congr (C := C) ⟨_, hd, rfl, ?_, ?_, ?_⟩ hC.1 hC.2.1 hC.2.2.1 (fun p _ => by rw [hC.2.2.2]), rfl, rfl, hbf, rfl, rfl, hbk, fn, by rw [← hbf] at hf; exact hf, hres⟩, Steps.trans (.one (stepR_end hro)) hst⟩
  · subst hp
    have tup : ∀ {xs : List V} {vs : List Value}, xs.length = vs.length → (∀ (i : Nat) (x : V) (v : Value), xs[i]? = some x → vs[i]? = some v → VV w2 (MM C S hd) hd x v) →
        VV w2 (MM C ⟨[], o⟩ hd) hd (mkTup xs) (.tuple vs.toArray) := fun hl hv => (VV.tup _ _ hl fun i x v hi hvi => hext (hv i x v hi hvi)).mkTup
    match xs, vs, hl, hv with
    | [x], [v], _, hv => exact hext (hv 0 x v rfl rfl)
    | [], [], hl, hv => exact tup hl hv
    | x :: y :: xs, u :: v :: vs, hl, hv => exact tup hl hv
  · have h0 := hs.keep (l := []) (o := o) .n ho
    exact ⟨h0.ob, h0.lv, h0.inj, h0.fr⟩
  · intro p hpk
    have hin : p.1 ∈ C.pn := inB_spec (List.all_eq_true.1 hpn p hpk)
    have hg : S.gs p.1 = some p.2 := by
      clear hpn
      induction hk with
      | n => cases hpk
      | @c t x l h hl ih =>
        rcases List.mem_cons.1 hpk with rfl | hpk
        · exact h
        · exact ih hpk
    have h2 := (hs.sl p.1 p.2 hg).2
    rw [show ({ a with defers := [] } : Act).tmps.getD p.1 undef = C.pv p.1 from hs1.df.pn p.1 hin] at h2
    exact hext h2
end

/-- THE CONTRACT of a function that is lent boxes, and hands back new lists among its results -/
def AY (P : Program) (f : FuncId) (args : List V) (lo : List (Nat × List A)) (pn : List Nat) (r : V) (ob : List (Nat × O)) (kp : List (Nat × V)) (lo' : List (Nat × List A)) : Prop :=
  ∀ (w : World) (X M0 : Nat → Prop) (hM : ∀ b, M0 b → b < w.heap.size ∧ ¬ X b) (hd : Nat → Value) (vals : List Value), args.length = vals.length →
    (∀ (i : Nat) (x : V) (v : Value), args[i]? = some x → vals[i]? = some v → VV w (MM (ctxX w X M0 hM 0 [] fun _ => undef) ⟨[], bxs lo⟩ hd) hd x v) →
    Mem (ctxX w X M0 hM 0 [] fun _ => undef) (bxs lo) hd w →
    Calls P f ⟨vals⟩ w (PostX (ctxX w X M0 hM 0 pn fun t => vals.getD t undef) r (bxs lo' ++ obs ob) kp)

theorem AY.of {P : Program} {f : FuncId} {fn : Func} {c : Code} {args : List V} {lo : List (Nat × List A)} {pn : List Nat} {r : V} {ob : List (Nat × O)} {kp : List (Nat × V)} {lo' : List (Nat × List A)}
    (hf : P.funcs[f]? = some fn) (hb : fn.body = some c) (hn : Nat.ble args.length fn.ntmps = true)
    (h : ∀ (w : World) (X M0 : Nat → Prop) (hM : ∀ b, M0 b → b < w.heap.size ∧ ¬ X b) (pv : Nat → Value), AK P (tx P f r (bxs lo' ++ obs ob) kp (ctxX w X M0 hM fn.ntmps pn pv)) (ctxX w X M0 hM fn.ntmps pn pv) [.code c] ⟨idx 0 args, bxs lo⟩) :
    AY P f args lo pn r ob kp lo' := by
  intro w X M0 hM hd vals hl hv hmem cs
  have hn := Nat.le_of_ble_eq_true hn
  let b : Frame := { (default : Frame) with fn := f, kind := .normal, roundOf := none }
  let a : Act := { tmps := (⟨vals⟩ : Array Value) ++ Array.replicate (fn.ntmps - (⟨vals⟩ : Array Value).size) undef, defers := [] }
  have henter : Frame.enter P f ⟨vals⟩ .normal = b.atR a [.code c] := by
    simp [Frame.enter, Frame.atR, hf, hb, b, a]
  rw [henter]
  have hget : ∀ t, a.tmps.getD t undef = vals.getD t undef := by
    intro t
    by_cases ht : t < vals.length
    · simp [a, Array.getElem?_append, ht]
    · simp only [a, Array.getD_eq_getD_getElem?, List.getD_eq_getElem?_getD]
      rw [Array.getElem?_append, if_neg (by simpa using ht), List.getElem?_eq_none (by omega)]
      simp only [Array.getElem?_replicate]
      split <;> rfl
  have hpost : ∀ e w', PostX (ctxX w X M0 hM fn.ntmps pn fun t => vals.getD t undef) r (bxs lo' ++ obs ob) kp e w' → PostX (ctxX w X M0 hM 0 pn fun t => vals.getD t undef) r (bxs lo' ++ obs ob) kp e w' :=
    fun e w' h => h.congr rfl rfl rfl (fun _ _ => rfl)
  suffices hsat : Sat (ctxX w X M0 hM fn.ntmps pn fun t => vals.getD t undef) ⟨idx 0 args, bxs lo⟩ a w by
    obtain ⟨m, ⟨e, w', fr, v, hR, he, hm, h1, h2⟩, hst⟩ := h w X M0 hM _ a w hsat b cs rfl rfl rfl
    subst hm; subst he
    exact ⟨_, w', fr, hpost _ w' hR, hst, h1, h2⟩
  refine ⟨hd, ?_⟩
  refine ⟨by simp [a, ctxX]; omega, fun t x hx => ?_, hmem.ob, hmem.lv, hmem.inj, hmem.fr, ⟨rfl, List.nodup_nil, fun _ h => (List.not_mem_nil h).elim, fun _ h => (List.not_mem_nil h).elim, fun t _ => hget t⟩⟩
  obtain ⟨_, hg⟩ := idx_get hx
  simp only [Nat.sub_zero] at hg
  have hlt : t < args.length := (List.getElem?_eq_some_iff.1 hg).1
  have hlt' : t < vals.length := by omega
  refine ⟨by simp [ctxX]; omega, ?_⟩
  have := hv t x vals[t] hg (List.getElem?_eq_getElem hlt')
  rw [hget t, List.getD_eq_getElem?_getD, List.getElem?_eq_getElem hlt']
  exact this

/-- what a call wants of what it lends, and of what it gets -/
structure LY (P : Program) (f : FuncId) (g : Nat → Nat) (args : List V) (lo : List (Nat × List A)) (pn : List Nat) (r : V) (ob : List (Nat × O)) (kp : List (Nat × V)) (lo' : List (Nat × List A)) : Prop where
  c : AY P f args lo pn r ob kp lo'
  k : kpB lo args kp = true
  i : injB g (lo.map (·.1)) = true
  l : lo'.map (·.1) = lo.map (·.1)
  n : (lo.map (·.1)).Nodup
  m : r.onlyI (ob.map (·.1)) = true
  a : (ob.all fun p => p.2.isArr) = true
  s : (ob.all fun p => !inB p.1 (lo.map (·.1))) = true

theorem AY.ly {P : Program} {f : FuncId} {args : List V} {lo : List (Nat × List A)} {pn : List Nat} {r : V} {ob : List (Nat × O)} {kp : List (Nat × V)} {lo' : List (Nat × List A)} (g : Nat → Nat) (h : AY P f args lo pn r ob kp lo')
    (k : kpB lo args kp = true) (i : injB g (lo.map (·.1)) = true) (l : lo'.map (·.1) = lo.map (·.1)) (n : nodB (lo.map (·.1)) = true) (m : r.onlyI (ob.map (·.1)) = true) (a : (ob.all fun p => p.2.isArr) = true)
    (s : (ob.all fun p => !inB p.1 (lo.map (·.1))) = true) : LY P f g args lo pn r ob kp lo' := ⟨h, k, i, l, nodB_spec n, m, a, s⟩

theorem nodup_key {l : List (Nat × List A)} (hn : (l.map (·.1)).Nodup) {i : Nat} {x y : List A} (hx : (i, x) ∈ l) (hy : (i, y) ∈ l) : x = y := by
  induction l with
  | nil => cases hx
  | cons q l ih =>
    simp only [List.map_cons, List.nodup_cons] at hn
    rcases List.mem_cons.1 hx with ex | ex <;> rcases List.mem_cons.1 hy with ey | ey
    · rw [← ex] at ey; simpa using ey.symm
    · exact absurd (List.mem_map.2 ⟨_, ey, by rw [← ex]⟩) hn.1
    · exact absurd (List.mem_map.2 ⟨_, ex, by rw [← ey]⟩) hn.1
    · exact ih hn.2 ex ey

section
variable {P : Program} {ops : Array Oper} {S S' : St} {os : List Oper} {es : List Eff}
variable {d : Option Nat} {ty : TypeId} {pos : String} {af : Array Edge}

def eyy (g : Nat → Nat) (K : Nat) (rs : List (Nat × V)) (lo lo' : List (Nat × List A)) (r : V) (ob : List (Nat × O)) : Eff := ⟨[], True, rs, lo.map fun p => (g p.1, .box (p.2.map .ro)), r.ren K, wox g lo' ++ shift K ob, shiftI K ob⟩

theorem Trip.callY {o : Oper} {rs : List (Nat × V)} {f : FuncId} {args : List V} {lo lo' : List (Nat × List A)} {pn : List Nat} {r : V} {ob : List (Nat × O)} {kp : List (Nat × V)} (g : Nat → Nat) (K : Nat)
    (L : LY P f g args lo pn r ob kp lo') (hg : o.guard = none)
    (h : ∀ (C : Ctx) (S : St) (hd : Nat → Value) (a : Act) (w : World), Sat' C S hd a w → (∀ p, p ∈ rs → S.gs p.1 = some p.2) →
      ∃ vals : List Value, (execOp a.eval o).run P w = .ok (.enter f ⟨vals⟩) w ∧ args.length = vals.length ∧
        ∀ (i : Nat) (x : V) (v : Value), args[i]? = some x → vals[i]? = some v → VV w (MM C S hd) hd (x.mp g) v) :
    Trip P ops o (eyy g K rs lo lo' r ob) := by
  obtain ⟨hC, hk, hi, hlo, hnd, hm1, hA, hS⟩ := L
  intro C S a w ⟨hd, hs⟩ hp hdst
  unfold stepOp
  rw [if_pos (by simp [Region.wanted, hg])]
  obtain ⟨vals, hr, hl, hv⟩ := h C S hd a w hs (hp.rs trivial)
  simp only [Oper.wp, hr, Oper.upon]
  have hgo : ∀ p, p ∈ lo → S.go (g p.1) = some (.box (p.2.map .ro)) := fun p hpl => hp.ro trivial (g p.1, .box (p.2.map .ro)) (List.mem_map.2 ⟨p, hpl, rfl⟩)
  let X : Nat → Prop := fun b => ∃ p, p ∈ lo ∧ blk (hd (g p.1)) = some b
  let M0 : Nat → Prop := fun b => MM C S hd b ∧ ¬ X b
  have hsz : ∀ b, MM C S hd b → b < w.heap.size := fun b hb => hb.elim (fun h => Nat.lt_of_lt_of_le (C.hM0 b h).1 hs.fr.size) (fun h => (hs.lv b h).2)
  have hM : ∀ b, M0 b → b < w.heap.size ∧ ¬ X b := fun b hb => ⟨hsz b hb.1, hb.2⟩
  have hXM : ∀ b, X b → MM C S hd b := fun b ⟨p, hpl, hb⟩ => .inr ⟨g p.1, _, hgo p hpl, hb⟩
  have hin : ∀ b, MM (ctxX w X M0 hM 0 [] fun _ => undef) ⟨[], bxs lo⟩ (fun i => hd (g i)) b → MM C S hd b := by
    rintro b (hm | ⟨id, x, hx, hb⟩)
    · exact hm.1
    · obtain ⟨cs, h1, rfl⟩ := bxs_lk hx
      exact .inr ⟨g id, _, hgo (id, cs) h1, hb⟩
  have hargs : ∀ (i : Nat) (x : V) (v : Value), args[i]? = some x → vals[i]? = some v → VV w (MM (ctxX w X M0 hM 0 [] fun _ => undef) ⟨[], bxs lo⟩ (fun i => hd (g i))) (fun i => hd (g i)) x v :=
    fun i x v hx hvl => ((hv i x v hx hvl).ext (Chg.refl w (fun _ => False)) (fun _ h => h.elim) (fun b _ hm => hin b hm) (fun _ _ => rfl)).unmp rfl
  have hmem : Mem (ctxX w X M0 hM 0 [] fun _ => undef) (bxs lo) (fun i => hd (g i)) w := by
    refine ⟨fun id x hx => ?_, ?_, fun i1 i2 x1 x2 b h1 h2 hb1 hb2 => ?_, Chg.refl w _⟩
    · obtain ⟨cs, h1, rfl⟩ := bxs_lk hx
      have := hs.ob (g id) _ (hgo (id, cs) h1)
      exact (OO.ext (x := (O.box (cs.map .ro)).mp g) (by rw [mp_ro]; exact this) (Chg.refl w (fun _ => False)) (fun _ h => h.elim) (fun b _ hm => hin b hm) (fun _ _ => rfl) (fun _ _ h => h)).unmp
    · rintro b ⟨id, x, hx, hb⟩
      obtain ⟨cs, h1, rfl⟩ := bxs_lk hx
      exact ⟨.inr ⟨(id, cs), h1, hb⟩, hsz b (hXM b ⟨(id, cs), h1, hb⟩)⟩
    · obtain ⟨c1, m1, rfl⟩ := bxs_lk h1
      obtain ⟨c2, m2, rfl⟩ := bxs_lk h2
      have := hs.inj (g i1) (g i2) _ _ b (hgo _ m1) (hgo _ m2) hb1 hb2
      exact injB_spec hi i1 i2 (List.mem_map.2 ⟨_, m1, rfl⟩) (List.mem_map.2 ⟨_, m2, rfl⟩) this
  refine (hC w X M0 hM (fun i => hd (g i)) vals hl hargs hmem).mono fun e w' hpost => ?_
  obtain ⟨v, hd1, rfl, hv1, hm, hkp⟩ := hpost
  show Sat C _ (a.put o.dst v) w'
  have hids : ∀ {i : Nat} {cs : List A}, (i, cs) ∈ lo' → ∃ cs0, (i, cs0) ∈ lo := by
    intro i cs hm'
    have : i ∈ lo'.map (·.1) := List.mem_map.2 ⟨_, hm', rfl⟩
    rw [hlo] at this
    obtain ⟨p, hp1, rfl⟩ := List.mem_map.1 this
    exact ⟨p.2, hp1⟩
  have hids' : ∀ {i : Nat} {cs : List A}, (i, cs) ∈ lo → ∃ cs0, (i, cs0) ∈ lo' := by
    intro i cs hm'
    have : i ∈ lo.map (·.1) := List.mem_map.2 ⟨_, hm', rfl⟩
    rw [← hlo] at this
    obtain ⟨p, hp1, rfl⟩ := List.mem_map.1 this
    exact ⟨p.2, hp1⟩
  -- the objects behind the call
  have hgoB : ∀ {i : Nat} {cs : List A}, (i, cs) ∈ lo' → (St.mk [] (bxs lo' ++ obs ob)).go i = some (.box (cs.map .ro)) := by
    intro i cs h1
    obtain ⟨cs2, h2, h3⟩ := lk_bxs (lo := lo') (i := i) (List.mem_map.2 ⟨_, h1, rfl⟩)
    have he : cs = cs2 := nodup_key (by rw [hlo]; exact hnd) h1 h2
    subst he
    have h4 : lk (bxs lo') i = some (some (.box (cs.map .ro))) := by
      unfold St.go at h3
      cases hy : lk (bxs lo') i with
      | none => simp only [hy] at h3; cases h3
      | some y => simp only [hy] at h3; rw [h3]
    simp only [St.go, lk_append, h4]
  have hgoO : ∀ {j : Nat} {x : O}, lk (obs ob) j = some (some x) → (St.mk [] (bxs lo' ++ obs ob)).go j = some x ∧ j ∉ lo.map (·.1) := by
    intro j x h1
    have hmem := lk_mem h1
    obtain ⟨p, hp1, e⟩ := List.mem_map.1 hmem
    have hj : j ∉ lo.map (·.1) := by
      intro hj
      have := List.all_eq_true.1 hS p hp1
      simp only [Prod.mk.injEq] at e
      rw [e.1] at this
      have hin : inB j (lo.map (·.1)) = true := List.any_eq_true.2 ⟨j, hj, by simp⟩
      rw [hin] at this; simp at this
    refine ⟨?_, hj⟩
    have hnone : lk (bxs lo') j = none := by
      cases hy : lk (bxs lo') j with
      | none => rfl
      | some y =>
        obtain ⟨q, hq, e⟩ := List.mem_map.1 (lk_mem hy)
        simp only [Prod.mk.injEq] at e
        exact absurd (by rw [← hlo]; exact List.mem_map.2 ⟨q, hq, e.1⟩) hj
    simp only [St.go, lk_append, hnone, h1]
  have hXin : ∀ b, X b → MM (ctxX w X M0 hM 0 [] fun _ => undef) ⟨[], bxs lo⟩ (fun i => hd (g i)) b := by
    rintro b ⟨p, hpl, hb⟩
    obtain ⟨cs, h1, h2⟩ := lk_bxs (lo := lo) (i := p.1) (List.mem_map.2 ⟨p, hpl, rfl⟩)
    exact .inr ⟨p.1, _, h2, hb⟩
  have hkeep : ∀ p, p ∈ lo → hd1 p.1 = hd (g p.1) := by
    intro p hpl
    obtain ⟨q, hq, x, hx, hpt⟩ := kpB_spec hk hpl
    have hlt : q.1 < vals.length := by rw [← hl]; exact (List.getElem?_eq_some_iff.1 hx).1
    have h2 := hkp q hq
    have h3 : (ctxX w X M0 hM 0 pn fun t => vals.getD t undef).pv q.1 = vals[q.1] := by
      show vals.getD q.1 undef = _
      rw [List.getD_eq_getElem?_getD, List.getElem?_eq_getElem hlt]; rfl
    rw [h3] at h2
    obtain ⟨b, b1, b2⟩ := pts_ok (X := X) (w := w) (w' := w') ⟨hm.fr.os, hm.fr.tape, hm.fr.output, hm.fr.size, hm.fr.block⟩ hXin (hargs q.1 x vals[q.1] hx (List.getElem?_eq_getElem hlt)) h2 p.1 hpt
    obtain ⟨_, _, _, e1, _⟩ := (hs.ob (g p.1) _ (hgo p hpl)).box_inv
    obtain ⟨cs', m'⟩ := hids' (i := p.1) (cs := p.2) hpl
    obtain ⟨_, _, _, e2, _⟩ := (hm.ob p.1 _ (hgoB m')).box_inv
    have b1 : blk (hd (g p.1)) = some b := b1
    rw [e1] at b1 ⊢; rw [e2] at b2 ⊢
    simp only [blk, Option.some.injEq] at b1 b2
    rw [b1, b2]
  have hnX : ∀ b, C.M0 b → ¬ X b := by
    rintro b hm0 ⟨p, hpl, hb⟩
    have h1 := C.hM0 b hm0
    rcases (hs.lv b ⟨g p.1, _, hgo p hpl, hb⟩).1 with h2 | h2
    · omega
    · exact h1.2 h2
  let hd' : Nat → Value := fun i => if i ∈ shiftI K ob then hd1 (i - K) else hd i
  have hd'K : ∀ id, K + id ∈ shiftI K ob → hd' (K + id) = hd1 id := fun id hid => by
    simp only [hd', hid, if_true]; congr 1; omega
  have hfree : ∀ {i : Nat} {x : O}, S.go i = some x → i ∉ shiftI K ob := fun hx hm => by
    rw [free_go (hp.fr _ hm)] at hx; cases hx
  have hd'g : ∀ p, p ∈ lo → hd' (g p.1) = hd (g p.1) := fun p hpl => by
    simp only [hd', hfree (hgo p hpl), if_false]
  have hlw : ∀ {i : Nat} {y : Option O}, lk (wox g lo' ++ shift K ob) i = some y → (∃ p, p ∈ lo' ∧ i = g p.1 ∧ y = some (.box (p.2.map .ro))) ∨ ∃ j x, i = K + j ∧ y = some (x.ren K) ∧ lk (obs ob) j = some (some x) ∧ i ∈ shiftI K ob := by
    intro i y hy
    rw [lk_append] at hy
    cases hz : lk (wox g lo') i with
    | some z => rw [hz] at hy; simp only [Option.some.injEq] at hy; subst hy; exact .inl (lk_wox hz)
    | none => rw [hz] at hy; exact .inr (lk_shift hy)
  have hmen : ∀ id, V.men id r = true → K + id ∈ shiftI K ob := fun id h => by
    have := V.onlyI_men hm1 h
    obtain ⟨p, hp, rfl⟩ := List.mem_map.1 this
    exact List.mem_map.2 ⟨p, hp, rfl⟩
  have hmenO : ∀ i x id, lk (obs ob) i = some (some x) → O.men id x = true → K + id ∈ shiftI K ob := fun i x id h hm' => by
    have h' := lk_mem h
    obtain ⟨p, hp, e⟩ := List.mem_map.1 h'
    have := List.all_eq_true.1 hA p hp
    simp only [Prod.mk.injEq, Option.some.injEq] at e
    rw [← e.2] at hm'
    cases hp2 : p.2 <;> rw [hp2] at this hm' <;> simp [O.isArr] at this
    simp [O.men] at hm'
  have hMM : ∀ b, b < w'.heap.size → (C.M0 b ∨ Ow ((eyy g K rs lo lo' r ob).app o.dst S) hd' b) →
      MM (ctxX w X M0 hM 0 pn fun t => vals.getD t undef) ⟨[], bxs lo' ++ obs ob⟩ hd1 b := by
    rintro b _ (hb | ⟨id, x, hx, hbk⟩)
    · exact .inl ⟨.inl hb, hnX b hb⟩
    · rw [app_go] at hx
      split at hx
      · rename_i y hy
        subst hx
        rcases hlw (show lk (wox g lo' ++ shift K ob) id = some (some x) from hy) with ⟨p, hpl, rfl, _⟩ | ⟨j, x2, rfl, _, h3, h4⟩
        · obtain ⟨cs0, h0⟩ := hids (i := p.1) (cs := p.2) hpl
          refine .inr ⟨p.1, _, hgoB hpl, ?_⟩
          rw [hkeep (p.1, cs0) h0, ← hd'g (p.1, cs0) h0]; exact hbk
        · exact .inr ⟨j, x2, (hgoO h3).1, by rw [hd'K j h4] at hbk; exact hbk⟩
      · rename_i hnone
        have hni := hfree hx
        have hbk : blk (hd id) = some b := by simp only [hd', hni, if_false] at hbk; exact hbk
        refine .inl ⟨.inr ⟨id, x, hx, hbk⟩, ?_⟩
        rintro ⟨p, hpl, hb⟩
        have := hs.inj id (g p.1) _ _ b hx (hgo p hpl) hbk hb
        subst this
        obtain ⟨cs', h1⟩ := hids' (i := p.1) (cs := p.2) hpl
        obtain ⟨y, hy⟩ := wox_lk (g := g) h1
        have : lk (wox g lo' ++ shift K ob) (g p.1) = some y := by rw [lk_append, hy]
        exact absurd (hnone.symm.trans this) (by simp)
  refine ⟨hd', hs.step _ hp o.dst v hdst X ⟨hm.fr.os, hm.fr.tape, hm.fr.output, hm.fr.size, hm.fr.block⟩ (fun b hb => ?_) (fun id hid => ?_) (fun _ => ?_) (fun id x hx => ?_) (fun id x b hx hbk => ?_) (fun i1 i2 x1 x2 b h1 h2 hb1 hb2 => ?_)⟩
  · obtain ⟨p, hpl, hb⟩ := hb
    obtain ⟨cs', h1⟩ := hids' (i := p.1) (cs := p.2) hpl
    obtain ⟨y, hy⟩ := wox_lk (g := g) h1
    refine ⟨g p.1, _, y, hgo p hpl, hb, ?_⟩
    show lk (wox g lo' ++ shift K ob) (g p.1) = some y
    rw [lk_append, hy]
  · have : id ∉ shiftI K ob := hid
    simp only [hd', this, if_false]
  · exact (hv1.ext (Chg.refl w' (fun _ => False)) (fun _ h => h.elim) hMM (fun _ _ => rfl)).ren fun id hid => hd'K id (hmen id hid)
  · rcases hlw (show lk (wox g lo' ++ shift K ob) id = some (some x) from hx) with ⟨p, hpl, rfl, hy⟩ | ⟨j, x2, rfl, hx2, h3, h4⟩
    · cases hy
      obtain ⟨cs0, h0⟩ := hids (i := p.1) (cs := p.2) hpl
      have hob := hm.ob p.1 _ (hgoB hpl)
      rw [hkeep (p.1, cs0) h0] at hob
      rw [hd'g (p.1, cs0) h0]
      exact hob.ext (Chg.refl w' (fun _ => False)) (fun _ h => h.elim) hMM (fun id hmen => by rw [men_ro] at hmen; cases hmen) (fun _ _ h => h)
    · cases hx2
      rw [hd'K j h4]
      exact ((hm.ob j x2 (hgoO h3).1).ext (Chg.refl w' (fun _ => False)) (fun _ h => h.elim) hMM (fun _ _ => rfl) (fun _ _ h => h)).ren fun id hid => hd'K id (hmenO j x2 id h3 hid)
  · rcases hlw (show lk (wox g lo' ++ shift K ob) id = some (some x) from hx) with ⟨p, hpl, rfl, _⟩ | ⟨j, x2, rfl, _, h3, h4⟩
    · obtain ⟨cs0, h0⟩ := hids (i := p.1) (cs := p.2) hpl
      rw [hd'g (p.1, cs0) h0] at hbk
      obtain ⟨y, hy⟩ := wox_lk (g := g) hpl
      refine .inr ⟨g p.1, _, y, hgo (p.1, cs0) h0, hbk, ?_⟩
      show lk (wox g lo' ++ shift K ob) (g p.1) = some y
      rw [lk_append, hy]
    · rw [hd'K j h4] at hbk
      have := hm.lv b ⟨j, x2, (hgoO h3).1, hbk⟩
      refine .inl ⟨this.1.resolve_right (fun hX => ?_), this.2⟩
      obtain ⟨p, hpl, hb⟩ := hX
      obtain ⟨cs', h1⟩ := hids' (i := p.1) (cs := p.2) hpl
      have hb : blk (hd (g p.1)) = some b := hb
      rw [← hkeep p hpl] at hb
      have := hm.inj j p.1 _ _ b (hgoO h3).1 (hgoB h1) hbk hb
      exact (hgoO h3).2 (by rw [this]; exact List.mem_map.2 ⟨p, hpl, rfl⟩)
  · rcases hlw (show lk (wox g lo' ++ shift K ob) i1 = some (some x1) from h1) with ⟨p1, m1, rfl, _⟩ | ⟨j1, y1, rfl, _, h3, h4⟩ <;>
      rcases hlw (show lk (wox g lo' ++ shift K ob) i2 = some (some x2) from h2) with ⟨p2, m2, rfl, _⟩ | ⟨j2, y2, rfl, _, h5, h6⟩
    · obtain ⟨c1, n1⟩ := hids (i := p1.1) (cs := p1.2) m1
      obtain ⟨c2, n2⟩ := hids (i := p2.1) (cs := p2.2) m2
      rw [hd'g (p1.1, c1) n1] at hb1
      rw [hd'g (p2.1, c2) n2] at hb2
      exact hs.inj _ _ _ _ b (hgo (p1.1, c1) n1) (hgo (p2.1, c2) n2) hb1 hb2
    · obtain ⟨c1, n1⟩ := hids (i := p1.1) (cs := p1.2) m1
      rw [hd'g (p1.1, c1) n1, ← hkeep (p1.1, c1) n1] at hb1
      rw [hd'K j2 h6] at hb2
      have := hm.inj j2 p1.1 _ _ b (hgoO h5).1 (hgoB m1) hb2 hb1
      exact absurd (by rw [this]; exact List.mem_map.2 ⟨_, n1, rfl⟩) (hgoO h5).2
    · obtain ⟨c2, n2⟩ := hids (i := p2.1) (cs := p2.2) m2
      rw [hd'g (p2.1, c2) n2, ← hkeep (p2.1, c2) n2] at hb2
      rw [hd'K j1 h4] at hb1
      have := hm.inj j1 p2.1 _ _ b (hgoO h3).1 (hgoB m2) hb1 hb2
      exact absurd (by rw [this]; exact List.mem_map.2 ⟨_, n2, rfl⟩) (hgoO h3).2
    · rw [hd'K j1 h4] at hb1
      rw [hd'K j2 h6] at hb2
      rw [hm.inj j1 j2 y1 y2 b (hgoO h3).1 (hgoO h5).1 hb1 hb2]

/-- a call that lends boxes -/
theorem cly {f : FuncId} {xs : Array Operand} {ts : Array TypeId} {g : Nat → Nat} (K : Nat) {ys args : List V} {lo lo' : List (Nat × List A)} {pn : List Nat} {r : V} {ob : List (Nat × O)} {kp : List (Nat × V)}
    (hF : CF P f) (hC : LY P f g args lo pn r ob kp lo') (hx : Evs S xs.toList ys) (he : ys = args.map (V.mp g)) (hL : Lnt S g lo) (hf : ((shiftI K ob).all S.free) = true)
    (D : Der P ops ((eyy g K (rds xs.toList ys) lo lo' r ob).app d S) os es S') :
    Der P ops S (⟨d, .call ⟨.value (.func f), xs, ts⟩, ty, pos, af, none⟩ :: os) (eyy g K (rds xs.toList ys) lo lo' r ob :: es) S' := by
  refine .cons (Trip.callY (o := ⟨d, .call ⟨.value (.func f), xs, ts⟩, ty, pos, af, none⟩) g K hC rfl fun C S2 hd a w hs h2 => ?_)
    ⟨fun _ h => (List.not_mem_nil h).elim, fun _ => hx.rd, fun _ => hL.ok, fun id hid => List.all_eq_true.1 hf id hid⟩ D
  have h3 := (hx.of h2).vv hs
  subst he
  refine ⟨xs.toList.map a.eval, ?_, by simpa using h3.1, fun i x v hx hv => h3.2 i (x.mp g) v (by simp [hx]) hv⟩
  rw [run_resolve_func rfl hF]
  congr 2
  apply Array.ext'; simp

/-- a method, of a type that is known -/
theorem ciy {f : FuncId} {x : Operand} {name : String} {xs : Array Operand} {ts : Array TypeId} {t : TypeId} {y : V} {g : Nat → Nat} (K : Nat) {ys args : List V} {lo lo' : List (Nat × List A)} {pn : List Nat} {r : V} {ob : List (Nat × O)} {kp : List (Nat × V)}
    (hF : CM P t name f) (hC : LY P f g args lo pn r ob kp lo') (h0 : Ev S x (.ifc t y)) (hx : Evs S xs.toList ys) (he : y :: ys = args.map (V.mp g)) (hL : Lnt S g lo) (hf : ((shiftI K ob).all S.free) = true)
    (D : Der P ops ((eyy g K (rd x (.ifc t y) ++ rds xs.toList ys) lo lo' r ob).app d S) os es S') :
    Der P ops S (⟨d, .call ⟨.invoke x name, xs, ts⟩, ty, pos, af, none⟩ :: os) (eyy g K (rd x (.ifc t y) ++ rds xs.toList ys) lo lo' r ob :: es) S' := by
  refine .cons (Trip.callY (o := ⟨d, .call ⟨.invoke x name, xs, ts⟩, ty, pos, af, none⟩) g K hC rfl fun C S2 hd a w hs h2 => ?_)
    ⟨fun _ h => (List.not_mem_nil h).elim, fun _ => mem_app h0.rd hx.rd, fun _ => hL.ok, fun id hid => List.all_eq_true.1 hf id hid⟩ D
  have h3 := (hx.of fun p hp => h2 p (List.mem_append_right _ hp)).vv hs
  have h4 := (h0.of fun p hp => h2 p (List.mem_append_left _ hp)).vv hs
  obtain ⟨u, e1, hu⟩ : ∃ u, a.eval x = .iface t u ∧ VV w (MM C S2 hd) hd y u := by
    generalize a.eval x = vx at h4
    cases h4 with
    | ifc _ _ u hu => exact ⟨u, rfl, hu⟩
  refine ⟨u :: xs.toList.map a.eval, ?_, ?_, fun i z v hz hv => ?_⟩
  · exact run_invoke (ρ := a.eval) e1 hF
  · have := congrArg List.length he
    simp only [List.length_map, List.length_cons] at this ⊢
    have h5 := h3.1
    simp only [List.length_map] at h5
    omega
  · have hz2 : (y :: ys)[i]? = some (z.mp g) := by rw [he]; simp [hz]
    cases i with
    | zero => simp at hz2 hv; subst hv; rw [← hz2]; exact hu
    | succ i => exact h3.2 i (z.mp g) v (by simpa using hz2) (by simpa using hv)

/-- a function value, that lends boxes -/
theorem cvy {f : FuncId} {x : Operand} {xs : Array Operand} {ts : Array TypeId} {us cs : List V} {g : Nat → Nat} (K : Nat) {ys args : List V} {lo lo' : List (Nat × List A)} {pn : List Nat} {r : V} {ob : List (Nat × O)} {kp : List (Nat × V)}
    (hF : CF P f) (hC : LY P f g args lo pn r ob kp lo') (h0 : Ev S x (.fn (.func f) us cs)) (hx : Evs S xs.toList ys) (he : us ++ (ys ++ cs) = args.map (V.mp g)) (hL : Lnt S g lo) (hf : ((shiftI K ob).all S.free) = true)
    (D : Der P ops ((eyy g K (rd x (.fn (.func f) us cs) ++ rds xs.toList ys) lo lo' r ob).app d S) os es S') :
    Der P ops S (⟨d, .call ⟨.value x, xs, ts⟩, ty, pos, af, none⟩ :: os) (eyy g K (rd x (.fn (.func f) us cs) ++ rds xs.toList ys) lo lo' r ob :: es) S' := by
  refine .cons (Trip.callY (o := ⟨d, .call ⟨.value x, xs, ts⟩, ty, pos, af, none⟩) g K hC rfl fun C S2 hd a w hs h2 => ?_)
    ⟨fun _ h => (List.not_mem_nil h).elim, fun _ => mem_app h0.rd hx.rd, fun _ => hL.ok, fun id hid => List.all_eq_true.1 hf id hid⟩ D
  have h3 := (hx.of fun p hp => h2 p (List.mem_append_right _ hp)).vv hs
  obtain ⟨uv, cv, e1, l1, l2, hu, hc⟩ := ((h0.of fun p hp => h2 p (List.mem_append_left _ hp)).vv hs).fn_inv
  have hlen := h3.1
  have hl : (us ++ (ys ++ cs)).length = (uv ++ (xs.toList.map a.eval ++ cv)).length := by simp only [List.length_append]; omega
  refine ⟨uv ++ (xs.toList.map a.eval ++ cv), run_resolve_fnv rfl e1 hF, by rw [← hl, he, List.length_map], fun i z v hz hv => ?_⟩
  have hz2 : (us ++ (ys ++ cs))[i]? = some (z.mp g) := by rw [he]; simp [hz]
  by_cases h1 : i < us.length
  · rw [List.getElem?_append_left h1] at hz2
    rw [List.getElem?_append_left (by omega)] at hv
    exact hu i _ v hz2 hv
  · rw [List.getElem?_append_right (by omega)] at hz2
    rw [List.getElem?_append_right (by omega), ← l1] at hv
    by_cases h2' : i - us.length < ys.length
    · rw [List.getElem?_append_left h2'] at hz2
      rw [List.getElem?_append_left (by omega)] at hv
      exact h3.2 _ _ v hz2 hv
    · rw [List.getElem?_append_right (by omega)] at hz2
      rw [List.getElem?_append_right (by omega), ← hlen] at hv
      exact hc _ _ v hz2 hv
end
end Xb
