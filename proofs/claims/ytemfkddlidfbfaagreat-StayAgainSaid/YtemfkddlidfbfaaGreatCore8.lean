/- Own text: Core8. -/
import Derived.Test.YtemfkddlidfbfaaGreatCore7
set_option linter.all false
set_option linter.unusedVariables false
set_option linter.unusedSimpArgs false
set_option linter.unnecessarySimpa false
set_option linter.deprecated false
/-! Calls. -/
namespace Xb
open Go

mutual
def V.ren (K : Nat) : V → V
  | .ro a => .ro a
  | .own i => .own (K + i)
  | .ptr i off => .ptr (K + i) off
  | .rptr cs => .rptr cs
  | .cptr cs => .cptr (V.rens K cs)
  | .agg cs => .agg (V.rens K cs)
  | .tup cs => .tup (V.rens K cs)
  | .fn f a b => .fn f (V.rens K a) (V.rens K b)
  | .may c x => .may c (V.ren K x)
  | .view i sz lo n => .view (K + i) sz lo n
  | .ifc t x => .ifc t (V.ren K x)
  | .un => .un
def V.rens (K : Nat) : List V → List V
  | [] => []
  | x :: r => V.ren K x :: V.rens K r
end

theorem rens_eq (K : Nat) : ∀ cs : List V, V.rens K cs = cs.map (V.ren K)
  | [] => rfl
  | x :: r => by simp [V.rens, rens_eq K r]

theorem VV.ren {w : World} {M : Nat → Prop} {hd hd' : Nat → Value} {K : Nat} {x : V} {v : Value} (h : VV w M hd x v) (hh : ∀ id, V.men id x = true → hd' (K + id) = hd id) :
    VV w M hd' (x.ren K) v := by
  have sub : ∀ {cs : List V} {i : Nat} {a : V} {id : Nat} {X : V}, (V.men id X = true ∨ V.mens id cs = false) → cs[i]? = some a → V.men id a = true → V.men id X = true := by
    intro cs i a id X h hi hm
    rcases h with h | h
    · exact h
    · rw [V.mens_get h hi] at hm; cases hm
  induction h with
  | ro a v h => exact .ro a v h
  | own id h =>
    have e := hh id (by simp [V.men])
    simp only [V.ren]
    rw [← e] at h ⊢
    exact .own _ h
  | ptr id off b h => exact .ptr _ off b (by rw [hh id (by simp [V.men])]; exact h)
  | rptr cs b off vs h1 h2 h3 h4 h5 h6 => exact .rptr cs b off vs h1 h2 h3 h4 h5 h6
  | cptr cs b off vs h1 h2 hl h4 h5 _ ih =>
    simp only [V.ren, rens_eq]
    refine .cptr _ b off vs h1 h2 (by simpa using hl) h4 h5 fun i a v hi hv => ?_
    simp only [List.getElem?_map, Option.map_eq_some_iff] at hi
    obtain ⟨a', ha, rfl⟩ := hi
    refine ih i a' v ha hv fun id hm => hh id (sub (cs := cs) ?_ ha hm)
    cases hx : V.mens id cs with
    | true => exact .inl (by simpa [V.men] using hx)
    | false => exact .inr rfl
  | agg cs vs hl ho _ ih =>
    simp only [V.ren, rens_eq]
    refine .agg _ vs (by simpa using hl) ho fun i a v hi hv => ?_
    simp only [List.getElem?_map, Option.map_eq_some_iff] at hi
    obtain ⟨a', ha, rfl⟩ := hi
    refine ih i a' v ha hv fun id hm => hh id (sub (cs := cs) ?_ ha hm)
    cases hx : V.mens id cs with
    | true => exact .inl (by simpa [V.men] using hx)
    | false => exact .inr rfl
  | tup cs vs hl _ ih =>
    simp only [V.ren, rens_eq]
    refine .tup _ vs (by simpa using hl) fun i a v hi hv => ?_
    simp only [List.getElem?_map, Option.map_eq_some_iff] at hi
    obtain ⟨a', ha, rfl⟩ := hi
    refine ih i a' v ha hv fun id hm => hh id (sub (cs := cs) ?_ ha hm)
    cases hx : V.mens id cs with
    | true => exact .inl (by simpa [V.men] using hx)
    | false => exact .inr rfl
  | fn f cs ds vs us hl hl' _ _ ih ih' =>
    simp only [V.ren, rens_eq]
    refine .fn f _ _ vs us (by simpa using hl) (by simpa using hl') (fun i a v hi hv => ?_) (fun i a v hi hv => ?_)
    · simp only [List.getElem?_map, Option.map_eq_some_iff] at hi
      obtain ⟨a', ha, rfl⟩ := hi
      refine ih i a' v ha hv fun id hm => hh id (sub (cs := cs) ?_ ha hm)
      cases hx : V.mens id cs with
      | true => exact .inl (by simp [V.men, hx])
      | false => exact .inr rfl
    · simp only [List.getElem?_map, Option.map_eq_some_iff] at hi
      obtain ⟨a', ha, rfl⟩ := hi
      refine ih' i a' v ha hv fun id hm => hh id (sub (cs := ds) ?_ ha hm)
      cases hx : V.mens id ds with
      | true => exact .inl (by simp [V.men, hx])
      | false => exact .inr rfl
  | may c x v _ hn ih => exact .may c _ v (fun hc => ih hc fun id hm => hh id (by simpa [V.men] using hm)) hn
  | view id sz lo n v h => exact .view _ sz lo n v (by rw [hh id (by simp [V.men])]; exact h)
  | ifc t x v _ ih => exact .ifc t _ v (ih fun id hm => hh id (by simpa [V.men] using hm))
  | un v => exact .un v

def O.ren (K : Nat) : O → O
  | .box cs => .box (V.rens K cs)
  | x => x

theorem OO.ren {w : World} {M : Nat → Prop} {hd hd' : Nat → Value} {h : Value} {K : Nat} {x : O} (H : OO w M hd h x) (hh : ∀ id, O.men id x = true → hd' (K + id) = hd id) :
    OO w M hd' h (x.ren K) := by
  cases H with
  | box cs vs e b hhd hb hl ho hv =>
    simp only [O.ren, rens_eq]
    refine .box _ vs e b hhd hb (by simpa using hl) ho fun i a v hi hvi => ?_
    simp only [List.getElem?_map, Option.map_eq_some_iff] at hi
    obtain ⟨a', ha, rfl⟩ := hi
    refine (hv i a' v ha hvi).ren fun id hm => hh id ?_
    cases hx : V.mens id cs with
    | true => exact hx
    | false => rw [V.mens_get hx ha] at hm; cases hm
  | arr e sz l xs hr hs ho hv => exact .arr e sz l xs hr hs ho hv
  | siter s pos b hhd hb hm => exact .siter s pos b hhd hb hm
  | map P k e kk m b D hhd hb hr => exact .map P k e kk m b D hhd hb hr

def ctx (w : World) (M0 : Nat → Prop) (h : ∀ b, M0 b → b < w.heap.size) (nt : Nat) : Ctx := ⟨w, fun _ => False, M0, nt, [], fun _ => undef, [], [], fun b hb => ⟨h b hb, fun h => h⟩⟩

def obs (o : List (Nat × O)) : List (Nat × Option O) := o.map fun p => (p.1, some p.2)

/-- THE CONTRACT: called with these, the function hands back that. -/
def AC (P : Program) (f : FuncId) (args : List V) (r : V) (ob : List (Nat × O)) : Prop :=
  ∀ (w : World) (M0 : Nat → Prop) (hM : ∀ b, M0 b → b < w.heap.size) (hd : Nat → Value) (vals : List Value), args.length = vals.length →
    (∀ (i : Nat) (x : V) (v : Value), args[i]? = some x → vals[i]? = some v → VV w M0 hd x v) → Calls P f ⟨vals⟩ w (Post (ctx w M0 hM 0) r (obs ob))

def idx : Nat → List V → List (Nat × V)
  | _, [] => []
  | n, x :: r => (n, x) :: idx (n + 1) r

theorem idx_get : ∀ {l : List V} {n t : Nat} {x : V}, lk (idx n l) t = some x → n ≤ t ∧ l[t - n]? = some x
  | [], n, t, x, h => by simp [idx, lk] at h
  | y :: l, n, t, x, h => by
    simp only [idx, lk] at h
    by_cases hn : n = t
    · subst hn; simp at h; subst h; simp
    · rw [beq_ne hn] at h
      obtain ⟨h1, h2⟩ := idx_get h
      refine ⟨by omega, ?_⟩
      have : t - n = (t - (n + 1)) + 1 := by omega
      rw [this]; simpa using h2

theorem AC.of {P : Program} {f : FuncId} {fn : Func} {c : Code} {args : List V} {r : V} {ob : List (Nat × O)} (hf : P.funcs[f]? = some fn) (hb : fn.body = some c) (hn : Nat.ble args.length fn.ntmps = true)
    (h : ∀ (w : World) (M0 : Nat → Prop) (hM : ∀ b, M0 b → b < w.heap.size), AK P (tf P f r (obs ob) (ctx w M0 hM fn.ntmps)) (ctx w M0 hM fn.ntmps) [.code c] ⟨idx 0 args, []⟩) : AC P f args r ob := by
  intro w M0 hM hd vals hl hv cs
  have hn := Nat.le_of_ble_eq_true hn
  let b : Frame := { (default : Frame) with fn := f, kind := .normal, roundOf := none }
  let a : Act := { tmps := (⟨vals⟩ : Array Value) ++ Array.replicate (fn.ntmps - (⟨vals⟩ : Array Value).size) undef, defers := [] }
  have henter : Frame.enter P f ⟨vals⟩ .normal = b.atR a [.code c] := by
    simp [Frame.enter, Frame.atR, hf, hb, b, a]
  rw [henter]
  have hpost : ∀ e w', Post (ctx w M0 hM fn.ntmps) r (obs ob) e w' → Post (ctx w M0 hM 0) r (obs ob) e w' := by
    rintro e w' ⟨v, hd1, he, hv, hm⟩
    exact ⟨v, hd1, he, hv, ⟨hm.ob, hm.lv, hm.inj, hm.fr⟩⟩
  suffices hsat : Sat (ctx w M0 hM fn.ntmps) ⟨idx 0 args, []⟩ a w by
    obtain ⟨m, ⟨e, w', fr, v, hR, he, hm, h1, h2⟩, hst⟩ := h w M0 hM a w hsat b cs rfl rfl rfl
    subst hm; subst he
    exact ⟨_, w', fr, hpost _ w' hR, hst, h1, h2⟩
  refine ⟨hd, ?_⟩
  have hno : ∀ b, ¬ Ow ⟨idx 0 args, []⟩ hd b := by
    rintro b ⟨id, x, hx, _⟩
    simp [St.go, lk] at hx
  refine ⟨by simp [a, ctx]; omega, fun t x hx => ?_, fun id x hx => by simp [St.go, lk] at hx, fun b hb => (hno b hb).elim, fun id1 id2 x1 x2 b h1 => by simp [St.go, lk] at h1, Chg.refl w _, ⟨rfl, List.nodup_nil, fun _ h => (List.not_mem_nil h).elim, fun _ h => (List.not_mem_nil h).elim, fun _ h => (List.not_mem_nil h).elim⟩⟩
  obtain ⟨_, hg⟩ := idx_get hx
  simp only [Nat.sub_zero] at hg
  have hlt : t < args.length := (List.getElem?_eq_some_iff.1 hg).1
  have hlt' : t < vals.length := by omega
  refine ⟨by simp [ctx]; omega, ?_⟩
  have := hv t x vals[t] hg (List.getElem?_eq_getElem hlt')
  have e : a.tmps.getD t undef = vals[t] := by
    simp [a, Array.getElem?_append, hlt']
  rw [e]
  exact this.ext (Chg.refl w (fun _ => False)) (fun _ h => h.elim) (fun b _ hm => hm.elim id fun h => (hno b h).elim) (fun _ _ => rfl)

/-- the operands of a call -/
inductive Evs (S : St) : List Operand → List V → Prop
  | n : Evs S [] []
  | c {x : Operand} {v : V} {xs : List Operand} {vs : List V} (h : Ev S x v) (hr : Evs S xs vs) : Evs S (x :: xs) (v :: vs)

def rds : List Operand → List V → List (Nat × V)
  | x :: xs, v :: vs => rd x v ++ rds xs vs
  | _, _ => []

theorem Evs.rd {S : St} {xs : List Operand} {vs : List V} (h : Evs S xs vs) : ∀ p, p ∈ rds xs vs → S.gs p.1 = some p.2 := by
  induction h with
  | n => simp [rds]
  | c h _ ih => exact mem_app h.rd ih

theorem Evs.of {S S' : St} {xs : List Operand} {vs : List V} (h : Evs S xs vs) (hr : ∀ p, p ∈ rds xs vs → S'.gs p.1 = some p.2) : Evs S' xs vs := by
  induction h with
  | n => exact .n
  | c h _ ih => exact .c (h.of fun p hp => hr p (List.mem_append_left _ hp)) (ih fun p hp => hr p (List.mem_append_right _ hp))

theorem Evs.vv {C : Ctx} {S : St} {hd : Nat → Value} {a : Act} {w : World} {xs : List Operand} {vs : List V} (hs : Sat' C S hd a w) (h : Evs S xs vs) :
    vs.length = (xs.map a.eval).length ∧ ∀ (i : Nat) (x : V) (v : Value), vs[i]? = some x → (xs.map a.eval)[i]? = some v → VV w (MM C S hd) hd x v := by
  induction h with
  | n => exact ⟨rfl, by simp⟩
  | c h _ ih =>
    refine ⟨by simp [ih.1], fun i x v hi hv => ?_⟩
    cases i with
    | zero => simp at hi hv; subst hi; subst hv; exact h.vv hs
    | succ i => exact ih.2 i x v (by simpa using hi) (by simpa using hv)

def shift (K : Nat) (ob : List (Nat × O)) : List (Nat × Option O) := ob.map fun p => (K + p.1, some (p.2.ren K))
def shiftI (K : Nat) (ob : List (Nat × O)) : List Nat := ob.map fun p => K + p.1

theorem lk_shift {K : Nat} : ∀ {ob : List (Nat × O)} {i : Nat} {y : Option O}, lk (shift K ob) i = some y → ∃ j x, i = K + j ∧ y = some (x.ren K) ∧ lk (obs ob) j = some (some x) ∧ i ∈ shiftI K ob
  | [], i, y, h => by simp [shift, lk] at h
  | (j, x) :: ob, i, y, h => by
    simp only [shift, List.map_cons, lk] at h
    by_cases hi : K + j = i
    · subst hi
      simp at h; subst h
      exact ⟨j, x, rfl, rfl, by simp [obs, lk], by simp [shiftI]⟩
    · rw [beq_ne hi] at h
      obtain ⟨j2, x2, rfl, rfl, h3, h4⟩ := lk_shift (ob := ob) (by simpa [shift] using h)
      refine ⟨j2, x2, rfl, rfl, ?_, ?_⟩
      · simp only [obs, List.map_cons, lk]
        rw [beq_ne (fun e => hi (by rw [e]))]
        exact h3
      · simp only [shiftI, List.map_cons, List.mem_cons]
        exact .inr h4

/-- a call of a function that has a body -/
def CF (P : Program) (g : FuncId) : Prop := ∀ (args : Array Value) (w : World), (callFunc g args).run P w = .ok (.enter g args) w

section
variable {P : Program} {ops : Array Oper} {S S' : St} {os : List Oper} {es : List Eff}
variable {d : Option Nat} {ty : TypeId} {pos : String} {af : Array Edge} 

theorem Trip.call {o : Oper} {rs : List (Nat × V)} {f : FuncId} {args : List V} {r : V} {ob : List (Nat × O)} (K : Nat) (hC : AC P f args r ob)
    (hg : o.guard = none)
    (h : ∀ (C : Ctx) (S : St) (hd : Nat → Value) (a : Act) (w : World), Sat' C S hd a w → (∀ p, p ∈ rs → S.gs p.1 = some p.2) →
      ∃ vals : List Value, (execOp a.eval o).run P w = .ok (.enter f ⟨vals⟩) w ∧ args.length = vals.length ∧
        ∀ (i : Nat) (x : V) (v : Value), args[i]? = some x → vals[i]? = some v → VV w (MM C S hd) hd x v)
    (hmen : ∀ id, V.men id r = true → K + id ∈ shiftI K ob) (hmenO : ∀ i x id, lk (obs ob) i = some (some x) → O.men id x = true → K + id ∈ shiftI K ob) :
    Trip P ops o (me rs [] (r.ren K) (shift K ob) (shiftI K ob)) := by
  intro C S a w ⟨hd, hs⟩ hp hdst
  unfold stepOp
  rw [if_pos (by simp [Region.wanted, hg])]
  obtain ⟨vals, hr, hl, hv⟩ := h C S hd a w hs (hp.rs trivial)
  simp only [Oper.wp, hr, Oper.upon]
  have hM0 : ∀ b, MM C S hd b → b < w.heap.size := fun b hb => hb.elim (fun h => Nat.lt_of_lt_of_le (C.hM0 b h).1 hs.fr.size) (fun h => (hs.lv b h).2)
  refine (hC w (MM C S hd) hM0 hd vals hl hv).mono fun e w' hpost => ?_
  obtain ⟨v, hd1, rfl, hv1, hm⟩ := hpost
  show Sat C _ (a.put o.dst v) w'
  let hd' : Nat → Value := fun i => if i ∈ shiftI K ob then hd1 (i - K) else hd i
  have hd'K : ∀ id, K + id ∈ shiftI K ob → hd' (K + id) = hd1 id := fun id hid => by
    simp only [hd', hid, if_true]; congr 1; omega
  have hw : Chg w w' (fun _ => False) := ⟨hm.fr.os, hm.fr.tape, hm.fr.output, hm.fr.size, fun k hk _ => hm.fr.block k hk (fun h => h)⟩
  have hcov : ∀ {i x}, lk (obs ob) i = some (some x) → (St.mk [] (obs ob)).go i = some x := fun {i x} hx => by simp [St.go, hx]
  have hMM : ∀ b, b < w'.heap.size → (C.M0 b ∨ Ow ((me rs [] (r.ren K) (shift K ob) (shiftI K ob)).app o.dst S) hd' b) →
      MM (ctx w (MM C S hd) hM0 0) ⟨[], obs ob⟩ hd1 b := by
    rintro b _ (hb | ⟨id, x, hx, hbk⟩)
    · exact .inl (.inl hb)
    · rw [app_go] at hx
      split at hx
      · rename_i y hy
        subst hx
        obtain ⟨j, x2, rfl, _, h3, h4⟩ := lk_shift hy
        exact .inr ⟨j, x2, hcov h3, by rw [hd'K j h4] at hbk; exact hbk⟩
      · refine .inl (.inr ⟨id, x, hx, ?_⟩)
        have hni : id ∉ shiftI K ob := fun hm => by rw [free_go (hp.fr id hm)] at hx; cases hx
        simp only [hd', hni, if_false] at hbk
        exact hbk
  refine ⟨hd', hs.step _ hp o.dst v hdst (fun _ => False) hw (fun _ h => h.elim) (fun id hid => ?_) (fun _ => ?_) (fun id x hx => ?_) (fun id x b hx hbk => ?_) (fun i1 i2 x1 x2 b h1 h2 hb1 hb2 => ?_)⟩
  · have : id ∉ shiftI K ob := hid
    simp only [hd', this, if_false]
  · exact (hv1.ext (Chg.refl w' (fun _ => False)) (fun _ h => h.elim) hMM (fun _ _ => rfl)).ren fun id hid => hd'K id (hmen id hid)
  · obtain ⟨j, x2, rfl, hx2, h3, h4⟩ := lk_shift (show lk (shift K ob) id = some (some x) from hx)
    cases hx2
    rw [hd'K j h4]
    exact ((hm.ob j x2 (hcov h3)).ext (Chg.refl w' (fun _ => False)) (fun _ h => h.elim) hMM (fun _ _ => rfl) (fun _ _ h => h)).ren fun id hid => hd'K id (hmenO j x2 id h3 hid)
  · obtain ⟨j, x2, rfl, _, h3, h4⟩ := lk_shift (show lk (shift K ob) id = some (some x) from hx)
    rw [hd'K j h4] at hbk
    have := hm.lv b ⟨j, x2, hcov h3, hbk⟩
    exact .inl ⟨this.1.resolve_right (fun h => h), this.2⟩
  · obtain ⟨j1, y1, rfl, _, h3, h4⟩ := lk_shift (show lk (shift K ob) i1 = some (some x1) from h1)
    obtain ⟨j2, y2, rfl, _, h5, h6⟩ := lk_shift (show lk (shift K ob) i2 = some (some x2) from h2)
    rw [hd'K j1 h4] at hb1
    rw [hd'K j2 h6] at hb2
    rw [hm.inj j1 j2 y1 y2 b (hcov h3) (hcov h5) hb1 hb2]

theorem run_resolve_func {f : FuncId} {xs : Array Operand} {ts : Array TypeId} {a : Act} {w : World} {o : Oper} (ho : o.op = .call ⟨.value (.func f), xs, ts⟩) (hf : CF P f) :
    (execOp a.eval o).run P w = .ok (.enter f (xs.map a.eval)) w := by
  simp only [execOp, ho, resolve, Act.eval, Deferred.ofValue, Sem.run_bind, Sem.run_pure, Result.andThen_ok, invoke]
  simp [hf _ w]

/-- a call whose results are new -/
theorem cn {f : FuncId} {xs : Array Operand} {ts : Array TypeId} {args : List V} {r : V} {ob : List (Nat × O)} (K : Nat) (hF : CF P f) (hC : AC P f args r ob) (hx : Evs S xs.toList args)
    (hm : ∀ id, V.men id r = true → K + id ∈ shiftI K ob) (hmO : ∀ i x id, lk (obs ob) i = some (some x) → O.men id x = true → K + id ∈ shiftI K ob)
    (hf : ((shiftI K ob).all S.free) = true)
    (D : Der P ops ((me (rds xs.toList args) [] (r.ren K) (shift K ob) (shiftI K ob)).app d S) os es S') :
    Der P ops S (⟨d, .call ⟨.value (.func f), xs, ts⟩, ty, pos, af, none⟩ :: os) (me (rds xs.toList args) [] (r.ren K) (shift K ob) (shiftI K ob) :: es) S' := by
  refine .cons ?_ (pre_me hx.rd (fun _ h => (List.not_mem_nil h).elim) (fun id hid => List.all_eq_true.1 hf id hid)) D
  refine Trip.call (o := ⟨d, .call ⟨.value (.func f), xs, ts⟩, ty, pos, af, none⟩) K hC rfl (fun C S2 hd a w hs h2 => ?_) hm hmO
  have he := (hx.of h2).vv hs
  refine ⟨xs.toList.map a.eval, ?_, he.1, he.2⟩
  rw [run_resolve_func rfl hF]
  congr 2
  apply Array.ext'; simp

end
end Xb
