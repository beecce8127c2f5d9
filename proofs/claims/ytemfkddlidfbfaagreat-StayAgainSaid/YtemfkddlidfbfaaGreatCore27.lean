/- Own text: Core27. -/
import Derived.Test.YtemfkddlidfbfaaGreatCore26
set_option linter.all false
set_option linter.unusedVariables false
set_option linter.unusedSimpArgs false
set_option linter.unnecessarySimpa false
set_option linter.deprecated false
/-! Calls that lend boxes: what the callee is pointed to is turned in place. -/
namespace Xb
open Go

def ctxX (w : World) (X M0 : Nat → Prop) (h : ∀ b, M0 b → b < w.heap.size ∧ ¬ X b) (nt : Nat) (pn : List Nat) (pv : Nat → Value) : Ctx := ⟨w, X, M0, nt, pn, pv, [], [], h⟩

/-- boxes of data -/
def bxs (lo : List (Nat × List A)) : List (Nat × Option O) := lo.map fun p => (p.1, some (.box (p.2.map .ro)))

def PostX (C : Ctx) (r : V) (o : List (Nat × Option O)) (kp : List (Nat × V)) (e : Ending) (w : World) : Prop :=
  ∃ v hd, e = .returned v ∧ VV w (MM C ⟨[], o⟩ hd) hd r v ∧ Mem C o hd w ∧ ∀ p, p ∈ kp → VV w (MM C ⟨[], o⟩ hd) hd p.2 (C.pv p.1)

/-- a function that is lent something, to its end -/
def tx (P : Program) (f : FuncId) (r : V) (ob : List (Nat × Option O)) (kp : List (Nat × V)) (C : Ctx) : Tgt :=
  ⟨none, fun b _ => b.fn = f, fun _ cs m => ∃ e w' fr v, PostX C r ob kp e w' ∧ e = .returned v ∧ m = lone fr cs w' ∧ fr.fn = f ∧ fr.leaving P w' e⟩

theorem PostX.congr {C C0 : Ctx} {r : V} {o : List (Nat × Option O)} {kp : List (Nat × V)} {e : Ending} {w : World} (h : PostX C r o kp e w) (h1 : C0.w0 = C.w0) (h2 : C0.X = C.X) (h3 : C0.M0 = C.M0)
    (h4 : ∀ p, p ∈ kp → C0.pv p.1 = C.pv p.1) : PostX C0 r o kp e w := by
  obtain ⟨v, hd, he, hv, hm, hk⟩ := h
  have hM : MM C0 ⟨[], o⟩ hd = MM C ⟨[], o⟩ hd := by funext b; simp [MM, h3]
  refine ⟨v, hd, he, by rw [hM]; exact hv, ⟨by rw [hM]; exact hm.ob, by rw [h1, h2]; exact hm.lv, hm.inj, by rw [h1, h2]; exact hm.fr⟩, fun p hp => by rw [hM, h4 p hp]; exact hk p hp⟩

section
variable {P : Program} {T : Tgt} {C : Ctx} {k : List Item} {S : St}

def inB (t : Nat) (l : List Nat) : Bool := l.any fun u => Nat.beq t u
theorem inB_spec {t : Nat} {l : List Nat} (h : inB t l = true) : t ∈ l := by
  obtain ⟨u, hu, e⟩ := List.any_eq_true.1 h
  rw [Nat.eq_of_beq_eq_true e]; exact hu

/-- the end of a function that was lent something -/
theorem AK.rtx {f : FuncId} {r : V} {ob : List (Nat × Option O)} {kp : List (Nat × V)} {C0 : Ctx} {fn : Func} {xs : List V} {o : List (Nat × Option O)} (hf : P.funcs[f]? = some fn) (hr : Res P S fn.results.toList xs) (ho : KeepO S o) (hp : pack xs = r) (hob : o = ob)
    (hk : Keep S kp) (hpn : (kp.all fun p => inB p.1 C.pn) = true)
    (hC : C0.w0 = C.w0 ∧ C0.X = C.X ∧ C0.M0 = C.M0 ∧ C0.pv = C.pv := by exact ⟨rfl, rfl, rfl, rfl⟩) :
    AK P (tx P f r ob kp C0) C (.code .ret :: k) S := by
  rintro a w ⟨hd, hs1⟩ b cs hro hbk hbf
  subst hob
  change b.fn = f at hbf
  change b.roundOf = none at hro
  obtain ⟨w2, hst, e1, e2, e3, e4, e5⟩ := take_marks (P := P) (cs := cs) C.mks { b.atR a (.code .ret :: k) with mode := .returning } w rfl hs1.df.df hs1.df.nd (fun D hD => (hs1.df.mkd D hD).2)
  have hs : Sat' { C with mks := [], fx := [], pn := [] } S hd { a with defers := [] } w2 :=
    hs1.turn rfl rfl rfl rfl rfl (B := fun D => D ∈ C.mks) ⟨e1, e2, e3, by omega, fun k _ hk => e5 k hk⟩ (fun D hD => ⟨(hs1.df.mkd D hD).1, fun _ => ⟨_, (hs1.df.mkd D hD).2, rfl⟩⟩)
      ⟨rfl, List.nodup_nil, fun _ h => (List.not_mem_nil h).elim, fun _ h => (List.not_mem_nil h).elim, fun _ h => (List.not_mem_nil h).elim⟩
  obtain ⟨vs, hrun, hl, hv⟩ := run_Res hs hr
  have hres : (results fn a.tmps).run P w2 = .ok (if h : vs.toArray.size = 1 then vs.toArray[0] else .tuple vs.toArray) w2 := by
    have e : results fn a.tmps = (do let us ← fn.results.mapM (resOne a.tmps); pure (if h : us.size = 1 then us[0] else .tuple us)) := by
      unfold results
      congr 2
    rw [e, Sem.run_bind, Array.mapM_eq_mapM_toList]
    simp only [Sem.run_map, hrun, Result.andThen_ok]
    rfl
  have hM : ∀ b, b < w2.heap.size → MM C ⟨[], o⟩ hd b → MM C S hd b := by
    rintro b _ (hm | ⟨id, x, hx, hb⟩)
    · exact .inl hm
    · exact .inr ⟨id, x, ho.go hx, hb⟩
  have hext : ∀ {x : V} {v : Value}, VV w2 (MM C S hd) hd x v → VV w2 (MM C ⟨[], o⟩ hd) hd x v := fun h => h.ext (Chg.refl w2 (fun _ => False)) (fun _ h => h.elim) hM (fun _ _ => rfl)
  refine ⟨_, ⟨_, w2, { { b.atR a (.code .ret :: k) with mode := .returning } with defers := [] }, _, PostX.congr (C := C) ⟨_, hd, rfl, ?_, ?_, ?_⟩ hC.1 hC.2.1 hC.2.2.1 (fun p _ => by rw [hC.2.2.2]), rfl, rfl, hbf, rfl, rfl, hbk, fn, by rw [← hbf] at hf; exact hf, hres⟩, Steps.trans (.one (stepR_ret hro)) hst⟩
  · subst hp
    have tup : ∀ {xs : List V} {vs : List Value}, xs.length = vs.length → (∀ (i : Nat) (x : V) (v : Value), xs[i]? = some x → vs[i]? = some v → VV w2 (MM C S hd) hd x v) →
        VV w2 (MM C ⟨[], o⟩ hd) hd (mkTup xs) (.tuple vs.toArray) := fun hl hv => (VV.tup _ _ hl fun i x v hi hvi => hext (hv i x v hi hvi)).mkTup
    match xs, vs, hl, hv with
    | [x], [v], _, hv => exact hext (hv 0 x v rfl rfl)
    | [], [], hl, hv => exact tup hl hv
    | x :: y :: xs, u :: v :: vs, hl, hv => exact tup hl hv
  · have h0 := hs.keep (l := []) (o := o) .n ho
    exact ⟨h0.ob, h0.lv, h0.inj, h0.fr⟩
  · intro p hpk
    have hin : p.1 ∈ C.pn := inB_spec (List.all_eq_true.1 hpn p hpk)
    have hg : S.gs p.1 = some p.2 := by
      clear hpn
      induction hk with
      | n => cases hpk
      | @c t x l h hl ih =>
        rcases List.mem_cons.1 hpk with rfl | hpk
        · exact h
        · exact ih hpk
    have h2 := (hs.sl p.1 p.2 hg).2
    rw [show ({ a with defers := [] } : Act).tmps.getD p.1 undef = C.pv p.1 from hs1.df.pn p.1 hin] at h2
    exact hext h2
end

/-- THE CONTRACT of a function that is lent boxes -/
def AX (P : Program) (f : FuncId) (args : List V) (lo : List (Nat × List A)) (pn : List Nat) (r : V) (kp : List (Nat × V)) (lo' : List (Nat × List A)) : Prop :=
  ∀ (w : World) (X M0 : Nat → Prop) (hM : ∀ b, M0 b → b < w.heap.size ∧ ¬ X b) (hd : Nat → Value) (vals : List Value), args.length = vals.length →
    (∀ (i : Nat) (x : V) (v : Value), args[i]? = some x → vals[i]? = some v → VV w (MM (ctxX w X M0 hM 0 [] fun _ => undef) ⟨[], bxs lo⟩ hd) hd x v) →
    Mem (ctxX w X M0 hM 0 [] fun _ => undef) (bxs lo) hd w →
    Calls P f ⟨vals⟩ w (PostX (ctxX w X M0 hM 0 pn fun t => vals.getD t undef) r (bxs lo') kp)

theorem AX.of {P : Program} {f : FuncId} {fn : Func} {c : Code} {args : List V} {lo : List (Nat × List A)} {pn : List Nat} {r : V} {kp : List (Nat × V)} {lo' : List (Nat × List A)}
    (hf : P.funcs[f]? = some fn) (hb : fn.body = some c) (hn : Nat.ble args.length fn.ntmps = true)
    (h : ∀ (w : World) (X M0 : Nat → Prop) (hM : ∀ b, M0 b → b < w.heap.size ∧ ¬ X b) (pv : Nat → Value), AK P (tx P f r (bxs lo') kp (ctxX w X M0 hM fn.ntmps pn pv)) (ctxX w X M0 hM fn.ntmps pn pv) [.code c] ⟨idx 0 args, bxs lo⟩) :
    AX P f args lo pn r kp lo' := by
  intro w X M0 hM hd vals hl hv hmem cs
  have hn := Nat.le_of_ble_eq_true hn
  let b : Frame := { (default : Frame) with fn := f, kind := .normal, roundOf := none }
  let a : Act := { tmps := (⟨vals⟩ : Array Value) ++ Array.replicate (fn.ntmps - (⟨vals⟩ : Array Value).size) undef, defers := [] }
  have henter : Frame.enter P f ⟨vals⟩ .normal = b.atR a [.code c] := by
    simp [Frame.enter, Frame.atR, hf, hb, b, a]
  rw [henter]
  have hget : ∀ t, a.tmps.getD t undef = vals.getD t undef := by
    intro t
    by_cases ht : t < vals.length
    · simp [a, Array.getElem?_append, ht]
    · simp only [a, Array.getD_eq_getD_getElem?, List.getD_eq_getElem?_getD]
      rw [Array.getElem?_append, if_neg (by simpa using ht), List.getElem?_eq_none (by omega)]
      simp only [Array.getElem?_replicate]
      split <;> rfl
  have hpost : ∀ e w', PostX (ctxX w X M0 hM fn.ntmps pn fun t => vals.getD t undef) r (bxs lo') kp e w' → PostX (ctxX w X M0 hM 0 pn fun t => vals.getD t undef) r (bxs lo') kp e w' :=
    fun e w' h => h.congr rfl rfl rfl (fun _ _ => rfl)
  suffices hsat : Sat (ctxX w X M0 hM fn.ntmps pn fun t => vals.getD t undef) ⟨idx 0 args, bxs lo⟩ a w by
    obtain ⟨m, ⟨e, w', fr, v, hR, he, hm, h1, h2⟩, hst⟩ := h w X M0 hM _ a w hsat b cs rfl rfl rfl
    subst hm; subst he
    exact ⟨_, w', fr, hpost _ w' hR, hst, h1, h2⟩
  refine ⟨hd, ?_⟩
  refine ⟨by simp [a, ctxX]; omega, fun t x hx => ?_, hmem.ob, hmem.lv, hmem.inj, hmem.fr, ⟨rfl, List.nodup_nil, fun _ h => (List.not_mem_nil h).elim, fun _ h => (List.not_mem_nil h).elim, fun t _ => hget t⟩⟩
  obtain ⟨_, hg⟩ := idx_get hx
  simp only [Nat.sub_zero] at hg
  have hlt : t < args.length := (List.getElem?_eq_some_iff.1 hg).1
  have hlt' : t < vals.length := by omega
  refine ⟨by simp [ctxX]; omega, ?_⟩
  have := hv t x vals[t] hg (List.getElem?_eq_getElem hlt')
  rw [hget t, List.getD_eq_getElem?_getD, List.getElem?_eq_getElem hlt']
  exact this

/-! what stays at its place -/
mutual
def V.pts : V → V → List Nat
  | .ptr i _, .ptr j _ => bif Nat.beq i j then [i] else []
  | .ifc _ x, .ifc _ y => V.pts x y
  | .fn _ _ ds, .fn _ _ es => V.ptss ds es
  | .cptr cs, .cptr es => V.ptss cs es
  | _, _ => []
def V.ptss : List V → List V → List Nat
  | x :: xs, y :: ys => V.pts x y ++ V.ptss xs ys
  | _, _ => []
end

theorem ptss_mem {j : Nat} : ∀ {cs es : List V}, j ∈ V.ptss cs es → ∃ (k : Nat) (x y : V), cs[k]? = some x ∧ es[k]? = some y ∧ j ∈ V.pts x y
  | [], _, h => by simp [V.ptss] at h
  | _ :: _, [], h => by simp [V.ptss] at h
  | x :: cs, y :: es, h => by
    simp only [V.ptss, List.mem_append] at h
    rcases h with h | h
    · exact ⟨0, x, y, rfl, rfl, h⟩
    · obtain ⟨k, u, v, h1, h2, h3⟩ := ptss_mem h
      exact ⟨k + 1, u, v, by simpa using h1, by simpa using h2, h3⟩

theorem pts_ok {w w' : World} {M M' X : Nat → Prop} {hd hd1 : Nat → Value} (hw : Chg w w' X) (hX : ∀ b, X b → M b) {x : V} {v : Value} (h : VV w M hd x v) :
    ∀ {y : V}, VV w' M' hd1 y v → ∀ j, j ∈ V.pts x y → ∃ b, blk (hd j) = some b ∧ blk (hd1 j) = some b := by
  induction h with
  | ro a v h => intro y _ j hj; simp [V.pts] at hj
  | own id h => intro y _ j hj; simp [V.pts] at hj
  | ptr id off b h =>
    intro y hy j hj
    cases y <;> simp [V.pts] at hj
    rename_i i o
    cases hb : Nat.beq id i with
    | false => rw [hb] at hj; simp at hj
    | true =>
      have := Nat.eq_of_beq_eq_true hb
      subst this
      rw [hb] at hj; simp at hj; subst hj
      cases hy with
      | ptr _ _ _ h' => exact ⟨b, h, h'⟩
  | rptr => intro y _ j hj; simp [V.pts] at hj
  | cptr cs b off vs hMb hb hl hc ho _ ih =>
    intro y hy j hj
    cases y <;> simp [V.pts] at hj
    rename_i es
    cases hy with
    | cptr _ _ _ vs' hMb' hb' hl' hc' ho' hv' =>
      obtain ⟨k, p, q, h1, h2, h3⟩ := ptss_mem hj
      have hk1 : k < vs.length := by rw [← hl]; exact (List.getElem?_eq_some_iff.1 h1).1
      have hk2 : k < vs'.length := by rw [← hl']; exact (List.getElem?_eq_some_iff.1 h2).1
      have c1 := hc k vs[k] (List.getElem?_eq_getElem hk1)
      have c2 := hc' k vs'[k] (List.getElem?_eq_getElem hk2)
      rw [World.cell?_of_block (w := w) (hw.block b hb (fun h => hMb (hX b h))), c1] at c2
      have e : vs[k] = vs'[k] := by simpa using c2
      exact ih k p vs[k] h1 (List.getElem?_eq_getElem hk1) (hv' k q vs[k] h2 (by rw [e]; exact List.getElem?_eq_getElem hk2)) j h3
  | agg => intro y _ j hj; simp [V.pts] at hj
  | tup => intro y _ j hj; simp [V.pts] at hj
  | fn f cs ds vs us hl hl' _ _ _ ih =>
    intro y hy j hj
    cases y <;> simp [V.pts] at hj
    rename_i f' cs' es
    cases hy with
    | fn _ _ _ _ us' _ hl2 _ hv2 =>
      obtain ⟨k, p, q, h1, h2, h3⟩ := ptss_mem hj
      have hk1 : k < us.length := by rw [← hl']; exact (List.getElem?_eq_some_iff.1 h1).1
      exact ih k p us[k] h1 (List.getElem?_eq_getElem hk1) (hv2 k q us[k] h2 (List.getElem?_eq_getElem hk1)) j h3
  | may => intro y _ j hj; simp [V.pts] at hj
  | view => intro y _ j hj; simp [V.pts] at hj
  | ifc t x v _ ih =>
    intro y hy j hj
    cases y <;> simp [V.pts] at hj
    cases hy with
    | ifc _ _ _ h' => exact ih h' j hj
  | un => intro y _ j hj; simp [V.pts] at hj

/-- every box that is lent stays at its place -/
def kpB (lo : List (Nat × List A)) (args : List V) (kp : List (Nat × V)) : Bool :=
  lo.all fun p => kp.any fun q => match args[q.1]? with | some x => inB p.1 (V.pts x q.2) | none => false

theorem kpB_spec {lo : List (Nat × List A)} {args : List V} {kp : List (Nat × V)} (h : kpB lo args kp = true) {p : Nat × List A} (hp : p ∈ lo) :
    ∃ q, q ∈ kp ∧ ∃ x, args[q.1]? = some x ∧ p.1 ∈ V.pts x q.2 := by
  have := List.all_eq_true.1 h p hp
  obtain ⟨q, hq, e⟩ := List.any_eq_true.1 this
  split at e
  · rename_i x hx
    exact ⟨q, hq, x, hx, inB_spec e⟩
  · cases e

theorem bxs_lk : ∀ {lo : List (Nat × List A)} {i : Nat} {x : O}, (St.mk [] (bxs lo)).go i = some x → ∃ cs, (i, cs) ∈ lo ∧ x = .box (cs.map .ro)
  | [], i, x, h => by simp [bxs, St.go, lk] at h
  | (j, cs) :: lo, i, x, h => by
    simp only [bxs, List.map_cons, St.go, lk] at h
    by_cases hj : j = i
    · subst hj; simp at h; exact ⟨cs, by simp, h.symm⟩
    · rw [beq_ne hj] at h
      obtain ⟨cs', h1, h2⟩ := bxs_lk (lo := lo) (i := i) (x := x) (by simpa [bxs, St.go] using h)
      exact ⟨cs', by simp [h1], h2⟩
theorem lk_bxs : ∀ {lo : List (Nat × List A)} {i : Nat}, i ∈ lo.map (·.1) → ∃ cs, (i, cs) ∈ lo ∧ (St.mk [] (bxs lo)).go i = some (.box (cs.map .ro))
  | [], i, h => by simp at h
  | (j, cs) :: lo, i, h => by
    by_cases hj : j = i
    · subst hj; exact ⟨cs, by simp, by simp [bxs, St.go, lk]⟩
    · obtain ⟨cs', h1, h2⟩ := lk_bxs (lo := lo) (i := i) (by simpa [Ne.symm hj] using h)
      refine ⟨cs', by simp [h1], ?_⟩
      simp only [bxs, List.map_cons, St.go, lk]
      rw [beq_ne hj]
      simpa [bxs, St.go] using h2

def wox (g : Nat → Nat) (lo : List (Nat × List A)) : List (Nat × Option O) := lo.map fun p => (g p.1, some (.box (p.2.map .ro)))
theorem lk_wox {g : Nat → Nat} : ∀ {lo : List (Nat × List A)} {i : Nat} {y : Option O}, lk (wox g lo) i = some y → ∃ p, p ∈ lo ∧ i = g p.1 ∧ y = some (.box (p.2.map .ro))
  | [], i, y, h => by simp [wox, lk] at h
  | p :: lo, i, y, h => by
    simp only [wox, List.map_cons, lk] at h
    by_cases hj : g p.1 = i
    · subst hj; simp at h; exact ⟨p, by simp, rfl, h.symm⟩
    · rw [beq_ne hj] at h
      obtain ⟨q, h1, h2, h3⟩ := lk_wox (lo := lo) h
      exact ⟨q, by simp [h1], h2, h3⟩
theorem wox_lk {g : Nat → Nat} : ∀ {lo : List (Nat × List A)} {p : Nat × List A}, p ∈ lo → ∃ y, lk (wox g lo) (g p.1) = some y
  | q :: lo, p, h => by
    simp only [wox, List.map_cons, lk]
    by_cases hj : g q.1 = g p.1
    · rw [hj]; simp
    · rw [beq_ne hj]
      rcases List.mem_cons.1 h with rfl | h
      · exact absurd rfl hj
      · exact wox_lk (lo := lo) h

theorem mp_ro (g : Nat → Nat) (cs : List A) : (O.box (cs.map .ro)).mp g = .box (cs.map .ro) := by
  simp only [O.mp, mps_eq, List.map_map]
  rfl
theorem men_ro (id : Nat) (cs : List A) : O.men id (.box (cs.map .ro)) = false := by
  simp only [O.men]
  induction cs with
  | nil => rfl
  | cons a cs ih => simp [V.mens, V.men, ih]

section
variable {P : Program} {ops : Array Oper} {S S' : St} {os : List Oper} {es : List Eff}
variable {d : Option Nat} {ty : TypeId} {pos : String} {af : Array Edge}

theorem Trip.callX {o : Oper} {rs : List (Nat × V)} {f : FuncId} {args : List V} {lo lo' : List (Nat × List A)} {pn : List Nat} {r : A} {kp : List (Nat × V)} (g : Nat → Nat)
    (hC : AX P f args lo pn (.ro r) kp lo') (hk : kpB lo args kp = true) (hi : injB g (lo.map (·.1)) = true) (hlo : lo'.map (·.1) = lo.map (·.1)) (hnd : (lo.map (·.1)).Nodup)
    (hg : o.guard = none)
    (h : ∀ (C : Ctx) (S : St) (hd : Nat → Value) (a : Act) (w : World), Sat' C S hd a w → (∀ p, p ∈ rs → S.gs p.1 = some p.2) →
      ∃ vals : List Value, (execOp a.eval o).run P w = .ok (.enter f ⟨vals⟩) w ∧ args.length = vals.length ∧
        ∀ (i : Nat) (x : V) (v : Value), args[i]? = some x → vals[i]? = some v → VV w (MM C S hd) hd (x.mp g) v) :
    Trip P ops o ⟨[], True, rs, lo.map fun p => (g p.1, .box (p.2.map .ro)), .ro r, wox g lo', []⟩ := by
  intro C S a w ⟨hd, hs⟩ hp hdst
  unfold stepOp
  rw [if_pos (by simp [Region.wanted, hg])]
  obtain ⟨vals, hr, hl, hv⟩ := h C S hd a w hs (hp.rs trivial)
  simp only [Oper.wp, hr, Oper.upon]
  have hgo : ∀ p, p ∈ lo → S.go (g p.1) = some (.box (p.2.map .ro)) := fun p hpl => hp.ro trivial (g p.1, .box (p.2.map .ro)) (List.mem_map.2 ⟨p, hpl, rfl⟩)
  let X : Nat → Prop := fun b => ∃ p, p ∈ lo ∧ blk (hd (g p.1)) = some b
  let M0 : Nat → Prop := fun b => MM C S hd b ∧ ¬ X b
  have hsz : ∀ b, MM C S hd b → b < w.heap.size := fun b hb => hb.elim (fun h => Nat.lt_of_lt_of_le (C.hM0 b h).1 hs.fr.size) (fun h => (hs.lv b h).2)
  have hM : ∀ b, M0 b → b < w.heap.size ∧ ¬ X b := fun b hb => ⟨hsz b hb.1, hb.2⟩
  have hXM : ∀ b, X b → MM C S hd b := fun b ⟨p, hpl, hb⟩ => .inr ⟨g p.1, _, hgo p hpl, hb⟩
  have hin : ∀ b, MM (ctxX w X M0 hM 0 [] fun _ => undef) ⟨[], bxs lo⟩ (fun i => hd (g i)) b → MM C S hd b := by
    rintro b (hm | ⟨id, x, hx, hb⟩)
    · exact hm.1
    · obtain ⟨cs, h1, rfl⟩ := bxs_lk hx
      exact .inr ⟨g id, _, hgo (id, cs) h1, hb⟩
  have hargs : ∀ (i : Nat) (x : V) (v : Value), args[i]? = some x → vals[i]? = some v → VV w (MM (ctxX w X M0 hM 0 [] fun _ => undef) ⟨[], bxs lo⟩ (fun i => hd (g i))) (fun i => hd (g i)) x v :=
    fun i x v hx hvl => ((hv i x v hx hvl).ext (Chg.refl w (fun _ => False)) (fun _ h => h.elim) (fun b _ hm => hin b hm) (fun _ _ => rfl)).unmp rfl
  have hmem : Mem (ctxX w X M0 hM 0 [] fun _ => undef) (bxs lo) (fun i => hd (g i)) w := by
    refine ⟨fun id x hx => ?_, ?_, fun i1 i2 x1 x2 b h1 h2 hb1 hb2 => ?_, Chg.refl w _⟩
    · obtain ⟨cs, h1, rfl⟩ := bxs_lk hx
      have := hs.ob (g id) _ (hgo (id, cs) h1)
      exact (OO.ext (x := (O.box (cs.map .ro)).mp g) (by rw [mp_ro]; exact this) (Chg.refl w (fun _ => False)) (fun _ h => h.elim) (fun b _ hm => hin b hm) (fun _ _ => rfl) (fun _ _ h => h)).unmp
    · rintro b ⟨id, x, hx, hb⟩
      obtain ⟨cs, h1, rfl⟩ := bxs_lk hx
      exact ⟨.inr ⟨(id, cs), h1, hb⟩, hsz b (hXM b ⟨(id, cs), h1, hb⟩)⟩
    · obtain ⟨c1, m1, rfl⟩ := bxs_lk h1
      obtain ⟨c2, m2, rfl⟩ := bxs_lk h2
      have := hs.inj (g i1) (g i2) _ _ b (hgo _ m1) (hgo _ m2) hb1 hb2
      exact injB_spec hi i1 i2 (List.mem_map.2 ⟨_, m1, rfl⟩) (List.mem_map.2 ⟨_, m2, rfl⟩) this
  refine (hC w X M0 hM (fun i => hd (g i)) vals hl hargs hmem).mono fun e w' hpost => ?_
  obtain ⟨v, hd1, rfl, hv1, hm, hkp⟩ := hpost
  show Sat C _ (a.put o.dst v) w'
  have hids : ∀ {i : Nat} {cs : List A}, (i, cs) ∈ lo' → ∃ cs0, (i, cs0) ∈ lo := by
    intro i cs hm'
    have : i ∈ lo'.map (·.1) := List.mem_map.2 ⟨_, hm', rfl⟩
    rw [hlo] at this
    obtain ⟨p, hp1, rfl⟩ := List.mem_map.1 this
    exact ⟨p.2, hp1⟩
  have hids' : ∀ {i : Nat} {cs : List A}, (i, cs) ∈ lo → ∃ cs0, (i, cs0) ∈ lo' := by
    intro i cs hm'
    have : i ∈ lo.map (·.1) := List.mem_map.2 ⟨_, hm', rfl⟩
    rw [← hlo] at this
    obtain ⟨p, hp1, rfl⟩ := List.mem_map.1 this
    exact ⟨p.2, hp1⟩
  have hXin : ∀ b, X b → MM (ctxX w X M0 hM 0 [] fun _ => undef) ⟨[], bxs lo⟩ (fun i => hd (g i)) b := by
    rintro b ⟨p, hpl, hb⟩
    obtain ⟨cs, h1, h2⟩ := lk_bxs (lo := lo) (i := p.1) (List.mem_map.2 ⟨p, hpl, rfl⟩)
    exact .inr ⟨p.1, _, h2, hb⟩
  have hkeep : ∀ p, p ∈ lo → hd1 p.1 = hd (g p.1) := by
    intro p hpl
    obtain ⟨q, hq, x, hx, hpt⟩ := kpB_spec hk hpl
    have hlt : q.1 < vals.length := by rw [← hl]; exact (List.getElem?_eq_some_iff.1 hx).1
    have h2 := hkp q hq
    have h3 : (ctxX w X M0 hM 0 pn fun t => vals.getD t undef).pv q.1 = vals[q.1] := by
      show vals.getD q.1 undef = _
      rw [List.getD_eq_getElem?_getD, List.getElem?_eq_getElem hlt]; rfl
    rw [h3] at h2
    obtain ⟨b, b1, b2⟩ := pts_ok (X := X) (w := w) (w' := w') ⟨hm.fr.os, hm.fr.tape, hm.fr.output, hm.fr.size, hm.fr.block⟩ hXin (hargs q.1 x vals[q.1] hx (List.getElem?_eq_getElem hlt)) h2 p.1 hpt
    obtain ⟨_, _, _, e1, _⟩ := (hs.ob (g p.1) _ (hgo p hpl)).box_inv
    obtain ⟨cs', m', g'⟩ := lk_bxs (lo := lo') (i := p.1) (by rw [hlo]; exact List.mem_map.2 ⟨p, hpl, rfl⟩)
    obtain ⟨_, _, _, e2, _⟩ := (hm.ob p.1 _ g').box_inv
    have b1 : blk (hd (g p.1)) = some b := b1
    rw [e1] at b1 ⊢; rw [e2] at b2 ⊢
    simp only [blk, Option.some.injEq] at b1 b2
    rw [b1, b2]
  have hnX : ∀ b, C.M0 b → ¬ X b := by
    rintro b hm0 ⟨p, hpl, hb⟩
    have h1 := C.hM0 b hm0
    rcases (hs.lv b ⟨g p.1, _, hgo p hpl, hb⟩).1 with h2 | h2
    · omega
    · exact h1.2 h2
  have hMM : ∀ b, b < w'.heap.size → (C.M0 b ∨ Ow ((⟨[], True, rs, lo.map fun p => (g p.1, .box (p.2.map .ro)), .ro r, wox g lo', []⟩ : Eff).app o.dst S) hd b) →
      MM (ctxX w X M0 hM 0 pn fun t => vals.getD t undef) ⟨[], bxs lo'⟩ hd1 b := by
    rintro b _ (hb | ⟨id, x, hx, hbk⟩)
    · exact .inl ⟨.inl hb, hnX b hb⟩
    · rw [app_go] at hx
      split at hx
      · rename_i y hy
        subst hx
        obtain ⟨p, hpl, rfl, _⟩ := lk_wox hy
        obtain ⟨cs0, h0⟩ := hids (i := p.1) (cs := p.2) hpl
        obtain ⟨cs, h1, h2⟩ := lk_bxs (lo := lo') (i := p.1) (List.mem_map.2 ⟨p, hpl, rfl⟩)
        exact .inr ⟨p.1, _, h2, by rw [hkeep (p.1, cs0) h0]; exact hbk⟩
      · rename_i hnone
        refine .inl ⟨.inr ⟨id, x, hx, hbk⟩, ?_⟩
        rintro ⟨p, hpl, hb⟩
        have := hs.inj id (g p.1) _ _ b hx (hgo p hpl) hbk hb
        subst this
        obtain ⟨cs', h1⟩ := hids' (i := p.1) (cs := p.2) hpl
        obtain ⟨y, hy⟩ := wox_lk (g := g) h1
        exact absurd (hnone.symm.trans hy) (by simp)
  refine ⟨hd, hs.step _ hp o.dst v hdst X ⟨hm.fr.os, hm.fr.tape, hm.fr.output, hm.fr.size, hm.fr.block⟩ (fun b hb => ?_) (fun _ _ => rfl) (fun _ => ?_) (fun id x hx => ?_) (fun id x b hx hbk => ?_) (fun i1 i2 x1 x2 b h1 h2 hb1 hb2 => ?_)⟩
  · obtain ⟨p, hpl, hb⟩ := hb
    obtain ⟨cs', h1⟩ := hids' (i := p.1) (cs := p.2) hpl
    obtain ⟨y, hy⟩ := wox_lk (g := g) h1
    exact ⟨g p.1, _, y, hgo p hpl, hb, hy⟩
  · exact .ro _ _ (hv1.ro_of.ext (Chg.refl w' (fun _ => False)) (fun _ h => h.elim) hMM)
  · obtain ⟨p, hpl, rfl, hy⟩ := lk_wox (show lk (wox g lo') id = some (some x) from hx)
    cases hy
    obtain ⟨cs0, h0⟩ := hids (i := p.1) (cs := p.2) hpl
    obtain ⟨cs, h1, h2⟩ := lk_bxs (lo := lo') (i := p.1) (List.mem_map.2 ⟨p, hpl, rfl⟩)
    have he : cs = p.2 := by
      have hnd' : (lo'.map (·.1)).Nodup := by rw [hlo]; exact hnd
      have key : ∀ (l : List (Nat × List A)), (l.map (·.1)).Nodup → ∀ (i : Nat) (x y : List A), (i, x) ∈ l → (i, y) ∈ l → x = y := by
        intro l
        induction l with
        | nil => intro _ i x y h; cases h
        | cons q l ih =>
          intro hn i x y hx hy
          simp only [List.map_cons, List.nodup_cons] at hn
          rcases List.mem_cons.1 hx with ex | ex <;> rcases List.mem_cons.1 hy with ey | ey
          · rw [← ex] at ey; simpa using ey.symm
          · exact absurd (List.mem_map.2 ⟨_, ey, by rw [← ex]⟩) hn.1
          · exact absurd (List.mem_map.2 ⟨_, ex, by rw [← ey]⟩) hn.1
          · exact ih hn.2 i x y ex ey
      exact key lo' hnd' p.1 cs p.2 h1 hpl
    have hob := hm.ob p.1 _ h2
    rw [he, hkeep (p.1, cs0) h0] at hob
    exact hob.ext (Chg.refl w' (fun _ => False)) (fun _ h => h.elim) hMM (fun id hmen => by rw [men_ro] at hmen; cases hmen) (fun _ _ h => h)
  · obtain ⟨p, hpl, rfl, _⟩ := lk_wox (show lk (wox g lo') id = some (some x) from hx)
    obtain ⟨cs0, h0⟩ := hids (i := p.1) (cs := p.2) hpl
    exact .inr ⟨g p.1, _, _, hgo (p.1, cs0) h0, hbk, hx⟩
  · obtain ⟨p1, m1, rfl, _⟩ := lk_wox (show lk (wox g lo') i1 = some (some x1) from h1)
    obtain ⟨p2, m2, rfl, _⟩ := lk_wox (show lk (wox g lo') i2 = some (some x2) from h2)
    obtain ⟨c1, n1⟩ := hids (i := p1.1) (cs := p1.2) m1
    obtain ⟨c2, n2⟩ := hids (i := p2.1) (cs := p2.2) m2
    exact hs.inj _ _ _ _ b (hgo (p1.1, c1) n1) (hgo (p2.1, c2) n2) hb1 hb2

/-- what a call wants of what it lends -/
structure LX (P : Program) (f : FuncId) (g : Nat → Nat) (args : List V) (lo : List (Nat × List A)) (pn : List Nat) (r : A) (kp : List (Nat × V)) (lo' : List (Nat × List A)) : Prop where
  c : AX P f args lo pn (.ro r) kp lo'
  k : kpB lo args kp = true
  i : injB g (lo.map (·.1)) = true
  l : lo'.map (·.1) = lo.map (·.1)
  n : (lo.map (·.1)).Nodup

def nodB : List Nat → Bool
  | [] => true
  | x :: l => !inB x l && nodB l
theorem nodB_spec : ∀ {l : List Nat}, nodB l = true → l.Nodup
  | [], _ => List.nodup_nil
  | x :: l, h => by
    simp only [nodB, Bool.and_eq_true] at h
    refine List.nodup_cons.2 ⟨fun hm => ?_, nodB_spec h.2⟩
    have : inB x l = true := List.any_eq_true.2 ⟨x, hm, by simp⟩
    rw [this] at h; simp at h

theorem AX.lx {P : Program} {f : FuncId} {args : List V} {lo : List (Nat × List A)} {pn : List Nat} {r : A} {kp : List (Nat × V)} {lo' : List (Nat × List A)} (g : Nat → Nat) (h : AX P f args lo pn (.ro r) kp lo')
    (k : kpB lo args kp = true) (i : injB g (lo.map (·.1)) = true) (l : lo'.map (·.1) = lo.map (·.1)) (n : nodB (lo.map (·.1)) = true) : LX P f g args lo pn r kp lo' := ⟨h, k, i, l, nodB_spec n⟩

def ey (g : Nat → Nat) (rs : List (Nat × V)) (lo lo' : List (Nat × List A)) (r : A) : Eff := ⟨[], True, rs, lo.map fun p => (g p.1, .box (p.2.map .ro)), .ro r, wox g lo', []⟩

inductive Lnt (S : St) (g : Nat → Nat) : List (Nat × List A) → Prop
  | n : Lnt S g []
  | c {i : Nat} {cs : List A} {lo : List (Nat × List A)} (h : S.go (g i) = some (.box (cs.map .ro))) (hr : Lnt S g lo) : Lnt S g ((i, cs) :: lo)
theorem Lnt.ok {g : Nat → Nat} {lo : List (Nat × List A)} (h : Lnt S g lo) : ∀ p, p ∈ lo.map (fun p => (g p.1, O.box (p.2.map .ro))) → S.go p.1 = some p.2 := by
  induction h with
  | n => simp
  | c h _ ih => intro p hp; rcases List.mem_cons.1 hp with rfl | hp; exact h; exact ih p hp

/-- a call that lends boxes -/
theorem clx {f : FuncId} {xs : Array Operand} {ts : Array TypeId} {g : Nat → Nat} {ys args : List V} {lo lo' : List (Nat × List A)} {pn : List Nat} {r : A} {kp : List (Nat × V)}
    (hF : CF P f) (hC : LX P f g args lo pn r kp lo') (hx : Evs S xs.toList ys) (he : ys = args.map (V.mp g)) (hL : Lnt S g lo)
    (D : Der P ops ((ey g (rds xs.toList ys) lo lo' r).app d S) os es S') :
    Der P ops S (⟨d, .call ⟨.value (.func f), xs, ts⟩, ty, pos, af, none⟩ :: os) (ey g (rds xs.toList ys) lo lo' r :: es) S' := by
  refine .cons (Trip.callX (o := ⟨d, .call ⟨.value (.func f), xs, ts⟩, ty, pos, af, none⟩) g hC.c hC.k hC.i hC.l hC.n rfl fun C S2 hd a w hs h2 => ?_)
    ⟨fun _ h => (List.not_mem_nil h).elim, fun _ => hx.rd, fun _ => hL.ok, fun _ h => (List.not_mem_nil h).elim⟩ D
  have h3 := (hx.of h2).vv hs
  subst he
  refine ⟨xs.toList.map a.eval, ?_, by simpa using h3.1, fun i x v hx hv => h3.2 i (x.mp g) v (by simp [hx]) hv⟩
  rw [run_resolve_func rfl hF]
  congr 2
  apply Array.ext'; simp

/-- who answers a method -/
def CM (P : Program) (t : TypeId) (name : String) (f : FuncId) : Prop := ∀ (v : Value) (args : Array Value) (w : World), (callMethod (.iface t v) name args).run P w = .ok (.enter f (#[v] ++ args)) w

theorem run_invoke {ρ : Operand → Value} {x : Operand} {name : String} {xs : Array Operand} {ts : Array TypeId} {t : TypeId} {u : Value} {f : FuncId} {w : World} {g : Option (Nat × Bool)} (e : ρ x = .iface t u) (hF : CM P t name f) :
    (execOp ρ ⟨d, .call ⟨.invoke x name, xs, ts⟩, ty, pos, af, g⟩).run P w = .ok (.enter f ⟨u :: xs.toList.map ρ⟩) w := by
  simp only [execOp, resolve, Sem.run_bind, Sem.run_pure, Result.andThen_ok, invoke]
  have e1 : (#[ρ x] ++ xs.map ρ : Array Value) = ⟨.iface t u :: xs.toList.map ρ⟩ := by apply Array.ext'; simp [e]
  have e2 : (⟨.iface t u :: xs.toList.map ρ⟩ : Array Value).extract 1 (⟨.iface t u :: xs.toList.map ρ⟩ : Array Value).size = ⟨xs.toList.map ρ⟩ := by
    apply Array.ext'
    simp
    exact List.take_of_length_le (by simp)
  rw [e1]
  simp only [List.getElem?_toArray, List.getElem?_cons_zero, e2]
  rw [hF]
  congr 2
  apply Array.ext'; simp

/-- a method, of a type that is known -/
theorem cix {f : FuncId} {x : Operand} {name : String} {xs : Array Operand} {ts : Array TypeId} {t : TypeId} {y : V} {g : Nat → Nat} {ys args : List V} {lo lo' : List (Nat × List A)} {pn : List Nat} {r : A} {kp : List (Nat × V)}
    (hF : CM P t name f) (hC : LX P f g args lo pn r kp lo') (h0 : Ev S x (.ifc t y)) (hx : Evs S xs.toList ys) (he : y :: ys = args.map (V.mp g)) (hL : Lnt S g lo)
    (D : Der P ops ((ey g (rd x (.ifc t y) ++ rds xs.toList ys) lo lo' r).app d S) os es S') :
    Der P ops S (⟨d, .call ⟨.invoke x name, xs, ts⟩, ty, pos, af, none⟩ :: os) (ey g (rd x (.ifc t y) ++ rds xs.toList ys) lo lo' r :: es) S' := by
  refine .cons (Trip.callX (o := ⟨d, .call ⟨.invoke x name, xs, ts⟩, ty, pos, af, none⟩) g hC.c hC.k hC.i hC.l hC.n rfl fun C S2 hd a w hs h2 => ?_)
    ⟨fun _ h => (List.not_mem_nil h).elim, fun _ => mem_app h0.rd hx.rd, fun _ => hL.ok, fun _ h => (List.not_mem_nil h).elim⟩ D
  have h3 := (hx.of fun p hp => h2 p (List.mem_append_right _ hp)).vv hs
  have h4 := (h0.of fun p hp => h2 p (List.mem_append_left _ hp)).vv hs
  obtain ⟨u, e1, hu⟩ : ∃ u, a.eval x = .iface t u ∧ VV w (MM C S2 hd) hd y u := by
    generalize a.eval x = vx at h4
    cases h4 with
    | ifc _ _ u hu => exact ⟨u, rfl, hu⟩
  refine ⟨u :: xs.toList.map a.eval, ?_, ?_, fun i z v hz hv => ?_⟩
  · exact run_invoke (ρ := a.eval) e1 hF
  · have := congrArg List.length he
    simp only [List.length_map, List.length_cons] at this ⊢
    have h5 := h3.1
    simp only [List.length_map] at h5
    omega
  · have hz2 : (y :: ys)[i]? = some (z.mp g) := by rw [he]; simp [hz]
    cases i with
    | zero => simp at hz2 hv; subst hv; rw [← hz2]; exact hu
    | succ i => exact h3.2 i (z.mp g) v (by simpa using hz2) (by simpa using hv)

/-- a function value, that lends boxes -/
theorem cvx {f : FuncId} {x : Operand} {xs : Array Operand} {ts : Array TypeId} {us cs : List V} {g : Nat → Nat} {ys args : List V} {lo lo' : List (Nat × List A)} {pn : List Nat} {r : A} {kp : List (Nat × V)}
    (hF : CF P f) (hC : LX P f g args lo pn r kp lo') (h0 : Ev S x (.fn (.func f) us cs)) (hx : Evs S xs.toList ys) (he : us ++ (ys ++ cs) = args.map (V.mp g)) (hL : Lnt S g lo)
    (D : Der P ops ((ey g (rd x (.fn (.func f) us cs) ++ rds xs.toList ys) lo lo' r).app d S) os es S') :
    Der P ops S (⟨d, .call ⟨.value x, xs, ts⟩, ty, pos, af, none⟩ :: os) (ey g (rd x (.fn (.func f) us cs) ++ rds xs.toList ys) lo lo' r :: es) S' := by
  refine .cons (Trip.callX (o := ⟨d, .call ⟨.value x, xs, ts⟩, ty, pos, af, none⟩) g hC.c hC.k hC.i hC.l hC.n rfl fun C S2 hd a w hs h2 => ?_)
    ⟨fun _ h => (List.not_mem_nil h).elim, fun _ => mem_app h0.rd hx.rd, fun _ => hL.ok, fun _ h => (List.not_mem_nil h).elim⟩ D
  have h3 := (hx.of fun p hp => h2 p (List.mem_append_right _ hp)).vv hs
  obtain ⟨uv, cv, e1, l1, l2, hu, hc⟩ := ((h0.of fun p hp => h2 p (List.mem_append_left _ hp)).vv hs).fn_inv
  have hlen := h3.1
  have hl : (us ++ (ys ++ cs)).length = (uv ++ (xs.toList.map a.eval ++ cv)).length := by simp only [List.length_append]; omega
  refine ⟨uv ++ (xs.toList.map a.eval ++ cv), run_resolve_fnv rfl e1 hF, by rw [← hl, he, List.length_map], fun i z v hz hv => ?_⟩
  have hz2 : (us ++ (ys ++ cs))[i]? = some (z.mp g) := by rw [he]; simp [hz]
  by_cases h1 : i < us.length
  · rw [List.getElem?_append_left h1] at hz2
    rw [List.getElem?_append_left (by omega)] at hv
    exact hu i _ v hz2 hv
  · rw [List.getElem?_append_right (by omega)] at hz2
    rw [List.getElem?_append_right (by omega), ← l1] at hv
    by_cases h2' : i - us.length < ys.length
    · rw [List.getElem?_append_left h2'] at hz2
      rw [List.getElem?_append_left (by omega)] at hv
      exact h3.2 _ _ v hz2 hv
    · rw [List.getElem?_append_right (by omega)] at hz2
      rw [List.getElem?_append_right (by omega), ← hlen] at hv
      exact hc _ _ v hz2 hv

/-- a load from a variable that stays -/
theorem lc {t : TypeId} {ag : Bool} {n : Nat} {x : Operand} {cs : List V} {v : V} (hT : TF P t ag n) {rs : List (Nat × V)} (hx : Er S x (.cptr cs) rs) (hv : ldV ag n 0 cs = some v) :
    OpV P S (.load t x) rs [] v :=
  .one hx (fun w M hd a d ty pos af g h1 => by
    generalize e : a.eval x = vx at h1
    cases h1 with
    | cptr _ b off vs hM hb hl hc ho hvv =>
      obtain ⟨u, hr, hu⟩ := run_loadVar (P := P) (w := w) (M := M) (hd := hd) hT (b := b) (off := off) (cs := cs) (vs := vs) hl hc ho hvv hv
      refine ⟨u, ?_, hu⟩
      simp only [execOp, e, Instr.loadAt, Instr.sureAddr, Sem.run_bind, Sem.run_pure, Result.andThen_ok, hr])
end

/-! a variable is captured that names others, and stays -/
mutual
def V.fzc (id : Nat) (cells : List V) : V → V
  | .own i => bif Nat.beq i id then .un else .own i
  | .ptr i off => bif Nat.beq i id then .cptr (cells.drop off) else .ptr i off
  | .cptr cs => .cptr (V.fzcs id cells cs)
  | .agg cs => .agg (V.fzcs id cells cs)
  | .tup cs => .tup (V.fzcs id cells cs)
  | .fn f x y => .fn f (V.fzcs id cells x) (V.fzcs id cells y)
  | .may c x => .may c (V.fzc id cells x)
  | .view i sz lo n => bif Nat.beq i id then .un else .view i sz lo n
  | .ifc t x => .ifc t (V.fzc id cells x)
  | x => x
def V.fzcs (id : Nat) (cells : List V) : List V → List V
  | [] => []
  | x :: r => V.fzc id cells x :: V.fzcs id cells r
end
def O.fzc (id : Nat) (cells : List V) : O → O
  | .box cs => .box (V.fzcs id cells cs)
  | x => x
theorem fzcs_eq (id : Nat) (a : List V) : ∀ cs : List V, V.fzcs id a cs = cs.map (V.fzc id a)
  | [] => rfl
  | x :: r => by simp [V.fzcs, fzcs_eq id a r]

theorem VV.fzc {w : World} {M : Nat → Prop} {hd : Nat → Value} {id : Nat} {a : List V} (ha : ∀ off b, blk (hd id) = some b → VV w M hd (.cptr (a.drop off)) (.pointer (some ⟨b, off, none⟩))) {x : V} {v : Value} (h : VV w M hd x v) : VV w M hd (x.fzc id a) v := by
  induction h with
  | ro a v h => exact .ro a v h
  | own i h =>
    simp only [V.fzc]
    cases hb : Nat.beq i id with
    | true => exact .un _
    | false => exact .own i h
  | ptr i off b h =>
    simp only [V.fzc]
    cases hb : Nat.beq i id with
    | true =>
      have := Nat.eq_of_beq_eq_true hb
      subst this
      exact ha off b h
    | false => exact .ptr i off b h
  | rptr cs b off vs h1 h2 h3 h4 h5 h6 => exact .rptr cs b off vs h1 h2 h3 h4 h5 h6
  | cptr cs b off vs h1 h2 hl h4 h5 _ ih =>
    simp only [V.fzc, fzcs_eq]
    refine .cptr _ b off vs h1 h2 (by simpa using hl) h4 h5 fun i a v hi hv => ?_
    simp only [List.getElem?_map, Option.map_eq_some_iff] at hi
    obtain ⟨a', ha, rfl⟩ := hi
    exact ih i a' v ha hv
  | agg cs vs hl ho _ ih =>
    simp only [V.fzc, fzcs_eq]
    refine .agg _ vs (by simpa using hl) ho fun i a v hi hv => ?_
    simp only [List.getElem?_map, Option.map_eq_some_iff] at hi
    obtain ⟨a', ha, rfl⟩ := hi
    exact ih i a' v ha hv
  | tup cs vs hl _ ih =>
    simp only [V.fzc, fzcs_eq]
    refine .tup _ vs (by simpa using hl) fun i a v hi hv => ?_
    simp only [List.getElem?_map, Option.map_eq_some_iff] at hi
    obtain ⟨a', ha, rfl⟩ := hi
    exact ih i a' v ha hv
  | fn f cs ds vs us hl hl' _ _ ih ih' =>
    simp only [V.fzc, fzcs_eq]
    refine .fn f _ _ vs us (by simpa using hl) (by simpa using hl') (fun i a v hi hv => ?_) (fun i a v hi hv => ?_)
    · simp only [List.getElem?_map, Option.map_eq_some_iff] at hi
      obtain ⟨a', ha, rfl⟩ := hi
      exact ih i a' v ha hv
    · simp only [List.getElem?_map, Option.map_eq_some_iff] at hi
      obtain ⟨a', ha, rfl⟩ := hi
      exact ih' i a' v ha hv
  | may c x v _ hn ih => exact .may c _ v (fun hc => ih hc) hn
  | view i sz lo n v h =>
    simp only [V.fzc]
    cases hb : Nat.beq i id with
    | true => exact .un _
    | false => exact .view i sz lo n v h
  | ifc t x v _ ih => exact .ifc t _ v ih
  | un v => exact .un v

def St.fzc (S : St) (id : Nat) (a : List V) : St := ⟨S.s.map fun p => (p.1, p.2.fzc id a), (id, none) :: S.o.map fun p => (p.1, p.2.map (O.fzc id a))⟩

theorem Sat'.fzc {C : Ctx} {S : St} {hd : Nat → Value} {a : Act} {w : World} (h : Sat' C S hd a w) {id : Nat} {l : List V} (hO : S.go id = some (.box l)) :
    Sat' C (S.fzc id l) hd a w := by
  have hgo : ∀ i x, (S.fzc id l).go i = some x → i ≠ id ∧ ∃ y, S.go i = some y ∧ x = y.fzc id l := by
    intro i x hx
    simp only [St.fzc, St.go, lk] at hx
    by_cases hi : id = i
    · subst hi; simp at hx
    · rw [beq_ne hi] at hx
      simp only [lk_map, cond_false] at hx
      unfold St.go
      cases hy : lk S.o i with
      | none => rw [hy] at hx; cases hx
      | some z =>
        rw [hy] at hx
        cases z with
        | none => cases hx
        | some y => simp at hx; exact ⟨fun e => hi e.symm, y, rfl, hx.symm⟩
  have hM : ∀ b, b < w.heap.size → (C.M0 b ∨ Ow (S.fzc id l) hd b) → (C.M0 b ∨ Ow S hd b) := by
    rintro b _ (hm | ⟨i, x, hx, hb⟩)
    · exact .inl hm
    · obtain ⟨_, y, hy, _⟩ := hgo i x hx
      exact .inr ⟨i, y, hy, hb⟩
  obtain ⟨b0, us, e, hh, hb0, hlu, ho, huu⟩ := (h.ob id _ hO).box_inv
  have hbk0 : blk (hd id) = some b0 := by rw [hh]; rfl
  have hlt0 : b0 < w.heap.size := (Array.getElem?_eq_some_iff.1 hb0).1
  have hnM : ¬ (C.M0 b0 ∨ Ow (S.fzc id l) hd b0) := by
    rintro (hm | ⟨i, x, hx, hbi⟩)
    · have h1 := C.hM0 b0 hm
      rcases (h.lv b0 ⟨id, _, hO, hbk0⟩).1 with h2 | h2
      · omega
      · exact h1.2 h2
    · obtain ⟨hne, y, hy, _⟩ := hgo i x hx
      exact hne (h.inj i id y _ b0 hy hO hbi hbk0)
  have hR : ∀ off b, blk (hd id) = some b → VV w (fun b => C.M0 b ∨ Ow (S.fzc id l) hd b) hd (.cptr (l.drop off)) (.pointer (some ⟨b, off, none⟩)) := by
    intro off b hb
    have : b = b0 := by rw [hbk0] at hb; simpa using hb.symm
    subst this
    refine .cptr _ b off (us.drop off) hnM hlt0 (by simp; omega) (fun k v hk => ?_) (fun k v hk => ?_) (fun k y v hy hk => ?_)
    · rw [List.getElem?_drop] at hk
      simp only [World.cell?, hb0]
      simpa using hk
    · rw [List.getElem?_drop] at hk
      exact ho _ v hk
    · rw [List.getElem?_drop] at hk hy
      exact (huu (off + k) y v hy hk).ext (Chg.refl w (fun _ => False)) (fun _ h => h.elim) hM (fun _ _ => rfl)
  refine ⟨h.nt, fun t x hx => ?_, fun i x hx => ?_, ?_, fun i1 i2 x1 x2 b h1 h2 hb1 hb2 => ?_, h.fr, h.df⟩
  · simp only [St.gs, St.fzc, lk_map] at hx
    cases hy : lk S.s t with
    | none => rw [hy] at hx; cases hx
    | some y =>
      rw [hy] at hx
      simp at hx; subst hx
      obtain ⟨ht, hv⟩ := h.sl t y hy
      exact ⟨ht, VV.fzc hR (hv.ext (Chg.refl w (fun _ => False)) (fun _ h => h.elim) hM (fun _ _ => rfl))⟩
  · obtain ⟨_, y, hy, rfl⟩ := hgo i x hx
    have := (h.ob i y hy).ext (M' := fun b => C.M0 b ∨ Ow (S.fzc id l) hd b) (hd' := hd) (Chg.refl w (fun _ => False)) (fun _ h => h.elim) hM (fun _ _ => rfl) (fun _ _ h => h)
    cases this with
    | box cs vs e b hh hb hl ho hv =>
      simp only [O.fzc, fzcs_eq]
      refine .box _ vs e b hh hb (by simpa using hl) ho fun i a v hi hvi => ?_
      simp only [List.getElem?_map, Option.map_eq_some_iff] at hi
      obtain ⟨a', ha, rfl⟩ := hi
      exact VV.fzc hR (hv i a' v ha hvi)
    | arr e sz l xs hr hs ho hv => exact .arr e sz l xs hr hs ho hv
    | siter s pos b hhd hb hm => exact .siter s pos b hhd hb hm
    | map P k e kk m b D hhd hb hr => exact .map P k e kk m b D hhd hb hr
  · rintro b ⟨i, x, hx, hb⟩
    obtain ⟨_, y, hy, _⟩ := hgo i x hx
    exact h.lv b ⟨i, y, hy, hb⟩
  · obtain ⟨_, y1, hy1, _⟩ := hgo i1 x1 h1
    obtain ⟨_, y2, hy2, _⟩ := hgo i2 x2 h2
    exact h.inj i1 i2 y1 y2 b hy1 hy2 hb1 hb2

/-- a variable that names others is captured, and stays as it is -/
theorem AK.fc {P : Program} {T : Tgt} {C : Ctx} {k : List Item} {S : St} (id : Nat) {cs : List V} (hO : S.go id = some (.box cs)) (h : AK P T C k (S.fzc id cs)) : AK P T C k S :=
  fun a w ⟨hd, hs⟩ => h a w ⟨hd, hs.fzc hO⟩

/-! a list that is nil is one of one's own -/
theorem Sat'.newNil {C : Ctx} {S : St} {hd : Nat → Value} {a : Act} {w : World} (hs : Sat' C S hd a w) {K : Nat} (e : TypeId) (sz : Nat) (hK : S.free K = true) :
    Sat' C ⟨S.s, (K, some (.arr e sz [])) :: S.o⟩ (updh hd K (.slice none 0 0)) a w := by
  have hKn := free_go hK
  have hgo : ∀ i x, (St.mk S.s ((K, some (.arr e sz [])) :: S.o)).go i = some x → (i = K ∧ x = .arr e sz []) ∨ (i ≠ K ∧ S.go i = some x) := by
    intro i x hx
    simp only [St.go, lk] at hx
    by_cases h2 : K = i
    · subst h2; simp at hx; exact .inl ⟨rfl, hx.symm⟩
    · rw [beq_ne h2] at hx
      exact .inr ⟨fun e => h2 e.symm, hx⟩
  have hblk : ∀ i x, (St.mk S.s ((K, some (.arr e sz [])) :: S.o)).go i = some x → ∀ b, blk (updh hd K (.slice none 0 0) i) = some b → S.go i = some x ∧ blk (hd i) = some b := by
    intro i x hx b hb
    rcases hgo i x hx with ⟨rfl, rfl⟩ | ⟨hk, hx'⟩
    · rw [updh_same] at hb; cases hb
    · rw [updh_ne hk] at hb; exact ⟨hx', hb⟩
  have hM : ∀ b, b < w.heap.size → (C.M0 b ∨ Ow ⟨S.s, (K, some (.arr e sz [])) :: S.o⟩ (updh hd K (.slice none 0 0)) b) → (C.M0 b ∨ Ow S hd b) := by
    rintro b _ (hm | ⟨i, x, hx, hb⟩)
    · exact .inl hm
    · obtain ⟨hy, hb'⟩ := hblk i x hx b hb
      exact .inr ⟨i, x, hy, hb'⟩
  refine ⟨hs.nt, fun t x hx => ?_, fun i x hx => ?_, ?_, ?_, hs.fr, hs.df⟩
  · obtain ⟨q, hv⟩ := hs.sl t x hx
    refine ⟨q, hv.ext (Chg.refl w (fun _ => False)) (fun _ h => h.elim) hM fun j hj => updh_ne fun e => ?_⟩
    subst e
    rw [free_slot hK hx] at hj; cases hj
  · rcases hgo i x hx with ⟨rfl, rfl⟩ | ⟨hk, hx'⟩
    · rw [updh_same]
      exact .arr e sz [] [] (by simpa using World.ownsRow_nil w 0 e sz) (by simp) (by simp) (by simp)
    · rw [updh_ne hk]
      refine (hs.ob i x hx').ext (Chg.refl w (fun _ => False)) (fun _ h => h.elim) hM (fun j hj => updh_ne fun e => ?_) (fun _ _ h => h)
      subst e
      rw [free_obj hK hx'] at hj; cases hj
  · rintro b ⟨i, x, hx, hb⟩
    obtain ⟨hy, hb'⟩ := hblk i x hx b hb
    exact hs.lv b ⟨i, x, hy, hb'⟩
  · intro i1 i2 x1 x2 b h1 h2 hb1 hb2
    obtain ⟨g1, q1⟩ := hblk i1 x1 h1 b hb1
    obtain ⟨g2, q2⟩ := hblk i2 x2 h2 b hb2
    exact hs.inj i1 i2 x1 x2 b g1 g2 q1 q2

section
variable {P : Program} {ops : Array Oper} {S S' : St} {os : List Oper} {es : List Eff}
variable {d : Option Nat} {ty : TypeId} {pos : String} {af : Array Edge}

/-- append to nil a list that is only read -/
theorem apn {α : Type} {F : α → List A} (id : Nat) {y : Operand} {t e : TypeId} {sz : Nat} {m q : List α} (hP : PF P t e sz)
    (hy : Ev S y (.ro (.list sz (m.map F)))) (hq : app [] m = some q) (hf : S.free id = true)
    (D : Der P ops ((me (rd y (.ro (.list sz (m.map F)))) [] (.own id) [(id, some (.arr e sz (q.map F)))] [id]).app d S) os es S') :
    Der P ops S (⟨d, .call ⟨.builtin .append, #[.const (.slice none 0 0), y], #[t, t]⟩, ty, pos, af, none⟩ :: os)
      (me (rd y (.ro (.list sz (m.map F)))) [] (.own id) [(id, some (.arr e sz (q.map F)))] [id] :: es) S' := by
  obtain ⟨hq2, hlen⟩ := app_eq hq
  have hq2 : m = q := hq2.symm
  subst hq2
  refine .cons ?_ (pre_me hy.rd (fun _ h => (List.not_mem_nil h).elim) (by simp; exact hf)) D
  refine Trip.mem rfl fun C S2 hd a w hs hp => ?_
  have hf2 : S2.free id = true := hp.fr id (by simp [me])
  have hs2 := hs.newNil e sz hf2
  have e2 := ((hy.of (hp.rs trivial)).vv hs).ro_of
  obtain ⟨xs, h4, h5, h6⟩ := stands_VR e2
  have hMM : ∀ b, MM C ⟨S2.s, (id, some (.arr e sz [])) :: S2.o⟩ (updh hd id (.slice none 0 0)) b → MM C S2 hd b := by
    rintro b (hm | ⟨i, x, hx, hb⟩)
    · exact .inl hm
    · simp only [St.go, lk] at hx
      by_cases h2 : id = i
      · subst h2; rw [updh_same] at hb; cases hb
      · rw [beq_ne h2] at hx
        rw [updh_ne (Ne.symm h2)] at hb
        exact .inr ⟨i, x, hx, hb⟩
  have hMM2 : ∀ b, MM C S2 hd b → MM C ⟨S2.s, (id, some (.arr e sz [])) :: S2.o⟩ (updh hd id (.slice none 0 0)) b := by
    rintro b (hm | ⟨i, x, hx, hb⟩)
    · exact .inl hm
    · have h2 : id ≠ i := fun e => by subst e; rw [free_go hf2] at hx; cases hx
      refine .inr ⟨i, x, ?_, by rw [updh_ne (Ne.symm h2)]; exact hb⟩
      simp only [St.go, lk]
      rw [beq_ne h2]; exact hx
  obtain ⟨u, w', hr, hchg, hblk, hone, hM⟩ := app_step (P := P) (d := d) (ty := ty) (pos := pos) (af := af) (x := .const (.slice none 0 0)) (i1 := id) (l := []) (m := List.map F m) hs2 hP (by rw [updh_same]; rfl) (by simp [St.go, lk]) h4 h5
    (fun i b u hi hu => (h6 i b u hi hu).ext (Chg.refl w (fun _ => False)) (fun _ h => h.elim) (fun b _ h => hMM b h)) (by simpa using hlen)
  have hlk : ∀ i y, lk [(id, some (O.arr e sz (List.map F m)))] i = some (some y) → i = id ∧ y = .arr e sz (List.map F m) := by
    intro i y hy
    simp only [lk] at hy
    by_cases hi : id = i
    · subst hi; simp at hy; exact ⟨rfl, by simp [hy.symm]⟩
    · rw [beq_ne hi] at hy; cases hy
  refine ⟨_, u, w', updh hd id u, _, hr, .inl rfl, hchg, fun b hb => ?_, fun i hi => updh_ne (fun e => hi (by simp [me, e])), fun M' hM' => ⟨fun _ => ?_, fun i y hy => ?_⟩, fun i y b hy hb => ?_,
    fun j1 j2 x1 x2 b h1 h2 _ _ => ((hlk j1 x1 h1).1).trans ((hlk j2 x2 h2).1).symm⟩
  · rw [updh_same] at hb; cases hb
  · have := VV.own (w := w') (M := M') (hd := updh hd id u) id (by rw [updh_same]; exact hone)
    rwa [updh_same] at this
  · obtain ⟨rfl, rfl⟩ := hlk i y hy
    rw [updh_same]
    have := hM M' (fun b hb hm => hMM2 b (hM' b hb hm)) (updh hd i u)
    simpa using this
  · obtain ⟨rfl, rfl⟩ := hlk i y hy
    rw [updh_same] at hb
    rcases hblk b hb with h | h
    · rw [updh_same] at h; cases h
    · left; exact h
end

/-- a new list that is handed back may be only read from now on -/
theorem AC.fz {P : Program} {f : FuncId} {args : List V} {r : V} {id : Nat} {e : TypeId} {sz : Nat} {l : List (List A)} {ob : List (Nat × O)} (h : AC P f args r ((id, .arr e sz l) :: ob)) (hn : lk (obs ob) id = none) :
    AC P f args (r.fz id (.list sz l)) ob := by
  intro w M0 hM hd vals hl hv
  refine (h w M0 hM hd vals hl hv).mono fun en w' hpost => ?_
  obtain ⟨v, hd1, rfl, hv1, hm⟩ := hpost
  have hgo : ∀ i x, (St.mk [] (obs ob)).go i = some x → (St.mk [] (obs ((id, .arr e sz l) :: ob))).go i = some x ∧ i ≠ id := by
    intro i x hx
    have hne : id ≠ i := fun e => by subst e; simp [St.go, hn] at hx
    refine ⟨?_, fun e => hne e.symm⟩
    simp only [St.go, obs, List.map_cons, lk]
    rw [beq_ne hne]
    exact hx
  have h0 : (St.mk [] (obs ((id, .arr e sz l) :: ob))).go id = some (.arr e sz l) := by simp [St.go, obs, lk]
  have hMM : ∀ b, b < w'.heap.size → MM (ctx w M0 hM 0) ⟨[], obs ob⟩ hd1 b → MM (ctx w M0 hM 0) ⟨[], obs ((id, .arr e sz l) :: ob)⟩ hd1 b := by
    rintro b _ (hm | ⟨i, x, hx, hb⟩)
    · exact .inl hm
    · exact .inr ⟨i, x, (hgo i x hx).1, hb⟩
  refine ⟨v, hd1, rfl, ?_, ⟨fun i x hx => ?_, ?_, fun i1 i2 x1 x2 b h1 h2 => hm.inj i1 i2 x1 x2 b (hgo _ _ h1).1 (hgo _ _ h2).1, hm.fr⟩⟩
  · refine VV.fz (ownsRow_VR (hm.ob id _ h0) _ hMM fun b hb hmb => ?_) (hv1.ext (Chg.refl w' (fun _ => False)) (fun _ h => h.elim) hMM (fun _ _ => rfl))
    rcases hmb with hmb | ⟨i, x, hx, hbi⟩
    · have h1 := hM b hmb
      rcases (hm.lv b ⟨id, _, h0, hb⟩).1 with h2 | h2
      · simp only [ctx] at h2; omega
      · exact h2
    · have := hm.inj id i _ _ b h0 (hgo i x hx).1 hb hbi
      exact (hgo i x hx).2 this.symm
  · exact (hm.ob i x (hgo i x hx).1).ext (Chg.refl w' (fun _ => False)) (fun _ h => h.elim) hMM (fun _ _ => rfl) (fun _ _ h => h)
  · rintro b ⟨i, x, hx, hb⟩
    exact hm.lv b ⟨i, x, (hgo i x hx).1, hb⟩
end Xb
