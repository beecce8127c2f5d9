/- Own text: Core24. -/
import Derived.Test.YtemfkddlidfbfaaGreatCore23
import Derived.RangeFuncIn
import Derived.Below
set_option linter.all false
set_option linter.unusedVariables false
set_option linter.unusedSimpArgs false
set_option linter.unnecessarySimpa false
set_option linter.deprecated false
/-! Ranges over functions. -/
namespace Xb
open Go Go.RowKit

/-- along a list, with a way out -/
def foldX {α σ ρ : Type} (step : α → σ → Option (σ ⊕ ρ)) (done : σ → Option ρ) : List α → σ → Option ρ
  | [], s => done s
  | x :: xs, s => match step x s with
    | none => none
    | some (.inl s') => foldX step done xs s'
    | some (.inr r) => some r

/-- one round -/
def tr (f : FuncId) (l : Nat) (R : Option Code → World → Prop) : Tgt :=
  ⟨some l, fun b cs => b.fn = f ∧ cs ≠ [], fun _ cs m => ∃ c cs' j w', cs = c :: cs' ∧ R j w' ∧ m = lone (c.finish (.bool j.isNone)) cs' w'⟩

/-- what stands while a round runs -/
def Ctx.rnd (C : Ctx) (pn : List Nat) (pv : Nat → Value) (l : Nat) (r : Loop) : Ctx :=
  { C with pn := pn, pv := pv, mks := [], fx := (l, .loop r) :: C.mks.map fun D => (D, .deferred (some [])) }
def Ctx.mrk (C : Ctx) (D : Nat) : Ctx := { C with mks := D :: C.mks }

section
variable {P : Program} {C : Ctx} {S : St} {k : List Item}

theorem Sat'.swap {C C' : Ctx} {hd : Nat → Value} {a a' : Act} {w w' : World} (h : Sat' C S hd a w) (h1 : C'.w0 = C.w0) (h2 : C'.X = C.X) (h3 : C'.M0 = C.M0) (h4 : C'.nt = C.nt) (hn : a'.tmps.size = C.nt)
    (ht : ∀ t x, S.gs t = some x → a'.tmps.getD t undef = a.tmps.getD t undef) {B : Nat → Prop} (hw : Chg w w' B)
    (hB : ∀ b, B b → C.w0.heap.size ≤ b ∧ (b < w.heap.size → ∃ o, w.heap[b]? = some o ∧ fixO o = true)) (hx : Ext C' a' w') : Sat' C' S hd a' w' := by
  have h0 : Sat' { C with mks := [], fx := [], pn := [] } S hd { a with defers := [] } w' := h.turn rfl rfl rfl rfl rfl hw hB
    ⟨rfl, List.nodup_nil, fun _ h => (List.not_mem_nil h).elim, fun _ h => (List.not_mem_nil h).elim, fun _ h => (List.not_mem_nil h).elim⟩
  refine ⟨by rw [h4]; exact hn, fun t x hx => ?_, fun id x hx => ?_, fun b hb => ?_, h0.inj, ?_, hx⟩
  · obtain ⟨q, hv⟩ := h0.sl t x hx
    rw [h4, h3, ht t x hx]; exact ⟨q, hv⟩
  · rw [h3]; exact h0.ob id x hx
  · rw [h1, h2]; exact h0.lv b hb
  · rw [h1, h2]; exact h0.fr

/-- the round's end -/
theorem AK.re {f : FuncId} {l : Nat} {r : Loop} {R : Option Code → World → Prop} (hl : ∀ a w, Sat C S a w → w.heap[l]? = some (.loop r) → R none (w.putObj l (.loop { r with state := .ready, pending := none })))
    (hfx : (l, .loop r) ∈ C.fx) : AK P (tr f l R) C [] S := by
  rintro a w ⟨hd, hs⟩ b cs hro hk ⟨_, hne⟩
  obtain ⟨c, cs', rfl⟩ := List.exists_cons_of_ne_nil hne
  have h := (hs.df.fx _ hfx).2
  exact ⟨_, ⟨c, cs', none, _, rfl, hl a w ⟨hd, hs⟩ h, rfl⟩, .one (stepR_round_end hro hk (run_endRound none h))⟩

theorem AK.rret {f : FuncId} {l : Nat} {r : Loop} {R : Option Code → World → Prop} (hl : ∀ a w, Sat C S a w → w.heap[l]? = some (.loop r) → R (some .ret) (w.putObj l (.loop { r with state := .done, pending := some .ret })))
    (hfx : (l, .loop r) ∈ C.fx) : AK P (tr f l R) C (.code .ret :: k) S := by
  rintro a w ⟨hd, hs⟩ b cs hro hk ⟨_, hne⟩
  obtain ⟨c, cs', rfl⟩ := List.exists_cons_of_ne_nil hne
  have h := (hs.df.fx _ hfx).2
  exact ⟨_, ⟨c, cs', some .ret, _, rfl, hl a w ⟨hd, hs⟩ h, rfl⟩, .one (stepR_round_ret hro hk (run_endRound (some .ret) h))⟩

theorem AK.rxt {f : FuncId} {l id : Nat} {r : Loop} {R : Option Code → World → Prop} (he : exitTo id k = none) (hl : ∀ a w, Sat C S a w → w.heap[l]? = some (.loop r) → R (some (.exit id)) (w.putObj l (.loop { r with state := .done, pending := some (.exit id) })))
    (hfx : (l, .loop r) ∈ C.fx) : AK P (tr f l R) C (.code (.exit id) :: k) S := by
  rintro a w ⟨hd, hs⟩ b cs hro hk ⟨_, hne⟩
  obtain ⟨c, cs', rfl⟩ := List.exists_cons_of_ne_nil hne
  have h := (hs.df.fx _ hfx).2
  exact ⟨_, ⟨c, cs', some (.exit id), _, rfl, hl a w ⟨hd, hs⟩ h, rfl⟩, .one (stepR_round_exit hro hk he (run_endRound (some (.exit id)) h))⟩

/-- the record turns -/
theorem Ext.loop {C : Ctx} {a : Act} {w : World} {pn : List Nat} {pv : Nat → Value} {l : Nat} {r r' : Loop} (h : Ext (C.rnd pn pv l r) a w) (hn : l ∉ C.mks) : Ext (C.rnd pn pv l r') a (w.putObj l (.loop r')) := by
  have hl : w.heap[l]? = some (.loop r) := (h.fx (l, .loop r) (by simp [Ctx.rnd])).2
  have hlt : l < w.heap.size := (Array.getElem?_eq_some_iff.1 hl).1
  refine ⟨h.df, h.nd, fun D hD => by simp [Ctx.rnd] at hD, fun p hp => ?_, h.pn⟩
  simp only [Ctx.rnd, List.mem_cons, List.mem_map] at hp
  rcases hp with rfl | ⟨D, hD, rfl⟩
  · exact ⟨rfl, World.putObj_heap_same hlt⟩
  · have := h.fx (D, .deferred (some [])) (by simp only [Ctx.rnd, List.mem_cons, List.mem_map]; exact .inr ⟨D, hD, rfl⟩)
    refine ⟨rfl, ?_⟩
    have hne : D ≠ l := fun e => hn (by rw [← e]; exact hD)
    rw [World.putObj_heap_other hne]; exact this.2

theorem putObj_chg (w : World) (l : Nat) (o : Obj) : Chg w (w.putObj l o) (fun b => b = l) :=
  ⟨rfl, rfl, rfl, by rw [World.putObj_size]; exact Nat.le_refl _, fun k _ hk => World.putObj_heap_other hk⟩

/-- the round begins -/
theorem AK.bgn {f : FuncId} {l : Nat} {r : Loop} {R : Option Code → World → Prop} {pn : List Nat} {pv : Nat → Value} (hr : r.state = .ready) (hl0 : C.w0.heap.size ≤ l) (hn : l ∉ C.mks)
    (h : AK P (tr f l R) (C.rnd pn pv l { r with state := .busy }) k S) : AK P (tr f l R) (C.rnd pn pv l r) (.beginRound :: k) S := by
  rintro a w ⟨hd, hs⟩
  have hl : w.heap[l]? = some (.loop r) := (hs.df.fx (l, .loop r) (by simp [Ctx.rnd])).2
  have hs2 : Sat' (C.rnd pn pv l { r with state := .busy }) S hd a (w.putObj l (.loop { r with state := .busy })) :=
    hs.turn rfl rfl rfl rfl rfl (putObj_chg w l _) (fun b hb => by subst hb; exact ⟨hl0, fun _ => ⟨_, hl, rfl⟩⟩) (hs.df.loop hn)
  exact .of_step (fun b cs hro => stepR_beginRound hro (run_beginRound hl hr)) (h a _ ⟨hd, hs2⟩)

/-- a slot more -/
theorem Sat'.set {hd : Nat → Value} {a : Act} {w : World} (hs : Sat' C S hd a w) {t : Nat} {x : V} {v : Value} (ht : C.may t) (hv : VV w (MM C S hd) hd x v) : Sat' C ⟨(t, x) :: S.s, S.o⟩ hd (a.put (some t) v) w := by
  refine hs.step (re [] [] x) ⟨fun _ h => (List.not_mem_nil h).elim, fun _ _ h => (List.not_mem_nil h).elim, fun _ _ h => (List.not_mem_nil h).elim, fun _ h => (List.not_mem_nil h).elim⟩ (some t) v (by rintro _ ⟨⟩; exact ht) (fun _ => False) (Chg.refl w _) (fun _ h => h.elim) (fun _ _ => rfl) (fun _ => ?_) (fun id x h => by cases h)
    (fun id x b h => by cases h) (fun _ _ _ _ _ h => by cases h)
  refine hv.ext (Chg.refl w (fun _ => False)) (fun _ h => h.elim) (fun b _ hm => ?_) (fun _ _ => rfl)
  rcases hm with hm | ⟨id, x, hx, hb⟩
  · exact .inl hm
  · exact .inr ⟨id, x, by rw [app_go] at hx; exact hx, hb⟩

def params : List Nat → List V → List (Nat × V) → List (Nat × V)
  | t :: ts, x :: xs, l => params ts xs ((t, x) :: l)
  | _, _, l => l

theorem Sat'.params {hd : Nat → Value} {w : World} : ∀ {ts : List Nat} {xs : List V} {vs : List Value} {S : St} {a : Act}, Sat' C S hd a w → xs.length = vs.length → (∀ t, t ∈ ts → C.may t) →
    (∀ (i : Nat) (x : V) (v : Value), xs[i]? = some x → vs[i]? = some v → VV w (MM C S hd) hd x v) →
    Sat' C ⟨Xb.params ts xs S.s, S.o⟩ hd { a with tmps := (ts.zip vs).foldl (fun tmps (t, v) => tmps.setIfInBounds t v) a.tmps } w
  | [], _, _, S, a, h, _, _, _ => by simpa [Xb.params] using h
  | t :: ts, [], [], S, a, h, _, _, _ => by simpa [Xb.params] using h
  | t :: ts, x :: xs, v :: vs, S, a, h, hl, hm, hv => by
    have h1 := h.set (hm t (by simp)) (hv 0 x v rfl rfl)
    have h2 := Sat'.params (ts := ts) (xs := xs) (vs := vs) h1 (by simpa using hl) (fun t ht => hm t (by simp [ht])) (fun i y u hi hu => by
      refine (hv (i + 1) y u (by simpa using hi) (by simpa using hu)).ext (Chg.refl w (fun _ => False)) (fun _ h => h.elim) (fun b _ hm => ?_) (fun _ _ => rfl)
      exact hm)
    simpa [Xb.params, Act.put] using h2

/-- what an iterator promises: it hands over these, one behind the other; G: what it reads between the rounds -/
def Iter (P : Program) (it : FuncId) {α : Type} (xs : List α) (G : List Value → World → Prop) (enc : α → List Value → World → List Value → Prop) : Prop :=
  ∀ (W : World) (l : Nat) (cv : List Value) (J : List α → World → Prop) (Jx : World → Prop), (∀ rest W, J rest W → J rest W.drew) → (∀ rest W, J rest W → G cv W) →
    (∀ x rest W vs, J (x :: rest) W → enc x cv W vs → ∃ fn tmps assign body, (Instr.yield l vs.toArray).run P W = .ok (.round l fn tmps assign body) W ∧
      ∀ (c : Frame) (cs : List Frame), ∃ v W', ((v = true ∧ J rest W') ∨ (v = false ∧ Jx W')) ∧ Steps P (lone (Frame.round l fn tmps assign body .normal) (c :: cs) W) (lone (c.finish (.bool v)) cs W')) →
    J xs W → Calls P it (#[.func (.yield l) #[] #[]] ++ cv.toArray) W fun e W' => (∃ v, e = .returned v) ∧ (J [] W' ∨ Jx W')

theorem AK.rng {T : Tgt} {f : FuncId} {it : FuncId} {α σ ρ : Type} {xs : List α} {G : List Value → World → Prop} {enc : α → List Value → World → List Value → Prop} {g : Nat} {caps : List V} {ps : Array Tmp} {assign body : Code}
    {step : α → σ → Option (σ ⊕ ρ)} {done : σ → Option ρ} {t : ρ} {s0 : σ} (mk : σ → St) (encV : α → List V) (pn : List Nat) (Q : σ → Prop) (hQ0 : Q s0) (hQ : ∀ x s s', Q s → step x s = some (.inl s') → Q s')
    (hT : T.ro = none) (hTB : ∀ b cs, T.B b cs → b.fn = f) (hit : Iter P it xs G enc) (hCF : CF P it) (hfold : foldX step done xs s0 = some t)
    (hg : ∀ s, (mk s).gs g = some (.fn (.func it) [] caps)) (hpn : ∀ s, (mk s).s.map (·.1) = pn) (hps : ∀ p, p ∈ ps.toList → C.may p ∧ p ∉ pn) (hlen : ∀ x, (encV x).length = ps.size) (hC : C.pn = [] ∧ C.fx = [])
    (hG : ∀ s (C' : Ctx) hd a W cv, Q s → Sat' C' (mk s) hd a W → a.tmps.getD g undef = .func (.func it) #[] cv → G cv.toList W)
    (henc : ∀ s (C' : Ctx) hd a W cv x vs, Q s → Sat' C' (mk s) hd a W → a.tmps.getD g undef = .func (.func it) #[] cv → enc x cv.toList W vs → x ∈ xs →
      (encV x).length = vs.length ∧ ∀ (i : Nat) (y : V) (v : Value), (encV x)[i]? = some y → vs[i]? = some v → VV W (MM C' (mk s) hd) hd y v)
    (hround : ∀ (D l : Nat) (r : Loop) (pv : Nat → Value) (R : Option Code → World → Prop) (x : α) (s : σ) (u : σ ⊕ ρ), x ∈ xs → Q s → step x s = some u →
      (∀ s', u = .inl s' → AK P (tr f l R) ((C.mrk D).rnd pn pv l { r with state := .busy }) [] (mk s')) → (∀ y, u = .inr y → y = t) →
      (∀ (S' : St) (kk : List Item), (S'.s.all fun p => pn.contains p.1) = true → AK P T (C.mrk D) (.code .ret :: k) S' → AK P (tr f l R) ((C.mrk D).rnd pn pv l { r with state := .busy }) (.code .ret :: kk) S') →
      (∀ (id : Nat) (S' : St) (kk : List Item), exitTo id kk = none → (S'.s.all fun p => pn.contains p.1) = true → AK P T (C.mrk D) (.code (.exit id) :: k) S' → AK P (tr f l R) ((C.mrk D).rnd pn pv l { r with state := .busy }) (.code (.exit id) :: kk) S') →
      (∀ (S' : St) (kk : List Item), AK P (tr f l R) ((C.mrk D).rnd pn pv l { r with state := .busy }) kk S' → AK P (tr f l R) ((C.mrk D).rnd pn pv l r) (.beginRound :: kk) S') →
      AK P (tr f l R) ((C.mrk D).rnd pn pv l r) [.code assign, .beginRound, .code body] ⟨params ps.toList (encV x) (mk s).s, (mk s).o⟩)
    (hdone : ∀ (D : Nat) s, Q s → done s = some t → AK P T (C.mrk D) k (mk s)) :
    AK P T C (.code (.rangeFunc (.tmp g) ps assign body) :: k) (mk s0) := by
  rintro a w ⟨hd, hs⟩ b cs hro hk hB
  have hbf := hTB b cs hB
  rw [hT] at hro
  -- the loop is entered
  obtain ⟨D, hD⟩ : ∃ D, D = w.heap.size := ⟨_, rfl⟩
  obtain ⟨rec, hrec⟩ : ∃ rec : LoopState → Option Code → Loop, rec = fun st pe => { state := st, pending := pe, fn := f, tmps := a.tmps, params := ps, assign := assign, body := body, defers := D } := ⟨_, rfl⟩
  obtain ⟨W1, hW1⟩ : ∃ W1, W1 = (w.alloc (.deferred (some []))).alloc (.loop (rec .ready none)) := ⟨_, rfl⟩
  obtain ⟨a1, ha1⟩ : ∃ a1 : Act, a1 = { a with defers := mark D :: a.defers } := ⟨_, rfl⟩
  have hwsz : C.w0.heap.size ≤ w.heap.size := hs.fr.size
  have henter : (Instr.enterLoop b.fn a.tmps ps assign body b.roundOf).run P w = .ok (D + 1, [mark D]) W1 := by
    rw [hro, hbf, run_enterLoop_outer, hW1, hrec, hD]; rfl
  have hD1 : W1.heap[D]? = some (.deferred (some [])) := by
    rw [hW1, hD]; exact (Below.heap_alloc _ _ _ (by simp)).trans (World.alloc_heap_new w _)
  have hL1 : W1.heap[D + 1]? = some (.loop (rec .ready none)) := by
    rw [hW1, hD]; have := World.alloc_heap_new (w.alloc (.deferred (some []))) (.loop (rec .ready none)); rwa [World.size_alloc] at this
  have hDn : D ∉ C.mks := fun h => by have := (hs.df.mkd D h).2; rw [hD, Array.getElem?_eq_none (Nat.le_refl _)] at this; cases this
  have hDl : D + 1 ∉ C.mks := fun h => by have := (hs.df.mkd _ h).2; rw [hD, Array.getElem?_eq_none (by omega)] at this; cases this
  have hlD : D + 1 ∉ (C.mrk D).mks := by simp only [Ctx.mrk, List.mem_cons, not_or]; exact ⟨by omega, hDl⟩
  have hch1 : Chg w W1 (fun b => b = D ∨ b = D + 1) := by
    rw [hW1]
    refine ⟨rfl, rfl, rfl, by simp only [World.size_alloc]; omega, fun k hk _ => ?_⟩
    rw [Below.heap_alloc _ _ _ (by simp; omega), Below.heap_alloc _ _ _ hk]
  have hext : ∀ {W : World} {st : LoopState} {pe : Option Code}, (∀ E, E ∈ C.mks → W.heap[E]? = some (.deferred (some []))) → W.heap[D]? = some (.deferred (some [])) → Ext (C.mrk D) a1 W := fun hE hDW => by
    refine ⟨by rw [ha1]; show _ = (D :: C.mks).map mark; rw [List.map_cons, ← hs.df.df], ?_, fun E hE' => ?_, fun p hp => ?_, fun t ht => ?_⟩
    · show (D :: C.mks).Nodup
      rw [List.nodup_cons]; exact ⟨hDn, hs.df.nd⟩
    · rcases List.mem_cons.1 (show E ∈ D :: C.mks from hE') with rfl | h
      · exact ⟨by show C.w0.heap.size ≤ E; omega, hDW⟩
      · exact ⟨(hs.df.mkd E h).1, hE E h⟩
    · have : p ∈ C.fx := hp
      rw [hC.2] at this; cases this
    · have : t ∈ C.pn := ht
      rw [hC.1] at this; cases this
  have hmarks1 : ∀ E, E ∈ C.mks → W1.heap[E]? = some (.deferred (some [])) := fun E hE => by
    have h := (hs.df.mkd E hE).2
    have hlt := (Array.getElem?_eq_some_iff.1 h).1
    rw [hch1.block E hlt (by rintro (rfl | rfl) <;> omega)]; exact h
  have hs1 : Sat' (C.mrk D) (mk s0) hd a1 W1 := hs.turn rfl rfl rfl rfl (by rw [ha1]) hch1 (by
      rintro b (rfl | rfl)
      · exact ⟨by omega, fun h => by omega⟩
      · exact ⟨by omega, fun h => by omega⟩) (hext (st := .ready) (pe := none) hmarks1 hD1)
  -- the function's value
  obtain ⟨cv, hcv⟩ : ∃ cv : Array Value, a.tmps.getD g undef = .func (.func it) #[] cv := by
    obtain ⟨vs, us, h1, h2, _⟩ := (hs.sl g _ (hg s0)).2.fn_inv
    have : vs = [] := List.length_eq_zero_iff.1 (by simpa using h2.symm)
    subst this
    exact ⟨_, h1⟩
  have hcv1 : a1.tmps.getD g undef = .func (.func it) #[] cv := by rw [ha1]; exact hcv
  have hres : (resolve a.eval (rangeCall (.tmp g) (D + 1)) 0).run P W1 = .ok { target := .fn (.func it) cv, args := #[.func (.yield (D + 1)) #[] #[]] } W1 := by
    have he : a.eval (.tmp g) = .func (.func it) #[] cv := hcv
    simp only [resolve, he, Deferred.ofValue, Sem.run_bind, Sem.run_pure, Result.andThen_ok]
    simp [Act.eval]
  have hinv : (invoke (.fn (.func it) cv) #[.func (.yield (D + 1)) #[] #[]]).run P W1 = .ok (.enter it (#[.func (.yield (D + 1)) #[] #[]] ++ cv)) W1 := by
    simp only [invoke]; exact hCF _ _
  have hstep1 := stepR_rangeFunc (P := P) (b := b) (a := a) (k := k) (cs := cs) (w := w) henter hres hinv
  have e1 : ({ a with defers := [mark D] ++ a.defers } : Act) = a1 := by rw [ha1]; rfl
  rw [e1] at hstep1
  -- what stands between the rounds
  obtain ⟨INV, hINV⟩ : ∃ INV : σ → World → Prop, INV = fun s W => (∃ hd, Sat' (C.mrk D) (mk s) hd a1 W) ∧ W.heap[D + 1]? = some (.loop (rec .ready none)) := ⟨_, rfl⟩
  obtain ⟨JX, hJX⟩ : ∃ JX : Code → World → Prop, JX = fun c W => ∃ S', AK P T (C.mrk D) (.code c :: k) S' ∧ (∃ hd, Sat' (C.mrk D) S' hd a1 W) ∧ W.heap[D + 1]? = some (.loop (rec .done (some c))) := ⟨_, rfl⟩
  obtain ⟨R, hR⟩ : ∃ R : σ ⊕ ρ → Option Code → World → Prop, R = fun u j W => match j with | none => ∃ s', u = .inl s' ∧ INV s' W | some c => JX c W := ⟨_, rfl⟩
  obtain ⟨pv, hpv⟩ : ∃ pv : Nat → Value, pv = fun t => a1.tmps.getD t undef := ⟨_, rfl⟩
  have hsize : a1.tmps.size = C.nt := by rw [ha1]; exact hs.nt
  have hpin : ∀ {S' : St}, (S'.s.all fun p => pn.contains p.1) = true → ∀ t x, S'.gs t = some x → t ∈ pn := fun {S'} hall t x hx => by
    have := List.all_eq_true.1 hall _ (lk_mem hx)
    simpa using this
  have hpinmk : ∀ s, ((mk s).s.all fun p => pn.contains p.1) = true := fun s => by
    rw [List.all_eq_true]
    intro p hp
    rw [← hpn s]
    simp only [List.contains_eq_mem, List.mem_map, decide_eq_true_eq]
    exact ⟨p, hp, rfl⟩
  have hmem : ((D + 1, Obj.loop (rec .busy none)) : Nat × Obj) ∈ ((C.mrk D).rnd pn pv (D + 1) (rec .busy none)).fx := by simp [Ctx.rnd]
  have hout : ∀ {S' : St} {a' : Act} {W : World} {hd : Nat → Value} (r' : Loop), (S'.s.all fun p => pn.contains p.1) = true → Sat' ((C.mrk D).rnd pn pv (D + 1) (rec .busy none)) S' hd a' W → W.heap[D + 1]? = some (.loop (rec .busy none)) →
      Sat' (C.mrk D) S' hd a1 (W.putObj (D + 1) (.loop r')) ∧ (W.putObj (D + 1) (.loop r')).heap[D + 1]? = some (.loop r') := fun {S' a' W hd} r' hall hs' hL => by
    have hlt := (Array.getElem?_eq_some_iff.1 hL).1
    refine ⟨hs'.swap (C' := C.mrk D) rfl rfl rfl rfl hsize (fun t x hx => ?_) (putObj_chg W (D + 1) _) (fun b hb => by subst hb; exact ⟨by show C.w0.heap.size ≤ D + 1; omega, fun _ => ⟨_, hL, rfl⟩⟩) (hext (st := .ready) (pe := none) (fun E hE => ?_) ?_), World.putObj_heap_same hlt⟩
    · rw [hs'.df.pn t (hpin hall t x hx), hpv]; rfl
    · have := (hs'.df.fx (E, .deferred (some [])) (by simp only [Ctx.rnd, Ctx.mrk, List.mem_cons, List.map_cons, List.mem_map]; exact .inr (.inr ⟨E, hE, rfl⟩))).2
      have hne : E ≠ D + 1 := fun e => hDl (by rw [← e]; exact hE)
      rw [World.putObj_heap_other hne]; exact this
    · have := (hs'.df.fx (D, .deferred (some [])) (by simp [Ctx.rnd, Ctx.mrk])).2
      rw [World.putObj_heap_other (by omega)]; exact this
  have hrb : ∀ (st : LoopState) (pe : Option Code), ({ rec .busy none with state := st, pending := pe } : Loop) = rec st pe := fun st pe => by rw [hrec]
  have hrb2 : ({ rec .ready none with state := .busy } : Loop) = rec .busy none := by rw [hrec]
  have hcall := hit W1 (D + 1) cv.toList (fun rest W => ∃ s, foldX step done rest s = some t ∧ INV s W ∧ (∀ x, x ∈ rest → x ∈ xs) ∧ Q s) (fun W => ∃ c, JX c W) (by
      rintro rest W ⟨s, h1, h2, h3, hq⟩
      refine ⟨s, h1, ?_, h3, hq⟩
      rw [hINV] at h2 ⊢
      obtain ⟨⟨hd', hs'⟩, hL⟩ := h2
      exact ⟨Sat.drew ⟨hd', hs'⟩, hL⟩) (by
      rintro rest W ⟨s, h1, h2, h3, hq⟩
      rw [hINV] at h2
      obtain ⟨⟨hd', hs'⟩, hL⟩ := h2
      exact hG s _ hd' a1 W cv hq hs' hcv1) (by
      rintro x rest W vs ⟨s, h1, h2, h3, hq⟩ hen
      rw [hINV] at h2
      obtain ⟨⟨hd', hs'⟩, hL⟩ := h2
      have hxin := h3 x (by simp)
      obtain ⟨hvl, hvv⟩ := henc s _ hd' a1 W cv x vs hq hs' hcv1 hen hxin
      have hsz : vs.toArray.size = (rec .ready none).params.size := by rw [hrec]; simp; rw [← hvl, hlen]
      refine ⟨_, _, _, _, run_yield hL hsz, fun c cs' => ?_⟩
      -- the round
      have hfin : (rec .ready none).fn = f ∧ (rec .ready none).tmps = a.tmps ∧ (rec .ready none).params = ps ∧ (rec .ready none).assign = assign ∧ (rec .ready none).body = body := by rw [hrec]; exact ⟨rfl, rfl, rfl, rfl, rfl⟩
      obtain ⟨q1, q2, q3, q4, q5⟩ := hfin
      rw [q1, q2, q3, q4, q5]
      let b' : Frame := { (default : Frame) with fn := f, kind := .normal, roundOf := some (D + 1) }
      have hrs : Sat' ((C.mrk D).rnd pn pv (D + 1) (rec .ready none)) (mk s) hd' { a1 with defers := [] } W := hs'.turn rfl rfl rfl rfl rfl (Chg.refl W (fun _ => False)) (fun _ h => h.elim) (by
        refine ⟨rfl, List.nodup_nil, fun _ h => (List.not_mem_nil h).elim, fun p hp => ?_, fun t ht => by rw [show ((C.mrk D).rnd pn pv (D + 1) (rec .ready none)).pv = pv from rfl, hpv]⟩
        simp only [Ctx.rnd, List.mem_cons, List.mem_map] at hp
        rcases hp with rfl | ⟨E, hE, rfl⟩
        · exact ⟨rfl, hL⟩
        · exact ⟨rfl, (hs'.df.mkd E hE).2⟩)
      have hrs2 := Sat'.params (ts := ps.toList) (xs := encV x) (vs := vs) hrs hvl (fun p hp => ⟨(hps p hp).1.1, (hps p hp).2⟩) (fun i y v hi hv => hvv i y v hi hv)
      have htm : (List.foldl (fun tmps (x : Tmp × Value) => match x with | (t, v) => tmps.setIfInBounds t v) a.tmps (ps.toList.zip vs)) = Array.foldl (fun tmps (x : Tmp × Value) => match x with | (t, a) => tmps.setIfInBounds t a) a.tmps (ps.zip vs.toArray) := by
        rw [← Array.foldl_toList, Array.toList_zip]
      have hfr : Frame.round (D + 1) f (Array.foldl (fun tmps (x : Tmp × Value) => match x with | (t, a) => tmps.setIfInBounds t a) a.tmps (ps.zip vs.toArray)) assign body .normal =
          b'.atR { tmps := Array.foldl (fun tmps (x : Tmp × Value) => match x with | (t, a) => tmps.setIfInBounds t a) a.tmps (ps.zip vs.toArray), defers := [] } [.code assign, .beginRound, .code body] := by
        simp [Frame.round, Frame.atR, b']
      obtain ⟨u, hu⟩ : ∃ u, step x s = some u := by
        simp only [foldX] at h1
        cases hst : step x s with
        | none => rw [hst] at h1; cases h1
        | some u => exact ⟨u, rfl⟩
      simp only [foldX, hu] at h1
      have hak := hround D (D + 1) (rec .ready none) pv (R u) x s u hxin hq hu
        (fun s' hus => by
          rw [hrb2]
          refine AK.re (r := rec .busy none) (fun a' W' ⟨hd2, hs2⟩ hL2 => ?_) hmem
          rw [hrb]
          obtain ⟨g1, g2⟩ := hout (rec .ready none) (hpinmk s') hs2 hL2
          rw [hR]
          refine ⟨s', hus, ?_⟩
          rw [hINV]; exact ⟨⟨hd2, g1⟩, g2⟩)
        (fun y hy => by subst hy; simpa using h1)
        (fun S' kk hall hAK => by
          rw [hrb2]
          refine AK.rret (r := rec .busy none) (fun a' W' ⟨hd2, hs2⟩ hL2 => ?_) hmem
          rw [hrb]
          obtain ⟨g1, g2⟩ := hout (rec .done (some .ret)) hall hs2 hL2
          rw [hR]; show JX .ret _
          rw [hJX]; exact ⟨S', hAK, ⟨hd2, g1⟩, g2⟩)
        (fun id S' kk he hall hAK => by
          rw [hrb2]
          refine AK.rxt (r := rec .busy none) he (fun a' W' ⟨hd2, hs2⟩ hL2 => ?_) hmem
          rw [hrb]
          obtain ⟨g1, g2⟩ := hout (rec .done (some (.exit id))) hall hs2 hL2
          rw [hR]; show JX (.exit id) _
          rw [hJX]; exact ⟨S', hAK, ⟨hd2, g1⟩, g2⟩)
        (fun S' kk h => AK.bgn (by rw [hrec]) (by show C.w0.heap.size ≤ D + 1; omega) hlD h)
      have hgo := hak _ W ⟨hd', hrs2⟩ b' (c :: cs') rfl rfl ⟨rfl, by simp⟩
      have hact : ({ a1 with defers := [], tmps := (List.foldl (fun tmps (x : Tmp × Value) => match x with | (t, v) => tmps.setIfInBounds t v) a1.tmps (ps.toList.zip vs)) } : Act) = { tmps := Array.foldl (fun tmps (x : Tmp × Value) => match x with | (t, a) => tmps.setIfInBounds t a) a.tmps (ps.zip vs.toArray), defers := [] } := by
        rw [← htm, ha1]
      obtain ⟨m, ⟨c0, cs0, j, W', hcc, hRj, hm⟩, hst⟩ := hgo
      cases hcc
      subst hm
      refine ⟨j.isNone, W', ?_, ?_⟩
      · rw [hR] at hRj
        cases j with
        | none =>
          obtain ⟨s', hus, hi⟩ := hRj
          subst hus
          exact .inl ⟨rfl, s', h1, hi, fun y hy => h3 y (by simp [hy]), hQ x s s' hq hu⟩
        | some c2 => exact .inr ⟨rfl, c2, hRj⟩
      · rw [hfr, ← hact]
        exact hst) ⟨s0, hfold, by rw [hINV]; exact ⟨⟨hd, hs1⟩, hL1⟩, fun x hx => hx, hQ0⟩
  obtain ⟨e, W2, fr, ⟨⟨v, rfl⟩, hJ⟩, hsteps, hfn, hleave⟩ := hcall (b.atR a1 (.inRangeFunc (D + 1) :: k) :: cs)
  have hback : Go.step P (lone fr (b.atR a1 (.inRangeFunc (D + 1) :: k) :: cs) W2) = .next (lone (b.atR a1 (.endRangeFunc (D + 1) :: k)) cs W2) := by
    rw [← finish_atR_inRangeFunc (D + 1) v]; exact step_leave_returned hleave
  have hpre : Steps P (lone (b.atR a (.code (.rangeFunc (.tmp g) ps assign body) :: k)) cs w) (lone (b.atR a1 (.endRangeFunc (D + 1) :: k)) cs W2) := by
    refine .head hstep1 (Steps.trans ?_ (.one hback))
    have : cv.toList.toArray = cv := by simp
    rw [this] at hsteps
    exact hsteps
  have hfinish : ∀ {S' : St} {hd : Nat → Value} {st : LoopState} {pe : Option Code}, st ≠ .busy → Sat' (C.mrk D) S' hd a1 W2 → W2.heap[D + 1]? = some (.loop (rec st pe)) →
      (Instr.endLoop (D + 1)).run P W2 = .ok pe (W2.putObj (D + 1) (.loop (rec .exhausted pe))) ∧ Sat' (C.mrk D) S' hd a1 (W2.putObj (D + 1) (.loop (rec .exhausted pe))) := fun {S' hd st pe} hst hs' hL => by
    refine ⟨?_, hs'.turn rfl rfl rfl rfl rfl (putObj_chg W2 (D + 1) _) (fun b hb => by subst hb; exact ⟨by show C.w0.heap.size ≤ D + 1; omega, fun _ => ⟨_, hL, rfl⟩⟩) (hext (st := .ready) (pe := none) (fun E hE => ?_) ?_)⟩
    · have := run_endLoop (P := P) hL (by rw [hrec]; exact hst)
      rw [this, hrec]
    · have hne : E ≠ D + 1 := fun e => hDl (by rw [← e]; exact hE)
      rw [World.putObj_heap_other hne]
      exact (hs'.df.mkd E (by simp [Ctx.mrk, hE])).2
    · rw [World.putObj_heap_other (by omega)]
      exact (hs'.df.mkd D (by simp [Ctx.mrk])).2
  rcases hJ with ⟨s, h1, h2, _, hq⟩ | ⟨c, hj⟩
  · rw [hINV] at h2
    obtain ⟨⟨hd2, hs2⟩, hL⟩ := h2
    obtain ⟨hend, hs3⟩ := hfinish (by simp) hs2 hL
    obtain ⟨m, hE, hst⟩ := hdone D s hq h1 a1 _ ⟨hd2, hs3⟩ b cs (by rw [hT]; exact hro) hk hB
    exact ⟨m, hE, Steps.trans hpre (.head (stepR_endRangeFunc hend) hst)⟩
  · rw [hJX] at hj
    obtain ⟨S', hAK, ⟨hd2, hs2⟩, hL⟩ := hj
    obtain ⟨hend, hs3⟩ := hfinish (by simp) hs2 hL
    obtain ⟨m, hE, hst⟩ := hAK a1 _ ⟨hd2, hs3⟩ b cs (by rw [hT]; exact hro) hk hB
    exact ⟨m, hE, Steps.trans hpre (.head (stepR_endRangeFunc hend) hst)⟩
end
end Xb
