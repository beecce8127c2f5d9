/- Own text: Core7. -/
import Derived.Test.YtemfkddlidfbfaaGreatCore6
import Derived.Orders
import Derived.RangeFuncLeaves
import Derived.AtR
import Derived.RangeFuncRecord
set_option linter.all false
set_option linter.unusedVariables false
set_option linter.unusedSimpArgs false
set_option linter.unnecessarySimpa false
set_option linter.deprecated false
/-! The walk: what is left to do, from a state on. -/
namespace Xb
open Go

/-- the memory of a state -/
structure Mem (C : Ctx) (o : List (Nat × Option O)) (hd : Nat → Value) (w : World) : Prop where
  ob : ∀ id x, (St.mk [] o).go id = some x → OO w (MM C ⟨[], o⟩ hd) hd (hd id) x
  lv : ∀ b, Ow ⟨[], o⟩ hd b → (C.w0.heap.size ≤ b ∨ C.X b) ∧ b < w.heap.size
  inj : ∀ id1 id2 x1 x2 b, (St.mk [] o).go id1 = some x1 → (St.mk [] o).go id2 = some x2 → blk (hd id1) = some b → blk (hd id2) = some b → id1 = id2
  fr : Chg C.w0 w C.X

/-- what a call hands back -/
def Post (C : Ctx) (r : V) (o : List (Nat × Option O)) (e : Ending) (w : World) : Prop :=
  ∃ v hd, e = .returned v ∧ VV w (MM C ⟨[], o⟩ hd) hd r v ∧ Mem C o hd w

/-- where a walk is to end -/
structure Tgt where
  ro : Option Nat
  B : Frame → List Frame → Prop
  E : Frame → List Frame → Machine → Prop

def Goes (P : Program) (T : Tgt) (k : List Item) (a : Act) (w : World) : Prop :=
  ∀ (b : Frame) (cs : List Frame), b.roundOf = T.ro → b.kind = .normal → T.B b cs → ∃ m, T.E b cs m ∧ Steps P (lone (b.atR a k) cs w) m

/-- a function, to its end -/
def tf (P : Program) (f : FuncId) (r : V) (ob : List (Nat × Option O)) (C : Ctx) : Tgt :=
  ⟨none, fun b _ => b.fn = f, fun _ cs m => ∃ e w' fr v, Post C r ob e w' ∧ e = .returned v ∧ m = lone fr cs w' ∧ fr.fn = f ∧ fr.leaving P w' e⟩

/-- from here on the walk goes to its end -/
def AK (P : Program) (T : Tgt) (C : Ctx) (k : List Item) (S : St) : Prop :=
  ∀ a w, Sat C S a w → Goes P T k a w

theorem Goes.of_step {P : Program} {T : Tgt} {k k' : List Item} {a a' : Act} {w w' : World}
    (h : ∀ (b : Frame) (cs : List Frame), b.roundOf = T.ro → step P (lone (b.atR a k) cs w) = .next (lone (b.atR a' k') cs w')) (g : Goes P T k' a' w') : Goes P T k a w := by
  intro b cs hr hk hB
  obtain ⟨m, hE, hs⟩ := g b cs hr hk hB
  exact ⟨m, hE, .head (h b cs hr) hs⟩

section
variable {P : Program} {T : Tgt} {C : Ctx} {k : List Item} {S : St}

theorem AK.sq {x y : Code} (h : AK P T C (.code x :: .code y :: k) S) : AK P T C (.code (.seq x y) :: k) S :=
  fun a w hs => .of_step (fun _ _ _ => stepR_seq) (h a w hs)
theorem AK.skp (h : AK P T C k S) : AK P T C (.code .skip :: k) S := fun a w hs => .of_step (fun _ _ _ => stepR_skip) (h a w hs)
theorem AK.lbl {l : Nat} (h : AK P T C k S) : AK P T C (.code (.label l) :: k) S := fun a w hs => .of_step (fun _ _ _ => stepR_label) (h a w hs)
theorem AK.bl {id : Nat} {c : Code} (h : AK P T C (.code c :: .inBlock id :: k) S) : AK P T C (.code (.block id c) :: k) S :=
  fun a w hs => .of_step (fun _ _ _ => stepR_block) (h a w hs)
theorem AK.ib {id : Nat} (h : AK P T C k S) : AK P T C (.inBlock id :: k) S := fun a w hs => .of_step (fun _ _ _ => stepR_inBlock) (h a w hs)
theorem AK.lp {c : Code} (h : AK P T C (.code c :: .inLoop c :: k) S) : AK P T C (.code (.loop c) :: k) S :=
  fun a w hs => .of_step (fun _ _ _ => stepR_loop) (h a w hs)
theorem AK.il {c : Code} (h : AK P T C (.code c :: .inLoop c :: k) S) : AK P T C (.inLoop c :: k) S :=
  fun a w hs => .of_step (fun _ _ _ => stepR_inLoop) (h a w hs)
theorem AK.xt {id : Nat} {k' : List Item} (he : exitTo id k = some k') (h : AK P T C k' S) : AK P T C (.code (.exit id) :: k) S :=
  fun a w hs => .of_step (fun _ _ _ => stepR_exit he) (h a w hs)
theorem AK.cd {c : Operand} {x y : Code} {b : Bool} (hc : Ev S c (.ro (.bool b))) (ht : b = true → AK P T C (.code x :: k) S) (hf : b = false → AK P T C (.code y :: k) S) :
    AK P T C (.code (.cond c x y) :: k) S := by
  rintro a w ⟨hd, hs⟩
  have e := (hc.vv hs).bool_inv
  cases b with
  | true => exact .of_step (fun _ _ _ => stepR_cond e) (ht rfl a w ⟨hd, hs⟩)
  | false => exact .of_step (fun _ _ _ => stepR_cond e) (hf rfl a w ⟨hd, hs⟩)
theorem AK.ct {c : Operand} {x y : Code} {b : Bool} (hc : Ev S c (.ro (.bool b))) (hb : b = true) (ht : AK P T C (.code x :: k) S) :
    AK P T C (.code (.cond c x y) :: k) S := .cd hc (fun _ => ht) (fun h => by rw [hb] at h; cases h)
theorem AK.cf {c : Operand} {x y : Code} {b : Bool} (hc : Ev S c (.ro (.bool b))) (hb : b = false) (ht : AK P T C (.code y :: k) S) :
    AK P T C (.code (.cond c x y) :: k) S := .cd hc (fun h => by rw [hb] at h; cases h) (fun _ => ht)

/-- every slot that is written is one of the frame's -/
def dstOk (nt : Nat) (pn : List Nat) (os : List Oper) : Bool := os.all fun o => (match o.dst with | some t => Nat.blt t nt && pn.all fun u => !Nat.beq u t | none => true) && (match o.op with | .defer _ => false | _ => true)

theorem dstOk_may {C : Ctx} {os : List Oper} (h : dstOk C.nt C.pn os = true) {o : Oper} (ho : o ∈ os) : ∀ t, o.dst = some t → C.may t := by
  intro t ht
  have := List.all_eq_true.1 h o ho
  simp only [ht, Bool.and_eq_true] at this
  refine ⟨Nat.blt_eq.mp this.1.1, fun hm => ?_⟩
  have h2 := List.all_eq_true.1 this.1.2 t hm
  simp at h2
theorem dstOk_def {nt : Nat} {pn : List Nat} {os : List Oper} (h : dstOk nt pn os = true) {o : Oper} (ho : o ∈ os) : ∀ c, o.op ≠ .defer c := by
  intro c hc
  have := List.all_eq_true.1 h o ho
  simp [hc] at this

/-- the operations of a region, done one behind the other, whatever the frame -/
theorem wpOps_R {P : Program} {ops : Array Oper} {K : Act → World → Prop} (hnd : ∀ o, o ∈ ops.toList → ∀ c, o.op ≠ .defer c) : ∀ (l : List Nat) (a : Act) (w : World),
    wpOps P ops (fun e a w => match e with | .normal => K a w | _ => False) l a w → ∀ (b : Frame) (k : List Item) (cs : List Frame),
      ∃ a' w', K a' w' ∧ Steps P (lone (b.atR a (.inRegion ops l :: k)) cs w) (lone (b.atR a' k) cs w') := by
  intro l
  induction l with
  | nil => exact fun a w h b k cs => ⟨a, w, h, .one stepR_region_end⟩
  | cons i rest ih =>
    intro a w h b k cs
    simp only [wpOps] at h
    cases ho : ops[i]? with
    | none =>
      simp only [ho] at h
      obtain ⟨a', w', hK, hs⟩ := ih a w h b k cs
      have hst := stepR_op_skip (P := P) (b := b) (a := a) (k := k) (cs := cs) (w := w) (ops := ops) (i := i) (rest := rest) (by simp [ho])
      simp only [ho, Option.bind_none, Act.put] at hst
      exact ⟨a', w', hK, .head hst hs⟩
    | some o =>
      have hmem : o ∈ ops.toList := by
        have := List.mem_of_getElem? (l := ops.toList) (i := i) (by simpa using ho)
        exact this
      simp only [ho] at h
      by_cases hw : Region.wanted o (yielded ops a.tmps) = true
      · simp only [hw, if_true] at h
        rcases h with h | ⟨_, _, _, hf⟩
        case inr => exact hf.elim
        have hg := stepGR_op (P := P) (b := b) (k := k) (cs := cs) (w := w) (rest := rest) ho hw
        rw [Oper.semAt_eq _ _ _ (hnd o hmem)] at hg
        have hfin : ∀ v, (b.atR a (.inRegion ops (i :: rest) :: k)).finish v = b.atR (a.put o.dst v) (.inRegion ops rest :: k) := by
          intro v; rw [Frame.finish_atR, ho]; rfl
        unfold Oper.wp at h
        simp only [Oper.upon] at h
        split at h
        · rename_i v w' hr'
          obtain ⟨a', w'', hK, hs⟩ := ih _ _ h b k cs
          refine ⟨a', w'', hK, .head (step_lone_go ?_) hs⟩
          rw [hg, ← hfin]; simp [stepG.apply, hr']
        · rename_i w' hr'
          obtain ⟨a', w'', hK, hs⟩ := ih _ _ h b k cs
          refine ⟨a', w'', hK, .head (step_lone_go ?_) hs⟩
          rw [hg, ← hfin]; simp [stepG.apply, hr']
        · rename_i d w' hr'
          obtain ⟨a', w'', hK, hs⟩ := ih _ _ h b k cs
          refine ⟨a', w'', hK, .head (step_lone_go ?_) hs⟩
          have : ({ b.atR a (.inRegion ops (i :: rest) :: k) with defers := d :: a.defers } : Frame).finish undef =
              b.atR ({ a with defers := d :: a.defers }.put o.dst undef) (.inRegion ops rest :: k) := by
            have := Frame.finish_atR b { a with defers := d :: a.defers } ops i rest k undef
            rw [ho] at this; exact this
          rw [hg]; simp only [stepG.apply, Sem.runT_eq, hr', GStep.bare_after]
          exact congrArg (fun fr => GStep.go { frame := fr, callers := cs, status := .running, dying := none } w') this
        · rename_i f args w' hr'
          obtain ⟨e, w'', fr, hR, hsteps, hfn, hleave⟩ := h (b.atR a (.inRegion ops (i :: rest) :: k) :: cs)
          have henter : step P (lone (b.atR a (.inRegion ops (i :: rest) :: k)) cs w) =
              .next (lone (Frame.enter P f args .normal) (b.atR a (.inRegion ops (i :: rest) :: k) :: cs) w') :=
            step_lone_go (by rw [hg]; simp [stepG.apply, hr', Frame.atR])
          cases e with
          | returned v =>
            obtain ⟨a', w₃, hK, hs⟩ := ih _ _ hR b k cs
            refine ⟨a', w₃, hK, .head henter (Steps.trans hsteps (.head ?_ hs))⟩
            rw [← hfin]; exact step_leave_returned hleave
          | panicked chain => exact hR.elim
          | outgrown => obtain ⟨_, _, hq⟩ := hR; exact hq.elim
        · rename_i row args w' hr'
          obtain ⟨v, w'', hR, hsteps⟩ := h (b.atR a (.inRegion ops (i :: rest) :: k)) cs
          have henter : step P (lone (b.atR a (.inRegion ops (i :: rest) :: k)) cs w) =
              .next (lone (Frame.ofRow P row args .normal) (b.atR a (.inRegion ops (i :: rest) :: k) :: cs) w') :=
            step_lone_go (by rw [hg]; simp [stepG.apply, hr', Frame.atR])
          obtain ⟨a', w₃, hK, hs⟩ := ih _ _ hR b k cs
          refine ⟨a', w₃, hK, .head henter (Steps.trans hsteps ?_)⟩
          rw [hfin]; exact hs
        · exact h.elim
        · exact h.elim
      · rw [if_neg hw] at h
        obtain ⟨a', w', hK, hs⟩ := ih _ _ h b k cs
        have hst := stepR_op_skip (P := P) (b := b) (a := a) (k := k) (cs := cs) (w := w) (ops := ops) (i := i) (rest := rest) (by simp [ho, hw])
        rw [ho] at hst
        exact ⟨a', w', hK, .head hst hs⟩

theorem wpOps_of_Der {ops : Array Oper} {Q : Exit → Act → World → Prop} {S' : St} : ∀ {os : List Oper} {es : List Eff} {S : St} {l : List Nat}, Der P ops S os es S' →
    l.map (fun i => ops[i]?) = os.map some → dstOk C.nt C.pn os = true → (∀ a w, Sat C S' a w → Q .normal a w) → ∀ a w, Sat C S a w → wpOps P ops Q l a w := by
  intro os es S l D
  induction D generalizing l with
  | nil S =>
    intro hl _ hq a w hs
    have : l = [] := by simpa using hl
    subst this
    exact hq a w hs
  | @cons S S' o os e es ht hp D ih =>
    intro hl hd hq a w hs
    cases l with
    | nil => simp at hl
    | cons i l =>
      simp only [List.map_cons, List.cons.injEq] at hl
      have hmay := dstOk_may hd (List.mem_cons_self ..)
      have hd2 : dstOk C.nt C.pn os = true := by simp only [dstOk, List.all_cons, Bool.and_eq_true] at hd ⊢; exact hd.2
      have hst := ht C S a w hs hp hmay
      simp only [wpOps, hl.1]
      unfold stepOp at hst
      split
      · rename_i hw
        rw [if_pos hw] at hst
        left
        have h1 : o.wp P a w (wpOps P ops Q l) (fun _ _ _ => False) := Oper.wp_mono (fun a' w' h => ih hl.2 hd2 hq a' w' h) hst
        unfold Oper.wp at h1 ⊢
        generalize (execOp a.eval o).run P w = res at h1
        cases res with
        | ok n w' =>
          cases n <;> simp only [Oper.upon] at h1 ⊢ <;> first
            | exact h1
            | exact h1.mono (fun e w'' he => by
                cases e with
                | returned v => exact he
                | panicked ch => exact he.elim
                | outgrown => obtain ⟨_, _, h⟩ := he; exact h.elim)
        | halt x w' => cases x <;> simp only [Oper.upon] at h1
      · rename_i hw
        rw [if_neg hw] at hst
        exact ih hl.2 hd2 hq _ _ hst

/-- a region whose order stands -/
theorem AK.rg {id : Nat} {ops : Array Oper} {es : List Eff} {S' : St} (D : Der P ops S ops.toList es S') (hd : dstOk C.nt C.pn ops.toList = true) (h : AK P T C k S') :
    AK P T C (.code (.region id ops false) :: k) S := by
  intro a w hs b cs hf hk hB
  have hwp := wpOps_of_Der (C := C) (Q := fun e a w => match e with | .normal => Sat C S' a w | _ => False) (l := List.range ops.size) D (by
      refine List.ext_getElem? fun i => ?_
      simp only [List.getElem?_map]
      by_cases hi : i < ops.size
      · simp [hi]
      · simp [hi]) hd (fun _ _ h => h) a w hs
  obtain ⟨a', w', hq, harr⟩ := wpOps_R (P := P) (fun o ho => dstOk_def hd ho) (List.range ops.size) a w hwp b k cs
  obtain ⟨m, hE, hs2⟩ := h a' w' hq b cs hf hk hB
  exact ⟨m, hE, .head stepR_region (Steps.trans harr hs2)⟩

/-- of a state only some is kept -/
inductive Keep (S : St) : List (Nat × V) → Prop
  | n : Keep S []
  | c {t : Nat} {x : V} {l : List (Nat × V)} (h : S.gs t = some x) (hl : Keep S l) : Keep S ((t, x) :: l)
inductive KeepO (S : St) : List (Nat × Option O) → Prop
  | n : KeepO S []
  | c {t : Nat} {x : O} {l : List (Nat × Option O)} (h : S.go t = some x) (hl : KeepO S l) : KeepO S ((t, some x) :: l)

theorem Keep.gs {S : St} {l : List (Nat × V)} (h : Keep S l) {t : Nat} {x : V} (hx : lk l t = some x) : S.gs t = some x := by
  induction h with
  | n => cases hx
  | @c u y l hu _ ih =>
    simp only [lk] at hx
    cases hb : Nat.beq u t with
    | true => rw [hb] at hx; simp at hx; subst hx; rw [← Nat.eq_of_beq_eq_true hb]; exact hu
    | false => rw [hb] at hx; exact ih hx
theorem KeepO.go {S : St} {l : List (Nat × Option O)} (h : KeepO S l) {t : Nat} {x : O} (hx : (St.mk [] l).go t = some x) : S.go t = some x := by
  induction h with
  | n => cases hx
  | @c u y l hu _ ih =>
    simp only [St.go, lk] at hx ih
    cases hb : Nat.beq u t with
    | true => rw [hb] at hx; simp at hx; subst hx; rw [← Nat.eq_of_beq_eq_true hb]; exact hu
    | false => rw [hb] at hx; exact ih hx

/-- what holds of a state holds of a smaller one -/
theorem Sat'.keep {C : Ctx} {S : St} {hd : Nat → Value} {a : Act} {w : World} (h : Sat' C S hd a w) {l : List (Nat × V)} {o : List (Nat × Option O)} (hl : Keep S l) (ho : KeepO S o) :
    Sat' C ⟨l, o⟩ hd a w := by
  have hgo : ∀ id x, (St.mk l o).go id = some x → S.go id = some x := fun id x hx => ho.go hx
  have hM : ∀ b, b < w.heap.size → (C.M0 b ∨ Ow ⟨l, o⟩ hd b) → (C.M0 b ∨ Ow S hd b) := by
    rintro b _ (hm | ⟨id, x, hx, hb⟩)
    · exact .inl hm
    · exact .inr ⟨id, x, hgo id x hx, hb⟩
  refine ⟨h.nt, fun t x hx => ?_, fun id x hx => ?_, ?_, fun id1 id2 x1 x2 b h1 h2 => h.inj id1 id2 x1 x2 b (hgo _ _ h1) (hgo _ _ h2), h.fr, h.df⟩
  · obtain ⟨ht, hv⟩ := h.sl t x (hl.gs hx)
    exact ⟨ht, hv.ext (Chg.refl w (fun _ => False)) (fun _ h => h.elim) hM (fun _ _ => rfl)⟩
  · exact (h.ob id x (hgo id x hx)).ext (Chg.refl w (fun _ => False)) (fun _ h => h.elim) hM (fun _ _ => rfl) (fun _ _ h => h)
  · rintro b ⟨id, x, hx, hb⟩
    exact h.lv b ⟨id, x, hgo id x hx, hb⟩

theorem AK.kp {l : List (Nat × V)} {o : List (Nat × Option O)} (hl : Keep S l) (ho : KeepO S o) (h : AK P T C k ⟨l, o⟩) : AK P T C k S :=
  fun a w ⟨hd, hs⟩ => h a w ⟨hd, hs.keep hl ho⟩

/-- the results -/
inductive Res (P : Program) (S : St) : List ResultVar → List V → Prop
  | n : Res P S [] []
  | t {t : Tmp} {x : V} {rs : List ResultVar} {xs : List V} (h : S.gs t = some x) (hr : Res P S rs xs) : Res P S (.tmp t :: rs) (x :: xs)
  | c {t : Tmp} {ty : TypeId} {id off n : Nat} {ag : Bool} {cs : List V} {x : V} {rs : List ResultVar} {xs : List V} (hT : TF P ty ag n) (h : S.gs t = some (.ptr id off)) (hO : S.go id = some (.box cs))
      (hv : ldV ag n off cs = some x) (hr : Res P S rs xs) : Res P S (.cell t ty :: rs) (x :: xs)

def resOne (tmps : Array Value) : ResultVar → Sem Value
  | .tmp t => pure (tmps.getD t undef)
  | .cell p t => do loadVar t (← asAddr (tmps.getD p undef))

theorem run_Res {C : Ctx} {S : St} {hd : Nat → Value} {a : Act} {w : World} (hs : Sat' C S hd a w) {rs : List ResultVar} {xs : List V} (h : Res P S rs xs) :
    ∃ vs : List Value, (rs.mapM (resOne a.tmps)).run P w = .ok vs w ∧ xs.length = vs.length ∧
      ∀ (i : Nat) (x : V) (v : Value), xs[i]? = some x → vs[i]? = some v → VV w (MM C S hd) hd x v := by
  induction h with
  | n => exact ⟨[], rfl, rfl, by simp⟩
  | @t t x rs xs h _ ih =>
    obtain ⟨vs, hr, hl, hv⟩ := ih
    refine ⟨a.tmps.getD t undef :: vs, by simp only [List.mapM_cons, resOne, Sem.run_bind, Sem.run_pure, Result.andThen_ok, hr], by simp [hl], fun i x v hi hvi => ?_⟩
    cases i with
    | zero => simp at hi hvi; subst hi; subst hvi; have := (hs.sl t _ h).2; simp only [Array.getD_eq_getD_getElem?] at this; exact this
    | succ i => exact hv i x v (by simpa using hi) (by simpa using hvi)
  | @c t ty id off n ag cs x rs xs hT h hO hv _ ih =>
    obtain ⟨vs, hr, hl, hvv⟩ := ih
    obtain ⟨b, hb, e2⟩ := (hs.sl t _ h).2.ptr_inv
    obtain ⟨b', us, e, hh, hb', hlu, ho, huu⟩ := (hs.ob id _ hO).box_inv
    have : b' = b := by rw [hh] at hb; simpa [blk] using hb
    subst this
    obtain ⟨u, hru, hu⟩ := run_loadVar_box (P := P) hT hlu hb' ho huu hv
    refine ⟨u :: vs, by simp only [List.mapM_cons, resOne, Sem.run_bind, Sem.run_pure, Result.andThen_ok, e2, asAddr, hru, hr], by simp [hl], fun i x v hi hvi => ?_⟩
    cases i with
    | zero => simp at hi hvi; subst hi; subst hvi; exact hu
    | succ i => exact hvv i x v (by simpa using hi) (by simpa using hvi)

/-- one result by itself, several as a tuple -/
def pack : List V → V
  | [x] => x
  | xs => mkTup xs

/-- the marks are taken off -/
theorem take_marks {P : Program} {cs : List Frame} : ∀ (ds : List Nat) (fr : Frame) (w : World), fr.mode = .returning → fr.defers = ds.map mark → ds.Nodup → (∀ D, D ∈ ds → w.heap[D]? = some (.deferred (some []))) →
    ∃ w', Steps P (lone fr cs w) (lone { fr with defers := [] } cs w') ∧ w'.os = w.os ∧ w'.tape = w.tape ∧ w'.output = w.output ∧ w'.heap.size = w.heap.size ∧ ∀ k, k ∉ ds → w'.heap[k]? = w.heap[k]?
  | [], fr, w, _, hd, _, _ => ⟨w, by
      have : ({ fr with defers := [] } : Frame) = fr := by cases fr; simp at hd; subst hd; rfl
      rw [this]; exact .refl _ _, rfl, rfl, rfl, rfl, fun _ _ => rfl⟩
  | D :: ds, fr, w, hm, hd, hn, hk => by
    have hD := hk D (by simp)
    have h1 := step_collected (P := P) (cs := cs) (fr := fr) (d := mark D) (ds := ds.map mark) (by rw [hm]; simp) hd rfl (run_takeDeferred hD)
    rw [List.nil_append] at h1
    rw [List.nodup_cons] at hn
    obtain ⟨w', h2, e1, e2, e3, e4, e5⟩ := take_marks ds { fr with defers := ds.map mark } (w.putObj D (.deferred none)) hm rfl hn.2 (fun E hE => by
      have hne : E ≠ D := fun e => hn.1 (by rw [← e]; exact hE)
      rw [World.putObj_heap_other hne]; exact hk E (by simp [hE]))
    exact ⟨w', .head h1 h2, e1, e2, e3, e4.trans World.putObj_size, fun k hkk => by
      rw [e5 k (fun h => hkk (by simp [h])), World.putObj_heap_other (fun e => hkk (by simp [e]))]⟩

theorem VR.extN {w w' : World} {M B : Nat → Prop} {a : A} {v : Value} (h : VR w M a v) (hw : Chg w w' B) (hB : ∀ b, B b → ∀ off, w.cell? ⟨b, off, none⟩ = none) : VR w' M a v := by
  induction h with
  | bool b => exact .bool b
  | int k n h1 h2 => exact .int k n h1 h2
  | str s h => exact .str s h
  | emp sz o cap h => exact .emp sz o cap h
  | list sz l b off cap vs h1 h2 hMb hb hs hl hc ho _ ih =>
    refine .list sz l b off cap vs h1 h2 hMb (Nat.lt_of_lt_of_le hb hw.size) hs hl (fun k v hk => ?_) ho ih
    have hk' := hc k v hk
    rw [World.cell?_of_block (w := w) (hw.block b hb (fun h => by rw [hB b h] at hk'; cases hk'))]
    exact hk'
  | agg cs vs hl ho _ ih => exact .agg cs vs hl ho ih
  | tup cs vs hl _ ih => exact .tup cs vs hl ih
  | raw v h => exact .raw v h
  | ifc t x v _ ih => exact .ifc t x v ih

theorem VV.extN {w w' : World} {M B : Nat → Prop} {hd : Nat → Value} {a : V} {v : Value} (h : VV w M hd a v) (hw : Chg w w' B) (hB : ∀ b, B b → ∀ off, w.cell? ⟨b, off, none⟩ = none) : VV w' M hd a v := by
  induction h with
  | ro a v h => exact .ro a v (h.extN hw hB)
  | own id h => exact .own id h
  | ptr id off b h => exact .ptr id off b h
  | rptr cs b off vs hMb hb hl hc ho hv =>
    refine .rptr cs b off vs hMb (Nat.lt_of_lt_of_le hb hw.size) hl (fun k v hk => ?_) ho (fun k a v hi hk => (hv k a v hi hk).extN hw hB)
    have hk' := hc k v hk
    rw [World.cell?_of_block (w := w) (hw.block b hb (fun h => by rw [hB b h] at hk'; cases hk'))]
    exact hk'
  | cptr cs b off vs hMb hb hl hc ho _ ih =>
    refine .cptr cs b off vs hMb (Nat.lt_of_lt_of_le hb hw.size) hl (fun k v hk => ?_) ho ih
    have hk' := hc k v hk
    rw [World.cell?_of_block (w := w) (hw.block b hb (fun h => by rw [hB b h] at hk'; cases hk'))]
    exact hk'
  | agg cs vs hl ho _ ih => exact .agg cs vs hl ho ih
  | tup cs vs hl _ ih => exact .tup cs vs hl ih
  | fn f cs ds vs us hl hl' _ _ ih ih' => exact .fn f cs ds vs us hl hl' ih ih'
  | may c x v _ hn ih => exact .may c x v ih hn
  | view id sz lo n v h => exact .view id sz lo n v h
  | ifc t x v _ ih => exact .ifc t x v ih
  | un v => exact .un v

theorem OO.extN {w w' : World} {M B : Nat → Prop} {hd : Nat → Value} {h : Value} {x : O} (H : OO w M hd h x) (hw : Chg w w' B) (hB : ∀ b, B b → ∀ off, w.cell? ⟨b, off, none⟩ = none) (hk : ∀ b, blk h = some b → ¬ B b) : OO w' M hd h x := by
  cases H with
  | box cs vs e b hhd hb hl ho hv =>
    have hlt : b < w.heap.size := (Array.getElem?_eq_some_iff.1 hb).1
    refine .box cs vs e b hhd ?_ hl ho (fun i a v hi hvi => (hv i a v hi hvi).extN hw hB)
    rw [hw.block b hlt (hk b (by simp [hhd, blk]))]; exact hb
  | arr e sz l xs hr hs ho hv =>
    refine .arr e sz l xs ⟨hr.1, ?_⟩ hs ho (fun i a v hi hvi => (hv i a v hi hvi).extN hw hB)
    rcases hr.2 with hn | ⟨g, cap, cur, rfl, hg0, hg, rest⟩
    · exact .inl hn
    · have hlt : g < w.heap.size := (Array.getElem?_eq_some_iff.1 hg).1
      refine .inr ⟨g, cap, cur, rfl, hg0, ?_, rest⟩
      rw [hw.block g hlt (hk g (by simp [blk]))]; exact hg
  | siter s pos b hhd hb hm =>
    have hlt : b < w.heap.size := (Array.getElem?_eq_some_iff.1 hb).1
    refine .siter s pos b hhd ?_ hm
    rw [hw.block b hlt (hk b (by simp [hhd, blk]))]; exact hb
  | map P k e kk m b D hhd hb hr =>
    have hlt := hb.lt
    obtain ⟨es, clock, h1, h2⟩ := hb
    exact .map P k e kk m b D hhd ⟨es, clock, by rw [hw.block b hlt (hk b (by simp [hhd, blk]))]; exact h1, h2⟩ hr

/-- what is no cells turns elsewhere: the state stays -/
theorem Sat'.turn {C C' : Ctx} {S : St} {hd : Nat → Value} {a a' : Act} {w w' : World} (h : Sat' C S hd a w) (h1 : C'.w0 = C.w0) (h2 : C'.X = C.X) (h3 : C'.M0 = C.M0) (h4 : C'.nt = C.nt) (ht : a'.tmps = a.tmps) {B : Nat → Prop} (hw : Chg w w' B)
    (hB : ∀ b, B b → C.w0.heap.size ≤ b ∧ (b < w.heap.size → ∃ o, w.heap[b]? = some o ∧ fixO o = true)) (hx : Ext C' a' w') : Sat' C' S hd a' w' := by
  have hN : ∀ b, B b → ∀ off, w.cell? ⟨b, off, none⟩ = none := fun b hb off => by
    by_cases hlt : b < w.heap.size
    · obtain ⟨o, ho, hf⟩ := (hB b hb).2 hlt
      cases o <;> simp_all [World.cell?, fixO]
    · simp only [World.cell?]
      rw [Array.getElem?_eq_none (by omega)]
  refine ⟨by rw [ht, h4]; exact h.nt, fun t x hx => ?_, fun id x hx => ?_, fun b hb => ?_, h.inj, ?_, hx⟩
  · obtain ⟨q, hv⟩ := h.sl t x hx
    rw [ht, h4, h3]; exact ⟨q, hv.extN hw hN⟩
  · rw [h3]
    refine (h.ob id x hx).extN hw hN fun b hbk hb => ?_
    have hlt := (h.lv b ⟨id, x, hx, hbk⟩).2
    obtain ⟨o, ho, hf⟩ := (hB b hb).2 hlt
    rw [(h.ob id x hx).notFix hbk ho] at hf; cases hf
  · have := h.lv b hb
    rw [h1, h2]; exact ⟨this.1, Nat.lt_of_lt_of_le this.2 hw.size⟩
  · rw [h1, h2]
    refine ⟨hw.os.trans h.fr.os, hw.tape.trans h.fr.tape, hw.output.trans h.fr.output, Nat.le_trans h.fr.size hw.size, fun k hk hX => ?_⟩
    rw [hw.block k (Nat.lt_of_lt_of_le hk h.fr.size) (fun hb => by have := (hB k hb).1; omega)]
    exact h.fr.block k hk hX

theorem Post.congr {C C0 : Ctx} {r : V} {o : List (Nat × Option O)} {e : Ending} {w : World} (h : Post C r o e w) (h1 : C0.w0 = C.w0) (h2 : C0.X = C.X) (h3 : C0.M0 = C.M0) : Post C0 r o e w := by
  obtain ⟨v, hd, he, hv, hm⟩ := h
  have hM : MM C0 ⟨[], o⟩ hd = MM C ⟨[], o⟩ hd := by funext b; simp [MM, h3]
  refine ⟨v, hd, he, by rw [hM]; exact hv, ⟨by rw [hM]; exact hm.ob, by rw [h1, h2]; exact hm.lv, hm.inj, by rw [h1, h2]; exact hm.fr⟩⟩

theorem AK.rt {f : FuncId} {r : V} {ob : List (Nat × Option O)} {C0 : Ctx} {fn : Func} {xs : List V} {o : List (Nat × Option O)} (hf : P.funcs[f]? = some fn) (hr : Res P S fn.results.toList xs) (ho : KeepO S o) (hp : pack xs = r) (hob : o = ob)
    (hC : C0.w0 = C.w0 ∧ C0.X = C.X ∧ C0.M0 = C.M0 := by exact ⟨rfl, rfl, rfl⟩) :
    AK P (tf P f r ob C0) C (.code .ret :: k) S := by
  rintro a w ⟨hd, hs1⟩ b cs hro hbk hbf
  subst hob
  change b.fn = f at hbf
  change b.roundOf = none at hro
  obtain ⟨w2, hst, e1, e2, e3, e4, e5⟩ := take_marks (P := P) (cs := cs) C.mks { b.atR a (.code .ret :: k) with mode := .returning } w rfl hs1.df.df hs1.df.nd (fun D hD => (hs1.df.mkd D hD).2)
  have hs : Sat' { C with mks := [], fx := [], pn := [] } S hd { a with defers := [] } w2 :=
    hs1.turn rfl rfl rfl rfl rfl (B := fun D => D ∈ C.mks) ⟨e1, e2, e3, by omega, fun k _ hk => e5 k hk⟩ (fun D hD => ⟨(hs1.df.mkd D hD).1, fun _ => ⟨_, (hs1.df.mkd D hD).2, rfl⟩⟩)
      ⟨rfl, List.nodup_nil, fun _ h => (List.not_mem_nil h).elim, fun _ h => (List.not_mem_nil h).elim, fun _ h => (List.not_mem_nil h).elim⟩
  obtain ⟨vs, hrun, hl, hv⟩ := run_Res hs hr
  have hres : (results fn a.tmps).run P w2 = .ok (if h : vs.toArray.size = 1 then vs.toArray[0] else .tuple vs.toArray) w2 := by
    have e : results fn a.tmps = (do let us ← fn.results.mapM (resOne a.tmps); pure (if h : us.size = 1 then us[0] else .tuple us)) := by
      unfold results
      congr 2
    rw [e, Sem.run_bind, Array.mapM_eq_mapM_toList]
    simp only [Sem.run_map, hrun, Result.andThen_ok]
    rfl
  have hM : ∀ b, b < w2.heap.size → MM C ⟨[], o⟩ hd b → MM C S hd b := by
    rintro b _ (hm | ⟨id, x, hx, hb⟩)
    · exact .inl hm
    · exact .inr ⟨id, x, ho.go hx, hb⟩
  refine ⟨_, ⟨_, w2, { { b.atR a (.code .ret :: k) with mode := .returning } with defers := [] }, _, Post.congr (C := C) ⟨_, hd, rfl, ?_, ?_⟩ hC.1 hC.2.1 hC.2.2, rfl, rfl, hbf, rfl, rfl, hbk, fn, by rw [← hbf] at hf; exact hf, hres⟩, Steps.trans (.one (stepR_ret hro)) hst⟩
  · have hext : ∀ {x : V} {v : Value}, VV w2 (MM C S hd) hd x v → VV w2 (MM C ⟨[], o⟩ hd) hd x v := fun h => h.ext (Chg.refl w2 (fun _ => False)) (fun _ h => h.elim) hM (fun _ _ => rfl)
    subst hp
    have tup : ∀ {xs : List V} {vs : List Value}, xs.length = vs.length → (∀ (i : Nat) (x : V) (v : Value), xs[i]? = some x → vs[i]? = some v → VV w2 (MM C S hd) hd x v) →
        VV w2 (MM C ⟨[], o⟩ hd) hd (mkTup xs) (.tuple vs.toArray) := fun hl hv => (VV.tup _ _ hl fun i x v hi hvi => hext (hv i x v hi hvi)).mkTup
    match xs, vs, hl, hv with
    | [x], [v], _, hv => exact hext (hv 0 x v rfl rfl)
    | [], [], hl, hv => exact tup hl hv
    | x :: y :: xs, u :: v :: vs, hl, hv => exact tup hl hv
  · have h0 := hs.keep (l := []) (o := o) .n ho
    exact ⟨h0.ob, h0.lv, h0.inj, h0.fr⟩

end
end Xb
