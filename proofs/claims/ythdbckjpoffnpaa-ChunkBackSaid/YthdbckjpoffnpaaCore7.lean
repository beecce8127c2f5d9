/- Own text: Core7. -/
import Derived.Test.YthdbckjpoffnpaaCore6
import Derived.Orders
set_option linter.all false
set_option linter.unusedVariables false
set_option linter.unusedSimpArgs false
set_option linter.unnecessarySimpa false
set_option linter.deprecated false
/-! The walk: what is left to do, from a state on. -/
namespace Xb
open Go

/-- the memory of a state -/
structure Mem (C : Ctx) (o : List (Nat × Option O)) (hd : Nat → Value) (w : World) : Prop where
  ob : ∀ id x, (St.mk [] o).go id = some x → OO w (MM C ⟨[], o⟩ hd) hd (hd id) x
  lv : ∀ b, Ow ⟨[], o⟩ hd b → (C.w0.heap.size ≤ b ∨ C.X b) ∧ b < w.heap.size
  inj : ∀ id1 id2 x1 x2 b, (St.mk [] o).go id1 = some x1 → (St.mk [] o).go id2 = some x2 → blk (hd id1) = some b → blk (hd id2) = some b → id1 = id2
  fr : Chg C.w0 w C.X

/-- what a call hands back -/
def Post (C : Ctx) (r : V) (o : List (Nat × Option O)) (e : Ending) (w : World) : Prop :=
  ∃ v hd, e = .returned v ∧ VV w (MM C ⟨[], o⟩ hd) hd r v ∧ Mem C o hd w

def Goes (P : Program) (f : FuncId) (R : Ending → World → Prop) (k : List Item) (a : Act) (w : World) : Prop :=
  ∀ (b : Frame) (cs : List Frame), b.fn = f → b.kind = .normal → ∃ e w' fr, R e w' ∧ Comes P (lone (b.at a k) cs w) (lone fr cs w') e ∧ fr.fn = f ∧ fr.leaving P w' e

/-- from here on the function goes to its end, and hands back r -/
def AK (P : Program) (f : FuncId) (r : V) (ob : List (Nat × Option O)) (C : Ctx) (k : List Item) (S : St) : Prop :=
  ∀ a w, Sat C S a w → Goes P f (Post C r ob) k a w

theorem Goes.of_step {P : Program} {f : FuncId} {R : Ending → World → Prop} {k k' : List Item} {a a' : Act} {w w' : World}
    (h : ∀ (b : Frame) (cs : List Frame), step P (lone (b.at a k) cs w) = .next (lone (b.at a' k') cs w')) (g : Goes P f R k' a' w') : Goes P f R k a w := by
  intro b cs hf hk
  obtain ⟨e, w2, fr, hR, hc, h1, h2⟩ := g b cs hf hk
  exact ⟨e, w2, fr, hR, hc.of_steps (.one (h b cs)), h1, h2⟩

section
variable {P : Program} {f : FuncId} {r : V} {ob : List (Nat × Option O)} {C : Ctx} {k : List Item} {S : St}

theorem AK.sq {x y : Code} (h : AK P f r ob C (.code x :: .code y :: k) S) : AK P f r ob C (.code (.seq x y) :: k) S :=
  fun a w hs => .of_step (fun _ _ => step_seq) (h a w hs)
theorem AK.skp (h : AK P f r ob C k S) : AK P f r ob C (.code .skip :: k) S := fun a w hs => .of_step (fun _ _ => step_skip) (h a w hs)
theorem AK.lbl {l : Nat} (h : AK P f r ob C k S) : AK P f r ob C (.code (.label l) :: k) S := fun a w hs => .of_step (fun _ _ => step_label) (h a w hs)
theorem AK.bl {id : Nat} {c : Code} (h : AK P f r ob C (.code c :: .inBlock id :: k) S) : AK P f r ob C (.code (.block id c) :: k) S :=
  fun a w hs => .of_step (fun _ _ => step_block) (h a w hs)
theorem AK.ib {id : Nat} (h : AK P f r ob C k S) : AK P f r ob C (.inBlock id :: k) S := fun a w hs => .of_step (fun _ _ => step_inBlock) (h a w hs)
theorem AK.lp {c : Code} (h : AK P f r ob C (.code c :: .inLoop c :: k) S) : AK P f r ob C (.code (.loop c) :: k) S :=
  fun a w hs => .of_step (fun _ _ => step_loop) (h a w hs)
theorem AK.il {c : Code} (h : AK P f r ob C (.code c :: .inLoop c :: k) S) : AK P f r ob C (.inLoop c :: k) S :=
  fun a w hs => .of_step (fun _ _ => step_inLoop) (h a w hs)
theorem AK.xt {id : Nat} {k' : List Item} (he : exitTo id k = some k') (h : AK P f r ob C k' S) : AK P f r ob C (.code (.exit id) :: k) S :=
  fun a w hs => .of_step (fun _ _ => step_exit he) (h a w hs)
theorem AK.cd {c : Operand} {x y : Code} {b : Bool} (hc : Ev S c (.ro (.bool b))) (ht : b = true → AK P f r ob C (.code x :: k) S) (hf : b = false → AK P f r ob C (.code y :: k) S) :
    AK P f r ob C (.code (.cond c x y) :: k) S := by
  rintro a w ⟨hd, hs⟩
  have e := (hc.vv hs).bool_inv
  cases b with
  | true => exact .of_step (fun _ _ => step_cond e) (ht rfl a w ⟨hd, hs⟩)
  | false => exact .of_step (fun _ _ => step_cond e) (hf rfl a w ⟨hd, hs⟩)
theorem AK.ct {c : Operand} {x y : Code} {b : Bool} (hc : Ev S c (.ro (.bool b))) (hb : b = true) (ht : AK P f r ob C (.code x :: k) S) :
    AK P f r ob C (.code (.cond c x y) :: k) S := .cd hc (fun _ => ht) (fun h => by rw [hb] at h; cases h)
theorem AK.cf {c : Operand} {x y : Code} {b : Bool} (hc : Ev S c (.ro (.bool b))) (hb : b = false) (ht : AK P f r ob C (.code y :: k) S) :
    AK P f r ob C (.code (.cond c x y) :: k) S := .cd hc (fun h => by rw [hb] at h; cases h) (fun _ => ht)

/-- every slot that is written is one of the frame's -/
def dstOk (nt : Nat) (os : List Oper) : Bool := os.all fun o => match o.dst with | some t => Nat.blt t nt | none => true

theorem wpOps_of_Der {ops : Array Oper} {Q : Exit → Act → World → Prop} {S' : St} : ∀ {os : List Oper} {es : List Eff} {S : St} {l : List Nat}, Der P ops S os es S' →
    l.map (fun i => ops[i]?) = os.map some → dstOk C.nt os = true → (∀ a w, Sat C S' a w → Q .normal a w) → ∀ a w, Sat C S a w → wpOps P ops Q l a w := by
  intro os es S l D
  induction D generalizing l with
  | nil S =>
    intro hl _ hq a w hs
    have : l = [] := by simpa using hl
    subst this
    exact hq a w hs
  | @cons S S' o os e es ht hp D ih =>
    intro hl hd hq a w hs
    cases l with
    | nil => simp at hl
    | cons i l =>
      simp only [List.map_cons, List.cons.injEq] at hl
      simp only [dstOk, List.all_cons, Bool.and_eq_true] at hd
      have hst := ht C S a w hs hp (fun t ht => by have := hd.1; rw [ht] at this; exact Nat.blt_eq.mp this)
      simp only [wpOps, hl.1]
      unfold stepOp at hst
      split
      · rename_i hw
        rw [if_pos hw] at hst
        left
        have h1 : o.wp P a w (wpOps P ops Q l) (fun _ _ _ => False) := Oper.wp_mono (fun a' w' h => ih hl.2 hd.2 hq a' w' h) hst
        unfold Oper.wp at h1 ⊢
        generalize (execOp a.eval o).run P w = res at h1
        cases res with
        | ok n w' =>
          cases n <;> simp only [Oper.upon] at h1 ⊢ <;> first
            | exact h1
            | exact h1.mono (fun e w'' he => by
                cases e with
                | returned v => exact he
                | panicked ch => exact he.elim
                | outgrown => obtain ⟨_, _, h⟩ := he; exact h.elim)
        | halt x w' => cases x <;> simp only [Oper.upon] at h1
      · rename_i hw
        rw [if_neg hw] at hst
        exact ih hl.2 hd.2 hq _ _ hst

/-- a region whose order stands -/
theorem AK.rg {id : Nat} {ops : Array Oper} {es : List Eff} {S' : St} (D : Der P ops S ops.toList es S') (hd : dstOk C.nt ops.toList = true) (h : AK P f r ob C k S') :
    AK P f r ob C (.code (.region id ops false) :: k) S := by
  intro a w hs b cs hf hk
  have hwp := wpOps_of_Der (C := C) (Q := fun e a w => match e with | .normal => Sat C S' a w | _ => False) (l := List.range ops.size) D (by
      refine List.ext_getElem? fun i => ?_
      simp only [List.getElem?_map]
      by_cases hi : i < ops.size
      · simp [hi]
      · simp [hi]) hd (fun _ _ h => h) a w hs
  obtain ⟨e, a', w', hq, harr⟩ := wp_ops (P := P) (List.range ops.size) a w hwp b k cs
  cases e with
  | normal =>
    obtain ⟨e2, w2, fr, hR, hc, h1, h2⟩ := h a' w' hq b cs hf hk
    exact ⟨e2, w2, fr, hR, hc.of_steps (.head step_region harr), h1, h2⟩
  | _ => exact hq.elim

/-- of a state only some is kept -/
inductive Keep (S : St) : List (Nat × V) → Prop
  | n : Keep S []
  | c {t : Nat} {x : V} {l : List (Nat × V)} (h : S.gs t = some x) (hl : Keep S l) : Keep S ((t, x) :: l)
inductive KeepO (S : St) : List (Nat × Option O) → Prop
  | n : KeepO S []
  | c {t : Nat} {x : O} {l : List (Nat × Option O)} (h : S.go t = some x) (hl : KeepO S l) : KeepO S ((t, some x) :: l)

theorem Keep.gs {S : St} {l : List (Nat × V)} (h : Keep S l) {t : Nat} {x : V} (hx : lk l t = some x) : S.gs t = some x := by
  induction h with
  | n => cases hx
  | @c u y l hu _ ih =>
    simp only [lk] at hx
    cases hb : Nat.beq u t with
    | true => rw [hb] at hx; simp at hx; subst hx; rw [← Nat.eq_of_beq_eq_true hb]; exact hu
    | false => rw [hb] at hx; exact ih hx
theorem KeepO.go {S : St} {l : List (Nat × Option O)} (h : KeepO S l) {t : Nat} {x : O} (hx : (St.mk [] l).go t = some x) : S.go t = some x := by
  induction h with
  | n => cases hx
  | @c u y l hu _ ih =>
    simp only [St.go, lk] at hx ih
    cases hb : Nat.beq u t with
    | true => rw [hb] at hx; simp at hx; subst hx; rw [← Nat.eq_of_beq_eq_true hb]; exact hu
    | false => rw [hb] at hx; exact ih hx

/-- what holds of a state holds of a smaller one -/
theorem Sat'.keep {C : Ctx} {S : St} {hd : Nat → Value} {a : Act} {w : World} (h : Sat' C S hd a w) {l : List (Nat × V)} {o : List (Nat × Option O)} (hl : Keep S l) (ho : KeepO S o) :
    Sat' C ⟨l, o⟩ hd a w := by
  have hgo : ∀ id x, (St.mk l o).go id = some x → S.go id = some x := fun id x hx => ho.go hx
  have hM : ∀ b, b < w.heap.size → (C.M0 b ∨ Ow ⟨l, o⟩ hd b) → (C.M0 b ∨ Ow S hd b) := by
    rintro b _ (hm | ⟨id, x, hx, hb⟩)
    · exact .inl hm
    · exact .inr ⟨id, x, hgo id x hx, hb⟩
  refine ⟨h.nt, fun t x hx => ?_, fun id x hx => ?_, ?_, fun id1 id2 x1 x2 b h1 h2 => h.inj id1 id2 x1 x2 b (hgo _ _ h1) (hgo _ _ h2), h.fr, h.df⟩
  · obtain ⟨ht, hv⟩ := h.sl t x (hl.gs hx)
    exact ⟨ht, hv.ext (Chg.refl w (fun _ => False)) (fun _ h => h.elim) hM (fun _ _ => rfl)⟩
  · exact (h.ob id x (hgo id x hx)).ext (Chg.refl w (fun _ => False)) (fun _ h => h.elim) hM (fun _ _ => rfl) (fun _ _ h => h)
  · rintro b ⟨id, x, hx, hb⟩
    exact h.lv b ⟨id, x, hgo id x hx, hb⟩

theorem AK.kp {l : List (Nat × V)} {o : List (Nat × Option O)} (hl : Keep S l) (ho : KeepO S o) (h : AK P f r ob C k ⟨l, o⟩) : AK P f r ob C k S :=
  fun a w ⟨hd, hs⟩ => h a w ⟨hd, hs.keep hl ho⟩

/-- the results -/
inductive Res (P : Program) (S : St) : List ResultVar → List V → Prop
  | n : Res P S [] []
  | t {t : Tmp} {x : V} {rs : List ResultVar} {xs : List V} (h : S.gs t = some x) (hr : Res P S rs xs) : Res P S (.tmp t :: rs) (x :: xs)
  | c {t : Tmp} {ty : TypeId} {id off n : Nat} {ag : Bool} {cs : List V} {x : V} {rs : List ResultVar} {xs : List V} (hT : TF P ty ag n) (h : S.gs t = some (.ptr id off)) (hO : S.go id = some (.box cs))
      (hv : ldV ag n off cs = some x) (hr : Res P S rs xs) : Res P S (.cell t ty :: rs) (x :: xs)

def resOne (tmps : Array Value) : ResultVar → Sem Value
  | .tmp t => pure (tmps.getD t undef)
  | .cell p t => do loadVar t (← asAddr (tmps.getD p undef))

theorem run_Res {C : Ctx} {S : St} {hd : Nat → Value} {a : Act} {w : World} (hs : Sat' C S hd a w) {rs : List ResultVar} {xs : List V} (h : Res P S rs xs) :
    ∃ vs : List Value, (rs.mapM (resOne a.tmps)).run P w = .ok vs w ∧ xs.length = vs.length ∧
      ∀ (i : Nat) (x : V) (v : Value), xs[i]? = some x → vs[i]? = some v → VV w (MM C S hd) hd x v := by
  induction h with
  | n => exact ⟨[], rfl, rfl, by simp⟩
  | @t t x rs xs h _ ih =>
    obtain ⟨vs, hr, hl, hv⟩ := ih
    refine ⟨a.tmps.getD t undef :: vs, by simp only [List.mapM_cons, resOne, Sem.run_bind, Sem.run_pure, Result.andThen_ok, hr], by simp [hl], fun i x v hi hvi => ?_⟩
    cases i with
    | zero => simp at hi hvi; subst hi; subst hvi; have := (hs.sl t _ h).2; simp only [Array.getD_eq_getD_getElem?] at this; exact this
    | succ i => exact hv i x v (by simpa using hi) (by simpa using hvi)
  | @c t ty id off n ag cs x rs xs hT h hO hv _ ih =>
    obtain ⟨vs, hr, hl, hvv⟩ := ih
    obtain ⟨b, hb, e2⟩ := (hs.sl t _ h).2.ptr_inv
    obtain ⟨b', us, e, hh, hb', hlu, ho, huu⟩ := (hs.ob id _ hO).box_inv
    have : b' = b := by rw [hh] at hb; simpa [blk] using hb
    subst this
    obtain ⟨u, hru, hu⟩ := run_loadVar_box (P := P) hT hlu hb' ho huu hv
    refine ⟨u :: vs, by simp only [List.mapM_cons, resOne, Sem.run_bind, Sem.run_pure, Result.andThen_ok, e2, asAddr, hru, hr], by simp [hl], fun i x v hi hvi => ?_⟩
    cases i with
    | zero => simp at hi hvi; subst hi; subst hvi; exact hu
    | succ i => exact hvv i x v (by simpa using hi) (by simpa using hvi)

/-- one result by itself, several as a tuple -/
def pack : List V → V
  | [x] => x
  | xs => mkTup xs

theorem AK.rt {fn : Func} {xs : List V} {o : List (Nat × Option O)} (hf : P.funcs[f]? = some fn) (hr : Res P S fn.results.toList xs) (ho : KeepO S o) (hp : pack xs = r) (hob : o = ob) :
    AK P f r ob C (.code .ret :: k) S := by
  rintro a w ⟨hd, hs⟩ b cs hbf hbk
  subst hob
  obtain ⟨vs, hrun, hl, hv⟩ := run_Res hs hr
  have hres : (results fn a.tmps).run P w = .ok (if h : vs.toArray.size = 1 then vs.toArray[0] else .tuple vs.toArray) w := by
    have e : results fn a.tmps = (do let us ← fn.results.mapM (resOne a.tmps); pure (if h : us.size = 1 then us[0] else .tuple us)) := by
      unfold results
      congr 2
    rw [e, Sem.run_bind, Array.mapM_eq_mapM_toList]
    simp only [Sem.run_map, hrun, Result.andThen_ok]
    rfl
  have hM : ∀ b, b < w.heap.size → MM C ⟨[], o⟩ hd b → MM C S hd b := by
    rintro b _ (hm | ⟨id, x, hx, hb⟩)
    · exact .inl hm
    · exact .inr ⟨id, x, ho.go hx, hb⟩
  refine ⟨_, w, _, ⟨_, hd, rfl, ?_, ?_⟩, Steps.one step_ret, hbf, rfl, hs.df, hbk, fn, by rw [← hbf] at hf; exact hf, hres⟩
  · have hext : ∀ {x : V} {v : Value}, VV w (MM C S hd) hd x v → VV w (MM C ⟨[], o⟩ hd) hd x v := fun h => h.ext (Chg.refl w (fun _ => False)) (fun _ h => h.elim) hM (fun _ _ => rfl)
    subst hp
    have tup : ∀ {xs : List V} {vs : List Value}, xs.length = vs.length → (∀ (i : Nat) (x : V) (v : Value), xs[i]? = some x → vs[i]? = some v → VV w (MM C S hd) hd x v) →
        VV w (MM C ⟨[], o⟩ hd) hd (mkTup xs) (.tuple vs.toArray) := fun hl hv => (VV.tup _ _ hl fun i x v hi hvi => hext (hv i x v hi hvi)).mkTup
    match xs, vs, hl, hv with
    | [x], [v], _, hv => exact hext (hv 0 x v rfl rfl)
    | [], [], hl, hv => exact tup hl hv
    | x :: y :: xs, u :: v :: vs, hl, hv => exact tup hl hv
  · have h0 := hs.keep (l := []) (o := o) .n ho
    exact ⟨h0.ob, h0.lv, h0.inj, h0.fr⟩

end
end Xb
