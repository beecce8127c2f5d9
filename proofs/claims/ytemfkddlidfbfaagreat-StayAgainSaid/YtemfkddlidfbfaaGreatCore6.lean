/- Own text: Core6. -/
import Derived.Test.YtemfkddlidfbfaaGreatCore5
set_option linter.all false
set_option linter.unusedVariables false
set_option linter.unusedSimpArgs false
set_option linter.unnecessarySimpa false
set_option linter.deprecated false
/-! Making and writing memory. -/
namespace Xb
open Go

def updh (hd : Nat → Value) (id : Nat) (h : Value) : Nat → Value := fun i => if i = id then h else hd i
theorem updh_same {hd : Nat → Value} {id : Nat} {h : Value} : updh hd id h id = h := by simp [updh]
theorem updh_ne {hd : Nat → Value} {id i : Nat} {h : Value} (hi : i ≠ id) : updh hd id h i = hd i := by simp [updh, hi]

/-- an operation that makes one object, and ends others -/
theorem Trip.mem {P : Program} {ops : Array Oper} {o : Oper} {e : Eff}
    (hg : o.guard = none)
    (h : ∀ (C : Ctx) (S : St) (hd : Nat → Value) (a : Act) (w : World), Sat' C S hd a w → e.pre S →
      ∃ (nx : Next) (u : Value) (w' : World) (hd' : Nat → Value) (B : Nat → Prop), (execOp a.eval o).run P w = .ok nx w' ∧ (nx = .value u ∨ (nx = .skip ∧ u = undef)) ∧ Chg w w' B ∧
        (∀ b, B b → ∃ id x y, S.go id = some x ∧ blk (hd id) = some b ∧ lk e.wo id = some y) ∧
        (∀ id, id ∉ e.fr → hd' id = hd id) ∧
        (∀ M' : Nat → Prop, (∀ b, b < w.heap.size → M' b → MM C S hd b) → (o.dst ≠ none → VV w' M' hd' e.v u) ∧ ∀ id x, lk e.wo id = some (some x) → OO w' M' hd' (hd' id) x) ∧
        (∀ id x b, lk e.wo id = some (some x) → blk (hd' id) = some b →
          (w.heap.size ≤ b ∧ b < w'.heap.size) ∨ ∃ i0 x0 y0, S.go i0 = some x0 ∧ blk (hd i0) = some b ∧ lk e.wo i0 = some y0) ∧
        (∀ i1 i2 x1 x2 b, lk e.wo i1 = some (some x1) → lk e.wo i2 = some (some x2) → blk (hd' i1) = some b → blk (hd' i2) = some b → i1 = i2)) : Trip P ops o e := by
  intro C S a w ⟨hd, hs⟩ hp hdst
  unfold stepOp
  rw [if_pos (by simp [Region.wanted, hg])]
  obtain ⟨nx, u, w', hd', B, hr, hnx, hw, hB, hh, hM, hlv, hinj⟩ := h C S hd a w hs hp
  have hMM : ∀ b, b < w.heap.size → (C.M0 b ∨ Ow (e.app o.dst S) hd' b) → MM C S hd b := by
    rintro b hb (hm | ⟨id, x, hx, hbk⟩)
    · exact .inl hm
    · rw [app_go] at hx
      split at hx
      · rename_i y hy
        subst hx
        rcases hlv id x b hy hbk with hnew | ⟨i0, x0, y0, h0, hb0, _⟩
        · omega
        · exact .inr ⟨i0, x0, h0, hb0⟩
      · refine .inr ⟨id, x, hx, ?_⟩
        rw [← hh id fun hm => by rw [free_go (hp.fr id hm)] at hx; cases hx]
        exact hbk
  obtain ⟨hv, hob⟩ := hM _ hMM
  have fin : Sat C (e.app o.dst S) (a.put o.dst u) w' := ⟨hd', hs.step e hp o.dst u hdst B hw hB hh hv hob hlv hinj⟩
  simp only [Oper.wp, hr]
  rcases hnx with rfl | ⟨rfl, rfl⟩
  · exact fin
  · exact fin

/-- what a value's cells are -/
def cellsV : V → Option (List V)
  | .ro (.agg l) => some (l.map .ro)
  | .agg l => some l
  | .ro (.tup _) => none
  | .tup _ => none
  | .un => none
  | .may _ _ => none
  | x => some [x]

theorem plain_one {v : Value} (h : plain v = true) : v.oneCell' = true := by
  cases v <;> simp_all [plain, Value.oneCell']

theorem VV.cells {w : World} {M : Nat → Prop} {hd : Nat → Value} {x : V} {cs : List V} {v : Value} (h : VV w M hd x v) (hc : cellsV x = some cs) :
    ∃ vs : List Value, v.cells = ⟨vs⟩ ∧ cs.length = vs.length ∧ (∀ (i : Nat) (v : Value), vs[i]? = some v → v.oneCell' = true) ∧
      ∀ (i : Nat) (a : V) (v : Value), cs[i]? = some a → vs[i]? = some v → VV w M hd a v := by
  have single : ∀ {y : V} {u : Value}, VV w M hd y u → u.cells = #[u] → u.oneCell' = true → cs = [y] →
      ∃ vs : List Value, u.cells = ⟨vs⟩ ∧ cs.length = vs.length ∧ (∀ (i : Nat) (v : Value), vs[i]? = some v → v.oneCell' = true) ∧
        ∀ (i : Nat) (a : V) (v : Value), cs[i]? = some a → vs[i]? = some v → VV w M hd a v := by
    intro y u hy hu ho hcs
    subst hcs
    refine ⟨[u], hu, rfl, fun i v hi => ?_, fun i a v hi hvi => ?_⟩
    · cases i with
      | zero => simp at hi; subst hi; exact ho
      | succ i => simp at hi
    · cases i with
      | zero => simp at hi hvi; subst hi; subst hvi; exact hy
      | succ i => simp at hi
  cases x with
  | ro a =>
    have hr := h.ro_of
    cases a with
    | agg l =>
      simp only [cellsV, Option.some.injEq] at hc
      obtain ⟨vs, rfl, hl, ho, hv⟩ := h.aggs (cs := cs) (by subst hc; rfl)
      exact ⟨vs, rfl, hl, ho, hv⟩
    | tup l => simp [cellsV] at hc
    | bool b => cases hr; simp only [cellsV, Option.some.injEq] at hc; exact single h rfl rfl hc.symm
    | int k n => cases hr; simp only [cellsV, Option.some.injEq] at hc; exact single h rfl rfl hc.symm
    | str s => cases hr; simp only [cellsV, Option.some.injEq] at hc; exact single h rfl rfl hc.symm
    | list sz l => cases hr <;> (simp only [cellsV, Option.some.injEq] at hc; exact single h rfl rfl hc.symm)
    | raw v =>
      cases hr with
      | raw _ hp =>
        simp only [cellsV, Option.some.injEq] at hc
        refine single h ?_ (plain_one hp) hc.symm
        cases v <;> simp_all [plain, Value.cells]
    | ifc t x => cases hr; simp only [cellsV, Option.some.injEq] at hc; exact single h rfl rfl hc.symm
  | agg l =>
    simp only [cellsV, Option.some.injEq] at hc
    obtain ⟨vs, rfl, hl, ho, hv⟩ := h.aggs (cs := cs) (by subst hc; rfl)
    exact ⟨vs, rfl, hl, ho, hv⟩
  | tup l => simp [cellsV] at hc
  | un => simp [cellsV] at hc
  | may c x => simp [cellsV] at hc
  | view id sz lo n =>
    cases h with
    | view _ _ _ _ _ hw =>
      simp only [cellsV, Option.some.injEq] at hc
      refine single (.view id sz lo n _ hw) ?_ hw.one hc.symm
      rcases hw with ⟨_, o, cap, rfl, _⟩ | ⟨b, cap, _, rfl, _⟩ <;> rfl
  | ifc t x =>
    cases h with
    | ifc _ _ v hv =>
      simp only [cellsV, Option.some.injEq] at hc
      exact single (.ifc t x v hv) rfl rfl hc.symm
  | own id =>
    obtain ⟨rfl, ho⟩ := h.own_inv
    simp only [cellsV, Option.some.injEq] at hc
    refine single h ?_ ho hc.symm
    cases hx : hd id <;> simp_all [Value.oneCell', Value.cells]
  | ptr id off =>
    obtain ⟨b, _, rfl⟩ := h.ptr_inv
    simp only [cellsV, Option.some.injEq] at hc
    exact single h rfl rfl hc.symm
  | cptr l =>
    cases h with
    | cptr _ b off vs h1 h2 h3 h4 h5 h6 =>
      simp only [cellsV, Option.some.injEq] at hc
      exact single (.cptr _ b off vs h1 h2 h3 h4 h5 h6) rfl rfl hc.symm
  | rptr l =>
    obtain ⟨b, off, vs, rfl, _⟩ := h.rptr_inv
    simp only [cellsV, Option.some.injEq] at hc
    exact single h rfl rfl hc.symm
  | fn f c1 c2 =>
    cases h with
    | fn _ _ _ vs us hl hl' hv hv' =>
      simp only [cellsV, Option.some.injEq] at hc
      exact single (.fn f c1 c2 vs us hl hl' hv hv') rfl rfl hc.symm

theorem mens_of {id : Nat} : ∀ {cs : List V}, (∀ (i : Nat) (a : V), cs[i]? = some a → V.men id a = false) → V.mens id cs = false
  | [], _ => rfl
  | x :: r, h => by
    simp only [V.mens, h 0 x rfl, Bool.false_or]
    exact mens_of fun i a hi => h (i + 1) a (by simpa using hi)

theorem Chg.alloc (w : World) (o : Obj) (B : Nat → Prop) : Chg w (w.alloc o) B :=
  ⟨rfl, rfl, rfl, by simp, fun k hk _ => heap_alloc_old w o k hk⟩

section
variable {P : Program} {ops : Array Oper} {S S' : St} {os : List Oper} {es : List Eff}
variable {d : Option Nat} {ty : TypeId} {pos : String} {af : Array Edge} 

def me (rs : List (Nat × V)) (ro : List (Nat × O)) (v : V) (wo : List (Nat × Option O)) (fr : List Nat) : Eff := ⟨[], True, rs, ro, v, wo, fr⟩

theorem pre_me {rs : List (Nat × V)} {ro : List (Nat × O)} {v : V} {wo : List (Nat × Option O)} {fr : List Nat} (h : ∀ p, p ∈ rs → S.gs p.1 = some p.2) (h' : ∀ p, p ∈ ro → S.go p.1 = some p.2)
    (hf : ∀ id, id ∈ fr → S.free id = true) : (me rs ro v wo fr).pre S := ⟨fun _ h => (List.not_mem_nil h).elim, fun _ => h, fun _ => h', hf⟩

/-- a new object of its own, of one value alone -/
theorem Trip.new {o : Oper} {rs : List (Nat × V)} {id : Nat} {x : O} {v : V}
    (hg : o.guard = none)
    (h : ∀ (C : Ctx) (S : St) (hd : Nat → Value) (a : Act) (w : World), Sat' C S hd a w → (∀ p, p ∈ rs → S.gs p.1 = some p.2) → S.free id = true →
      ∃ (u : Value) (w' : World) (hh : Value), (execOp a.eval o).run P w = .ok (.value u) w' ∧ Chg w w' (fun _ => False) ∧
        (∀ b, blk hh = some b → w.heap.size ≤ b ∧ b < w'.heap.size) ∧
        (∀ M' : Nat → Prop, (∀ b, b < w.heap.size → M' b → MM C S hd b) → VV w' M' (updh hd id hh) v u ∧ OO w' M' (updh hd id hh) hh x)) :
    Trip P ops o (me rs [] v [(id, some x)] [id]) := by
  refine Trip.mem hg fun C S hd a w hs hp => ?_
  obtain ⟨u, w', hh, hr, hw, hb, hM⟩ := h C S hd a w hs (hp.rs trivial) (hp.fr id (by simp [me]))
  have hlk : ∀ i y, lk [(id, some x)] i = some (some y) → i = id ∧ y = x := by
    intro i y hy
    simp only [lk] at hy
    by_cases hi : id = i
    · subst hi; simp at hy; exact ⟨rfl, hy.symm⟩
    · rw [beq_ne hi] at hy; cases hy
  refine ⟨_, u, w', updh hd id hh, fun _ => False, hr, .inl rfl, hw, fun _ h => h.elim, fun i hi => updh_ne (fun e => hi (by simp [me, e])), fun M' hM' => ⟨fun _ => (hM M' hM').1, fun i y hy => ?_⟩,
    fun i y b hy hbk => .inl ?_, fun i1 i2 x1 x2 b h1 h2 _ _ => ((hlk i1 x1 h1).1).trans ((hlk i2 x2 h2).1).symm⟩
  · obtain ⟨rfl, rfl⟩ := hlk i y hy
    rw [updh_same]; exact (hM M' hM').2
  · obtain ⟨rfl, rfl⟩ := hlk i y hy
    rw [updh_same] at hbk; exact hb b hbk

/-- a box of a value -/
theorem bx (id : Nat) {e : TypeId} {x : Operand} {vx : V} {cs : List V} (hx : Ev S x vx) (hc : cellsV vx = some cs) (hf : S.free id = true)
    (D : Der P ops ((me (rd x vx) [] (.ptr id 0) [(id, some (.box cs))] [id]).app d S) os es S') :
    Der P ops S (⟨d, .box e x, ty, pos, af, none⟩ :: os) (me (rd x vx) [] (.ptr id 0) [(id, some (.box cs))] [id] :: es) S' := by
  refine .cons (Trip.new (o := ⟨d, .box e x, ty, pos, af, none⟩) rfl fun C S2 hd a w hs h2 hf2 => ?_)
    (pre_me hx.rd (fun _ h => (List.not_mem_nil h).elim) (by simp; exact hf)) D
  have hx2 : Ev S2 x vx := hx.of h2
  obtain ⟨vs, hvs, hl, ho, hv⟩ := (hx2.vv hs).cells hc
  have hmen : V.men id vx = false := by
    cases hx2 with
    | t h => exact free_slot hf2 h
    | _ => rfl
  have hmens : V.mens id cs = false := by
    cases vx with
    | ro a =>
      cases a <;> simp [cellsV] at hc <;> subst hc <;> (try rfl)
      exact mens_of fun i a hi => by
        simp only [List.getElem?_map, Option.map_eq_some_iff] at hi
        obtain ⟨_, _, rfl⟩ := hi; rfl
    | agg l => simp [cellsV] at hc; subst hc; simpa [V.men] using hmen
    | tup l => simp [cellsV] at hc
    | un => simp [cellsV] at hc
    | may c x => simp [cellsV] at hc
    | view i sz lo n => simp [cellsV] at hc; subst hc; simpa [V.mens] using hmen
    | ifc t x => simp [cellsV] at hc; subst hc; simpa [V.mens] using hmen
    | own i => simp [cellsV] at hc; subst hc; simpa [V.mens] using hmen
    | ptr i off => simp [cellsV] at hc; subst hc; simpa [V.mens] using hmen
    | rptr l => simp [cellsV] at hc; subst hc; rfl
    | cptr l => simp [cellsV] at hc; subst hc; simpa [V.mens] using hmen
    | fn f c1 c2 => simp [cellsV] at hc; subst hc; simpa [V.mens] using hmen
  refine ⟨.pointer (some ⟨w.heap.size, 0, none⟩), w.alloc (.cells ⟨vs⟩ e), .pointer (some ⟨w.heap.size, 0, none⟩), ?_, Chg.alloc w _ _, fun b hb => ?_, fun M' hM' => ⟨?_, ?_⟩⟩
  · simp [execOp, Instr.box, newVar, newRow, hvs, World.alloc_eq]
  · simp [blk] at hb; subst hb; simp
  · exact .ptr id 0 _ (by simp [updh, blk])
  · refine .box cs vs e w.heap.size rfl (heap_alloc_new w _) hl ho fun i a v hi hvi => ?_
    exact (hv i a v hi hvi).ext (Chg.alloc w _ (fun _ => False)) (fun _ h => h.elim) hM' fun j hj => updh_ne fun e => by
      subst e; rw [V.mens_get hmens hi] at hj; cases hj

/-- zero values -/
def zv : Value → V → Bool
  | .bool b, .ro (.bool b') => b == b'
  | .int k n, .ro (.int k' n') => decide (k = k') && (decide (n = n') && inR k n)
  | .string s, .ro (.str t) => s.data.toList.isEmpty && t.isEmpty
  | .slice none 0 0, .ro (.list _ l) => l.isEmpty
  | .slice none 0 0, .ro (.raw (.slice none 0 0)) => true
  | .nilIface, .ro (.raw .nilIface) => true
  | .nilFunc, .ro (.raw .nilFunc) => true
  | .pointer none, .ro (.raw (.pointer none)) => true
  | .map none, .ro (.raw (.map none)) => true
  | _, _ => false
def zvs : List Value → List V → Bool
  | [], [] => true
  | v :: vs, x :: xs => zv v x && zvs vs xs
  | _, _ => false

theorem zv_ok {w : World} {M : Nat → Prop} {hd : Nat → Value} {v : Value} {x : V} (h : zv v x = true) : VV w M hd x v ∧ v.oneCell' = true := by
  unfold zv at h
  split at h
  · rw [beq_iff_eq] at h; subst h; exact ⟨.ro _ _ (.bool _), rfl⟩
  · simp only [Bool.and_eq_true, decide_eq_true_eq, inR] at h
    obtain ⟨rfl, rfl, h1, h2⟩ := h
    exact ⟨.ro _ _ (.int _ _ h1 h2), rfl⟩
  · rename_i s t
    simp only [Bool.and_eq_true, List.isEmpty_iff] at h
    obtain ⟨h1, rfl⟩ := h
    have : s = ⟨([] : List UInt8).toArray⟩ := by
      cases s; rename_i d; cases d; rename_i l; simp at h1; simp [h1]
    rw [this]
    exact ⟨.ro _ _ (.str [] (by simp)), rfl⟩
  · rename_i l
    rw [List.isEmpty_iff] at h; subst h
    exact ⟨.ro _ _ (.emp _ _ _ (Nat.zero_le _)), rfl⟩
  · exact ⟨.ro _ _ (.raw _ rfl), rfl⟩
  · exact ⟨.ro _ _ (.raw _ rfl), rfl⟩
  · exact ⟨.ro _ _ (.raw _ rfl), rfl⟩
  · exact ⟨.ro _ _ (.raw _ rfl), rfl⟩
  · exact ⟨.ro _ _ (.raw _ rfl), rfl⟩
  · cases h

theorem zvs_ok {w : World} {M : Nat → Prop} {hd : Nat → Value} : ∀ {vs : List Value} {xs : List V}, zvs vs xs = true →
    xs.length = vs.length ∧ (∀ (i : Nat) (v : Value), vs[i]? = some v → v.oneCell' = true) ∧ ∀ (i : Nat) (a : V) (v : Value), xs[i]? = some a → vs[i]? = some v → VV w M hd a v
  | [], [], _ => ⟨rfl, by simp, by simp⟩
  | [], _ :: _, h => by simp [zvs] at h
  | _ :: _, [], h => by simp [zvs] at h
  | v :: vs, x :: xs, h => by
    simp only [zvs, Bool.and_eq_true] at h
    obtain ⟨h1, h2, h3⟩ := zvs_ok (w := w) (M := M) (hd := hd) h.2
    have h0 := zv_ok (w := w) (M := M) (hd := hd) h.1
    refine ⟨by simp [h1], fun i u hi => ?_, fun i a u hi hu => ?_⟩
    · cases i with
      | zero => simp at hi; subst hi; exact h0.2
      | succ i => exact h2 i u (by simpa using hi)
    · cases i with
      | zero => simp at hi hu; subst hi; subst hu; exact h0.1
      | succ i => exact h3 i a u (by simpa using hi) (by simpa using hu)

/-- the zero value of a type -/
structure ZF (P : Program) (t : TypeId) (zs : List V) : Prop where
  h : ∃ i z, P.info? t = some i ∧ i.zero = some z ∧ zvs z.cells.toList zs = true

theorem ZF.run {t : TypeId} {zs : List V} (h : ZF P t zs) : ∃ z : Value, zvs z.cells.toList zs = true ∧ ∀ w, (zeroValue t).run P w = .ok z w := by
  obtain ⟨i, z, hi, hz, hzs⟩ := h.h
  exact ⟨z, hzs, fun w => by simp [zeroValue, typeInfo, hi, hz]⟩

/-- a new variable -/
theorem al (id : Nat) {e : TypeId} {cs : List V} (hZ : ZF P e cs) (hf : S.free id = true)
    (D : Der P ops ((me [] [] (.ptr id 0) [(id, some (.box cs))] [id]).app d S) os es S') :
    Der P ops S (⟨d, .alloc e, ty, pos, af, none⟩ :: os) (me [] [] (.ptr id 0) [(id, some (.box cs))] [id] :: es) S' := by
  refine .cons (Trip.new (o := ⟨d, .alloc e, ty, pos, af, none⟩) rfl fun C S2 hd a w hs h2 hf2 => ?_)
    (pre_me (fun _ h => (List.not_mem_nil h).elim) (fun _ h => (List.not_mem_nil h).elim) (by simp; exact hf)) D
  obtain ⟨z, hz, hrun⟩ := hZ.run
  refine ⟨.pointer (some ⟨w.heap.size, 0, none⟩), w.alloc (.cells z.cells e), .pointer (some ⟨w.heap.size, 0, none⟩), ?_, Chg.alloc w _ _, fun b hb => ?_, fun M' hM' => ⟨?_, ?_⟩⟩
  · simp [execOp, Instr.alloc, newVar, newRow, hrun, World.alloc_eq]
  · simp [blk] at hb; subst hb; simp
  · exact .ptr id 0 _ (by simp [updh, blk])
  · obtain ⟨h1, h2, h3⟩ := zvs_ok (w := w.alloc (.cells z.cells e)) (M := M') (hd := updh hd id (.pointer (some ⟨w.heap.size, 0, none⟩))) hz
    refine .box cs z.cells.toList e w.heap.size rfl ?_ h1 h2 h3
    rw [heap_alloc_new]

/-- cells written into cells -/
def setO : Nat → List V → List V → Option (List V)
  | 0, [], cs => some cs
  | 0, _ :: _, [] => none
  | 0, x :: xs, _ :: cs => match setO 0 xs cs with | some r => some (x :: r) | none => none
  | _ + 1, _, [] => none
  | n + 1, xs, c :: cs => match setO n xs cs with | some r => some (c :: r) | none => none

theorem setO_eq : ∀ {n : Nat} {xs cs r : List V}, setO n xs cs = some r → r = cs.take n ++ xs ++ cs.drop (n + xs.length) ∧ n + xs.length ≤ cs.length
  | 0, [], cs, r, h => by simp [setO] at h; subst h; simp
  | 0, _ :: _, [], r, h => by simp [setO] at h
  | 0, x :: xs, c :: cs, r, h => by
    simp only [setO] at h
    split at h
    · rename_i r' hr
      cases h
      obtain ⟨h1, h2⟩ := setO_eq hr
      subst h1
      refine ⟨by simp, by simp at h2 ⊢; omega⟩
    · cases h
  | n + 1, xs, [], r, h => by simp [setO] at h
  | n + 1, xs, c :: cs, r, h => by
    simp only [setO] at h
    split at h
    · rename_i r' hr
      cases h
      obtain ⟨h1, h2⟩ := setO_eq hr
      subst h1
      refine ⟨?_, by simp at h2 ⊢; omega⟩
      have : n + 1 + xs.length = (n + xs.length) + 1 := by omega
      simp [this]
    · cases h

theorem splice_get {α : Type} {n : Nat} {cs xs : List α} (h : n + xs.length ≤ cs.length) (i : Nat) :
    (cs.take n ++ xs ++ cs.drop (n + xs.length))[i]? = if i < n then cs[i]? else if i < n + xs.length then xs[i - n]? else cs[i]? := by
  have h1 : (cs.take n).length = n := by rw [List.length_take]; omega
  by_cases hi : i < n
  · rw [if_pos hi, List.append_assoc, List.getElem?_append_left (by omega), List.getElem?_take, if_pos hi]
  · rw [if_neg hi]
    by_cases hj : i < n + xs.length
    · rw [if_pos hj, List.append_assoc, List.getElem?_append_right (by omega), h1, List.getElem?_append_left (by omega)]
    · rw [if_neg hj, List.getElem?_append_right (by simp; omega), List.getElem?_drop]
      congr 1
      simp [h1]; omega

theorem splice_rel {α β : Type} {R : α → β → Prop} {n : Nat} {cs xs : List α} {vs us : List β} (hl : cs.length = vs.length) (hx : xs.length = us.length) (hn : n + xs.length ≤ cs.length)
    (h : ∀ (i : Nat) (a : α) (v : β), cs[i]? = some a → vs[i]? = some v → R a v) (h' : ∀ (i : Nat) (a : α) (v : β), xs[i]? = some a → us[i]? = some v → R a v) :
    ∀ (i : Nat) (a : α) (v : β), (cs.take n ++ xs ++ cs.drop (n + xs.length))[i]? = some a → (vs.take n ++ us ++ vs.drop (n + us.length))[i]? = some v → R a v := by
  intro i a v ha hv
  rw [splice_get hn] at ha
  rw [splice_get (by omega)] at hv
  by_cases hi : i < n
  · rw [if_pos hi] at ha hv; exact h i a v ha hv
  · rw [if_neg hi] at ha hv
    by_cases hj : i < n + xs.length
    · rw [if_pos hj] at ha; rw [if_pos (by omega)] at hv; exact h' _ a v ha hv
    · rw [if_neg hj] at ha; rw [if_neg (by omega)] at hv; exact h i a v ha hv

theorem splice_one {β : Type} {p : β → Prop} {n : Nat} {vs us : List β} (hn : n + us.length ≤ vs.length)
    (h : ∀ (i : Nat) (v : β), vs[i]? = some v → p v) (h' : ∀ (i : Nat) (v : β), us[i]? = some v → p v) :
    ∀ (i : Nat) (v : β), (vs.take n ++ us ++ vs.drop (n + us.length))[i]? = some v → p v := by
  intro i v hv
  rw [splice_get hn] at hv
  split at hv
  · exact h _ v hv
  · split at hv
    · exact h' _ v hv
    · exact h _ v hv

theorem Chg.setRow (w : World) (b : Nat) (cs : Array Value) : Chg w (w.setRow b cs) (fun k => k = b) :=
  ⟨rfl, rfl, rfl, by simp, fun k _ hk => setRow_other w b k cs hk⟩

/-- a store into a box -/
theorem st {t : TypeId} {ag : Bool} {n : Nat} {x y : Operand} {id off : Nat} {cs xs cs' : List V} {vy : V} (hT : TF P t ag n) (hx : Ev S x (.ptr id off)) (hO : S.go id = some (.box cs))
    (hy : Ev S y vy) (hc : cellsV vy = some xs) (hn : Nat.beq xs.length n = true) (hs' : setO off xs cs = some cs')
    (D : Der P ops ((me ((rd x (.ptr id off) ++ rd y vy)) [(id, .box cs)] .un [(id, some (.box cs'))] []).app d S) os es S') :
    Der P ops S (⟨d, .store t x y, ty, pos, af, none⟩ :: os) (me ((rd x (.ptr id off) ++ rd y vy)) [(id, .box cs)] .un [(id, some (.box cs'))] [] :: es) S' := by
  refine .cons (Trip.mem (o := ⟨d, .store t x y, ty, pos, af, none⟩) rfl fun C S2 hd a w hs hp => ?_)
    (pre_me (mem_app hx.rd hy.rd) (by simp; exact hO) (fun _ h => (List.not_mem_nil h).elim)) D
  have h2 := hp.rs trivial
  have e1 := ((hx.of fun p hp => h2 p (List.mem_append_left _ hp)).vv hs)
  have e2 := ((hy.of fun p hp => h2 p (List.mem_append_right _ hp)).vv hs)
  obtain ⟨b, hb, ex⟩ := e1.ptr_inv
  have hgo := hp.ro trivial (id, .box cs) (by simp [me])
  obtain ⟨b', vs, e, hh, hb', hl, ho, hvv⟩ := (hs.ob id _ hgo).box_inv
  have : b' = b := by rw [hh] at hb; simpa [blk] using hb
  subst this
  obtain ⟨us, hus, hlu, hou, hvu⟩ := e2.cells hc
  obtain ⟨rfl, hoff⟩ := setO_eq hs'
  have hn' : us.length = n := by rw [← hlu]; exact Nat.eq_of_beq_eq_true hn
  have hrun := run_storeCells_at P b' off e us 0 ⟨vs⟩ w hb' (by simp; omega) (fun v hv => by
    obtain ⟨i, hi⟩ := List.mem_iff_getElem?.1 hv
    exact hou i v hi)
  simp only [Nat.add_zero] at hrun
  have hlk : ∀ i y, lk [(id, some (O.box (cs.take off ++ xs ++ cs.drop (off + xs.length))))] i = some (some y) → i = id ∧ y = .box (cs.take off ++ xs ++ cs.drop (off + xs.length)) := by
    intro i y hy
    simp only [lk] at hy
    by_cases hi : id = i
    · subst hi
      simp only [Nat.beq_refl, cond_true, Option.some.injEq] at hy
      exact ⟨rfl, hy.symm⟩
    · rw [beq_ne hi] at hy; cases hy
  refine ⟨.skip, undef, _, hd, fun k => k = b', ?_, .inr ⟨rfl, rfl⟩, Chg.setRow w b' (vs.take off ++ us ++ vs.drop (off + us.length)).toArray, ?_, fun _ _ => rfl, fun M' hM' => ⟨fun _ => .un _, ?_⟩, ?_, ?_⟩
  · have hsz : us.toArray.size = n := by simpa using hn'
    have hus' : (a.eval y).cells = us.toArray := hus
    simp only [execOp, ex, Instr.storeAt, Instr.sureAddr, Sem.run_bind, Sem.run_pure, Result.andThen_ok, storeVar, hT.run_sizeOf, hus', hsz, ne_eq, not_true, if_false, Sem.run_ite, hrun]
  · rintro k rfl
    exact ⟨id, _, _, hgo, by rw [hh]; rfl, by simp [me, lk]; rfl⟩
  · intro i y hy
    obtain ⟨rfl, rfl⟩ := hlk i y hy
    have hext : ∀ {x : V} {v : Value}, VV w (MM C S2 hd) hd x v → VV (w.setRow b' (vs.take off ++ us ++ vs.drop (off + us.length)).toArray) M' hd x v := fun h =>
      h.ext (Chg.setRow w b' _) (by rintro k rfl; exact .inr ⟨i, _, hgo, by rw [hh]; rfl⟩) hM' (fun _ _ => rfl)
    refine .box _ (vs.take off ++ us ++ vs.drop (off + us.length)) e b' hh ?_ ?_ ?_ ?_
    · rw [setRow_heap w b' _ _ e (0, 0) hb']
    · simp; omega
    · exact splice_one (by omega) ho hou
    · exact splice_rel hl hlu hoff (fun i a v hi hv => hext (hvv i a v hi hv)) (fun i a v hi hv => hext (hvu i a v hi hv))
  · intro i y k hy hk
    obtain ⟨rfl, rfl⟩ := hlk i y hy
    exact .inr ⟨i, _, _, hgo, hk, by simp [me, lk]; rfl⟩
  · intro i1 i2 x1 x2 k h1 h2 _ _
    exact ((hlk i1 x1 h1).1).trans ((hlk i2 x2 h2).1).symm

end
end Xb
