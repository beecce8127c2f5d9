/- Own text: Core17. -/
import Derived.Test.YtemfkddlidfbfaaGreatCore15
set_option linter.all false
set_option linter.unusedVariables false
set_option linter.unusedSimpArgs false
set_option linter.unnecessarySimpa false
set_option linter.deprecated false
/-! Function values: made, called; a variable that is captured and stays as it is. -/
namespace Xb
open Go

mutual
def V.fzb (id : Nat) (cells : List A) : V → V
  | .own i => bif Nat.beq i id then .un else .own i
  | .ptr i off => bif Nat.beq i id then .rptr (cells.drop off) else .ptr i off
  | .cptr cs => .cptr (V.fzbs id cells cs)
  | .agg cs => .agg (V.fzbs id cells cs)
  | .tup cs => .tup (V.fzbs id cells cs)
  | .fn f x y => .fn f (V.fzbs id cells x) (V.fzbs id cells y)
  | .may c x => .may c (V.fzb id cells x)
  | .view i sz lo n => bif Nat.beq i id then .un else .view i sz lo n
  | .ifc t x => .ifc t (V.fzb id cells x)
  | x => x
def V.fzbs (id : Nat) (cells : List A) : List V → List V
  | [] => []
  | x :: r => V.fzb id cells x :: V.fzbs id cells r
end
def O.fzb (id : Nat) (cells : List A) : O → O
  | .box cs => .box (V.fzbs id cells cs)
  | x => x

theorem fzbs_eq (id : Nat) (a : List A) : ∀ cs : List V, V.fzbs id a cs = cs.map (V.fzb id a)
  | [] => rfl
  | x :: r => by simp [V.fzbs, fzbs_eq id a r]

theorem VV.fzb {w : World} {M : Nat → Prop} {hd : Nat → Value} {id : Nat} {a : List A} (ha : ∀ off b, blk (hd id) = some b → VV w M hd (.rptr (a.drop off)) (.pointer (some ⟨b, off, none⟩))) {x : V} {v : Value} (h : VV w M hd x v) : VV w M hd (x.fzb id a) v := by
  induction h with
  | ro a v h => exact .ro a v h
  | own i h =>
    simp only [V.fzb]
    cases hb : Nat.beq i id with
    | true => exact .un _
    | false => exact .own i h
  | ptr i off b h =>
    simp only [V.fzb]
    cases hb : Nat.beq i id with
    | true =>
      have := Nat.eq_of_beq_eq_true hb
      subst this
      exact ha off b h
    | false => exact .ptr i off b h
  | rptr cs b off vs h1 h2 h3 h4 h5 h6 => exact .rptr cs b off vs h1 h2 h3 h4 h5 h6
  | cptr cs b off vs h1 h2 hl h4 h5 _ ih =>
    simp only [V.fzb, fzbs_eq]
    refine .cptr _ b off vs h1 h2 (by simpa using hl) h4 h5 fun i a v hi hv => ?_
    simp only [List.getElem?_map, Option.map_eq_some_iff] at hi
    obtain ⟨a', ha, rfl⟩ := hi
    exact ih i a' v ha hv
  | agg cs vs hl ho _ ih =>
    simp only [V.fzb, fzbs_eq]
    refine .agg _ vs (by simpa using hl) ho fun i a v hi hv => ?_
    simp only [List.getElem?_map, Option.map_eq_some_iff] at hi
    obtain ⟨a', ha, rfl⟩ := hi
    exact ih i a' v ha hv
  | tup cs vs hl _ ih =>
    simp only [V.fzb, fzbs_eq]
    refine .tup _ vs (by simpa using hl) fun i a v hi hv => ?_
    simp only [List.getElem?_map, Option.map_eq_some_iff] at hi
    obtain ⟨a', ha, rfl⟩ := hi
    exact ih i a' v ha hv
  | fn f cs ds vs us hl hl' _ _ ih ih' =>
    simp only [V.fzb, fzbs_eq]
    refine .fn f _ _ vs us (by simpa using hl) (by simpa using hl') (fun i a v hi hv => ?_) (fun i a v hi hv => ?_)
    · simp only [List.getElem?_map, Option.map_eq_some_iff] at hi
      obtain ⟨a', ha, rfl⟩ := hi
      exact ih i a' v ha hv
    · simp only [List.getElem?_map, Option.map_eq_some_iff] at hi
      obtain ⟨a', ha, rfl⟩ := hi
      exact ih' i a' v ha hv
  | may c x v _ hn ih => exact .may c _ v (fun hc => ih hc) hn
  | view i sz lo n v h =>
    simp only [V.fzb]
    cases hb : Nat.beq i id with
    | true => exact .un _
    | false => exact .view i sz lo n v h
  | ifc t x v _ ih => exact .ifc t _ v ih
  | un v => exact .un v

def St.fzb (S : St) (id : Nat) (a : List A) : St := ⟨S.s.map fun p => (p.1, p.2.fzb id a), (id, none) :: S.o.map fun p => (p.1, p.2.map (O.fzb id a))⟩

theorem Sat'.fzb {C : Ctx} {S : St} {hd : Nat → Value} {a : Act} {w : World} (h : Sat' C S hd a w) {id : Nat} {cs : List V} {l : List A} (hO : S.go id = some (.box cs)) (hros : ros cs = some l) :
    Sat' C (S.fzb id l) hd a w := by
  have hgo : ∀ i x, (S.fzb id l).go i = some x → i ≠ id ∧ ∃ y, S.go i = some y ∧ x = y.fzb id l := by
    intro i x hx
    simp only [St.fzb, St.go, lk] at hx
    by_cases hi : id = i
    · subst hi; simp at hx
    · rw [beq_ne hi] at hx
      simp only [lk_map, cond_false] at hx
      unfold St.go
      cases hy : lk S.o i with
      | none => rw [hy] at hx; cases hx
      | some z =>
        rw [hy] at hx
        cases z with
        | none => cases hx
        | some y => simp at hx; exact ⟨fun e => hi e.symm, y, rfl, hx.symm⟩
  have hM : ∀ b, b < w.heap.size → (C.M0 b ∨ Ow (S.fzb id l) hd b) → (C.M0 b ∨ Ow S hd b) := by
    rintro b _ (hm | ⟨i, x, hx, hb⟩)
    · exact .inl hm
    · obtain ⟨_, y, hy, _⟩ := hgo i x hx
      exact .inr ⟨i, y, hy, hb⟩
  obtain ⟨b0, us, e, hh, hb0, hlu, ho, huu⟩ := (h.ob id _ hO).box_inv
  have hbk0 : blk (hd id) = some b0 := by rw [hh]; rfl
  have hlt0 : b0 < w.heap.size := (Array.getElem?_eq_some_iff.1 hb0).1
  have hnM : ¬ (C.M0 b0 ∨ Ow (S.fzb id l) hd b0) := by
    rintro (hm | ⟨i, x, hx, hbi⟩)
    · have h1 := C.hM0 b0 hm
      rcases (h.lv b0 ⟨id, _, hO, hbk0⟩).1 with h2 | h2
      · omega
      · exact h1.2 h2
    · obtain ⟨hne, y, hy, _⟩ := hgo i x hx
      exact hne (h.inj i id y _ b0 hy hO hbi hbk0)
  have hcs := ros_get hros
  have hR : ∀ off b, blk (hd id) = some b → VV w (fun b => C.M0 b ∨ Ow (S.fzb id l) hd b) hd (.rptr (l.drop off)) (.pointer (some ⟨b, off, none⟩)) := by
    intro off b hb
    have : b = b0 := by rw [hbk0] at hb; simpa using hb.symm
    subst this
    refine .rptr _ b off (us.drop off) hnM hlt0 (by rw [hcs] at hlu; simp at hlu ⊢; omega) (fun k v hk => ?_) (fun k v hk => ?_) (fun k y v hy hk => ?_)
    · rw [List.getElem?_drop] at hk
      simp only [World.cell?, hb0]
      simpa using hk
    · rw [List.getElem?_drop] at hk
      exact ho _ v hk
    · rw [List.getElem?_drop] at hk hy
      have h1 := huu (off + k) (.ro y) v (by rw [hcs]; simp [hy]) hk
      exact h1.ro_of.ext (Chg.refl w (fun _ => False)) (fun _ h => h.elim) hM
  refine ⟨h.nt, fun t x hx => ?_, fun i x hx => ?_, ?_, fun i1 i2 x1 x2 b h1 h2 hb1 hb2 => ?_, h.fr, h.df⟩
  · simp only [St.gs, St.fzb, lk_map] at hx
    cases hy : lk S.s t with
    | none => rw [hy] at hx; cases hx
    | some y =>
      rw [hy] at hx
      simp at hx; subst hx
      obtain ⟨ht, hv⟩ := h.sl t y hy
      exact ⟨ht, VV.fzb hR (hv.ext (Chg.refl w (fun _ => False)) (fun _ h => h.elim) hM (fun _ _ => rfl))⟩
  · obtain ⟨_, y, hy, rfl⟩ := hgo i x hx
    have := (h.ob i y hy).ext (M' := fun b => C.M0 b ∨ Ow (S.fzb id l) hd b) (hd' := hd) (Chg.refl w (fun _ => False)) (fun _ h => h.elim) hM (fun _ _ => rfl) (fun _ _ h => h)
    cases this with
    | box cs vs e b hh hb hl ho hv =>
      simp only [O.fzb, fzbs_eq]
      refine .box _ vs e b hh hb (by simpa using hl) ho fun i a v hi hvi => ?_
      simp only [List.getElem?_map, Option.map_eq_some_iff] at hi
      obtain ⟨a', ha, rfl⟩ := hi
      exact VV.fzb hR (hv i a' v ha hvi)
    | arr e sz l xs hr hs ho hv => exact .arr e sz l xs hr hs ho hv
    | siter s pos b hhd hb hm => exact .siter s pos b hhd hb hm
    | map P k e kk m b D hhd hb hr => exact .map P k e kk m b D hhd hb hr
  · rintro b ⟨i, x, hx, hb⟩
    obtain ⟨_, y, hy, _⟩ := hgo i x hx
    exact h.lv b ⟨i, y, hy, hb⟩
  · obtain ⟨_, y1, hy1, _⟩ := hgo i1 x1 h1
    obtain ⟨_, y2, hy2, _⟩ := hgo i2 x2 h2
    exact h.inj i1 i2 y1 y2 b hy1 hy2 hb1 hb2

section
variable {P : Program} {T : Tgt} {C : Ctx} {k : List Item} {S : St}

/-- a variable is captured, and stays as it is -/
theorem AK.fb (id : Nat) {cs : List V} {l : List A} (hO : S.go id = some (.box cs)) (hr : ros cs = some l) (h : AK P T C k (S.fzb id l)) : AK P T C k S :=
  fun a w ⟨hd, hs⟩ => h a w ⟨hd, hs.fzb hO hr⟩

variable {ops : Array Oper} {S' : St} {os : List Oper} {es : List Eff}
variable {d : Option Nat} {ty : TypeId} {pos : String} {af : Array Edge}

/-- several operands -/
inductive Erl (S : St) : List Operand → List V → List (Nat × V) → Prop
  | n : Erl S [] [] []
  | c {x : Operand} {v : V} {r : List (Nat × V)} {xs : List Operand} {vs : List V} {rs : List (Nat × V)} (h : Er S x v r) (hr : Erl S xs vs rs) : Erl S (x :: xs) (v :: vs) (r ++ rs)
theorem Erl.rd {xs : List Operand} {vs : List V} {rs : List (Nat × V)} (h : Erl S xs vs rs) : ∀ p, p ∈ rs → S.gs p.1 = some p.2 := by
  induction h with
  | n => simp
  | c h _ ih => exact mem_app h.rd ih
theorem Erl.of {T : St} {xs : List Operand} {vs : List V} {rs : List (Nat × V)} (h : Erl S xs vs rs) (h1 : ∀ p, p ∈ rs → T.gs p.1 = some p.2) : Erl T xs vs rs := by
  induction h with
  | n => exact .n
  | c h _ ih => exact .c (h.of fun p hp => h1 p (List.mem_append_left _ hp)) (ih fun p hp => h1 p (List.mem_append_right _ hp))
theorem Erl.vv {hd : Nat → Value} {a : Act} {w : World} {xs : List Operand} {vs : List V} {rs : List (Nat × V)} (hs : Sat' C S hd a w) (h : Erl S xs vs rs) :
    vs.length = (xs.map a.eval).length ∧ ∀ (i : Nat) (x : V) (v : Value), vs[i]? = some x → (xs.map a.eval)[i]? = some v → VV w (MM C S hd) hd x v := by
  induction h with
  | n => exact ⟨rfl, by simp⟩
  | c h _ ih =>
    refine ⟨by simp [ih.1], fun i x v hi hv => ?_⟩
    cases i with
    | zero => simp at hi hv; subst hi; subst hv; exact h.vv hs
    | succ i => exact ih.2 i x v (by simpa using hi) (by simpa using hv)

/-- a function value is made -/
theorem mfn {g : Fn} {xs : Array Operand} {vs : List V} {rs : List (Nat × V)} (h : Erl S xs.toList vs rs) : OpV P S (.makeFunc g #[] xs) rs [] (.fn g [] vs) := by
  refine ⟨h.rd, fun _ h => (List.not_mem_nil h).elim, fun C S2 hd a w d ty pos af g' hs h2 _ => ?_⟩
  obtain ⟨h1, h3⟩ := (h.of h2).vv hs
  refine ⟨.func g #[] ⟨xs.toList.map a.eval⟩, ?_, .fn g [] vs [] _ rfl (by simpa using h1) (by simp) h3⟩
  simp only [execOp, Instr.makeFunc, Sem.run_bind, Sem.run_pure, Result.andThen_ok]
  congr 2
  simp
  apply Array.ext'; simp

theorem run_resolve_fnv {g : FuncId} {x : Operand} {xs : Array Operand} {ts : Array TypeId} {a : Act} {w : World} {o : Oper} {us cs : List Value} (ho : o.op = .call ⟨.value x, xs, ts⟩) (hx : a.eval x = .func (.func g) ⟨us⟩ ⟨cs⟩) (hf : CF P g) :
    (execOp a.eval o).run P w = .ok (.enter g ⟨us ++ (xs.toList.map a.eval ++ cs)⟩) w := by
  simp only [execOp, ho, resolve, hx, Deferred.ofValue, Sem.run_bind, Sem.run_pure, Result.andThen_ok, invoke]
  have e : (⟨us⟩ ++ Array.map a.eval xs ++ ⟨cs⟩ : Array Value) = ⟨us ++ (xs.toList.map a.eval ++ cs)⟩ := by
    apply Array.ext'; simp
  rw [e]
  exact hf _ w

theorem VV.fn_inv {w : World} {M : Nat → Prop} {hd : Nat → Value} {f : Fn} {cs ds : List V} {v : Value} (h : VV w M hd (.fn f cs ds) v) : ∃ vs us, v = .func f ⟨vs⟩ ⟨us⟩ ∧ cs.length = vs.length ∧ ds.length = us.length ∧
    (∀ (i : Nat) (a : V) (v : Value), cs[i]? = some a → vs[i]? = some v → VV w M hd a v) ∧ ∀ (i : Nat) (a : V) (v : Value), ds[i]? = some a → us[i]? = some v → VV w M hd a v := by
  cases h with
  | fn _ _ _ vs us h1 h2 h3 h4 => exact ⟨vs, us, rfl, h1, h2, h3, h4⟩

/-- a function value is called -/
theorem clv (gv : List Nat) {g : FuncId} {x : Operand} {xs : Array Operand} {ts : Array TypeId} {us cs args : List V} {r : A} {r0 rs : List (Nat × V)} {ro : List (Nat × O)} {bs : List Nat} (hF : CF P g)
    (hf : Er S x (.fn (.func g) us cs) r0) (hC : AC P g (us ++ (args ++ cs)) (.ro r) [])
    (hx : Ers S xs.toList args rs ro bs) (hb : subB bs gv = true ∨ flatA r = true)
    (D : Der P ops ((⟨[], True, r0 ++ rs, ro, .ro r, gone gv, []⟩ : Eff).app d S) os es S') :
    Der P ops S (⟨d, .call ⟨.value x, xs, ts⟩, ty, pos, af, none⟩ :: os) (⟨[], True, r0 ++ rs, ro, .ro r, gone gv, []⟩ :: es) S' :=
  .cons (Trip.callR (o := ⟨d, .call ⟨.value x, xs, ts⟩, ty, pos, af, none⟩) (bs := bs) (fun _ _ _ _ _ _ _ => by simp [Region.wanted]) gv (fun _ => hC) (hb.imp subB_spec id) (.inl ⟨trivial, rfl⟩)
    (fun _ C S2 hd a w hs h2 h3 => by
      have he := (hx.of (fun p hp => h2 p (List.mem_append_right _ hp)) h3).vv hs bs (fun _ h => h)
      obtain ⟨uv, cv, hv, hl1, hl2, hu, hc⟩ := ((hf.of fun p hp => h2 p (List.mem_append_left _ hp)).vv hs).fn_inv
      refine ⟨uv ++ (xs.toList.map a.eval ++ cv), run_resolve_fnv rfl hv hF, by simp [hl1, hl2]; have := he.1; simpa using this, fun i y v hi hv' => ?_⟩
      have ext : ∀ {y : V} {v : Value}, VV w (MM C S2 hd) hd y v → VV w (Lent C S2 hd bs) hd y v := fun h => h.ext (Chg.refl w (fun _ => False)) (fun _ h => h.elim) (fun b _ hm => hm.1) (fun _ _ => rfl)
      have hlen : args.length = (xs.toList.map a.eval).length := he.1
      by_cases h1 : i < us.length
      · rw [List.getElem?_append_left h1] at hi
        rw [List.getElem?_append_left (by omega)] at hv'
        exact ext (hu i y v hi hv')
      · rw [List.getElem?_append_right (by omega)] at hi
        rw [List.getElem?_append_right (by omega), ← hl1] at hv'
        by_cases h2' : i - us.length < args.length
        · rw [List.getElem?_append_left h2'] at hi
          rw [List.getElem?_append_left (by omega)] at hv'
          exact he.2 _ y v hi hv'
        · rw [List.getElem?_append_right (by omega)] at hi
          rw [List.getElem?_append_right (by omega), ← hlen] at hv'
          exact ext (hc _ y v hi hv'))
    (fun _ _ _ _ _ _ _ h3 => ers_live hx h3))
    ⟨fun _ h => (List.not_mem_nil h).elim, fun _ => mem_app hf.rd hx.rd.1, fun _ => hx.rd.2, fun _ h => (List.not_mem_nil h).elim⟩ D
end
end Xb
