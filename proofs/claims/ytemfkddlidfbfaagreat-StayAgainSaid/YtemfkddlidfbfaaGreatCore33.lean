/- Own text: Core33. -/
import Derived.Test.YtemfkddlidfbfaaGreatCore32
set_option linter.all false
set_option linter.unusedVariables false
set_option linter.unusedSimpArgs false
set_option linter.unnecessarySimpa false
set_option linter.deprecated false
/-! A call that may hand back the piece of one's own list that it was handed. -/
namespace Xb
open Go

mutual
/-- data, and one piece of a list -/
inductive RV (id sz lo n : Nat) : V → Prop
  | ro {a : A} : RV id sz lo n (.ro a)
  | vw : RV id sz lo n (.view id sz lo n)
  | tup {cs : List V} (h : RVs id sz lo n cs) : RV id sz lo n (.tup cs)
inductive RVs (id sz lo n : Nat) : List V → Prop
  | n : RVs id sz lo n []
  | c {x : V} {cs : List V} (h : RV id sz lo n x) (t : RVs id sz lo n cs) : RVs id sz lo n (x :: cs)
end

theorem isView.move {h h' : Value} {sz lo n : Nat} {v u : Value} (hu : isView h sz lo n u) (hu' : isView h' sz lo n u) (hv : isView h sz lo n v) : isView h' sz lo n v := by
  rcases hv with ⟨h0, o, cap, rfl, hc⟩ | ⟨b, cap, hb, rfl, h1, h2⟩
  · exact .inl ⟨h0, o, cap, rfl, hc⟩
  · by_cases h0 : n = 0
    · exact .inl ⟨h0, _, cap, by rw [h0], h2⟩
    · rcases hu with ⟨h3, _⟩ | ⟨b1, c1, e1, rfl, _, _⟩
      · exact absurd h3 h0
      · rcases hu' with ⟨h3, _⟩ | ⟨b2, c2, e2, e3, _, _⟩
        · exact absurd h3 h0
        · simp only [Value.slice.injEq, Option.some.injEq, Addr.mk.injEq] at e3
          have e4 : b = b1 := by rw [hb] at e1; simpa using e1
          refine .inr ⟨b, cap, ?_, rfl, h1, h2⟩
          rw [e2, e4, ← e3.1.1]

mutual
theorem RV.move {w : World} {M M' : Nat → Prop} {hd1 hd : Nat → Value} {g : Nat → Nat} {id sz lo n : Nat} (hM : ∀ b, b < w.heap.size → M' b → M b) (hv : ∀ v, isView (hd1 id) sz lo n v → isView (hd (g id)) sz lo n v) :
    ∀ {r : V}, RV id sz lo n r → ∀ {v : Value}, VV w M hd1 r v → VV w M' hd (r.mp g) v
  | _, .ro, _, h => .ro _ _ (h.ro_of.ext (Chg.refl w (fun _ => False)) (fun _ h => h.elim) hM)
  | _, .vw, _, h => .view _ _ _ _ _ (hv _ h.view_inv)
  | _, .tup hs, v, h => by
    cases h with
    | tup cs vs hl hvv =>
      simp only [V.mp, mps_eq]
      exact .tup _ vs (by simpa using hl) fun i a u ha hu => by
        simp only [List.getElem?_map, Option.map_eq_some_iff] at ha
        obtain ⟨a', ha', rfl⟩ := ha
        exact RVs.move hM hv hs ha' (hvv i a' u ha' hu)
theorem RVs.move {w : World} {M M' : Nat → Prop} {hd1 hd : Nat → Value} {g : Nat → Nat} {id sz lo n : Nat} (hM : ∀ b, b < w.heap.size → M' b → M b) (hv : ∀ v, isView (hd1 id) sz lo n v → isView (hd (g id)) sz lo n v) :
    ∀ {cs : List V}, RVs id sz lo n cs → ∀ {i : Nat} {a : V}, cs[i]? = some a → ∀ {v : Value}, VV w M hd1 a v → VV w M' hd (a.mp g) v
  | _, .n, i, a, h, _, _ => by simp at h
  | _, .c h t, 0, a, ha, v, hvv => by simp at ha; subst ha; exact RV.move hM hv h hvv
  | _, .c h t, i + 1, a, ha, v, hvv => RVs.move hM hv t (by simpa using ha) hvv
end

section
variable {P : Program} {ops : Array Oper} {S S' : St} {os : List Oper} {es : List Eff}
variable {d : Option Nat} {ty : TypeId} {pos : String} {af : Array Edge}

theorem clw {f : FuncId} {xs : Array Operand} {ts : Array TypeId} (g : Nat → Nat) {ys args : List V} {pn : List Nat} {r : V} (k j : Nat) {id sz lo n : Nat} {cs : List V}
    (hF : CF P f) (hC : AY P f args [] pn r [] [(k, .agg cs)] []) (hx : Evs S xs.toList ys) (he : ys = args.map (V.mp g)) (hk : args[k]? = some (.agg cs)) (hj : cs[j]? = some (.view id sz lo n)) (hr : RV id sz lo n r)
    (D : Der P ops ((me (rds xs.toList ys) [] (r.mp g) [] []).app d S) os es S') :
    Der P ops S (⟨d, .call ⟨.value (.func f), xs, ts⟩, ty, pos, af, none⟩ :: os) (me (rds xs.toList ys) [] (r.mp g) [] [] :: es) S' := by
  refine .cons ?_ (pre_me hx.rd (fun _ h => (List.not_mem_nil h).elim) (fun _ h => (List.not_mem_nil h).elim)) D
  rintro C S2 a w ⟨hd, hs⟩ hp hdst
  unfold stepOp
  rw [if_pos (by simp [Region.wanted])]
  have h3 := (hx.of (hp.rs trivial)).vv hs
  subst he
  have hrun : (execOp a.eval ⟨d, .call ⟨.value (.func f), xs, ts⟩, ty, pos, af, none⟩).run P w = .ok (.enter f ⟨xs.toList.map a.eval⟩) w := by
    rw [run_resolve_func rfl hF]
    congr 2
    apply Array.ext'; simp
  simp only [Oper.wp, hrun, Oper.upon]
  have hM : ∀ b, MM C S2 hd b → b < w.heap.size ∧ ¬ False := fun b hb => ⟨hb.elim (fun h => Nat.lt_of_lt_of_le (C.hM0 b h).1 hs.fr.size) (fun h => (hs.lv b h).2), fun h => h⟩
  have hin : ∀ b, MM (ctxX w (fun _ => False) (MM C S2 hd) hM 0 [] fun _ => undef) ⟨[], bxs []⟩ (fun i => hd (g i)) b → MM C S2 hd b := by
    rintro b (hm | ⟨id, x, hx, hb⟩)
    · exact hm
    · simp [bxs, St.go, lk] at hx
  have hargs : ∀ (i : Nat) (x : V) (v : Value), args[i]? = some x → (xs.toList.map a.eval)[i]? = some v → VV w (MM (ctxX w (fun _ => False) (MM C S2 hd) hM 0 [] fun _ => undef) ⟨[], bxs []⟩ (fun i => hd (g i))) (fun i => hd (g i)) x v :=
    fun i x v hx hvl => ((h3.2 i (x.mp g) v (by simp [hx]) hvl).ext (Chg.refl w (fun _ => False)) (fun _ h => h.elim) (fun b _ hm => hin b hm) (fun _ _ => rfl)).unmp rfl
  have hl : args.length = (xs.toList.map a.eval).length := by simpa using h3.1
  have hmem : Mem (ctxX w (fun _ => False) (MM C S2 hd) hM 0 [] fun _ => undef) (bxs []) (fun i => hd (g i)) w :=
    ⟨fun id x hx => by simp [bxs, St.go, lk] at hx, by rintro b ⟨id, x, hx, _⟩; simp [bxs, St.go, lk] at hx, fun i1 i2 x1 x2 b h1 => by simp [bxs, St.go, lk] at h1, Chg.refl w _⟩
  refine (hC w (fun _ => False) (MM C S2 hd) hM (fun i => hd (g i)) (xs.toList.map a.eval) hl hargs hmem).mono fun e w' hpost => ?_
  obtain ⟨v, hd1, rfl, hv1, hm, hkp⟩ := hpost
  show Sat C _ (a.put d v) w'
  have hklt : k < (xs.toList.map a.eval).length := by rw [← hl]; exact (List.getElem?_eq_some_iff.1 hk).1
  have hkv := hkp (k, .agg cs) (by simp)
  have hpv : (ctxX w (fun _ => False) (MM C S2 hd) hM 0 pn fun t => (xs.toList.map a.eval).getD t undef).pv k = (xs.toList.map a.eval)[k] := by
    show (xs.toList.map a.eval).getD k undef = _
    rw [List.getD_eq_getElem?_getD, List.getElem?_eq_getElem hklt]; rfl
  rw [hpv] at hkv
  have hk0 := hargs k _ _ hk (List.getElem?_eq_getElem hklt)
  have hmv : ∀ u, isView (hd1 id) sz lo n u → isView (hd (g id)) sz lo n u := by
    intro u hu
    generalize (xs.toList.map a.eval)[k] = vk at hkv hk0
    cases hkv with
    | agg _ vs hl1 ho1 hv1' =>
      cases hk0 with
      | agg _ _ hl2 ho2 hv2 =>
        have hjl : j < vs.length := by rw [← hl1]; exact (List.getElem?_eq_some_iff.1 hj).1
        have q1 := (hv1' j _ vs[j] hj (List.getElem?_eq_getElem hjl)).view_inv
        have q2 := (hv2 j _ vs[j] hj (List.getElem?_eq_getElem hjl)).view_inv
        exact q1.move q2 hu
  refine ⟨hd, hs.step _ hp d v hdst (fun _ => False) ⟨hm.fr.os, hm.fr.tape, hm.fr.output, hm.fr.size, hm.fr.block⟩ (fun _ h => h.elim) (fun _ _ => rfl) (fun _ => ?_) (fun id x hx => ?_) (fun id x b hx => ?_) (fun i1 i2 x1 x2 b h1 => ?_)⟩
  · refine RV.move (fun b _ hb => ?_) hmv hr hv1
    refine .inl ?_
    rcases hb with hb | ⟨i, x, hx, hbk⟩
    · exact .inl hb
    · rw [app_go] at hx
      exact .inr ⟨i, x, by simpa [me, lk] using hx, hbk⟩
  · simp [me, lk] at hx
  · simp [me, lk] at hx
  · simp [me, lk] at h1
end
end Xb
