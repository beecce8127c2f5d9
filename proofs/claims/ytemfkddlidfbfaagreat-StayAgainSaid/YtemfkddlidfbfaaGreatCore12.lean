/- Own text: Core12. -/
import Derived.Test.YtemfkddlidfbfaaGreatCore11
set_option linter.all false
set_option linter.unusedVariables false
set_option linter.unusedSimpArgs false
set_option linter.unnecessarySimpa false
set_option linter.deprecated false
/-! Calls: guarded, and with lists of one's own lent out; further operations. -/
namespace Xb
open Go

mutual
/-- does it lead to no memory? -/
def flatA : A → Bool
  | .bool _ | .int _ _ | .str _ | .raw _ => true
  | .list _ _ => false
  | .agg cs | .tup cs => flatAs cs
  | .ifc _ x => flatA x
def flatAs : List A → Bool
  | [] => true
  | x :: r => flatA x && flatAs r
end

theorem flatAs_get : ∀ {cs : List A} {i : Nat} {a : A}, flatAs cs = true → cs[i]? = some a → flatA a = true
  | x :: r, 0, a, h, hi => by simp [flatAs] at h hi; exact hi ▸ h.1
  | x :: r, i + 1, a, h, hi => by simp [flatAs] at h; exact flatAs_get h.2 (by simpa using hi)

theorem VR.flat {w : World} {M M' : Nat → Prop} {a : A} {v : Value} (h : VR w M a v) (hf : flatA a = true) : VR w M' a v := by
  induction h with
  | bool b => exact .bool b
  | int k n h1 h2 => exact .int k n h1 h2
  | str s h => exact .str s h
  | emp sz o cap h => cases hf
  | list => cases hf
  | agg cs vs hl ho _ ih => exact .agg cs vs hl ho fun i a v hi hv => ih i a v hi hv (flatAs_get (by simpa [flatA] using hf) hi)
  | tup cs vs hl _ ih => exact .tup cs vs hl fun i a v hi hv => ih i a v hi hv (flatAs_get (by simpa [flatA] using hf) hi)
  | raw v h => exact .raw v h
  | ifc t x v _ ih => exact .ifc t x v (ih (by simpa [flatA] using hf))

theorem VV.view_inv {w : World} {M : Nat → Prop} {hd : Nat → Value} {id sz lo n : Nat} {v : Value} (h : VV w M hd (.view id sz lo n) v) : isView (hd id) sz lo n v := by
  cases h with | view _ _ _ _ _ h => exact h

/-- a piece of one's own list, as it reads -/
theorem view_VR {w : World} {M : Nat → Prop} {e sz : Nat} {h : Value} {l : List (List A)} {hd : Nat → Value} (H : OO w M hd h (.arr e sz l)) (M' : Nat → Prop)
    (hM : ∀ b, b < w.heap.size → M' b → M b) (hb : ∀ b, blk h = some b → ¬ M' b) {lo n : Nat} {v : Value} (hv : isView h sz lo n v) (hln : lo + n ≤ l.length) : VR w M' (.list sz ((l.drop lo).take n)) v := by
  rcases hv with ⟨rfl, o, cap, rfl, hc⟩ | ⟨b, cap, hbk, rfl, hnc, hcm⟩
  · rw [List.take_zero]; exact .emp _ _ _ hc
  · rcases Nat.eq_zero_or_pos n with rfl | hn
    · rw [List.take_zero]; exact .emp _ _ _ hcm
    · have hr := ownsRow_VR H M' hM hb
      cases H with
      | arr _ _ _ xs hrow hs ho hv =>
        rcases hrow.2 with ⟨rfl, h0⟩ | ⟨g, cap', cur, rfl, _, hg, hn', hm, hcs, htake⟩
        · cases hbk
        · have : g = b := by simpa [blk] using hbk
          subst this
          have hlen : ((l.drop lo).take n).length = n := by rw [List.length_take, List.length_drop]; omega
          have hlt : g < w.heap.size := (Array.getElem?_eq_some_iff.1 hg).1
          have hxl : xs.length = l.length * sz := hrow.1
          have hcell := hrow.cells (v := .slice (some ⟨g, 0, none⟩) l.length cap') rfl
          have key := VR.list (w := w) (M := M') sz ((l.drop lo).take n) g (lo * sz) cap ((xs.drop (lo * sz)).take (n * sz)) (by omega) hcm (hb g rfl) hlt
            (fun cs hc => hs cs (List.mem_of_mem_drop (List.mem_of_mem_take hc)))
            (by rw [take_flatten _ (fun cs hc => hs cs (List.mem_of_mem_drop hc)), drop_flatten _ hs, List.length_take, List.length_take, List.length_drop, List.length_drop, flatten_len hs, hxl])
            (fun k v hk => by
              rw [List.getElem?_take] at hk
              split at hk
              case isFalse => cases hk
              rw [List.getElem?_drop] at hk
              have := hcell _ v hk
              rwa [Addr.add_lit, Nat.zero_add] at this)
            (fun k v hk => by
              rw [List.getElem?_take] at hk
              split at hk
              case isFalse => cases hk
              rw [List.getElem?_drop] at hk
              exact ho _ v hk)
            (fun k x v hx hk => by
              rw [take_flatten _ (fun cs hc => hs cs (List.mem_of_mem_drop hc)), drop_flatten _ hs, List.getElem?_take] at hx
              rw [List.getElem?_take] at hk
              split at hk
              case isFalse => cases hk
              rw [if_pos ‹_›] at hx
              rw [List.getElem?_drop] at hk hx
              exact (hv _ x v hx hk).ext (Chg.refl w (fun _ => False)) (fun _ h => h.elim) hM)
          rwa [hlen] at key

theorem sub_view {α : Type} {F : α → List A} {l q : List α} {a b : Int} (h : sub l a b = some q) : a.toNat + (b.toNat - a.toNat) ≤ (l.map F).length ∧ ((l.map F).drop a.toNat).take (b.toNat - a.toNat) = q.map F := by
  obtain ⟨h0, h1, h2, rfl⟩ := sub_eq h
  refine ⟨by rw [List.length_map]; omega, by rw [List.map_take, List.map_drop]⟩

/-- the operands of a call: as they read, the slots, the objects, which of them are lent -/
inductive Ers (S : St) : List Operand → List V → List (Nat × V) → List (Nat × O) → List Nat → Prop
  | n : Ers S [] [] [] [] []
  | c {x : Operand} {v : V} {r : List (Nat × V)} {xs : List Operand} {vs : List V} {rs : List (Nat × V)} {ro : List (Nat × O)} {bs : List Nat} (h : Er S x v r) (hr : Ers S xs vs rs ro bs) :
      Ers S (x :: xs) (v :: vs) (r ++ rs) ro bs
  | b {x : Operand} {i : Nat} {e : TypeId} {sz : Nat} {l : List (List A)} {r : List (Nat × V)} {xs : List Operand} {vs : List V} {rs : List (Nat × V)} {ro : List (Nat × O)} {bs : List Nat} (h : Er S x (.own i) r)
      (hO : S.go i = some (.arr e sz l)) (hr : Ers S xs vs rs ro bs) : Ers S (x :: xs) (.ro (.list sz l) :: vs) (r ++ rs) ((i, .arr e sz l) :: ro) (i :: bs)
  | w {α : Type} {F : α → List A} {x : Operand} {i : Nat} {e : TypeId} {sz : Nat} {l q : List α} {a b : Int} {r : List (Nat × V)} {xs : List Operand} {vs : List V} {rs : List (Nat × V)} {ro : List (Nat × O)} {bs : List Nat}
      (h : Er S x (.view i sz a.toNat (b.toNat - a.toNat)) r) (hO : S.go i = some (.arr e sz (l.map F))) (hq : sub l a b = some q) (hr : Ers S xs vs rs ro bs) :
      Ers S (x :: xs) (.ro (.list sz (q.map F)) :: vs) (r ++ rs) ((i, .arr e sz (l.map F)) :: ro) (i :: bs)
  | p {x : Operand} {i off : Nat} {us : List V} {cs c2 : List A} {r : List (Nat × V)} {xs : List Operand} {vs : List V} {rs : List (Nat × V)} {ro : List (Nat × O)} {bs : List Nat} (h : Er S x (.ptr i off) r)
      (hO : S.go i = some (.box us)) (hu : ros us = some cs) (hd : dropO off cs = some c2) (hr : Ers S xs vs rs ro bs) : Ers S (x :: xs) (.rptr c2 :: vs) (r ++ rs) ((i, .box us) :: ro) (i :: bs)

theorem Ers.rd {S : St} {xs : List Operand} {vs : List V} {rs : List (Nat × V)} {ro : List (Nat × O)} {bs : List Nat} (h : Ers S xs vs rs ro bs) :
    (∀ p, p ∈ rs → S.gs p.1 = some p.2) ∧ ∀ p, p ∈ ro → S.go p.1 = some p.2 := by
  induction h with
  | n => simp
  | c h _ ih => exact ⟨mem_app h.rd ih.1, ih.2⟩
  | b h hO _ ih => exact ⟨mem_app h.rd ih.1, fun p hp => by
      rcases List.mem_cons.1 hp with rfl | hp
      · exact hO
      · exact ih.2 p hp⟩
  | w h hO hq _ ih => exact ⟨mem_app h.rd ih.1, fun p hp => by
      rcases List.mem_cons.1 hp with rfl | hp
      · exact hO
      · exact ih.2 p hp⟩
  | p h hO _ _ _ ih => exact ⟨mem_app h.rd ih.1, fun p hp => by
      rcases List.mem_cons.1 hp with rfl | hp
      · exact hO
      · exact ih.2 p hp⟩

theorem Ers.of {S S' : St} {xs : List Operand} {vs : List V} {rs : List (Nat × V)} {ro : List (Nat × O)} {bs : List Nat} (h : Ers S xs vs rs ro bs) (h1 : ∀ p, p ∈ rs → S'.gs p.1 = some p.2)
    (h2 : ∀ p, p ∈ ro → S'.go p.1 = some p.2) : Ers S' xs vs rs ro bs := by
  induction h with
  | n => exact .n
  | c h _ ih => exact .c (h.of fun p hp => h1 p (List.mem_append_left _ hp)) (ih (fun p hp => h1 p (List.mem_append_right _ hp)) h2)
  | b h hO _ ih => exact .b (h.of fun p hp => h1 p (List.mem_append_left _ hp)) (h2 (_, _) (List.mem_cons_self ..)) (ih (fun p hp => h1 p (List.mem_append_right _ hp)) (fun p hp => h2 p (by simp [hp])))
  | w h hO hq _ ih => exact .w (h.of fun p hp => h1 p (List.mem_append_left _ hp)) (h2 (_, _) (List.mem_cons_self ..)) hq (ih (fun p hp => h1 p (List.mem_append_right _ hp)) (fun p hp => h2 p (by simp [hp])))
  | p h hO hu hd _ ih => exact .p (h.of fun p hp => h1 p (List.mem_append_left _ hp)) (h2 (_, _) (List.mem_cons_self ..)) hu hd (ih (fun p hp => h1 p (List.mem_append_right _ hp)) (fun p hp => h2 p (by simp [hp])))

/-- what must not be touched by a call that lends these -/
def Lent (C : Ctx) (S : St) (hd : Nat → Value) (bs : List Nat) (b : Nat) : Prop := MM C S hd b ∧ ∀ i, i ∈ bs → blk (hd i) ≠ some b

theorem Ers.vv {C : Ctx} {S : St} {hd : Nat → Value} {a : Act} {w : World} {xs : List Operand} {vs : List V} {rs : List (Nat × V)} {ro : List (Nat × O)} {bs : List Nat} (hs : Sat' C S hd a w) (h : Ers S xs vs rs ro bs)
    (bs' : List Nat) (hb : ∀ i, i ∈ bs → i ∈ bs') :
    vs.length = (xs.map a.eval).length ∧ ∀ (i : Nat) (x : V) (v : Value), vs[i]? = some x → (xs.map a.eval)[i]? = some v → VV w (Lent C S hd bs') hd x v := by
  induction h with
  | n => exact ⟨rfl, by simp⟩
  | c h _ ih =>
    obtain ⟨ih1, ih2⟩ := ih hb
    refine ⟨by simp [ih1], fun i x v hi hv => ?_⟩
    cases i with
    | zero =>
      simp at hi hv; subst hi; subst hv
      exact (h.vv hs).ext (Chg.refl w (fun _ => False)) (fun _ h => h.elim) (fun b _ hm => hm.1) (fun _ _ => rfl)
    | succ i => exact ih2 i x v (by simpa using hi) (by simpa using hv)
  | @b x i e sz l r xs vs rs ro bs h hO _ ih =>
    obtain ⟨ih1, ih2⟩ := ih (fun j hj => hb j (by simp [hj]))
    refine ⟨by simp [ih1], fun j y v hj hv => ?_⟩
    cases j with
    | zero =>
      simp at hj hv; subst hj; subst hv
      rw [(h.vv hs).own_inv.1]
      exact .ro _ _ (ownsRow_VR (hs.ob i _ hO) _ (fun b _ hm => hm.1) fun b hbk hm => hm.2 i (hb i (by simp)) hbk)
    | succ j => exact ih2 j y v (by simpa using hj) (by simpa using hv)
  | @w α F x i e sz l q lo hi r xs vs rs ro bs h hO hq _ ih =>
    obtain ⟨ih1, ih2⟩ := ih (fun j hj => hb j (by simp [hj]))
    refine ⟨by simp [ih1], fun j y v hj hv => ?_⟩
    cases j with
    | zero =>
      simp at hj hv; subst hj; subst hv
      obtain ⟨hbd, hqq⟩ := sub_view (F := F) hq
      have := view_VR (hs.ob i _ hO) (Lent C S hd bs') (fun b _ hm => hm.1) (fun b hbk hm => hm.2 i (hb i (by simp)) hbk) (h.vv hs).view_inv hbd
      rw [hqq] at this
      exact .ro _ _ this
    | succ j => exact ih2 j y v (by simpa using hj) (by simpa using hv)
  | @p x i off us0 cs c2 r xs vs rs ro bs h hO hu hdr _ ih =>
    obtain ⟨rfl, _⟩ := dropO_eq hdr
    have hcs := ros_get hu
    subst hcs
    obtain ⟨ih1, ih2⟩ := ih (fun j hj => hb j (by simp [hj]))
    refine ⟨by simp [ih1], fun j y v hj hv => ?_⟩
    cases j with
    | zero =>
      simp at hj hv; subst hj; subst hv
      obtain ⟨b, hbk, e⟩ := (h.vv hs).ptr_inv
      obtain ⟨b', us, e', hh, hcell, hl, ho, hvv⟩ := (hs.ob i _ hO).box_inv
      rw [hh] at hbk
      simp only [blk, Option.some.injEq] at hbk
      subst hbk
      have hlt : b' < w.heap.size := (Array.getElem?_eq_some_iff.1 hcell).1
      rw [e]
      refine .rptr _ b' off (us.drop off) (fun hm => hm.2 i (hb i (by simp)) (by rw [hh]; rfl)) hlt (by simp at hl ⊢; omega) (fun k v hk => ?_) (fun k v hk => ho (off + k) v (by simpa using hk)) (fun k y v hy hk => ?_)
      · have hk' : us[off + k]? = some v := by simpa using hk
        simp [World.cell?, hcell, hk']
      · have := hvv (off + k) (.ro y) v (by simp at hy ⊢; exact hy) (by simpa using hk)
        exact this.ro_of.ext (Chg.refl w (fun _ => False)) (fun _ h => h.elim) (fun b _ hm => hm.1)
    | succ j => exact ih2 j y v (by simpa using hj) (by simpa using hv)

section
variable {P : Program} {ops : Array Oper} {S S' : St} {os : List Oper} {es : List Eff}
variable {d : Option Nat} {ty : TypeId} {pos : String} {af : Array Edge}

theorem call_core {C : Ctx} {S : St} {hd : Nat → Value} {a : Act} {w : World} (hs : Sat' C S hd a w) {f : FuncId} {args : List V} {r : A} {vals : List Value} {bs : List Nat} (M' : Nat → Prop) (hC : AC P f args (.ro r) [])
    (hl : args.length = vals.length) (hv : ∀ (i : Nat) (x : V) (v : Value), args[i]? = some x → vals[i]? = some v → VV w (Lent C S hd bs) hd x v) (hb : (∀ b, M' b → b < w.heap.size → Lent C S hd bs b) ∨ flatA r = true)
    (hM' : ∀ b, M' b → b < w.heap.size) :
    Calls P f ⟨vals⟩ w fun e w' => ∃ v, e = .returned v ∧ Chg w w' (fun _ => False) ∧ VR w' M' r v := by
  have hM0 : ∀ b, Lent C S hd bs b → b < w.heap.size := fun b hb => hb.1.elim (fun h => Nat.lt_of_lt_of_le (C.hM0 b h).1 hs.fr.size) (fun h => (hs.lv b h).2)
  refine (hC w (Lent C S hd bs) hM0 hd vals hl hv).mono fun e w' hpost => ?_
  obtain ⟨v, hd1, rfl, hv1, hm⟩ := hpost
  refine ⟨v, rfl, ⟨hm.fr.os, hm.fr.tape, hm.fr.output, hm.fr.size, fun k hk _ => hm.fr.block k hk (fun h => h)⟩, ?_⟩
  rcases hb with hf | hf
  · refine hv1.ro_of.ext (Chg.refl w' (fun _ => False)) (fun _ h => h.elim) fun b _ hm => ?_
    exact .inl (hf b hm (hM' b hm))
  · exact hv1.ro_of.flat hf

def gone (gv : List Nat) : List (Nat × Option O) := gv.map fun i => (i, none)
theorem lk_gone {gv : List Nat} {i : Nat} {x : Option O} (h : lk (gone gv) i = some x) : x = none ∧ i ∈ gv := by
  induction gv with
  | nil => cases h
  | cons j gv ih =>
    simp only [gone, List.map_cons, lk] at h
    by_cases hj : j = i
    · subst hj; simp at h; exact ⟨h.symm, by simp⟩
    · rw [beq_ne hj] at h
      obtain ⟨h1, h2⟩ := ih h
      exact ⟨h1, by simp [h2]⟩
theorem gone_lk {gv : List Nat} {i : Nat} (h : i ∈ gv) : lk (gone gv) i = some none := by
  induction gv with
  | nil => cases h
  | cons j gv ih =>
    simp only [gone, List.map_cons, lk]
    by_cases hj : j = i
    · subst hj; simp
    · rw [beq_ne hj]
      exact ih ((List.mem_cons.1 h).resolve_left (fun e => hj e.symm))

theorem Trip.callR {o : Oper} {gs : List (Nat × V)} {c : Prop} {rs : List (Nat × V)} {ro : List (Nat × O)} {f : FuncId} {args : List V} {r : A} {bs : List Nat} {v : V}
    (hw : ∀ (C : Ctx) (S : St) (hd : Nat → Value) (a : Act) (w : World), Sat' C S hd a w → (∀ p, p ∈ gs → S.gs p.1 = some p.2) → (Region.wanted o (yielded ops a.tmps) = true ↔ c))
    (gv : List Nat) (hC : c → AC P f args (.ro r) []) (hb : (∀ i, i ∈ bs → i ∈ gv) ∨ flatA r = true) (hv : (c ∧ v = .ro r) ∨ v = .may c (.ro r))
    (h : c → ∀ (C : Ctx) (S : St) (hd : Nat → Value) (a : Act) (w : World), Sat' C S hd a w → (∀ p, p ∈ rs → S.gs p.1 = some p.2) → (∀ p, p ∈ ro → S.go p.1 = some p.2) →
      ∃ vals : List Value, (execOp a.eval o).run P w = .ok (.enter f ⟨vals⟩) w ∧ args.length = vals.length ∧
        ∀ (i : Nat) (x : V) (v : Value), args[i]? = some x → vals[i]? = some v → VV w (Lent C S hd bs) hd x v)
    (hlv : c → ∀ (C : Ctx) (S : St) (hd : Nat → Value) (a : Act) (w : World), Sat' C S hd a w → (∀ p, p ∈ ro → S.go p.1 = some p.2) → ∀ i, i ∈ bs → ∃ x, S.go i = some x) :
    Trip P ops o ⟨gs, c, rs, ro, v, gone gv, []⟩ := by
  intro C S a w ⟨hd, hs⟩ hp hdst
  have hww := hw C S hd a w hs hp.gs
  have hMM : ∀ b, (C.M0 b ∨ Ow ((⟨gs, c, rs, ro, v, gone gv, []⟩ : Eff).app o.dst S) hd b) → MM C S hd b := by
    rintro b (hm | ⟨id, x, hx, hb⟩)
    · exact .inl hm
    · rw [app_go] at hx
      split at hx
      · rename_i y hy
        obtain ⟨rfl, _⟩ := lk_gone hy
        cases hx
      · exact .inr ⟨id, x, hx, hb⟩
  have hMg : ∀ b, (C.M0 b ∨ Ow ((⟨gs, c, rs, ro, v, gone gv, []⟩ : Eff).app o.dst S) hd b) → b < w.heap.size → ∀ i, i ∈ gv → (∃ x, S.go i = some x) → blk (hd i) ≠ some b := by
    rintro b hm hlt i hi ⟨x, hx⟩ hbk
    rcases hm with hm | ⟨id, y, hy, hb⟩
    · have h1 := C.hM0 b hm
      rcases (hs.lv b ⟨i, x, hx, hbk⟩).1 with h2 | h2
      · omega
      · exact h1.2 h2
    · rw [app_go] at hy
      split at hy
      · rename_i z hz
        obtain ⟨rfl, _⟩ := lk_gone hz
        cases hy
      · rename_i hz
        have := hs.inj id i y x b hy hx hb hbk
        subst this
        rw [gone_lk hi] at hz; cases hz
  have fin : ∀ (u : Value) (w' : World), Chg w w' (fun _ => False) → VV w' (fun b => C.M0 b ∨ Ow ((⟨gs, c, rs, ro, v, gone gv, []⟩ : Eff).app o.dst S) hd b) hd v u → Sat C ((⟨gs, c, rs, ro, v, gone gv, []⟩ : Eff).app o.dst S) (a.put o.dst u) w' := fun u w' hch hv => by
    refine ⟨hd, hs.step ⟨gs, c, rs, ro, v, gone gv, []⟩ hp o.dst u hdst (fun _ => False) hch (fun _ h => h.elim) (fun _ _ => rfl) (fun _ => hv) (fun id x h => by cases (lk_gone h).1)
      (fun id x b h => by cases (lk_gone h).1) (fun _ _ _ _ _ h => by cases (lk_gone h).1)⟩
  unfold stepOp
  by_cases hc : c
  · rw [if_pos (hww.2 hc)]
    obtain ⟨vals, hr, hl, hvv⟩ := h hc C S hd a w hs (hp.rs hc) (hp.ro hc)
    simp only [Oper.wp, hr, Oper.upon]
    have hbs : ∀ i, i ∈ bs → ∃ x, S.go i = some x := hlv hc C S hd a w hs (hp.ro hc)
    refine (call_core hs (fun b => C.M0 b ∨ Ow ((⟨gs, c, rs, ro, v, gone gv, []⟩ : Eff).app o.dst S) hd b) (hC hc) hl hvv (hb.imp (fun h b hm hlt => ⟨hMM b hm, fun i hi => hMg b hm hlt i (h i hi) (hbs i hi)⟩) id)
      (fun b hm => (hMM b hm).elim (fun h => Nat.lt_of_lt_of_le (C.hM0 b h).1 hs.fr.size) (fun h => (hs.lv b h).2))).mono fun e w' hpost => ?_
    obtain ⟨u, rfl, hch, hvr⟩ := hpost
    refine fin u w' hch ?_
    rcases hv with ⟨_, rfl⟩ | rfl
    · exact .ro _ _ hvr
    · exact .may _ _ _ (fun _ => .ro _ _ hvr) (fun h => absurd hc h)
  · rw [if_neg (fun h => hc (hww.1 h))]
    refine fin undef w (Chg.refl w _) ?_
    rcases hv with ⟨h, _⟩ | rfl
    · exact absurd h hc
    · exact .may _ _ _ (fun h => absurd h hc) (fun _ => rfl)

theorem ers_vals {f : FuncId} {xs : Array Operand} {ts : Array TypeId} {args : List V} {rs : List (Nat × V)} {ro : List (Nat × O)} {bs : List Nat} (hF : CF P f) (hx : Ers S xs.toList args rs ro bs)
    {g : Option (Nat × Bool)} (C : Ctx) (S : St) (hd : Nat → Value) (a : Act) (w : World) (hs : Sat' C S hd a w) (h2 : ∀ p, p ∈ rs → S.gs p.1 = some p.2) (h3 : ∀ p, p ∈ ro → S.go p.1 = some p.2) :
      ∃ vals : List Value, (execOp a.eval ⟨d, .call ⟨.value (.func f), xs, ts⟩, ty, pos, af, g⟩).run P w = .ok (.enter f ⟨vals⟩) w ∧ args.length = vals.length ∧
        ∀ (i : Nat) (x : V) (v : Value), args[i]? = some x → vals[i]? = some v → VV w (Lent C S hd bs) hd x v := by
  have he := (hx.of h2 h3).vv hs bs (fun _ h => h)
  refine ⟨xs.toList.map a.eval, ?_, he.1, he.2⟩
  rw [run_resolve_func rfl hF]
  congr 2
  apply Array.ext'; simp

theorem ers_live {xs : List Operand} {args : List V} {rs : List (Nat × V)} {ro : List (Nat × O)} {bs : List Nat} (hx : Ers S xs args rs ro bs) {T : St} (h3 : ∀ p, p ∈ ro → T.go p.1 = some p.2) :
    ∀ i, i ∈ bs → ∃ x, T.go i = some x := by
  induction hx with
  | n => intro i hi; cases hi
  | c _ _ ih => exact ih h3
  | b _ _ _ ih =>
    intro i hi
    rcases List.mem_cons.1 hi with rfl | hi
    · exact ⟨_, h3 (_, _) (List.mem_cons_self ..)⟩
    · exact ih (fun p hp => h3 p (by simp [hp])) i hi
  | w _ _ _ _ ih =>
    intro i hi
    rcases List.mem_cons.1 hi with rfl | hi
    · exact ⟨_, h3 (_, _) (List.mem_cons_self ..)⟩
    · exact ih (fun p hp => h3 p (by simp [hp])) i hi
  | p _ _ _ _ _ ih =>
    intro i hi
    rcases List.mem_cons.1 hi with rfl | hi
    · exact ⟨_, h3 (_, _) (List.mem_cons_self ..)⟩
    · exact ih (fun p hp => h3 p (by simp [hp])) i hi

/-- lists that are given away with the call -/
def subB (bs gv : List Nat) : Bool := bs.all fun i => gv.any fun j => Nat.beq i j
theorem subB_spec {bs gv : List Nat} (h : subB bs gv = true) : ∀ i, i ∈ bs → i ∈ gv := fun i hi => by
  have := List.all_eq_true.1 h i hi
  obtain ⟨j, hj, e⟩ := List.any_eq_true.1 this
  rw [Nat.eq_of_beq_eq_true e]; exact hj

/-- a call -/
theorem cl (gv : List Nat) {f : FuncId} {xs : Array Operand} {ts : Array TypeId} {args : List V} {r : A} {rs : List (Nat × V)} {ro : List (Nat × O)} {bs : List Nat} (hF : CF P f) (hC : AC P f args (.ro r) [])
    (hx : Ers S xs.toList args rs ro bs) (hb : subB bs gv = true ∨ flatA r = true)
    (D : Der P ops ((⟨[], True, rs, ro, .ro r, gone gv, []⟩ : Eff).app d S) os es S') :
    Der P ops S (⟨d, .call ⟨.value (.func f), xs, ts⟩, ty, pos, af, none⟩ :: os) (⟨[], True, rs, ro, .ro r, gone gv, []⟩ :: es) S' :=
  .cons (Trip.callR (o := ⟨d, .call ⟨.value (.func f), xs, ts⟩, ty, pos, af, none⟩) (bs := bs) (fun _ _ _ _ _ _ _ => by simp [Region.wanted]) gv (fun _ => hC) (hb.imp subB_spec id) (.inl ⟨trivial, rfl⟩) (fun _ => ers_vals hF hx) (fun _ _ _ _ _ _ _ h3 => ers_live hx h3))
    ⟨fun _ h => (List.not_mem_nil h).elim, fun _ => hx.rd.1, fun _ => hx.rd.2, fun _ h => (List.not_mem_nil h).elim⟩ D

/-- a call, guarded -/
theorem cg {f : FuncId} {xs : Array Operand} {ts : Array TypeId} {args : List V} {r : A} {rs : List (Nat × V)} {ro : List (Nat × O)} {bs : List Nat} {j t : Nat} {want b : Bool} (hj : gslot ops j = some t)
    (hgb : S.gs t = some (.ro (.bool b))) (hF : CF P f) (hC : b = want → AC P f args (.ro r) [])
    (hx : b = want → Ers S xs.toList args rs ro bs) (hb : subB bs [] = true ∨ flatA r = true)
    (D : Der P ops ((ge t b want rs ro (.ro r)).app d S) os es S') :
    Der P ops S (⟨d, .call ⟨.value (.func f), xs, ts⟩, ty, pos, af, some (j, want)⟩ :: os) (ge t b want rs ro (.ro r) :: es) S' := by
  refine .cons (Trip.callR (o := ⟨d, .call ⟨.value (.func f), xs, ts⟩, ty, pos, af, some (j, want)⟩) (bs := bs) (fun C S2 hd a w hs h2 => ?_) [] hC (hb.imp subB_spec id) (.inr rfl) (fun hc => ers_vals hF (hx hc)) (fun hc _ _ _ _ _ _ h3 => ers_live (hx hc) h3))
    ⟨fun p hp => by simp [ge] at hp; subst hp; exact hgb, fun hc => (hx hc).rd.1, fun hc => (hx hc).rd.2, fun _ h => (List.not_mem_nil h).elim⟩ D
  exact wanted_iff hs hj (h2 (t, .ro (.bool b)) (by simp))

/-- a call, guarded by what is guarded itself -/
theorem cgm {f : FuncId} {xs : Array Operand} {ts : Array TypeId} {args : List V} {r : A} {rs : List (Nat × V)} {ro : List (Nat × O)} {bs : List Nat} {j t : Nat} {want b : Bool} {c : Prop} (hj : gslot ops j = some t)
    (hgb : S.gs t = some (.may c (.ro (.bool b)))) (hF : CF P f) (hC : c ∧ b = want → AC P f args (.ro r) [])
    (hx : c ∧ b = want → Ers S xs.toList args rs ro bs) (hb : subB bs [] = true ∨ flatA r = true)
    (D : Der P ops ((gme t c b want rs ro (.ro r)).app d S) os es S') :
    Der P ops S (⟨d, .call ⟨.value (.func f), xs, ts⟩, ty, pos, af, some (j, want)⟩ :: os) (gme t c b want rs ro (.ro r) :: es) S' := by
  refine .cons (Trip.callR (o := ⟨d, .call ⟨.value (.func f), xs, ts⟩, ty, pos, af, some (j, want)⟩) (bs := bs) (fun C S2 hd a w hs h2 => ?_) [] hC (hb.imp subB_spec id) (.inr rfl) (fun hc => ers_vals hF (hx hc)) (fun hc _ _ _ _ _ _ h3 => ers_live (hx hc) h3))
    ⟨fun p hp => by simp [gme] at hp; subst hp; exact hgb, fun hc => (hx hc).rd.1, fun hc => (hx hc).rd.2, fun _ h => (List.not_mem_nil h).elim⟩ D
  exact wanted_iff_may hs hj (h2 (t, .may c (.ro (.bool b))) (by simp))

/-! further operations -/

theorem run_min2 {ts : Array TypeId} {t : TypeId} {k : IntKind} {x y : Int} {w : World} : (Builtin.min_ ts t #[.int k x, .int k y]).run P w = .ok (.int k (if y < x then y else x)) w := by
  simp [Builtin.min_, Builtin.min2]
theorem run_max2 {ts : Array TypeId} {t : TypeId} {k : IntKind} {x y : Int} {w : World} : (Builtin.max_ ts t #[.int k x, .int k y]).run P w = .ok (.int k (if y > x then y else x)) w := by
  simp [Builtin.max_, Builtin.max2]

def imin (x y : Int) : Int := if y < x then y else x
def imax (x y : Int) : Int := if y > x then y else x

theorem mn {ts : Array TypeId} {x y : Operand} {k : IntKind} {m n : Int} {r1 r2 : List (Nat × V)} (hx : Er S x (.ro (.int k m)) r1) (hy : Er S y (.ro (.int k n)) r2) :
    OpV P S (.call ⟨.builtin .min, #[x, y], ts⟩) (r1 ++ r2) [] (.ro (.int k (imin m n))) :=
  .two hx hy fun w M hd a d ty pos af g h1 h2 => by
    obtain ⟨e1, a1, b1⟩ := h1.int_inv
    obtain ⟨e2, a2, b2⟩ := h2.int_inv
    refine ⟨.int k (imin m n), ?_, .ro _ _ (.int _ _ ?_ ?_)⟩
    · simp [execOp, resolve, invoke, builtin, e1, e2, run_min2, imin]
    all_goals unfold imin; split <;> assumption

theorem mx {ts : Array TypeId} {x y : Operand} {k : IntKind} {m n : Int} {r1 r2 : List (Nat × V)} (hx : Er S x (.ro (.int k m)) r1) (hy : Er S y (.ro (.int k n)) r2) :
    OpV P S (.call ⟨.builtin .max, #[x, y], ts⟩) (r1 ++ r2) [] (.ro (.int k (imax m n))) :=
  .two hx hy fun w M hd a d ty pos af g h1 h2 => by
    obtain ⟨e1, a1, b1⟩ := h1.int_inv
    obtain ⟨e2, a2, b2⟩ := h2.int_inv
    refine ⟨.int k (imax m n), ?_, .ro _ _ (.int _ _ ?_ ?_)⟩
    · simp [execOp, resolve, invoke, builtin, e1, e2, run_max2, imax]
    all_goals unfold imax; split <;> assumption

/-- == and != on bools -/
def bq (op : BinOp) (x y : Bool) : Bool := match op with | .eql => x == y | _ => !(x == y)
def isEq : BinOp → Bool | .eql | .neq => true | _ => false
theorem be2 {op : BinOp} {t u : TypeId} {x y : Operand} {m n : Bool} {r1 r2 : List (Nat × V)} (hT : P.underlying t = some .bool) (hx : Er S x (.ro (.bool m)) r1) (hy : Er S y (.ro (.bool n)) r2) (ho : isEq op = true) :
    OpV P S (.binOp op t x y u) (r1 ++ r2) [] (.ro (.bool (bq op m n))) :=
  .two hx hy fun w M hd a d ty pos af g h1 h2 => by
    have e1 := h1.bool_inv
    have e2 := h2.bool_inv
    refine ⟨.bool (bq op m n), ?_, .ro _ _ (.bool _)⟩
    have he : (Op.equal t (.bool m) (.bool n)).run P w = .ok (m == n) w := by
      have h : ∀ d, (Op.equalIn (d + 1) t (.bool m) (.bool n)).run P w = .ok (m == n) w := fun d => by
        simp only [Op.equalIn, Sem.run_bind, run_underlying hT, Result.andThen_ok, Sem.run_pure]
      exact h 9999
    cases op <;> simp [isEq] at ho <;> simp [execOp, e1, e2, eqGuard_at_bool, binOp, he, bq]

/-- one text behind another -/
def cat (s t : List UInt8) : Option (List UInt8) := if s.length + t.length ≤ 4294967296 then some (s ++ t) else none
theorem sa {t u : TypeId} {x y : Operand} {m n q : List UInt8} {r1 r2 : List (Nat × V)} (hx : Er S x (.ro (.str m)) r1) (hy : Er S y (.ro (.str n)) r2) (hq : cat m n = some q) :
    OpV P S (.binOp .add t x y u) (r1 ++ r2) [] (.ro (.str q)) :=
  .two hx hy fun w M hd a d ty pos af g h1 h2 => by
    obtain ⟨e1, _⟩ := h1.str_inv
    obtain ⟨e2, _⟩ := h2.str_inv
    have hl : m.length + n.length ≤ 4294967296 ∧ q = m ++ n := by
      unfold cat at hq
      split at hq
      · exact ⟨‹_›, (Option.some.inj hq).symm⟩
      · cases hq
    obtain ⟨hl, rfl⟩ := hl
    refine ⟨.string ⟨(m ++ n).toArray⟩, ?_, .ro _ _ (.str _ (by unfold maxLen; simp; omega))⟩
    have hlt : ¬ (IntKind.i64.max < ((m.length + n.length : Nat) : Int)) := by rw [Go.IntKind.max_i64]; omega
    have hap : (ByteArray.mk m.toArray) ++ (ByteArray.mk n.toArray) = ⟨(m ++ n).toArray⟩ := by
      apply ByteArray.ext
      simp [ByteArray.data_append]
    have hs1 : (ByteArray.mk m.toArray).size = m.length := by simp [ByteArray.size]
    have hs2 : (ByteArray.mk n.toArray).size = n.length := by simp [ByteArray.size]
    simp only [execOp, e1, e2, Sem.run_bind, eqGuard_at_string, Sem.run_pure, Result.andThen_ok, binOp, Op.stringOp, hs1, hs2, gt_iff_lt, hlt, if_false, hap]

/-- a field of a struct's value -/
theorem fd {t f off n : Nat} {ft : TypeId} {ag : Bool} {x : Operand} {vx v : V} {cs : List V} {rs : List (Nat × V)} (hF : FF P t f off ft) (hT : TF P ft ag n) (hx : Er S x vx rs) (hc : aggs vx = some cs) (hv : ldV ag n off cs = some v) :
    OpV P S (.field t x f) rs [] v :=
  .one hx fun w M hd a d ty pos af g h1 => by
    obtain ⟨vs, e, hl, ho, hvv⟩ := h1.aggs hc
    obtain ⟨fs, fdd, hu, hf, rfl, rfl⟩ := hF.h
    obtain ⟨r, hr, h0⟩ := ldV_drop hv
    obtain ⟨rfl, hoff⟩ := dropO_eq hr
    have hpart : ∃ u, (part fdd.type ⟨vs⟩ fdd.offset).run P w = .ok u w ∧ VV w M hd v u := by
      simp only [ldV, dropO] at h0
      cases ag with
      | false =>
        simp only [cond_false] at h0
        rw [nth_eq, List.getElem?_drop, Nat.add_zero] at h0
        have hlt : fdd.offset < vs.length := by rw [← hl]; exact (List.getElem?_eq_some_iff.1 h0).1
        refine ⟨vs[fdd.offset], ?_, hvv _ v _ h0 (List.getElem?_eq_getElem hlt)⟩
        simp [part, hT.run_isAgg w, hlt]
      | true =>
        simp only [cond_true] at h0
        cases ht : takeO n (cs.drop fdd.offset) with
        | none => rw [ht] at h0; cases h0
        | some l =>
          rw [ht] at h0
          obtain ⟨rfl, hn⟩ := takeO_eq ht
          simp only [List.length_drop] at hn
          refine ⟨.agg ((vs.drop fdd.offset).take n).toArray, ?_, ?_⟩
          · simp only [part, Sem.run_bind, hT.run_isAgg w, Result.andThen_ok, if_true, hT.run_sizeOf w, Sem.run_pure]
            congr 2
            apply Array.ext'
            simp [List.extract_eq_take_drop]
          · have hagg : VV w M hd (.agg ((cs.drop fdd.offset).take n)) (.agg ((vs.drop fdd.offset).take n).toArray) := by
              refine .agg _ _ (by simp [hl]) (fun i v hi => ?_) (fun i a v hi hvi => ?_)
              · rw [List.getElem?_take] at hi
                split at hi
                · rw [List.getElem?_drop] at hi; exact ho _ v hi
                · cases hi
              · rw [List.getElem?_take] at hi hvi
                split at hi
                · rw [if_pos ‹_›] at hvi
                  rw [List.getElem?_drop] at hi hvi
                  exact hvv _ a v hi hvi
                · cases hi
            have hm := hagg.mkAgg
            unfold mkAgg at hm
            cases hr : ros ((cs.drop fdd.offset).take n) with
            | some l' =>
              simp only [hr, Option.some.injEq] at h0 hm
              subst h0; exact hm
            | none =>
              simp only [hr, Option.some.injEq] at h0 hm
              subst h0; exact hm
    obtain ⟨u, hru, hvu⟩ := hpart
    refine ⟨u, ?_, hvu⟩
    simp only [execOp, e, Instr.field, Sem.run_bind, run_underlying hu, Result.andThen_ok, hf, asAgg, Sem.run_pure, hru]

/-- a struct's fields: where each one lies, and how many cells it has -/
structure BF (P : Program) (t : TypeId) (pl : List (Nat × Nat)) : Prop where
  h : ∃ fs, P.underlying t = some (.struct fs) ∧ fs.toList.map (fun f => (f.offset, (P.info? f.type).map (·.size))) = pl.map (fun p => (p.1, some p.2))

theorem run_places {fs : List Field} {pl : List (Nat × Nat)} {w : World} (h : fs.map (fun f => (f.offset, (P.info? f.type).map (·.size))) = pl.map (fun p => (p.1, some p.2))) :
    (fs.mapM (fun f => (do pure (f.offset, ← Go.sizeOf f.type) : Sem (Nat × Nat)))).run P w = .ok pl w := by
  induction fs generalizing pl with
  | nil => cases pl <;> simp at h ⊢
  | cons f fs ih =>
    cases pl with
    | nil => simp at h
    | cons p pl =>
      obtain ⟨p1, p2⟩ := p
      simp only [List.map_cons, List.cons.injEq, Prod.mk.injEq] at h
      obtain ⟨⟨rfl, h2⟩, h3⟩ := h
      obtain ⟨i, hi, rfl⟩ := Option.map_eq_some_iff.1 h2
      simp only [List.mapM_cons, Sem.run_bind, Go.sizeOf, typeInfo, run_program, Result.andThen_ok, hi, Sem.run_pure] at ih ⊢
      rw [ih h3]
      simp

/-- the parts of a struct's literal, laid into its cells -/
inductive BParts (S : St) (pl : List (Nat × Nat)) : List (Nat × Operand) → List V → List V → List (Nat × V) → Prop
  | n {cs : List V} : BParts S pl [] cs cs []
  | c {f off n : Nat} {x : Operand} {v : V} {r rs : List (Nat × V)} {xs zs zs' cs : List V} {ps : List (Nat × Operand)} (hf : nth pl f = some (off, n)) (hx : Er S x v r) (hc : cellsV v = some xs)
      (hn : Nat.beq xs.length n = true) (hs : setO off xs zs = some zs') (hp : BParts S pl ps zs' cs rs) : BParts S pl ((f, x) :: ps) zs cs (r ++ rs)

theorem BParts.rd {pl : List (Nat × Nat)} {ps : List (Nat × Operand)} {zs cs : List V} {rs : List (Nat × V)} (h : BParts S pl ps zs cs rs) : ∀ p, p ∈ rs → S.gs p.1 = some p.2 := by
  induction h with
  | n => simp
  | c _ hx _ _ _ _ ih => exact mem_app hx.rd ih
theorem BParts.of {pl : List (Nat × Nat)} {ps : List (Nat × Operand)} {zs cs : List V} {rs : List (Nat × V)} (h : BParts S pl ps zs cs rs) (hr : ∀ p, p ∈ rs → S'.gs p.1 = some p.2) : BParts S' pl ps zs cs rs := by
  induction h with
  | n => exact .n
  | c hf hx hc hn hs _ ih => exact .c hf (hx.of fun p hp => hr p (List.mem_append_left _ hp)) hc hn hs (ih fun p hp => hr p (List.mem_append_right _ hp))

theorem BParts.fill {C : Ctx} {S : St} {hd : Nat → Value} {a : Act} {w : World} (hs : Sat' C S hd a w) {pl : List (Nat × Nat)} {ps : List (Nat × Operand)} {zs cs : List V} {rs : List (Nat × V)} (h : BParts S pl ps zs cs rs) :
    ∀ vs : List Value, zs.length = vs.length → (∀ (i : Nat) (v : Value), vs[i]? = some v → v.oneCell' = true) → (∀ (i : Nat) (a : V) (v : Value), zs[i]? = some a → vs[i]? = some v → VV w (MM C S hd) hd a v) →
      ∃ us : List Value, Instr.fill (pl.toArray[·]?) vs.toArray (ps.map fun p => (p.1, a.eval p.2)) = some us.toArray ∧ cs.length = us.length ∧ (∀ (i : Nat) (v : Value), us[i]? = some v → v.oneCell' = true) ∧
        ∀ (i : Nat) (a : V) (v : Value), cs[i]? = some a → us[i]? = some v → VV w (MM C S hd) hd a v := by
  induction h with
  | n => intro vs hl ho hv; exact ⟨vs, by simp [Instr.fill], hl, ho, hv⟩
  | @c f off n x v r rs xs zs zs' cs ps hf hx hc hn hset _ ih =>
    intro vs hl ho hv
    obtain ⟨us, hus, hlu, hou, hvu⟩ := (hx.vv hs).cells hc
    obtain ⟨rfl, hoff⟩ := setO_eq hset
    have hn' : us.length = n := by rw [← hlu]; exact Nat.eq_of_beq_eq_true hn
    obtain ⟨ws, h1, h2, h3, h4⟩ := ih (vs.take off ++ us ++ vs.drop (off + us.length)) (by simp; omega) (splice_one (by omega) ho hou) (splice_rel hl hlu hoff hv hvu)
    refine ⟨ws, ?_, h2, h3, h4⟩
    rw [nth_eq] at hf
    have hus' : (a.eval x).cells = us.toArray := hus
    have hf' : (pl.toArray[f]? : Option (Nat × Nat)) = some (off, n) := by simpa using hf
    simp only [List.map_cons, Instr.fill, hf', hus']
    have hle : ¬ (us.toArray.size ≠ n ∨ off + us.toArray.size > vs.toArray.size) := by simp; omega
    rw [if_neg (by simpa using hle)]
    have := foldl_set (cells := vs.toArray) (off := off) (vs := us) (by simp; omega)
    rw [show (us.toArray : Array Value) = ⟨us⟩ from rfl, this]
    exact h1

def packA (cs : List V) : Option V := match ros cs with | some l => some (.ro (.agg l)) | none => some (.agg cs)

/-- a struct's literal -/
theorem bd {t : TypeId} {pl : List (Nat × Nat)} {ps : Array (Nat × Operand)} {zs cs : List V} {rs : List (Nat × V)} {v : V} (hB : BF P t pl) (hZ : ZF P t zs) (hp : BParts S pl ps.toList zs cs rs) (hv : packA cs = some v) :
    OpV P S (.build t ps) rs [] v := by
  refine ⟨hp.rd, fun _ h => (List.not_mem_nil h).elim, fun C S2 hd a w d ty pos af g hs h2 _ => ?_⟩
  obtain ⟨fs, hu, hpl⟩ := hB.h
  obtain ⟨z, hz, hrun⟩ := hZ.run
  obtain ⟨z1, z2, z3⟩ := zvs_ok (w := w) (M := MM C S2 hd) (hd := hd) hz
  obtain ⟨us, h1, h3, h4, h5⟩ := (hp.of h2).fill hs z.cells.toList z1 z2 z3
  have hpm : (fs.mapM (fun f => (do pure (f.offset, ← Go.sizeOf f.type) : Sem (Nat × Nat)))).run P w = .ok pl.toArray w := by
    rw [Array.mapM_eq_mapM_toList]
    simp only [Sem.run_map, run_places hpl, Result.andThen_ok]
  have hagg : VV w (MM C S2 hd) hd (.agg cs) (.agg us.toArray) := .agg cs us h3 h4 h5
  refine ⟨.agg us.toArray, ?_, ?_⟩
  · have h1' : Instr.fill (fun i => pl.toArray[i]?) z.cells (Array.map (fun x => (x.fst, a.eval x.snd)) ps).toList = some us.toArray := by simpa using h1
    simp only [execOp, Instr.build, Sem.run_bind, hrun, Result.andThen_ok, run_underlying hu, hpm, h1', Sem.run_pure]
  · have hm := hagg.mkAgg
    unfold mkAgg at hm
    unfold packA at hv
    cases hr : ros cs with
    | some l =>
      simp only [hr, Option.some.injEq] at hv hm
      subst hv; exact hm
    | none =>
      simp only [hr, Option.some.injEq] at hv hm
      subst hv; exact hm

end
end Xb
