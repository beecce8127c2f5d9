/- Own text: Core34. -/
import Derived.Test.YtemfkddlidfbfaaGreatCore33
set_option linter.all false
set_option linter.unusedVariables false
set_option linter.unusedSimpArgs false
set_option linter.unnecessarySimpa false
set_option linter.deprecated false
/-! A call that is lent boxes in which lists of one's own stand: these are hidden behind their values. -/
namespace Xb
open Go

def isSl : Value → Bool
  | .slice _ _ _ => true
  | _ => false
theorem sl_one {v : Value} (h : isSl v = true) : v.oneCell' = true := by cases v <;> simp_all [isSl, Value.oneCell']
theorem sl_plain {v : Value} (h : isSl v = true) : plain v = true := by cases v <;> simp_all [isSl, plain]
theorem arr_sl {w : World} {M : Nat → Prop} {hd : Nat → Value} {h : Value} {e : TypeId} {sz : Nat} {l : List (List A)} (H : OO w M hd h (.arr e sz l)) : isSl h = true := by
  cases H with
  | arr _ _ _ xs hr =>
    rcases hr.2 with ⟨hn, _⟩ | ⟨g, cap, cur, hh, _⟩
    · rw [hn]; rfl
    · rw [hh]; rfl

def hidV (ρ : Nat → Value) : V → A
  | .ro a => a
  | .own j => .raw (ρ j)
  | _ => .raw .nilFunc
def hidB (ρ : Nat → Value) (lz : List (Nat × List V)) : List (Nat × List A) := lz.map fun p => (p.1, p.2.map (hidV ρ))
def okH (js : List Nat) : V → Bool
  | .ro _ => true
  | .own j => inB j js
  | _ => false
def okHs (js : List Nat) (lz : List (Nat × List V)) : Bool := lz.all fun p => p.2.all (okH js)
theorem hid_keys (ρ : Nat → Value) (lz : List (Nat × List V)) : (hidB ρ lz).map (·.1) = lz.map (·.1) := by simp [hidB]
theorem kpB_hid (ρ : Nat → Value) (lz : List (Nat × List V)) (args : List V) (kp : List (Nat × V)) : kpB (hidB ρ lz) args kp = kpB (hidB (fun _ => .nilFunc) lz) args kp := by
  simp [kpB, hidB, List.all_map]; rfl
theorem okHs_spec {js : List Nat} {lz : List (Nat × List V)} (h : okHs js lz = true) (p : Nat × List V) (hp : p ∈ lz) : ∀ x, x ∈ p.2 → (∃ a, x = .ro a) ∨ ∃ j, x = .own j ∧ j ∈ js := by
  intro x hx
  have h1 := List.all_eq_true.1 (List.all_eq_true.1 h p hp) x hx
  cases x <;> simp [okH] at h1
  · exact .inl ⟨_, rfl⟩
  · exact .inr ⟨_, rfl, inB_spec h1⟩

theorem OO.hide {w : World} {M : Nat → Prop} {hd : Nat → Value} {h : Value} {cs : List V} {ρ : Nat → Value} {js : List Nat} (H : OO w M hd h (.box cs)) (hc : ∀ x, x ∈ cs → (∃ a, x = .ro a) ∨ ∃ j, x = .own j ∧ j ∈ js)
    (hj : ∀ j, j ∈ js → ρ j = hd j ∧ isSl (hd j) = true) : OO w M hd h (.box ((cs.map (hidV ρ)).map .ro)) := by
  cases H with
  | box _ vs e b hh hb hl ho hv =>
    refine .box _ vs e b hh hb (by simpa using hl) ho fun i a v ha hvi => ?_
    simp only [List.map_map, List.getElem?_map, Option.map_eq_some_iff, Function.comp] at ha
    obtain ⟨x, hx, rfl⟩ := ha
    have h1 := hv i x v hx hvi
    rcases hc x (List.mem_of_getElem? hx) with ⟨a, rfl⟩ | ⟨j, rfl, hjm⟩
    · exact h1
    · obtain ⟨e1, e2⟩ := hj j hjm
      rw [h1.own_inv.1]
      show VV w M hd (.ro (.raw (ρ j))) (hd j)
      rw [e1]
      exact .ro _ _ (.raw _ (sl_plain e2))
theorem OO.unhide {w : World} {M : Nat → Prop} {hd : Nat → Value} {h : Value} {cs : List V} {ρ : Nat → Value} {js : List Nat} (H : OO w M hd h (.box ((cs.map (hidV ρ)).map .ro))) (hc : ∀ x, x ∈ cs → (∃ a, x = .ro a) ∨ ∃ j, x = .own j ∧ j ∈ js)
    (hj : ∀ j, j ∈ js → ρ j = hd j ∧ isSl (hd j) = true) : OO w M hd h (.box cs) := by
  cases H with
  | box _ vs e b hh hb hl ho hv =>
    refine .box _ vs e b hh hb (by simpa using hl) ho fun i x v hx hvi => ?_
    have h1 := hv i (.ro (hidV ρ x)) v (by simp [List.getElem?_map, hx]) hvi
    rcases hc x (List.mem_of_getElem? hx) with ⟨a, rfl⟩ | ⟨j, rfl, hjm⟩
    · exact h1
    · obtain ⟨e1, e2⟩ := hj j hjm
      have h2 : VR w M (.raw (ρ j)) v := h1.ro_of
      cases h2 with
      | raw _ _ =>
        rw [e1]
        exact .own j (sl_one e2)

def woz (g : Nat → Nat) (lz : List (Nat × List V)) : List (Nat × Option O) := lz.map fun p => (g p.1, some (.box p.2))
theorem lk_woz {g : Nat → Nat} : ∀ {lo : List (Nat × List V)} {i : Nat} {y : Option O}, lk (woz g lo) i = some y → ∃ p, p ∈ lo ∧ i = g p.1 ∧ y = some (.box p.2)
  | [], i, y, h => by simp [woz, lk] at h
  | p :: lo, i, y, h => by
    simp only [woz, List.map_cons, lk] at h
    by_cases hj : g p.1 = i
    · subst hj; simp at h; exact ⟨p, by simp, rfl, h.symm⟩
    · rw [beq_ne hj] at h
      obtain ⟨q, h1, h2, h3⟩ := lk_woz (lo := lo) h
      exact ⟨q, by simp [h1], h2, h3⟩
theorem woz_lk {g : Nat → Nat} {ρ : Nat → Value} : ∀ {lo : List (Nat × List V)} {p : Nat × List A}, p ∈ hidB ρ lo → ∃ y, lk (woz g lo) (g p.1) = some y
  | q :: lo, p, h => by
    simp only [woz, List.map_cons, lk]
    by_cases hj : g q.1 = g p.1
    · rw [hj]; simp
    · rw [beq_ne hj]
      rcases List.mem_cons.1 h with e | h
      · exact absurd (by rw [e]) hj
      · exact woz_lk (lo := lo) h

/-- what a call wants of what it lends, some of it hidden -/
structure LZ (P : Program) (f : FuncId) (g : Nat → Nat) (args : List V) (lz : List (Nat × List V)) (js : List (Nat × O)) (pn : List Nat) (r : V) (ob : List (Nat × O)) (kp : List (Nat × V)) (lz' : List (Nat × List V)) : Prop where
  c : ∀ ρ : Nat → Value, (∀ j, isSl (ρ j) = true) → AY P f args (hidB ρ lz) pn r ob kp (hidB ρ lz')
  k : kpB (hidB (fun _ => .nilFunc) lz) args kp = true
  i : injB g (lz.map (·.1)) = true
  l : lz'.map (·.1) = lz.map (·.1)
  n : (lz.map (·.1)).Nodup
  m : r.onlyI (ob.map (·.1)) = true
  a : (ob.all fun p => p.2.isArr) = true
  s : (ob.all fun p => !inB p.1 (lz.map (·.1))) = true
  o1 : okHs (js.map (·.1)) lz = true
  o2 : okHs (js.map (·.1)) lz' = true
  j : (js.all fun p => p.2.isArr) = true

inductive LntZ (S : St) (g : Nat → Nat) : List (Nat × List V) → Prop
  | n : LntZ S g []
  | c {i : Nat} {cs : List V} {lo : List (Nat × List V)} (h : S.go (g i) = some (.box cs)) (hr : LntZ S g lo) : LntZ S g ((i, cs) :: lo)
inductive OwnZ (S : St) : List (Nat × O) → Prop
  | n : OwnZ S []
  | c {i : Nat} {x : O} {js : List (Nat × O)} (h : S.go i = some x) (hr : OwnZ S js) : OwnZ S ((i, x) :: js)
theorem LntZ.ok {S : St} {g : Nat → Nat} {lo : List (Nat × List V)} {js : List (Nat × O)} (h : LntZ S g lo) (hj : OwnZ S js) : ∀ p, p ∈ (lo.map fun p => (g p.1, O.box p.2)) ++ js → S.go p.1 = some p.2 := by
  intro p hp
  rcases List.mem_append.1 hp with hp | hp
  · induction h with
    | n => cases hp
    | @c i cs lo h hr ih =>
      rcases List.mem_cons.1 hp with rfl | hp
      · exact h
      · exact ih (List.mem_append_left _ hp) hp
  · clear h
    induction hj with
    | n => cases hp
    | @c i x js h hr ih =>
      rcases List.mem_cons.1 hp with rfl | hp
      · exact h
      · exact ih (List.mem_append_right _ hp) hp

section
variable {P : Program} {ops : Array Oper} {S S' : St} {os : List Oper} {es : List Eff}
variable {d : Option Nat} {ty : TypeId} {pos : String} {af : Array Edge}

def ezz (g : Nat → Nat) (K : Nat) (rs : List (Nat × V)) (lz lz' : List (Nat × List V)) (js : List (Nat × O)) (r : V) (ob : List (Nat × O)) : Eff :=
  ⟨[], True, rs, (lz.map fun p => (g p.1, .box p.2)) ++ js, r.ren K, woz g lz' ++ shift K ob, shiftI K ob⟩

theorem Trip.callZ {o : Oper} {rs : List (Nat × V)} {f : FuncId} {args : List V} {lz lz' : List (Nat × List V)} {js : List (Nat × O)} {pn : List Nat} {r : V} {ob : List (Nat × O)} {kp : List (Nat × V)} (g : Nat → Nat) (K : Nat)
    (L : LZ P f g args lz js pn r ob kp lz') (hg : o.guard = none)
    (h : ∀ (C : Ctx) (S : St) (hd : Nat → Value) (a : Act) (w : World), Sat' C S hd a w → (∀ p, p ∈ rs → S.gs p.1 = some p.2) →
      ∃ vals : List Value, (execOp a.eval o).run P w = .ok (.enter f ⟨vals⟩) w ∧ args.length = vals.length ∧
        ∀ (i : Nat) (x : V) (v : Value), args[i]? = some x → vals[i]? = some v → VV w (MM C S hd) hd (x.mp g) v) :
    Trip P ops o (ezz g K rs lz lz' js r ob) := by
  obtain ⟨hC0, hk0, hi0, hlo0, hnd0, hm1, hA, hS0, ho1, ho2, hJ⟩ := L
  intro C S a w ⟨hd, hs⟩ hp hdst
  have hro := hp.ro trivial
  have hgoj : ∀ j, j ∈ js.map (·.1) → (∃ e sz l, S.go j = some (.arr e sz l)) ∧ isSl (hd j) = true := by
    intro j hj
    obtain ⟨p, hp1, rfl⟩ := List.mem_map.1 hj
    have h1 := hro p (List.mem_append_right _ hp1)
    have h2 := List.all_eq_true.1 hJ p hp1
    cases hx : p.2 with
    | arr e sz l =>
      rw [hx] at h1
      exact ⟨⟨e, sz, l, h1⟩, arr_sl (hs.ob p.1 _ h1)⟩
    | _ => rw [hx] at h2; simp [O.isArr] at h2
  obtain ⟨ρ, hρ, hρj⟩ : ∃ ρ : Nat → Value, (∀ j, isSl (ρ j) = true) ∧ ∀ j, j ∈ js.map (·.1) → ρ j = hd j :=
    ⟨fun j => if isSl (hd j) = true then hd j else .slice none 0 0, fun j => by
      show isSl (if isSl (hd j) = true then hd j else .slice none 0 0) = true
      by_cases h : isSl (hd j) = true
      · rw [if_pos h]; exact h
      · rw [if_neg h]; rfl, fun j hj => if_pos (hgoj j hj).2⟩
  have hC := hC0 ρ hρ
  obtain ⟨lo, hlod⟩ : ∃ lo, lo = hidB ρ lz := ⟨_, rfl⟩
  obtain ⟨lo', hlod'⟩ : ∃ lo', lo' = hidB ρ lz' := ⟨_, rfl⟩
  have hk : kpB lo args kp = true := by rw [hlod, kpB_hid]; exact hk0
  have hi : injB g (lo.map (·.1)) = true := by rw [hlod, hid_keys]; exact hi0
  have hlo : lo'.map (·.1) = lo.map (·.1) := by rw [hlod, hlod', hid_keys, hid_keys]; exact hlo0
  have hnd : (lo.map (·.1)).Nodup := by rw [hlod, hid_keys]; exact hnd0
  have hS : (ob.all fun p => !inB p.1 (lo.map (·.1))) = true := by rw [hlod, hid_keys]; exact hS0
  rw [← hlod, ← hlod'] at hC
  unfold stepOp
  rw [if_pos (by simp [Region.wanted, hg])]
  obtain ⟨vals, hr, hl, hv⟩ := h C S hd a w hs (hp.rs trivial)
  simp only [Oper.wp, hr, Oper.upon]
  have hgoz : ∀ p, p ∈ lz → S.go (g p.1) = some (.box p.2) := fun p hpl => hro (g p.1, .box p.2) (List.mem_append_left _ (List.mem_map.2 ⟨p, hpl, rfl⟩))
  obtain ⟨bx, hbx⟩ : ∃ bx : Nat → O, ∀ i x, S.go (g i) = some x → bx i = x := ⟨fun i => match S.go (g i) with | some x => x | none => .box [], fun i x h => by simp only [h]⟩
  have hgo : ∀ p, p ∈ lo → S.go (g p.1) = some (bx p.1) := fun p hpl => by
    rw [hlod] at hpl
    obtain ⟨q, hq, rfl⟩ := List.mem_map.1 hpl
    have := hgoz q hq
    simp only
    rw [hbx _ _ this]; exact this
  have hoo : ∀ p, p ∈ lo → OO w (MM C S hd) hd (hd (g p.1)) (.box (p.2.map .ro)) := fun p hpl => by
    rw [hlod] at hpl
    obtain ⟨q, hq, rfl⟩ := List.mem_map.1 hpl
    exact (hs.ob (g q.1) _ (hgoz q hq)).hide (okHs_spec ho1 q hq) (fun j hj => ⟨hρj j hj, (hgoj j hj).2⟩)
  let X : Nat → Prop := fun b => ∃ p, p ∈ lo ∧ blk (hd (g p.1)) = some b
  let M0 : Nat → Prop := fun b => MM C S hd b ∧ ¬ X b
  have hsz : ∀ b, MM C S hd b → b < w.heap.size := fun b hb => hb.elim (fun h => Nat.lt_of_lt_of_le (C.hM0 b h).1 hs.fr.size) (fun h => (hs.lv b h).2)
  have hM : ∀ b, M0 b → b < w.heap.size ∧ ¬ X b := fun b hb => ⟨hsz b hb.1, hb.2⟩
  have hXM : ∀ b, X b → MM C S hd b := fun b ⟨p, hpl, hb⟩ => .inr ⟨g p.1, _, hgo p hpl, hb⟩
  have hin : ∀ b, MM (ctxX w X M0 hM 0 [] fun _ => undef) ⟨[], bxs lo⟩ (fun i => hd (g i)) b → MM C S hd b := by
    rintro b (hm | ⟨id, x, hx, hb⟩)
    · exact hm.1
    · obtain ⟨cs, h1, rfl⟩ := bxs_lk hx
      exact .inr ⟨g id, _, hgo (id, cs) h1, hb⟩
  have hargs : ∀ (i : Nat) (x : V) (v : Value), args[i]? = some x → vals[i]? = some v → VV w (MM (ctxX w X M0 hM 0 [] fun _ => undef) ⟨[], bxs lo⟩ (fun i => hd (g i))) (fun i => hd (g i)) x v :=
    fun i x v hx hvl => ((hv i x v hx hvl).ext (Chg.refl w (fun _ => False)) (fun _ h => h.elim) (fun b _ hm => hin b hm) (fun _ _ => rfl)).unmp rfl
  have hmem : Mem (ctxX w X M0 hM 0 [] fun _ => undef) (bxs lo) (fun i => hd (g i)) w := by
    refine ⟨fun id x hx => ?_, ?_, fun i1 i2 x1 x2 b h1 h2 hb1 hb2 => ?_, Chg.refl w _⟩
    · obtain ⟨cs, h1, rfl⟩ := bxs_lk hx
      have := hoo (id, cs) h1
      exact (OO.ext (x := (O.box (cs.map .ro)).mp g) (by rw [mp_ro]; exact this) (Chg.refl w (fun _ => False)) (fun _ h => h.elim) (fun b _ hm => hin b hm) (fun _ _ => rfl) (fun _ _ h => h)).unmp
    · rintro b ⟨id, x, hx, hb⟩
      obtain ⟨cs, h1, rfl⟩ := bxs_lk hx
      exact ⟨.inr ⟨(id, cs), h1, hb⟩, hsz b (hXM b ⟨(id, cs), h1, hb⟩)⟩
    · obtain ⟨c1, m1, rfl⟩ := bxs_lk h1
      obtain ⟨c2, m2, rfl⟩ := bxs_lk h2
      have := hs.inj (g i1) (g i2) _ _ b (hgo _ m1) (hgo _ m2) hb1 hb2
      exact injB_spec hi i1 i2 (List.mem_map.2 ⟨_, m1, rfl⟩) (List.mem_map.2 ⟨_, m2, rfl⟩) this
  refine (hC w X M0 hM (fun i => hd (g i)) vals hl hargs hmem).mono fun e w' hpost => ?_
  obtain ⟨v, hd1, rfl, hv1, hm, hkp⟩ := hpost
  show Sat C _ (a.put o.dst v) w'
  have hids : ∀ {i : Nat} {cs : List A}, (i, cs) ∈ lo' → ∃ cs0, (i, cs0) ∈ lo := by
    intro i cs hm'
    have : i ∈ lo'.map (·.1) := List.mem_map.2 ⟨_, hm', rfl⟩
    rw [hlo] at this
    obtain ⟨p, hp1, rfl⟩ := List.mem_map.1 this
    exact ⟨p.2, hp1⟩
  have hids' : ∀ {i : Nat} {cs : List A}, (i, cs) ∈ lo → ∃ cs0, (i, cs0) ∈ lo' := by
    intro i cs hm'
    have : i ∈ lo.map (·.1) := List.mem_map.2 ⟨_, hm', rfl⟩
    rw [← hlo] at this
    obtain ⟨p, hp1, rfl⟩ := List.mem_map.1 this
    exact ⟨p.2, hp1⟩
  -- the objects behind the call
  have hgoB : ∀ {i : Nat} {cs : List A}, (i, cs) ∈ lo' → (St.mk [] (bxs lo' ++ obs ob)).go i = some (.box (cs.map .ro)) := by
    intro i cs h1
    obtain ⟨cs2, h2, h3⟩ := lk_bxs (lo := lo') (i := i) (List.mem_map.2 ⟨_, h1, rfl⟩)
    have he : cs = cs2 := nodup_key (by rw [hlo]; exact hnd) h1 h2
    subst he
    have h4 : lk (bxs lo') i = some (some (.box (cs.map .ro))) := by
      unfold St.go at h3
      cases hy : lk (bxs lo') i with
      | none => simp only [hy] at h3; cases h3
      | some y => simp only [hy] at h3; rw [h3]
    simp only [St.go, lk_append, h4]
  have hgoO : ∀ {j : Nat} {x : O}, lk (obs ob) j = some (some x) → (St.mk [] (bxs lo' ++ obs ob)).go j = some x ∧ j ∉ lo.map (·.1) := by
    intro j x h1
    have hmem := lk_mem h1
    obtain ⟨p, hp1, e⟩ := List.mem_map.1 hmem
    have hj : j ∉ lo.map (·.1) := by
      intro hj
      have := List.all_eq_true.1 hS p hp1
      simp only [Prod.mk.injEq] at e
      rw [e.1] at this
      have hin : inB j (lo.map (·.1)) = true := List.any_eq_true.2 ⟨j, hj, by simp⟩
      rw [hin] at this; simp at this
    refine ⟨?_, hj⟩
    have hnone : lk (bxs lo') j = none := by
      cases hy : lk (bxs lo') j with
      | none => rfl
      | some y =>
        obtain ⟨q, hq, e⟩ := List.mem_map.1 (lk_mem hy)
        simp only [Prod.mk.injEq] at e
        exact absurd (by rw [← hlo]; exact List.mem_map.2 ⟨q, hq, e.1⟩) hj
    simp only [St.go, lk_append, hnone, h1]
  have hXin : ∀ b, X b → MM (ctxX w X M0 hM 0 [] fun _ => undef) ⟨[], bxs lo⟩ (fun i => hd (g i)) b := by
    rintro b ⟨p, hpl, hb⟩
    obtain ⟨cs, h1, h2⟩ := lk_bxs (lo := lo) (i := p.1) (List.mem_map.2 ⟨p, hpl, rfl⟩)
    exact .inr ⟨p.1, _, h2, hb⟩
  have hkeep : ∀ p, p ∈ lo → hd1 p.1 = hd (g p.1) := by
    intro p hpl
    obtain ⟨q, hq, x, hx, hpt⟩ := kpB_spec hk hpl
    have hlt : q.1 < vals.length := by rw [← hl]; exact (List.getElem?_eq_some_iff.1 hx).1
    have h2 := hkp q hq
    have h3 : (ctxX w X M0 hM 0 pn fun t => vals.getD t undef).pv q.1 = vals[q.1] := by
      show vals.getD q.1 undef = _
      rw [List.getD_eq_getElem?_getD, List.getElem?_eq_getElem hlt]; rfl
    rw [h3] at h2
    obtain ⟨b, b1, b2⟩ := pts_ok (X := X) (w := w) (w' := w') ⟨hm.fr.os, hm.fr.tape, hm.fr.output, hm.fr.size, hm.fr.block⟩ hXin (hargs q.1 x vals[q.1] hx (List.getElem?_eq_getElem hlt)) h2 p.1 hpt
    obtain ⟨_, _, _, e1, _⟩ := (hoo p hpl).box_inv
    obtain ⟨cs', m'⟩ := hids' (i := p.1) (cs := p.2) hpl
    obtain ⟨_, _, _, e2, _⟩ := (hm.ob p.1 _ (hgoB m')).box_inv
    have b1 : blk (hd (g p.1)) = some b := b1
    rw [e1] at b1 ⊢; rw [e2] at b2 ⊢
    simp only [blk, Option.some.injEq] at b1 b2
    rw [b1, b2]
  have hnX : ∀ b, C.M0 b → ¬ X b := by
    rintro b hm0 ⟨p, hpl, hb⟩
    have h1 := C.hM0 b hm0
    rcases (hs.lv b ⟨g p.1, _, hgo p hpl, hb⟩).1 with h2 | h2
    · omega
    · exact h1.2 h2
  let hd' : Nat → Value := fun i => if i ∈ shiftI K ob then hd1 (i - K) else hd i
  have hd'K : ∀ id, K + id ∈ shiftI K ob → hd' (K + id) = hd1 id := fun id hid => by
    simp only [hd', hid, if_true]; congr 1; omega
  have hfree : ∀ {i : Nat} {x : O}, S.go i = some x → i ∉ shiftI K ob := fun hx hm => by
    rw [free_go (hp.fr _ hm)] at hx; cases hx
  have hd'g : ∀ p, p ∈ lo → hd' (g p.1) = hd (g p.1) := fun p hpl => by
    simp only [hd', hfree (hgo p hpl), if_false]
  have hlw : ∀ {i : Nat} {y : Option O}, lk (woz g lz' ++ shift K ob) i = some y → (∃ p, p ∈ lo' ∧ i = g p.1 ∧ ∃ q, q ∈ lz' ∧ p = (q.1, q.2.map (hidV ρ)) ∧ y = some (.box q.2)) ∨ ∃ j x, i = K + j ∧ y = some (x.ren K) ∧ lk (obs ob) j = some (some x) ∧ i ∈ shiftI K ob := by
    intro i y hy
    rw [lk_append] at hy
    cases hz : lk (woz g lz') i with
    | some z =>
      rw [hz] at hy; simp only [Option.some.injEq] at hy; subst hy
      obtain ⟨q, q1, q2, q3⟩ := lk_woz hz
      exact .inl ⟨(q.1, q.2.map (hidV ρ)), by rw [hlod']; exact List.mem_map.2 ⟨q, q1, rfl⟩, q2, q, q1, rfl, q3⟩
    | none => rw [hz] at hy; exact .inr (lk_shift hy)
  have hmen : ∀ id, V.men id r = true → K + id ∈ shiftI K ob := fun id h => by
    have := V.onlyI_men hm1 h
    obtain ⟨p, hp, rfl⟩ := List.mem_map.1 this
    exact List.mem_map.2 ⟨p, hp, rfl⟩
  have hmenO : ∀ i x id, lk (obs ob) i = some (some x) → O.men id x = true → K + id ∈ shiftI K ob := fun i x id h hm' => by
    have h' := lk_mem h
    obtain ⟨p, hp, e⟩ := List.mem_map.1 h'
    have := List.all_eq_true.1 hA p hp
    simp only [Prod.mk.injEq, Option.some.injEq] at e
    rw [← e.2] at hm'
    cases hp2 : p.2 <;> rw [hp2] at this hm' <;> simp [O.isArr] at this
    simp [O.men] at hm'
  have hMM : ∀ b, b < w'.heap.size → (C.M0 b ∨ Ow ((ezz g K rs lz lz' js r ob).app o.dst S) hd' b) →
      MM (ctxX w X M0 hM 0 pn fun t => vals.getD t undef) ⟨[], bxs lo' ++ obs ob⟩ hd1 b := by
    rintro b _ (hb | ⟨id, x, hx, hbk⟩)
    · exact .inl ⟨.inl hb, hnX b hb⟩
    · rw [app_go] at hx
      split at hx
      · rename_i y hy
        subst hx
        rcases hlw (show lk (woz g lz' ++ shift K ob) id = some (some x) from hy) with ⟨p, hpl, rfl, q, hq1, hq2, hq3⟩ | ⟨j, x2, rfl, _, h3, h4⟩
        · obtain ⟨cs0, h0⟩ := hids (i := p.1) (cs := p.2) hpl
          refine .inr ⟨p.1, _, hgoB hpl, ?_⟩
          rw [hkeep (p.1, cs0) h0, ← hd'g (p.1, cs0) h0]; exact hbk
        · exact .inr ⟨j, x2, (hgoO h3).1, by rw [hd'K j h4] at hbk; exact hbk⟩
      · rename_i hnone
        have hni := hfree hx
        have hbk : blk (hd id) = some b := by simp only [hd', hni, if_false] at hbk; exact hbk
        refine .inl ⟨.inr ⟨id, x, hx, hbk⟩, ?_⟩
        rintro ⟨p, hpl, hb⟩
        have := hs.inj id (g p.1) _ _ b hx (hgo p hpl) hbk hb
        subst this
        obtain ⟨cs', h1⟩ := hids' (i := p.1) (cs := p.2) hpl
        obtain ⟨y, hy⟩ := woz_lk (g := g) (hlod' ▸ h1)
        have : lk (woz g lz' ++ shift K ob) (g p.1) = some y := by rw [lk_append, hy]
        exact absurd (hnone.symm.trans this) (by simp)
  refine ⟨hd', hs.step _ hp o.dst v hdst X ⟨hm.fr.os, hm.fr.tape, hm.fr.output, hm.fr.size, hm.fr.block⟩ (fun b hb => ?_) (fun id hid => ?_) (fun _ => ?_) (fun id x hx => ?_) (fun id x b hx hbk => ?_) (fun i1 i2 x1 x2 b h1 h2 hb1 hb2 => ?_)⟩
  · obtain ⟨p, hpl, hb⟩ := hb
    obtain ⟨cs', h1⟩ := hids' (i := p.1) (cs := p.2) hpl
    obtain ⟨y, hy⟩ := woz_lk (g := g) (hlod' ▸ h1)
    refine ⟨g p.1, _, y, hgo p hpl, hb, ?_⟩
    show lk (woz g lz' ++ shift K ob) (g p.1) = some y
    rw [lk_append, hy]
  · have : id ∉ shiftI K ob := hid
    simp only [hd', this, if_false]
  · exact (hv1.ext (Chg.refl w' (fun _ => False)) (fun _ h => h.elim) hMM (fun _ _ => rfl)).ren fun id hid => hd'K id (hmen id hid)
  · rcases hlw (show lk (woz g lz' ++ shift K ob) id = some (some x) from hx) with ⟨p, hpl, rfl, q, hq1, hq2, hq3⟩ | ⟨j, x2, rfl, hx2, h3, h4⟩
    · cases hq3
      subst hq2
      obtain ⟨cs0, h0⟩ := hids hpl
      have hob := hm.ob q.1 _ (hgoB hpl)
      rw [hkeep (q.1, cs0) h0] at hob
      rw [hd'g (q.1, cs0) h0]
      have hob2 := hob.ext (hd' := hd') (Chg.refl w' (fun _ => False)) (fun _ h => h.elim) hMM (fun id hmen => by rw [men_ro] at hmen; cases hmen) (fun _ _ h => h)
      refine hob2.unhide (okHs_spec ho2 q hq1) fun j hj => ?_
      obtain ⟨⟨_, _, _, hgj⟩, hsl⟩ := hgoj j hj
      have : hd' j = hd j := by simp only [hd', hfree hgj, if_false]
      rw [this]
      exact ⟨hρj j hj, hsl⟩
    · cases hx2
      rw [hd'K j h4]
      exact ((hm.ob j x2 (hgoO h3).1).ext (Chg.refl w' (fun _ => False)) (fun _ h => h.elim) hMM (fun _ _ => rfl) (fun _ _ h => h)).ren fun id hid => hd'K id (hmenO j x2 id h3 hid)
  · rcases hlw (show lk (woz g lz' ++ shift K ob) id = some (some x) from hx) with ⟨p, hpl, rfl, q, hq1, hq2, hq3⟩ | ⟨j, x2, rfl, _, h3, h4⟩
    · obtain ⟨cs0, h0⟩ := hids (i := p.1) (cs := p.2) hpl
      rw [hd'g (p.1, cs0) h0] at hbk
      obtain ⟨y, hy⟩ := woz_lk (g := g) (hlod' ▸ hpl)
      refine .inr ⟨g p.1, _, y, hgo (p.1, cs0) h0, hbk, ?_⟩
      show lk (woz g lz' ++ shift K ob) (g p.1) = some y
      rw [lk_append, hy]
    · rw [hd'K j h4] at hbk
      have := hm.lv b ⟨j, x2, (hgoO h3).1, hbk⟩
      refine .inl ⟨this.1.resolve_right (fun hX => ?_), this.2⟩
      obtain ⟨p, hpl, hb⟩ := hX
      obtain ⟨cs', h1⟩ := hids' (i := p.1) (cs := p.2) hpl
      have hb : blk (hd (g p.1)) = some b := hb
      rw [← hkeep p hpl] at hb
      have := hm.inj j p.1 _ _ b (hgoO h3).1 (hgoB h1) hbk hb
      exact (hgoO h3).2 (by rw [this]; exact List.mem_map.2 ⟨p, hpl, rfl⟩)
  · rcases hlw (show lk (woz g lz' ++ shift K ob) i1 = some (some x1) from h1) with ⟨p1, m1, rfl, _, _, _, _⟩ | ⟨j1, y1, rfl, _, h3, h4⟩ <;>
      rcases hlw (show lk (woz g lz' ++ shift K ob) i2 = some (some x2) from h2) with ⟨p2, m2, rfl, _, _, _, _⟩ | ⟨j2, y2, rfl, _, h5, h6⟩
    · obtain ⟨c1, n1⟩ := hids (i := p1.1) (cs := p1.2) m1
      obtain ⟨c2, n2⟩ := hids (i := p2.1) (cs := p2.2) m2
      rw [hd'g (p1.1, c1) n1] at hb1
      rw [hd'g (p2.1, c2) n2] at hb2
      exact hs.inj _ _ _ _ b (hgo (p1.1, c1) n1) (hgo (p2.1, c2) n2) hb1 hb2
    · obtain ⟨c1, n1⟩ := hids (i := p1.1) (cs := p1.2) m1
      rw [hd'g (p1.1, c1) n1, ← hkeep (p1.1, c1) n1] at hb1
      rw [hd'K j2 h6] at hb2
      have := hm.inj j2 p1.1 _ _ b (hgoO h5).1 (hgoB m1) hb2 hb1
      exact absurd (by rw [this]; exact List.mem_map.2 ⟨_, n1, rfl⟩) (hgoO h5).2
    · obtain ⟨c2, n2⟩ := hids (i := p2.1) (cs := p2.2) m2
      rw [hd'g (p2.1, c2) n2, ← hkeep (p2.1, c2) n2] at hb2
      rw [hd'K j1 h4] at hb1
      have := hm.inj j1 p2.1 _ _ b (hgoO h3).1 (hgoB m2) hb1 hb2
      exact absurd (by rw [this]; exact List.mem_map.2 ⟨_, n2, rfl⟩) (hgoO h3).2
    · rw [hd'K j1 h4] at hb1
      rw [hd'K j2 h6] at hb2
      rw [hm.inj j1 j2 y1 y2 b (hgoO h3).1 (hgoO h5).1 hb1 hb2]


theorem AY.lz {P : Program} {f : FuncId} {args : List V} {lz lz' : List (Nat × List V)} {js : List (Nat × O)} {pn : List Nat} {r : V} {ob : List (Nat × O)} {kp : List (Nat × V)} (g : Nat → Nat)
    (h : ∀ ρ : Nat → Value, AY P f args (hidB ρ lz) pn r ob kp (hidB ρ lz'))
    (k : kpB (hidB (fun _ => .nilFunc) lz) args kp = true) (i : injB g (lz.map (·.1)) = true) (l : lz'.map (·.1) = lz.map (·.1)) (n : nodB (lz.map (·.1)) = true) (m : r.onlyI (ob.map (·.1)) = true) (a : (ob.all fun p => p.2.isArr) = true)
    (s : (ob.all fun p => !inB p.1 (lz.map (·.1))) = true) (o1 : okHs (js.map (·.1)) lz = true) (o2 : okHs (js.map (·.1)) lz' = true) (j : (js.all fun p => p.2.isArr) = true) : LZ P f g args lz js pn r ob kp lz' :=
  ⟨fun ρ _ => h ρ, k, i, l, nodB_spec n, m, a, s, o1, o2, j⟩

/-- a call that lends boxes, with lists of one's own in them -/
theorem clz {f : FuncId} {xs : Array Operand} {ts : Array TypeId} {g : Nat → Nat} (K : Nat) {ys args : List V} {lz lz' : List (Nat × List V)} {js : List (Nat × O)} {pn : List Nat} {r : V} {ob : List (Nat × O)} {kp : List (Nat × V)}
    (hF : CF P f) (hC : LZ P f g args lz js pn r ob kp lz') (hx : Evs S xs.toList ys) (he : ys = args.map (V.mp g)) (hL : LntZ S g lz) (hJ : OwnZ S js) (hf : ((shiftI K ob).all S.free) = true)
    (D : Der P ops ((ezz g K (rds xs.toList ys) lz lz' js r ob).app d S) os es S') :
    Der P ops S (⟨d, .call ⟨.value (.func f), xs, ts⟩, ty, pos, af, none⟩ :: os) (ezz g K (rds xs.toList ys) lz lz' js r ob :: es) S' := by
  refine .cons (Trip.callZ (o := ⟨d, .call ⟨.value (.func f), xs, ts⟩, ty, pos, af, none⟩) g K hC rfl fun C S2 hd a w hs h2 => ?_)
    ⟨fun _ h => (List.not_mem_nil h).elim, fun _ => hx.rd, fun _ => hL.ok hJ, fun id hid => List.all_eq_true.1 hf id hid⟩ D
  have h3 := (hx.of h2).vv hs
  subst he
  refine ⟨xs.toList.map a.eval, ?_, by simpa using h3.1, fun i x v hx hv => h3.2 i (x.mp g) v (by simp [hx]) hv⟩
  rw [run_resolve_func rfl hF]
  congr 2
  apply Array.ext'; simp
end
end Xb
