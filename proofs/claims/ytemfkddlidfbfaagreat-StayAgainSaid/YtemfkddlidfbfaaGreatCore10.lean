/- Own text: Core10. -/
import Derived.Test.YtemfkddlidfbfaaGreatCore9
import Derived.Laws.OwnMore
import Derived.Laws.BytesArg
set_option linter.all false
set_option linter.unusedVariables false
set_option linter.unusedSimpArgs false
set_option linter.unnecessarySimpa false
set_option linter.deprecated false
/-! Lists: append, parts, literals, texts. -/
namespace Xb
open Go

/-- an element's type, for append -/
structure PF (P : Program) (t e : TypeId) (sz : Nat) : Prop where
  s : SF P t e sz
  i : ∃ i z, P.info? e = some i ∧ i.zero = some z ∧ i.size = sz ∧ z.cells.size = sz ∧ 0 < sz ∧ i.bytes ≤ 32768

/-- one list behind another, as long as that is short of 2^32 -/
def app {α : Type} (l m : List α) : Option (List α) := if l.length + m.length ≤ 4294967296 then some (l ++ m) else none
theorem app_eq {α : Type} {l m q : List α} (h : app l m = some q) : q = l ++ m ∧ l.length + m.length ≤ 4294967296 := by
  unfold app at h
  split at h
  · exact ⟨(Option.some.inj h).symm, ‹_›⟩
  · cases h

section
variable {P : Program} {w : World}

/-- what stands behind a slice -/
def Stands (w : World) (sz : Nat) (v : Value) (n : Nat) (xs : List Value) : Prop :=
  ∃ o cap, v = .slice o n cap ∧ xs.length = n * sz ∧ (o = none → n = 0) ∧ (∀ a, o = some a → ∀ (j : Nat) (u : Value), xs[j]? = some u → w.cell? (a.add j) = some u) ∧ ∀ (j : Nat) (u : Value), xs[j]? = some u → u.oneCell' = true

theorem flatten_len {sz : Nat} : ∀ {l : List (List A)}, (∀ cs, cs ∈ l → cs.length = sz) → l.flatten.length = l.length * sz
  | [], _ => by simp
  | x :: l, h => by
    simp only [List.flatten_cons, List.length_append, List.length_cons]
    rw [flatten_len (l := l) (fun cs hc => h cs (by simp [hc])), h x (by simp), Nat.add_mul]
    omega

theorem stands_VR {M : Nat → Prop} {sz : Nat} {l : List (List A)} {v : Value} (h : VR w M (.list sz l) v) :
    ∃ xs, Stands w sz v l.length xs ∧ (∀ cs, cs ∈ l → cs.length = sz) ∧ ∀ (i : Nat) (a : A) (u : Value), l.flatten[i]? = some a → xs[i]? = some u → VR w M a u := by
  cases h with
  | emp _ o cap hc => exact ⟨[], ⟨o, cap, rfl, by simp, fun _ => rfl, by simp, by simp⟩, by simp, by simp⟩
  | list _ _ b off cap vs h1 h2 hM hb hs hl hc ho hv =>
    refine ⟨vs, ⟨some ⟨b, off, none⟩, cap, rfl, by rw [← hl, flatten_len hs], (fun h => by cases h), fun a ha j u hj => ?_, ho⟩, hs, hv⟩
    cases ha
    rw [Addr.add_lit]; exact hc j u hj

theorem stands_own {M : Nat → Prop} {hd : Nat → Value} {e sz : Nat} {h : Value} {l : List (List A)} (H : OO w M hd h (.arr e sz l)) :
    ∃ xs, w.ownsRow 0 e sz h l.length xs ∧ Stands w sz h l.length xs ∧ (∀ cs, cs ∈ l → cs.length = sz) ∧ (∀ (i : Nat) (v : Value), xs[i]? = some v → v.oneCell' = true) ∧
      ∀ (i : Nat) (a : A) (u : Value), l.flatten[i]? = some a → xs[i]? = some u → VR w M a u := by
  cases H with
  | arr _ _ _ xs hr hs ho hv =>
    refine ⟨xs, hr, ?_, hs, ho, hv⟩
    rcases hr.2 with ⟨rfl, h0⟩ | ⟨g, cap, cur, rfl, h0, hg, hn, hm, hc, ht⟩
    · exact ⟨none, 0, by rw [h0], hr.1, fun _ => h0, (fun a ha => by cases ha), ho⟩
    · refine ⟨some ⟨g, 0, none⟩, cap, rfl, hr.1, (fun h => by cases h), fun a ha j u hj => ?_, ho⟩
      cases ha
      exact hr.cells  rfl j u hj

theorem run_app {t ty e : TypeId} {sz : Nat} (hP : PF P t e sz) {v : Value} {n : Nat} {xs : List Value} (hown : w.ownsRow 0 e sz v n xs) {y : Value} {m : Nat} {news : List Value}
    (hy : Stands w sz y m news) (hlen : n + m ≤ 4294967296) :
    ∃ v' w', (Builtin.append_ #[t, t] ty #[v, y]).run P w = .ok v' w' ∧ w'.ownsRow 0 e sz v' (n + m) (xs ++ news) ∧ w.grownBy w' v.ownBlock ∧
      (v'.ownBlock = v.ownBlock ∨ v'.ownBlock = some w.heap.size) := by
  obtain ⟨i, z, hi, hz, hsz, hzs, hpos, hby⟩ := hP.i
  obtain ⟨o, c, rfl, hl, ho, hc, h1⟩ := hy
  have hbytes : (n + m) * i.bytes ≤ 140737488355328 := by
    have := Nat.mul_le_mul hlen hby
    omega
  cases o with
  | none =>
    have hm0 := ho rfl
    subst hm0
    have hnews : news = [] := List.eq_nil_of_length_eq_zero (by simpa using hl)
    subst hnews
    have key : (Builtin.append_ #[t, t] ty #[v, .slice none 0 c]).run P w = .ok v w := by
      rcases hown.2 with ⟨rfl, rfl⟩ | ⟨g, cap, cur, rfl, _, _, hnc, _⟩
      · simp [Builtin.append_, run_underlying hP.s.u, Go.sizeOf, typeInfo, hi, Builtin.lenOf, Builtin.firstCells]
      · simp [Builtin.append_, run_underlying hP.s.u, Go.sizeOf, typeInfo, hi, Builtin.lenOf, Builtin.firstCells, hnc, storeCells]
    exact ⟨v, w, key, by simpa using hown, ⟨rfl, rfl, rfl, Nat.le_refl _, fun _ _ _ => rfl⟩, .inl rfl⟩
  | some a =>
    have hnews := hc a rfl
    have h1' : ∀ u, u ∈ news → u.oneCell' = true := fun u hu => by
      obtain ⟨j, hj⟩ := List.mem_iff_getElem?.1 hu
      exact h1 j u hj
    obtain ⟨v', w', hr, h2, h3, h4⟩ := run_append_own (P := P) (w := w) 0 t ty e i z sz i.bytes hP.s.u hi hz hsz rfl hzs hpos v n xs hown a m c news hl hnews h1' (by unfold maxLen; omega) hbytes (Nat.zero_le _)
    refine ⟨v', w', hr, h2, h3, ?_⟩
    subst hsz
    have hsmall : ((n + m : Nat) : Int) ≤ 9223372036854775807 := by omega
    rcases hown.2 with ⟨rfl, rfl⟩ | ⟨g, cap, cur, rfl, _, hg, hnc, _, hcs, htake⟩
    · by_cases hm : m = 0
      · subst hm
        have := h4.2 ⟨rfl, rfl⟩
        left; rw [this]
      · have hr' := run_append_nil (P := P) w t ty e i z hP.s.u hi hz a m c news hl hnews (by omega) (by omega) (by simp only [Nat.zero_add] at hbytes; omega)
        rw [hr'] at hr
        right
        cases hr
        rfl
    · by_cases hroom : n + m ≤ cap
      · have hfit : n * i.size + news.length ≤ cur.size := by rw [hl, hcs, ← Nat.add_mul]; exact Nat.mul_le_mul_right _ hroom
        have hr' := run_append_room (P := P) w t ty e i hP.s.u hi g n cap cur hg a m c news hl hnews h1' hroom hfit
        rw [hr'] at hr
        left
        cases hr
        rfl
      · have holds : ∀ j u, xs[j]? = some u → w.cell? ((⟨g, 0, none⟩ : Addr).add j) = some u := hown.cells  rfl
        have hr' := run_append_grow (P := P) w t ty e i z hP.s.u hi hz ⟨g, 0, none⟩ n cap xs hown.1 holds a m c news hl hnews (by omega) hsmall (growslice_fits (by omega) hbytes)
        rw [hr'] at hr
        right
        cases hr
        rfl

theorem rel_append {R : A → Value → Prop} {l m : List (List A)} {xs ys : List Value} (hl : l.flatten.length = xs.length)
    (h : ∀ (i : Nat) (a : A) (u : Value), l.flatten[i]? = some a → xs[i]? = some u → R a u) (h' : ∀ (i : Nat) (a : A) (u : Value), m.flatten[i]? = some a → ys[i]? = some u → R a u) :
    ∀ (i : Nat) (a : A) (u : Value), (l ++ m).flatten[i]? = some a → (xs ++ ys)[i]? = some u → R a u := by
  intro i a u ha hu
  rw [List.flatten_append] at ha
  by_cases hi : i < xs.length
  · rw [List.getElem?_append_left (by omega)] at ha
    rw [List.getElem?_append_left hi] at hu
    exact h i a u ha hu
  · rw [List.getElem?_append_right (by omega)] at ha
    rw [List.getElem?_append_right (by omega)] at hu
    rw [hl] at ha
    exact h' _ a u ha hu

theorem one_append {xs ys : List Value} (h : ∀ (i : Nat) (v : Value), xs[i]? = some v → v.oneCell' = true) (h' : ∀ (i : Nat) (v : Value), ys[i]? = some v → v.oneCell' = true) :
    ∀ (i : Nat) (v : Value), (xs ++ ys)[i]? = some v → v.oneCell' = true := by
  intro i v hv
  rw [List.getElem?_append] at hv
  split at hv
  · exact h i v hv
  · exact h' _ v hv
end

theorem ownBlock_blk {v : Value} {b : Nat} (h : v.ownBlock = some b) : blk v = some b := by
  cases v <;> simp [Value.ownBlock] at h
  rename_i o n c
  cases o <;> simp at h
  simp [blk, h]
theorem blk_ownBlock {w : World} {e sz n : Nat} {v : Value} {xs : List Value} {b : Nat} (hr : w.ownsRow 0 e sz v n xs) (h : blk v = some b) : v.ownBlock = some b := by
  rcases hr.2 with ⟨rfl, _⟩ | ⟨g, cap, cur, rfl, _⟩
  · cases h
  · exact h

section
variable {P : Program} {ops : Array Oper} {S S' : St} {os : List Oper} {es : List Eff}
variable {d : Option Nat} {ty : TypeId} {pos : String} {af : Array Edge} 

theorem run_append_op {x y : Operand} {t : TypeId} {a : Act} {w w' : World} {v' : Value} (h : (Builtin.append_ #[t, t] ty #[a.eval x, a.eval y]).run P w = .ok v' w') :
    (execOp a.eval ⟨d, .call ⟨.builtin .append, #[x, y], #[t, t]⟩, ty, pos, af, none⟩).run P w = .ok (.value v') w' := by
  simp only [execOp, resolve, invoke, builtin, Sem.run_bind, Sem.run_pure, Result.andThen_ok, List.map_toArray, List.map_cons, List.map_nil, h]

/-- the heart of append: to what is one's own, what stands behind y -/
theorem app_step {C : Ctx} {S2 : St} {hd : Nat → Value} {a : Act} {w : World} (hs : Sat' C S2 hd a w) {x y : Operand} {t e : TypeId} {sz i1 : Nat} (hP : PF P t e sz) {l m : List (List A)}
    (hx : a.eval x = hd i1) (hO : S2.go i1 = some (.arr e sz l)) {news : List Value} (hy : Stands w sz (a.eval y) m.length news) (hms : ∀ cs, cs ∈ m → cs.length = sz)
    (hmv : ∀ (i : Nat) (b : A) (u : Value), m.flatten[i]? = some b → news[i]? = some u → VR w (MM C S2 hd) b u) (hlen : l.length + m.length ≤ 4294967296) :
    ∃ (u : Value) (w' : World), (execOp a.eval ⟨d, .call ⟨.builtin .append, #[x, y], #[t, t]⟩, ty, pos, af, none⟩).run P w = .ok (.value u) w' ∧ Chg w w' (fun b => (hd i1).ownBlock = some b) ∧
      (∀ b, blk u = some b → blk (hd i1) = some b ∨ (w.heap.size ≤ b ∧ b < w'.heap.size)) ∧ u.oneCell' = true ∧
      ∀ M' : Nat → Prop, (∀ b, b < w.heap.size → M' b → MM C S2 hd b) → ∀ hd', OO w' M' hd' u (.arr e sz (l ++ m)) := by
  obtain ⟨xs, hown, _, hls, hlo, hlv⟩ := stands_own (hs.ob i1 _ hO)
  obtain ⟨u, w', hr, hown', hgr, hblk⟩ := run_app (P := P) (ty := ty) hP hown hy hlen
  have hone : ∀ (i : Nat) (v : Value), news[i]? = some v → v.oneCell' = true := by obtain ⟨_, _, _, _, _, _, h1⟩ := hy; exact h1
  have hchg : Chg w w' (fun b => (hd i1).ownBlock = some b) := ⟨hgr.os, hgr.tape, hgr.output, hgr.size, fun k hk hn => hgr.block k hk (fun e => hn e.symm)⟩
  refine ⟨u, w', run_append_op (by rw [hx]; exact hr), hchg, fun b hb => ?_, ?_, fun M' hM' hd' => ?_⟩
  · have hub := blk_ownBlock hown' hb
    rcases hblk with h | h
    · left; rw [h] at hub; exact ownBlock_blk hub
    · right
      rw [h] at hub; cases hub
      exact ⟨Nat.le_refl _, (hown'.lt _ h).2⟩
  · rcases hown'.2 with ⟨rfl, _⟩ | ⟨g, cap, cur, rfl, _⟩ <;> rfl
  · have hBM : ∀ b, (hd i1).ownBlock = some b → MM C S2 hd b := fun b hb => .inr ⟨i1, _, hO, ownBlock_blk hb⟩
    refine .arr e sz (l ++ m) (xs ++ news) (by rw [List.length_append]; exact hown') (fun cs hc => (List.mem_append.1 hc).elim (hls cs) (hms cs)) (one_append hlo hone) ?_
    exact rel_append (by rw [flatten_len hls, hown.1]) (fun i a u hi hu => (hlv i a u hi hu).ext hchg hBM hM') (fun i a u hi hu => (hmv i a u hi hu).ext hchg hBM hM')

theorem Trip.app {x y : Operand} {t e : TypeId} {sz i1 : Nat} {rs : List (Nat × V)} {ro : List (Nat × O)} (id : Nat) (hP : PF P t e sz) {l m : List (List A)} (hro : (i1, O.arr e sz l) ∈ ro)
    (h : ∀ (C : Ctx) (S : St) (hd : Nat → Value) (a : Act) (w : World), Sat' C S hd a w → (∀ p, p ∈ rs → S.gs p.1 = some p.2) → (∀ p, p ∈ ro → S.go p.1 = some p.2) →
      a.eval x = hd i1 ∧ ∃ news, Stands w sz (a.eval y) m.length news ∧ (∀ cs, cs ∈ m → cs.length = sz) ∧ ∀ (i : Nat) (b : A) (u : Value), m.flatten[i]? = some b → news[i]? = some u → VR w (MM C S hd) b u)
    (hlen : l.length + m.length ≤ 4294967296) {wo : List (Nat × Option O)} (hwo : ∀ i, lk wo i = none ∨ lk wo i = some none ∨ (i = id ∧ lk wo i = some (some (.arr e sz (l ++ m))))) (hwi : lk wo i1 ≠ none) :
    Trip P ops ⟨d, .call ⟨.builtin .append, #[x, y], #[t, t]⟩, ty, pos, af, none⟩ (me rs ro (.own id) wo [id]) := by
  refine Trip.mem rfl fun C S hd a w hs hp => ?_
  obtain ⟨hx, news, hy, hms, hmv⟩ := h C S hd a w hs (hp.rs trivial) (hp.ro trivial)
  have hO := hp.ro trivial _ hro
  obtain ⟨u, w', hr, hchg, hblk, hone, hM⟩ := app_step (P := P) (d := d) (ty := ty) (pos := pos) (af := af)  hs hP hx hO hy hms hmv hlen
  have hnew : ∀ i y, lk wo i = some (some y) → i = id ∧ y = .arr e sz (l ++ m) := by
    intro i y hy
    rcases hwo i with h | h | ⟨h1, h2⟩
    · rw [h] at hy; cases hy
    · rw [h] at hy; cases hy
    · rw [h2] at hy; cases hy; exact ⟨h1, rfl⟩
  refine ⟨_, u, w', updh hd id u, _, hr, .inl rfl, hchg, fun b hb => ?_, fun i hi => updh_ne (fun e => hi (by simp [me, e])), fun M' hM' => ⟨fun _ => ?_, fun i y hy => ?_⟩, fun i y b hy hb => ?_,
    fun j1 j2 x1 x2 b h1 h2 _ _ => ((hnew j1 x1 h1).1).trans ((hnew j2 x2 h2).1).symm⟩
  · cases hl : lk wo i1 with
    | none => exact (hwi hl).elim
    | some y => exact ⟨i1, _, y, hO, ownBlock_blk hb, hl⟩
  · have := VV.own (w := w') (M := M') (hd := updh hd id u) id (by rw [updh_same]; exact hone)
    rwa [updh_same] at this
  · obtain ⟨rfl, rfl⟩ := hnew i y hy
    rw [updh_same]; exact hM M' hM' _
  · obtain ⟨rfl, rfl⟩ := hnew i y hy
    rw [updh_same] at hb
    rcases hblk b hb with h | h
    · right
      cases hl : lk wo i1 with
      | none => exact (hwi hl).elim
      | some y => exact ⟨i1, _, y, hO, h, hl⟩
    · left; exact h

theorem lk_two {i1 id : Nat} {x : O} : ∀ i, lk [(id, some x), (i1, none)] i = none ∨ lk [(id, some x), (i1, none)] i = some none ∨ (i = id ∧ lk [(id, some x), (i1, none)] i = some (some x)) := by
  intro i
  simp only [lk]
  by_cases h : id = i
  · subst h; simp
  · rw [beq_ne h]
    by_cases h' : i1 = i
    · subst h'; simp
    · rw [beq_ne h']; simp

theorem lk_two_ne {i1 id : Nat} {x : O} : lk [(id, some x), (i1, none)] i1 ≠ none := by
  simp only [lk]
  by_cases h : id = i1
  · subst h; simp
  · rw [beq_ne h]; simp

/-- append to one's own a list that is only read -/
theorem ap {α : Type} {F : α → List A} (id : Nat) {x y : Operand} {t e : TypeId} {sz i1 : Nat} {l m q : List α} (hP : PF P t e sz) (hx : Ev S x (.own i1)) (hO : S.go i1 = some (.arr e sz (l.map F)))
    (hy : Ev S y (.ro (.list sz (m.map F)))) (hq : app l m = some q) (hf : S.free id = true)
    (D : Der P ops ((me ((rd x (.own i1) ++ rd y (.ro (.list sz (m.map F))))) [(i1, .arr e sz (l.map F))] (.own id) [(id, some (.arr e sz (q.map F))), (i1, none)] [id]).app d S) os es S') :
    Der P ops S (⟨d, .call ⟨.builtin .append, #[x, y], #[t, t]⟩, ty, pos, af, none⟩ :: os)
      (me ((rd x (.own i1) ++ rd y (.ro (.list sz (m.map F))))) [(i1, .arr e sz (l.map F))] (.own id) [(id, some (.arr e sz (q.map F))), (i1, none)] [id] :: es) S' := by
  obtain ⟨rfl, hlen⟩ := app_eq hq
  refine .cons ?_ (pre_me (mem_app hx.rd hy.rd) (by simp; exact hO) (by simp; exact hf)) D
  refine Trip.app (l := l.map F) (m := m.map F) (i1 := i1) (e := e) (sz := sz) id hP (by simp) (fun C S2 hd a w hs h2 h3 => ?_) (by simpa using hlen)
    (by rw [List.map_append]; exact lk_two) lk_two_ne
  have e1 := ((hx.of fun p hp => h2 p (List.mem_append_left _ hp)).vv hs).own_inv
  have e2 := ((hy.of fun p hp => h2 p (List.mem_append_right _ hp)).vv hs).ro_of
  obtain ⟨xs, h4, h5, h6⟩ := stands_VR e2
  exact ⟨e1.1, xs, h4, h5, h6⟩

/-- append to one's own another one of one's own -/
theorem apo {α : Type} {F : α → List A} (id : Nat) {x y : Operand} {t e : TypeId} {sz i1 i2 : Nat} {l m q : List α} (hP : PF P t e sz) (hx : Ev S x (.own i1)) (hO : S.go i1 = some (.arr e sz (l.map F)))
    (hy : Ev S y (.own i2)) (hO2 : S.go i2 = some (.arr e sz (m.map F))) (hq : app l m = some q) (hf : S.free id = true)
    (D : Der P ops ((me ((rd x (.own i1) ++ rd y (.own i2))) [(i1, .arr e sz (l.map F)), (i2, .arr e sz (m.map F))] (.own id) [(id, some (.arr e sz (q.map F))), (i1, none)] [id]).app d S) os es S') :
    Der P ops S (⟨d, .call ⟨.builtin .append, #[x, y], #[t, t]⟩, ty, pos, af, none⟩ :: os)
      (me ((rd x (.own i1) ++ rd y (.own i2))) [(i1, .arr e sz (l.map F)), (i2, .arr e sz (m.map F))] (.own id) [(id, some (.arr e sz (q.map F))), (i1, none)] [id] :: es) S' := by
  obtain ⟨rfl, hlen⟩ := app_eq hq
  refine .cons ?_ (pre_me (mem_app hx.rd hy.rd) (by simp; exact ⟨hO, hO2⟩) (by simp; exact hf)) D
  refine Trip.app (l := l.map F) (m := m.map F) (i1 := i1) (e := e) (sz := sz) id hP (by simp) (fun C S2 hd a w hs h2 h3 => ?_) (by simpa using hlen)
    (by rw [List.map_append]; exact lk_two) lk_two_ne
  have e1 := ((hx.of fun p hp => h2 p (List.mem_append_left _ hp)).vv hs).own_inv
  have e2 := ((hy.of fun p hp => h2 p (List.mem_append_right _ hp)).vv hs).own_inv
  obtain ⟨xs, _, h4, h5, _, h6⟩ := stands_own (hs.ob i2 _ (h3 (i2, .arr e sz (m.map F)) (by simp)))
  refine ⟨e1.1, xs, ?_, h5, h6⟩
  rw [show a.eval y = hd i2 from e2.1]; exact h4

/-- nil, to be appended to -/
theorem an (id : Nat) (e : TypeId) (sz : Nat) {x : Operand} (hx : x = .const (.slice none 0 0)) (hf : S.free id = true)
    (D : Der P ops ((me [] [] (.own id) [(id, some (.arr e sz []))] [id]).app d S) os es S') :
    Der P ops S (⟨d, .assign x, ty, pos, af, none⟩ :: os) (me [] [] (.own id) [(id, some (.arr e sz []))] [id] :: es) S' := by
  subst hx
  refine .cons (Trip.new (o := ⟨d, .assign (.const (.slice none 0 0)), ty, pos, af, none⟩) rfl fun C S2 hd a w hs h2 hf2 => ?_)
    (pre_me (fun _ h => (List.not_mem_nil h).elim) (fun _ h => (List.not_mem_nil h).elim) (by simp; exact hf)) D
  refine ⟨.slice none 0 0, w, .slice none 0 0, rfl, Chg.refl w _, (fun b hb => by cases hb), fun M' hM' => ⟨?_, .arr e sz [] [] (World.ownsRow_nil w 0 e sz) (by simp) (by simp) (by simp)⟩⟩
  have := VV.own (w := w) (M := M') (hd := updh hd id (.slice none 0 0)) id (by rw [updh_same]; rfl)
  rwa [updh_same] at this

/-- len of one's own -/
theorem lo {t e e' : TypeId} {sz sz' i1 : Nat} {x : Operand} {l : List (List A)} {rs : List (Nat × V)} (hT : SF P t e sz) (hx : Er S x (.own i1) rs) (hO : S.go i1 = some (.arr e' sz' l)) :
    OpV P S (.call ⟨.builtin .len, #[x], #[t]⟩) rs [(i1, .arr e' sz' l)] (.ro (.int .i64 l.length)) := by
  refine ⟨hx.rd, by simp; exact hO, fun C S2 hd a w d ty pos af g hs h2 h3 => ?_⟩
  have e1 := ((hx.of h2).vv hs).own_inv
  obtain ⟨xs, hr, ⟨o, c, hv, _⟩, _⟩ := stands_own (hs.ob i1 _ (h3 (i1, .arr e' sz' l) (by simp)))
  have hm : l.length ≤ maxLen := by
    rcases hr.2 with ⟨_, h0⟩ | ⟨_, cap, _, _, _, _, h1, h2, _⟩
    · omega
    · omega
  refine ⟨.int .i64 l.length, ?_, .ro _ _ (.int _ _ (len_in hm).1 (len_in hm).2)⟩
  simp [execOp, resolve, invoke, builtin, e1.1, hv, run_len hT.u ⟨_, rfl⟩]

/-- the address of an element of one's own -/
theorem io {t e e' : TypeId} {sz i1 : Nat} {x y : Operand} {k : IntKind} {i : Int} {l : List (List A)} {cs : List A} {r1 r2 : List (Nat × V)} (hT : SF P t e sz) (hx : Er S x (.own i1) r1)
    (hO : S.go i1 = some (.arr e' sz l)) (hy : Er S y (.ro (.int k i)) r2) (hi : ix l i = some cs) :
    OpV P S (.indexAddr t x y) (r1 ++ r2) [(i1, .arr e' sz l)] (.ptr i1 (i.toNat * sz)) := by
  refine ⟨mem_app hx.rd hy.rd, by simp; exact hO, fun C S2 hd a w d ty pos af g hs h2 h3 => ?_⟩
  have e1 := ((hx.of fun p hp => h2 p (List.mem_append_left _ hp)).vv hs).own_inv
  obtain ⟨e2, _⟩ := ((hy.of fun p hp => h2 p (List.mem_append_right _ hp)).vv hs).int_inv
  obtain ⟨xs, hr, _⟩ := stands_own (hs.ob i1 _ (h3 (i1, .arr e' sz l) (by simp)))
  obtain ⟨hi0, hi1, hi2⟩ := ix_lt hi
  rcases hr.2 with ⟨_, h0⟩ | ⟨b, cap, cur, hv, _⟩
  · omega
  · refine ⟨.pointer (some ⟨b, i.toNat * sz, none⟩), ?_, .ptr _ _ b (by rw [hv]; rfl)⟩
    simp only [execOp, e1.1, hv, e2, Instr.indexAt, asIntOf, Sem.run_bind, Sem.run_pure, Result.andThen_ok, run_underlying hT.u, Bool.and_false, hi0, hi1, and_self, if_true, Sem.run_ite, hT.run_sizeOf, Addr.add_lit, Nat.zero_add]

end
end Xb
