/- Own text: Core23. -/
import Derived.Test.YtemfkddlidfbfaaGreatCore22
import Derived.Laws.IdiomCopy
set_option linter.all false
set_option linter.unusedVariables false
set_option linter.unusedSimpArgs false
set_option linter.unnecessarySimpa false
set_option linter.deprecated false
/-! Pieces of one's own lists: made, read, lent, written. -/
namespace Xb
open Go

section
variable {P : Program} {ops : Array Oper} {S S' : St} {os : List Oper} {es : List Eff}
variable {d : Option Nat} {ty : TypeId} {pos : String} {af : Array Edge}

/-- a piece of one's own list -/
theorem slv {α : Type} {F : α → List A} {t e e' : TypeId} {sz i : Nat} {x : Operand} {lo hi : Option Operand} {a b : Int} {r0 r1 r2 : List (Nat × V)} {l q : List α} (hT : SF P t e sz)
    (hx : Er S x (.own i) r0) (hO : S.go i = some (.arr e' sz (l.map F))) (hlo : EvO S lo 0 a r1) (hhi : EvO S hi l.length b r2) (hq : sub l a b = some q) :
    OpV P S (.slice t x lo hi none) (r0 ++ (r1 ++ r2)) [(i, .arr e' sz (l.map F))] (.view i sz a.toNat (b.toNat - a.toNat)) := by
  obtain ⟨h0, hab, hb, _⟩ := sub_eq hq
  refine ⟨mem_app hx.rd (mem_app hlo.rd hhi.rd), by simp; exact hO, fun C S2 hd ac w d ty pos af g hs h2 h3 => ?_⟩
  obtain ⟨ev, _⟩ := ((hx.of fun p hp => h2 p (List.mem_append_left _ hp)).vv hs).own_inv
  have e2 := opt_eval hs (hlo.of fun p hp => h2 p (List.mem_append_right _ (List.mem_append_left _ hp)))
  have e3 := opt_eval hs (hhi.of fun p hp => h2 p (List.mem_append_right _ (List.mem_append_right _ hp)))
  obtain ⟨xs, hrow, _⟩ := stands_own (hs.ob i _ (h3 (i, .arr e' sz (l.map F)) (by simp)))
  simp only [List.length_map] at hrow
  rcases hrow.2 with ⟨hn, hl0⟩ | ⟨g0, cap, cur, hh, _, hg, hnc, hcm, _⟩
  · refine ⟨.slice none 0 0, ?_, .view _ _ _ _ _ (.inl ⟨by omega, none, 0, rfl, Nat.zero_le _⟩)⟩
    have hb0 : b = 0 := by omega
    have ha0 : a = 0 := by omega
    subst hb0; subst ha0
    rw [hl0] at e3
    have hbb := run_bounds (P := P) (w := w) (isS := true) (len := 0) (cap := 0) e2 e3 (by omega) (by omega) (by simp)
    simp only [execOp, Instr.sliceAt, Instr.slice, Sem.run_bind, run_underlying hT.u, Result.andThen_ok, ev, hn, Option.map_none, hbb, hT.run_sizeOf, Sem.run_pure, Int.toNat_zero, if_true, Nat.sub_zero]
  · have hbb := run_bounds (P := P) (w := w) (isS := true) (len := l.length) (cap := cap) e2 e3 h0 hab (by omega)
    by_cases hca : cap = a.toNat
    · refine ⟨.slice (some ⟨g0, 0, none⟩) (b.toNat - a.toNat) (cap - a.toNat), ?_, .view _ _ _ _ _ (.inl ⟨by omega, some ⟨g0, 0, none⟩, cap - a.toNat, by congr 1; omega, by omega⟩)⟩
      simp only [execOp, Instr.sliceAt, Instr.slice, Sem.run_bind, run_underlying hT.u, Result.andThen_ok, ev, hh, Option.map_none, hbb, hT.run_sizeOf, Sem.run_pure]
      rw [if_pos hca]
    · refine ⟨.slice (some ⟨g0, a.toNat * sz, none⟩) (b.toNat - a.toNat) (cap - a.toNat), ?_, .view _ _ _ _ _ (.inr ⟨g0, cap - a.toNat, by rw [hh]; rfl, rfl, by omega, by omega⟩)⟩
      simp only [execOp, Instr.sliceAt, Instr.slice, Sem.run_bind, run_underlying hT.u, Result.andThen_ok, ev, hh, Option.map_none, hbb, hT.run_sizeOf, Sem.run_pure]
      rw [if_neg hca]
      simp only [Option.map_some, Addr.add_lit, Nat.zero_add]

/-- how long a piece is -/
theorem lnv {t e : TypeId} {sz sz' i lo n : Nat} {x : Operand} {rs : List (Nat × V)} (hT : SF P t e sz) (hx : Er S x (.view i sz' lo n) rs) :
    OpV P S (.call ⟨.builtin .len, #[x], #[t]⟩) rs [] (.ro (.int .i64 n)) :=
  .one hx fun w M hd a d ty pos af g h1 => by
    have hv := h1.view_inv
    have : ∃ o cap, a.eval x = .slice o n cap ∧ n ≤ maxLen := by
      rcases hv with ⟨rfl, o, cap, h, _⟩ | ⟨b, cap, _, h, h1, h2⟩
      · exact ⟨o, cap, h, Nat.zero_le _⟩
      · exact ⟨_, cap, h, by omega⟩
    obtain ⟨o, cap, hh, hm⟩ := this
    refine ⟨.int .i64 n, ?_, .ro _ _ (.int _ _ (len_in hm).1 (len_in hm).2)⟩
    simp [execOp, resolve, invoke, builtin, hh, run_len hT.u ⟨_, rfl⟩]

/-- bytes of a piece, to a text -/
theorem btv {t u e e' : TypeId} {i : Nat} {a b : Int} {x : Operand} {l q : List Int} (hT : SF P t e 1 ∧ P.underlying e = some (.int .u8) ∧ P.underlying u = some .string) {rs : List (Nat × V)} (hx : Er S x (.view i 1 a.toNat (b.toNat - a.toNat)) rs)
    (hO : S.go i = some (.arr e' 1 (l.map e8))) (hq : sub l a b = some q) :
    OpV P S (.convert t u x) rs [(i, .arr e' 1 (l.map e8))] (.ro (.str (b2s q))) := by
  refine ⟨hx.rd, by simp; exact hO, fun C S2 hd ac w d ty pos af g hs h2 h3 => ?_⟩
  have e1 := ((hx.of h2).vv hs).view_inv
  obtain ⟨hb, hqq⟩ := sub_view (F := e8) hq
  have hr := view_VR (hs.ob i _ (h3 (i, .arr e' 1 (l.map e8)) (by simp))) (fun _ => False) (fun b _ hm => hm.elim) (fun b _ hm => hm) e1 hb
  rw [hqq] at hr
  obtain ⟨hm, hrun⟩ := bt_run hT hr
  refine ⟨.string ⟨(b2s q).toArray⟩, ?_, .ro _ _ (.str _ (by simp [b2s, hm]))⟩
  simp only [execOp, Sem.run_bind, hrun, Result.andThen_ok, Sem.run_pure]
end

/-- what is read by a copy -/
inductive Src (S : St) : Operand → List (List A) → List (Nat × V) → List (Nat × O) → Prop
  | r {x : Operand} {m : List (List A)} {rs : List (Nat × V)} (h : Er S x (.ro (.list 1 m)) rs) : Src S x m rs []
  | o {x : Operand} {i e : Nat} {m : List (List A)} {rs : List (Nat × V)} (h : Er S x (.own i) rs) (hO : S.go i = some (.arr e 1 m)) : Src S x m rs [(i, .arr e 1 m)]
  | v {α : Type} {F : α → List A} {x : Operand} {i e : Nat} {l q : List α} {a b : Int} {rs : List (Nat × V)} (h : Er S x (.view i 1 a.toNat (b.toNat - a.toNat)) rs) (hO : S.go i = some (.arr e 1 (l.map F))) (hq : sub l a b = some q) :
      Src S x (q.map F) rs [(i, .arr e 1 (l.map F))]

theorem Src.rd {S : St} {x : Operand} {m : List (List A)} {rs : List (Nat × V)} {ro : List (Nat × O)} (h : Src S x m rs ro) : (∀ p, p ∈ rs → S.gs p.1 = some p.2) ∧ ∀ p, p ∈ ro → S.go p.1 = some p.2 := by
  cases h with
  | r h => exact ⟨h.rd, by simp⟩
  | o h hO => exact ⟨h.rd, by simp; exact hO⟩
  | v h hO hq => exact ⟨h.rd, by simp; exact hO⟩
theorem Src.of {S S' : St} {x : Operand} {m : List (List A)} {rs : List (Nat × V)} {ro : List (Nat × O)} (h : Src S x m rs ro) (h1 : ∀ p, p ∈ rs → S'.gs p.1 = some p.2) (h2 : ∀ p, p ∈ ro → S'.go p.1 = some p.2) : Src S' x m rs ro := by
  cases h with
  | r h => exact .r (h.of h1)
  | o h hO => exact .o (h.of h1) (h2 (_, _) (by simp))
  | v h hO hq => exact .v (h.of h1) (h2 (_, _) (by simp)) hq
/-- how it stands in memory -/
theorem Src.vv {C : Ctx} {S : St} {hd : Nat → Value} {a : Act} {w : World} {x : Operand} {m : List (List A)} {rs : List (Nat × V)} {ro : List (Nat × O)} (hs : Sat' C S hd a w) (h : Src S x m rs ro) :
    ∃ xs, Stands w 1 (a.eval x) m.length xs ∧ (∀ cs, cs ∈ m → cs.length = 1) ∧ ∀ (i : Nat) (b : A) (u : Value), m.flatten[i]? = some b → xs[i]? = some u → VR w (MM C S hd) b u := by
  cases h with
  | r h => exact stands_VR (h.vv hs).ro_of
  | @o _ i e _ _ h hO =>
    obtain ⟨ev, _⟩ := (h.vv hs).own_inv
    obtain ⟨xs, _, h1, h2, _, h3⟩ := stands_own (hs.ob _ _ hO)
    exact ⟨xs, by rw [ev]; exact h1, h2, h3⟩
  | @v α F _ i e l q lo hi _ h hO hq =>
    have ev := (h.vv hs).view_inv
    obtain ⟨hb, hqq⟩ := sub_view (F := F) hq
    obtain ⟨xs, hrow, h1, h2, ho, h3⟩ := stands_own (hs.ob _ _ hO)
    have hlen : (q.map F).length = hi.toNat - lo.toNat := by rw [← hqq, List.length_take, List.length_drop]; omega
    generalize lo.toNat = a0 at *
    generalize hi.toNat - a0 = n at *
    have hfl : (q.map F).flatten = ((l.map F).flatten.drop a0).take n := by
      rw [← hqq, take_flatten _ (fun cs hc => h2 cs (List.mem_of_mem_drop hc)), drop_flatten _ h2, Nat.mul_one, Nat.mul_one]
    refine ⟨(xs.drop a0).take n, ?_, fun cs hc => h2 cs (by rw [← hqq] at hc; exact List.mem_of_mem_drop (List.mem_of_mem_take hc)), fun i b u hi hu => ?_⟩
    · obtain ⟨o', cap', hh, hxl, ho0, hcell, hone⟩ := h1
      have h3 : ((xs.drop a0).take n).length = (q.map F).length * 1 := by
        rw [hlen, List.length_take, List.length_drop, hxl]; omega
      have h4 : ∀ (j : Nat) (u : Value), ((xs.drop a0).take n)[j]? = some u → u.oneCell' = true := fun j u hj => by
        rw [List.getElem?_take] at hj
        split at hj
        case isFalse => cases hj
        rw [List.getElem?_drop] at hj
        exact hone _ u hj
      rcases ev with ⟨h0, o, cap, e1, _⟩ | ⟨b, cap, hbk, e1, _, _⟩
      · refine ⟨o, cap, by rw [e1, hlen, h0], h3, fun _ => by rw [hlen, h0], fun ad _ j u hj => ?_, h4⟩
        rw [h0, List.take_zero] at hj; cases hj
      · refine ⟨some ⟨b, a0 * 1, none⟩, cap, by rw [e1, hlen], h3, (fun h => by cases h), fun ad had j u hj => ?_, h4⟩
        cases had
        rw [List.getElem?_take] at hj
        split at hj
        case isFalse => cases hj
        rw [List.getElem?_drop] at hj
        have hbo : o' = some ⟨b, 0, none⟩ := by
          rcases hrow.2 with ⟨e2, _⟩ | ⟨g, c2, cur, e2, _⟩
          · rw [e2] at hbk; cases hbk
          · rw [e2] at hbk hh; cases hh; simp [blk] at hbk; subst hbk; rfl
        have := hcell _ hbo _ u hj
        rw [Addr.add_lit] at this ⊢
        simpa using this
    · rw [hfl, List.getElem?_take] at hi
      rw [List.getElem?_take] at hu
      split at hu
      case isFalse => cases hu
      rw [if_pos ‹_›] at hi
      rw [List.getElem?_drop] at hi hu
      exact h3 _ b u hi hu

theorem sub_bd {α : Type} {l q : List α} {a b : Int} (h : sub l a b = some q) : 0 ≤ a ∧ a ≤ b ∧ b ≤ l.length := by obtain ⟨h0, h1, h2, _⟩ := sub_eq h; exact ⟨h0, h1, h2⟩

/-- copied into a piece from a to b -/
def cpy {α : Type} (l : List α) (a b : Int) (m : List α) : List α := l.take a.toNat ++ m.take (b.toNat - a.toNat) ++ l.drop (a.toNat + (m.take (b.toNat - a.toNat)).length)
/-- so many are copied -/
def cpn {α : Type} (a b : Int) (m : List α) : Int := ((m.take (b.toNat - a.toNat)).length : Int)

theorem flat1 : ∀ {l : List (List A)}, (∀ cs, cs ∈ l → cs.length = 1) → ∀ n, (l.take n).flatten = l.flatten.take n := fun {l} h n => by
  have := take_flatten (sz := 1) n h
  simpa using this

section
variable {P : Program} {ops : Array Oper} {S S' : St} {os : List Oper} {es : List Eff}
variable {d : Option Nat} {ty : TypeId} {pos : String} {af : Array Edge}

theorem cpc {α : Type} {F : α → List A} {t u e e' : TypeId} {i : Nat} {x y : Operand} {l m : List α} {a b : Int} {vx : V} {r1 r2 : List (Nat × V)} {ro : List (Nat × O)} (hT : SF P t e 1) (hx : Er S x vx r1)
    (hvx : vx = .view i 1 a.toNat (b.toNat - a.toNat) ∨ (vx = .own i ∧ a = 0 ∧ b = l.length)) (hab : 0 ≤ a ∧ a ≤ b ∧ b ≤ l.length)
    (hO : S.go i = some (.arr e' 1 (l.map F))) (hy : Src S y (m.map F) r2 ro)
    (D : Der P ops ((me (r1 ++ r2) ((i, .arr e' 1 (l.map F)) :: ro) (.ro (.int .i64 (cpn a b m))) [(i, some (.arr e' 1 ((cpy l a b m).map F)))] []).app d S) os es S') :
    Der P ops S (⟨d, .call ⟨.builtin .copy, #[x, y], #[t, u]⟩, ty, pos, af, none⟩ :: os)
      (me (r1 ++ r2) ((i, .arr e' 1 (l.map F)) :: ro) (.ro (.int .i64 (cpn a b m))) [(i, some (.arr e' 1 ((cpy l a b m).map F)))] [] :: es) S' := by
  refine .cons (Trip.mem (o := ⟨d, .call ⟨.builtin .copy, #[x, y], #[t, u]⟩, ty, pos, af, none⟩) rfl fun C S2 hd ac w hs hp => ?_)
    (pre_me (mem_app hx.rd hy.rd.1) (fun p hp => (List.mem_cons.1 hp).elim (fun e => e ▸ hO) (hy.rd.2 p)) (fun _ h => (List.not_mem_nil h).elim)) D
  obtain ⟨hab0, hab1, hab2⟩ := hab
  have h2 := hp.rs trivial
  have hgo := hp.ro trivial (i, .arr e' 1 (l.map F)) (by simp [me])
  have e1 := ((hx.of fun p hp => h2 p (List.mem_append_left _ hp)).vv hs)
  obtain ⟨ms, hst, hms1, hmv⟩ := (hy.of (fun p hp => h2 p (List.mem_append_right _ hp)) (fun p hp' => hp.ro trivial p (by simp [me, hp']))).vv hs
  obtain ⟨xs, hr, _, hls, hlo, hlv⟩ := stands_own (hs.ob i _ hgo)
  -- the place written to
  have hdst : (b.toNat - a.toNat = 0 ∧ ∃ o cap, ac.eval x = .slice o 0 cap) ∨ ∃ g cap, hd i = .slice (some ⟨g, 0, none⟩) l.length cap ∧ ∃ c, ac.eval x = .slice (some ⟨g, a.toNat, none⟩) (b.toNat - a.toNat) c := by
    have hown : hd i = .slice none 0 0 ∧ l.length = 0 ∨ ∃ g cap, hd i = .slice (some ⟨g, 0, none⟩) l.length cap := by
      rcases hr.2 with ⟨h0, hl0⟩ | ⟨g, cap, cur, h0, _⟩
      · exact .inl ⟨h0, by simpa using hl0⟩
      · exact .inr ⟨g, cap, by simpa using h0⟩
    rcases hvx with rfl | ⟨rfl, rfl, rfl⟩
    · rcases e1.view_inv with ⟨hn, o, cap, h, _⟩ | ⟨bb, cap, hbk, h, _, _⟩
      · exact .inl ⟨hn, o, cap, h⟩
      · rcases hown with ⟨h0, _⟩ | ⟨g, cap', h0⟩
        · rw [h0] at hbk; cases hbk
        · rw [h0] at hbk
          have : g = bb := by simpa [blk] using hbk
          subst this
          exact .inr ⟨g, cap', h0, cap, by simpa using h⟩
    · have := e1.own_inv.1
      rcases hown with ⟨h0, hl0⟩ | ⟨g, cap', h0⟩
      · exact .inl ⟨by omega, none, 0, by rw [this, h0]⟩
      · exact .inr ⟨g, cap', h0, cap', by rw [this, h0]; simp⟩
  obtain ⟨o, scap, hsv, hml, hsn, hsc, hso⟩ := hst
  simp only [List.length_map, Nat.mul_one] at hsv hml hsn
  have hsize : (P.info? e).map (·.size) = some 1 := by
    obtain ⟨ii, h1, h2⟩ := hT.n
    rw [h1, Option.map_some, h2]
  have hmm : Nat.min m.length (b.toNat - a.toNat) = (m.take (b.toNat - a.toNat)).length := by rw [List.length_take]; exact Nat.min_comm _ _
  have hlk : ∀ j y, lk [(i, some (O.arr e' 1 ((cpy l a b m).map F)))] j = some (some y) → j = i ∧ y = .arr e' 1 ((cpy l a b m).map F) := by
    intro j y hy
    simp only [lk] at hy
    by_cases hj : i = j
    · subst hj
      simp only [Nat.beq_refl, cond_true, Option.some.injEq] at hy
      exact ⟨rfl, hy.symm⟩
    · rw [beq_ne hj] at hy; cases hy
  have hki : lk [(i, some (O.arr e' 1 ((cpy l a b m).map F)))] i = some (some (O.arr e' 1 ((cpy l a b m).map F))) := by simp [lk]
  have hcpn : IntKind.i64.min ≤ cpn a b m ∧ cpn a b m ≤ IntKind.i64.max := by
    have hb : l.length ≤ maxLen := by
      rcases hr.2 with ⟨_, h0⟩ | ⟨_, _, _, _, _, _, h1, h2, _⟩
      · simp only [List.length_map] at h0; omega
      · simp only [List.length_map] at h1; omega
    have : (m.take (b.toNat - a.toNat)).length ≤ maxLen := by rw [List.length_take]; omega
    exact len_in this
  have hexec : ∀ {v : Value} {w' : World}, (Builtin.copy_ #[t, u] ty #[ac.eval x, ac.eval y]).run P w = .ok v w' →
      (execOp ac.eval ⟨d, .call ⟨.builtin .copy, #[x, y], #[t, u]⟩, ty, pos, af, none⟩).run P w = .ok (.value v) w' := fun hrun => by
    simp only [execOp, resolve, invoke, builtin, Sem.run_bind, Sem.run_pure, Result.andThen_ok, List.map_toArray, List.map_cons, List.map_nil, hrun]
  have done : ∀ (w' : World), (Builtin.copy_ #[t, u] ty #[ac.eval x, ac.eval y]).run P w = .ok (goInt (m.take (b.toNat - a.toNat)).length) w' → Chg w w' (fun k => blk (hd i) = some k) → w'.heap.size = w.heap.size →
      (∀ M' : Nat → Prop, (∀ b, b < w.heap.size → M' b → MM C S2 hd b) → OO w' M' hd (hd i) (.arr e' 1 ((cpy l a b m).map F))) →
      ∃ (nx : Next) (v : Value) (w' : World) (hd' : Nat → Value) (B : Nat → Prop), (execOp ac.eval ⟨d, .call ⟨.builtin .copy, #[x, y], #[t, u]⟩, ty, pos, af, none⟩).run P w = .ok nx w' ∧ (nx = .value v ∨ (nx = .skip ∧ v = undef)) ∧ Chg w w' B ∧
        (∀ k, B k → ∃ id x y, S2.go id = some x ∧ blk (hd id) = some k ∧ lk [(i, some (O.arr e' 1 ((cpy l a b m).map F)))] id = some y) ∧
        (∀ id, id ∉ ([] : List Nat) → hd' id = hd id) ∧
        (∀ M' : Nat → Prop, (∀ b, b < w.heap.size → M' b → MM C S2 hd b) → (d ≠ none → VV w' M' hd' (.ro (.int .i64 (cpn a b m))) v) ∧ ∀ id x, lk [(i, some (O.arr e' 1 ((cpy l a b m).map F)))] id = some (some x) → OO w' M' hd' (hd' id) x) ∧
        (∀ id x k, lk [(i, some (O.arr e' 1 ((cpy l a b m).map F)))] id = some (some x) → blk (hd' id) = some k →
          (w.heap.size ≤ k ∧ k < w'.heap.size) ∨ ∃ i0 x0 y0, S2.go i0 = some x0 ∧ blk (hd i0) = some k ∧ lk [(i, some (O.arr e' 1 ((cpy l a b m).map F)))] i0 = some y0) ∧
        (∀ i1 i2 x1 x2 k, lk [(i, some (O.arr e' 1 ((cpy l a b m).map F)))] i1 = some (some x1) → lk [(i, some (O.arr e' 1 ((cpy l a b m).map F)))] i2 = some (some x2) → blk (hd' i1) = some k → blk (hd' i2) = some k → i1 = i2) := fun w' hrun hchg hsz hob => by
    refine ⟨_, _, w', hd, fun k => blk (hd i) = some k, hexec hrun, .inl rfl, hchg, fun k hk => ⟨i, _, _, hgo, hk, hki⟩, fun _ _ => rfl, fun M' hM' => ⟨fun _ => .ro _ _ (.int _ _ hcpn.1 hcpn.2), ?_⟩, ?_, ?_⟩
    · intro j y hy
      obtain ⟨rfl, rfl⟩ := hlk j y hy
      exact hob M' hM'
    · intro j y k hy hk
      obtain ⟨rfl, rfl⟩ := hlk j y hy
      exact .inr ⟨j, _, _, hgo, hk, hki⟩
    · intro i1 i2 x1 x2 k h1 h2 _ _
      exact ((hlk i1 x1 h1).1).trans ((hlk i2 x2 h2).1).symm
  by_cases hz : (m.take (b.toNat - a.toNat)).length = 0
  · have hcl : cpy l a b m = l := by
      have h0 : m.take (b.toNat - a.toNat) = [] := List.length_eq_zero_iff.1 hz
      unfold cpy; rw [h0]; simp
    refine done w ?_ (Chg.refl w _) rfl (fun M' hM' => ?_)
    · have hmin0 : Nat.min m.length (b.toNat - a.toNat) = 0 := by omega
      have : ∃ dd dl dc, ac.eval x = .slice dd dl dc ∧ dl = b.toNat - a.toNat := by
        rcases hdst with ⟨hn, o, cap, h⟩ | ⟨g, cap, _, c, h⟩
        · exact ⟨o, 0, cap, h, hn.symm⟩
        · exact ⟨_, _, c, h, rfl⟩
      obtain ⟨dd, dl, dc, hd0, rfl⟩ := this
      rw [hd0, hsv, hz]
      exact run_copy_none w t u ty e dd o _ dc _ scap hT.u hsize hmin0
    · rw [hcl]
      exact (hs.ob i _ hgo).ext (Chg.refl w (fun _ => False)) (fun _ h => h.elim) hM' (fun _ _ => rfl) (fun _ _ h => h)
  · rcases hdst with ⟨hn, _⟩ | ⟨g, cap', hh, c, hdv⟩
    · rw [hn] at hz; simp at hz
    rcases hr.2 with ⟨h0, _⟩ | ⟨g', cap, cur, hv', hg0, hg, hnc, hm, hcs, htake⟩
    · rw [h0] at hh; cases hh
    have : g' = g := by have h9 := congrArg blk (hv'.symm.trans hh); simpa [blk] using h9
    subst this
    simp only [List.length_map, Nat.mul_one] at hr hnc htake hcs
    have ho : ∃ ad, o = some ad := by
      cases o with
      | none => have := hsn rfl; rw [List.length_take] at hz; omega
      | some ad => exact ⟨ad, rfl⟩
    obtain ⟨ad, rfl⟩ := ho
    -- the values that go over
    have hk1 : (ms.take (b.toNat - a.toNat)).length = (m.take (b.toNat - a.toNat)).length := by rw [List.length_take, List.length_take, hml]
    have hsrc : ∀ j v, (ms.take (b.toNat - a.toNat))[j]? = some v → w.cell? (ad.add j) = some v := fun j v hj => by
      rw [List.getElem?_take] at hj
      split at hj
      case isFalse => cases hj
      exact hsc ad rfl j v hj
    have hone : ∀ (j : Nat) (v : Value), (ms.take (b.toNat - a.toNat))[j]? = some v → v.oneCell' = true := fun j v hj => by
      rw [List.getElem?_take] at hj
      split at hj
      case isFalse => cases hj
      exact hso j v hj
    have hfit : a.toNat + (ms.take (b.toNat - a.toNat)).length ≤ l.length := by rw [List.length_take]; omega
    have hrun := run_copy_row (P := P) w t u ty e g' a.toNat (b.toNat - a.toNat) c ad m.length scap cur e' (ms.take (b.toNat - a.toNat)) hT.u hsize hg (by rw [hk1, hmm]) hsrc (by rw [hcs]; omega)
      (fun v hv => by obtain ⟨j, hj⟩ := List.mem_iff_getElem?.1 hv; exact hone j v hj)
    rw [hk1] at hrun
    have hrun' : (Builtin.copy_ #[t, u] ty #[ac.eval x, ac.eval y]).run P w = .ok (goInt (m.take (b.toNat - a.toNat)).length) (w.setRow g' (cur.toList.take a.toNat ++ ms.take (b.toNat - a.toNat) ++ cur.toList.drop (a.toNat + (m.take (b.toNat - a.toNat)).length)).toArray) := by
      rw [hdv, hsv]; exact hrun
    have hBM : ∀ k, k = g' → MM C S2 hd k := by rintro k rfl; exact .inr ⟨i, _, hgo, by rw [hv']; rfl⟩
    have hcw := Chg.setRow w g' (cur.toList.take a.toNat ++ ms.take (b.toNat - a.toNat) ++ cur.toList.drop (a.toNat + (m.take (b.toNat - a.toNat)).length)).toArray
    refine done _ hrun' ⟨hcw.os, hcw.tape, hcw.output, hcw.size, fun k hk hn => hcw.block k hk fun e => hn (by rw [hv', e]; rfl)⟩ (by simp [World.setRow]) (fun M' hM' => ?_)
    have hxl : xs.length = l.length := by simpa using hr.1
    have hfl : (l.map F).flatten.length = l.length := by rw [flatten_len hls]; simp
    have hlen2 : (cpy l a b m).length = l.length := by
      unfold cpy
      have : (m.take (b.toNat - a.toNat)).length ≤ b.toNat - a.toNat := by rw [List.length_take]; omega
      simp only [List.length_append, List.length_take, List.length_drop]; simp only [List.length_take] at this; omega
    refine .arr e' 1 _ (xs.take a.toNat ++ ms.take (b.toNat - a.toNat) ++ xs.drop (a.toNat + (ms.take (b.toNat - a.toNat)).length)) ⟨?_, .inr ⟨g', cap, (cur.toList.take a.toNat ++ ms.take (b.toNat - a.toNat) ++ cur.toList.drop (a.toNat + (m.take (b.toNat - a.toNat)).length)).toArray, ?_, Nat.zero_le _, ?_, ?_, hm, ?_, ?_⟩⟩ ?_ (splice_one (by omega) hlo hone) ?_
    · rw [List.length_map, hlen2, Nat.mul_one]
      simp only [List.length_append, List.length_drop]; rw [List.length_take]; omega
    · rw [List.length_map, hlen2, hv']; simp
    · rw [setRow_heap w g' _ _ e' (0, 0) hg]
    · rw [List.length_map, hlen2]; exact hnc
    · rw [← hk1]; simp only [List.size_toArray, List.length_append, List.length_take, List.length_drop, Array.length_toList, Nat.mul_one]; simp only [List.length_take] at hfit; omega
    · rw [List.length_map, hlen2, Nat.mul_one, ← htake, ← hk1]
      have hcl : cur.toList.length = cap := by simpa using hcs
      have hT2 : (cur.toList.take l.length).length = l.length := by rw [List.length_take]; omega
      apply List.ext_getElem?
      intro p
      rw [List.getElem?_take]
      by_cases hp : p < l.length
      · rw [if_pos hp]
        rw [splice_get (by omega), splice_get (by omega)]
        simp only [List.getElem?_take, if_pos hp]
      · rw [if_neg hp]
        symm
        apply List.getElem?_eq_none
        simp only [List.length_append, List.length_take, List.length_drop]; simp only [List.length_take] at hfit; omega
    · intro cs hc
      obtain ⟨z, hz, rfl⟩ := List.mem_map.1 hc
      unfold cpy at hz
      rcases List.mem_append.1 hz with hz | hz
      · rcases List.mem_append.1 hz with hz | hz
        · exact hls _ (List.mem_map.2 ⟨z, List.mem_of_mem_take hz, rfl⟩)
        · exact hms1 _ (List.mem_map.2 ⟨z, List.mem_of_mem_take hz, rfl⟩)
      · exact hls _ (List.mem_map.2 ⟨z, List.mem_of_mem_drop hz, rfl⟩)
    · have hfc : ((cpy l a b m).map F).flatten = (l.map F).flatten.take a.toNat ++ ((m.map F).flatten.take (b.toNat - a.toNat)) ++ (l.map F).flatten.drop (a.toNat + ((m.map F).flatten.take (b.toNat - a.toNat)).length) := by
        unfold cpy
        rw [List.map_append, List.map_append, List.flatten_append, List.flatten_append, List.map_take, List.map_take, List.map_drop, flat1 hls, flat1 hms1]
        have := drop_flatten (sz := 1) (l := l.map F) (a.toNat + (m.take (b.toNat - a.toNat)).length) hls
        rw [this, Nat.mul_one, List.length_take, List.length_take, flatten_len hms1]; simp
      rw [hfc]
      exact splice_rel (R := VR (w.setRow g' _) M') (n := a.toNat) (cs := (l.map F).flatten) (xs := (m.map F).flatten.take (b.toNat - a.toNat)) (vs := xs) (us := ms.take (b.toNat - a.toNat))
        (by omega) (by rw [List.length_take, List.length_take, flatten_len hms1, hml]; simp) (by rw [List.length_take, flatten_len hms1, hfl, List.length_map]; omega)
        (fun k a v ha hv => (hlv k a v ha hv).ext hcw hBM hM')
        (fun k a v ha hv => by
          rw [List.getElem?_take] at ha hv
          split at ha
          case isFalse => cases ha
          rw [if_pos ‹_›] at hv
          exact (hmv k a v ha hv).ext hcw hBM hM')
end
end Xb
