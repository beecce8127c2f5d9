/- Own text: Core19. -/
import Derived.Test.YtemfkddlidfbfaaGreatCore18
set_option linter.all false
set_option linter.unusedVariables false
set_option linter.unusedSimpArgs false
set_option linter.unnecessarySimpa false
set_option linter.deprecated false
/-! A literal list that is only read. -/
namespace Xb
open Go
section
variable {P : Program} {ops : Array Oper} {S S' : St} {os : List Oper} {es : List Eff}
variable {d : Option Nat} {ty : TypeId} {pos : String} {af : Array Edge}

theorem Trip.newro {o : Oper} {rs : List (Nat × V)} {v : V} (hg : o.guard = none)
    (h : ∀ (C : Ctx) (S : St) (hd : Nat → Value) (a : Act) (w : World), Sat' C S hd a w → (∀ p, p ∈ rs → S.gs p.1 = some p.2) →
      ∃ (u : Value) (w' : World), (execOp a.eval o).run P w = .ok (.value u) w' ∧ Chg w w' (fun _ => False) ∧ VV w' (MM C S hd) hd v u) : Trip P ops o (me rs [] v [] []) := by
  intro C S a w hsat hp hdst
  obtain ⟨hd, hs⟩ := hsat
  unfold stepOp
  rw [if_pos (by simp [Region.wanted, hg])]
  obtain ⟨u, w', hr, hch, hv⟩ := h C S hd a w hs (hp.rs trivial)
  simp only [Oper.wp, hr, Oper.upon]
  refine ⟨hd, hs.step (me rs [] v [] []) hp o.dst u hdst (fun _ => False) hch (fun _ h => h.elim) (fun _ _ => rfl) (fun _ => ?_) (fun id x h => by cases h)
    (fun id x b h => by cases h) (fun _ _ _ _ _ h => by cases h)⟩
  refine hv.ext (Chg.refl w' (fun _ => False)) (fun _ h => h.elim) (fun b _ hm => ?_) (fun _ _ => rfl)
  rcases hm with hm | ⟨id, x, hx, hb⟩
  · exact .inl hm
  · exact .inr ⟨id, x, by rw [app_go] at hx; exact hx, hb⟩

theorem MM_lt {C : Ctx} {S : St} {hd : Nat → Value} {a : Act} {w : World} (hs : Sat' C S hd a w) {b : Nat} (h : MM C S hd b) : b < w.heap.size :=
  h.elim (fun h => Nat.lt_of_lt_of_le (C.hM0 b h).1 hs.fr.size) (fun h => (hs.lv b h).2)

/-- an operation that lays memory that is only read -/
def OpN (P : Program) (S : St) (op : Op) (rs : List (Nat × V)) (ro : List (Nat × O)) (v : V) : Prop :=
  (∀ p, p ∈ rs → S.gs p.1 = some p.2) ∧ (∀ p, p ∈ ro → S.go p.1 = some p.2) ∧
    ∀ (C : Ctx) (S2 : St) (hd : Nat → Value) (a : Act) (w : World) (d : Option Nat) (ty : TypeId) (pos : String) (af : Array Edge) (g : Option (Nat × Bool)), Sat' C S2 hd a w →
      (∀ p, p ∈ rs → S2.gs p.1 = some p.2) → (∀ p, p ∈ ro → S2.go p.1 = some p.2) →
      ∃ (u : Value) (w' : World), (execOp a.eval ⟨d, op, ty, pos, af, g⟩).run P w = .ok (.value u) w' ∧ Chg w w' (fun _ => False) ∧ VV w' (MM C S2 hd) hd v u

theorem ncore {op : Op} {rs : List (Nat × V)} {ro : List (Nat × O)} {v v' : V} {gs : List (Nat × V)} {c : Prop} {g : Option (Nat × Bool)}
    (hw : ∀ (C : Ctx) (S : St) (hd : Nat → Value) (a : Act) (w : World), Sat' C S hd a w → (∀ p, p ∈ gs → S.gs p.1 = some p.2) → (Region.wanted ⟨d, op, ty, pos, af, g⟩ (yielded ops a.tmps) = true ↔ c))
    (hgs : ∀ p, p ∈ gs → S.gs p.1 = some p.2) (h : c → OpN P S op rs ro v) (hv : (c ∧ v' = v) ∨ v' = .may c v)
    (D : Der P ops ((⟨gs, c, rs, ro, v', [], []⟩ : Eff).app d S) os es S') : Der P ops S (⟨d, op, ty, pos, af, g⟩ :: os) (⟨gs, c, rs, ro, v', [], []⟩ :: es) S' := by
  refine .cons ?_ ⟨hgs, fun hc => (h hc).1, fun hc => (h hc).2.1, fun _ h => (List.not_mem_nil h).elim⟩ D
  intro C S2 a w ⟨hd, hs⟩ hp hdst
  have hww := hw C S2 hd a w hs hp.gs
  unfold stepOp
  have fin : ∀ (u : Value) (w' : World), Chg w w' (fun _ => False) → VV w' (MM C S2 hd) hd v' u → Sat C ((⟨gs, c, rs, ro, v', [], []⟩ : Eff).app d S2) (a.put d u) w' := fun u w' hch hv => by
    refine ⟨hd, hs.step ⟨gs, c, rs, ro, v', [], []⟩ hp d u hdst (fun _ => False) hch (fun _ h => h.elim) (fun _ _ => rfl) (fun _ => ?_) (fun id x h => by cases h)
      (fun id x b h => by cases h) (fun _ _ _ _ _ h => by cases h)⟩
    refine hv.ext (Chg.refl w' (fun _ => False)) (fun _ h => h.elim) (fun b _ hm => ?_) (fun _ _ => rfl)
    rcases hm with hm | ⟨id, x, hx, hb⟩
    · exact .inl hm
    · exact .inr ⟨id, x, by rw [app_go] at hx; exact hx, hb⟩
  by_cases hc : c
  · rw [if_pos (hww.2 hc)]
    obtain ⟨u, w', hr, hch, hvv⟩ := (h hc).2.2 C S2 hd a w d ty pos af g hs (hp.rs hc) (hp.ro hc)
    simp only [Oper.wp, hr, Oper.upon]
    refine fin u w' hch ?_
    rcases hv with ⟨_, rfl⟩ | rfl
    · exact hvv
    · exact .may _ _ _ (fun _ => hvv) (fun h => absurd hc h)
  · rw [if_neg (fun h => hc (hww.1 h))]
    refine fin undef w (Chg.refl w _) ?_
    rcases hv with ⟨h, _⟩ | rfl
    · exact absurd h hc
    · exact .may _ _ _ (fun h => absurd h hc) (fun _ => rfl)

theorem nu {op : Op} {rs : List (Nat × V)} {ro : List (Nat × O)} {v : V} (h : OpN P S op rs ro v) (D : Der P ops ((re rs ro v).app d S) os es S') :
    Der P ops S (⟨d, op, ty, pos, af, none⟩ :: os) (re rs ro v :: es) S' :=
  ncore (gs := []) (fun _ _ _ _ _ _ _ => by simp [Region.wanted]) (fun _ h => (List.not_mem_nil h).elim) (fun _ => h) (.inl ⟨trivial, rfl⟩) D
theorem ngd {op : Op} {rs : List (Nat × V)} {ro : List (Nat × O)} {v : V} {j t : Nat} {want b : Bool} (hj : gslot ops j = some t) (hb : S.gs t = some (.ro (.bool b))) (h : b = want → OpN P S op rs ro v)
    (D : Der P ops ((ge t b want rs ro v).app d S) os es S') : Der P ops S (⟨d, op, ty, pos, af, some (j, want)⟩ :: os) (ge t b want rs ro v :: es) S' :=
  ncore (gs := [(t, .ro (.bool b))]) (fun _ _ _ _ _ hs h2 => wanted_iff hs hj (h2 (t, .ro (.bool b)) (by simp))) (fun p hp => by simp at hp; subst hp; exact hb) h (.inr rfl) D
theorem ngm {op : Op} {rs : List (Nat × V)} {ro : List (Nat × O)} {v : V} {j t : Nat} {want b : Bool} {c : Prop} (hj : gslot ops j = some t) (hb : S.gs t = some (.may c (.ro (.bool b)))) (h : c ∧ b = want → OpN P S op rs ro v)
    (D : Der P ops ((gme t c b want rs ro v).app d S) os es S') : Der P ops S (⟨d, op, ty, pos, af, some (j, want)⟩ :: os) (gme t c b want rs ro v :: es) S' :=
  ncore (gs := [(t, .may c (.ro (.bool b)))]) (fun _ _ _ _ _ hs h2 => wanted_iff_may hs hj (h2 (t, .may c (.ro (.bool b))) (by simp))) (fun p hp => by simp at hp; subst hp; exact hb) h (.inr rfl) D

/-- a literal list, only read -/
theorem bsn {α : Type} {F : α → List A} {t e : TypeId} {sz n : Nat} {ps : Array (Nat × Operand)} {l : List α} {rs : List (Nat × V)} (hP : PF P t e sz)
    (hp : Parts S 0 ps.toList (l.map F) rs) (hn : Nat.beq n l.length = true) (hsz0 : ∀ x, x ∈ l → (F x).length = sz) (hb : Nat.ble (n * sz) 1000000 = true) :
    OpN P S (.buildSlice t n ps) rs [] (.ro (.list sz (l.map F))) := by
  obtain rfl := Nat.eq_of_beq_eq_true hn
  have hb := Nat.le_of_ble_eq_true hb
  refine ⟨hp.rd, fun _ h => (List.not_mem_nil h).elim, fun C S2 hd a w d ty pos af g hsat h2 _ => ?_⟩
  obtain ⟨i, z, hi, hz, hsz, hzs, hpos, hby⟩ := hP.i
  have hp2 := hp.of h2
  have hls : ∀ cs, cs ∈ l.map F → cs.length = sz := fun cs hcs => by
    obtain ⟨x, hx, rfl⟩ := List.mem_map.1 hcs
    exact hsz0 x hx
  let zero : Array Value := if l.length * sz = 0 then #[] else z.cells
  let cells0 : Array Value := (Array.range (l.length * sz)).map (zero[· % zero.size]!)
  have hc0 : cells0.size = l.length * sz := by simp [cells0]
  obtain ⟨vs, h1, h3, h4, h5⟩ := fill_parts (sz := sz) hsat hp2 hls cells0 (by simp [hc0])
  have hvs : vs.length = l.length * sz := by simpa using h1
  have hfill : Instr.fill (fun i => some (i * sz, sz)) cells0 (ps.toList.map fun p => (p.1, a.eval p.2)) = some vs.toArray := by
    rw [h5]
    simp only [Nat.zero_mul, List.take_zero, List.nil_append, Nat.zero_add]
    rw [List.drop_eq_nil_of_le (by simp [hvs, hc0])]
    simp
  refine ⟨.slice (some ⟨w.heap.size, 0, none⟩) l.length l.length, w.alloc (.cells vs.toArray e), ?_, Chg.alloc w _ _, ?_⟩
  · have hfill' : Instr.fill (fun i => some (i * sz, sz)) cells0 (Array.map (fun x => (x.fst, a.eval x.snd)) ps).toList = some vs.toArray := by simpa using hfill
    have hle : ¬ (l.length * sz > 16777216) := by omega
    by_cases h0 : l.length * sz = 0
    · have hl0 : l = [] := by
        cases l with
        | nil => rfl
        | cons x l => simp [Nat.add_mul] at h0; omega
      subst hl0
      have hps : ps = #[] := by
        have : ps.toList = [] := by
          generalize ps.toList = q at hp2
          cases hp2; rfl
        simpa using this
      subst hps
      have hv0 : vs = [] := List.eq_nil_of_length_eq_zero (by simpa using hvs)
      subst hv0
      simp [execOp, Instr.buildSlice, Sem.run_bind, run_underlying hP.s.u, hP.s.run_sizeOf, newRow, World.alloc_eq, Instr.fill, Array.range_zero']
    · have e0 : cells0 = (Array.range (l.length * sz)).map (z.cells[· % z.cells.size]!) := by simp only [cells0, zero, h0, if_false]
      rw [e0] at hfill
      have hzr : (zeroValue e).run P w = .ok z w := by simp [zeroValue, typeInfo, hi, hz]
      simp [execOp, Instr.buildSlice, Sem.run_bind, run_underlying hP.s.u, hP.s.run_sizeOf, hle, h0, hzr, hfill, newRow, World.alloc_eq]
  · refine .ro _ _ ?_
    cases hl : l with
    | nil => subst hl; exact .emp _ _ _ (Nat.zero_le _)
    | cons x l' =>
      rw [← hl]
      have hll : l.length ≤ l.length * sz := Nat.le_mul_of_pos_right _ hpos
      have := VR.list (w := w.alloc (.cells vs.toArray e)) (M := MM C S2 hd) sz (l.map F) w.heap.size 0 l.length vs (by simp) (by unfold maxLen; omega) (fun hm => by have := MM_lt hsat hm; omega)
        (by simp) hls (by
          have : ∀ q : List (List A), (∀ cs, cs ∈ q → cs.length = sz) → q.flatten.length = q.length * sz := by
            intro q hq
            induction q with
            | nil => simp
            | cons c q ih => simp [Nat.add_mul, hq c (by simp), ih (fun cs hcs => hq cs (by simp [hcs]))]; omega
          rw [this _ hls, hvs]; simp) (fun k v hk => by
          simp only [World.cell?, heap_alloc_new]
          simpa using hk) h3 (fun k a' v ha hk => (h4 k a' v ha hk).ext (Chg.alloc w _ (fun _ => False)) (fun _ h => h.elim) (fun b hlt hm => hm))
      simpa using this
end
end Xb
