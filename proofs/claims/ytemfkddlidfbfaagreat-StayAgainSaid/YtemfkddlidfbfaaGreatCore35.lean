/- Own text: Core35. -/
import Derived.Test.YtemfkddlidfbfaaGreatCore34
set_option linter.all false
set_option linter.unusedVariables false
set_option linter.unusedSimpArgs false
set_option linter.unnecessarySimpa false
set_option linter.deprecated false
/-! A literal list of pointers: a box of its own, of which the list is a piece. -/
namespace Xb
open Go

inductive Ptrs (S : St) : Nat → List (Nat × Operand) → List V → List (Nat × V) → Prop
  | n {i : Nat} : Ptrs S i [] [] []
  | c {i j off : Nat} {x : Operand} {ps : List (Nat × Operand)} {xs : List V} {r rs : List (Nat × V)} (h : Er S x (.ptr j off) r) (hp : Ptrs S (i + 1) ps xs rs) : Ptrs S i ((i, x) :: ps) (.ptr j off :: xs) (r ++ rs)
theorem Ptrs.rd {S : St} {i : Nat} {ps : List (Nat × Operand)} {l : List V} {rs : List (Nat × V)} (h : Ptrs S i ps l rs) : ∀ p, p ∈ rs → S.gs p.1 = some p.2 := by
  induction h with
  | n => simp
  | c h _ ih => exact mem_app h.rd ih
theorem Ptrs.of {S S' : St} {i : Nat} {ps : List (Nat × Operand)} {l : List V} {rs : List (Nat × V)} (h : Ptrs S i ps l rs) (hr : ∀ p, p ∈ rs → S'.gs p.1 = some p.2) : Ptrs S' i ps l rs := by
  induction h with
  | n => exact .n
  | c h _ ih => exact .c (h.of fun p hp => hr p (List.mem_append_left _ hp)) (ih fun p hp => hr p (List.mem_append_right _ hp))
theorem Er.men {S : St} {id : Nat} (hf : S.free id = true) {x : Operand} {j off : Nat} {r : List (Nat × V)} (h : Er S x (.ptr j off) r) : V.men id (.ptr j off) = false := by
  cases h with
  | e h =>
    cases h with
    | t h => exact free_slot hf h
  | m h _ =>
    have := free_slot hf h
    simpa [V.men] using this
theorem Ptrs.men {S : St} {id : Nat} (hf : S.free id = true) {i : Nat} {ps : List (Nat × Operand)} {l : List V} {rs : List (Nat × V)} (h : Ptrs S i ps l rs) : V.mens id l = false := by
  induction h with
  | n => rfl
  | c h _ ih => simp only [V.mens, h.men hf, ih, Bool.or_self]

theorem fill_ptrs {C : Ctx} {S : St} {hd : Nat → Value} {a : Act} {w : World} (hs : Sat' C S hd a w) {i : Nat} {ps : List (Nat × Operand)} {l : List V} {rs : List (Nat × V)} (h : Ptrs S i ps l rs) :
    ∀ (cells : Array Value), i * 1 + l.length * 1 ≤ cells.size →
      ∃ vs : List Value, vs.length = l.length ∧ (∀ (k : Nat) (v : Value), vs[k]? = some v → v.oneCell' = true) ∧ (∀ (k : Nat) (x : V) (v : Value), l[k]? = some x → vs[k]? = some v → VV w (MM C S hd) hd x v) ∧
        Instr.fill (fun i => some (i * 1, 1)) cells (ps.map fun p => (p.1, a.eval p.2)) = some (cells.toList.take (i * 1) ++ vs ++ cells.toList.drop (i * 1 + vs.length)).toArray := by
  induction h with
  | n => intro cells _; exact ⟨[], by simp, by simp, by simp, by simp [Instr.fill]⟩
  | @c i j off x ps l r rs hx hp ih =>
    intro cells hsz
    have hvx := hx.vv hs
    obtain ⟨us, hus, hlu, hou, hvu⟩ := hvx.cells (show cellsV (.ptr j off) = some [.ptr j off] from rfl)
    have hlen : us.length = 1 := by rw [← hlu]; rfl
    simp only [List.length_cons, Nat.mul_one] at hsz
    let cells' : Array Value := (cells.toList.take (i * 1) ++ us ++ cells.toList.drop (i * 1 + us.length)).toArray
    have hsize : cells'.size = cells.size := by simp [cells']; omega
    obtain ⟨vs, h1, h2, h3, h4⟩ := ih cells' (by rw [hsize]; omega)
    refine ⟨us ++ vs, by simp [h1, hlen]; omega, one_append hou h2, ?_, ?_⟩
    · intro k y v hy hk
      by_cases hki : k < us.length
      · rw [List.getElem?_append_left hki] at hk
        have hk0 : k = 0 := by omega
        subst hk0
        exact hvu 0 y v (by simpa using hy) hk
      · rw [List.getElem?_append_right (by omega)] at hk
        obtain ⟨k', rfl⟩ : ∃ k', k = k' + 1 := ⟨k - 1, by omega⟩
        rw [hlen] at hk
        exact h3 k' y v (by simpa using hy) (by simpa using hk)
    · simp only [List.map_cons, Instr.fill]
      have hus' : (a.eval x).cells = us.toArray := hus
      rw [hus']
      simp only [List.size_toArray, hlen, ne_eq, not_true, decide_false, Bool.false_or]
      have hle : ¬ (i * 1 + 1 > cells.size) := by omega
      rw [if_neg (by simpa using hle)]
      have hf := foldl_set (cells := cells) (off := i * 1) (vs := us) (by omega)
      rw [show (us.toArray : Array Value) = ⟨us⟩ from rfl, hf, h4]
      congr 2
      simp only [cells', Nat.add_mul, Nat.one_mul]
      have e1 : (cells.toList.take (i * 1) ++ us ++ cells.toList.drop (i * 1 + us.length)).take (i * 1 + 1) = cells.toList.take (i * 1) ++ us := by
        rw [List.take_append_of_le_length (by simp; omega)]
        exact List.take_of_length_le (by simp; omega)
      have e2 : (cells.toList.take (i * 1) ++ us ++ cells.toList.drop (i * 1 + us.length)).drop (i * 1 + 1 + vs.length) = cells.toList.drop (i * 1 + (us ++ vs).length) := by
        rw [List.drop_append, List.drop_eq_nil_of_le (by simp; omega), List.nil_append, List.drop_drop]
        congr 1
        simp; omega
      rw [e1, e2]
      simp

section
variable {P : Program} {ops : Array Oper} {S S' : St} {os : List Oper} {es : List Eff}
variable {d : Option Nat} {ty : TypeId} {pos : String} {af : Array Edge}

/-- a literal list of pointers -/
theorem bsp (id : Nat) {t e : TypeId} {n : Nat} {ps : Array (Nat × Operand)} {l : List V} {rs : List (Nat × V)} (hP : PF P t e 1)
    (hp : Ptrs S 0 ps.toList l rs) (hn : Nat.beq n l.length = true) (h1 : Nat.ble 1 n = true) (hb : Nat.ble n 1000000 = true) (hf : S.free id = true)
    (D : Der P ops ((me rs [] (.view id 1 0 n) [(id, some (.box l))] [id]).app d S) os es S') :
    Der P ops S (⟨d, .buildSlice t n ps, ty, pos, af, none⟩ :: os) (me rs [] (.view id 1 0 n) [(id, some (.box l))] [id] :: es) S' := by
  obtain rfl := Nat.eq_of_beq_eq_true hn
  have hb := Nat.le_of_ble_eq_true hb
  have h1' := Nat.le_of_ble_eq_true h1
  refine .cons (Trip.new (o := ⟨d, .buildSlice t l.length ps, ty, pos, af, none⟩) rfl fun C S2 hd a w hsat h2 hf2 => ?_)
    (pre_me hp.rd (fun _ h => (List.not_mem_nil h).elim) (by simp; exact hf)) D
  obtain ⟨i, z, hi, hz, hsz, hzs, hpos, hby⟩ := hP.i
  have hp2 := hp.of h2
  let cells0 : Array Value := (Array.range l.length).map (z.cells[· % z.cells.size]!)
  have hc0 : cells0.size = l.length := by simp [cells0]
  obtain ⟨vs, hl1, h3, h4, h5⟩ := fill_ptrs hsat hp2 cells0 (by simp [hc0])
  have hfill : Instr.fill (fun i => some (i, 1)) cells0 (ps.toList.map fun p => (p.1, a.eval p.2)) = some vs.toArray := by
    have ef : (fun i => some (i * 1, 1)) = fun i : Nat => some (i, 1) := by funext i; rw [Nat.mul_one]
    rw [ef] at h5
    rw [h5]
    simp only [Nat.zero_mul, List.take_zero, List.nil_append, Nat.zero_add]
    rw [List.drop_eq_nil_of_le (by simp [hl1, hc0])]
    simp
  refine ⟨.slice (some ⟨w.heap.size, 0, none⟩) l.length l.length, w.alloc (.cells vs.toArray e), .pointer (some ⟨w.heap.size, 0, none⟩), ?_, Chg.alloc w _ _, fun b hb => ?_, fun M' hM' => ⟨?_, ?_⟩⟩
  · have hle : ¬ (l.length > 16777216) := by omega
    have h0 : ¬ l.length = 0 := by omega
    have hzr : (zeroValue e).run P w = .ok z w := by simp [zeroValue, typeInfo, hi, hz]
    have hfill2 : Instr.fill (fun i => some (i, 1)) ((Array.range l.length).map (z.cells[· % z.cells.size]!)) (ps.toList.map fun x => (x.fst, a.eval x.snd)) = some vs.toArray := hfill
    simp [execOp, Instr.buildSlice, Sem.run_bind, run_underlying hP.s.u, hP.s.run_sizeOf, hle, h0, hzr, hfill2, newRow, World.alloc_eq]
  · simp [blk] at hb; subst hb; simp
  · refine .view id 1 0 _ _ (.inr ⟨w.heap.size, l.length, ?_, by simp, Nat.le_refl _, by unfold maxLen; omega⟩)
    simp [updh, blk]
  · refine .box l vs e w.heap.size rfl (heap_alloc_new w _) (by omega) h3 fun i a v hi hvi => ?_
    exact (h4 i a v hi hvi).ext (Chg.alloc w _ (fun _ => False)) (fun _ h => h.elim) hM' fun j hj => updh_ne fun e => by
      subst e; rw [V.mens_get (hp2.men hf2) hi] at hj; cases hj

/-- an element of it -/
theorem ixb {t e : TypeId} {id lo n : Nat} {x y : Operand} {k : IntKind} {i : Int} {r1 r2 : List (Nat × V)} (hT : SF P t e 1) (hx : Er S x (.view id 1 lo n) r1)
    (hy : Er S y (.ro (.int k i)) r2) (h0 : decide (0 ≤ i) = true) (h1 : decide (i < n) = true) :
    OpV P S (.indexAddr t x y) (r1 ++ r2) [] (.ptr id (lo + i.toNat)) := by
  have h0 := of_decide_eq_true h0
  have h1 := of_decide_eq_true h1
  refine ⟨mem_app hx.rd hy.rd, by simp, fun C S2 hd a w d ty pos af g hs h2 h3 => ?_⟩
  have e1 := ((hx.of fun p hp => h2 p (List.mem_append_left _ hp)).vv hs).view_inv
  obtain ⟨e2, _⟩ := ((hy.of fun p hp => h2 p (List.mem_append_right _ hp)).vv hs).int_inv
  rcases e1 with ⟨hz, _⟩ | ⟨b, cap, hbk, hv, hc1, hc2⟩
  · omega
  · refine ⟨.pointer (some ⟨b, lo + i.toNat, none⟩), ?_, .ptr _ _ b hbk⟩
    simp only [execOp, hv, e2, Instr.indexAt, asIntOf, Sem.run_bind, Sem.run_pure, Result.andThen_ok, run_underlying hT.u, Bool.and_false, h0, h1, and_self, if_true, Sem.run_ite, hT.run_sizeOf, Addr.add_lit, Nat.mul_one]
end
end Xb
