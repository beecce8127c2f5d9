/- Own text: Core29. -/
import Derived.Test.YtemfkddlidfbfaaGreatCore28
import Derived.Lib.AppendZerosOnto
set_option linter.all false
set_option linter.unusedVariables false
set_option linter.unusedSimpArgs false
set_option linter.unnecessarySimpa false
set_option linter.deprecated false
/-! Append noughts. -/
namespace Xb
open Go

section
variable {P : Program} {w : World}

theorem Xb_alloc_old (w : World) (o : Obj) (k : Nat) (hk : k < w.heap.size) : (w.alloc o).heap[k]? = w.heap[k]? := (Chg.alloc w o (fun _ => False)).block k hk (fun h => h)
theorem zeroCells_get {z : Array Value} {n i : Nat} {v : Value} (h : (Builtin.zeroCells z n).toList[i]? = some v) : z[i % z.size]? = some v := by
  have hi : i < n * z.size := by
    have := (List.getElem?_eq_some_iff.1 h).1
    simpa [Builtin.zeroCells] using this
  have hpos : 0 < z.size := by
    refine Nat.pos_of_ne_zero fun h0 => ?_
    rw [h0] at hi; simp at hi
  have hlt : i % z.size < z.size := Nat.mod_lt _ hpos
  simp [Builtin.zeroCells, hi] at h
  rw [← h]
  simp [hlt]

theorem run_appz {t tn ty e : TypeId} {sz : Nat} (hP : PF P t e sz) {kn kq : IntKind} (htn : P.underlying tn = some (.int kn)) {v : Value} {n : Nat} {xs : List Value} (hown : w.ownsRow 0 e sz v n xs) {m : Nat} (hlen : n + m ≤ 4294967296) (hZ1 : ∀ i z, P.info? e = some i → i.zero = some z → ∀ (j : Nat) (u : Value), z.cells[j]? = some u → u.oneCell' = true) :
    ∃ z v' w', (∃ i, P.info? e = some i ∧ i.zero = some z) ∧ (Builtin.append_ #[t, tn] ty #[v, .int kq m]).run P w = .ok v' w' ∧ w'.ownsRow 0 e sz v' (n + m) (xs ++ (Builtin.zeroCells z.cells m).toList) ∧ w.grownBy w' v.ownBlock ∧
      (v'.ownBlock = v.ownBlock ∨ v'.ownBlock = some w.heap.size) := by
  obtain ⟨i, z, hi, hz, hsz, hzs, hpos, hby⟩ := hP.i
  subst hsz
  have hbytes : (n + m) * i.bytes ≤ 140737488355328 := by
    have := Nat.mul_le_mul hlen hby
    omega
  have hw : IntKind.i64.wrap (m : Int) = m := by rw [IntKind.wrap_i64]; omega
  have hneg : ¬ ((m : Int) < 0) := by omega
  have hmb : m * i.bytes ≤ 140737488355328 := Nat.le_trans (Nat.mul_le_mul_right _ (by omega)) hbytes
  have h48i : ¬ (281474976710656 < (m : Int) * (i.bytes : Int)) := by
    rw [← Int.natCast_mul]; omega
  have hl : (Builtin.zeroCells z.cells m).toList.length = m * i.size := by simp [size_zeroCells, hzs]
  have hlen2 : (xs ++ (Builtin.zeroCells z.cells m).toList).length = (n + m) * i.size := by rw [List.length_append, hown.1, hl, Nat.add_mul]
  refine ⟨z, ?_⟩
  by_cases hm : m = 0
  · subst hm
    have hz0 : (Builtin.zeroCells z.cells 0).toList = [] := by simp [Builtin.zeroCells]
    have hw0 : IntKind.i64.wrap 0 = 0 := rfl
    rw [hz0, List.append_nil]
    refine ⟨v, w, ⟨i, hi, hz⟩, ?_, by simpa using hown, ⟨rfl, rfl, rfl, Nat.le_refl _, fun _ _ _ => rfl⟩, .inl rfl⟩
    rcases hown.2 with ⟨rfl, rfl⟩ | ⟨g, cap, cur, rfl, _, _, hnc, _⟩
    · simp [Builtin.append_, run_underlying hP.s.u, run_underlying htn, Go.sizeOf, typeInfo, hi, asInt, asIntOf, hw0]
    · simp [Builtin.append_, run_underlying hP.s.u, run_underlying htn, Go.sizeOf, typeInfo, hi, asInt, asIntOf, hnc, storeCells, hw0]
  · have hns : ¬ (m * i.size = 0) := Nat.mul_ne_zero hm (by omega)
    have grown : ∀ (old : Nat), old < n + m → ∀ (row : Option Nat),
        (w.drew.alloc (.cells (xs.toArray ++ Builtin.zeroCells z.cells m ++ Builtin.zeroCells z.cells (grownCap w (n + m) old e - (n + m))) e)).ownsRow 0 e i.size
          (.slice (some ⟨w.heap.size, 0, none⟩) (n + m) (grownCap w (n + m) old e)) (n + m) (xs ++ (Builtin.zeroCells z.cells m).toList) ∧
        w.grownBy (w.drew.alloc (.cells (xs.toArray ++ Builtin.zeroCells z.cells m ++ Builtin.zeroCells z.cells (grownCap w (n + m) old e - (n + m))) e)) row := by
      intro old ho row
      have hge := grownCap_ge w (n + m) old e
      have hcm : grownCap w (n + m) old e ≤ maxLen := grownCap_le_maxLen w (n + m) old e (by unfold maxLen; omega)
      refine ⟨⟨hlen2, .inr ⟨w.heap.size, _, _, rfl, Nat.zero_le _, heap_alloc_new w.drew _, hge, hcm, ?_, ?_⟩⟩, ⟨rfl, rfl, rfl, by simp, fun k hk _ => Xb_alloc_old w.drew _ k hk⟩⟩
      · simp only [Array.size_append, List.size_toArray, size_zeroCells, hzs, hown.1, ← Nat.add_mul]
        congr 1
        omega
      · simp only [Array.toList_append, List.append_assoc]
        rw [← List.append_assoc, ← hlen2]
        exact List.take_left
    have hsmall : ((n + m : Nat) : Int) ≤ 9223372036854775807 := by omega
    rcases hown.2 with ⟨rfl, rfl⟩ | ⟨g, cap, cur, rfl, _, hg, hnc, hcm, hcs, htake⟩
    · have hx : xs = [] := List.eq_nil_of_length_eq_zero (by simpa using hown.1)
      subst hx
      have hr := Lib.run_append_nil_zeros (P := P) w t tn ty e i z kq kn hP.s.u htn hi hz m (by omega) hpos (by omega) (by omega)
      obtain ⟨g1, g2⟩ := grown 0 (by omega) (Value.ownBlock (.slice none 0 0))
      simp only [Nat.zero_add, List.nil_append, Array.empty_append] at g1 g2 ⊢
      exact ⟨_, _, ⟨i, hi, hz⟩, hr, g1, g2, .inr rfl⟩
    · by_cases hroom : n + m ≤ cap
      · have hone : ∀ u ∈ (Builtin.zeroCells z.cells m).toList, u.oneCell' = true := by
          intro u hu
          obtain ⟨j, hj⟩ := List.mem_iff_getElem?.1 hu
          exact hZ1 i z hi hz _ u (zeroCells_get hj)
        have hfit : n * i.size + (Builtin.zeroCells z.cells m).toList.length ≤ cur.size := by rw [hl, hcs, ← Nat.add_mul]; exact Nat.mul_le_mul_right _ hroom
        have hst := run_storeCells_at P g (n * i.size) e (Builtin.zeroCells z.cells m).toList 0 cur w hg (by simpa using hfit) hone
        simp only [Nat.add_zero] at hst
        refine ⟨.slice (some ⟨g, 0, none⟩) (n + m) cap, w.setRow g (cur.toList.take (n * i.size) ++ (Builtin.zeroCells z.cells m).toList ++ cur.toList.drop (n * i.size + (Builtin.zeroCells z.cells m).toList.length)).toArray, ⟨i, hi, hz⟩, ?_, ⟨hlen2, .inr ⟨g, cap, _, rfl, Nat.zero_le _, setRow_heap w g cur _ e _ hg, hroom, hcm, ?_, ?_⟩⟩, ⟨rfl, rfl, rfl, by simp, fun k _ hk => setRow_other w g k _ (fun e => hk (by simp [Value.ownBlock, e]))⟩, .inl rfl⟩
        · simp [Builtin.append_, run_underlying hP.s.u, run_underlying htn, Go.sizeOf, typeInfo, zeroValue, hi, hz, asInt, asIntOf, hw, hneg, h48i, hroom, hns, Addr.add_lit, hst]
        · simp only [List.size_toArray, List.length_append, List.length_take, List.length_drop, Array.length_toList] at hfit ⊢
          omega
        · rw [htake, ← hlen2]
          exact List.take_left
      · have holds : (Builtin.firstCells i.size n (.slice (some ⟨g, 0, none⟩) n cap)).run P w.drew = .ok xs.toArray w.drew := by
          have h1 : ∀ j u, xs[j]? = some u → w.drew.cell? ((⟨g, 0, none⟩ : Addr).add j) = some u := hown.cells rfl
          exact run_firstCells_some (P := P) w.drew i.size n ⟨g, 0, none⟩ n cap xs hown.1 h1
        have hr := Lib.run_append_grow_zeros (P := P) w t tn ty e i z kq kn hP.s.u htn hi hz (some ⟨g, 0, none⟩) n cap xs holds m (by omega) hpos (by omega) hsmall (by omega) (growslice_fits (by omega) hbytes)
        obtain ⟨g1, g2⟩ := grown cap (by omega) (Value.ownBlock (.slice (some ⟨g, 0, none⟩) n cap))
        exact ⟨_, _, ⟨i, hi, hz⟩, hr, g1, g2, .inr rfl⟩
end

def appZ {α : Type} (z0 : α) (l : List α) (n : Int) : Option (List α) := if 0 ≤ n ∧ (l.length : Int) + n ≤ 4294967296 then some (l ++ List.replicate n.toNat z0) else none

section
variable {P : Program} {ops : Array Oper} {S S' : St} {os : List Oper} {es : List Eff}
variable {d : Option Nat} {ty : TypeId} {pos : String} {af : Array Edge}

theorem run_append_op2 {x y : Operand} {t tn : TypeId} {a : Act} {w w' : World} {v' : Value} (h : (Builtin.append_ #[t, tn] ty #[a.eval x, a.eval y]).run P w = .ok v' w') :
    (execOp a.eval ⟨d, .call ⟨.builtin .append, #[x, y], #[t, tn]⟩, ty, pos, af, none⟩).run P w = .ok (.value v') w' := by
  simp only [execOp, resolve, invoke, builtin, Sem.run_bind, Sem.run_pure, Result.andThen_ok, List.map_toArray, List.map_cons, List.map_nil, h]

/-- append so many noughts -/
theorem apz {α : Type} {F : α → List A} {z0 : α} (id : Nat) {x y : Operand} {t tn e : TypeId} {sz i1 : Nat} {l q : List α} {kn k : IntKind} {n : Int} (hP : PF P t e sz) (htn : P.underlying tn = some (.int kn)) (hZ : ZF P e ((F z0).map .ro))
    (hx : Ev S x (.own i1)) (hO : S.go i1 = some (.arr e sz (l.map F))) (hy : Ev S y (.ro (.int k n))) (hq : appZ z0 l n = some q) (hf : S.free id = true)
    (D : Der P ops ((me ((rd x (.own i1) ++ rd y (.ro (.int k n)))) [(i1, .arr e sz (l.map F))] (.own id) [(id, some (.arr e sz (q.map F))), (i1, none)] [id]).app d S) os es S') :
    Der P ops S (⟨d, .call ⟨.builtin .append, #[x, y], #[t, tn]⟩, ty, pos, af, none⟩ :: os)
      (me ((rd x (.own i1) ++ rd y (.ro (.int k n)))) [(i1, .arr e sz (l.map F))] (.own id) [(id, some (.arr e sz (q.map F))), (i1, none)] [id] :: es) S' := by
  have hq' : (0 ≤ n ∧ (l.length : Int) + n ≤ 4294967296) ∧ q = l ++ List.replicate n.toNat z0 := by
    unfold appZ at hq; split at hq
    · rename_i h; exact ⟨h, (Option.some.inj hq).symm⟩
    · cases hq
  obtain ⟨⟨h0, hlen⟩, rfl⟩ := hq'
  refine .cons ?_ (pre_me (mem_app hx.rd hy.rd) (by simp; exact hO) (by simp; exact hf)) D
  refine Trip.mem rfl fun C S2 hd a w hs hp => ?_
  have h2 := hp.rs trivial
  have hO2 := hp.ro trivial (i1, .arr e sz (l.map F)) (by simp [me])
  have e1 := ((hx.of fun p hp => h2 p (List.mem_append_left _ hp)).vv hs).own_inv
  obtain ⟨e2, _⟩ := ((hy.of fun p hp => h2 p (List.mem_append_right _ hp)).vv hs).int_inv
  obtain ⟨m, hm⟩ : ∃ m : Nat, n = m := ⟨n.toNat, by omega⟩
  subst hm
  rw [Int.toNat_natCast] at *
  obtain ⟨xs, hown, _, hls, hlo, hlv⟩ := stands_own (hs.ob i1 _ hO2)
  have hfl : (l.map F).flatten.length = xs.length := by
    rw [hown.1]
    have : ∀ (l : List (List A)), (∀ cs, cs ∈ l → cs.length = sz) → l.flatten.length = l.length * sz := by
      intro l
      induction l with
      | nil => intro _; simp
      | cons c l ih => intro h; rw [List.flatten_cons, List.length_append, ih (fun cs hc => h cs (by simp [hc])), h c (by simp), List.length_cons, Nat.add_mul]; omega
    exact this _ hls
  obtain ⟨i', z', hi', hz', hzv⟩ := hZ.h
  have hz3 := zvs_ok (w := w) (M := fun _ => False) (hd := hd) hzv
  obtain ⟨z, u, w', ⟨i, hi, hz⟩, hrun, hown', hgr, hblk⟩ := run_appz (P := P) (ty := ty) (kq := k) hP htn hown (m := m) (by simp; omega) (fun i z hi hz j u hj => by
    obtain rfl := Option.some.inj (hi.symm.trans hi')
    obtain rfl := Option.some.inj (hz.symm.trans hz')
    exact hz3.2.1 j u (by simpa using hj))
  obtain rfl := Option.some.inj (hi.symm.trans hi')
  obtain rfl := Option.some.inj (hz.symm.trans hz')
  obtain ⟨i0, z0', hi0, hz0, hsz, hzs, hpos, hby⟩ := hP.i
  obtain rfl := Option.some.inj (hi.symm.trans hi0)
  obtain rfl := Option.some.inj (hz.symm.trans hz0)
  have hFl : (F z0).length = sz := by
    have := hz3.1
    simp at this; omega
  have hchg : Chg w w' (fun b => (hd i1).ownBlock = some b) := ⟨hgr.os, hgr.tape, hgr.output, hgr.size, fun k hk hn => hgr.block k hk (fun e => hn e.symm)⟩
  have hbb : ∀ b, blk u = some b → blk (hd i1) = some b ∨ (w.heap.size ≤ b ∧ b < w'.heap.size) := by
    intro b hb
    have hub := blk_ownBlock hown' hb
    rcases hblk with h | h
    · left; rw [h] at hub; exact ownBlock_blk hub
    · right
      rw [h] at hub; cases hub
      exact ⟨Nat.le_refl _, (hown'.lt _ h).2⟩
  have hone : u.oneCell' = true := by
    rcases hown'.2 with ⟨rfl, _⟩ | ⟨g, cap, cur, rfl, _⟩ <;> rfl
  have hzget : ∀ (j : Nat) (v : Value), (Builtin.zeroCells z.cells m).toList[j]? = some v → j < m * sz ∧ z.cells.toList[j % sz]? = some v := by
    intro j v hj
    have hlt : j < m * sz := by
      have := (List.getElem?_eq_some_iff.1 hj).1
      simpa [size_zeroCells, hzs] using this
    have := zeroCells_get hj
    rw [hzs] at this
    exact ⟨hlt, by simpa using this⟩
  have hlk : ∀ i y, lk [(id, some (O.arr e sz (List.map F (l ++ List.replicate m z0)))), (i1, none)] i = some (some y) → i = id ∧ y = .arr e sz (List.map F (l ++ List.replicate m z0)) := by
    intro i y hy
    rcases lk_two (i1 := i1) (id := id) (x := O.arr e sz (List.map F (l ++ List.replicate m z0))) i with h | h | ⟨h1, h2⟩
    · rw [h] at hy; cases hy
    · rw [h] at hy; cases hy
    · rw [h2] at hy; cases hy; exact ⟨h1, rfl⟩
  refine ⟨_, u, w', updh hd id u, _, run_append_op2 (by rw [e1.1, e2]; exact hrun), .inl rfl, hchg, fun b hb => ?_, fun i hi => updh_ne (fun e => hi (by simp [me, e])), fun M' hM' => ⟨fun _ => ?_, fun i y hy => ?_⟩, fun i y b hy hb => ?_,
    fun j1 j2 x1 x2 b h1 h2 _ _ => ((hlk j1 x1 h1).1).trans ((hlk j2 x2 h2).1).symm⟩
  · cases hl : lk [(id, some (O.arr e sz (List.map F (l ++ List.replicate m z0)))), (i1, none)] i1 with
    | none => exact (lk_two_ne hl).elim
    | some y => exact ⟨i1, _, y, hO2, ownBlock_blk hb, hl⟩
  · have := VV.own (w := w') (M := M') (hd := updh hd id u) id (by rw [updh_same]; exact hone)
    rwa [updh_same] at this
  · obtain ⟨rfl, rfl⟩ := hlk i y hy
    rw [updh_same, List.map_append, List.map_replicate]
    refine .arr e sz _ _ (by simpa using hown') (fun cs hcs => ?_) (one_append hlo fun j v hj => hz3.2.1 _ v (hzget j v hj).2) (rel_append hfl (fun j c v hj hv => (hlv j c v hj hv).ext hchg (fun b hb => .inr ⟨i1, _, hO2, ownBlock_blk hb⟩) hM') fun j c v hj hv => ?_)
    · rcases List.mem_append.1 hcs with h | h
      · exact hls cs h
      · rw [List.eq_of_mem_replicate h]; exact hFl
    · obtain ⟨hlt, hv'⟩ := hzget j v hv
      rw [flat_rep (F z0) m j (by rw [hFl]; exact hlt), hFl] at hj
      have := (zvs_ok (w := w') (M := M') (hd := updh hd i u) hzv).2.2 (j % sz) (.ro c) v (by simp [hj]) hv'
      exact this.ro_of
  · obtain ⟨rfl, rfl⟩ := hlk i y hy
    rw [updh_same] at hb
    rcases hbb b hb with h | h
    · right
      cases hl : lk [(i, some (O.arr e sz (List.map F (l ++ List.replicate m z0)))), (i1, none)] i1 with
      | none => exact (lk_two_ne hl).elim
      | some y => exact ⟨i1, _, y, hO2, h, hl⟩
    · left; exact h
end
end Xb
