/- Own text: Core18. -/
import Derived.Test.YtemfkddlidfbfaaGreatCore17
import Derived.Laws.MakeOwn
set_option linter.all false
set_option linter.unusedVariables false
set_option linter.unusedSimpArgs false
set_option linter.unnecessarySimpa false
set_option linter.deprecated false
/-! make of a list. -/
namespace Xb
open Go

/-- so many of one, and room for more -/
def mkL {α : Type} (z0 : α) (n c : Int) : Option (List α) := if 0 ≤ n ∧ n ≤ c ∧ c ≤ 4294967296 then some (List.replicate n.toNat z0) else none

theorem flat_rep {α : Type} (l : List α) : ∀ (n i : Nat), i < n * l.length → (List.replicate n l).flatten[i]? = l[i % l.length]?
  | 0, i, h => by simp at h
  | n + 1, i, h => by
    rw [List.replicate_succ, List.flatten_cons]
    by_cases hi : i < l.length
    · rw [List.getElem?_append_left hi, Nat.mod_eq_of_lt hi]
    · rw [List.getElem?_append_right (by omega), flat_rep l n (i - l.length) (by rw [Nat.succ_mul] at h; omega), ← Nat.mod_eq_sub_mod (by omega)]

section
variable {P : Program} {ops : Array Oper} {S S' : St} {os : List Oper} {es : List Eff}
variable {d : Option Nat} {ty : TypeId} {pos : String} {af : Array Edge}

theorem mks {α : Type} {F : α → List A} {z0 : α} (id : Nat) {t e : TypeId} {sz : Nat} {x y : Operand} {k1 k2 : IntKind} {n c : Int} {l : List α} {r1 r2 : List (Nat × V)} (hP : PF P t e sz) (hZ : ZF P e ((F z0).map .ro))
    (hx : Er S x (.ro (.int k1 n)) r1) (hy : Er S y (.ro (.int k2 c)) r2) (hm : mkL z0 n c = some l) (hf : S.free id = true)
    (D : Der P ops ((me (r1 ++ r2) [] (.own id) [(id, some (.arr e sz (l.map F)))] [id]).app d S) os es S') :
    Der P ops S (⟨d, .makeSlice t x y, ty, pos, af, none⟩ :: os) (me (r1 ++ r2) [] (.own id) [(id, some (.arr e sz (l.map F)))] [id] :: es) S' := by
  have hm' : (0 ≤ n ∧ n ≤ c ∧ c ≤ 4294967296) ∧ l = List.replicate n.toNat z0 := by
    unfold mkL at hm; split at hm
    · rename_i h; exact ⟨h, (Option.some.inj hm).symm⟩
    · cases hm
  obtain ⟨⟨h0, hnc, hc⟩, rfl⟩ := hm'
  refine .cons (Trip.new (o := ⟨d, .makeSlice t x y, ty, pos, af, none⟩) rfl fun C S2 hd a w hs h2 hf2 => ?_)
    (pre_me (mem_app hx.rd hy.rd) (fun _ h => (List.not_mem_nil h).elim) (by simp; exact hf)) D
  obtain ⟨e1, _⟩ := ((hx.of fun p hp => h2 p (List.mem_append_left _ hp)).vv hs).int_inv
  obtain ⟨e2, _⟩ := ((hy.of fun p hp => h2 p (List.mem_append_right _ hp)).vv hs).int_inv
  obtain ⟨i, z, hi, hz, hsz, hzs, hpos, hby⟩ := hP.i
  obtain ⟨i', z', hi', hz', hzv⟩ := hZ.h
  obtain rfl := Option.some.inj (hi.symm.trans hi')
  obtain rfl := Option.some.inj (hz.symm.trans hz')
  have hbytes : (i.bytes : Int) * c ≤ 281474976710656 := by
    have h1 : (i.bytes : Int) * c ≤ (i.bytes : Int) * 4294967296 := Int.mul_le_mul_of_nonneg_left hc (by omega)
    have h2 : (i.bytes : Int) ≤ 32768 := by omega
    omega
  have hrun := run_make (P := P) w t e i z hP.s.u hi hz k1 k2 n c h0 hnc hbytes (by omega)
  rw [hsz] at hrun
  have hFl : (F z0).length = sz := by
    have := (zvs_ok (w := w) (M := fun _ => False) (hd := hd) hzv).1
    simp at this; omega
  let cells := madeCells z.cells (c.toNat * sz)
  have hcs : cells.size = c.toNat * sz := size_madeCells _ _
  let h' : Value := .slice (some ⟨w.heap.size, 0, none⟩) n.toNat c.toNat
  have hle : n.toNat ≤ c.toNat := by omega
  have hmul : n.toNat * sz ≤ c.toNat * sz := Nat.mul_le_mul_right _ hle
  have hget : ∀ (j : Nat) (v : Value), (cells.toList.take (n.toNat * sz))[j]? = some v → j < n.toNat * sz ∧ z.cells.toList[j % sz]? = some v := by
    intro j v hj
    have hlt : j < n.toNat * sz := by
      have := (List.getElem?_eq_some_iff.1 hj).1
      simp at this; omega
    rw [List.getElem?_take_of_lt hlt] at hj
    refine ⟨hlt, ?_⟩
    have hmod : j % sz < z.cells.size := by rw [hzs]; exact Nat.mod_lt _ hpos
    simp only [cells, madeCells, Array.getElem?_toList, Array.getElem?_map] at hj
    rw [Array.getElem?_range] at hj
    rw [if_pos (by omega)] at hj
    simp at hj
    rw [hzs, getElem!_pos z.cells (j % sz) hmod] at hj
    rw [Array.getElem?_toList, Array.getElem?_eq_getElem hmod, hj]
  refine ⟨h', w.alloc (.cells cells e), h', ?_, Chg.alloc w _ _, fun b hb => ?_, fun M' hM' => ⟨?_, ?_⟩⟩
  · simp only [execOp, e1, e2, Sem.run_bind, hrun, Result.andThen_ok, Sem.run_pure]; rfl
  · simp [blk, h'] at hb; subst hb; simp
  · have := VV.own (w := w.alloc (.cells cells e)) (M := M') (hd := updh hd id h') id (by rw [updh_same]; rfl)
    rwa [updh_same] at this
  · have hz3 := zvs_ok (w := w.alloc (.cells cells e)) (M := M') (hd := updh hd id h') hzv
    have hlen : (cells.toList.take (n.toNat * sz)).length = ((List.replicate n.toNat z0).map F).length * sz := by rw [List.length_take, Array.length_toList, hcs, List.length_map, List.length_replicate, Nat.min_eq_left hmul]
    refine .arr e sz _ (cells.toList.take (n.toNat * sz)) ⟨hlen, .inr ⟨w.heap.size, c.toNat, cells, by simp [h'], Nat.zero_le _, heap_alloc_new w _, by simp; omega, by unfold maxLen; omega, hcs, by simp⟩⟩ ?_ ?_ ?_
    · intro cs hcs'
      simp at hcs'
      rw [hcs'.2]; exact hFl
    · intro j v hj
      exact hz3.2.1 _ v (hget j v hj).2
    · intro j a v ha hj
      obtain ⟨hlt, hv⟩ := hget j v hj
      rw [List.map_replicate, flat_rep (F z0) n.toNat j (by rw [hFl]; exact hlt), hFl] at ha
      exact (hz3.2.2 (j % sz) (.ro a) v (by simp [ha]) hv).ro_of
end
end Xb
