/- Own text: Core30. -/
import Derived.Test.YtemfkddlidfbfaaGreatCore29
set_option linter.all false
set_option linter.unusedVariables false
set_option linter.unusedSimpArgs false
set_option linter.unnecessarySimpa false
set_option linter.deprecated false
/-! Pointers that are not nil; a field of an element, stored; calls that lend boxes and hand back new lists. -/
namespace Xb
open Go

/-! a piece put into cells of data -/
def setA : Nat → List A → List A → Option (List A)
  | 0, [], cs => some cs
  | 0, _ :: _, [] => none
  | 0, x :: xs, _ :: cs => match setA 0 xs cs with | some r => some (x :: r) | none => none
  | _ + 1, _, [] => none
  | n + 1, xs, c :: cs => match setA n xs cs with | some r => some (c :: r) | none => none

theorem setA_eq : ∀ {n : Nat} {xs cs r : List A}, setA n xs cs = some r → r = cs.take n ++ xs ++ cs.drop (n + xs.length) ∧ n + xs.length ≤ cs.length
  | 0, [], cs, r, h => by simp [setA] at h; subst h; simp
  | 0, _ :: _, [], r, h => by simp [setA] at h
  | 0, x :: xs, c :: cs, r, h => by
    simp only [setA] at h
    split at h
    · rename_i r' hr
      cases h
      obtain ⟨h1, h2⟩ := setA_eq hr
      subst h1
      refine ⟨by simp, by simp at h2 ⊢; omega⟩
    · cases h
  | n + 1, xs, [], r, h => by simp [setA] at h
  | n + 1, xs, c :: cs, r, h => by
    simp only [setA] at h
    split at h
    · rename_i r' hr
      cases h
      obtain ⟨h1, h2⟩ := setA_eq hr
      subst h1
      refine ⟨?_, by simp at h2 ⊢; omega⟩
      have : n + 1 + xs.length = (n + xs.length) + 1 := by omega
      simp [this]
    · cases h

section
variable {P : Program} {ops : Array Oper} {S S' : St} {os : List Oper} {es : List Eff}
variable {d : Option Nat} {ty : TypeId} {pos : String} {af : Array Edge}

/-- a pointer that isn't nil -/
theorem nkp {x : Operand} {id o : Nat} {rs : List (Nat × V)} (hx : Er S x (.ptr id o) rs) : OpV P S (.nilCheck x) rs [] (.ptr id o) :=
  .one hx (fun w M hd a d ty pos af g h1 => by
    obtain ⟨b, hb, e⟩ := h1.ptr_inv
    exact ⟨.pointer (some ⟨b, o, none⟩), by simp only [execOp, e, Sem.run_pure], .ptr _ _ b hb⟩)
theorem nkr {x : Operand} {cs : List A} {rs : List (Nat × V)} (hx : Er S x (.rptr cs) rs) : OpV P S (.nilCheck x) rs [] (.rptr cs) :=
  .one hx (fun w M hd a d ty pos af g h1 => by
    have h0 := h1
    obtain ⟨b, o, vs, e, _⟩ := h1.rptr_inv
    exact ⟨.pointer (some ⟨b, o, none⟩), by simp only [execOp, e, Sem.run_pure], by rw [← e]; exact h0⟩)

theorem set_flatten_f {sz off : Nat} {l : List (List A)} {i : Nat} {cs xs : List A} (hs : ∀ cs, cs ∈ l → cs.length = sz) (hi : l[i]? = some cs) (ho : off + xs.length ≤ sz) :
    (l.set i (cs.take off ++ xs ++ cs.drop (off + xs.length))).flatten = l.flatten.take (i * sz + off) ++ xs ++ l.flatten.drop (i * sz + off + xs.length) := by
  have hlt : i < l.length := (List.getElem?_eq_some_iff.1 hi).1
  have hcs : cs.length = sz := hs cs (List.mem_of_getElem? hi)
  have h1 := set_flatten (cs := cs.take off ++ xs ++ cs.drop (off + xs.length)) hs hlt (by simp; omega)
  have h2 := set_flatten (cs := cs) hs hlt hcs
  have hself : l.set i cs = l := by
    apply List.ext_getElem?
    intro j
    rw [List.getElem?_set]
    split
    · rename_i h; subst h; exact hi.symm
    · rfl
  rw [hself] at h2
  have hA : (l.flatten.take (i * sz)).length = i * sz := by
    rw [List.length_take, flatten_len hs]
    have := Nat.mul_le_mul_right sz (show i ≤ l.length by omega)
    omega
  rw [h1]
  generalize l.flatten.take (i * sz) = Aa at h2 hA
  generalize l.flatten.drop (i * sz + sz) = Dd at h2
  rw [h2]
  have t1 : (Aa ++ cs ++ Dd).take (i * sz + off) = Aa ++ cs.take off := by
    rw [List.append_assoc, ← hA, List.take_length_add_append, List.take_append_of_le_length (by omega)]
  have d1 : (Aa ++ cs ++ Dd).drop (i * sz + off + xs.length) = cs.drop (off + xs.length) ++ Dd := by
    rw [List.append_assoc, ← hA, Nat.add_assoc, List.drop_length_add_append, List.drop_append_of_le_length (by omega)]
  rw [t1, d1]
  simp only [List.append_assoc]

/-- a field of an element of one's own, stored -/
theorem sef {α : Type} {F : α → List A} {t e : TypeId} {ag : Bool} {n sz id i off : Nat} {x y : Operand} {l : List α} {q0 q : α} {ys : List A} {vy : V} {r1 r2 : List (Nat × V)} (hT : TF P t ag n) (hx : Er S x (.ptr id (i * sz + off)) r1)
    (hO : S.go id = some (.arr e sz (l.map F))) (hi : l[i]? = some q0)
    (hy : Er S y vy r2) (hc : cellsV vy = some (ys.map .ro)) (hn : Nat.beq ys.length n = true) (hq : setA off ys (F q0) = some (F q))
    (D : Der P ops ((me (r1 ++ r2) [(id, .arr e sz (l.map F))] .un [(id, some (.arr e sz ((l.set i q).map F)))] []).app d S) os es S') :
    Der P ops S (⟨d, .store t x y, ty, pos, af, none⟩ :: os) (me (r1 ++ r2) [(id, .arr e sz (l.map F))] .un [(id, some (.arr e sz ((l.set i q).map F)))] [] :: es) S' := by
  have hfn := Nat.eq_of_beq_eq_true hn
  obtain ⟨hFq, hoff⟩ := setA_eq hq
  refine .cons (Trip.mem (o := ⟨d, .store t x y, ty, pos, af, none⟩) rfl fun C S2 hd a w hs hp => ?_)
    (pre_me (mem_app hx.rd hy.rd) (by simp; exact hO) (fun _ h => (List.not_mem_nil h).elim)) D
  have h2 := hp.rs trivial
  have e1 := ((hx.of fun p hp => h2 p (List.mem_append_left _ hp)).vv hs)
  have e2 := ((hy.of fun p hp => h2 p (List.mem_append_right _ hp)).vv hs)
  obtain ⟨b, hb, ex⟩ := e1.ptr_inv
  have hgo := hp.ro trivial (id, .arr e sz (l.map F)) (by simp [me])
  obtain ⟨xs, hr, _, hls, hlo, hlv⟩ := stands_own (hs.ob id _ hgo)
  obtain ⟨us, hus, hlu, hou, hvu⟩ := e2.cells hc
  have hun : us.length = n := by rw [← hlu]; simpa using hfn
  have hiF : (l.map F)[i]? = some (F q0) := by rw [List.getElem?_map, hi]; rfl
  have hlt : i < l.length := (List.getElem?_eq_some_iff.1 hi).1
  have hq0 : (F q0).length = sz := hls _ (List.mem_of_getElem? hiF)
  have hset : (l.set i q).map F = (l.map F).set i ((F q0).take off ++ ys ++ (F q0).drop (off + ys.length)) := by rw [List.map_set, hFq]
  have hqn : ((F q0).take off ++ ys ++ (F q0).drop (off + ys.length)).length = sz := by simp; omega
  rcases hr.2 with ⟨h0, _⟩ | ⟨g', cap, cur, hv', hg0, hg, hnc, hm, hcs, htake⟩
  · rw [h0] at hb; cases hb
  have : g' = b := by rw [hv'] at hb; simpa [blk] using hb
  subst this
  simp only [List.length_map] at hr hnc htake
  have hil : i * sz + sz ≤ l.length * sz := by
    have := Nat.mul_le_mul_right sz (show i + 1 ≤ l.length by omega)
    rw [Nat.add_mul] at this; omega
  have hcap : l.length * sz ≤ cap * sz := Nat.mul_le_mul_right sz hnc
  have hrun := run_storeCells_at P g' (i * sz + off) e us 0 cur w hg (by rw [hcs]; omega) (fun v hv => by
    obtain ⟨j, hj⟩ := List.mem_iff_getElem?.1 hv
    exact hou j v hj)
  simp only [Nat.add_zero] at hrun
  have hlk : ∀ j y, lk [(id, some (O.arr e sz ((l.set i q).map F)))] j = some (some y) → j = id ∧ y = .arr e sz ((l.set i q).map F) := by
    intro j y hy
    simp only [lk] at hy
    by_cases hj : id = j
    · subst hj
      simp only [Nat.beq_refl, cond_true, Option.some.injEq] at hy
      exact ⟨rfl, hy.symm⟩
    · rw [beq_ne hj] at hy; cases hy
  refine ⟨.skip, undef, _, hd, fun k => k = g', ?_, .inr ⟨rfl, rfl⟩, Chg.setRow w g' (cur.toList.take (i * sz + off) ++ us ++ cur.toList.drop (i * sz + off + us.length)).toArray, ?_, fun _ _ => rfl, fun M' hM' => ⟨fun _ => .un _, ?_⟩, ?_, ?_⟩
  · have hsz : us.toArray.size = n := by simpa using hun
    have hus' : (a.eval y).cells = us.toArray := hus
    have hTn : TF P t ag n := hT
    simp only [execOp, ex, Instr.storeAt, Instr.sureAddr, Sem.run_bind, Sem.run_pure, Result.andThen_ok, storeVar, hTn.run_sizeOf, hus', hsz, ne_eq, not_true, if_false, Sem.run_ite, hrun]
  · rintro k rfl
    exact ⟨id, _, _, hgo, by rw [hv']; rfl, by simp only [me, lk, Nat.beq_refl, cond_true]; rfl⟩
  · intro j y hy
    obtain ⟨rfl, rfl⟩ := hlk j y hy
    have hBM : ∀ k, k = g' → MM C S2 hd k := by rintro k rfl; exact .inr ⟨j, _, hgo, by rw [hv']; rfl⟩
    have hxl : xs.length = l.length * sz := by have := hr.1; simpa using this
    have hls' : ∀ cs, cs ∈ (l.set i q).map F → cs.length = sz := by
      rw [hset]
      intro cs hcs'
      rcases List.mem_or_eq_of_mem_set hcs' with h | h
      · exact hls cs h
      · rw [h]; exact hqn
    refine .arr e sz _ (xs.take (i * sz + off) ++ us ++ xs.drop (i * sz + off + us.length)) ⟨?_, .inr ⟨g', cap, (cur.toList.take (i * sz + off) ++ us ++ cur.toList.drop (i * sz + off + us.length)).toArray, ?_, Nat.zero_le _, ?_, ?_, hm, ?_, ?_⟩⟩ hls' (splice_one (by omega) hlo hou) ?_
    · simp only [List.length_append, List.length_take, List.length_drop, List.length_map, List.length_set]; omega
    · simp only [List.length_map, List.length_set]; rw [hv']; simp
    · rw [setRow_heap w g' _ _ e (0, 0) hg]
    · simpa using hnc
    · simp only [List.size_toArray, List.length_append, List.length_take, List.length_drop, Array.length_toList]; omega
    · simp only [List.length_map, List.length_set]
      rw [← htake]
      have hcl : cur.toList.length = cap * sz := by simpa using hcs
      apply List.ext_getElem?
      intro p
      rw [List.getElem?_take]
      by_cases hp : p < l.length * sz
      · rw [if_pos hp]
        rw [splice_get (by omega), splice_get (by rw [List.length_take]; omega)]
        simp only [List.getElem?_take, if_pos hp]
      · rw [if_neg hp]
        symm
        apply List.getElem?_eq_none
        simp only [List.length_append, List.length_take, List.length_drop]; omega
    · rw [hset, set_flatten_f hls hiF (by omega)]
      have := splice_rel (R := VR (w.setRow g' (cur.toList.take (i * sz + off) ++ us ++ cur.toList.drop (i * sz + off + us.length)).toArray) M') (n := i * sz + off) (cs := (l.map F).flatten) (xs := ys) (vs := xs) (us := us)
        (by rw [flatten_len hls, hxl]; simp) (by omega) (by rw [flatten_len hls]; simp; omega)
        (fun k a v ha hv => (hlv k a v ha hv).ext (Chg.setRow w g' _) hBM hM')
        (fun k a v ha hv => ((hvu k (.ro a) v (by simp [ha]) hv).ro_of).ext (Chg.setRow w g' _) hBM hM')
      exact this
  · intro j y k hy hk
    obtain ⟨rfl, rfl⟩ := hlk j y hy
    exact .inr ⟨j, _, _, hgo, hk, by simp only [me, lk, Nat.beq_refl, cond_true]; rfl⟩
  · intro i1 i2 x1 x2 k h1 h2 _ _
    exact ((hlk i1 x1 h1).1).trans ((hlk i2 x2 h2).1).symm
end
end Xb
