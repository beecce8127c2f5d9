/- Own text: Core5. -/
import Derived.Test.YtemfkddlidfbfaaGreatCore4
set_option linter.all false
set_option linter.unusedVariables false
set_option linter.unusedSimpArgs false
set_option linter.unnecessarySimpa false
set_option linter.deprecated false
/-! Reading memory. -/
namespace Xb
open Go

def dropO {α : Type} : Nat → List α → Option (List α)
  | 0, l => some l
  | _ + 1, [] => none
  | n + 1, _ :: l => dropO n l
def takeO {α : Type} : Nat → List α → Option (List α)
  | 0, _ => some []
  | _ + 1, [] => none
  | n + 1, x :: l => match takeO n l with | some r => some (x :: r) | none => none

theorem dropO_eq {α : Type} : ∀ {n : Nat} {l r : List α}, dropO n l = some r → r = l.drop n ∧ n ≤ l.length
  | 0, l, r, h => by simp [dropO] at h; subst h; simp
  | n + 1, [], r, h => by simp [dropO] at h
  | n + 1, x :: l, r, h => by
    have := dropO_eq (n := n) (l := l) (by simpa [dropO] using h)
    exact ⟨by simpa using this.1, by simp; exact this.2⟩
theorem takeO_eq {α : Type} : ∀ {n : Nat} {l r : List α}, takeO n l = some r → r = l.take n ∧ n ≤ l.length
  | 0, l, r, h => by simp [takeO] at h; subst h; simp
  | n + 1, [], r, h => by simp [takeO] at h
  | n + 1, x :: l, r, h => by
    simp only [takeO] at h
    split at h
    · rename_i r' hr
      cases h
      have := takeO_eq hr
      exact ⟨by simp [this.1], by simp; exact this.2⟩
    · cases h

/-- what is loaded out of cells -/
def ldV (ag : Bool) (n off : Nat) (cs : List V) : Option V :=
  match dropO off cs with
  | none => none
  | some r =>
    bif ag then (match takeO n r with
      | none => none
      | some l => (match ros l with | some l' => some (.ro (.agg l')) | none => some (.agg l)))
    else nth r 0

def ldA (ag : Bool) (n : Nat) (cs : List A) : Option V :=
  bif ag then (match takeO n cs with
    | none => none
    | some l => some (.ro (.agg l)))
  else (match nth cs 0 with | some a => some (.ro a) | none => none)

section
variable {P : Program} {w : World} {M : Nat → Prop} {hd : Nat → Value}

/-- cells that read as cs stand at an address -/
theorem run_loadVar {t : TypeId} {ag : Bool} {n : Nat} (hT : TF P t ag n) {b off : Nat} {cs : List V} {vs : List Value} (hl : cs.length = vs.length)
    (hc : ∀ (j : Nat) (v : Value), vs[j]? = some v → w.cell? ⟨b, off + j, none⟩ = some v)
    (ho : ∀ (i : Nat) (v : Value), vs[i]? = some v → v.oneCell' = true)
    (hv : ∀ (i : Nat) (a : V) (v : Value), cs[i]? = some a → vs[i]? = some v → VV w M hd a v) {v : V} (h : ldV ag n 0 cs = some v) :
    ∃ u, (loadVar t ⟨b, off, none⟩).run P w = .ok u w ∧ VV w M hd v u := by
  simp only [ldV, dropO] at h
  cases ag with
  | false =>
    simp only [cond_false] at h
    rw [nth_eq] at h
    have hlt : 0 < vs.length := by rw [← hl]; exact (List.getElem?_eq_some_iff.1 h).1
    refine ⟨vs[0], ?_, hv 0 v _ h (List.getElem?_eq_getElem hlt)⟩
    have := hc 0 vs[0] (List.getElem?_eq_getElem hlt)
    simp only [Nat.add_zero] at this
    simp [loadVar, hT.run_isAgg w, this]
  | true =>
    simp only [cond_true] at h
    cases ht : takeO n cs with
    | none => rw [ht] at h; cases h
    | some l =>
      rw [ht] at h
      obtain ⟨rfl, hn⟩ := takeO_eq ht
      have hlen : (vs.take n).length = n := by rw [List.length_take]; omega
      have hrun : (loadCells ⟨b, off, none⟩ n).run P w = .ok (vs.take n).toArray w := by
        have := run_loadCells_list (P := P) w ⟨b, off, none⟩ (vs.take n) (fun j v hj => by
          rw [Addr.add_lit]
          refine hc j v ?_
          rw [List.getElem?_take] at hj
          split at hj
          · exact hj
          · cases hj)
        rwa [hlen] at this
      refine ⟨.agg (vs.take n).toArray, ?_, ?_⟩
      · simp only [loadVar, Sem.run_bind, hT.run_isAgg w, Result.andThen_ok, if_true, hT.run_sizeOf w, hrun, Sem.run_pure]
      · have hagg : VV w M hd (.agg (cs.take n)) (.agg (vs.take n).toArray) := by
          refine .agg _ _ (by simp [hl]) (fun i v hi => ?_) (fun i a v hi hvi => ?_)
          · rw [List.getElem?_take] at hi
            split at hi
            · exact ho i v hi
            · cases hi
          · rw [List.getElem?_take] at hi hvi
            split at hi
            · rw [if_pos ‹_›] at hvi; exact hv i a v hi hvi
            · cases hi
        have hm := hagg.mkAgg
        unfold mkAgg at hm
        cases hr : ros (cs.take n) with
        | some l' =>
          simp only [hr, Option.some.injEq] at h hm
          subst h; exact hm
        | none =>
          simp only [hr, Option.some.injEq] at h hm
          subst h; exact hm

theorem ldV_drop {ag : Bool} {n off : Nat} {cs : List V} {v : V} (h : ldV ag n off cs = some v) : ∃ r, dropO off cs = some r ∧ ldV ag n 0 r = some v := by
  unfold ldV at h
  cases hd : dropO off cs with
  | none => rw [hd] at h; cases h
  | some r =>
    rw [hd] at h
    exact ⟨r, rfl, by simpa [ldV, dropO] using h⟩

theorem run_loadVar_box {t : TypeId} {ag : Bool} {n : Nat} (hT : TF P t ag n) {b off : Nat} {e : TypeId} {fr : Nat × Nat} {cs : List V} {vs : List Value} (hl : cs.length = vs.length)
    (hb : w.heap[b]? = some (.cells ⟨vs⟩ e fr))
    (ho : ∀ (i : Nat) (v : Value), vs[i]? = some v → v.oneCell' = true)
    (hv : ∀ (i : Nat) (a : V) (v : Value), cs[i]? = some a → vs[i]? = some v → VV w M hd a v) {v : V} (h : ldV ag n off cs = some v) :
    ∃ u, (loadVar t ⟨b, off, none⟩).run P w = .ok u w ∧ VV w M hd v u := by
  obtain ⟨r, hr, h0⟩ := ldV_drop h
  obtain ⟨rfl, hoff⟩ := dropO_eq hr
  refine run_loadVar (vs := vs.drop off) hT (by simp [hl]) (fun j v hj => ?_) (fun i v hi => ?_) (fun i a v hi hvi => ?_) h0
  · rw [cell_of_row w b (off + j) ⟨vs⟩ e fr hb]
    simpa using hj
  · rw [List.getElem?_drop] at hi; exact ho _ v hi
  · rw [List.getElem?_drop] at hi hvi; exact hv _ a v hi hvi

theorem ldA_V {ag : Bool} {n : Nat} {cs : List A} {v : V} (h : ldA ag n cs = some v) : ldV ag n 0 (cs.map .ro) = some v := by
  have hros : ∀ l : List A, ros (l.map .ro) = some l := by
    intro l
    induction l with
    | nil => rfl
    | cons a l ih => simp [ros, ih]
  have htake : ∀ (n : Nat) (l r : List A), takeO n l = some r → takeO n (l.map V.ro) = some (r.map V.ro) := by
    intro n
    induction n with
    | zero => intro l r h; simp [takeO] at h; subst h; simp [takeO]
    | succ n ih =>
      intro l r h
      cases l with
      | nil => simp [takeO] at h
      | cons x l =>
        simp only [takeO] at h
        split at h
        · rename_i r' hr
          cases h
          simp [takeO, ih l r' hr]
        · cases h
  unfold ldA at h
  unfold ldV
  simp only [dropO]
  cases ag with
  | false =>
    simp only [cond_false] at h ⊢
    cases cs with
    | nil => simp [nth] at h
    | cons a r => simp [nth] at h; simp [nth, h]
  | true =>
    simp only [cond_true] at h ⊢
    split at h
    · cases h
    · rename_i l hl
      cases h
      simp [htake _ _ _ hl, hros]
end

/-- what the owner of a box holds -/
theorem OO.box_inv {w : World} {M : Nat → Prop} {hd : Nat → Value} {h : Value} {cs : List V} (H : OO w M hd h (.box cs)) :
    ∃ (b : Nat) (vs : List Value) (e : TypeId), h = .pointer (some ⟨b, 0, none⟩) ∧ w.heap[b]? = some (.cells ⟨vs⟩ e (0, 0)) ∧ cs.length = vs.length ∧
      (∀ (i : Nat) (v : Value), vs[i]? = some v → v.oneCell' = true) ∧ ∀ (i : Nat) (a : V) (v : Value), cs[i]? = some a → vs[i]? = some v → VV w M hd a v := by
  cases H with
  | box _ vs e b hh hb hl ho hv => exact ⟨b, vs, e, hh, hb, hl, ho, hv⟩

theorem VV.rptr_inv {w : World} {M : Nat → Prop} {hd : Nat → Value} {cs : List A} {v : Value} (h : VV w M hd (.rptr cs) v) :
    ∃ (b off : Nat) (vs : List Value), v = .pointer (some ⟨b, off, none⟩) ∧ ¬ M b ∧ b < w.heap.size ∧ cs.length = vs.length ∧
      (∀ (k : Nat) (v : Value), vs[k]? = some v → w.cell? ⟨b, off + k, none⟩ = some v) ∧ (∀ (k : Nat) (v : Value), vs[k]? = some v → v.oneCell' = true) ∧
      (∀ (k : Nat) (a : A) (v : Value), cs[k]? = some a → vs[k]? = some v → VR w M a v) := by
  cases h with
  | rptr _ b off vs hM hb hl hc ho hv => exact ⟨b, off, vs, rfl, hM, hb, hl, hc, ho, hv⟩

theorem flatten_get {sz : Nat} : ∀ {l : List (List A)} {i j : Nat} {cs : List A} {c : A}, (∀ cs, cs ∈ l → cs.length = sz) → l[i]? = some cs → cs[j]? = some c →
    l.flatten[i * sz + j]? = some c
  | x :: l, 0, j, cs, c, hs, hi, hj => by
    simp at hi; subst hi
    have hlt := (List.getElem?_eq_some_iff.1 hj).1
    simp only [List.flatten_cons, Nat.zero_mul, Nat.zero_add]
    rw [List.getElem?_append_left hlt]; exact hj
  | x :: l, i + 1, j, cs, c, hs, hi, hj => by
    have hx : x.length = sz := hs x (by simp)
    have ih := flatten_get (l := l) (i := i) (j := j) (cs := cs) (c := c) (fun cs h => hs cs (by simp [h])) (by simpa using hi) hj
    simp only [List.flatten_cons]
    have e : (i + 1) * sz + j = x.length + (i * sz + j) := by rw [hx, Nat.add_mul]; omega
    rw [e, List.getElem?_append_right (by omega)]
    simpa using ih

section
variable {P : Program} {ops : Array Oper} {S S' : St} {os : List Oper} {es : List Eff}
variable {d : Option Nat} {ty : TypeId} {pos : String} {af : Array Edge} {g : Option (Nat × Bool)}

/-- load from a box -/
theorem ld {t : TypeId} {ag : Bool} {n : Nat} {x : Operand} {id off : Nat} {cs : List V} {v : V} {rs : List (Nat × V)} (hT : TF P t ag n) (hx : Er S x (.ptr id off) rs) (hO : S.go id = some (.box cs))
    (hv : ldV ag n off cs = some v) : OpV P S (.load t x) rs [(id, .box cs)] v := by
  refine ⟨hx.rd, by simp; exact hO, fun C S2 hd a w d ty pos af g hs h2 h3 => ?_⟩
  obtain ⟨b, hb, e2⟩ := ((hx.of h2).vv hs).ptr_inv
  have hob := hs.ob id _ (h3 (id, .box cs) (by simp))
  obtain ⟨b', vs, e, hh, hb', hl, ho, hvv⟩ := hob.box_inv
  have : b' = b := by rw [hh] at hb; simpa [blk] using hb
  subst this
  obtain ⟨u, hr, hu⟩ := run_loadVar_box (P := P) hT hl hb' ho hvv hv
  refine ⟨u, ?_, hu⟩
  simp only [execOp, e2, Instr.loadAt, Instr.sureAddr, Sem.run_bind, Sem.run_pure, Result.andThen_ok, hr]

/-- load from what is immutable -/
theorem lr {t : TypeId} {ag : Bool} {n : Nat} {x : Operand} {cs : List A} {v : V} (hT : TF P t ag n) {rs : List (Nat × V)} (hx : Er S x (.rptr cs) rs)
    (hv : ldA ag n cs = some v) :
    OpV P S (.load t x) rs [] v :=
  .one hx (fun w M hd a d ty pos af g h1 => by
    obtain ⟨b, off, vs, e, hM, hb, hl, hc, ho, hvv⟩ := h1.rptr_inv
    obtain ⟨u, hr, hu⟩ := run_loadVar (P := P) (w := w) (M := M) (hd := hd) hT (b := b) (off := off) (cs := cs.map .ro) (vs := vs) (by simpa using hl) hc ho
      (fun j a v hi hj => by
        simp only [List.getElem?_map, Option.map_eq_some_iff] at hi
        obtain ⟨a', ha, rfl⟩ := hi
        exact .ro _ _ (hvv j a' v ha hj)) (ldA_V hv)
    refine ⟨u, ?_, hu⟩
    simp only [execOp, e, Instr.loadAt, Instr.sureAddr, Sem.run_bind, Sem.run_pure, Result.andThen_ok, hr])

theorem run_fieldAt {t f off ft : Nat} {b o : Nat} {w : World} (hF : FF P t f off ft) (hz : ∃ i, P.info? ft = some i ∧ i.size ≠ 0) :
    (Instr.fieldAt t (.pointer (some ⟨b, o, none⟩)) f).run P w = .ok (.pointer (some ⟨b, o + off, none⟩)) w := by
  obtain ⟨fs, fd, hu, hf, rfl, rfl⟩ := hF.h
  obtain ⟨i, hi, hz⟩ := hz
  simp only [Instr.fieldAt, Sem.run_bind, run_underlying hu, Result.andThen_ok, hf, Instr.sureAddr, Sem.run_pure, fieldPlace, Go.sizeOf, typeInfo, run_program, hi, hz, if_false, Addr.add_lit, Sem.run_ite]

/-- the address of a field -/
theorem fa {t f off ft : Nat} {x : Operand} {id o : Nat} (hF : FF P t f off ft ∧ ∃ i, P.info? ft = some i ∧ i.size ≠ 0) {rs : List (Nat × V)} (hx : Er S x (.ptr id o) rs) :
    OpV P S (.fieldAddr t x f) rs [] (.ptr id (o + off)) :=
  .one hx (fun w M hd a d ty pos af g h1 => by
    obtain ⟨b, hb, e⟩ := h1.ptr_inv
    refine ⟨.pointer (some ⟨b, o + off, none⟩), ?_, .ptr _ _ b hb⟩
    simp only [execOp, e, Sem.run_bind, run_fieldAt hF.1 hF.2, Result.andThen_ok, Sem.run_pure])

/-- the address of a field of what is immutable -/
theorem fr {t f off ft : Nat} {x : Operand} {cs r : List A} (hF : FF P t f off ft ∧ ∃ i, P.info? ft = some i ∧ i.size ≠ 0) {rs : List (Nat × V)} (hx : Er S x (.rptr cs) rs) (hr : dropO off cs = some r) :
    OpV P S (.fieldAddr t x f) rs [] (.rptr r) :=
  .one hx (fun w M hd a d ty pos af g h1 => by
    obtain ⟨b, o, vs, e, hM, hb, hl, hc, ho, hvv⟩ := h1.rptr_inv
    obtain ⟨rfl, _⟩ := dropO_eq hr
    refine ⟨.pointer (some ⟨b, o + off, none⟩), ?_, .rptr _ b (o + off) (vs.drop off) hM hb (by simp [hl]) (fun k v hk => ?_) (fun k v hk => ?_) (fun k a v hi hk => ?_)⟩
    · simp only [execOp, e, Sem.run_bind, run_fieldAt hF.1 hF.2, Result.andThen_ok, Sem.run_pure]
    · rw [Nat.add_assoc]; exact hc (off + k) v (by simpa using hk)
    · exact ho (off + k) v (by simpa using hk)
    · exact hvv (off + k) a v (by simpa using hi) (by simpa using hk))

/-- an index, of whatever sign -/
def ix {α : Type} (l : List α) (i : Int) : Option α := if 0 ≤ i then l[i.toNat]? else none

theorem ix_map {α β : Type} (f : α → β) {l : List α} {i : Int} {x : α} (h : ix l i = some x) : ix (l.map f) i = some (f x) := by
  unfold ix at *
  split at h
  · rw [if_pos ‹_›]; simp [h]
  · cases h

theorem ix_lt {α : Type} {l : List α} {i : Int} {x : α} (h : ix l i = some x) : 0 ≤ i ∧ i < l.length ∧ l[i.toNat]? = some x := by
  unfold ix at h
  split at h
  · have := (List.getElem?_eq_some_iff.1 h).1
    exact ⟨‹_›, by omega, h⟩
  · cases h

/-- the address of an element of what is immutable -/
theorem ia {t e : TypeId} {sz : Nat} {x y : Operand} {k : IntKind} {i : Int} {l : List (List A)} {cs : List A} (hT : SF P t e sz) {r1 r2 : List (Nat × V)} (hx : Er S x (.ro (.list sz l)) r1) (hy : Er S y (.ro (.int k i)) r2) (hi : ix l i = some cs) :
    OpV P S (.indexAddr t x y) (r1 ++ r2) [] (.rptr cs) :=
  .two hx hy (fun w M hd a d ty pos af g h1 h2 => by
    obtain ⟨e2, _⟩ := h2.int_inv
    obtain ⟨hi0, hi1, hi2⟩ := ix_lt hi
    have h1 := h1.ro_of
    generalize ha : a.eval x = v at h1
    cases h1 with
    | emp _ o c hc => simp at hi2
    | list _ _ b off c vs h1 h2 hM hb hs hl hc ho hv =>
      have hcs : cs.length = sz := hs cs (List.mem_of_getElem? hi2)
      have hfl : ∀ j a, cs[j]? = some a → l.flatten[i.toNat * sz + j]? = some a := fun j a hj => flatten_get hs hi2 hj
      have hbound : i.toNat * sz + sz ≤ vs.length := by
        rcases Nat.eq_zero_or_pos sz with h0 | h0
        · subst h0
          rcases Nat.eq_zero_or_pos (i.toNat * 0) with h | h <;> simp at *
        · have hlt : sz - 1 < cs.length := by omega
          have := (List.getElem?_eq_some_iff.1 (hfl (sz - 1) _ (List.getElem?_eq_getElem hlt))).1
          omega
      refine ⟨.pointer (some ⟨b, off + i.toNat * sz, none⟩), ?_, .rptr _ b (off + i.toNat * sz) ((vs.drop (i.toNat * sz)).take sz) hM hb (by rw [List.length_take, List.length_drop]; omega)
        (fun k v hk => ?_) (fun k v hk => ?_) (fun k a v ha hk => ?_)⟩
      · simp only [execOp, ha, e2, Instr.indexAt, asIntOf, Sem.run_bind, Sem.run_pure, Result.andThen_ok, run_underlying hT.u, Bool.and_false, hi0, hi1, and_self, if_true, Sem.run_ite, hT.run_sizeOf, Addr.add_lit]
      all_goals
        rw [List.getElem?_take] at hk
        split at hk
        case isFalse => cases hk
        rw [List.getElem?_drop] at hk
      · rw [Nat.add_assoc]; exact hc _ v hk
      · exact ho _ v hk
      · exact hv _ a v (hfl k a ha) hk)

/-- a byte of a text -/
theorem is {t : TypeId} {x y : Operand} {k : IntKind} {i : Int} {s : List UInt8} {c : UInt8} (hT : P.underlying t = some .string) {r1 r2 : List (Nat × V)} (hx : Er S x (.ro (.str s)) r1) (hy : Er S y (.ro (.int k i)) r2) (hi : ix s i = some c) :
    OpV P S (.index t x y) (r1 ++ r2) [] (.ro (.int .u8 c.toNat)) :=
  .two hx hy (fun w M hd a d ty pos af g h1 h2 => by
    obtain ⟨e2, _⟩ := h2.int_inv
    obtain ⟨e1, _⟩ := h1.str_inv
    obtain ⟨hi0, hi1, hi2⟩ := ix_lt hi
    have hget : (ByteArray.mk s.toArray)[i.toNat]? = some c := by
      have hlt : i.toNat < s.length := by omega
      have hlt' : i.toNat < (ByteArray.mk s.toArray).size := by simp [ByteArray.size]; exact hlt
      rw [getElem?_pos (ByteArray.mk s.toArray) i.toNat hlt']
      rw [List.getElem?_eq_getElem hlt] at hi2
      simpa [ByteArray.getElem_eq_getElem_data] using hi2
    refine ⟨.int .u8 c.toNat, ?_, .ro _ _ (.int _ _ ?_ ?_)⟩
    · simp only [execOp, e1, e2, Instr.index, asIntOf, Sem.run_bind, Sem.run_pure, Result.andThen_ok, run_underlying hT, hi0, if_true, hget]
    · simp [IntKind.min, IntKind.signed]
    · have := c.toNat_lt
      simp [IntKind.max, IntKind.signed, IntKind.bits]; omega)

end
end Xb
