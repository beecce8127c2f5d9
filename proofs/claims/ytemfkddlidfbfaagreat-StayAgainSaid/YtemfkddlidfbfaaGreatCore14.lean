/- Own text: Core14. -/
import Derived.Test.YtemfkddlidfbfaaGreatCore13
set_option linter.all false
set_option linter.unusedVariables false
set_option linter.unusedSimpArgs false
set_option linter.unnecessarySimpa false
set_option linter.deprecated false
/-! What the printed walks say in short. -/
namespace Xb
open Go

section
variable {S : St}
theorem Er.t {t : Tmp} {v : V} (h : S.gs t = some v) : Er S (.tmp t) v [(t, v)] := .e (.t h)
theorem Er.i {k : IntKind} {n : Int} (h : inR k n = true) : Er S (.const (.int k n)) (.ro (.int k n)) [] := .e (.i h)
theorem Er.b {b : Bool} : Er S (.const (.bool b)) (.ro (.bool b)) [] := .e .b
theorem Er.s {s : ByteArray} (h : decide (s.data.toList.length ≤ 1000000) = true) : Er S (.const (.string s)) (.ro (.str s.data.toList)) [] := .e (.s h)
theorem Er.n {sz : Nat} {α : Type} {F : α → List A} : Er S (.const (.slice none 0 0)) (.ro (.list sz (([] : List α).map F))) [] := .e .n
theorem Er.r {v : Value} (h : plain v = true) : Er S (.const v) (.ro (.raw v)) [] := .e (.r h)
theorem Er.f {f : FuncId} : Er S (.func f) (.fn (.func f) [] []) [] := .e .f
theorem Er.fc {f : Fn} : Er S (.const (.func f #[] #[])) (.fn f [] []) [] := .e .fc
end

section
variable {P : Program} {T : Tgt} {C : Ctx} {k : List Item} {S : St}

theorem AK.bq {τ : Type} {b : Bool} {X Y t : τ} {c : Operand} {x y : Code} (h : (if b = true then X else Y) = t) (hc : Ev S c (.ro (.bool b)))
    (ht : X = t → AK P T C (.code x :: k) S) (hf : Y = t → AK P T C (.code y :: k) S) : AK P T C (.code (.cond c x y) :: k) S := by
  cases b with
  | true => exact .ct hc rfl (ht (by simpa using h))
  | false => exact .cf hc rfl (hf (by simpa using h))

theorem AK.jq {α τ : Type} (mk : α → St) (K : α → τ) {t : τ} {i : Item} (J : ∀ a, K a = t → AK P T C k (mk a)) (B : (∀ a, K a = t → AK P T C k (mk a)) → AK P T C (i :: k) S) :
    AK P T C (i :: k) S := B J

theorem AK.kq {l : List (Nat × V)} {o : List (Nat × Option O)} (h : AK P T C k ⟨l, o⟩) (hl : Keep S l) (ho : KeepO S o) : AK P T C k S := .kp hl ho h
theorem AK.ks {l : List (Nat × V)} {o : List (Nat × Option O)} (g : Nat → Nat) (h : AK P T C k ⟨l, o⟩) (hl : KeepR g S l) (ho : KeepRO g S o) (hi : injB g (o.map (·.1)) = true) : AK P T C k S :=
  .kr g hl ho hi h

/-- guarded values of the model -/
def gT {α : Type} [Inhabited α] (b : Bool) (m : Option α) : Option α := bif b then m else some default
theorem gTt {α : Type} [Inhabited α] {b : Bool} {m : Option α} {x : α} (h : gT b m = some x) (hb : b = true) : m = some x := by subst hb; exact h
theorem nt {b : Bool} (h : b = false) : (!b) = true := by subst h; rfl
theorem an2 {a b : Bool} (h : a = true) (h' : b = true) : (a && b) = true := by subst h; subst h'; rfl
theorem ixn {α : Type} {l : List α} {i : Int} {x : α} (h : ix l i = some x) : i.toNat < l.length := by have := ix_lt h; omega

/-- elements of lists -/
def ei (k : IntKind) (n : Int) : List A := [.int k n]
def eb (b : Bool) : List A := [.bool b]
def es (s : List UInt8) : List A := [.str s]
def el {α : Type} (sz : Nat) (f : α → List A) (l : List α) : List A := [.list sz (l.map f)]

/-- division and shifts, where they can fail -/
def dvO (op : BinOp) (k : IntKind) (x y : Int) : Option Int := if y = 0 then none else some (dv op k x y)
def sfO (op : BinOp) (k : IntKind) (x y : Int) : Option Int := if y < 0 then none else some (sf op k x y)

theorem dio {op : BinOp} {t u : TypeId} {x y : Operand} {kk : IntKind} {m n q : Int} {r1 r2 : List (Nat × V)} (hx : Er S x (.ro (.int kk m)) r1) (hy : Er S y (.ro (.int kk n)) r2) (ho : isDv op = true)
    (hq : dvO op kk m n = some q) : OpV P S (.binOp op t x y u) (r1 ++ r2) [] (.ro (.int kk q)) := by
  unfold dvO at hq
  split at hq
  · cases hq
  · cases hq; exact di hx hy ho ‹_›
theorem sho {op : BinOp} {t u : TypeId} {x y : Operand} {kk k' : IntKind} {m n q : Int} {r1 r2 : List (Nat × V)} (hx : Er S x (.ro (.int kk m)) r1) (hy : Er S y (.ro (.int k' n)) r2) (ho : isSf op = true)
    (hq : sfO op kk m n = some q) : OpV P S (.binOp op t x y u) (r1 ++ r2) [] (.ro (.int kk q)) := by
  unfold sfO at hq
  split at hq
  · cases hq
  · cases hq; exact sh hx hy ho (by omega)
/-- a shift by a count without a sign -/
theorem shu {op : BinOp} {t u : TypeId} {x y : Operand} {kk k' : IntKind} {m n : Int} {r1 r2 : List (Nat × V)} (hx : Er S x (.ro (.int kk m)) r1) (hy : Er S y (.ro (.int k' n)) r2) (ho : isSf op = true)
    (hk : k'.signed = false) : OpV P S (.binOp op t x y u) (r1 ++ r2) [] (.ro (.int kk (sf op kk m n))) :=
  .two hx hy (fun w M hd a d ty pos af g h1 h2 => by
    obtain ⟨e1, r1, r2⟩ := h1.int_inv
    obtain ⟨e2, r3, _⟩ := h2.int_inv
    have h0' : ¬ n < 0 := by simp [IntKind.min, hk] at r3; omega
    refine ⟨.int kk (sf op kk m n), ?_, .ro _ _ ?_⟩
    · cases op <;> simp [isSf] at ho <;>
        simp [execOp, e1, e2, eqGuard_at_int, binOp, Op.shift, h0', sf]
    · cases op <;> simp [isSf] at ho
      · exact .int _ _ (wrap_in _ _).1 (wrap_in _ _).2
      · exact .int _ _ (fdiv_in r1 r2).1 (fdiv_in r1 r2).2)

/-- an element of one's own, loaded -/
theorem le {t e : TypeId} {ag : Bool} {n sz id i : Nat} {x : Operand} {l : List (List A)} {cs : List A} {v : V} {rs : List (Nat × V)} (hT : TF P t ag n) (hx : Er S x (.ptr id (i * sz)) rs) (hO : S.go id = some (.arr e sz l))
    (hi : l[i]? = some cs) (hv : ldA ag n cs = some v) : OpV P S (.load t x) rs [(id, .arr e sz l)] v := by
  refine ⟨hx.rd, by simp; exact hO, fun C S2 hd a w d ty pos af g hs h2 h3 => ?_⟩
  obtain ⟨b, hb, e2⟩ := ((hx.of h2).vv hs).ptr_inv
  obtain ⟨xs, hr, _, hls, hlo, hlv⟩ := stands_own (hs.ob id _ (h3 (id, .arr e sz l) (by simp)))
  rcases hr.2 with ⟨h0, _⟩ | ⟨g', cap, cur, hv', _, hg, hn, hm, hc, htake⟩
  · rw [h0] at hb; cases hb
  · rw [hv'] at hb
    have : g' = b := by simpa [blk] using hb
    subst this
    have hcs : cs.length = sz := hls cs (List.mem_of_getElem? hi)
    have hil : i < l.length := (List.getElem?_eq_some_iff.1 hi).1
    have hlen : i * sz + sz ≤ xs.length := by
      rw [hr.1]
      have := Nat.mul_le_mul_right sz (show i + 1 ≤ l.length by omega)
      rw [Nat.add_mul] at this; omega
    obtain ⟨u, hru, hu⟩ := run_loadVar (P := P) (w := w) (M := MM C S2 hd) (hd := hd) hT (b := g') (off := i * sz) (cs := cs.map .ro) (vs := (xs.drop (i * sz)).take sz)
      (by rw [List.length_map, List.length_take, List.length_drop]; omega)
      (fun j v hj => by
        rw [List.getElem?_take] at hj
        split at hj
        case isFalse => cases hj
        rw [List.getElem?_drop, ← htake, List.getElem?_take] at hj
        split at hj
        case isFalse => cases hj
        rw [cell_of_row w g' _ cur e (0, 0) hg]; simpa using hj)
      (fun j v hj => by
        rw [List.getElem?_take] at hj
        split at hj
        case isFalse => cases hj
        rw [List.getElem?_drop] at hj; exact hlo _ v hj)
      (fun j y v hy hj => by
        rw [List.getElem?_take] at hj
        split at hj
        case isFalse => cases hj
        rw [List.getElem?_drop] at hj
        simp only [List.getElem?_map, Option.map_eq_some_iff] at hy
        obtain ⟨y', hy', rfl⟩ := hy
        exact .ro _ _ (hlv _ y' v (flatten_get hls hi hy') hj)) (ldA_V hv)
    refine ⟨u, ?_, hu⟩
    simp only [execOp, e2, Instr.loadAt, Instr.sureAddr, Sem.run_bind, Sem.run_pure, Result.andThen_ok, hru]

theorem set_flatten {sz : Nat} : ∀ {l : List (List A)} {i : Nat} {cs : List A}, (∀ cs, cs ∈ l → cs.length = sz) → i < l.length → cs.length = sz →
    (l.set i cs).flatten = l.flatten.take (i * sz) ++ cs ++ l.flatten.drop (i * sz + sz)
  | x :: l, 0, cs, h, _, hc => by
    have := h x (by simp)
    simp only [List.set_cons_zero, List.flatten_cons, Nat.zero_mul, List.take_zero, List.nil_append, Nat.zero_add]
    rw [List.drop_append, List.drop_eq_nil_of_le (by omega), List.nil_append]
    congr 1
    rw [show sz - x.length = 0 by omega, List.drop_zero]
  | x :: l, i + 1, cs, h, hi, hc => by
    have hx := h x (by simp)
    simp only [List.set_cons_succ, List.flatten_cons]
    rw [set_flatten (fun cs hc => h cs (by simp [hc])) (by simpa using hi) hc]
    have e : (i + 1) * sz = x.length + i * sz := by rw [Nat.add_mul, hx]; omega
    have t1 : (x ++ l.flatten).take (x.length + i * sz) = x ++ l.flatten.take (i * sz) := by
      rw [List.take_append, List.take_of_length_le (by omega)]
      congr 2; omega
    have d1 : (x ++ l.flatten).drop (x.length + i * sz + sz) = l.flatten.drop (i * sz + sz) := by
      rw [List.drop_append, List.drop_eq_nil_of_le (by omega), List.nil_append]
      congr 1; omega
    rw [e, t1, d1]
    simp only [List.append_assoc]
end

section
variable {P : Program} {ops : Array Oper} {S S' : St} {os : List Oper} {es : List Eff}
variable {d : Option Nat} {ty : TypeId} {pos : String} {af : Array Edge}

/-- an element of one's own, stored -/
theorem se {α : Type} {F : α → List A} {t e : TypeId} {ag : Bool} {n sz id i : Nat} {x y : Operand} {l : List α} {q : α} {vy : V} {r1 r2 : List (Nat × V)} (hT : TF P t ag n) (hx : Er S x (.ptr id (i * sz)) r1) (hO : S.go id = some (.arr e sz (l.map F)))
    (hy : Er S y vy r2) (hc : cellsV vy = some ((F q).map .ro)) (hn : Nat.beq (F q).length n = true) (hz : Nat.beq n sz = true) (hi : i < l.length)
    (D : Der P ops ((me (r1 ++ r2) [(id, .arr e sz (l.map F))] .un [(id, some (.arr e sz ((l.set i q).map F)))] []).app d S) os es S') :
    Der P ops S (⟨d, .store t x y, ty, pos, af, none⟩ :: os) (me (r1 ++ r2) [(id, .arr e sz (l.map F))] .un [(id, some (.arr e sz ((l.set i q).map F)))] [] :: es) S' := by
  obtain rfl := Nat.eq_of_beq_eq_true hz
  have hfn := Nat.eq_of_beq_eq_true hn
  refine .cons (Trip.mem (o := ⟨d, .store t x y, ty, pos, af, none⟩) rfl fun C S2 hd a w hs hp => ?_)
    (pre_me (mem_app hx.rd hy.rd) (by simp; exact hO) (fun _ h => (List.not_mem_nil h).elim)) D
  have h2 := hp.rs trivial
  have e1 := ((hx.of fun p hp => h2 p (List.mem_append_left _ hp)).vv hs)
  have e2 := ((hy.of fun p hp => h2 p (List.mem_append_right _ hp)).vv hs)
  obtain ⟨b, hb, ex⟩ := e1.ptr_inv
  have hgo := hp.ro trivial (id, .arr e n (l.map F)) (by simp [me])
  obtain ⟨xs, hr, _, hls, hlo, hlv⟩ := stands_own (hs.ob id _ hgo)
  obtain ⟨us, hus, hlu, hou, hvu⟩ := e2.cells hc
  have hun : us.length = n := by rw [← hlu]; simpa using hfn
  rcases hr.2 with ⟨h0, _⟩ | ⟨g', cap, cur, hv', hg0, hg, hnc, hm, hcs, htake⟩
  · rw [h0] at hb; cases hb
  have : g' = b := by rw [hv'] at hb; simpa [blk] using hb
  subst this
  simp only [List.length_map] at hr hnc htake
  have hil : i * n + n ≤ l.length * n := by
    have := Nat.mul_le_mul_right n (show i + 1 ≤ l.length by omega)
    rw [Nat.add_mul] at this; omega
  have hcap : l.length * n ≤ cap * n := Nat.mul_le_mul_right n hnc
  have hrun := run_storeCells_at P g' (i * n) e us 0 cur w hg (by rw [hcs]; omega) (fun v hv => by
    obtain ⟨j, hj⟩ := List.mem_iff_getElem?.1 hv
    exact hou j v hj)
  simp only [Nat.add_zero] at hrun
  have hlk : ∀ j y, lk [(id, some (O.arr e n ((l.set i q).map F)))] j = some (some y) → j = id ∧ y = .arr e n ((l.set i q).map F) := by
    intro j y hy
    simp only [lk] at hy
    by_cases hj : id = j
    · subst hj
      simp only [Nat.beq_refl, cond_true, Option.some.injEq] at hy
      exact ⟨rfl, hy.symm⟩
    · rw [beq_ne hj] at hy; cases hy
  refine ⟨.skip, undef, _, hd, fun k => k = g', ?_, .inr ⟨rfl, rfl⟩, Chg.setRow w g' (cur.toList.take (i * n) ++ us ++ cur.toList.drop (i * n + us.length)).toArray, ?_, fun _ _ => rfl, fun M' hM' => ⟨fun _ => .un _, ?_⟩, ?_, ?_⟩
  · have hsz : us.toArray.size = n := by simpa using hun
    have hus' : (a.eval y).cells = us.toArray := hus
    have hTn : TF P t ag n := hT
    simp only [execOp, ex, Instr.storeAt, Instr.sureAddr, Sem.run_bind, Sem.run_pure, Result.andThen_ok, storeVar, hTn.run_sizeOf, hus', hsz, ne_eq, not_true, if_false, Sem.run_ite, hrun]
  · rintro k rfl
    exact ⟨id, _, _, hgo, by rw [hv']; rfl, by simp only [me, lk, Nat.beq_refl, cond_true]; rfl⟩
  · intro j y hy
    obtain ⟨rfl, rfl⟩ := hlk j y hy
    have hBM : ∀ k, k = g' → MM C S2 hd k := by rintro k rfl; exact .inr ⟨j, _, hgo, by rw [hv']; rfl⟩
    have hxl : xs.length = l.length * n := by have := hr.1; simpa using this
    have hls' : ∀ cs, cs ∈ (l.set i q).map F → cs.length = n := by
      rw [List.map_set]
      intro cs hcs'
      rcases List.mem_or_eq_of_mem_set hcs' with h | h
      · exact hls cs h
      · rw [h]; exact hfn
    refine .arr e n _ (xs.take (i * n) ++ us ++ xs.drop (i * n + us.length)) ⟨?_, .inr ⟨g', cap, (cur.toList.take (i * n) ++ us ++ cur.toList.drop (i * n + us.length)).toArray, ?_, Nat.zero_le _, ?_, ?_, hm, ?_, ?_⟩⟩ hls' (splice_one (by omega) hlo hou) ?_
    · simp only [List.length_append, List.length_take, List.length_drop, List.length_map, List.length_set]; omega
    · simp only [List.length_map, List.length_set]; rw [hv']; simp
    · rw [setRow_heap w g' _ _ e (0, 0) hg]
    · simpa using hnc
    · simp only [List.size_toArray, List.length_append, List.length_take, List.length_drop, Array.length_toList]; omega
    · simp only [List.length_map, List.length_set]
      rw [← htake]
      have hcl : cur.toList.length = cap * n := by simpa using hcs
      apply List.ext_getElem?
      intro p
      rw [List.getElem?_take]
      by_cases hp : p < l.length * n
      · rw [if_pos hp]
        rw [splice_get (by omega), splice_get (by rw [List.length_take]; omega)]
        simp only [List.getElem?_take, if_pos hp]
      · rw [if_neg hp]
        symm
        apply List.getElem?_eq_none
        simp only [List.length_append, List.length_take, List.length_drop]; omega
    · rw [List.map_set, set_flatten hls (by simpa using hi) hfn]
      have := splice_rel (R := VR (w.setRow g' (cur.toList.take (i * n) ++ us ++ cur.toList.drop (i * n + us.length)).toArray) M') (n := i * n) (cs := (l.map F).flatten) (xs := F q) (vs := xs) (us := us)
        (by rw [flatten_len hls, hxl]; simp) (by omega) (by rw [flatten_len hls]; simp; omega)
        (fun k a v ha hv => (hlv k a v ha hv).ext (Chg.setRow w g' _) hBM hM')
        (fun k a v ha hv => ((hvu k (.ro a) v (by simp [ha]) hv).ro_of).ext (Chg.setRow w g' _) hBM hM')
      rw [hfn] at this
      exact this
  · intro j y k hy hk
    obtain ⟨rfl, rfl⟩ := hlk j y hy
    exact .inr ⟨j, _, _, hgo, hk, by simp only [me, lk, Nat.beq_refl, cond_true]; rfl⟩
  · intro i1 i2 x1 x2 k h1 h2 _ _
    exact ((hlk i1 x1 h1).1).trans ((hlk i2 x2 h2).1).symm

end
end Xb
