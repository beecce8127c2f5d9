/- Own text: Core3. -/
import Derived.Test.YtemfkddlidfbfaaGreatCore2
import Derived.Laws.BitsAllLaws
set_option linter.all false
set_option linter.unusedVariables false
set_option linter.unusedSimpArgs false
set_option linter.unnecessarySimpa false
set_option linter.deprecated false
/-! The operations, one by one: those that touch no memory. -/
namespace Xb
open Go

theorem VV.bool_inv {w : World} {M : Nat → Prop} {hd : Nat → Value} {b : Bool} {v : Value} (h : VV w M hd (.ro (.bool b)) v) : v = .bool b := by
  cases h with | ro _ _ h => cases h; rfl
theorem VV.int_inv {w : World} {M : Nat → Prop} {hd : Nat → Value} {k : IntKind} {n : Int} {v : Value} (h : VV w M hd (.ro (.int k n)) v) :
    v = .int k n ∧ k.min ≤ n ∧ n ≤ k.max := by
  cases h with | ro _ _ h => cases h with | int _ _ h1 h2 => exact ⟨rfl, h1, h2⟩
theorem VV.str_inv {w : World} {M : Nat → Prop} {hd : Nat → Value} {s : List UInt8} {v : Value} (h : VV w M hd (.ro (.str s)) v) :
    v = .string ⟨s.toArray⟩ ∧ s.length ≤ maxLen := by
  cases h with | ro _ _ h => cases h with | str _ h1 => exact ⟨rfl, h1⟩
theorem VV.ptr_inv {w : World} {M : Nat → Prop} {hd : Nat → Value} {id off : Nat} {v : Value} (h : VV w M hd (.ptr id off) v) :
    ∃ b, blk (hd id) = some b ∧ v = .pointer (some ⟨b, off, none⟩) := by
  cases h with | ptr _ _ b h => exact ⟨b, h, rfl⟩
theorem VV.own_inv {w : World} {M : Nat → Prop} {hd : Nat → Value} {id : Nat} {v : Value} (h : VV w M hd (.own id) v) : v = hd id ∧ (hd id).oneCell' = true := by
  cases h with | own _ h => exact ⟨rfl, h⟩

/-- the slot that a guard asks -/
def gslot (ops : Array Oper) (j : Nat) : Option Nat := (ops[j]?).bind (·.dst)

def inR (k : IntKind) (n : Int) : Bool := decide (k.min ≤ n) && decide (n ≤ k.max)

def rd : Operand → V → List (Nat × V)
  | .tmp t, v => [(t, v)]
  | _, _ => []

/-- what an operand reads as -/
inductive Ev (S : St) : Operand → V → Prop
  | t {t : Tmp} {v : V} (h : S.gs t = some v) : Ev S (.tmp t) v
  | i {k : IntKind} {n : Int} (h : inR k n = true) : Ev S (.const (.int k n)) (.ro (.int k n))
  | b {b : Bool} : Ev S (.const (.bool b)) (.ro (.bool b))
  | s {s : ByteArray} (h : decide (s.data.toList.length ≤ 1000000) = true) : Ev S (.const (.string s)) (.ro (.str s.data.toList))
  | n {sz : Nat} : Ev S (.const (.slice none 0 0)) (.ro (.list sz []))
  | r {v : Value} (h : plain v = true) : Ev S (.const v) (.ro (.raw v))
  | f {f : FuncId} : Ev S (.func f) (.fn (.func f) [] [])
  | fc {f : Fn} : Ev S (.const (.func f #[] #[])) (.fn f [] [])

/-- what an operand reads as, where a condition holds -/
inductive Er (S : St) : Operand → V → List (Nat × V) → Prop
  | e {x : Operand} {v : V} (h : Ev S x v) : Er S x v (rd x v)
  | m {t : Tmp} {c : Prop} {v : V} (h : S.gs t = some (.may c v)) (hc : c) : Er S (.tmp t) v [(t, .may c v)]

theorem Ev.of {S S' : St} {x : Operand} {v : V} (h : Ev S x v) (hr : ∀ p, p ∈ rd x v → S'.gs p.1 = some p.2) : Ev S' x v := by
  cases h with
  | t h => exact .t (hr (_, v) (by simp [rd]))
  | i h => exact .i h
  | b => exact .b
  | s h => exact .s h
  | n => exact .n
  | r h => exact .r h
  | f => exact .f
  | fc => exact .fc

theorem Ev.rd {S : St} {x : Operand} {v : V} (h : Ev S x v) : ∀ p, p ∈ rd x v → S.gs p.1 = some p.2 := by
  intro p hp
  cases h with
  | t h => simp [Xb.rd] at hp; subst hp; exact h
  | _ => simp [Xb.rd] at hp

def MM (C : Ctx) (S : St) (hd : Nat → Value) (b : Nat) : Prop := C.M0 b ∨ Ow S hd b

theorem small_maxLen {n : Nat} (h : n ≤ 1000000) : n ≤ maxLen := by unfold maxLen; omega

theorem Ev.vv {C : Ctx} {S : St} {hd : Nat → Value} {a : Act} {w : World} {x : Operand} {v : V} (hs : Sat' C S hd a w) (h : Ev S x v) :
    VV w (MM C S hd) hd v (a.eval x) := by
  cases h with
  | t h => exact (hs.sl _ _ h).2
  | i h =>
    simp only [inR, Bool.and_eq_true, decide_eq_true_eq] at h
    exact .ro _ _ (.int _ _ h.1 h.2)
  | b => exact .ro _ _ (.bool _)
  | @s s h =>
    have h' := of_decide_eq_true h
    exact .ro _ _ (VR.str s.data.toList (small_maxLen h'))
  | n => exact .ro _ _ (.emp _ _ _ (Nat.zero_le _))
  | r h => exact .ro _ _ (.raw _ h)
  | f => exact .fn _ [] [] [] [] rfl rfl (by simp) (by simp)
  | fc => exact .fn _ [] [] [] [] rfl rfl (by simp) (by simp)

theorem Er.of {S S' : St} {x : Operand} {v : V} {rs : List (Nat × V)} (h : Er S x v rs) (hr : ∀ p, p ∈ rs → S'.gs p.1 = some p.2) : Er S' x v rs := by
  cases h with
  | e h => exact .e (h.of hr)
  | m h hc => exact .m (hr (_, _) (by simp)) hc
theorem Er.rd {S : St} {x : Operand} {v : V} {rs : List (Nat × V)} (h : Er S x v rs) : ∀ p, p ∈ rs → S.gs p.1 = some p.2 := by
  cases h with
  | e h => exact h.rd
  | m h hc => intro p hp; simp at hp; subst hp; exact h
theorem VV.may_inv {w : World} {M : Nat → Prop} {hd : Nat → Value} {c : Prop} {x : V} {v : Value} (h : VV w M hd (.may c x) v) (hc : c) : VV w M hd x v := by
  cases h with | may _ _ _ h _ => exact h hc
theorem Er.vv {C : Ctx} {S : St} {hd : Nat → Value} {a : Act} {w : World} {x : Operand} {v : V} {rs : List (Nat × V)} (hs : Sat' C S hd a w) (h : Er S x v rs) :
    VV w (MM C S hd) hd v (a.eval x) := by
  cases h with
  | e h => exact h.vv hs
  | m h hc => exact (hs.sl _ _ h).2.may_inv hc

theorem slot_bool {C : Ctx} {S : St} {hd : Nat → Value} {a : Act} {w : World} (hs : Sat' C S hd a w) {t : Nat} {b : Bool} (h : S.gs t = some (.ro (.bool b))) : a.tmps[t]? = some (.bool b) := by
  obtain ⟨ht, hv⟩ := hs.sl t _ h
  have hval : a.tmps.getD t undef = .bool b := hv.bool_inv
  have hlt : t < a.tmps.size := by rw [hs.nt]; exact ht
  rw [Array.getElem?_eq_getElem hlt]
  simp only [Array.getD, hlt, dif_pos] at hval
  exact congrArg some hval

/-- what an operation yields, out of what it reads -/
def OpV (P : Program) (S : St) (op : Op) (rs : List (Nat × V)) (ro : List (Nat × O)) (v : V) : Prop :=
  (∀ p, p ∈ rs → S.gs p.1 = some p.2) ∧ (∀ p, p ∈ ro → S.go p.1 = some p.2) ∧
  ∀ (C : Ctx) (S : St) (hd : Nat → Value) (a : Act) (w : World) (d : Option Nat) (ty : TypeId) (pos : String) (af : Array Edge) (g : Option (Nat × Bool)), Sat' C S hd a w →
    (∀ p, p ∈ rs → S.gs p.1 = some p.2) → (∀ p, p ∈ ro → S.go p.1 = some p.2) → ∃ u, (execOp a.eval ⟨d, op, ty, pos, af, g⟩).run P w = .ok (.value u) w ∧ VV w (MM C S hd) hd v u

/-- the effect of an operation that writes its slot alone -/
def re (rs : List (Nat × V)) (ro : List (Nat × O)) (v : V) : Eff := ⟨[], True, rs, ro, v, [], []⟩
def ge (t : Nat) (b want : Bool) (rs : List (Nat × V)) (ro : List (Nat × O)) (v : V) : Eff := ⟨[(t, .ro (.bool b))], b = want, rs, ro, .may (b = want) v, [], []⟩

theorem mem_app {α : Type} {p : α → Prop} {l r : List α} (h : ∀ x, x ∈ l → p x) (h' : ∀ x, x ∈ r → p x) : ∀ x, x ∈ l ++ r → p x :=
  fun x hx => (List.mem_append.1 hx).elim (h x) (h' x)

section
variable {P : Program} {ops : Array Oper} {S S' : St} {os : List Oper} {es : List Eff}
variable {d : Option Nat} {ty : TypeId} {pos : String} {af : Array Edge} {op : Op} {rs : List (Nat × V)} {ro : List (Nat × O)} {v : V}

/-- one operation more, unguarded -/
theorem u (h : OpV P S op rs ro v) (D : Der P ops ((re rs ro v).app d S) os es S') : Der P ops S (⟨d, op, ty, pos, af, none⟩ :: os) (re rs ro v :: es) S' := by
  obtain ⟨h1, h2, h3⟩ := h
  refine .cons ?_ ⟨fun _ h => (List.not_mem_nil h).elim, fun _ => h1, fun _ => h2, fun _ h => (List.not_mem_nil h).elim⟩ D
  intro C S a w ⟨hd, hs⟩ hp hdst
  unfold stepOp
  rw [if_pos (by rfl)]
  obtain ⟨u, hr, hv⟩ := h3 C S hd a w d ty pos af none hs (hp.rs trivial) (hp.ro trivial)
  simp only [Oper.wp, hr, Oper.upon]
  refine ⟨hd, hs.step (re rs ro v) hp d u hdst (fun _ => False) (Chg.refl w _) (fun _ h => h.elim) (fun _ _ => rfl) (fun _ => ?_) (fun id x h => by cases h)
    (fun id x b h => by cases h) (fun _ _ _ _ _ h => by cases h)⟩
  refine hv.ext (Chg.refl w (fun _ => False)) (fun _ h => h.elim) (fun b _ hm => ?_) (fun _ _ => rfl)
  rcases hm with hm | ⟨id, x, hx, hb⟩
  · exact .inl hm
  · exact .inr ⟨id, x, by rw [app_go] at hx; exact hx, hb⟩

theorem VV.may_not {w : World} {M : Nat → Prop} {hd : Nat → Value} {c : Prop} {x : V} {v : Value} (h : VV w M hd (.may c x) v) (hc : ¬ c) : v = undef := by
  cases h with | may _ _ _ _ h => exact h hc

/-- the heart of a guarded operation -/
theorem gcore {gs : List (Nat × V)} {c : Prop} {g : Option (Nat × Bool)}
    (hw : ∀ (C : Ctx) (S : St) (hd : Nat → Value) (a : Act) (w : World), Sat' C S hd a w → (∀ p, p ∈ gs → S.gs p.1 = some p.2) → (Region.wanted ⟨d, op, ty, pos, af, g⟩ (yielded ops a.tmps) = true ↔ c))
    (hgs : ∀ p, p ∈ gs → S.gs p.1 = some p.2) (h : c → OpV P S op rs ro v)
    (D : Der P ops ((⟨gs, c, rs, ro, .may c v, [], []⟩ : Eff).app d S) os es S') : Der P ops S (⟨d, op, ty, pos, af, g⟩ :: os) (⟨gs, c, rs, ro, .may c v, [], []⟩ :: es) S' := by
  refine .cons ?_ ⟨hgs, fun hc => (h hc).1, fun hc => (h hc).2.1, fun _ h => (List.not_mem_nil h).elim⟩ D
  intro C S2 a w ⟨hd, hs⟩ hp hdst
  have hww := hw C S2 hd a w hs hp.gs
  unfold stepOp
  have fin : ∀ u : Value, VV w (MM C S2 hd) hd (.may c v) u → Sat C ((⟨gs, c, rs, ro, .may c v, [], []⟩ : Eff).app d S2) (a.put d u) w := fun u hv => by
    refine ⟨hd, hs.step ⟨gs, c, rs, ro, .may c v, [], []⟩ hp d u hdst (fun _ => False) (Chg.refl w _) (fun _ h => h.elim) (fun _ _ => rfl) (fun _ => ?_) (fun id x h => by cases h)
      (fun id x b h => by cases h) (fun _ _ _ _ _ h => by cases h)⟩
    refine hv.ext (Chg.refl w (fun _ => False)) (fun _ h => h.elim) (fun b _ hm => ?_) (fun _ _ => rfl)
    rcases hm with hm | ⟨id, x, hx, hb⟩
    · exact .inl hm
    · exact .inr ⟨id, x, by rw [app_go] at hx; exact hx, hb⟩
  by_cases hc : c
  · rw [if_pos (hww.2 hc)]
    obtain ⟨u, hr, hv⟩ := (h hc).2.2 C S2 hd a w d ty pos af g hs (hp.rs hc) (hp.ro hc)
    simp only [Oper.wp, hr, Oper.upon]
    exact fin u (.may _ _ _ (fun _ => hv) (fun h => absurd hc h))
  · rw [if_neg (fun h => hc (hww.1 h))]
    exact fin undef (.may _ _ _ (fun h => absurd h hc) (fun _ => rfl))

theorem wanted_iff {C : Ctx} {S : St} {hd : Nat → Value} {a : Act} {w : World} (hs : Sat' C S hd a w) {j t : Nat} {want b : Bool} (hj : gslot ops j = some t) (hb : S.gs t = some (.ro (.bool b))) :
    Region.wanted ⟨d, op, ty, pos, af, some (j, want)⟩ (yielded ops a.tmps) = true ↔ b = want := by
  have hq := slot_bool hs hb
  unfold gslot at hj
  simp only [Region.wanted, yielded, hj, Option.bind_some, hq]
  cases b <;> cases want <;> simp

theorem wanted_iff_may {C : Ctx} {S : St} {hd : Nat → Value} {a : Act} {w : World} (hs : Sat' C S hd a w) {j t : Nat} {want b : Bool} {c : Prop} (hj : gslot ops j = some t)
    (hb : S.gs t = some (.may c (.ro (.bool b)))) :
    Region.wanted ⟨d, op, ty, pos, af, some (j, want)⟩ (yielded ops a.tmps) = true ↔ (c ∧ b = want) := by
  obtain ⟨ht, hv⟩ := hs.sl t _ hb
  have hlt : t < a.tmps.size := by rw [hs.nt]; exact ht
  have hget : a.tmps[t]? = some (a.tmps.getD t undef) := by
    rw [Array.getElem?_eq_getElem hlt]
    simp [Array.getD, hlt]
  unfold gslot at hj
  simp only [Region.wanted, yielded, hj, Option.bind_some, hget]
  by_cases hc : c
  · rw [(hv.may_inv hc).bool_inv]
    cases b <;> cases want <;> simp [hc]
  · rw [hv.may_not hc]
    simp [hc, undef]

/-- one operation more, guarded: its value stands where the guard lets it be done -/
theorem gd {j t : Nat} {want b : Bool} (hj : gslot ops j = some t) (hb : S.gs t = some (.ro (.bool b))) (h : b = want → OpV P S op rs ro v)
    (D : Der P ops ((ge t b want rs ro v).app d S) os es S') : Der P ops S (⟨d, op, ty, pos, af, some (j, want)⟩ :: os) (ge t b want rs ro v :: es) S' :=
  gcore (gs := [(t, .ro (.bool b))]) (fun _ _ _ _ _ hs h2 => wanted_iff hs hj (h2 (t, .ro (.bool b)) (by simp))) (fun p hp => by simp at hp; subst hp; exact hb) h D

/-- guarded by what is guarded itself -/
def gme (t : Nat) (c : Prop) (b want : Bool) (rs : List (Nat × V)) (ro : List (Nat × O)) (v : V) : Eff := ⟨[(t, .may c (.ro (.bool b)))], c ∧ b = want, rs, ro, .may (c ∧ b = want) v, [], []⟩
theorem gm {j t : Nat} {want b : Bool} {c : Prop} (hj : gslot ops j = some t) (hb : S.gs t = some (.may c (.ro (.bool b)))) (h : c ∧ b = want → OpV P S op rs ro v)
    (D : Der P ops ((gme t c b want rs ro v).app d S) os es S') : Der P ops S (⟨d, op, ty, pos, af, some (j, want)⟩ :: os) (gme t c b want rs ro v :: es) S' :=
  gcore (gs := [(t, .may c (.ro (.bool b)))]) (fun _ _ _ _ _ hs h2 => wanted_iff_may hs hj (h2 (t, .may c (.ro (.bool b))) (by simp))) (fun p hp => by simp at hp; subst hp; exact hb) h D

theorem OpV.one {x : Operand} {vx : V} (hx : Er S x vx rs)
    (h : ∀ (w : World) (M : Nat → Prop) (hd : Nat → Value) (a : Act) (d : Option Nat) (ty : TypeId) (pos : String) (af : Array Edge) (g : Option (Nat × Bool)), VV w M hd vx (a.eval x) →
      ∃ u, (execOp a.eval ⟨d, op, ty, pos, af, g⟩).run P w = .ok (.value u) w ∧ VV w M hd v u) : OpV P S op rs [] v :=
  ⟨hx.rd, fun _ h => (List.not_mem_nil h).elim, fun _ _ hd a w d ty pos af g hs h2 _ => h w _ hd a d ty pos af g ((hx.of h2).vv hs)⟩

theorem OpV.two {x y : Operand} {vx vy : V} {r1 r2 : List (Nat × V)} (hx : Er S x vx r1) (hy : Er S y vy r2)
    (h : ∀ (w : World) (M : Nat → Prop) (hd : Nat → Value) (a : Act) (d : Option Nat) (ty : TypeId) (pos : String) (af : Array Edge) (g : Option (Nat × Bool)), VV w M hd vx (a.eval x) → VV w M hd vy (a.eval y) →
      ∃ u, (execOp a.eval ⟨d, op, ty, pos, af, g⟩).run P w = .ok (.value u) w ∧ VV w M hd v u) : OpV P S op (r1 ++ r2) [] v :=
  ⟨mem_app hx.rd hy.rd, fun _ h => (List.not_mem_nil h).elim, fun _ _ hd a w d ty pos af g hs h2 _ =>
    h w _ hd a d ty pos af g ((hx.of fun p hp => h2 p (List.mem_append_left _ hp)).vv hs) ((hy.of fun p hp => h2 p (List.mem_append_right _ hp)).vv hs)⟩

theorem mv {x : Operand} (hx : Er S x v rs) : OpV P S (.move x) rs [] v := .one hx fun _ _ _ _ _ _ _ _ _ h => ⟨_, rfl, h⟩
theorem asg {x : Operand} (hx : Er S x v rs) : OpV P S (.assign x) rs [] v := .one hx fun _ _ _ _ _ _ _ _ _ h => ⟨_, rfl, h⟩

/-! integers -/

def ar (op : BinOp) (k : IntKind) (x y : Int) : Int :=
  match op with
  | .add => k.wrap (x + y)
  | .sub => k.wrap (x - y)
  | .mul => k.wrap (x * y)
  | .and => k.wrap (BitVec.ofInt k.bits x &&& BitVec.ofInt k.bits y).toNat
  | .or => k.wrap (BitVec.ofInt k.bits x ||| BitVec.ofInt k.bits y).toNat
  | .xor => k.wrap (BitVec.ofInt k.bits x ^^^ BitVec.ofInt k.bits y).toNat
  | .andNot => k.wrap (BitVec.ofInt k.bits x &&& ~~~ BitVec.ofInt k.bits y).toNat
  | _ => 0

def isAr : BinOp → Bool
  | .add | .sub | .mul | .and | .or | .xor | .andNot => true
  | _ => false

theorem wrap_in (k : IntKind) (n : Int) : k.min ≤ k.wrap n ∧ k.wrap n ≤ k.max := by
  cases k <;> simp only [IntKind.wrap, IntKind.min, IntKind.max, IntKind.signed, IntKind.bits] <;> simp <;> (try split) <;> omega

theorem run_bi {t : TypeId} {op : BinOp} {k : IntKind} {x y : Int} {w : World} (h : isAr op = true) : (binOp op t (.int k x) (.int k y)).run P w = .ok (.int k (ar op k x y)) w := by
  cases op <;> simp [isAr] at h <;> simp [binOp, Op.intArith, Op.intBits, ar]

theorem ar_in {op : BinOp} {k : IntKind} {x y : Int} (h : isAr op = true) : k.min ≤ ar op k x y ∧ ar op k x y ≤ k.max := by
  cases op <;> simp [isAr] at h <;> exact wrap_in _ _

/-- + - * & | ^ &^ -/
theorem bi {op : BinOp} {t u : TypeId} {x y : Operand} {k : IntKind} {m n : Int} {r1 r2 : List (Nat × V)} (hx : Er S x (.ro (.int k m)) r1) (hy : Er S y (.ro (.int k n)) r2) (ho : isAr op = true) :
    OpV P S (.binOp op t x y u) (r1 ++ r2) [] (.ro (.int k (ar op k m n))) :=
  .two hx hy (fun w M hd a d ty pos af g h1 h2 => by
    obtain ⟨e1, _⟩ := h1.int_inv
    obtain ⟨e2, _⟩ := h2.int_inv
    refine ⟨.int k (ar op k m n), ?_, .ro _ _ (.int _ _ (ar_in ho).1 (ar_in ho).2)⟩
    simp only [execOp, e1, e2, Sem.run_bind, run_bi (P := P) (w := w) ho, eqGuard_at_int, Sem.run_pure, Result.andThen_ok])

/-- comparisons -/
def cm (op : BinOp) (x y : Int) : Bool :=
  match op with
  | .eql => x == y
  | .neq => x != y
  | .lss => decide (x < y)
  | .leq => decide (x ≤ y)
  | .gtr => decide (x > y)
  | .geq => decide (x ≥ y)
  | _ => false

def isCm : BinOp → Bool
  | .eql | .neq | .lss | .leq | .gtr | .geq => true
  | _ => false

theorem run_bc {t : TypeId} {op : BinOp} {k : IntKind} {x y : Int} {w : World} (h : isCm op = true) : (binOp op t (.int k x) (.int k y)).run P w = .ok (.bool (cm op x y)) w := by
  cases op <;> simp [isCm] at h <;> simp [binOp, Op.intCmp, cm]

theorem bc {op : BinOp} {t u : TypeId} {x y : Operand} {k : IntKind} {m n : Int} {b : Bool} {r1 r2 : List (Nat × V)} (hx : Er S x (.ro (.int k m)) r1) (hy : Er S y (.ro (.int k n)) r2) (ho : isCm op = true)
    (hb : cm op m n = b) :
    OpV P S (.binOp op t x y u) (r1 ++ r2) [] (.ro (.bool b)) :=
  .two hx hy (fun w M hd a d ty pos af g h1 h2 => by
    obtain ⟨e1, _⟩ := h1.int_inv
    obtain ⟨e2, _⟩ := h2.int_inv
    refine ⟨.bool b, ?_, .ro _ _ (.bool _)⟩
    rw [← hb]
    simp only [execOp, e1, e2, Sem.run_bind, run_bc (P := P) (w := w) ho, eqGuard_at_int, Sem.run_pure, Result.andThen_ok])

/-- / and % -/
def dv (op : BinOp) (k : IntKind) (x y : Int) : Int :=
  match op with
  | .quo => k.wrap (x.tdiv y)
  | _ => x.tmod y
def isDv : BinOp → Bool
  | .quo | .rem => true
  | _ => false

theorem tmod_in {k : IntKind} {x y : Int} (h1 : k.min ≤ x) (h2 : x ≤ k.max) : k.min ≤ x.tmod y ∧ x.tmod y ≤ k.max := by
  have hmin : k.min ≤ 0 := by cases k <;> simp [IntKind.min, IntKind.signed, IntKind.bits]
  have hmax : 0 ≤ k.max := by cases k <;> simp [IntKind.max, IntKind.signed, IntKind.bits]
  rcases Int.le_total 0 x with h | h
  · have a := Int.tmod_nonneg y h
    have b : x.tmod y ≤ x := by
      have := Int.natAbs_tmod x y
      have hle : x.natAbs % y.natAbs ≤ x.natAbs := Nat.mod_le _ _
      omega
    omega
  · have : x.tmod y ≤ 0 := by
      have := Int.tmod_nonneg y (show 0 ≤ -x by omega)
      rw [Int.neg_tmod] at this
      omega
    have b : x ≤ x.tmod y := by
      have := Int.natAbs_tmod x y
      have hle : x.natAbs % y.natAbs ≤ x.natAbs := Nat.mod_le _ _
      omega
    omega

theorem di {op : BinOp} {t u : TypeId} {x y : Operand} {k : IntKind} {m n : Int} {r1 r2 : List (Nat × V)} (hx : Er S x (.ro (.int k m)) r1) (hy : Er S y (.ro (.int k n)) r2) (ho : isDv op = true)
    (h0 : n ≠ 0) :
    OpV P S (.binOp op t x y u) (r1 ++ r2) [] (.ro (.int k (dv op k m n))) :=
  .two hx hy (fun w M hd a d ty pos af g h1 h2 => by
    obtain ⟨e1, r1, r2⟩ := h1.int_inv
    obtain ⟨e2, _⟩ := h2.int_inv
    refine ⟨.int k (dv op k m n), ?_, .ro _ _ ?_⟩
    · cases op <;> simp [isDv] at ho <;>
        simp [execOp, e1, e2, eqGuard_at_int, binOp, Op.intDiv, h0, dv]
    · cases op <;> simp [isDv] at ho
      · exact .int _ _ (wrap_in _ _).1 (wrap_in _ _).2
      · exact .int _ _ (tmod_in r1 r2).1 (tmod_in r1 r2).2)

/-- shifts -/
def sf (op : BinOp) (k : IntKind) (x y : Int) : Int :=
  match op with
  | .shl => k.wrap (x * 2 ^ (min y.toNat k.bits))
  | _ => x.fdiv (2 ^ (min y.toNat k.bits))
def isSf : BinOp → Bool
  | .shl | .shr => true
  | _ => false

theorem fdiv_in {k : IntKind} {x : Int} {n : Nat} (h1 : k.min ≤ x) (h2 : x ≤ k.max) : k.min ≤ x.fdiv (2 ^ n) ∧ x.fdiv (2 ^ n) ≤ k.max := by
  have hmin : k.min ≤ 0 := by cases k <;> simp [IntKind.min, IntKind.signed, IntKind.bits]
  have hmax : 0 ≤ k.max := by cases k <;> simp [IntKind.max, IntKind.signed, IntKind.bits]
  have hp : (0 : Int) < 2 ^ n := Int.pow_pos (by omega)
  rw [Int.fdiv_eq_ediv_of_nonneg _ (Int.le_of_lt hp)]
  rcases Int.le_total 0 x with h | h
  · have a := Int.ediv_nonneg h (Int.le_of_lt hp)
    have b := Int.ediv_le_self (2 ^ n) h
    omega
  · have b : x / 2 ^ n ≤ 0 := by
      have := Int.ediv_le_ediv hp h
      simpa using this
    have c : x ≤ x / 2 ^ n := by
      rw [Int.le_ediv_iff_mul_le hp]
      have hp1 : (1 : Int) ≤ 2 ^ n := hp
      have := Int.mul_le_mul_of_nonpos_left h hp1
      simpa using this
    omega

theorem sh {op : BinOp} {t u : TypeId} {x y : Operand} {k k' : IntKind} {m n : Int} {r1 r2 : List (Nat × V)} (hx : Er S x (.ro (.int k m)) r1) (hy : Er S y (.ro (.int k' n)) r2) (ho : isSf op = true)
    (h0 : 0 ≤ n) :
    OpV P S (.binOp op t x y u) (r1 ++ r2) [] (.ro (.int k (sf op k m n))) :=
  .two hx hy (fun w M hd a d ty pos af g h1 h2 => by
    obtain ⟨e1, r1, r2⟩ := h1.int_inv
    obtain ⟨e2, _⟩ := h2.int_inv
    have h0' : ¬ n < 0 := by omega
    refine ⟨.int k (sf op k m n), ?_, .ro _ _ ?_⟩
    · cases op <;> simp [isSf] at ho <;>
        simp [execOp, e1, e2, eqGuard_at_int, binOp, Op.shift, h0', sf]
    · cases op <;> simp [isSf] at ho
      · exact .int _ _ (wrap_in _ _).1 (wrap_in _ _).2
      · exact .int _ _ (fdiv_in r1 r2).1 (fdiv_in r1 r2).2)

end
end Xb
