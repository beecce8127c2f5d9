/- Own text: Core4. -/
import Derived.Test.YtemfkddlidfbfaaGreatCore3
import Derived.Laws.Strings
set_option linter.all false
set_option linter.unusedVariables false
set_option linter.unusedSimpArgs false
set_option linter.unnecessarySimpa false
set_option linter.deprecated false
/-! The operations that read memory, and the rest of those that touch none. -/
namespace Xb
open Go

def nth {α : Type} : List α → Nat → Option α
  | [], _ => none
  | x :: _, 0 => some x
  | _ :: r, n + 1 => nth r n

theorem nth_eq {α : Type} : ∀ (l : List α) (i : Nat), nth l i = l[i]?
  | [], _ => by simp [nth]
  | x :: r, 0 => by simp [nth]
  | x :: r, n + 1 => by simp [nth, nth_eq r n]

/-- all of them immutable -/
def ros : List V → Option (List A)
  | [] => some []
  | .ro a :: r => match ros r with | some l => some (a :: l) | none => none
  | _ :: _ => none

theorem ros_get : ∀ {cs : List V} {l : List A}, ros cs = some l → cs = l.map .ro
  | [], l, h => by simp [ros] at h; subst h; rfl
  | .ro a :: r, l, h => by
    simp only [ros] at h
    split at h
    · rename_i l' hl; cases h; rw [ros_get hl]; rfl
    · cases h
  | .own _ :: _, _, h => by simp [ros] at h
  | .ptr _ _ :: _, _, h => by simp [ros] at h
  | .rptr _ :: _, _, h => by simp [ros] at h
  | .cptr _ :: _, _, h => by simp [ros] at h
  | .agg _ :: _, _, h => by simp [ros] at h
  | .tup _ :: _, _, h => by simp [ros] at h
  | .fn _ _ _ :: _, _, h => by simp [ros] at h
  | .may _ _ :: _, _, h => by simp [ros] at h
  | .view _ _ _ _ :: _, _, h => by simp [ros] at h
  | .ifc _ _ :: _, _, h => by simp [ros] at h
  | .un :: _, _, h => by simp [ros] at h

def mkAgg (cs : List V) : V := match ros cs with | some l => .ro (.agg l) | none => .agg cs
def mkTup (cs : List V) : V := match ros cs with | some l => .ro (.tup l) | none => .tup cs

section
variable {w : World} {M : Nat → Prop} {hd : Nat → Value}

theorem VV.ro_of {a : A} {v : Value} (h : VV w M hd (.ro a) v) : VR w M a v := by cases h with | ro _ _ h => exact h

theorem VV.mkAgg {cs : List V} {v : Value} (h : VV w M hd (.agg cs) v) : VV w M hd (Xb.mkAgg cs) v := by
  unfold Xb.mkAgg
  split
  · rename_i l hl
    have e := ros_get hl
    subst e
    cases h with
    | agg _ vs hlen ho hv =>
      refine .ro _ _ (.agg l vs (by simpa using hlen) ho fun i a v hi hvi => ?_)
      exact (hv i (.ro a) v (by simp [hi]) hvi).ro_of
  · exact h

theorem VV.mkTup {cs : List V} {v : Value} (h : VV w M hd (.tup cs) v) : VV w M hd (Xb.mkTup cs) v := by
  unfold Xb.mkTup
  split
  · rename_i l hl
    have e := ros_get hl
    subst e
    cases h with
    | tup _ vs hlen hv =>
      refine .ro _ _ (.tup l vs (by simpa using hlen) fun i a v hi hvi => ?_)
      exact (hv i (.ro a) v (by simp [hi]) hvi).ro_of
  · exact h

/-- the parts of a struct -/
def mkIfc (t : TypeId) (x : V) : V := match x with | .ro a => .ro (.ifc t a) | x => .ifc t x
theorem VV.mkIfc {t : TypeId} {x : V} {v : Value} (h : VV w M hd x v) : VV w M hd (Xb.mkIfc t x) (.iface t v) := by
  cases x with
  | ro a => exact .ro _ _ (.ifc t a v h.ro_of)
  | _ => exact .ifc t _ v h

def aggs : V → Option (List V)
  | .ro (.agg l) => some (l.map .ro)
  | .agg l => some l
  | _ => none
def tups : V → Option (List V)
  | .ro (.tup l) => some (l.map .ro)
  | .tup l => some l
  | _ => none

theorem VV.aggs {x : V} {cs : List V} {v : Value} (h : VV w M hd x v) (hc : Xb.aggs x = some cs) :
    ∃ vs : List Value, v = .agg ⟨vs⟩ ∧ cs.length = vs.length ∧ (∀ (i : Nat) (v : Value), vs[i]? = some v → v.oneCell' = true) ∧
      ∀ (i : Nat) (a : V) (v : Value), cs[i]? = some a → vs[i]? = some v → VV w M hd a v := by
  cases x with
  | ro a =>
    cases a with
    | agg l =>
      simp only [Xb.aggs, Option.some.injEq] at hc
      subst hc
      have h := h.ro_of
      cases h with
      | agg _ vs hl ho hv =>
        refine ⟨vs, rfl, by simpa using hl, ho, fun i a v hi hvi => ?_⟩
        simp only [List.getElem?_map, Option.map_eq_some_iff] at hi
        obtain ⟨a', ha, rfl⟩ := hi
        exact .ro _ _ (hv i a' v ha hvi)
    | _ => simp [Xb.aggs] at hc
  | agg l =>
    simp only [Xb.aggs, Option.some.injEq] at hc
    subst hc
    cases h with
    | agg _ vs hl ho hv => exact ⟨vs, rfl, hl, ho, hv⟩
  | _ => simp [Xb.aggs] at hc

theorem VV.tups {x : V} {cs : List V} {v : Value} (h : VV w M hd x v) (hc : Xb.tups x = some cs) :
    ∃ vs : List Value, v = .tuple ⟨vs⟩ ∧ cs.length = vs.length ∧
      ∀ (i : Nat) (a : V) (v : Value), cs[i]? = some a → vs[i]? = some v → VV w M hd a v := by
  cases x with
  | ro a =>
    cases a with
    | tup l =>
      simp only [Xb.tups, Option.some.injEq] at hc
      subst hc
      have h := h.ro_of
      cases h with
      | tup _ vs hl hv =>
        refine ⟨vs, rfl, by simpa using hl, fun i a v hi hvi => ?_⟩
        simp only [List.getElem?_map, Option.map_eq_some_iff] at hi
        obtain ⟨a', ha, rfl⟩ := hi
        exact .ro _ _ (hv i a' v ha hvi)
    | _ => simp [Xb.tups] at hc
  | tup l =>
    simp only [Xb.tups, Option.some.injEq] at hc
    subst hc
    cases h with
    | tup _ vs hl hv => exact ⟨vs, rfl, hl, hv⟩
  | _ => simp [Xb.tups] at hc
end

/-- what is said of a type: struct or array; its cells -/
structure TF (P : Program) (t : TypeId) (ag : Bool) (n : Nat) : Prop where
  d : ∃ d, P.underlying t = some d ∧ (match d with | .struct _ | .array _ _ => true | _ => false) = ag
  n : ∃ i, P.info? t = some i ∧ i.size = n

/-- a field -/
structure FF (P : Program) (t : TypeId) (f off : Nat) (ft : TypeId) : Prop where
  h : ∃ fs fd, P.underlying t = some (.struct fs) ∧ fs[f]? = some fd ∧ fd.offset = off ∧ fd.type = ft

/-- a slice's type -/
structure SF (P : Program) (t e : TypeId) (sz : Nat) : Prop where
  u : P.underlying t = some (.slice e)
  n : ∃ i, P.info? e = some i ∧ i.size = sz

section
variable {P : Program}

theorem TF.run_isAgg {t : TypeId} {ag : Bool} {n : Nat} (h : TF P t ag n) (w : World) : (isAgg t).run P w = .ok ag w := by
  obtain ⟨d, hu, hd⟩ := h.d
  unfold isAgg
  rw [Sem.run_bind, run_underlying hu w]
  subst hd
  cases d <;> rfl
theorem TF.run_sizeOf {t : TypeId} {ag : Bool} {n : Nat} (h : TF P t ag n) (w : World) : (Go.sizeOf t).run P w = .ok n w := by
  obtain ⟨i, hi, rfl⟩ := h.n
  simp [Go.sizeOf, typeInfo, hi]
theorem SF.run_sizeOf {t e : TypeId} {n : Nat} (h : SF P t e n) (w : World) : (Go.sizeOf e).run P w = .ok n w := by
  obtain ⟨i, hi, rfl⟩ := h.n
  simp [Go.sizeOf, typeInfo, hi]

end

section
variable {P : Program} {ops : Array Oper} {S S' : St} {os : List Oper} {es : List Eff}
variable {d : Option Nat} {ty : TypeId} {pos : String} {af : Array Edge} {g : Option (Nat × Bool)}

/-! no memory -/

theorem no {t : TypeId} {x : Operand} {b : Bool} {rs : List (Nat × V)} (hx : Er S x (.ro (.bool b)) rs) :
    OpV P S (.unOp .not t x) rs [] (.ro (.bool (!b))) :=
  .one hx (fun w M hd a d ty pos af g h1 => by
    refine ⟨.bool (!b), ?_, .ro _ _ (.bool _)⟩
    simp [execOp, h1.bool_inv, Op.unary])

theorem ng {t : TypeId} {x : Operand} {k : IntKind} {n : Int} {rs : List (Nat × V)} (hx : Er S x (.ro (.int k n)) rs) :
    OpV P S (.unOp .neg t x) rs [] (.ro (.int k (k.wrap (0 - n)))) :=
  .one hx (fun w M hd a d ty pos af g h1 => by
    refine ⟨.int k (k.wrap (0 - n)), ?_, .ro _ _ (.int _ _ (wrap_in _ _).1 (wrap_in _ _).2)⟩
    simp [execOp, h1.int_inv.1, Op.unary, Op.intArith])

def xr (k : IntKind) (n : Int) : Int := ar .xor k (if k.signed then -1 else k.max) n
theorem xo {t : TypeId} {x : Operand} {k : IntKind} {n : Int} {rs : List (Nat × V)} (hx : Er S x (.ro (.int k n)) rs) :
    OpV P S (.unOp .xor t x) rs [] (.ro (.int k (xr k n))) :=
  .one hx (fun w M hd a d ty pos af g h1 => by
    refine ⟨.int k (xr k n), ?_, .ro _ _ (.int _ _ (wrap_in _ _).1 (wrap_in _ _).2)⟩
    simp [execOp, h1.int_inv.1, Op.unary, Op.intBits, xr, ar])

/-- pick, its condition known -/
theorem pk {c x y : Operand} {b : Bool} {vx vy v : V} {r1 r2 r3 : List (Nat × V)} (hc : Er S c (.ro (.bool b)) r1) (hx : Er S x vx r2) (hy : Er S y vy r3) (hv : (bif b then vx else vy) = v) :
    OpV P S (.pick c x y) (r1 ++ (r2 ++ r3)) [] v := by
  refine ⟨mem_app hc.rd (mem_app hx.rd hy.rd), fun _ h => (List.not_mem_nil h).elim, fun C S2 hd a w d ty pos af g hs h2 _ => ?_⟩
  have e1 := ((hc.of fun p hp => h2 p (List.mem_append_left _ hp)).vv hs).bool_inv
  have e2 := ((hx.of fun p hp => h2 p (List.mem_append_right _ (List.mem_append_left _ hp))).vv hs)
  have e3 := ((hy.of fun p hp => h2 p (List.mem_append_right _ (List.mem_append_right _ hp))).vv hs)
  subst hv
  refine ⟨if b then a.eval x else a.eval y, ?_, ?_⟩
  · cases b <;> simp [execOp, e1, asBool]
  · cases b
    · exact e3
    · exact e2

/-- && : what is asked second stands where the first holds -/
theorem pka {c x : Operand} {b n : Bool} {r1 r2 : List (Nat × V)} (hc : Er S c (.ro (.bool b)) r1) (hx : Er S x (.may (b = true) (.ro (.bool n))) r2) :
    OpV P S (.pick c x (.const (.bool false))) (r1 ++ r2) [] (.ro (.bool (b && n))) :=
  .two hc hx fun w M hd a d ty pos af g h1 h2 => by
    refine ⟨.bool (b && n), ?_, .ro _ _ (.bool _)⟩
    cases b with
    | true => simp [execOp, h1.bool_inv, asBool, (h2.may_inv rfl).bool_inv]
    | false => simp [execOp, h1.bool_inv, asBool]; rfl

/-- || -/
theorem pko {c x : Operand} {b n : Bool} {r1 r2 : List (Nat × V)} (hc : Er S c (.ro (.bool b)) r1) (hx : Er S x (.may (b = false) (.ro (.bool n))) r2) :
    OpV P S (.pick c (.const (.bool true)) x) (r1 ++ r2) [] (.ro (.bool (b || n))) :=
  .two hc hx fun w M hd a d ty pos af g h1 h2 => by
    refine ⟨.bool (b || n), ?_, .ro _ _ (.bool _)⟩
    cases b with
    | true => simp [execOp, h1.bool_inv, asBool]; rfl
    | false => simp [execOp, h1.bool_inv, asBool, (h2.may_inv rfl).bool_inv]

/-- the same where all of it is guarded -/
theorem pkam {c x : Operand} {b n : Bool} {q : Prop} {r1 r2 : List (Nat × V)} (hc : Er S c (.ro (.bool b)) r1) (hx : Er S x (.may (q ∧ b = true) (.ro (.bool n))) r2) (hq : q) :
    OpV P S (.pick c x (.const (.bool false))) (r1 ++ r2) [] (.ro (.bool (b && n))) :=
  .two hc hx fun w M hd a d ty pos af g h1 h2 => by
    refine ⟨.bool (b && n), ?_, .ro _ _ (.bool _)⟩
    cases b with
    | true => simp [execOp, h1.bool_inv, asBool, (h2.may_inv ⟨hq, rfl⟩).bool_inv]
    | false => simp [execOp, h1.bool_inv, asBool]; rfl
theorem pkom {c x : Operand} {b n : Bool} {q : Prop} {r1 r2 : List (Nat × V)} (hc : Er S c (.ro (.bool b)) r1) (hx : Er S x (.may (q ∧ b = false) (.ro (.bool n))) r2) (hq : q) :
    OpV P S (.pick c (.const (.bool true)) x) (r1 ++ r2) [] (.ro (.bool (b || n))) :=
  .two hc hx fun w M hd a d ty pos af g h1 h2 => by
    refine ⟨.bool (b || n), ?_, .ro _ _ (.bool _)⟩
    cases b with
    | true => simp [execOp, h1.bool_inv, asBool]; rfl
    | false => simp [execOp, h1.bool_inv, asBool, (h2.may_inv ⟨hq, rfl⟩).bool_inv]

/-- conversions between integers -/
theorem cv {src dst : TypeId} {x : Operand} {k k' : IntKind} {n : Int} (hk : (P.underlying src).isSome = true ∧ P.underlying dst = some (.int k')) {rs : List (Nat × V)} (hx : Er S x (.ro (.int k n)) rs) :
    OpV P S (.convert src dst x) rs [] (.ro (.int k' (k'.wrap n))) :=
  .one hx (fun w M hd a d ty pos af g h1 => by
    refine ⟨.int k' (k'.wrap n), ?_, .ro _ _ (.int _ _ (wrap_in _ _).1 (wrap_in _ _).2)⟩
    obtain ⟨d, hd'⟩ := Option.isSome_iff_exists.mp hk.1
    simp [execOp, h1.int_inv.1, convert, run_underlying hd', run_underlying hk.2, Conv.intToInt])

/-- a part of a tuple -/
theorem ex {x : Operand} {i : Nat} {vx v : V} {cs : List V} {rs : List (Nat × V)} (hx : Er S x vx rs) (hc : tups vx = some cs) (hi : nth cs i = some v) :
    OpV P S (.extract x i) rs [] v :=
  .one hx (fun w M hd a d ty pos af g h1 => by
    obtain ⟨vs, e, hl, hv⟩ := h1.tups hc
    rw [nth_eq] at hi
    have hlt : i < vs.length := by
      rw [← hl]; exact (List.getElem?_eq_some_iff.1 hi).1
    refine ⟨vs[i], ?_, hv i v _ hi (List.getElem?_eq_getElem hlt)⟩
    simp [execOp, e, Instr.extract, hlt])

theorem run_len {t : TypeId} {dd : TypeDesc} {ty2 : TypeId} {o : Option Addr} {n c : Nat} {w : World} (h : P.underlying t = some dd) (hs : ∃ e, dd = .slice e) :
    (Builtin.len_ #[t] ty2 #[.slice o n c]).run P w = .ok (.int .i64 n) w := by
  obtain ⟨e, rfl⟩ := hs
  simp [Builtin.len_, run_underlying h, goInt]

theorem max_i64 : IntKind.i64.max = 9223372036854775807 := by decide
theorem min_i64 : IntKind.i64.min = -9223372036854775808 := by decide
theorem len_in {n : Nat} (h : n ≤ maxLen) : IntKind.i64.min ≤ (n : Int) ∧ (n : Int) ≤ IntKind.i64.max := by
  rw [max_i64, min_i64]; unfold maxLen at h; omega

/-- len of what is immutable -/
theorem ln {t e : TypeId} {sz sz' : Nat} {x : Operand} {l : List (List A)} (hT : SF P t e sz) {rs : List (Nat × V)} (hx : Er S x (.ro (.list sz' l)) rs) :
    OpV P S (.call ⟨.builtin .len, #[x], #[t]⟩) rs [] (.ro (.int .i64 l.length)) :=
  .one hx (fun w M hd a d ty pos af g h1 => by
    have hl : l.length ≤ maxLen ∧ ∃ o c, a.eval x = .slice o l.length c := by
      have h := h1.ro_of
      generalize a.eval x = v at h
      cases h with
      | emp _ o c hc => exact ⟨Nat.zero_le _, o, c, rfl⟩
      | list _ _ b off c vs h1 h2 => exact ⟨Nat.le_trans h1 h2, _, _, rfl⟩
    obtain ⟨hm, o, c, e1⟩ := hl
    refine ⟨.int .i64 l.length, ?_, .ro _ _ (.int _ _ (len_in hm).1 (len_in hm).2)⟩
    simp [execOp, resolve, invoke, builtin, e1, run_len hT.u ⟨_, rfl⟩])

theorem run_lens {t : TypeId} {ty2 : TypeId} {s : List UInt8} {w : World} (h : P.underlying t = some .string) :
    (Builtin.len_ #[t] ty2 #[.string ⟨s.toArray⟩]).run P w = .ok (.int .i64 s.length) w := by
  simp only [Builtin.len_, List.getElem?_toArray, List.getElem?_cons_zero, Sem.run_bind, run_underlying h, Result.andThen_ok, Sem.run_pure, goInt]
  rfl

/-- len of a text -/
theorem lns {t : TypeId} {x : Operand} {s : List UInt8} (hT : P.underlying t = some .string) {rs : List (Nat × V)} (hx : Er S x (.ro (.str s)) rs) :
    OpV P S (.call ⟨.builtin .len, #[x], #[t]⟩) rs [] (.ro (.int .i64 s.length)) :=
  .one hx (fun w M hd a d ty pos af g h1 => by
    obtain ⟨e1, hm⟩ := h1.str_inv
    refine ⟨.int .i64 s.length, ?_, .ro _ _ (.int _ _ (len_in hm).1 (len_in hm).2)⟩
    simp [execOp, resolve, invoke, builtin, e1, run_lens hT])

/-- == and != on texts -/
def sc (op : BinOp) (s t : List UInt8) : Bool :=
  match op with
  | .eql => s == t
  | .neq => !(s == t)
  | .lss => Op.bytesLess s t
  | .leq => Op.bytesLess s t || s == t
  | .gtr => !(Op.bytesLess s t || s == t)
  | .geq => !(Op.bytesLess s t)
  | _ => false

theorem toList_mk (s : List UInt8) : (ByteArray.mk s.toArray).toList = s := by
  have h : ∀ (b : ByteArray), b.toList = b.data.toList := by
    intro b
    simp [ByteArray.toList_eq]
  rw [h]

theorem sq {op : BinOp} {t u : TypeId} {x y : Operand} {m n : List UInt8} {b : Bool} {r1 r2 : List (Nat × V)} (hx : Er S x (.ro (.str m)) r1) (hy : Er S y (.ro (.str n)) r2) (ho : isCm op = true)
    (hb : sc op m n = b) :
    OpV P S (.binOp op t x y u) (r1 ++ r2) [] (.ro (.bool b)) :=
  .two hx hy (fun w M hd a d ty pos af g h1 h2 => by
    obtain ⟨e1, _⟩ := h1.str_inv
    obtain ⟨e2, _⟩ := h2.str_inv
    refine ⟨.bool b, ?_, .ro _ _ (.bool _)⟩
    subst hb
    cases op <;> simp [isCm] at ho <;> simp [execOp, e1, e2, binOp, Op.stringOp, eqGuard_at_string, ByteArray.toList_eq, sc])

end
end Xb
