/- Own text: Core1. -/
import Derived.Calls
import Derived.Laws.Entries
import Derived.Laws.AppendOwn
import Derived.Below
import Derived.KernelRfl
import GoSem.Machine.Frame
import Derived.Maps.Own
import Derived.Maps.OwnSet
import Derived.Maps.Views
set_option linter.all false
set_option linter.unusedVariables false
set_option linter.unusedSimpArgs false
set_option linter.unnecessarySimpa false
set_option linter.deprecated false
/-! Pure data, what a value of the machine reads as, and the state that a walk carries. -/
namespace Xb
open Go

inductive A where
  | bool (b : Bool)
  | int (k : IntKind) (n : Int)
  | str (s : List UInt8)
  | list (sz : Nat) (l : List (List A))
  | agg (cs : List A)
  | tup (cs : List A)
  | raw (v : Value)
  | ifc (t : TypeId) (x : A)
  deriving Inhabited

/-- a value of the machine that holds no place in memory -/
def plain : Value → Bool
  | .nilFunc | .nilIface | .pointer none | .map none => true
  | .slice _ _ _ => true
  | .func _ f c => f.isEmpty && c.isEmpty
  | _ => false

inductive VR (w : World) (M : Nat → Prop) : A → Value → Prop
  | bool (b : Bool) : VR w M (.bool b) (.bool b)
  | int (k : IntKind) (n : Int) (h1 : k.min ≤ n) (h2 : n ≤ k.max) : VR w M (.int k n) (.int k n)
  | str (s : List UInt8) (h : s.length ≤ maxLen) : VR w M (.str s) (.string ⟨s.toArray⟩)
  | emp (sz : Nat) (o : Option Addr) (cap : Nat) (h : cap ≤ maxLen) : VR w M (.list sz []) (.slice o 0 cap)
  | list (sz : Nat) (l : List (List A)) (b off cap : Nat) (vs : List Value) (h1 : l.length ≤ cap) (h2 : cap ≤ maxLen)
      (hM : ¬ M b) (hb : b < w.heap.size) (hs : ∀ cs, cs ∈ l → cs.length = sz) (hl : l.flatten.length = vs.length)
      (hc : ∀ (k : Nat) (v : Value), vs[k]? = some v → w.cell? ⟨b, off + k, none⟩ = some v)
      (ho : ∀ (k : Nat) (v : Value), vs[k]? = some v → v.oneCell' = true)
      (hv : ∀ (k : Nat) (a : A) (v : Value), l.flatten[k]? = some a → vs[k]? = some v → VR w M a v) :
      VR w M (.list sz l) (.slice (some ⟨b, off, none⟩) l.length cap)
  | agg (cs : List A) (vs : List Value) (hl : cs.length = vs.length) (ho : ∀ (i : Nat) (v : Value), vs[i]? = some v → v.oneCell' = true)
      (hv : ∀ (i : Nat) (a : A) (v : Value), cs[i]? = some a → vs[i]? = some v → VR w M a v) : VR w M (.agg cs) (.agg ⟨vs⟩)
  | tup (cs : List A) (vs : List Value) (hl : cs.length = vs.length)
      (hv : ∀ (i : Nat) (a : A) (v : Value), cs[i]? = some a → vs[i]? = some v → VR w M a v) : VR w M (.tup cs) (.tuple ⟨vs⟩)
  | raw (v : Value) (h : plain v = true) : VR w M (.raw v) v
  | ifc (t : TypeId) (x : A) (v : Value) (h : VR w M x v) : VR w M (.ifc t x) (.iface t v)

/-- what was there, but for the blocks B, is as it was -/
structure Chg (w w' : World) (B : Nat → Prop) : Prop where
  os : w'.os = w.os
  tape : w'.tape = w.tape
  output : w'.output = w.output
  size : w.heap.size ≤ w'.heap.size
  block : ∀ k, k < w.heap.size → ¬ B k → w'.heap[k]? = w.heap[k]?

theorem Chg.refl (w : World) (B : Nat → Prop) : Chg w w B := ⟨rfl, rfl, rfl, Nat.le_refl _, fun _ _ _ => rfl⟩

theorem VR.ext {w w' : World} {M M' B : Nat → Prop} {a : A} {v : Value} (h : VR w M a v) (hw : Chg w w' B) (hB : ∀ b, B b → M b)
    (hM : ∀ b, b < w.heap.size → M' b → M b) : VR w' M' a v := by
  induction h with
  | bool b => exact .bool b
  | int k n h1 h2 => exact .int k n h1 h2
  | str s h => exact .str s h
  | emp sz o cap h => exact .emp sz o cap h
  | list sz l b off cap vs h1 h2 hMb hb hs hl hc ho _ ih =>
    refine .list sz l b off cap vs h1 h2 (fun h => hMb (hM b hb h)) (Nat.lt_of_lt_of_le hb hw.size) hs hl (fun k v hk => ?_) ho ih
    rw [World.cell?_of_block (w := w) (hw.block b hb (fun h => hMb (hB b h)))]
    exact hc k v hk
  | agg cs vs hl ho _ ih => exact .agg cs vs hl ho ih
  | tup cs vs hl _ ih => exact .tup cs vs hl ih
  | raw v h => exact .raw v h
  | ifc t x v _ ih => exact .ifc t x v ih

inductive V where
  | ro (a : A)
  | own (id : Nat)
  | ptr (id off : Nat)
  | rptr (cs : List A)
  | cptr (cs : List V)
  | agg (cs : List V)
  | tup (cs : List V)
  | fn (f : Fn) (first captured : List V)
  | may (c : Prop) (x : V)
  | view (id sz lo n : Nat)
  | ifc (t : TypeId) (x : V)
  | un
  deriving Inhabited

inductive O where
  | box (cs : List V)
  | arr (e : TypeId) (sz : Nat) (l : List (List A))
  | siter (s : List UInt8) (pos : Nat)
  | map (P : Program) (k e : TypeId) (kk : IntKind) (m : List (Int × A))

def blk : Value → Option Nat
  | .slice (some a) _ _ => some a.block
  | .pointer (some a) => some a.block
  | .map (some r) => some r
  | _ => none

/-- v is a piece of the list h: n elements from the lo-th on -/
def isView (h : Value) (sz lo n : Nat) (v : Value) : Prop :=
  (n = 0 ∧ ∃ (o : Option Addr) (cap : Nat), v = .slice o 0 cap ∧ cap ≤ maxLen) ∨
    ∃ b cap : Nat, blk h = some b ∧ v = .slice (some ⟨b, lo * sz, none⟩) n cap ∧ n ≤ cap ∧ cap ≤ maxLen

theorem isView.one {h : Value} {sz lo n : Nat} {v : Value} (H : isView h sz lo n v) : v.oneCell' = true := by
  rcases H with ⟨_, o, cap, rfl, _⟩ | ⟨b, cap, _, rfl, _⟩ <;> rfl

inductive VV (w : World) (M : Nat → Prop) (hd : Nat → Value) : V → Value → Prop
  | ro (a : A) (v : Value) (h : VR w M a v) : VV w M hd (.ro a) v
  | own (id : Nat) (h : (hd id).oneCell' = true) : VV w M hd (.own id) (hd id)
  | ptr (id off b : Nat) (h : blk (hd id) = some b) : VV w M hd (.ptr id off) (.pointer (some ⟨b, off, none⟩))
  | rptr (cs : List A) (b off : Nat) (vs : List Value) (hM : ¬ M b) (hb : b < w.heap.size) (hl : cs.length = vs.length)
      (hc : ∀ (k : Nat) (v : Value), vs[k]? = some v → w.cell? ⟨b, off + k, none⟩ = some v)
      (ho : ∀ (k : Nat) (v : Value), vs[k]? = some v → v.oneCell' = true)
      (hv : ∀ (k : Nat) (a : A) (v : Value), cs[k]? = some a → vs[k]? = some v → VR w M a v) : VV w M hd (.rptr cs) (.pointer (some ⟨b, off, none⟩))
  | cptr (cs : List V) (b off : Nat) (vs : List Value) (hM : ¬ M b) (hb : b < w.heap.size) (hl : cs.length = vs.length)
      (hc : ∀ (k : Nat) (v : Value), vs[k]? = some v → w.cell? ⟨b, off + k, none⟩ = some v)
      (ho : ∀ (k : Nat) (v : Value), vs[k]? = some v → v.oneCell' = true)
      (hv : ∀ (k : Nat) (a : V) (v : Value), cs[k]? = some a → vs[k]? = some v → VV w M hd a v) : VV w M hd (.cptr cs) (.pointer (some ⟨b, off, none⟩))
  | agg (cs : List V) (vs : List Value) (hl : cs.length = vs.length) (ho : ∀ (i : Nat) (v : Value), vs[i]? = some v → v.oneCell' = true)
      (hv : ∀ (i : Nat) (a : V) (v : Value), cs[i]? = some a → vs[i]? = some v → VV w M hd a v) : VV w M hd (.agg cs) (.agg ⟨vs⟩)
  | tup (cs : List V) (vs : List Value) (hl : cs.length = vs.length)
      (hv : ∀ (i : Nat) (a : V) (v : Value), cs[i]? = some a → vs[i]? = some v → VV w M hd a v) : VV w M hd (.tup cs) (.tuple ⟨vs⟩)
  | fn (f : Fn) (cs ds : List V) (vs us : List Value) (hl : cs.length = vs.length) (hl' : ds.length = us.length)
      (hv : ∀ (i : Nat) (a : V) (v : Value), cs[i]? = some a → vs[i]? = some v → VV w M hd a v)
      (hv' : ∀ (i : Nat) (a : V) (v : Value), ds[i]? = some a → us[i]? = some v → VV w M hd a v) : VV w M hd (.fn f cs ds) (.func f ⟨vs⟩ ⟨us⟩)
  | may (c : Prop) (x : V) (v : Value) (h : c → VV w M hd x v) (hn : ¬ c → v = undef) : VV w M hd (.may c x) v
  | view (id sz lo n : Nat) (v : Value) (h : isView (hd id) sz lo n v) : VV w M hd (.view id sz lo n) v
  | ifc (t : TypeId) (x : V) (v : Value) (h : VV w M hd x v) : VV w M hd (.ifc t x) (.iface t v)
  | un (v : Value) : VV w M hd .un v

mutual
/-- does it name the object? -/
def V.men (id : Nat) : V → Bool
  | .ro _ | .rptr _ | .un => false
  | .own i | .ptr i _ | .view i _ _ _ => Nat.beq i id
  | .agg cs | .tup cs | .cptr cs => V.mens id cs
  | .may _ x | .ifc _ x => V.men id x
  | .fn _ cs ds => V.mens id cs || V.mens id ds
def V.mens (id : Nat) : List V → Bool
  | [] => false
  | x :: r => V.men id x || V.mens id r
end

theorem V.mens_get {id : Nat} : ∀ {cs : List V} {i : Nat} {a : V}, V.mens id cs = false → cs[i]? = some a → V.men id a = false
  | x :: r, 0, a, h, hi => by simp [V.mens] at h hi; exact hi ▸ h.1
  | x :: r, i + 1, a, h, hi => by simp [V.mens] at h; exact V.mens_get h.2 (by simpa using hi)

theorem VV.ext {w w' : World} {M M' B : Nat → Prop} {hd hd' : Nat → Value} {a : V} {v : Value} (h : VV w M hd a v) (hw : Chg w w' B) (hB : ∀ b, B b → M b)
    (hM : ∀ b, b < w.heap.size → M' b → M b) (hh : ∀ id, V.men id a = true → hd' id = hd id) : VV w' M' hd' a v := by
  induction h with
  | ro a v h => exact .ro a v (h.ext hw hB hM)
  | own id h =>
    have e := hh id (by simp [V.men])
    rw [← e] at h ⊢; exact .own id h
  | ptr id off b h => exact .ptr id off b (by rw [hh id (by simp [V.men])]; exact h)
  | rptr cs b off vs hMb hb hl hc ho hv =>
    refine .rptr cs b off vs (fun h => hMb (hM b hb h)) (Nat.lt_of_lt_of_le hb hw.size) hl (fun k v hk => ?_) ho (fun k a v hi hk => (hv k a v hi hk).ext hw hB hM)
    rw [World.cell?_of_block (w := w) (hw.block b hb (fun h => hMb (hB b h)))]
    exact hc k v hk
  | cptr cs b off vs hMb hb hl hc ho _ ih =>
    refine .cptr cs b off vs (fun h => hMb (hM b hb h)) (Nat.lt_of_lt_of_le hb hw.size) hl (fun k v hk => ?_) ho (fun i a v hi hv => ih i a v hi hv fun id hm => hh id ?_)
    · rw [World.cell?_of_block (w := w) (hw.block b hb (fun h => hMb (hB b h)))]
      exact hc k v hk
    · cases hx : V.men id (.cptr cs) with
      | true => rfl
      | false => have := V.mens_get (by simpa [V.men] using hx) hi; simp [this] at hm
  | agg cs vs hl ho _ ih =>
    refine .agg cs vs hl ho (fun i a v hi hv => ih i a v hi hv fun id hm => hh id ?_)
    cases hx : V.men id (.agg cs) with
    | true => rfl
    | false => have := V.mens_get (by simpa [V.men] using hx) hi; simp [this] at hm
  | tup cs vs hl _ ih =>
    refine .tup cs vs hl (fun i a v hi hv => ih i a v hi hv fun id hm => hh id ?_)
    cases hx : V.men id (.tup cs) with
    | true => rfl
    | false => have := V.mens_get (by simpa [V.men] using hx) hi; simp [this] at hm
  | fn f cs ds vs us hl hl' _ _ ih ih' =>
    refine .fn f cs ds vs us hl hl' (fun i a v hi hv => ih i a v hi hv fun id hm => hh id ?_) (fun i a v hi hv => ih' i a v hi hv fun id hm => hh id ?_)
    · cases hx : V.men id (.fn f cs ds) with
      | true => rfl
      | false =>
        simp only [V.men, Bool.or_eq_false_iff] at hx
        have := V.mens_get hx.1 hi; simp [this] at hm
    · cases hx : V.men id (.fn f cs ds) with
      | true => rfl
      | false =>
        simp only [V.men, Bool.or_eq_false_iff] at hx
        have := V.mens_get hx.2 hi; simp [this] at hm
  | may c x v _ hn ih => exact .may c x v (fun hc => ih hc fun id hm => hh id (by simpa [V.men] using hm)) hn
  | view id sz lo n v h => exact .view id sz lo n v (by rw [hh id (by simp [V.men])]; exact h)
  | ifc t x v _ ih => exact .ifc t x v (ih fun id hm => hh id (by simpa [V.men] using hm))
  | un v => exact .un v

structure St where
  s : List (Nat × V)
  o : List (Nat × Option O)

def lk {α : Type} : List (Nat × α) → Nat → Option α
  | [], _ => none
  | (i, x) :: r, t => bif Nat.beq i t then some x else lk r t

def St.gs (S : St) (t : Nat) : Option V := lk S.s t
def St.go (S : St) (id : Nat) : Option O := match lk S.o id with | some x => x | none => none

structure Ctx where
  w0 : World
  X : Nat → Prop
  M0 : Nat → Prop
  nt : Nat
  /-- slots that stay, and what stands there -/
  pn : List Nat
  pv : Nat → Value
  /-- the marks of ranges over functions -/
  mks : List Nat
  /-- blocks that stay as they are -/
  fx : List (Nat × Obj)
  hM0 : ∀ b, M0 b → b < w0.heap.size ∧ ¬ X b

def Ow (S : St) (hd : Nat → Value) (b : Nat) : Prop := ∃ id x, S.go id = some x ∧ blk (hd id) = some b

/-- an element of a map, as a datum -/
def datA : A → Option (DataW Unit)
  | .bool b => some (.lit (.bool b))
  | .int q n => some (.lit (.int q n))
  | _ => none
/-- the latest entry of a key -/
def mlook {α : Type} : List (Int × α) → Int → Option α
  | [], _ => none
  | (i, x) :: r, k => if i = k then some x else mlook r k
/-- D holds just what m holds -/
def MapRel (kk : IntKind) (D : DataW Unit) (m : List (Int × A)) : Prop :=
  Maps.IsMap D ∧ ∀ key : Int, Maps.has D (.int kk key) = (mlook m key).isSome ∧ ∀ z, ∃ d, D.atKey (.int kk key) z = d ∧ (match mlook m key with | some a => datA a = some d | none => d = z)

inductive OO (w : World) (M : Nat → Prop) (hd : Nat → Value) (h : Value) : O → Prop
  | box (cs : List V) (vs : List Value) (e : TypeId) (b : Nat) (hh : h = .pointer (some ⟨b, 0, none⟩)) (hb : w.heap[b]? = some (.cells ⟨vs⟩ e (0, 0)))
      (hl : cs.length = vs.length) (ho : ∀ (i : Nat) (v : Value), vs[i]? = some v → v.oneCell' = true)
      (hv : ∀ (i : Nat) (a : V) (v : Value), cs[i]? = some a → vs[i]? = some v → VV w M hd a v) : OO w M hd h (.box cs)
  | arr (e : TypeId) (sz : Nat) (l : List (List A)) (xs : List Value) (hr : w.ownsRow 0 e sz h l.length xs) (hs : ∀ cs, cs ∈ l → cs.length = sz)
      (ho : ∀ (i : Nat) (v : Value), xs[i]? = some v → v.oneCell' = true)
      (hv : ∀ (i : Nat) (a : A) (v : Value), l.flatten[i]? = some a → xs[i]? = some v → VR w M a v) : OO w M hd h (.arr e sz l)
  | siter (s : List UInt8) (pos b : Nat) (hh : h = .pointer (some ⟨b, 0, none⟩)) (hb : w.heap[b]? = some (.stringIter ⟨s.toArray⟩ pos)) (hm : s.length ≤ maxLen) :
      OO w M hd h (.siter s pos)
  | map (P : Program) (k e : TypeId) (kk : IntKind) (m : List (Int × A)) (b : Nat) (D : DataW Unit) (hh : h = .map (some b)) (hb : w.ownsMap P k (plainElem P e) b m.length D) (hr : MapRel kk D m) :
      OO w M hd h (.map P k e kk m)

def O.men (id : Nat) : O → Bool
  | .box cs => V.mens id cs
  | _ => false

theorem OO.ext {w w' : World} {M M' B : Nat → Prop} {hd hd' : Nat → Value} {h : Value} {x : O} (H : OO w M hd h x) (hw : Chg w w' B) (hB : ∀ b, B b → M b)
    (hM : ∀ b, b < w.heap.size → M' b → M b) (hh : ∀ id, O.men id x = true → hd' id = hd id) (hk : ∀ b, blk h = some b → ¬ B b) : OO w' M' hd' h x := by
  cases H with
  | box cs vs e b hhd hb hl ho hv =>
    have hlt : b < w.heap.size := (Array.getElem?_eq_some_iff.1 hb).1
    refine .box cs vs e b hhd ?_ hl ho (fun i a v hi hvi => (hv i a v hi hvi).ext hw hB hM fun id hm => hh id ?_)
    · rw [hw.block b hlt (hk b (by simp [hhd, blk]))]; exact hb
    · cases hx : O.men id (.box cs) with
      | true => rfl
      | false => have := V.mens_get (by simpa [O.men] using hx) hi; simp [this] at hm
  | arr e sz l xs hr hs ho hv =>
    refine .arr e sz l xs ⟨hr.1, ?_⟩ hs ho (fun i a v hi hvi => (hv i a v hi hvi).ext hw hB hM)
    rcases hr.2 with hn | ⟨g, cap, cur, rfl, hg0, hg, rest⟩
    · exact .inl hn
    · have hlt : g < w.heap.size := (Array.getElem?_eq_some_iff.1 hg).1
      refine .inr ⟨g, cap, cur, rfl, hg0, ?_, rest⟩
      rw [hw.block g hlt (hk g (by simp [blk]))]; exact hg
  | siter s pos b hhd hb hm =>
    have hlt : b < w.heap.size := (Array.getElem?_eq_some_iff.1 hb).1
    refine .siter s pos b hhd ?_ hm
    rw [hw.block b hlt (hk b (by simp [hhd, blk]))]; exact hb
  | map P k e kk m b D hhd hb hr =>
    have hlt := hb.lt
    obtain ⟨es, clock, h1, h2⟩ := hb
    exact .map P k e kk m b D hhd ⟨es, clock, by rw [hw.block b hlt (hk b (by simp [hhd, blk]))]; exact h1, h2⟩ hr

def Ctx.may (C : Ctx) (t : Nat) : Prop := t < C.nt ∧ t ∉ C.pn
def fixO : Obj → Bool
  | .loop _ => true
  | .deferred _ => true
  | _ => false
def mark (D : Nat) : Deferred := { target := .collected D, args := #[] }

structure Ext (C : Ctx) (a : Act) (w : World) : Prop where
  df : a.defers = C.mks.map mark
  nd : C.mks.Nodup
  mkd : ∀ D, D ∈ C.mks → C.w0.heap.size ≤ D ∧ w.heap[D]? = some (.deferred (some []))
  fx : ∀ p, p ∈ C.fx → fixO p.2 = true ∧ w.heap[p.1]? = some p.2
  pn : ∀ t, t ∈ C.pn → a.tmps.getD t undef = C.pv t

theorem OO.notFix {w : World} {M : Nat → Prop} {hd : Nat → Value} {h : Value} {x : O} (H : OO w M hd h x) {b : Nat} (hb : blk h = some b) {o : Obj} (ho : w.heap[b]? = some o) : fixO o = false := by
  cases H with
  | box cs vs e b' hh hb' =>
    have : b' = b := by rw [hh] at hb; simpa [blk] using hb
    subst this
    rw [hb'] at ho; cases ho; rfl
  | arr e sz l xs hr =>
    rcases hr.2 with ⟨hn, _⟩ | ⟨g, cap, cur, hh, hg0, hg, _⟩
    · rw [hn] at hb; cases hb
    · have : g = b := by rw [hh] at hb; simpa [blk] using hb
      subst this
      rw [hg] at ho; cases ho; rfl
  | siter s pos b' hh hb' =>
    have : b' = b := by rw [hh] at hb; simpa [blk] using hb
    subst this
    rw [hb'] at ho; cases ho; rfl
  | map P k e kk m b' D hh hb' hr =>
    have : b' = b := by rw [hh] at hb; simpa [blk] using hb
    subst this
    obtain ⟨es, clock, h1, _⟩ := hb'
    rw [h1] at ho; cases ho; rfl

theorem Ext.world {C : Ctx} {a : Act} {w w' : World} (h : Ext C a w) (hw : ∀ (k : Nat) (o : Obj), w.heap[k]? = some o → fixO o = true → w'.heap[k]? = some o) : Ext C a w' :=
  ⟨h.df, h.nd, fun D hD => ⟨(h.mkd D hD).1, hw D _ (h.mkd D hD).2 rfl⟩, fun p hp => ⟨(h.fx p hp).1, hw p.1 p.2 (h.fx p hp).2 (h.fx p hp).1⟩, h.pn⟩

structure Sat' (C : Ctx) (S : St) (hd : Nat → Value) (a : Act) (w : World) : Prop where
  nt : a.tmps.size = C.nt
  sl : ∀ t x, S.gs t = some x → t < C.nt ∧ VV w (fun b => C.M0 b ∨ Ow S hd b) hd x (a.tmps.getD t undef)
  ob : ∀ id x, S.go id = some x → OO w (fun b => C.M0 b ∨ Ow S hd b) hd (hd id) x
  lv : ∀ b, Ow S hd b → (C.w0.heap.size ≤ b ∨ C.X b) ∧ b < w.heap.size
  inj : ∀ id1 id2 x1 x2 b, S.go id1 = some x1 → S.go id2 = some x2 → blk (hd id1) = some b → blk (hd id2) = some b → id1 = id2
  fr : Chg C.w0 w C.X
  df : Ext C a w

def Sat (C : Ctx) (S : St) (a : Act) (w : World) : Prop := ∃ hd, Sat' C S hd a w

end Xb
