/- Own text: Core2. -/
import Derived.Test.YtemfkddlidfbfaaGreatCore1
set_option linter.all false
set_option linter.unusedVariables false
set_option linter.unusedSimpArgs false
set_option linter.unnecessarySimpa false
set_option linter.deprecated false
/-! One operation: what it reads, what it writes; the step of the state. -/
namespace Xb
open Go

structure Eff where
  gs : List (Nat × V)
  c : Prop
  rs : List (Nat × V)
  ro : List (Nat × O)
  v : V
  wo : List (Nat × Option O)
  fr : List Nat

def freeS (id : Nat) : List (Nat × V) → Bool
  | [] => true
  | (_, x) :: r => (!V.men id x) && freeS id r
def freeO (id : Nat) : List (Nat × Option O) → Bool
  | [] => true
  | (i, none) :: r => (!Nat.beq i id) && freeO id r
  | (i, some x) :: r => (!Nat.beq i id) && (!O.men id x) && freeO id r
def St.free (S : St) (id : Nat) : Bool := freeS id S.s && freeO id S.o

def putl (d : Option Nat) (x : V) (l : List (Nat × V)) : List (Nat × V) := match d with | some t => (t, x) :: l | none => l
def Eff.app (e : Eff) (d : Option Nat) (S : St) : St := ⟨putl d e.v S.s, e.wo ++ S.o⟩

structure Eff.pre (e : Eff) (S : St) : Prop where
  gs : ∀ p, p ∈ e.gs → S.gs p.1 = some p.2
  rs : e.c → ∀ p, p ∈ e.rs → S.gs p.1 = some p.2
  ro : e.c → ∀ p, p ∈ e.ro → S.go p.1 = some p.2
  fr : ∀ id, id ∈ e.fr → S.free id = true

theorem lk_append {α : Type} : ∀ (l r : List (Nat × α)) (t : Nat), lk (l ++ r) t = match lk l t with | some x => some x | none => lk r t
  | [], r, t => rfl
  | (i, x) :: l, r, t => by
    simp only [List.cons_append, lk]
    cases Nat.beq i t with
    | true => rfl
    | false => exact lk_append l r t

theorem beq_ne {i j : Nat} (h : i ≠ j) : Nat.beq i j = false := by
  cases e : Nat.beq i j with
  | true => exact absurd (Nat.eq_of_beq_eq_true e) h
  | false => rfl

theorem freeS_get {id : Nat} : ∀ {l : List (Nat × V)} {t : Nat} {x : V}, freeS id l = true → lk l t = some x → V.men id x = false
  | (i, y) :: r, t, x, h, hx => by
    simp only [freeS, Bool.and_eq_true, Bool.not_eq_true'] at h
    simp only [lk] at hx
    cases hb : Nat.beq i t with
    | true => rw [hb] at hx; simp at hx; exact hx ▸ h.1
    | false => rw [hb] at hx; exact freeS_get h.2 hx

theorem freeO_get {id : Nat} : ∀ {l : List (Nat × Option O)} {t : Nat} {x : Option O}, freeO id l = true → lk l t = some x →
    t ≠ id ∧ ∀ y, x = some y → O.men id y = false
  | (i, none) :: r, t, x, h, hx => by
    simp only [freeO, Bool.and_eq_true, Bool.not_eq_true'] at h
    simp only [lk] at hx
    cases hb : Nat.beq i t with
    | true =>
      rw [hb] at hx; simp at hx; subst hx
      have : i = t := Nat.eq_of_beq_eq_true hb
      subst this
      refine ⟨fun e => ?_, fun y hy => by cases hy⟩
      subst e; simp at h
    | false => rw [hb] at hx; exact freeO_get h.2 hx
  | (i, some z) :: r, t, x, h, hx => by
    simp only [freeO, Bool.and_eq_true, Bool.not_eq_true'] at h
    simp only [lk] at hx
    cases hb : Nat.beq i t with
    | true =>
      rw [hb] at hx; simp at hx; subst hx
      have : i = t := Nat.eq_of_beq_eq_true hb
      subst this
      refine ⟨fun e => ?_, fun y hy => by cases hy; exact h.1.2⟩
      subst e; simp at h
    | false => rw [hb] at hx; exact freeO_get h.2 hx

theorem free_go {S : St} {id : Nat} (h : S.free id = true) : S.go id = none := by
  simp only [St.free, Bool.and_eq_true] at h
  unfold St.go
  cases hx : lk S.o id with
  | none => rfl
  | some x => exact absurd rfl (freeO_get h.2 hx).1

theorem free_slot {S : St} {id t : Nat} {x : V} (h : S.free id = true) (hx : S.gs t = some x) : V.men id x = false := by
  simp only [St.free, Bool.and_eq_true] at h
  exact freeS_get h.1 hx

theorem free_obj {S : St} {id t : Nat} {x : O} (h : S.free id = true) (hx : S.go t = some x) : O.men id x = false := by
  simp only [St.free, Bool.and_eq_true] at h
  unfold St.go at hx
  split at hx
  · rename_i y hy; subst hx; exact (freeO_get h.2 hy).2 x rfl
  · cases hx

theorem app_go (e : Eff) (d : Option Nat) (S : St) (id : Nat) : (e.app d S).go id = match lk e.wo id with | some x => x | none => S.go id := by
  unfold St.go Eff.app
  simp only [lk_append]
  cases lk e.wo id <;> rfl

theorem app_gs (e : Eff) (d : Option Nat) (S : St) (t : Nat) : (e.app d S).gs t = if d = some t then some e.v else S.gs t := by
  unfold St.gs Eff.app putl
  cases d with
  | none => simp
  | some u =>
    simp only [lk]
    by_cases h : u = t
    · subst h; simp
    · rw [beq_ne h]; simp [h]

theorem getD_put {a : Act} {d : Option Nat} {v : Value} {t : Nat} : (a.put d v).tmps.size = a.tmps.size ∧
    ((a.put d v).tmps.getD t undef = if d = some t ∧ t < a.tmps.size then v else a.tmps.getD t undef) := by
  cases d with
  | none => simp [Act.put]
  | some u =>
    refine ⟨by simp [Act.put], ?_⟩
    simp only [Act.put]
    by_cases h : u = t
    · subst h
      by_cases hl : u < a.tmps.size
      · simp [hl]
      · simp [hl]
    · simp [h]

/-- THE STEP. -/
theorem Sat'.step {C : Ctx} {S : St} {hd hd' : Nat → Value} {a : Act} {w w' : World} (h : Sat' C S hd a w) (e : Eff) (hp : e.pre S) (d : Option Nat) (v : Value)
    (hdst : ∀ t, d = some t → C.may t) (B : Nat → Prop) (hw : Chg w w' B)
    (hB : ∀ b, B b → ∃ id x y, S.go id = some x ∧ blk (hd id) = some b ∧ lk e.wo id = some y)
    (hh : ∀ id, id ∉ e.fr → hd' id = hd id)
    (hv : d ≠ none → VV w' (fun b => C.M0 b ∨ Ow (e.app d S) hd' b) hd' e.v v)
    (hob : ∀ id x, lk e.wo id = some (some x) → OO w' (fun b => C.M0 b ∨ Ow (e.app d S) hd' b) hd' (hd' id) x)
    (hlv : ∀ id x b, lk e.wo id = some (some x) → blk (hd' id) = some b →
      (w.heap.size ≤ b ∧ b < w'.heap.size) ∨ ∃ i0 x0 y0, S.go i0 = some x0 ∧ blk (hd i0) = some b ∧ lk e.wo i0 = some y0)
    (hinj : ∀ i1 i2 x1 x2 b, lk e.wo i1 = some (some x1) → lk e.wo i2 = some (some x2) → blk (hd' i1) = some b → blk (hd' i2) = some b → i1 = i2) :
    Sat' C (e.app d S) hd' (a.put d v) w' := by
  have keep : ∀ id x, S.go id = some x → hd' id = hd id := fun id x hx => hh id fun hm => by
    rw [free_go (hp.fr id hm)] at hx; cases hx
  have old : ∀ id x, (e.app d S).go id = some x → lk e.wo id = some (some x) ∨ (lk e.wo id = none ∧ S.go id = some x) := by
    intro id x hx
    rw [app_go] at hx
    split at hx
    · rename_i y hy; subst hx; exact .inl hy
    · rename_i hy; exact .inr ⟨hy, hx⟩
  have hMM : ∀ b, b < w.heap.size → (C.M0 b ∨ Ow (e.app d S) hd' b) → (C.M0 b ∨ Ow S hd b) := by
    rintro b hb (hm | ⟨id, x, hx, hbk⟩)
    · exact .inl hm
    · refine .inr ?_
      rcases old id x hx with hn | ⟨_, ho⟩
      · rcases hlv id x b hn hbk with hnew | ⟨i0, x0, y0, h0, hb0, _⟩
        · omega
        · exact ⟨i0, x0, h0, hb0⟩
      · exact ⟨id, x, ho, by rw [← keep id x ho]; exact hbk⟩
  have hBM : ∀ b, B b → (C.M0 b ∨ Ow S hd b) := fun b hb => let ⟨id, x, _, hx, hbk, _⟩ := hB b hb; .inr ⟨id, x, hx, hbk⟩
  refine ⟨by rw [(getD_put (t := 0)).1]; exact h.nt, ?_, ?_, ?_, ?_, ?_, ?_⟩
  · intro t x hx
    rw [app_gs] at hx
    rw [(getD_put (t := t)).2]
    by_cases hdt : d = some t
    · have ht := (hdst t hdt).1
      rw [if_pos hdt] at hx
      cases hx
      rw [if_pos ⟨hdt, by rw [h.nt]; exact ht⟩]
      exact ⟨ht, hv (by rw [hdt]; simp)⟩
    · rw [if_neg hdt] at hx
      rw [if_neg (fun hc => hdt hc.1)]
      obtain ⟨ht, hvv⟩ := h.sl t x hx
      refine ⟨ht, hvv.ext hw hBM hMM fun id hm => hh id fun hf => ?_⟩
      rw [free_slot (hp.fr id hf) hx] at hm; cases hm
  · intro id x hx
    rcases old id x hx with hn | ⟨hn, ho⟩
    · exact hob id x hn
    · have := h.ob id x ho
      rw [keep id x ho]
      refine this.ext hw hBM hMM (fun i hm => hh i fun hf => ?_) (fun b hbk hBb => ?_)
      · rw [free_obj (hp.fr i hf) ho] at hm; cases hm
      · obtain ⟨i2, x2, y2, h2, hb2, hw2⟩ := hB b hBb
        have := h.inj id i2 x x2 b ho h2 hbk hb2
        subst this
        rw [hn] at hw2; cases hw2
  · rintro b ⟨id, x, hx, hbk⟩
    rcases old id x hx with hn | ⟨hn, ho⟩
    · rcases hlv id x b hn hbk with hnew | ⟨i0, x0, y0, h0, hb0, _⟩
      · exact ⟨.inl (Nat.le_trans h.fr.size hnew.1), hnew.2⟩
      · have := h.lv b ⟨i0, x0, h0, hb0⟩
        exact ⟨this.1, Nat.lt_of_lt_of_le this.2 hw.size⟩
    · have := h.lv b ⟨id, x, ho, by rw [← keep id x ho]; exact hbk⟩
      exact ⟨this.1, Nat.lt_of_lt_of_le this.2 hw.size⟩
  · intro i1 i2 x1 x2 b h1 h2 hb1 hb2
    have clash : ∀ i j x y, lk e.wo i = some (some x) → (lk e.wo j = none ∧ S.go j = some y) → blk (hd' i) = some b → blk (hd' j) = some b → False := by
      intro i j x y hi hj hbi hbj
      rw [keep j y hj.2] at hbj
      rcases hlv i x b hi hbi with hnew | ⟨i0, x0, y0, h0, hb0, hw0⟩
      · have := (h.lv b ⟨j, y, hj.2, hbj⟩).2; omega
      · have := h.inj i0 j x0 y b h0 hj.2 hb0 hbj
        subst this
        rw [hj.1] at hw0; cases hw0
    rcases old i1 x1 h1 with n1 | o1 <;> rcases old i2 x2 h2 with n2 | o2
    · exact hinj i1 i2 x1 x2 b n1 n2 hb1 hb2
    · exact (clash i1 i2 x1 x2 n1 o2 hb1 hb2).elim
    · exact (clash i2 i1 x2 x1 n2 o1 hb2 hb1).elim
    · rw [keep i1 x1 o1.2] at hb1
      rw [keep i2 x2 o2.2] at hb2
      exact h.inj i1 i2 x1 x2 b o1.2 o2.2 hb1 hb2
  · refine ⟨hw.os.trans h.fr.os, hw.tape.trans h.fr.tape, hw.output.trans h.fr.output, Nat.le_trans h.fr.size hw.size, fun k hk hX => ?_⟩
    rw [hw.block k (Nat.lt_of_lt_of_le hk h.fr.size) (fun hb => ?_)]
    · exact h.fr.block k hk hX
    · obtain ⟨id, x, _, hx, hbk, _⟩ := hB k hb
      rcases (h.lv k ⟨id, x, hx, hbk⟩).1 with h1 | h1
      · omega
      · exact hX h1
  · have hx := h.df.world (w' := w') fun k o hk ho => by
      have hlt := (Array.getElem?_eq_some_iff.1 hk).1
      rw [hw.block k hlt fun hb => ?_]
      · exact hk
      · obtain ⟨id, x, _, hx, hbk, _⟩ := hB k hb
        rw [(h.ob id x hx).notFix hbk hk] at ho; cases ho
    refine ⟨by cases d <;> exact hx.df, hx.nd, hx.mkd, hx.fx, fun t ht => ?_⟩
    rw [(getD_put (t := t)).2, if_neg]
    · exact hx.pn t ht
    · rintro ⟨rfl, _⟩
      exact (hdst t rfl).2 ht

/-- one operation of a region: done, or passed over by its guard -/
def stepOp (P : Program) (ops : Array Oper) (o : Oper) (a : Act) (w : World) (K : Act → World → Prop) : Prop :=
  if Region.wanted o (yielded ops a.tmps) = true then o.wp P a w K (fun _ _ _ => False) else K (a.put o.dst undef) w

/-- what an operation does, wherever it is done -/
def Trip (P : Program) (ops : Array Oper) (o : Oper) (e : Eff) : Prop :=
  ∀ (C : Ctx) (S : St) (a : Act) (w : World), Sat C S a w → e.pre S → (∀ t, o.dst = some t → C.may t) →
    stepOp P ops o a w (fun a' w' => Sat C (e.app o.dst S) a' w')

/-- the operations of a region, one behind the other -/
inductive Der (P : Program) (ops : Array Oper) : St → List Oper → List Eff → St → Prop
  | nil (S : St) : Der P ops S [] [] S
  | cons {S S' : St} {o : Oper} {os : List Oper} {e : Eff} {es : List Eff} (ht : Trip P ops o e) (hp : e.pre S) (h : Der P ops (e.app o.dst S) os es S') :
      Der P ops S (o :: os) (e :: es) S'

end Xb
