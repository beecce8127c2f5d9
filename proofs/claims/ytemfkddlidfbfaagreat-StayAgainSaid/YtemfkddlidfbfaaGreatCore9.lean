/- Own text: Core9. -/
import Derived.Test.YtemfkddlidfbfaaGreatCore8
set_option linter.all false
set_option linter.unusedVariables false
set_option linter.unusedSimpArgs false
set_option linter.unnecessarySimpa false
set_option linter.deprecated false
/-! Control: joins, loops, renaming, and giving a list away. -/
namespace Xb
open Go

/-- a loop, round by round -/
def loopN {σ ρ : Type} (step : σ → Option (σ ⊕ ρ)) : Nat → σ → Option ρ
  | 0, _ => none
  | n + 1, s => match step s with
    | none => none
    | some (.inr r) => some r
    | some (.inl s') => loopN step n s'

open Classical in
/-- 'some n': at most n rounds; 'none': as many as it takes -/
noncomputable def loopG {σ ρ : Type} (z : Option Nat) (step : σ → Option (σ ⊕ ρ)) (s : σ) : Option ρ :=
  match z with
  | some n => loopN step n s
  | none => if h : ∃ n r, loopN step n s = some r then some h.choose_spec.choose else none

theorem loopN_mono {σ ρ : Type} {step : σ → Option (σ ⊕ ρ)} : ∀ {n m : Nat} {s : σ} {r : ρ}, loopN step n s = some r → n ≤ m → loopN step m s = some r
  | 0, _, _, _, h, _ => by simp [loopN] at h
  | n + 1, 0, _, _, _, hm => by omega
  | n + 1, m + 1, s, r, h, hm => by
    simp only [loopN] at h ⊢
    split at h
    · cases h
    · exact h
    · exact loopN_mono h (by omega)

theorem loopG_N {σ ρ : Type} {z : Option Nat} {step : σ → Option (σ ⊕ ρ)} {s : σ} {r : ρ} (h : loopG z step s = some r) : ∃ n, loopN step n s = some r := by
  cases z with
  | some n => exact ⟨n, h⟩
  | none =>
    by_cases hx : ∃ n r, loopN step n s = some r
    · refine ⟨hx.choose, ?_⟩
      have := hx.choose_spec.choose_spec
      rw [this, ← h]
      unfold loopG
      simp only [dif_pos hx]
    · unfold loopG at h
      simp only [dif_neg hx] at h
      cases h

theorem loopN_G {σ ρ : Type} {step : σ → Option (σ ⊕ ρ)} {s : σ} {r : ρ} {n : Nat} (h : loopN step n s = some r) : loopG none step s = some r := by
  unfold loopG
  have hx : ∃ n r, loopN step n s = some r := ⟨n, r, h⟩
  simp only [dif_pos hx]
  obtain ⟨m, hm⟩ : ∃ m, loopN step m s = some hx.choose_spec.choose := ⟨hx.choose, hx.choose_spec.choose_spec⟩
  rcases Nat.le_total n m with hle | hle
  · rw [loopN_mono h hle] at hm; exact hm.symm
  · rw [loopN_mono hm hle] at h; exact h

/-- the equation of a loop -/
theorem loopG_eq {σ ρ : Type} (step : σ → Option (σ ⊕ ρ)) (s : σ) :
    loopG none step s = match step s with
      | none => none
      | some (.inr r) => some r
      | some (.inl s') => loopG none step s' := by
  cases h : step s with
  | none =>
    cases hl : loopG none step s with
    | none => rfl
    | some r =>
      obtain ⟨n, hn⟩ := loopG_N hl
      cases n with
      | zero => simp [loopN] at hn
      | succ n => simp [loopN, h] at hn
  | some t =>
    cases t with
    | inr r => exact loopN_G (n := 1) (by simp [loopN, h])
    | inl s' =>
      show loopG none step s = loopG none step s'
      cases hl : loopG none step s' with
      | some r =>
        obtain ⟨n, hn⟩ := loopG_N hl
        exact loopN_G (n := n + 1) (by simp [loopN, h, hn])
      | none =>
        cases hl' : loopG none step s with
        | none => rfl
        | some r =>
          obtain ⟨n, hn⟩ := loopG_N hl'
          cases n with
          | zero => simp [loopN] at hn
          | succ n =>
            simp only [loopN, h] at hn
            rw [loopN_G hn] at hl; cases hl

theorem loop_ind {σ ρ : Type} {z : Option Nat} {step : σ → Option (σ ⊕ ρ)} {t : ρ} {T : σ → Prop}
    (H : ∀ s u, step s = some u → (∀ s', u = .inl s' → T s') → (∀ x, u = .inr x → x = t) → T s) {s : σ} (h : loopG z step s = some t) : T s := by
  obtain ⟨n, hn⟩ := loopG_N h
  clear h
  induction n generalizing s with
  | zero => simp [loopN] at hn
  | succ n ih =>
    simp only [loopN] at hn
    cases hs : step s with
    | none => rw [hs] at hn; cases hn
    | some u =>
      rw [hs] at hn
      refine H s u hs (fun s' hu => ?_) (fun x hu => ?_)
      · subst hu; exact ih hn
      · subst hu; simpa using hn

/-- bind, taken apart -/
theorem be {α β : Type} {m : Option α} {k : α → Option β} {r : β} {T : Prop} (h : m.bind k = some r) (f : ∀ x, m = some x → k x = some r → T) : T := by
  cases m with
  | none => cases h
  | some x => exact f x rfl h

theorem mpR {σ ρ : Type} {m : Option ρ} {u : σ ⊕ ρ} (h : m.map Sum.inr = some u) {t : ρ} (hx : ∀ x, u = .inr x → x = t) : m = some t := by
  cases m with
  | none => cases h
  | some x => rw [← hx x (by simpa using h.symm)]

section
variable {P : Program} {T : Tgt} {C : Ctx} {k : List Item} {S : St}

/-- a test, as the model has it -/
theorem AK.br {R : Type} {b : Bool} {X Y : Option R} {t : R} {c : Operand} {x y : Code} (h : (if b = true then X else Y) = some t) (hc : Ev S c (.ro (.bool b)))
    (ht : X = some t → AK P T C (.code x :: k) S) (hf : Y = some t → AK P T C (.code y :: k) S) : AK P T C (.code (.cond c x y) :: k) S := by
  cases b with
  | true => exact .ct hc rfl (ht (by simpa using h))
  | false => exact .cf hc rfl (hf (by simpa using h))

/-- where ways meet -/
theorem AK.jn {α R : Type} (mk : α → St) {K : α → Option R} {t : R} {i : Item} (J : ∀ a, K a = some t → AK P T C k (mk a)) (B : (∀ a, K a = some t → AK P T C k (mk a)) → AK P T C (i :: k) S) :
    AK P T C (i :: k) S := B J

/-- a loop -/
theorem AK.lo {σ ρ : Type} {z : Option Nat} (mk : σ → St) {step : σ → Option (σ ⊕ ρ)} {t : ρ} {s0 : σ} {c : Code} (h : loopG z step s0 = some t)
    (H : ∀ s u, step s = some u → (∀ s', u = .inl s' → AK P T C (.code c :: .inLoop c :: k) (mk s')) → (∀ x, u = .inr x → x = t) → AK P T C (.code c :: .inLoop c :: k) (mk s)) :
    AK P T C (.code (.loop c) :: k) (mk s0) :=
  .lp (loop_ind (T := fun s => AK P T C (.code c :: .inLoop c :: k) (mk s)) H h)

/-- the next round -/
theorem AK.nx {σ ρ : Type} {mk : σ → St} {c : Code} {u : σ ⊕ ρ} {s : σ} (ih : ∀ s', u = .inl s' → AK P T C (.code c :: .inLoop c :: k) (mk s')) (h : some (Sum.inl s) = some u) :
    AK P T C (.inLoop c :: k) (mk s) := .il (ih s (by simpa using h.symm))

/-! renaming -/

mutual
def V.mp (g : Nat → Nat) : V → V
  | .ro a => .ro a
  | .own i => .own (g i)
  | .ptr i off => .ptr (g i) off
  | .rptr cs => .rptr cs
  | .cptr cs => .cptr (V.mps g cs)
  | .agg cs => .agg (V.mps g cs)
  | .tup cs => .tup (V.mps g cs)
  | .fn f a b => .fn f (V.mps g a) (V.mps g b)
  | .may c x => .may c (V.mp g x)
  | .view i sz lo n => .view (g i) sz lo n
  | .ifc t x => .ifc t (V.mp g x)
  | .un => .un
def V.mps (g : Nat → Nat) : List V → List V
  | [] => []
  | x :: r => V.mp g x :: V.mps g r
end
def O.mp (g : Nat → Nat) : O → O
  | .box cs => .box (V.mps g cs)
  | x => x

theorem mps_eq (g : Nat → Nat) : ∀ cs : List V, V.mps g cs = cs.map (V.mp g)
  | [] => rfl
  | x :: r => by simp [V.mps, mps_eq g r]

theorem VV.unmp {w : World} {M : Nat → Prop} {hd : Nat → Value} {g : Nat → Nat} : ∀ {y : V} {v : Value}, VV w M hd y v → ∀ {x : V}, y = x.mp g → VV w M (fun i => hd (g i)) x v := by
  intro y v h
  induction h with
  | ro a v h => intro x hx; cases x <;> simp [V.mp] at hx; subst hx; exact .ro _ _ h
  | own id h =>
    intro x hx
    cases x <;> simp [V.mp] at hx
    subst hx
    exact VV.own (hd := fun i => hd (g i)) _ h
  | ptr id off b h =>
    intro x hx
    cases x <;> simp [V.mp] at hx
    obtain ⟨rfl, rfl⟩ := hx
    exact .ptr _ _ b h
  | rptr cs b off vs h1 h2 h3 h4 h5 h6 => intro x hx; cases x <;> simp [V.mp] at hx; subst hx; exact .rptr _ _ _ vs h1 h2 h3 h4 h5 h6
  | cptr cs b off vs h1 h2 hl h4 h5 _ ih =>
    intro x hx
    cases x <;> simp [V.mp] at hx
    rename_i l
    rw [mps_eq] at hx; subst hx
    exact .cptr _ b off vs h1 h2 (by simpa using hl) h4 h5 fun i a v hi hv => ih i (a.mp g) v (by simp [hi]) hv rfl
  | agg cs vs hl ho _ ih =>
    intro x hx
    cases x <;> simp [V.mp] at hx
    rename_i l
    rw [mps_eq] at hx; subst hx
    exact .agg _ vs (by simpa using hl) ho fun i a v hi hv => ih i (a.mp g) v (by simp [hi]) hv rfl
  | tup cs vs hl _ ih =>
    intro x hx
    cases x <;> simp [V.mp] at hx
    rename_i l
    rw [mps_eq] at hx; subst hx
    exact .tup _ vs (by simpa using hl) fun i a v hi hv => ih i (a.mp g) v (by simp [hi]) hv rfl
  | fn f cs ds vs us hl hl' _ _ ih ih' =>
    intro x hx
    cases x <;> simp [V.mp] at hx
    rename_i f' l l'
    obtain ⟨rfl, h1, h2⟩ := hx
    rw [mps_eq] at h1 h2; subst h1; subst h2
    exact .fn _ _ _ vs us (by simpa using hl) (by simpa using hl') (fun i a v hi hv => ih i (a.mp g) v (by simp [hi]) hv rfl) (fun i a v hi hv => ih' i (a.mp g) v (by simp [hi]) hv rfl)
  | may c y v _ hn ih =>
    intro x hx
    cases x <;> simp [V.mp] at hx
    exact .may _ _ _ (fun hc => ih (hx.1.2 hc) hx.2) (fun hc => hn fun h => hc (hx.1.1 h))
  | view id sz lo n v h =>
    intro x hx
    cases x <;> simp [V.mp] at hx
    obtain ⟨rfl, rfl, rfl, rfl⟩ := hx
    exact .view _ _ _ _ v h
  | ifc t y v _ ih =>
    intro x hx
    cases x <;> simp [V.mp] at hx
    obtain ⟨rfl, rfl⟩ := hx
    exact .ifc _ _ v (ih rfl)
  | un v => intro x hx; cases x <;> simp [V.mp] at hx; exact .un _

theorem OO.unmp {w : World} {M : Nat → Prop} {hd : Nat → Value} {g : Nat → Nat} {h : Value} {x : O} (H : OO w M hd h (x.mp g)) : OO w M (fun i => hd (g i)) h x := by
  cases x with
  | box cs =>
    simp only [O.mp, mps_eq] at H
    cases H with
    | box _ vs e b hh hb hl ho hv =>
      exact .box cs vs e b hh hb (by simpa using hl) ho fun i a v hi hvi => (hv i (a.mp g) v (by simp [hi]) hvi).unmp rfl
  | arr e sz l =>
    simp only [O.mp] at H
    cases H with
    | arr _ _ _ xs hr hs ho hv => exact .arr e sz l xs hr hs ho hv
  | siter s pos =>
    simp only [O.mp] at H
    cases H with
    | siter _ _ b hh hb hm => exact .siter s pos b hh hb hm
  | map P k e kk m =>
    simp only [O.mp] at H
    cases H with
    | map _ _ _ _ _ b D hh hb hr => exact .map P k e kk m b D hh hb hr

inductive KeepR (g : Nat → Nat) (S : St) : List (Nat × V) → Prop
  | n : KeepR g S []
  | c {t : Nat} {x : V} {l : List (Nat × V)} (h : S.gs t = some (x.mp g)) (hl : KeepR g S l) : KeepR g S ((t, x) :: l)
inductive KeepRO (g : Nat → Nat) (S : St) : List (Nat × Option O) → Prop
  | n : KeepRO g S []
  | c {t : Nat} {x : O} {l : List (Nat × Option O)} (h : S.go (g t) = some (x.mp g)) (hl : KeepRO g S l) : KeepRO g S ((t, some x) :: l)

theorem KeepR.gs {g : Nat → Nat} {S : St} {l : List (Nat × V)} (h : KeepR g S l) {t : Nat} {x : V} (hx : lk l t = some x) : S.gs t = some (x.mp g) := by
  induction h with
  | n => cases hx
  | @c u y l hu _ ih =>
    simp only [lk] at hx
    cases hb : Nat.beq u t with
    | true => rw [hb] at hx; simp at hx; subst hx; rw [← Nat.eq_of_beq_eq_true hb]; exact hu
    | false => rw [hb] at hx; exact ih hx
theorem KeepRO.go {g : Nat → Nat} {S : St} {l : List (Nat × Option O)} (h : KeepRO g S l) {t : Nat} {x : O} (hx : (St.mk [] l).go t = some x) : S.go (g t) = some (x.mp g) ∧ t ∈ l.map (·.1) := by
  induction h with
  | n => cases hx
  | @c u y l hu _ ih =>
    simp only [St.go, lk] at hx ih
    cases hb : Nat.beq u t with
    | true => rw [hb] at hx; simp at hx; subst hx; rw [← Nat.eq_of_beq_eq_true hb]; exact ⟨hu, by simp⟩
    | false => rw [hb] at hx; obtain ⟨h1, h2⟩ := ih hx; exact ⟨h1, by simp at h2 ⊢; exact .inr h2⟩

/-- do no two of these go to one? -/
def injB (g : Nat → Nat) : List Nat → Bool
  | [] => true
  | i :: r => r.all (fun j => !Nat.beq (g i) (g j) || Nat.beq i j) && injB g r

theorem injB_spec {g : Nat → Nat} : ∀ {l : List Nat}, injB g l = true → ∀ i j, i ∈ l → j ∈ l → g i = g j → i = j
  | x :: l, h, i, j, hi, hj, e => by
    simp only [injB, Bool.and_eq_true, List.all_eq_true] at h
    have key : ∀ y, y ∈ l → g x = g y → x = y := fun y hy e => by
      have := h.1 y hy
      rw [e] at this
      simpa using this
    rcases List.mem_cons.1 hi with hi | hi <;> rcases List.mem_cons.1 hj with hj | hj
    · rw [hi, hj]
    · rw [hi] at e ⊢; exact key j hj e
    · rw [hj] at e ⊢; exact (key i hi e.symm).symm
    · exact injB_spec h.2 i j hi hj e

theorem Sat'.keepR {C : Ctx} {S : St} {hd : Nat → Value} {a : Act} {w : World} (h : Sat' C S hd a w) (g : Nat → Nat) {l : List (Nat × V)} {o : List (Nat × Option O)} (hl : KeepR g S l)
    (ho : KeepRO g S o) (hi : injB g (o.map (·.1)) = true) : Sat' C ⟨l, o⟩ (fun i => hd (g i)) a w := by
  have hM : ∀ b, b < w.heap.size → (C.M0 b ∨ Ow ⟨l, o⟩ (fun i => hd (g i)) b) → (C.M0 b ∨ Ow S hd b) := by
    rintro b _ (hm | ⟨id, x, hx, hb⟩)
    · exact .inl hm
    · exact .inr ⟨g id, _, (ho.go hx).1, hb⟩
  refine ⟨h.nt, fun t x hx => ?_, fun id x hx => ?_, ?_, fun id1 id2 x1 x2 b h1 h2 hb1 hb2 => ?_, h.fr, h.df⟩
  · obtain ⟨ht, hv⟩ := h.sl t _ (hl.gs hx)
    exact ⟨ht, (hv.ext (Chg.refl w (fun _ => False)) (fun _ h => h.elim) hM (fun _ _ => rfl)).unmp rfl⟩
  · exact ((h.ob (g id) _ (ho.go hx).1).ext (Chg.refl w (fun _ => False)) (fun _ h => h.elim) hM (fun _ _ => rfl) (fun _ _ h => h)).unmp
  · rintro b ⟨id, x, hx, hb⟩
    exact h.lv b ⟨g id, _, (ho.go hx).1, hb⟩
  · exact injB_spec hi id1 id2 (ho.go h1).2 (ho.go h2).2 (h.inj _ _ _ _ b (ho.go h1).1 (ho.go h2).1 hb1 hb2)

theorem AK.kr (g : Nat → Nat) {l : List (Nat × V)} {o : List (Nat × Option O)} (hl : KeepR g S l) (ho : KeepRO g S o) (hi : injB g (o.map (·.1)) = true) (h : AK P T C k ⟨l, o⟩) :
    AK P T C k S := fun a w ⟨hd, hs⟩ => h a w ⟨_, hs.keepR g hl ho hi⟩

/-! a list of one's own is given away: from now on it is only read -/

mutual
def V.fz (id : Nat) (a : A) : V → V
  | .own i => bif Nat.beq i id then .ro a else .own i
  | .ptr i off => bif Nat.beq i id then .un else .ptr i off
  | .cptr cs => .cptr (V.fzs id a cs)
  | .agg cs => mkAgg (V.fzs id a cs)
  | .tup cs => mkTup (V.fzs id a cs)
  | .fn f x y => .fn f (V.fzs id a x) (V.fzs id a y)
  | .may c x => .may c (V.fz id a x)
  | .view i sz lo n => bif Nat.beq i id then .un else .view i sz lo n
  | .ifc t x => mkIfc t (V.fz id a x)
  | x => x
def V.fzs (id : Nat) (a : A) : List V → List V
  | [] => []
  | x :: r => V.fz id a x :: V.fzs id a r
end
def O.fz (id : Nat) (a : A) : O → O
  | .box cs => .box (V.fzs id a cs)
  | x => x

theorem fzs_eq (id : Nat) (a : A) : ∀ cs : List V, V.fzs id a cs = cs.map (V.fz id a)
  | [] => rfl
  | x :: r => by simp [V.fzs, fzs_eq id a r]

theorem VV.fz {w : World} {M : Nat → Prop} {hd : Nat → Value} {id : Nat} {a : A} (ha : VR w M a (hd id)) {x : V} {v : Value} (h : VV w M hd x v) : VV w M hd (x.fz id a) v := by
  induction h with
  | ro a v h => exact .ro a v h
  | own i h =>
    simp only [V.fz]
    cases hb : Nat.beq i id with
    | true => rw [Nat.eq_of_beq_eq_true hb]; exact .ro _ _ ha
    | false => exact .own i h
  | ptr i off b h =>
    simp only [V.fz]
    cases hb : Nat.beq i id with
    | true => exact .un _
    | false => exact .ptr i off b h
  | rptr cs b off vs h1 h2 h3 h4 h5 h6 => exact .rptr cs b off vs h1 h2 h3 h4 h5 h6
  | cptr cs b off vs h1 h2 hl h4 h5 _ ih =>
    simp only [V.fz, fzs_eq]
    refine .cptr _ b off vs h1 h2 (by simpa using hl) h4 h5 fun i a v hi hv => ?_
    simp only [List.getElem?_map, Option.map_eq_some_iff] at hi
    obtain ⟨a', ha, rfl⟩ := hi
    exact ih i a' v ha hv
  | agg cs vs hl ho _ ih =>
    simp only [V.fz, fzs_eq]
    refine VV.mkAgg (.agg _ vs (by simpa using hl) ho fun i a v hi hv => ?_)
    simp only [List.getElem?_map, Option.map_eq_some_iff] at hi
    obtain ⟨a', ha, rfl⟩ := hi
    exact ih i a' v ha hv
  | tup cs vs hl _ ih =>
    simp only [V.fz, fzs_eq]
    refine VV.mkTup (.tup _ vs (by simpa using hl) fun i a v hi hv => ?_)
    simp only [List.getElem?_map, Option.map_eq_some_iff] at hi
    obtain ⟨a', ha, rfl⟩ := hi
    exact ih i a' v ha hv
  | fn f cs ds vs us hl hl' _ _ ih ih' =>
    simp only [V.fz, fzs_eq]
    refine .fn f _ _ vs us (by simpa using hl) (by simpa using hl') (fun i a v hi hv => ?_) (fun i a v hi hv => ?_)
    · simp only [List.getElem?_map, Option.map_eq_some_iff] at hi
      obtain ⟨a', ha, rfl⟩ := hi
      exact ih i a' v ha hv
    · simp only [List.getElem?_map, Option.map_eq_some_iff] at hi
      obtain ⟨a', ha, rfl⟩ := hi
      exact ih' i a' v ha hv
  | may c x v _ hn ih => exact .may c _ v (fun hc => ih hc) hn
  | view i sz lo n v h =>
    simp only [V.fz]
    cases hb : Nat.beq i id with
    | true => exact .un _
    | false => exact .view i sz lo n v h
  | ifc t x v _ ih => exact VV.mkIfc ih
  | un v => exact .un v

def St.fz (S : St) (id : Nat) (a : A) : St := ⟨S.s.map fun p => (p.1, p.2.fz id a), (id, none) :: S.o.map fun p => (p.1, p.2.map (O.fz id a))⟩

theorem lk_map {α β : Type} (F : α → β) : ∀ (l : List (Nat × α)) (t : Nat), lk (l.map fun p => (p.1, F p.2)) t = (lk l t).map F
  | [], t => rfl
  | (i, x) :: l, t => by
    simp only [List.map_cons, lk]
    cases Nat.beq i t with
    | true => rfl
    | false => exact lk_map F l t

theorem ownsRow_VR {w : World} {M : Nat → Prop} {e sz : Nat} {h : Value} {l : List (List A)} {hd : Nat → Value} (H : OO w M hd h (.arr e sz l)) (M' : Nat → Prop)
    (hM : ∀ b, b < w.heap.size → M' b → M b) (hb : ∀ b, blk h = some b → ¬ M' b) : VR w M' (.list sz l) h := by
  cases H with
  | arr _ _ _ xs hr hs ho hv =>
    obtain ⟨hlen, hr⟩ := hr
    rcases hr with ⟨rfl, h0⟩ | ⟨g, cap, cur, rfl, _, hg, hn, hm, hc, htake⟩
    · have : l = [] := List.eq_nil_of_length_eq_zero h0
      subst this
      exact .emp _ _ _ (Nat.zero_le _)
    · have hlt : g < w.heap.size := (Array.getElem?_eq_some_iff.1 hg).1
      have hfl : l.flatten.length = xs.length := by
        rw [hlen]
        clear hv hg htake hc hn hlen hb
        induction l with
        | nil => simp
        | cons x l ih =>
          simp only [List.flatten_cons, List.length_append, List.length_cons]
          rw [ih (fun cs h => hs cs (by simp [h])), hs x (by simp), Nat.add_mul]
          omega
      refine .list sz l g 0 cap xs hn hm (hb g rfl) hlt hs hfl (fun k v hk => ?_) ho (fun k a v hi hk => (hv k a v hi hk).ext (Chg.refl w (fun _ => False)) (fun _ h => h.elim) hM)
      rw [Nat.zero_add, cell_of_row w g k cur e (0, 0) hg]
      rw [← htake, List.getElem?_take] at hk
      split at hk
      · simpa using hk
      · cases hk

theorem Sat'.fz {C : Ctx} {S : St} {hd : Nat → Value} {a : Act} {w : World} (h : Sat' C S hd a w) {id : Nat} {e : TypeId} {sz : Nat} {l : List (List A)} (hO : S.go id = some (.arr e sz l)) :
    Sat' C (S.fz id (.list sz l)) hd a w := by
  have hgo : ∀ i x, (S.fz id (.list sz l)).go i = some x → i ≠ id ∧ ∃ y, S.go i = some y ∧ x = y.fz id (.list sz l) := by
    intro i x hx
    simp only [St.fz, St.go, lk] at hx
    by_cases hi : id = i
    · subst hi; simp at hx
    · rw [beq_ne hi] at hx
      simp only [lk_map, cond_false] at hx
      unfold St.go
      cases hy : lk S.o i with
      | none => rw [hy] at hx; cases hx
      | some z =>
        rw [hy] at hx
        cases z with
        | none => cases hx
        | some y => simp at hx; exact ⟨fun e => hi e.symm, y, rfl, hx.symm⟩
  have hM : ∀ b, b < w.heap.size → (C.M0 b ∨ Ow (S.fz id (.list sz l)) hd b) → (C.M0 b ∨ Ow S hd b) := by
    rintro b _ (hm | ⟨i, x, hx, hb⟩)
    · exact .inl hm
    · obtain ⟨_, y, hy, _⟩ := hgo i x hx
      exact .inr ⟨i, y, hy, hb⟩
  have hVR : VR w (fun b => C.M0 b ∨ Ow (S.fz id (.list sz l)) hd b) (.list sz l) (hd id) := by
    refine ownsRow_VR (h.ob id _ hO) _ hM fun b hb => ?_
    rintro (hm | ⟨i, x, hx, hbi⟩)
    · have h1 := C.hM0 b hm
      rcases (h.lv b ⟨id, _, hO, hb⟩).1 with h2 | h2
      · omega
      · exact h1.2 h2
    · obtain ⟨hne, y, hy, _⟩ := hgo i x hx
      exact hne (h.inj i id y _ b hy hO hbi hb)
  refine ⟨h.nt, fun t x hx => ?_, fun i x hx => ?_, ?_, fun i1 i2 x1 x2 b h1 h2 hb1 hb2 => ?_, h.fr, h.df⟩
  · simp only [St.gs, St.fz, lk_map] at hx
    cases hy : lk S.s t with
    | none => rw [hy] at hx; cases hx
    | some y =>
      rw [hy] at hx
      simp at hx; subst hx
      obtain ⟨ht, hv⟩ := h.sl t y hy
      exact ⟨ht, VV.fz hVR (hv.ext (Chg.refl w (fun _ => False)) (fun _ h => h.elim) hM (fun _ _ => rfl))⟩
  · obtain ⟨_, y, hy, rfl⟩ := hgo i x hx
    have := (h.ob i y hy).ext (M' := fun b => C.M0 b ∨ Ow (S.fz id (.list sz l)) hd b) (hd' := hd) (Chg.refl w (fun _ => False)) (fun _ h => h.elim) hM (fun _ _ => rfl) (fun _ _ h => h)
    cases this with
    | box cs vs e b hh hb hl ho hv =>
      simp only [O.fz, fzs_eq]
      refine .box _ vs e b hh hb (by simpa using hl) ho fun i a v hi hvi => ?_
      simp only [List.getElem?_map, Option.map_eq_some_iff] at hi
      obtain ⟨a', ha, rfl⟩ := hi
      exact VV.fz hVR (hv i a' v ha hvi)
    | arr e sz l xs hr hs ho hv => exact .arr e sz l xs hr hs ho hv
    | siter s pos b hhd hb hm => exact .siter s pos b hhd hb hm
    | map P k e kk m b D hhd hb hr => exact .map P k e kk m b D hhd hb hr
  · rintro b ⟨i, x, hx, hb⟩
    obtain ⟨_, y, hy, _⟩ := hgo i x hx
    exact h.lv b ⟨i, y, hy, hb⟩
  · obtain ⟨_, y1, hy1, _⟩ := hgo i1 x1 h1
    obtain ⟨_, y2, hy2, _⟩ := hgo i2 x2 h2
    exact h.inj i1 i2 y1 y2 b hy1 hy2 hb1 hb2

theorem AK.fz (id : Nat) {e : TypeId} {sz : Nat} {l : List (List A)} (hO : S.go id = some (.arr e sz l)) (h : AK P T C k (S.fz id (.list sz l))) : AK P T C k S :=
  fun a w ⟨hd, hs⟩ => h a w ⟨hd, hs.fz hO⟩

end
end Xb
