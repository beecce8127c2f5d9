/- Own text: Core37. -/
import Derived.Test.YtemfkddlidfbfaaGreatCore36
set_option linter.all false
set_option linter.unusedVariables false
set_option linter.unusedSimpArgs false
set_option linter.unnecessarySimpa false
set_option linter.deprecated false
/-! Calls that are lent boxes together with the lists that stand in them: the callee turns these, too. -/
namespace Xb
open Go

theorem VV.mpf {w : World} {M : Nat → Prop} {hd hd' : Nat → Value} {g : Nat → Nat} {x : V} {v : Value} (h : VV w M hd x v) (hh : ∀ id, V.men id x = true → hd' (g id) = hd id) :
    VV w M hd' (x.mp g) v := by
  have sub : ∀ {cs : List V} {i : Nat} {a : V} {id : Nat} {X : V}, (V.men id X = true ∨ V.mens id cs = false) → cs[i]? = some a → V.men id a = true → V.men id X = true := by
    intro cs i a id X h hi hm
    rcases h with h | h
    · exact h
    · rw [V.mens_get h hi] at hm; cases hm
  induction h with
  | ro a v h => exact .ro a v h
  | own id h =>
    have e := hh id (by simp [V.men])
    simp only [V.mp]
    rw [← e] at h ⊢
    exact .own _ h
  | ptr id off b h => exact .ptr _ off b (by rw [hh id (by simp [V.men])]; exact h)
  | rptr cs b off vs h1 h2 h3 h4 h5 h6 => exact .rptr cs b off vs h1 h2 h3 h4 h5 h6
  | cptr cs b off vs h1 h2 hl h4 h5 _ ih =>
    simp only [V.mp, mps_eq]
    refine .cptr _ b off vs h1 h2 (by simpa using hl) h4 h5 fun i a v hi hv => ?_
    simp only [List.getElem?_map, Option.map_eq_some_iff] at hi
    obtain ⟨a', ha, rfl⟩ := hi
    refine ih i a' v ha hv fun id hm => hh id (sub (cs := cs) ?_ ha hm)
    cases hx : V.mens id cs with
    | true => exact .inl (by simpa [V.men] using hx)
    | false => exact .inr rfl
  | agg cs vs hl ho _ ih =>
    simp only [V.mp, mps_eq]
    refine .agg _ vs (by simpa using hl) ho fun i a v hi hv => ?_
    simp only [List.getElem?_map, Option.map_eq_some_iff] at hi
    obtain ⟨a', ha, rfl⟩ := hi
    refine ih i a' v ha hv fun id hm => hh id (sub (cs := cs) ?_ ha hm)
    cases hx : V.mens id cs with
    | true => exact .inl (by simpa [V.men] using hx)
    | false => exact .inr rfl
  | tup cs vs hl _ ih =>
    simp only [V.mp, mps_eq]
    refine .tup _ vs (by simpa using hl) fun i a v hi hv => ?_
    simp only [List.getElem?_map, Option.map_eq_some_iff] at hi
    obtain ⟨a', ha, rfl⟩ := hi
    refine ih i a' v ha hv fun id hm => hh id (sub (cs := cs) ?_ ha hm)
    cases hx : V.mens id cs with
    | true => exact .inl (by simpa [V.men] using hx)
    | false => exact .inr rfl
  | fn f cs ds vs us hl hl' _ _ ih ih' =>
    simp only [V.mp, mps_eq]
    refine .fn f _ _ vs us (by simpa using hl) (by simpa using hl') (fun i a v hi hv => ?_) (fun i a v hi hv => ?_)
    · simp only [List.getElem?_map, Option.map_eq_some_iff] at hi
      obtain ⟨a', ha, rfl⟩ := hi
      refine ih i a' v ha hv fun id hm => hh id (sub (cs := cs) ?_ ha hm)
      cases hx : V.mens id cs with
      | true => exact .inl (by simp [V.men, hx])
      | false => exact .inr rfl
    · simp only [List.getElem?_map, Option.map_eq_some_iff] at hi
      obtain ⟨a', ha, rfl⟩ := hi
      refine ih' i a' v ha hv fun id hm => hh id (sub (cs := ds) ?_ ha hm)
      cases hx : V.mens id ds with
      | true => exact .inl (by simp [V.men, hx])
      | false => exact .inr rfl
  | may c x v _ hn ih => exact .may c _ v (fun hc => ih hc fun id hm => hh id (by simpa [V.men] using hm)) hn
  | view id sz lo n v h => exact .view _ sz lo n v (by rw [hh id (by simp [V.men])]; exact h)
  | ifc t x v _ ih => exact .ifc t _ v (ih fun id hm => hh id (by simpa [V.men] using hm))
  | un v => exact .un v

theorem OO.mpf {w : World} {M : Nat → Prop} {hd hd' : Nat → Value} {h : Value} {g : Nat → Nat} {x : O} (H : OO w M hd h x) (hh : ∀ id, O.men id x = true → hd' (g id) = hd id) :
    OO w M hd' h (x.mp g) := by
  cases H with
  | box cs vs e b hhd hb hl ho hv =>
    simp only [O.mp, mps_eq]
    refine .box _ vs e b hhd hb (by simpa using hl) ho fun i a v hi hvi => ?_
    simp only [List.getElem?_map, Option.map_eq_some_iff] at hi
    obtain ⟨a', ha, rfl⟩ := hi
    refine (hv i a' v ha hvi).mpf fun id hm => hh id ?_
    cases hx : V.mens id cs with
    | true => exact hx
    | false => rw [V.mens_get hx ha] at hm; cases hm
  | arr e sz l xs hr hs ho hv => exact .arr e sz l xs hr hs ho hv
  | siter s pos b hhd hb hm => exact .siter s pos b hhd hb hm
  | map P k e kk m b D hhd hb hr => exact .map P k e kk m b D hhd hb hr

def O.onlyI (l : List Nat) : O → Bool
  | .box cs => V.onlyIs l cs
  | _ => true
theorem O.onlyI_men {l : List Nat} {id : Nat} {x : O} (h : x.onlyI l = true) (hm : x.men id = true) : id ∈ l := by
  cases x <;> simp [O.men] at hm
  exact V.onlyIs_mens (by simpa [O.onlyI] using h) hm

/-- THE CONTRACT of a function that is lent objects, and turns them -/
def AW (P : Program) (f : FuncId) (args : List V) (lo : List (Nat × O)) (pn : List Nat) (r : V) (kp : List (Nat × V)) (lo' : List (Nat × O)) : Prop :=
  ∀ (w : World) (X M0 : Nat → Prop) (hM : ∀ b, M0 b → b < w.heap.size ∧ ¬ X b) (hd : Nat → Value) (vals : List Value), args.length = vals.length →
    (∀ (i : Nat) (x : V) (v : Value), args[i]? = some x → vals[i]? = some v → VV w (MM (ctxX w X M0 hM 0 [] fun _ => undef) ⟨[], obs lo⟩ hd) hd x v) →
    Mem (ctxX w X M0 hM 0 [] fun _ => undef) (obs lo) hd w →
    Calls P f ⟨vals⟩ w (PostX (ctxX w X M0 hM 0 pn fun t => vals.getD t undef) r (obs lo') kp)

theorem AW.of {P : Program} {f : FuncId} {fn : Func} {c : Code} {args : List V} {lo : List (Nat × O)} {pn : List Nat} {r : V} {kp : List (Nat × V)} {lo' : List (Nat × O)}
    (hf : P.funcs[f]? = some fn) (hb : fn.body = some c) (hn : Nat.ble args.length fn.ntmps = true)
    (h : ∀ (w : World) (X M0 : Nat → Prop) (hM : ∀ b, M0 b → b < w.heap.size ∧ ¬ X b) (pv : Nat → Value), AK P (tx P f r (obs lo') kp (ctxX w X M0 hM fn.ntmps pn pv)) (ctxX w X M0 hM fn.ntmps pn pv) [.code c] ⟨idx 0 args, obs lo⟩) :
    AW P f args lo pn r kp lo' := by
  intro w X M0 hM hd vals hl hv hmem cs
  have hn := Nat.le_of_ble_eq_true hn
  let b : Frame := { (default : Frame) with fn := f, kind := .normal, roundOf := none }
  let a : Act := { tmps := (⟨vals⟩ : Array Value) ++ Array.replicate (fn.ntmps - (⟨vals⟩ : Array Value).size) undef, defers := [] }
  have henter : Frame.enter P f ⟨vals⟩ .normal = b.atR a [.code c] := by
    simp [Frame.enter, Frame.atR, hf, hb, b, a]
  rw [henter]
  have hget : ∀ t, a.tmps.getD t undef = vals.getD t undef := by
    intro t
    by_cases ht : t < vals.length
    · simp [a, Array.getElem?_append, ht]
    · simp only [a, Array.getD_eq_getD_getElem?, List.getD_eq_getElem?_getD]
      rw [Array.getElem?_append, if_neg (by simpa using ht), List.getElem?_eq_none (by omega)]
      simp only [Array.getElem?_replicate]
      split <;> rfl
  have hpost : ∀ e w', PostX (ctxX w X M0 hM fn.ntmps pn fun t => vals.getD t undef) r (obs lo') kp e w' → PostX (ctxX w X M0 hM 0 pn fun t => vals.getD t undef) r (obs lo') kp e w' :=
    fun e w' h => h.congr rfl rfl rfl (fun _ _ => rfl)
  suffices hsat : Sat (ctxX w X M0 hM fn.ntmps pn fun t => vals.getD t undef) ⟨idx 0 args, obs lo⟩ a w by
    obtain ⟨m, ⟨e, w', fr, v, hR, he, hm, h1, h2⟩, hst⟩ := h w X M0 hM _ a w hsat b cs rfl rfl rfl
    subst hm; subst he
    exact ⟨_, w', fr, hpost _ w' hR, hst, h1, h2⟩
  refine ⟨hd, ?_⟩
  refine ⟨by simp [a, ctxX]; omega, fun t x hx => ?_, hmem.ob, hmem.lv, hmem.inj, hmem.fr, ⟨rfl, List.nodup_nil, fun _ h => (List.not_mem_nil h).elim, fun _ h => (List.not_mem_nil h).elim, fun t _ => hget t⟩⟩
  obtain ⟨_, hg⟩ := idx_get hx
  simp only [Nat.sub_zero] at hg
  have hlt : t < args.length := (List.getElem?_eq_some_iff.1 hg).1
  have hlt' : t < vals.length := by omega
  refine ⟨by simp [ctxX]; omega, ?_⟩
  have := hv t x vals[t] hg (List.getElem?_eq_getElem hlt')
  rw [hget t, List.getD_eq_getElem?_getD, List.getElem?_eq_getElem hlt']
  exact this

def isBx : Option O → Bool
  | some (.box _) => true
  | _ => false
theorem isBx_spec {x : Option O} (h : isBx x = true) : ∃ cs, x = some (.box cs) := by
  match x, h with
  | some (.box cs), _ => exact ⟨cs, rfl⟩

/-- what a call wants of what it lends; ks: the boxes, which stay at their places -/
structure LW (P : Program) (f : FuncId) (g : Nat → Nat) (ks : List Nat) (args : List V) (lo : List (Nat × O)) (pn : List Nat) (r : V) (kp : List (Nat × V)) (lo' : List (Nat × O)) : Prop where
  c : AW P f args lo pn r kp lo'
  k : (ks.all fun j => kp.any fun q => match args[q.1]? with | some x => inB j (V.pts x q.2) | none => false) = true
  b : (ks.all fun j => isBx (lk lo j) && isBx (lk lo' j)) = true
  i : injB g (lo.map (·.1)) = true
  m : r.onlyI (lo'.map (·.1)) = true
  a : (lo'.all fun p => p.2.onlyI (lo'.map (·.1))) = true

theorem AW.lw {P : Program} {f : FuncId} {args : List V} {lo : List (Nat × O)} {pn : List Nat} {r : V} {kp : List (Nat × V)} {lo' : List (Nat × O)} (g : Nat → Nat) (ks : List Nat) (h : AW P f args lo pn r kp lo')
    (k : (ks.all fun j => kp.any fun q => match args[q.1]? with | some x => inB j (V.pts x q.2) | none => false) = true) (b : (ks.all fun j => isBx (lk lo j) && isBx (lk lo' j)) = true)
    (i : injB g (lo.map (·.1)) = true) (m : r.onlyI (lo'.map (·.1)) = true) (a : (lo'.all fun p => p.2.onlyI (lo'.map (·.1))) = true) : LW P f g ks args lo pn r kp lo' := ⟨h, k, b, i, m, a⟩

def rhoW (g : Nat → Nat) (K : Nat) (ks : List Nat) (i : Nat) : Nat := bif inB i ks then g i else K + i
def wrW (ρ : Nat → Nat) (lo : List (Nat × O)) : List (Nat × Option O) := lo.map fun p => (ρ p.1, some (p.2.mp ρ))
def goneW (g : Nat → Nat) (lo : List (Nat × O)) : List (Nat × Option O) := lo.map fun p => (g p.1, none)
def frW (K : Nat) (ks : List Nat) : List (Nat × O) → List Nat
  | [] => []
  | p :: r => bif inB p.1 ks then frW K ks r else (K + p.1) :: frW K ks r
theorem frW_mem {K : Nat} {ks : List Nat} {i : Nat} : ∀ {lo : List (Nat × O)}, i ∈ frW K ks lo ↔ ∃ p, p ∈ lo ∧ inB p.1 ks = false ∧ i = K + p.1
  | [] => by simp [frW]
  | p :: r => by
    simp only [frW]
    cases h : inB p.1 ks with
    | true =>
      simp only [cond_true, frW_mem (lo := r), List.mem_cons]
      constructor
      · rintro ⟨q, h1, h2, h3⟩; exact ⟨q, .inr h1, h2, h3⟩
      · rintro ⟨q, rfl | h1, h2, h3⟩
        · rw [h] at h2; cases h2
        · exact ⟨q, h1, h2, h3⟩
    | false =>
      simp only [cond_false, List.mem_cons, frW_mem (lo := r)]
      constructor
      · rintro (h1 | ⟨q, h1, h2, h3⟩)
        · exact ⟨p, .inl rfl, h, h1⟩
        · exact ⟨q, .inr h1, h2, h3⟩
      · rintro ⟨q, rfl | h1, h2, h3⟩
        · exact .inl h3
        · exact .inr ⟨q, h1, h2, h3⟩
theorem go_obs {lo : List (Nat × O)} {i : Nat} : (St.mk [] (obs lo)).go i = lk lo i := by
  induction lo with
  | nil => rfl
  | cons p lo ih =>
    simp only [St.go, obs, List.map_cons, lk] at ih ⊢
    cases Nat.beq p.1 i with
    | true => rfl
    | false => exact ih
theorem lk_key {lo : List (Nat × O)} {i : Nat} {x : O} (h : lk lo i = some x) : i ∈ lo.map (·.1) := List.mem_map.2 ⟨_, lk_mem h, rfl⟩
theorem key_lk : ∀ {lo : List (Nat × O)} {i : Nat}, i ∈ lo.map (·.1) → ∃ x, lk lo i = some x
  | p :: lo, i, h => by
    simp only [lk]
    by_cases hj : p.1 = i
    · subst hj; exact ⟨p.2, by simp⟩
    · rw [beq_ne hj]
      simp only [List.map_cons, List.mem_cons] at h
      exact key_lk (lo := lo) (h.resolve_left fun e => hj e.symm)
theorem lk_wrW {ρ : Nat → Nat} : ∀ {lo : List (Nat × O)} {i : Nat} {y : Option O}, lk (wrW ρ lo) i = some y → ∃ j x, i = ρ j ∧ y = some (x.mp ρ) ∧ lk lo j = some x
  | [], i, y, h => by simp [wrW, lk] at h
  | p :: lo, i, y, h => by
    simp only [wrW, List.map_cons, lk] at h
    by_cases hj : ρ p.1 = i
    · subst hj; simp at h; exact ⟨p.1, p.2, rfl, h.symm, by simp [lk]⟩
    · rw [beq_ne hj] at h
      obtain ⟨j, x, h1, h2, h3⟩ := lk_wrW (lo := lo) h
      refine ⟨j, x, h1, h2, ?_⟩
      simp only [lk]
      rw [beq_ne (fun e => hj (by rw [e, h1]))]
      exact h3
theorem wrW_lk {ρ : Nat → Nat} : ∀ {lo : List (Nat × O)} {j : Nat}, j ∈ lo.map (·.1) → ∃ y, lk (wrW ρ lo) (ρ j) = some y
  | p :: lo, j, h => by
    simp only [wrW, List.map_cons, lk]
    by_cases hj : ρ p.1 = ρ j
    · rw [hj]; simp
    · rw [beq_ne hj]
      simp only [List.map_cons, List.mem_cons] at h
      exact wrW_lk (lo := lo) (h.resolve_left fun e => hj (by rw [e]))
theorem lk_goneW {g : Nat → Nat} : ∀ {lo : List (Nat × O)} {i : Nat} {y : Option O}, lk (goneW g lo) i = some y → y = none ∧ ∃ j, j ∈ lo.map (·.1) ∧ i = g j
  | [], i, y, h => by simp [goneW, lk] at h
  | p :: lo, i, y, h => by
    simp only [goneW, List.map_cons, lk] at h
    by_cases hj : g p.1 = i
    · subst hj; simp at h; exact ⟨h.symm, p.1, by simp, rfl⟩
    · rw [beq_ne hj] at h
      obtain ⟨h1, j, h2, h3⟩ := lk_goneW (lo := lo) h
      exact ⟨h1, j, by simp [h2], h3⟩
theorem goneW_lk {g : Nat → Nat} : ∀ {lo : List (Nat × O)} {j : Nat}, j ∈ lo.map (·.1) → ∃ y, lk (goneW g lo) (g j) = some y
  | p :: lo, j, h => by
    simp only [goneW, List.map_cons, lk]
    by_cases hj : g p.1 = g j
    · rw [hj]; simp
    · rw [beq_ne hj]
      simp only [List.map_cons, List.mem_cons] at h
      exact goneW_lk (lo := lo) (h.resolve_left fun e => hj (by rw [e]))

section
variable {P : Program} {ops : Array Oper} {S S' : St} {os : List Oper} {es : List Eff}
variable {d : Option Nat} {ty : TypeId} {pos : String} {af : Array Edge}

def eww (g : Nat → Nat) (K : Nat) (ks : List Nat) (rs : List (Nat × V)) (lo lo' : List (Nat × O)) (r : V) : Eff :=
  ⟨[], True, rs, lo.map fun p => (g p.1, p.2.mp g), r.mp (rhoW g K ks), wrW (rhoW g K ks) lo' ++ goneW g lo, frW K ks lo'⟩

theorem Trip.callW {o : Oper} {rs : List (Nat × V)} {f : FuncId} {args : List V} {lo lo' : List (Nat × O)} {pn : List Nat} {r : V} {kp : List (Nat × V)} (g : Nat → Nat) (K : Nat) {ks : List Nat}
    (L : LW P f g ks args lo pn r kp lo') (hg : o.guard = none)
    (h : ∀ (C : Ctx) (S : St) (hd : Nat → Value) (a : Act) (w : World), Sat' C S hd a w → (∀ p, p ∈ rs → S.gs p.1 = some p.2) →
      ∃ vals : List Value, (execOp a.eval o).run P w = .ok (.enter f ⟨vals⟩) w ∧ args.length = vals.length ∧
        ∀ (i : Nat) (x : V) (v : Value), args[i]? = some x → vals[i]? = some v → VV w (MM C S hd) hd (x.mp g) v) :
    Trip P ops o (eww g K ks rs lo lo' r) := by
  obtain ⟨hC, hk, hbx, hi, hm1, hA⟩ := L
  intro C S a w ⟨hd, hs⟩ hp hdst
  unfold stepOp
  rw [if_pos (by simp [Region.wanted, hg])]
  obtain ⟨vals, hr, hl, hv⟩ := h C S hd a w hs (hp.rs trivial)
  simp only [Oper.wp, hr, Oper.upon]
  have hgo : ∀ i x, lk lo i = some x → S.go (g i) = some (x.mp g) := fun i x hx => hp.ro trivial (g i, x.mp g) (List.mem_map.2 ⟨_, lk_mem hx, rfl⟩)
  let X : Nat → Prop := fun b => ∃ i x, lk lo i = some x ∧ blk (hd (g i)) = some b
  let M0 : Nat → Prop := fun b => MM C S hd b ∧ ¬ X b
  have hsz : ∀ b, MM C S hd b → b < w.heap.size := fun b hb => hb.elim (fun h => Nat.lt_of_lt_of_le (C.hM0 b h).1 hs.fr.size) (fun h => (hs.lv b h).2)
  have hM : ∀ b, M0 b → b < w.heap.size ∧ ¬ X b := fun b hb => ⟨hsz b hb.1, hb.2⟩
  have hXM : ∀ b, X b → MM C S hd b := fun b ⟨i, x, hx, hb⟩ => .inr ⟨g i, _, hgo i x hx, hb⟩
  have hin : ∀ b, MM (ctxX w X M0 hM 0 [] fun _ => undef) ⟨[], obs lo⟩ (fun i => hd (g i)) b → MM C S hd b := by
    rintro b (hm | ⟨id, x, hx, hb⟩)
    · exact hm.1
    · rw [go_obs] at hx
      exact .inr ⟨g id, _, hgo id x hx, hb⟩
  have hargs : ∀ (i : Nat) (x : V) (v : Value), args[i]? = some x → vals[i]? = some v → VV w (MM (ctxX w X M0 hM 0 [] fun _ => undef) ⟨[], obs lo⟩ (fun i => hd (g i))) (fun i => hd (g i)) x v :=
    fun i x v hx hvl => ((hv i x v hx hvl).ext (Chg.refl w (fun _ => False)) (fun _ h => h.elim) (fun b _ hm => hin b hm) (fun _ _ => rfl)).unmp rfl
  have hmem : Mem (ctxX w X M0 hM 0 [] fun _ => undef) (obs lo) (fun i => hd (g i)) w := by
    refine ⟨fun id x hx => ?_, ?_, fun i1 i2 x1 x2 b h1 h2 hb1 hb2 => ?_, Chg.refl w _⟩
    · rw [go_obs] at hx
      exact ((hs.ob (g id) _ (hgo id x hx)).ext (Chg.refl w (fun _ => False)) (fun _ h => h.elim) (fun b _ hm => hin b hm) (fun _ _ => rfl) (fun _ _ h => h)).unmp
    · rintro b ⟨id, x, hx, hb⟩
      rw [go_obs] at hx
      exact ⟨.inr ⟨id, x, hx, hb⟩, hsz b (hXM b ⟨id, x, hx, hb⟩)⟩
    · rw [go_obs] at h1 h2
      have := hs.inj (g i1) (g i2) _ _ b (hgo _ _ h1) (hgo _ _ h2) hb1 hb2
      exact injB_spec hi i1 i2 (lk_key h1) (lk_key h2) this
  refine (hC w X M0 hM (fun i => hd (g i)) vals hl hargs hmem).mono fun e w' hpost => ?_
  obtain ⟨v, hd1, rfl, hv1, hm, hkp⟩ := hpost
  show Sat C _ (a.put o.dst v) w'
  have hmo : ∀ {i : Nat} {x : O}, lk lo' i = some x → (St.mk [] (obs lo')).go i = some x := fun h => by rw [go_obs]; exact h
  have hXin : ∀ b, X b → MM (ctxX w X M0 hM 0 [] fun _ => undef) ⟨[], obs lo⟩ (fun i => hd (g i)) b := by
    rintro b ⟨i, x, hx, hb⟩
    exact .inr ⟨i, x, by rw [go_obs]; exact hx, hb⟩
  have hks : ∀ {i : Nat}, inB i ks = true → i ∈ ks ∧ (∃ cs, lk lo i = some (.box cs)) ∧ ∃ cs, lk lo' i = some (.box cs) := by
    intro i hi'
    have h1 := inB_spec hi'
    have h2 := List.all_eq_true.1 hbx i h1
    simp only [Bool.and_eq_true] at h2
    exact ⟨h1, isBx_spec h2.1, isBx_spec h2.2⟩
  have hkeep : ∀ i, inB i ks = true → hd1 i = hd (g i) := by
    intro i hik
    obtain ⟨h1, ⟨cs, c1⟩, ⟨cs', c2⟩⟩ := hks hik
    have h2 := List.all_eq_true.1 hk i h1
    obtain ⟨q, hq, h3⟩ := List.any_eq_true.1 h2
    split at h3
    · rename_i x hx
      have hpt := inB_spec h3
      have hlt : q.1 < vals.length := by rw [← hl]; exact (List.getElem?_eq_some_iff.1 hx).1
      have h2 := hkp q hq
      have h3 : (ctxX w X M0 hM 0 pn fun t => vals.getD t undef).pv q.1 = vals[q.1] := by
        show vals.getD q.1 undef = _
        rw [List.getD_eq_getElem?_getD, List.getElem?_eq_getElem hlt]; rfl
      rw [h3] at h2
      obtain ⟨b, b1, b2⟩ := pts_ok (X := X) (w := w) (w' := w') ⟨hm.fr.os, hm.fr.tape, hm.fr.output, hm.fr.size, hm.fr.block⟩ hXin (hargs q.1 x vals[q.1] hx (List.getElem?_eq_getElem hlt)) h2 i hpt
      obtain ⟨_, _, _, e1, _⟩ := (show OO _ _ _ _ (.box _) from hs.ob (g i) _ (hgo i _ c1)).box_inv
      obtain ⟨_, _, _, e2, _⟩ := (hm.ob i _ (hmo c2)).box_inv
      have b1 : blk (hd (g i)) = some b := b1
      rw [e1] at b1 ⊢; rw [e2] at b2 ⊢
      simp only [blk, Option.some.injEq] at b1 b2
      rw [b1, b2]
    · cases h3
  have hnX : ∀ b, C.M0 b → ¬ X b := by
    rintro b hm0 ⟨i, x, hx, hb⟩
    have h1 := C.hM0 b hm0
    rcases (hs.lv b ⟨g i, _, hgo i x hx, hb⟩).1 with h2 | h2
    · omega
    · exact h1.2 h2
  let hd' : Nat → Value := fun i => if i ∈ frW K ks lo' then hd1 (i - K) else hd i
  have hfree : ∀ {i : Nat} {x : O}, S.go i = some x → i ∉ frW K ks lo' := fun hx hm => by
    rw [free_go (hp.fr _ hm)] at hx; cases hx
  have hd'ρ : ∀ j x, lk lo' j = some x → hd' (rhoW g K ks j) = hd1 j := by
    intro j x hx
    cases hj : inB j ks with
    | true =>
      obtain ⟨_, ⟨cs, c1⟩, _⟩ := hks hj
      have : g j ∉ frW K ks lo' := hfree (hgo j _ c1)
      simp only [rhoW, hj, cond_true, hd', this, if_false]
      exact (hkeep j hj).symm
    | false =>
      have : K + j ∈ frW K ks lo' := frW_mem.2 ⟨(j, x), lk_mem hx, hj, rfl⟩
      simp only [rhoW, hj, cond_false, hd', this, if_true]
      congr 1; omega
  have hd'm : ∀ j, j ∈ lo'.map (·.1) → hd' (rhoW g K ks j) = hd1 j := fun j hj => let ⟨x, hx⟩ := key_lk hj; hd'ρ j x hx
  have hmen : ∀ id, V.men id r = true → hd' (rhoW g K ks id) = hd1 id := fun id h => hd'm id (V.onlyI_men hm1 h)
  have hmenO : ∀ i x id, lk lo' i = some x → O.men id x = true → hd' (rhoW g K ks id) = hd1 id := fun i x id h hm' =>
    hd'm id (O.onlyI_men (List.all_eq_true.1 hA (i, x) (lk_mem h)) hm')
  have hwo1 : ∀ {i : Nat} {x : O}, lk (wrW (rhoW g K ks) lo' ++ goneW g lo) i = some (some x) → ∃ j y, i = rhoW g K ks j ∧ x = y.mp (rhoW g K ks) ∧ lk lo' j = some y := by
    intro i x hx
    rw [lk_append] at hx
    cases hz : lk (wrW (rhoW g K ks) lo') i with
    | some z =>
      rw [hz] at hx; simp only [Option.some.injEq] at hx; subst hx
      obtain ⟨j, y, h1, h2, h3⟩ := lk_wrW hz
      exact ⟨j, y, h1, by simpa using h2, h3⟩
    | none =>
      rw [hz] at hx
      exact absurd (lk_goneW hx).1 (by simp)
  have hwo2 : ∀ {j : Nat} {x : O}, lk lo j = some x → ∃ y, lk (wrW (rhoW g K ks) lo' ++ goneW g lo) (g j) = some y := by
    intro j x hx
    rw [lk_append]
    cases hz : lk (wrW (rhoW g K ks) lo') (g j) with
    | some z => exact ⟨z, rfl⟩
    | none => exact goneW_lk (lk_key hx)
  have hMM : ∀ b, b < w'.heap.size → (C.M0 b ∨ Ow ((eww g K ks rs lo lo' r).app o.dst S) hd' b) →
      MM (ctxX w X M0 hM 0 pn fun t => vals.getD t undef) ⟨[], obs lo'⟩ hd1 b := by
    rintro b _ (hb | ⟨id, x, hx, hbk⟩)
    · exact .inl ⟨.inl hb, hnX b hb⟩
    · rw [app_go] at hx
      split at hx
      · rename_i y hy
        subst hx
        obtain ⟨j, z, rfl, rfl, h3⟩ := hwo1 hy
        exact .inr ⟨j, z, hmo h3, by rw [← hd'ρ j z h3]; exact hbk⟩
      · rename_i hnone
        have hni := hfree hx
        have hbk : blk (hd id) = some b := by simp only [hd', hni, if_false] at hbk; exact hbk
        refine .inl ⟨.inr ⟨id, x, hx, hbk⟩, ?_⟩
        rintro ⟨i, y, hy, hb⟩
        have := hs.inj id (g i) _ _ b hx (hgo i y hy) hbk hb
        subst this
        obtain ⟨z, hz⟩ := hwo2 hy
        exact absurd (hnone.symm.trans hz) (by simp)
  refine ⟨hd', hs.step _ hp o.dst v hdst X ⟨hm.fr.os, hm.fr.tape, hm.fr.output, hm.fr.size, hm.fr.block⟩ (fun b hb => ?_) (fun id hid => ?_) (fun _ => ?_) (fun id x hx => ?_) (fun id x b hx hbk => ?_) (fun i1 i2 x1 x2 b h1 h2 hb1 hb2 => ?_)⟩
  · obtain ⟨i, x, hx, hb⟩ := hb
    obtain ⟨y, hy⟩ := hwo2 hx
    exact ⟨g i, _, y, hgo i x hx, hb, hy⟩
  · have : id ∉ frW K ks lo' := hid
    simp only [hd', this, if_false]
  · exact (hv1.ext (Chg.refl w' (fun _ => False)) (fun _ h => h.elim) hMM (fun _ _ => rfl)).mpf hmen
  · obtain ⟨j, y, rfl, rfl, h3⟩ := hwo1 hx
    rw [hd'ρ j y h3]
    exact ((hm.ob j y (hmo h3)).ext (Chg.refl w' (fun _ => False)) (fun _ h => h.elim) hMM (fun _ _ => rfl) (fun _ _ h => h)).mpf fun id hid => hmenO j y id h3 hid
  · obtain ⟨j, y, rfl, rfl, h3⟩ := hwo1 hx
    rw [hd'ρ j y h3] at hbk
    have h5 := hm.lv b ⟨j, y, hmo h3, hbk⟩
    rcases h5.1 with h6 | ⟨i, x, hx2, hb⟩
    · exact .inl ⟨h6, h5.2⟩
    · obtain ⟨z, hz⟩ := hwo2 hx2
      exact .inr ⟨g i, _, z, hgo i x hx2, hb, hz⟩
  · obtain ⟨j1, y1, rfl, rfl, h3⟩ := hwo1 h1
    obtain ⟨j2, y2, rfl, rfl, h4⟩ := hwo1 h2
    rw [hd'ρ j1 y1 h3] at hb1
    rw [hd'ρ j2 y2 h4] at hb2
    rw [hm.inj j1 j2 y1 y2 b (hmo h3) (hmo h4) hb1 hb2]

inductive LntW (S : St) (g : Nat → Nat) : List (Nat × O) → Prop
  | n : LntW S g []
  | c {i : Nat} {x : O} {lo : List (Nat × O)} (h : S.go (g i) = some (x.mp g)) (hr : LntW S g lo) : LntW S g ((i, x) :: lo)
theorem LntW.ok {g : Nat → Nat} {lo : List (Nat × O)} (h : LntW S g lo) : ∀ p, p ∈ lo.map (fun p => (g p.1, p.2.mp g)) → S.go p.1 = some p.2 := by
  induction h with
  | n => simp
  | c h _ ih => intro p hp; rcases List.mem_cons.1 hp with rfl | hp; exact h; exact ih p hp

/-- a call that lends objects -/
theorem clo {f : FuncId} {xs : Array Operand} {ts : Array TypeId} {g : Nat → Nat} (K : Nat) {ks : List Nat} {ys args : List V} {lo lo' : List (Nat × O)} {pn : List Nat} {r : V} {kp : List (Nat × V)}
    (hF : CF P f) (hC : LW P f g ks args lo pn r kp lo') (hx : Evs S xs.toList ys) (he : ys = args.map (V.mp g)) (hL : LntW S g lo) (hf : ((frW K ks lo').all S.free) = true)
    (D : Der P ops ((eww g K ks (rds xs.toList ys) lo lo' r).app d S) os es S') :
    Der P ops S (⟨d, .call ⟨.value (.func f), xs, ts⟩, ty, pos, af, none⟩ :: os) (eww g K ks (rds xs.toList ys) lo lo' r :: es) S' := by
  refine .cons (Trip.callW (o := ⟨d, .call ⟨.value (.func f), xs, ts⟩, ty, pos, af, none⟩) g K hC rfl fun C S2 hd a w hs h2 => ?_)
    ⟨fun _ h => (List.not_mem_nil h).elim, fun _ => hx.rd, fun _ => hL.ok, fun id hid => List.all_eq_true.1 hf id hid⟩ D
  have h3 := (hx.of h2).vv hs
  subst he
  refine ⟨xs.toList.map a.eval, ?_, by simpa using h3.1, fun i x v hx hv => h3.2 i (x.mp g) v (by simp [hx]) hv⟩
  rw [run_resolve_func rfl hF]
  congr 2
  apply Array.ext'; simp
end
end Xb
