/- Own text: Core25. -/
import Derived.Test.YtemfkddlidfbfaaGreatCore24
import Derived.RangeFuncStops
set_option linter.all false
set_option linter.unusedVariables false
set_option linter.unusedSimpArgs false
set_option linter.unnecessarySimpa false
set_option linter.deprecated false
/-! slices.Chunk and slices.Backward, ranged over. -/
namespace Xb
open Go Go.RowKit

/-- a length that is in reach -/
def lnO {α : Type} (l : List α) : Option Unit := if l.length ≤ 4294967296 then some () else none
theorem lnO_le {α : Type} {l : List α} {x : Unit} (h : lnO l = some x) : l.length ≤ 4294967296 := by
  unfold lnO at h; split at h
  · assumption
  · cases h

/-- the chunks of a list, n each -/
def chunksL {α : Type} (n : Nat) (l : List α) : List (List α) := (List.range ((l.length + n - 1) / n)).map fun i => (l.drop (i * n)).take n

theorem chunksL_drop {α : Type} {n : Nat} (hn : 1 ≤ n) (l : List α) (i : Nat) (h : i * n < l.length) : (chunksL n l).drop i = (l.drop (i * n)).take n :: (chunksL n l).drop (i + 1) := by
  have hi : i < (chunksL n l).length := by
    simp only [chunksL, List.length_map, List.length_range]
    rw [Nat.lt_div_iff_mul_lt hn]; omega
  rw [List.drop_eq_getElem_cons hi]
  simp [chunksL]
theorem chunksL_end {α : Type} {n : Nat} (hn : 1 ≤ n) (l : List α) (i : Nat) (h : l.length ≤ i * n) : (chunksL n l).drop i = [] := by
  apply List.drop_eq_nil_of_le
  simp only [chunksL, List.length_map, List.length_range]
  have : (l.length + n - 1) / n < i + 1 := by
    rw [Nat.div_lt_iff_lt_mul hn, Nat.add_mul]; omega
  omega

/-- what the closure of slices.Chunk does, in the machine's words -/
def RawChunk (P : Program) (it : FuncId) : Prop :=
  ∀ (l Bs os Bn on n N : Nat) (_ : 1 ≤ n) (_ : n ≤ 1000000) (_ : N ≤ 281474976710656) (J : Nat → World → Prop) (Jx : World → Prop)
    (_ : ∀ i W, J i W → J i W.drew)
    (_ : ∀ i W, J i W → W.cell? ⟨Bn, on, none⟩ = some (.int .i64 n) ∧ ∃ o cap, W.cell? ⟨Bs, os, none⟩ = some (.slice o N cap) ∧ ((∃ b off, o = some ⟨b, off, none⟩) ∨ N = 0) ∧ N ≤ cap ∧ cap ≤ maxLen)
    (_ : ∀ i W b off cap, J i W → i < N → i < N + n → W.cell? ⟨Bs, os, none⟩ = some (.slice (some ⟨b, off, none⟩) N cap) → YieldAt Fence.wide 2 P l #[.slice (some ⟨b, off + i, none⟩) (min n (N - i)) (min n (N - i))] W fun e W' =>
      (e = .returned (.bool true) ∧ J (i + n) W') ∨ (e = .returned (.bool false) ∧ Jx W'))
    (W : World) (_ : J 0 W),
    CallsIn Fence.wide 3 P it #[.func (.yield l) #[] #[], .pointer (some ⟨Bs, os, none⟩), .pointer (some ⟨Bn, on, none⟩)] W fun e W' => (∃ v, e = .returned v) ∧ ((∃ i, N ≤ i ∧ J i W') ∨ Jx W')

def RawBack (P : Program) (it : FuncId) : Prop :=
  ∀ (l Bs os N : Nat) (_ : N ≤ 281474976710656) (J : Nat → World → Prop) (Jx : World → Prop)
    (_ : ∀ i W, J i W → ∃ o cap, W.cell? ⟨Bs, os, none⟩ = some (.slice o N cap) ∧ ((∃ b off, o = some ⟨b, off, none⟩ ∧ ∀ j, j < N → ∃ v, W.cell? ⟨b, off + j, none⟩ = some (.int .u8 v)) ∨ N = 0) ∧ N ≤ cap ∧ cap ≤ maxLen)
    (_ : ∀ i W v, J (i + 1) W → i < N → YieldAt Fence.wide 2 P l #[.int .i64 i, .int .u8 v] W fun e W' =>
      (e = .returned (.bool true) ∧ J i W') ∨ (e = .returned (.bool false) ∧ Jx W'))
    (W : World) (_ : J N W),
    CallsIn Fence.wide 3 P it #[.func (.yield l) #[] #[], .pointer (some ⟨Bs, os, none⟩)] W fun e W' => (∃ v, e = .returned v) ∧ (J 0 W' ∨ Jx W')

/-- slices.Backward itself -/
def RawBack0 (P : Program) (f it : FuncId) (t : TypeId) : Prop :=
  ∀ (o : Option Addr) (n c : Nat) (w : World), Calls P f #[.slice o n c] w fun e w' => e = .returned (.func (.func it) #[] #[.pointer (some ⟨w.heap.size, 0, none⟩)]) ∧ w' = w.alloc (.cells #[.slice o n c] t)

theorem yieldAt_of {P : Program} {l : Nat} {vs : List Value} {W : World} {R : Bool → World → Prop}
    (h : ∃ fn tmps assign body, (Instr.yield l vs.toArray).run P W = .ok (.round l fn tmps assign body) W ∧
      ∀ (c : Frame) (cs : List Frame), ∃ v W', R v W' ∧ Steps P (lone (Frame.round l fn tmps assign body .normal) (c :: cs) W) (lone (c.finish (.bool v)) cs W')) :
    YieldAt Fence.wide 2 P l vs.toArray W fun e W' => ∃ v, e = .returned (.bool v) ∧ R v W' := by
  obtain ⟨fn, tmps, assign, body, h1, h2⟩ := h
  refine ⟨fn, tmps, assign, body, h1, trivial, fun c cs _ => ?_⟩
  obtain ⟨v, W', hv, hs⟩ := h2 c cs
  exact ⟨.returned (.bool v), W', ⟨v, rfl, hv⟩, comesIn_wide.2 hs⟩

theorem VR.recap {w : World} {M : Nat → Prop} {sz : Nat} {l : List (List A)} {o : Option Addr} {n c c' : Nat} (h : VR w M (.list sz l) (.slice o n c)) (h1 : n ≤ c') (h2 : c' ≤ maxLen) : VR w M (.list sz l) (.slice o n c') := by
  cases h with
  | emp _ _ _ _ => exact .emp _ _ _ h2
  | list _ _ b off cap vs a1 a2 hM hb hs hl hc ho hv => exact .list _ _ b off c' vs h1 h2 hM hb hs hl hc ho hv

theorem VR.slice_inv {w : World} {M : Nat → Prop} {sz : Nat} {l : List (List A)} {v : Value} (h : VR w M (.list sz l) v) :
    ∃ o cap, v = .slice o l.length cap ∧ ((∃ b off, o = some ⟨b, off, none⟩) ∨ l.length = 0) ∧ l.length ≤ cap ∧ cap ≤ maxLen := by
  cases h with
  | emp _ o cap hc => exact ⟨o, cap, rfl, .inr rfl, Nat.zero_le _, hc⟩
  | list _ _ b off cap vs h1 h2 => exact ⟨_, cap, rfl, .inl ⟨b, off, rfl⟩, h1, h2⟩

def GChunk {α : Type} (F : α → List A) (lst : List α) (n : Nat) (cv : List Value) (W : World) : Prop :=
  ∃ M hd c1 c2, cv = [c1, c2] ∧ VV W M hd (.rptr [.list 1 (lst.map F)]) c1 ∧ VV W M hd (.rptr [.int .i64 n]) c2
def encChunk {α : Type} (F : α → List A) (lst : List α) (x : List α) (cv : List Value) (W : World) (vs : List Value) : Prop :=
  ∃ v, vs = [v] ∧ ∀ M hd c1 c2, cv = [c1, c2] → VV W M hd (.rptr [.list 1 (lst.map F)]) c1 → VR W M (.list 1 (x.map F)) v

theorem iter_chunk {P : Program} {it : FuncId} (hraw : RawChunk P it) {α : Type} {F : α → List A} {lst : List α} {n : Nat} (hn : 1 ≤ n) (hnn : n ≤ 1000000) (hlen : lst.length ≤ 4294967296) :
    Iter P it (chunksL n lst) (GChunk F lst n) (encChunk F lst) := by
  intro W l cv J Jx hdrew hG hY h0
  obtain ⟨M0, hd0, c1, c2, rfl, g1, g2⟩ := hG _ W h0
  obtain ⟨Bs, os, vs1, rfl, _⟩ := g1.rptr_inv
  obtain ⟨Bn, on, vs2, rfl, _⟩ := g2.rptr_inv
  have key := hraw l Bs os Bn on n lst.length hn hnn (by omega) (fun p W => ∃ i, p = i * n ∧ J ((chunksL n lst).drop i) W) Jx
    (fun p W ⟨i, e, hj⟩ => ⟨i, e, hdrew _ _ hj⟩) (fun p W ⟨i, e, hj⟩ => by
      obtain ⟨M, hd, d1, d2, e2, q1, q2⟩ := hG _ W hj
      cases e2
      obtain ⟨b1, o1, u1, e3, _, _, hl1, hc1, _, hv1⟩ := q1.rptr_inv
      cases e3
      obtain ⟨b2, o2, u2, e4, _, _, hl2, hc2, _, hv2⟩ := q2.rptr_inv
      cases e4
      match u1, hl1, u2, hl2 with
      | [x1], _, [x2], _ =>
        have r1 := hv1 0 _ x1 rfl rfl
        have r2 := hv2 0 _ x2 rfl rfl
        have k1 := hc1 0 x1 rfl
        have k2 := hc2 0 x2 rfl
        simp only [Nat.add_zero] at k1 k2
        refine ⟨?_, ?_⟩
        · cases r2 with
          | int _ _ _ _ => exact k2
        · obtain ⟨o, cap, rfl, h1, h2, h3⟩ := r1.slice_inv
          rw [List.length_map] at h1 h2 k1
          exact ⟨o, cap, k1, h1, h2, h3⟩)
    (fun p W b off cap ⟨i, e, hj⟩ hlt _ hcell => by
      subst e
      rw [chunksL_drop hn lst i hlt] at hj
      have he : encChunk F lst ((lst.drop (i * n)).take n) [.pointer (some ⟨Bs, os, none⟩), .pointer (some ⟨Bn, on, none⟩)] W [.slice (some ⟨b, off + i * n, none⟩) (min n (lst.length - i * n)) (min n (lst.length - i * n))] := by
        refine ⟨_, rfl, fun M hd d1 d2 e2 q1 => ?_⟩
        cases e2
        obtain ⟨b1, o1, u1, e3, _, _, hl1, hc1, _, hv1⟩ := q1.rptr_inv
        cases e3
        match u1, hl1 with
        | [x1], _ =>
          have r1 := hv1 0 _ x1 rfl rfl
          have k1 := hc1 0 x1 rfl
          simp only [Nat.add_zero] at k1
          rw [hcell] at k1
          have k1 := (Option.some.inj k1).symm
          subst k1
          have hb : i * n + min n (lst.length - i * n) ≤ (lst.map F).length := by rw [List.length_map]; omega
          obtain ⟨o', cap', e4, h1, h2, h3⟩ := r1.sub (a := i * n) (b := i * n + min n (lst.length - i * n)) (by omega) hb
          simp only [Value.slice.injEq, List.length_map] at e4
          obtain ⟨rfl, _, rfl⟩ := e4
          rw [List.length_map] at h1
          rw [if_neg (by omega)] at h3
          simp only [Option.map_some, Addr.add_lit, Nat.mul_one, Nat.add_sub_cancel_left] at h3
          have e5 : ((lst.drop (i * n)).take n).map F = ((lst.map F).drop (i * n)).take (min n (lst.length - i * n)) := by
            rw [List.map_take, List.map_drop]
            have : (List.map F lst).length - i * n = ((lst.map F).drop (i * n)).length := by rw [List.length_drop]
            rw [List.length_map] at this
            rw [this, ← List.take_eq_take_min]
          rw [e5]
          exact h3.recap (Nat.le_refl _) (by omega)
      have := yieldAt_of (hY _ _ W _ hj he)
      obtain ⟨fn, tmps, assign, body, y1, y2⟩ := this
      refine ⟨fn, tmps, assign, body, y1, y2.mono ?_⟩
      rintro e W' ⟨v, rfl, ⟨rfl, hj'⟩ | ⟨rfl, hx⟩⟩
      · exact .inl ⟨rfl, i + 1, by rw [Nat.add_mul, Nat.one_mul], hj'⟩
      · exact .inr ⟨rfl, hx⟩) W ⟨0, by simp, by simpa using h0⟩
  refine (callsIn_wide.1 key).mono ?_
  rintro e W' ⟨hv, ⟨p, hp, i, rfl, hj⟩ | hx⟩
  · rw [chunksL_end hn lst i hp] at hj
    exact ⟨hv, .inl hj⟩
  · exact ⟨hv, .inr hx⟩

section
variable {P : Program} {C : Ctx} {S : St} {k : List Item}

/-- a range over slices.Chunk -/
theorem AK.rgc {T : Tgt} {f : FuncId} {it : FuncId} {α σ ρ : Type} {F : α → List A} {lst : List α} {n : Nat} {g p : Nat} {assign body : Code}
    {step : List α → σ → Option (σ ⊕ ρ)} {done : σ → Option ρ} {t : ρ} {s0 : σ} (mk : σ → St) (pn : List Nat) (hraw : RawChunk P it) (hCF : CF P it)
    (hfold : foldX step done (chunksL n lst) s0 = some t) (hlen : lst.length ≤ 4294967296) (hn : (Nat.ble 1 n && Nat.ble n 1000000) = true)
    (hg : ∀ s, (mk s).gs g = some (.fn (.func it) [] [.rptr [.list 1 (lst.map F)], .rptr [.int .i64 n]])) (hpn : ∀ s, (mk s).s.map (·.1) = pn) (hps : (Nat.blt p C.nt && pn.all fun u => !Nat.beq p u) = true) (hC : C.pn = [] ∧ C.fx = [])
    (hround : ∀ (D l : Nat) (r : Loop) (pv : Nat → Value) (R : Option Code → World → Prop) (x : List α) (s : σ) (u : σ ⊕ ρ), step x s = some u →
      (∀ s', u = .inl s' → AK P (tr f l R) ((C.mrk D).rnd pn pv l { r with state := .busy }) [] (mk s')) → (∀ y, u = .inr y → y = t) →
      (∀ (S' : St) (kk : List Item), (S'.s.all fun p => pn.contains p.1) = true → AK P T (C.mrk D) (.code .ret :: k) S' → AK P (tr f l R) ((C.mrk D).rnd pn pv l { r with state := .busy }) (.code .ret :: kk) S') →
      (∀ (id : Nat) (S' : St) (kk : List Item), exitTo id kk = none → (S'.s.all fun p => pn.contains p.1) = true → AK P T (C.mrk D) (.code (.exit id) :: k) S' → AK P (tr f l R) ((C.mrk D).rnd pn pv l { r with state := .busy }) (.code (.exit id) :: kk) S') →
      (∀ (S' : St) (kk : List Item), AK P (tr f l R) ((C.mrk D).rnd pn pv l { r with state := .busy }) kk S' → AK P (tr f l R) ((C.mrk D).rnd pn pv l r) (.beginRound :: kk) S') →
      AK P (tr f l R) ((C.mrk D).rnd pn pv l r) [.code assign, .beginRound, .code body] ⟨(p, .ro (.list 1 (x.map F))) :: (mk s).s, (mk s).o⟩)
    (hdone : ∀ (D : Nat) s, done s = some t → AK P T (C.mrk D) k (mk s))
    (hT : T.ro = none := by rfl) (hTB : ∀ b cs, T.B b cs → b.fn = f := by exact fun _ _ h => h) :
    AK P T C (.code (.rangeFunc (.tmp g) #[p] assign body) :: k) (mk s0) := by
  simp only [Bool.and_eq_true] at hn hps
  have hn1 := Nat.le_of_ble_eq_true hn.1
  have hn2 := Nat.le_of_ble_eq_true hn.2
  refine AK.rng (it := it) (G := GChunk F lst n) (enc := encChunk F lst) (caps := [.rptr [.list 1 (lst.map F)], .rptr [.int .i64 n]]) mk (fun x => [.ro (.list 1 (x.map F))]) pn (fun _ => True) trivial (fun _ _ _ _ _ => trivial) hT hTB (iter_chunk (F := F) hraw hn1 hn2 hlen) hCF hfold hg hpn ?_ (fun _ => rfl) hC ?_ ?_ ?_ (fun D s _ h => hdone D s h)
  · intro q hq
    have : q = p := by simpa using hq
    subst this
    refine ⟨⟨Nat.blt_eq.mp hps.1, by rw [hC.1]; simp⟩, fun hm => ?_⟩
    have := List.all_eq_true.1 hps.2 q hm
    simp at this
  · intro s C' hd a W cv _ hs hcv
    have hv := (hs.sl g _ (hg s)).2
    rw [hcv] at hv
    obtain ⟨vs, us, e, h1, h2, _, h3⟩ := hv.fn_inv
    simp only [Value.func.injEq, true_and] at e
    obtain ⟨_, rfl⟩ := e
    match us, h2 with
    | [c1, c2], _ => exact ⟨_, hd, c1, c2, rfl, h3 0 _ c1 rfl rfl, h3 1 _ c2 rfl rfl⟩
  · rintro s C' hd a W cv x vs _ hs hcv ⟨v, rfl, he⟩ _
    have hv := (hs.sl g _ (hg s)).2
    rw [hcv] at hv
    obtain ⟨vs, us, e, h1, h2, _, h3⟩ := hv.fn_inv
    simp only [Value.func.injEq, true_and] at e
    obtain ⟨_, rfl⟩ := e
    match us, h2 with
    | [c1, c2], _ =>
      refine ⟨rfl, fun i y w hi hw => ?_⟩
      cases i with
      | zero =>
        simp at hi hw; subst hi; subst hw
        exact .ro _ _ (he _ hd c1 c2 rfl (h3 0 _ c1 rfl rfl))
      | succ i => simp at hi
  · intro D l r pv R x s u _ _ hu h1 h2 h3 h4 h5
    exact hround D l r pv R x s u hu h1 h2 h3 h4 h5

def GBack (N : Nat) (cv : List Value) (W : World) : Prop :=
  ∃ Bs os, cv = [.pointer (some ⟨Bs, os, none⟩)] ∧ ∃ o cap, W.cell? ⟨Bs, os, none⟩ = some (.slice o N cap) ∧ ((∃ b off, o = some ⟨b, off, none⟩ ∧ ∀ j, j < N → ∃ v, W.cell? ⟨b, off + j, none⟩ = some (.int .u8 v)) ∨ N = 0) ∧ N ≤ cap ∧ cap ≤ maxLen
def encBack (i : Nat) (_ : List Value) (_ : World) (vs : List Value) : Prop := ∃ v, vs = [.int .i64 i, .int .u8 v]

theorem iter_back {P : Program} {it : FuncId} (hraw : RawBack P it) {N : Nat} (hN : N ≤ 281474976710656) : Iter P it (List.range N).reverse (GBack N) encBack := by
  intro W l cv J Jx _ hG hY h0
  obtain ⟨Bs, os, rfl, _⟩ := hG _ W h0
  have key := hraw l Bs os N hN (fun k W => J (List.range k).reverse W) Jx
    (fun k W hj => by
      obtain ⟨Bs', os', e, h⟩ := hG _ W hj
      simp only [List.cons.injEq, Value.pointer.injEq, Option.some.injEq, Addr.mk.injEq, and_true] at e
      obtain ⟨rfl, rfl⟩ := e
      exact h)
    (fun k W v hj _ => by
      have hj' : J (k :: (List.range k).reverse) W := by
        have : (List.range (k + 1)).reverse = k :: (List.range k).reverse := by rw [List.range_succ]; simp
        rw [← this]; exact hj
      obtain ⟨fn, tmps, assign, body, y1, y2⟩ := yieldAt_of (hY _ _ W [.int .i64 k, .int .u8 v] hj' ⟨v, rfl⟩)
      refine ⟨fn, tmps, assign, body, y1, y2.mono ?_⟩
      rintro e W' ⟨v, rfl, ⟨rfl, hj'⟩ | ⟨rfl, hx⟩⟩
      · exact .inl ⟨rfl, hj'⟩
      · exact .inr ⟨rfl, hx⟩) W h0
  exact callsIn_wide.1 key

/-- a range over slices.Backward of bytes of one's own -/
theorem AK.rgb {T : Tgt} {f : FuncId} {it : FuncId} {σ ρ : Type} {N : Nat} {g p q d i e : Nat} {assign body : Code}
    {step : Nat → σ → Option (σ ⊕ ρ)} {done : σ → Option ρ} {t : ρ} {s0 : σ} (mk : σ → St) (L : σ → List Int) (pn : List Nat) (hraw : RawBack P it) (hCF : CF P it)
    (hfold : foldX step done (List.range N).reverse s0 = some t) (hN0 : (L s0).length = N) (hN1 : N ≤ 281474976710656) (hL : ∀ x s s', step x s = some (.inl s') → (L s').length = (L s).length)
    (hg : ∀ s, (mk s).gs g = some (.fn (.func it) [] [.ptr d 0])) (hd : ∀ s, (mk s).go d = some (.box [.own i])) (hi : ∀ s, (mk s).go i = some (.arr e 1 ((L s).map e8)))
    (hpn : ∀ s, (mk s).s.map (·.1) = pn) (hps : (Nat.blt p C.nt && Nat.blt q C.nt && pn.all fun u => !Nat.beq p u && !Nat.beq q u) = true) (hC : C.pn = [] ∧ C.fx = [])
    (hround : ∀ (D l : Nat) (r : Loop) (pv : Nat → Value) (R : Option Code → World → Prop) (x : Nat) (s : σ) (u : σ ⊕ ρ), step x s = some u → inR .i64 (x : Int) = true →
      (∀ s', u = .inl s' → AK P (tr f l R) ((C.mrk D).rnd pn pv l { r with state := .busy }) [] (mk s')) → (∀ y, u = .inr y → y = t) →
      (∀ (S' : St) (kk : List Item), (S'.s.all fun p => pn.contains p.1) = true → AK P T (C.mrk D) (.code .ret :: k) S' → AK P (tr f l R) ((C.mrk D).rnd pn pv l { r with state := .busy }) (.code .ret :: kk) S') →
      (∀ (id : Nat) (S' : St) (kk : List Item), exitTo id kk = none → (S'.s.all fun p => pn.contains p.1) = true → AK P T (C.mrk D) (.code (.exit id) :: k) S' → AK P (tr f l R) ((C.mrk D).rnd pn pv l { r with state := .busy }) (.code (.exit id) :: kk) S') →
      (∀ (S' : St) (kk : List Item), AK P (tr f l R) ((C.mrk D).rnd pn pv l { r with state := .busy }) kk S' → AK P (tr f l R) ((C.mrk D).rnd pn pv l r) (.beginRound :: kk) S') →
      AK P (tr f l R) ((C.mrk D).rnd pn pv l r) [.code assign, .beginRound, .code body] ⟨(q, .un) :: (p, .ro (.int .i64 x)) :: (mk s).s, (mk s).o⟩)
    (hdone : ∀ (D : Nat) s, done s = some t → AK P T (C.mrk D) k (mk s))
    (hT : T.ro = none := by rfl) (hTB : ∀ b cs, T.B b cs → b.fn = f := by exact fun _ _ h => h) :
    AK P T C (.code (.rangeFunc (.tmp g) #[p, q] assign body) :: k) (mk s0) := by
  simp only [Bool.and_eq_true] at hps
  refine AK.rng (it := it) (G := GBack N) (enc := encBack) (caps := [.ptr d 0]) mk (fun x : Nat => [.ro (.int .i64 x), .un]) pn (fun s => (L s).length = N) hN0 (fun x s s' h1 h2 => (hL x s s' h2).trans h1) hT hTB (iter_back hraw hN1) hCF hfold hg hpn ?_ (fun _ => rfl) hC ?_ ?_ ?_ (fun D s _ h => hdone D s h)
  · intro z hz
    have hz' : z = p ∨ z = q := by simpa using hz
    rcases hz' with rfl | rfl
    · refine ⟨⟨Nat.blt_eq.mp hps.1.1, by rw [hC.1]; simp⟩, fun hm => ?_⟩
      have := List.all_eq_true.1 hps.2 z hm
      simp at this
    · refine ⟨⟨Nat.blt_eq.mp hps.1.2, by rw [hC.1]; simp⟩, fun hm => ?_⟩
      have := List.all_eq_true.1 hps.2 z hm
      simp at this
  · intro s C' hd' a W cv hq hs hcv
    have hv := (hs.sl g _ (hg s)).2
    rw [hcv] at hv
    obtain ⟨vs, us, e1, h1, h2, _, h3⟩ := hv.fn_inv
    simp only [Value.func.injEq, true_and] at e1
    obtain ⟨_, rfl⟩ := e1
    match us, h2 with
    | [c1], _ =>
      obtain ⟨b, hb, rfl⟩ := (h3 0 _ c1 rfl rfl).ptr_inv
      obtain ⟨b', bs, ty, e2, hh, hl, ho, hvv⟩ := (hs.ob d _ (hd s)).box_inv
      have : b' = b := by rw [e2] at hb; simpa [blk] using hb
      subst this
      match bs, hl with
      | [v0], _ =>
        obtain ⟨rfl, _⟩ := (hvv 0 _ v0 rfl rfl).own_inv
        obtain ⟨xs, hrow, hst, hcs, hone, hxv⟩ := stands_own (hs.ob i _ (hi s))
        simp only [List.length_map] at hrow hst
        rw [hq] at hrow hst
        refine ⟨b', 0, rfl, ?_⟩
        rcases hrow.2 with ⟨hn, h0⟩ | ⟨g0, cap, cur, hh2, _, hg, hnc, hcm, _⟩
        · exact ⟨none, 0, by simp only [World.cell?, hh]; rw [hn, h0]; rfl, .inr h0, by omega, Nat.zero_le _⟩
        · refine ⟨some ⟨g0, 0, none⟩, cap, by simp only [World.cell?, hh]; rw [hh2]; rfl, .inl ⟨g0, 0, rfl, fun j hj => ?_⟩, hnc, hcm⟩
          obtain ⟨o, cap', hh3, hxl, _, hcell, _⟩ := hst
          have ho : o = some ⟨g0, 0, none⟩ := by rw [hh2] at hh3; simp only [Value.slice.injEq] at hh3; exact hh3.1.symm
          have hjx : j < xs.length := by rw [hxl]; omega
          have hc := hcell _ ho j xs[j] (List.getElem?_eq_getElem hjx)
          rw [Addr.add_lit] at hc
          have hjl : j < (L s).length := by omega
          have hfl : ((L s).map e8).flatten = (L s).map (fun n => A.int .u8 n) := by
            clear hrow hcs hxv hi hq
            induction (L s) with
            | nil => rfl
            | cons n l ih => simp only [List.map_cons, List.flatten_cons, ih]; rfl
          have hx := hxv j (.int .u8 (L s)[j]) xs[j] (by rw [hfl]; simp [hjl]) (List.getElem?_eq_getElem hjx)
          generalize xs[j] = y at hx hc
          cases hx with
          | int _ _ _ _ => exact ⟨_, hc⟩
  · rintro s C' hd' a W cv x vs hq hs hcv ⟨v, rfl⟩ hx
    refine ⟨rfl, fun j y w hj hw => ?_⟩
    match j with
    | 0 =>
      simp at hj hw; subst hj; subst hw
      have hxN : x < N := by simpa using hx
      refine .ro _ _ (.int _ _ ?_ ?_)
      · rw [min_i64]; omega
      · rw [max_i64]; omega
    | 1 => simp at hj hw; subst hj; exact .un _
    | j + 2 => simp at hj
  · intro D l r pv R x s u hx _ hu h1 h2 h3 h4 h5
    have hxN : x < N := by simpa using hx
    refine hround D l r pv R x s u hu ?_ h1 h2 h3 h4 h5
    simp only [inR, min_i64, max_i64, Bool.and_eq_true, decide_eq_true_eq]
    omega

variable {ops : Array Oper} {S' : St} {os : List Oper} {es : List Eff}
variable {d : Option Nat} {ty : TypeId} {pos : String} {af : Array Edge}

/-- slices.Backward of a list of one's own -/
theorem bwk {f it : FuncId} {t : TypeId} {x : Operand} {ts : Array TypeId} {i e sz : Nat} {l : List (List A)} (id : Nat) (hF : CF P f) (hraw : RawBack0 P f it t) (hx : Ev S x (.own i)) (hO : S.go i = some (.arr e sz l)) (hf : S.free id = true) (hne : Nat.beq i id = false)
    (D : Der P ops ((me (rd x (.own i)) [(i, .arr e sz l)] (.fn (.func it) [] [.ptr id 0]) [(id, some (.box [.own i]))] [id]).app d S) os es S') :
    Der P ops S (⟨d, .call ⟨.value (.func f), #[x], ts⟩, ty, pos, af, none⟩ :: os) (me (rd x (.own i)) [(i, .arr e sz l)] (.fn (.func it) [] [.ptr id 0]) [(id, some (.box [.own i]))] [id] :: es) S' := by
  refine .cons ?_ (pre_me hx.rd (by simp; exact hO) (by simp; exact hf)) D
  intro C S2 a w hsat hp hdst
  obtain ⟨hd, hs⟩ := hsat
  have hgo := hp.ro trivial (i, .arr e sz l) (by simp [me])
  have hf2 := hp.fr id (by simp [me])
  have hev : a.eval x = hd i := ((hx.of (hp.rs trivial)).vv hs).own_inv.1
  have hone : (hd i).oneCell' = true := ((hx.of (hp.rs trivial)).vv hs).own_inv.2
  obtain ⟨o, n, c, hsl⟩ : ∃ o n c, hd i = .slice o n c := by
    obtain ⟨xs, hrow, _⟩ := stands_own (hs.ob i _ hgo)
    rcases hrow.2 with ⟨h, _⟩ | ⟨g, cap, cur, h, _⟩
    · exact ⟨_, _, _, h⟩
    · exact ⟨_, _, _, h⟩
  have hne' : i ≠ id := fun e => by subst e; simp at hne
  unfold stepOp
  rw [if_pos (by rfl)]
  have hrun : (execOp a.eval ⟨d, .call ⟨.value (.func f), #[x], ts⟩, ty, pos, af, none⟩).run P w = .ok (.enter f #[.slice o n c]) w := by
    rw [run_resolve_func rfl hF]
    simp [hev, hsl]
  simp only [Oper.wp, hrun, Oper.upon]
  refine (hraw o n c w).mono fun e2 w' hpost => ?_
  obtain ⟨rfl, rfl⟩ := hpost
  have hb : blk (updh hd id (.pointer (some ⟨w.heap.size, 0, none⟩)) id) = some w.heap.size := by rw [updh_same]; rfl
  refine ⟨updh hd id (.pointer (some ⟨w.heap.size, 0, none⟩)), hs.step (me (rd x (.own i)) [(i, .arr e sz l)] (.fn (.func it) [] [.ptr id 0]) [(id, some (.box [.own i]))] [id]) hp d _ hdst (fun _ => False) (Chg.alloc w _ _) (fun _ h => h.elim) (fun j hj => updh_ne fun h => hj (by simp [me, h])) (fun _ => ?_) ?_ ?_ ?_⟩
  · exact .fn (.func it) [] [.ptr id 0] [] [_] rfl rfl (by simp) (fun j y v hj hv => by
      cases j with
      | zero => simp at hj hv; subst hj; subst hv; exact .ptr id 0 _ hb
      | succ j => simp at hj)
  · intro j y hy
    simp only [me, lk] at hy
    by_cases hj : id = j
    · subst hj
      simp at hy; subst hy
      refine .box [.own i] [hd i] t w.heap.size (by rw [updh_same]) (by rw [← hsl]; exact heap_alloc_new w _) rfl (fun j v hv => ?_) (fun j y v hj hv => ?_)
      · cases j with
        | zero => simp at hv; subst hv; exact hone
        | succ j => simp at hv
      · cases j with
        | zero =>
          simp at hj hv; subst hj; subst hv
          have := VV.own (w := w.alloc (.cells #[.slice o n c] t)) (M := fun b => C.M0 b ∨ Ow ((me (rd x (.own i)) [(i, .arr e sz l)] (.fn (.func it) [] [.ptr id 0]) [(id, some (.box [.own i]))] [id]).app d S2) (updh hd id (.pointer (some ⟨w.heap.size, 0, none⟩))) b) (hd := updh hd id (.pointer (some ⟨w.heap.size, 0, none⟩))) i (by rw [updh_ne hne']; exact hone)
          rwa [updh_ne hne'] at this
        | succ j => simp at hj
    · rw [beq_ne hj] at hy; cases hy
  · intro j y b hy hb'
    simp only [me, lk] at hy
    by_cases hj : id = j
    · subst hj
      rw [hb] at hb'; cases hb'
      exact .inl ⟨Nat.le_refl _, by simp⟩
    · rw [beq_ne hj] at hy; cases hy
  · intro i1 i2 x1 x2 b h1 h2 _ _
    simp only [me, lk] at h1 h2
    by_cases hj1 : id = i1
    · by_cases hj2 : id = i2
      · exact hj1.symm.trans hj2
      · rw [beq_ne hj2] at h2; cases h2
    · rw [beq_ne hj1] at h1; cases h1
end
end Xb
