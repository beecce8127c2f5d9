/- Own text: Core16. -/
import Derived.Test.YtemfkddlidfbfaaGreatCore36
import Derived.ProofKit
import Derived.OpenShut
import Derived.JoinedCond
set_option linter.all false
set_option linter.unusedVariables false
set_option linter.unusedSimpArgs false
set_option linter.unnecessarySimpa false
set_option linter.deprecated false
/-! From a contract to a row: what the arguments read as, and the end. -/
namespace Xb
open Go Go.ChangeShapes Go.WideShapes Go.ChangeAt Go.RowKit

def Cl (w : World) (l : List A) (cs : List Value) : Prop :=
  l.length = cs.length ∧ ∀ (i : Nat) (a : A) (v : Value), l[i]? = some a → cs[i]? = some v → VR w (fun _ => False) a v ∧ v.oneCell' = true

/-- of what a reading accepts: the cells, as data -/
structure Rd (P : Program) (t : TypeId) (n : Nat) {α : Type} (F : α → List A) (wf : α → Prop) : Prop where
  cn : P.cellsOf t = n
  len : ∀ x, (F x).length = n
  rd : ∀ (H : Type) (enc : TypeId × Value → H) (w : World) (base : Nat) (spare : Nat → Bool) (held : Bool) (fuel : Nat) (cs : List Value) (x : DataW H × List MemPlace),
    DataW.trod enc P w base spare held fuel t cs = some x → ∃ y, wf y ∧ Cl w (F y) cs

theorem Cl.one {w : World} {a : A} {v : Value} (h : VR w (fun _ => False) a v) (ho : v.oneCell' = true) : Cl w [a] [v] :=
  ⟨rfl, fun i a' v' h1 h2 => by
    cases i with
    | zero => simp at h1 h2; subst h1; subst h2; exact ⟨h, ho⟩
    | succ i => simp at h1⟩

theorem Cl.app {w : World} {l m : List A} {cs ds : List Value} (h : Cl w l cs) (h' : Cl w m ds) : Cl w (l ++ m) (cs ++ ds) := by
  refine ⟨by simp [h.1, h'.1], fun i a v h1 h2 => ?_⟩
  by_cases hi : i < l.length
  · rw [List.getElem?_append_left hi] at h1
    rw [List.getElem?_append_left (h.1 ▸ hi)] at h2
    exact h.2 i a v h1 h2
  · rw [List.getElem?_append_right (by omega)] at h1
    rw [List.getElem?_append_right (by have := h.1; omega), ← h.1] at h2
    exact h'.2 _ a v h1 h2

def inK (k : IntKind) (n : Int) : Prop := k.min ≤ n ∧ n ≤ k.max

variable {P : Program}

theorem rd_int {t : TypeId} {k : IntKind} (ht : P.underlying t = some (.int k)) (hn : P.cellsOf t = 1) : Rd P t 1 (ei k) (inK k) :=
  ⟨hn, fun _ => rfl, fun H enc w base spare held fuel cs x h => by
    obtain ⟨n, rfl, _, hw⟩ := DataW.trod_int ht h
    simp [Lit.wf] at hw
    exact ⟨n, hw, .one (.int _ _ hw.1 hw.2) rfl⟩⟩
theorem rd_u8 {t : TypeId} (ht : P.underlying t = some (.int .u8)) (hn : P.cellsOf t = 1) : Rd P t 1 e8 (inK .u8) := rd_int ht hn
theorem rd_bool {t : TypeId} (ht : P.underlying t = some .bool) (hn : P.cellsOf t = 1) : Rd P t 1 eb (fun _ => True) :=
  ⟨hn, fun _ => rfl, fun H enc w base spare held fuel cs x h => by
    obtain ⟨b, rfl, _⟩ := DataW.trod_bool ht h
    exact ⟨b, trivial, .one (.bool _) rfl⟩⟩
theorem rd_str {t : TypeId} (ht : P.underlying t = some .string) (hn : P.cellsOf t = 1) : Rd P t 1 es (fun s => s.length ≤ maxLen) :=
  ⟨hn, fun _ => rfl, fun H enc w base spare held fuel cs x h => by
    obtain ⟨s, rfl, _, hl⟩ := DataW.trod_string ht h
    have hs : s.data.toList.length ≤ maxLen := by
      have e : s.data.toList.length = s.size := Array.length_toList
      rw [e]; exact hl
    refine ⟨s.data.toList, hs, .one ?_ rfl⟩
    exact VR.str (w := w) (M := fun _ => False) s.data.toList hs⟩

theorem Rd.map {t : TypeId} {n : Nat} {α β : Type} {F : α → List A} {wf : α → Prop} {G : β → List A} {wg : β → Prop} (h : Rd P t n F wf) (g : α → β) (hF : ∀ x, F x = G (g x)) (hw : ∀ x, wf x → wg (g x)) (hG : ∀ y, (G y).length = n) : Rd P t n G wg :=
  ⟨h.cn, hG, fun H enc w base spare held fuel cs x hx => by
    obtain ⟨y, hy, hc⟩ := h.rd H enc w base spare held fuel cs x hx
    exact ⟨g y, hw y hy, hF y ▸ hc⟩⟩

theorem mapM_list {α β : Type} {f : α → Option β} : ∀ {l : List α} {r : List β}, l.mapM f = some r → r.length = l.length ∧ ∀ (i : Nat) (x : α), l[i]? = some x → f x = r[i]?
  | [], r, h => by simp at h; subst h; simp
  | a :: l, r, h => by
    simp only [List.mapM_cons] at h
    cases ha : f a with
    | none => rw [ha] at h; cases h
    | some b =>
      cases hl : l.mapM f with
      | none => rw [ha, hl] at h; cases h
      | some bs =>
        rw [ha, hl] at h
        obtain rfl : b :: bs = r := by simpa using h
        obtain ⟨h1, h2⟩ := mapM_list hl
        refine ⟨by simp [h1], fun i x hi => ?_⟩
        cases i with
        | zero => simp at hi; subst hi; simpa using ha
        | succ i => simpa using h2 i x (by simpa using hi)

theorem cells_list {w : World} {base : Nat} {a : Addr} {n : Nat} {cs : List Value} (h : w.cells? base a n = some cs) : cs.length = n ∧ ∀ i, i < n → w.cell? (a.add i) = cs[i]? := by
  unfold World.cells? at h
  split at h
  case isFalse => cases h
  obtain ⟨h1, h2⟩ := mapM_list h
  exact ⟨by simpa using h1, fun i hi => h2 i i (by simp [hi])⟩

theorem cell_block {w : World} {a : Addr} {v : Value} (h : w.cell? a = some v) : a.block < w.heap.size ∧ a.spot = none := by
  refine ⟨?_, World.cell?_spot h⟩
  unfold World.cell? at h
  split at h
  · rename_i hh
    exact (Array.getElem?_eq_some_iff.1 hh).1
  · cases h

/-- a list of elements, cell by cell -/
theorem rd_list {t e : TypeId} {n : Nat} {α : Type} {F : α → List A} {wf : α → Prop} (ht : P.underlying t = some (.slice e)) (hn : P.cellsOf t = 1) (he : Rd P e n F wf) (h0 : 0 < n) :
    Rd P t 1 (fun l : List α => [.list n (l.map F)]) (fun l => l.length ≤ maxLen ∧ ∀ x, x ∈ l → wf x) :=
  ⟨hn, fun _ => rfl, fun H enc w base spare held fuel cs x h => by
    rcases DataW.trod_slice ht h with ⟨rfl, _⟩ | ⟨a, len, cap, elems, rest, m, rfl, rfl, _, hb, hlc, hcm, hel, hall, _⟩
    · exact ⟨[], ⟨Nat.zero_le _, by simp⟩, .one (.emp _ _ _ (Nat.zero_le _)) rfl⟩
    · rw [he.cn] at hall
      have key : ∀ k, k ≤ len → ∃ l : List α, l.length = k ∧ (∀ x, x ∈ l → wf x) ∧ ∃ vs : List Value, vs.length = k * n ∧ (∀ i, i < k * n → w.cell? (a.add i) = vs[i]?) ∧ Cl w (l.map F).flatten vs := by
        intro k
        induction k with
        | zero => exact fun _ => ⟨[], rfl, by simp, [], by simp, by simp, ⟨rfl, by simp⟩⟩
        | succ k ih =>
          intro hk
          obtain ⟨l, hl, hwf, vs, hvs, hcell, hcl⟩ := ih (by omega)
          have hk' := hall k (by omega)
          cases hc : w.cells? base (a.add (k * n)) n with
          | none =>
            rw [hc] at hk'
            have : k < elems.length := by omega
            rw [List.getElem?_eq_getElem this] at hk'
            cases hk'
          | some ds =>
            rw [hc] at hk'
            have hlt : k < elems.length := by omega
            rw [List.getElem?_eq_getElem hlt] at hk'
            obtain ⟨y, hy, hcy⟩ := he.rd H enc w base spare held m ds _ hk'
            obtain ⟨h1, h2⟩ := cells_list hc
            refine ⟨l ++ [y], by simp [hl], ?_, vs ++ ds, by simp [hvs, h1, Nat.succ_mul], ?_, ?_⟩
            · intro x hx
              rcases List.mem_append.1 hx with hx | hx
              · exact hwf x hx
              · simp at hx; subst hx; exact hy
            · intro i hi
              by_cases hlt : i < k * n
              · rw [List.getElem?_append_left (l₁ := vs) (by rw [hvs]; exact hlt)]; exact hcell i hlt
              · rw [List.getElem?_append_right (l₁ := vs) (by rw [hvs]; omega), hvs]
                have := h2 (i - k * n) (by rw [Nat.succ_mul] at hi; omega)
                rw [← this, Addr.add_add, show k * n + (i - k * n) = i by omega]
            · simp only [List.map_append, List.flatten_append, List.map_cons, List.map_nil, List.flatten_cons, List.flatten_nil, List.append_nil]
              exact hcl.app hcy
      obtain ⟨l, hl, hwf, vs, hvs, hcell, hcl⟩ := key len (Nat.le_refl _)
      refine ⟨l, ⟨by omega, hwf⟩, .one ?_ rfl⟩
      cases l with
      | nil =>
        have : len = 0 := by simpa using hl.symm
        subst this
        exact .emp _ _ _ hcm
      | cons y l =>
        have hpos : 0 < len * n := Nat.mul_pos (by rw [← hl]; simp) h0
        have hc0 := hcell 0 hpos
        have hv0 : vs[0]? = some vs[0] := List.getElem?_eq_getElem (by omega)
        rw [hv0] at hc0
        obtain ⟨hbs, hsp⟩ := cell_block hc0
        obtain ⟨b, off, spot⟩ := a
        simp [Addr.add] at hsp hbs
        subst hsp
        have := VR.list (w := w) (M := fun _ => False) n ((y :: l).map F) b off cap vs (by simp; simp at hl; omega) hcm (fun h => h) hbs (fun cs hcs => by
          obtain ⟨x, _, rfl⟩ := List.mem_map.1 hcs; exact he.len x) hcl.1 (fun k v hk => by
            have hlt : k < len * n := by rw [← hvs]; exact (List.getElem?_eq_some_iff.1 hk).1
            have := hcell k hlt
            rw [hk, Addr.add_lit] at this
            exact this) (fun k v hk => by
            have hlt : k < ((y :: l).map F).flatten.length := by rw [hcl.1]; exact (List.getElem?_eq_some_iff.1 hk).1
            exact (hcl.2 k _ v (List.getElem?_eq_getElem hlt) hk).2) (fun k a v ha hv => (hcl.2 k a v ha hv).1)
        rw [List.length_map, hl] at this
        exact this⟩

/-- the fields of a struct, one behind the other -/
structure RdF (P : Program) (fs : List Field) (off : Nat) (n : Nat) {α : Type} (F : α → List A) (wf : α → Prop) : Prop where
  len : ∀ x, (F x).length = n
  rd : ∀ (H : Type) (enc : TypeId × Value → H) (w : World) (base : Nat) (spare : Nat → Bool) (held : Bool) (fuel : Nat) (cs : List Value) (xs : List (DataW H × List MemPlace)), cs.length = off + n →
    xs.length = fs.length → (∀ (i : Nat) (f : Field), fs[i]? = some f → DataW.trod enc P w base spare held fuel f.type ((cs.drop f.offset).take (P.cellsOf f.type)) = xs[i]?) → ∃ y, wf y ∧ Cl w (F y) (cs.drop off)

theorem RdF.n {off : Nat} : RdF P [] off 0 (fun _ : Unit => []) (fun _ => True) :=
  ⟨fun _ => rfl, fun H enc w base spare held fuel cs xs hl _ _ => ⟨(), trivial, by
    rw [List.drop_eq_nil_of_le (by omega)]; exact ⟨rfl, by simp⟩⟩⟩
theorem RdF.c {f : Field} {fs : List Field} {off n m : Nat} {α β : Type} {F : α → List A} {wf : α → Prop} {G : β → List A} {wg : β → Prop} (ho : f.offset = off) (h : Rd P f.type n F wf) (hr : RdF P fs (off + n) m G wg) :
    RdF P (f :: fs) off (n + m) (fun p : α × β => F p.1 ++ G p.2) (fun p => wf p.1 ∧ wg p.2) :=
  ⟨fun x => by simp [h.len, hr.len], fun H enc w base spare held fuel cs xs hl hxs hall => by
    cases xs with
    | nil => simp at hxs
    | cons x xs =>
      have h1 := hall 0 f rfl
      simp only [List.getElem?_cons_zero] at h1
      rw [h.cn, ho] at h1
      obtain ⟨y, hy, hc⟩ := h.rd H enc w base spare held fuel _ _ h1
      obtain ⟨z, hz, hc2⟩ := hr.rd H enc w base spare held fuel cs xs (by omega) (by simpa using hxs) (fun i g hg => by simpa using hall (i + 1) g (by simpa using hg))
      refine ⟨(y, z), ⟨hy, hz⟩, ?_⟩
      have := hc.app hc2
      rw [← List.drop_drop, List.take_append_drop] at this
      exact this⟩

theorem rd_struct {t : TypeId} {n : Nat} {α : Type} {F : α → List A} {wf : α → Prop} {fs : Array Field} (ht : P.underlying t = some (.struct fs)) (h : RdF P fs.toList 0 n F wf) (hn : P.cellsOf t = n) : Rd P t n F wf :=
  ⟨hn, h.len, fun H enc w base spare held fuel cs x hx => by
    obtain ⟨xs, m, rfl, _, hl, hxs, hall⟩ := DataW.trod_struct ht hx
    obtain ⟨y, hy, hc⟩ := h.rd H enc w base spare held m cs xs (by omega) (by simpa using hxs) (fun i f hf => hall i f (by simpa using hf))
    exact ⟨y, hy, by simpa using hc⟩⟩

/-- the arguments -/
def RdA (P : Program) (ts : List TypeId) {α : Type} (args : α → List V) (wf : α → Prop) : Prop :=
  ∀ (H : Type) (enc : TypeId × Value → H) (W : World) (base : Nat) (vs : List Value) (ds : List (DataW H)) (ps : List MemPlace) (spare : Nat → Bool), DataW.TrodAll enc P W 0 spare true ts vs ds ps →
    (∀ (j : Nat) t v, ts[j]? = some t → vs[j]? = some v → Value.okWide P W .any base t v) →
    ∃ y, wf y ∧ (args y).length = vs.length ∧ ∀ (hd : Nat → Value) (i : Nat) (x : V) (v : Value), (args y)[i]? = some x → vs[i]? = some v → VV W (fun _ => False) hd x v

theorem RdA.n : RdA P [] (fun _ : Unit => []) (fun _ => True) := fun H enc W base vs ds ps spare h _ => by
  obtain ⟨rfl, rfl, rfl⟩ := trodAll_nil h
  exact ⟨(), trivial, rfl, by simp⟩

theorem RdA.cons {t : TypeId} {ts : List TypeId} {α β : Type} {a : α → A} {wf : α → Prop} {args : β → List V} {wg : β → Prop}
    (h : ∀ (H : Type) (enc : TypeId × Value → H) (W : World) (base : Nat) (v : Value) (d : DataW H) (p : List MemPlace) (spare : Nat → Bool), DataW.Trod enc P W 0 spare true t v d p → Value.okWide P W .any base t v → ∃ y, wf y ∧ VR W (fun _ => False) (a y) v)
    (hr : RdA P ts args wg) : RdA P (t :: ts) (fun p : α × β => .ro (a p.1) :: args p.2) (fun p => wf p.1 ∧ wg p.2) := fun H enc W base vs ds ps spare hA hok => by
  obtain ⟨v0, vs0, d0, ds0, p0, q0, rfl, rfl, rfl, h0, r0⟩ := trodAll_cons hA
  obtain ⟨y, hy, hv⟩ := h H enc W base v0 d0 p0 spare h0 (hok 0 t v0 rfl rfl)
  obtain ⟨z, hz, hl, hvs⟩ := hr H enc W base vs0 ds0 q0 spare r0 (fun j t v hj hv => hok (j + 1) t v (by simpa using hj) (by simpa using hv))
  refine ⟨(y, z), ⟨hy, hz⟩, by simp [hl], fun hd i x v hi hv' => ?_⟩
  cases i with
  | zero => simp at hi hv'; subst hi; subst hv'; exact .ro _ _ hv
  | succ i => exact hvs hd i x v (by simpa using hi) (by simpa using hv')

/-- a type of one cell -/
def oneC (P : Program) (t : TypeId) : Bool := match P.underlying t with | some (.int _) | some .bool | some .string | some (.slice _) => true | _ => false

theorem RdA.one {t : TypeId} {ts : List TypeId} {α β : Type} {a : α → A} {wf : α → Prop} {args : β → List V} {wg : β → Prop} (ht : oneC P t = true) (h : Rd P t 1 (fun x => [a x]) wf) (hr : RdA P ts args wg) :
    RdA P (t :: ts) (fun p : α × β => .ro (a p.1) :: args p.2) (fun p => wf p.1 ∧ wg p.2) :=
  .cons (fun H enc W base v d p spare htr hok => by
    obtain ⟨fuel, hd⟩ := htr
    obtain ⟨y, hy, hc⟩ := h.rd H enc W 0 spare true fuel _ _ hd
    refine ⟨y, hy, ?_⟩
    have hv : v.cells.toList = [v] := by
      unfold oneC at ht
      unfold Value.okWide at hok
      split at ht
      case h_5 => cases ht
      all_goals
        rename_i hu
        rw [hu] at hok
        simp only [Cell.okWide, hu, Cell.ok] at hok
        cases v <;> first | rfl | (exfalso; simp at hok)
    rw [hv] at hc
    exact (hc.2 0 _ _ rfl rfl).1) hr

theorem RdA.str {t : TypeId} {ts : List TypeId} {n : Nat} {α β : Type} {F : α → List A} {wf : α → Prop} {args : β → List V} {wg : β → Prop} {fs : Array Field} (ht : P.underlying t = some (.struct fs)) (h : Rd P t n F wf) (hr : RdA P ts args wg) :
    RdA P (t :: ts) (fun p : α × β => .ro (.agg (F p.1)) :: args p.2) (fun p => wf p.1 ∧ wg p.2) :=
  .cons (fun H enc W base v d p spare htr hok => by
    obtain ⟨fuel, hd⟩ := htr
    obtain ⟨y, hy, hc⟩ := h.rd H enc W 0 spare true fuel _ _ hd
    unfold Value.okWide at hok
    rw [ht] at hok
    obtain ⟨cs, rfl, _⟩ := hok
    refine ⟨y, hy, ?_⟩
    have hc' : Cl W (F y) cs.toList := hc
    exact .agg (F y) cs.toList hc'.1 (fun i v hv => by
      have hlt : i < (F y).length := by rw [hc'.1]; exact (List.getElem?_eq_some_iff.1 hv).1
      exact (hc'.2 i _ v (List.getElem?_eq_getElem hlt) hv).2) (fun i a v ha hv => (hc'.2 i a v ha hv).1)) hr

theorem trodAll_stay {H : Type} {enc : TypeId × Value → H} (hl : laidOutB P = true) {W W' : World} (hb : Below W.heap.size W W') : ∀ {ts : List TypeId} {vs : List Value} {ds : List (DataW H)} {ps : List MemPlace},
    (∀ t, t ∈ ts → P.readableRec t = true ∧ t < P.types.size) → (∀ x, x ∈ ps → x.block < W.heap.size) → DataW.TrodAll enc P W 0 (fun _ => true) true ts vs ds ps →
      DataW.TrodAll enc P W' 0 (fun b => decide (b < W.heap.size)) true ts vs ds ps
  | [], vs, ds, ps, _, _, h => by
    obtain ⟨rfl, rfl, rfl⟩ := trodAll_nil h
    exact trodAll_mk0
  | t :: ts, vs, ds, ps, hr, hlt, h => by
    obtain ⟨v0, vs0, d0, ds0, p0, q0, rfl, rfl, rfl, h0, r0⟩ := trodAll_cons h
    exact ⟨p0, q0, Below.trod hl (hr t (by simp)).1 (hr t (by simp)).2 h0 hb (fun x hx => hlt x (by simp [hx])),
      trodAll_stay hl hb (fun t ht => hr t (by simp [ht])) (fun x hx => hlt x (by simp [hx])) r0, rfl⟩

theorem trodAll_dlen {H : Type} {enc : TypeId × Value → H} {W : World} {sp : Nat → Bool} : ∀ {ts : List TypeId} {vs : List Value} {ds : List (DataW H)} {ps : List MemPlace}, DataW.TrodAll enc P W 0 sp true ts vs ds ps → ds.length = ts.length
  | [], vs, ds, ps, h => by
    obtain ⟨rfl, rfl, rfl⟩ := trodAll_nil h
    rfl
  | t :: ts, vs, ds, ps, h => by
    obtain ⟨v0, vs0, d0, ds0, p0, q0, rfl, rfl, rfl, h0, r0⟩ := trodAll_cons h
    simp [trodAll_dlen r0]

/-- A LAW: what is handed in reads as it did, and 'true' comes back. -/
theorem law_contract {f : FuncId} {fn : Func} {s : ChangeSpec} {ts : List TypeId} {tb : TypeId} {α : Type} {args : α → List V} {wf : α → Prop} (hl : laidOutB P = true) (hp : fn.params.toList = ts) (hr : fn.resultTypes = #[tb]) (hb : P.underlying tb = some .bool)
    (hread : ts.all (fun t => P.readableRec t && Nat.blt t P.types.size) = true) (hs : s.vars = []) (hfn : ∀ (H : Type) (ds : List (DataW H)), ds.length = ts.length → s.fn H ds = { results := [.lit (.bool true)], args := ds })
    (hR : RdA P ts args wf) (hAC : ∀ y, wf y → AC P f (args y) (.ro (.bool true)) [])
    (H : Type) (enc : TypeId × Value → H) (W : World) (base : Nat) (argv : Array Value) (ds gs : List (DataW H)) (before : List MemPlace)
    (hval : ∀ (j : Nat) t v, fn.params[j]? = some t → argv[j]? = some v → Value.okWide P W .any base t v)
    (hW : DataW.Whole enc P fn.params.toList s.vars false W argv.toList ds gs before) :
    Calls P f argv W fun e W' => ∃ v, e = .returned v ∧ s.post enc P fn false true false false W argv v W' := by
  have hW' := hW
  obtain ⟨p, q, hA, hV, rfl, hfz, hnd⟩ := hW
  rw [hs] at hV
  obtain ⟨rfl, rfl⟩ := trodVars_none hV
  rw [hp] at hA
  obtain ⟨y, hy, hlen, hvv⟩ := hR H enc W base argv.toList ds p _ hA (fun j t v hj hv => hval j t v (by rw [← hp] at hj; simpa using hj) (by simpa using hv))
  have hc := hAC y hy W (fun _ => False) (fun _ h => h.elim) (fun _ => default) argv.toList hlen (fun i x v hi hv => hvv _ i x v hi hv)
  refine hc.mono fun e w' hpost => ?_
  obtain ⟨v, hd, rfl, hv, hm⟩ := hpost
  have hvb : v = .bool true := hv.bool_inv
  subst hvb
  refine ⟨_, rfl, ?_⟩
  have hbel : Below W.heap.size W w' := ⟨hm.fr.os, hm.fr.tape, hm.fr.output, hm.fr.size, fun k hk => hm.fr.block k hk (fun h => h)⟩
  have hdl : ds.length = ts.length := trodAll_dlen hA
  simp only [List.append_nil] at hW'
  refine ⟨ds, [], p, [], p, [], by simpa using hW', ?_, ?_, ?_, hbel.frame _, fun h => by cases h⟩
  · rw [List.append_nil, hfn H ds hdl, hr]
    exact trodAll_cons_mk (shut_bool hb _) trodAll_mk0
  · rw [List.append_nil, hfn H ds hdl, hp]
    exact trodAll_stay hl hbel (fun t ht => by
      have := List.all_eq_true.1 hread t ht
      simp only [Bool.and_eq_true] at this
      exact ⟨this.1, Nat.blt_eq.mp this.2⟩) (fun x hx => by simpa using hW'.lt x (by simpa using hx)) hA
  · rw [List.append_nil, hfn H ds hdl, hs]
    exact rfl

end Xb
