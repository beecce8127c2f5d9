/- Own text: Core11. -/
import Derived.Test.YtemfkddlidfbfaaGreatCore10
set_option linter.all false
set_option linter.unusedVariables false
set_option linter.unusedSimpArgs false
set_option linter.unnecessarySimpa false
set_option linter.deprecated false
/-! Lists: parts of lists and texts, literals, conversions. -/
namespace Xb
open Go

/-- l[a:b] -/
def sub {α : Type} (l : List α) (a b : Int) : Option (List α) := if 0 ≤ a ∧ a ≤ b ∧ b ≤ l.length then some ((l.drop a.toNat).take (b.toNat - a.toNat)) else none
theorem sub_eq {α : Type} {l q : List α} {a b : Int} (h : sub l a b = some q) : 0 ≤ a ∧ a ≤ b ∧ b ≤ l.length ∧ q = (l.drop a.toNat).take (b.toNat - a.toNat) := by
  unfold sub at h
  split at h
  · rename_i hc; exact ⟨hc.1, hc.2.1, hc.2.2, (Option.some.inj h).symm⟩
  · cases h

theorem drop_flatten {sz : Nat} : ∀ {l : List (List A)} (n : Nat), (∀ cs, cs ∈ l → cs.length = sz) → (l.drop n).flatten = l.flatten.drop (n * sz)
  | [], n, _ => by simp
  | x :: l, 0, _ => by simp
  | x :: l, n + 1, h => by
    have hx := h x (by simp)
    simp only [List.drop_succ_cons, List.flatten_cons]
    rw [drop_flatten n (fun cs hc => h cs (by simp [hc])), Nat.add_mul, List.drop_append]
    have e1 : x.drop (n * sz + 1 * sz) = [] := List.drop_eq_nil_of_le (by omega)
    rw [e1, List.nil_append]
    congr 1
    omega

theorem take_flatten {sz : Nat} : ∀ {l : List (List A)} (n : Nat), (∀ cs, cs ∈ l → cs.length = sz) → (l.take n).flatten = l.flatten.take (n * sz)
  | [], n, _ => by simp
  | x :: l, 0, _ => by simp
  | x :: l, n + 1, h => by
    have hx := h x (by simp)
    simp only [List.take_succ_cons, List.flatten_cons]
    rw [take_flatten n (fun cs hc => h cs (by simp [hc])), Nat.add_mul, List.take_append]
    have e1 : x.take (n * sz + 1 * sz) = x := List.take_of_length_le (by omega)
    rw [e1]
    congr 2
    omega

theorem VR.sub {w : World} {M : Nat → Prop} {sz : Nat} {l : List (List A)} {v : Value} (h : VR w M (.list sz l) v) {a b : Nat} (hab : a ≤ b) (hb : b ≤ l.length) :
    ∃ o cap, v = .slice o l.length cap ∧ l.length ≤ cap ∧ cap ≤ maxLen ∧
      VR w M (.list sz ((l.drop a).take (b - a))) (.slice (if cap = a then o else o.map (·.add (a * sz))) (b - a) (cap - a)) := by
  have hlen : ((l.drop a).take (b - a)).length = b - a := by rw [List.length_take, List.length_drop]; omega
  cases h with
  | emp _ o cap hc =>
    simp only [List.length_nil] at hb hlen ⊢
    obtain rfl : b = 0 := by omega
    obtain rfl : a = 0 := by omega
    exact ⟨o, cap, rfl, Nat.zero_le _, hc, by simpa using VR.emp (w := w) (M := M) sz _ cap hc⟩
  | list _ _ bl off cap vs h1 h2 hM hbl hs hl hc ho hv =>
    refine ⟨some ⟨bl, off, none⟩, cap, rfl, h1, h2, ?_⟩
    by_cases h0 : b - a = 0
    · have : (l.drop a).take (b - a) = [] := by rw [h0]; simp
      rw [this, h0]
      exact .emp _ _ _ (by omega)
    · rw [if_neg (by omega)]
      simp only [Option.map_some, Addr.add_lit]
      have key := VR.list (w := w) (M := M) sz ((l.drop a).take (b - a)) bl (off + a * sz) (cap - a) ((vs.drop (a * sz)).take ((b - a) * sz)) (by omega) (by omega) hM hbl
        (fun cs hcs => hs cs (List.mem_of_mem_drop (List.mem_of_mem_take hcs)))
        (by rw [take_flatten _ (fun cs hcs => hs cs (List.mem_of_mem_drop hcs)), drop_flatten _ hs, List.length_take, List.length_take, List.length_drop, List.length_drop, hl])
        (fun k v hk => by
          rw [List.getElem?_take] at hk
          split at hk
          case isFalse => cases hk
          rw [List.getElem?_drop] at hk
          rw [Nat.add_assoc]; exact hc _ v hk)
        (fun k v hk => by
          rw [List.getElem?_take] at hk
          split at hk
          case isFalse => cases hk
          rw [List.getElem?_drop] at hk
          exact ho _ v hk)
        (fun k x v hx hk => by
          rw [take_flatten _ (fun cs hcs => hs cs (List.mem_of_mem_drop hcs)), drop_flatten _ hs, List.getElem?_take] at hx
          rw [List.getElem?_take] at hk
          split at hk
          case isFalse => cases hk
          rw [if_pos ‹_›] at hx
          rw [List.getElem?_drop] at hk hx
          exact hv _ x v hx hk)
      rwa [hlen] at key

/-- an operand that may lack: its value, or the other one -/
inductive EvO (S : St) : Option Operand → Int → Int → List (Nat × V) → Prop
  | n {dflt : Int} : EvO S none dflt dflt []
  | s {x : Operand} {k : IntKind} {n dflt : Int} {rs : List (Nat × V)} (h : Er S x (.ro (.int k n)) rs) : EvO S (some x) dflt n rs

theorem EvO.rd {S : St} {x : Option Operand} {dflt n : Int} {rs : List (Nat × V)} (h : EvO S x dflt n rs) : ∀ p, p ∈ rs → S.gs p.1 = some p.2 := by
  cases h with
  | n => simp
  | s h => exact h.rd
theorem EvO.of {S S' : St} {x : Option Operand} {dflt n : Int} {rs : List (Nat × V)} (h : EvO S x dflt n rs) (hr : ∀ p, p ∈ rs → S'.gs p.1 = some p.2) : EvO S' x dflt n rs := by
  cases h with
  | n => exact .n
  | s h => exact .s (h.of hr)
theorem EvO.vv {C : Ctx} {S : St} {hd : Nat → Value} {a : Act} {w : World} {x : Option Operand} {dflt n : Int} {rs : List (Nat × V)} (hs : Sat' C S hd a w) (h : EvO S x dflt n rs) :
    (x = none ∧ n = dflt) ∨ ∃ y k, x = some y ∧ a.eval y = .int k n := by
  cases h with
  | n => exact .inl ⟨rfl, rfl⟩
  | s h => exact .inr ⟨_, _, rfl, (h.vv hs).int_inv.1⟩

section
variable {P : Program} {w : World}

theorem run_bounds {isS : Bool} {len cap : Nat} {lo hi : Option Value} {a b : Int} (hlo : (lo = none ∧ a = 0) ∨ ∃ k, lo = some (.int k a)) (hhi : (hi = none ∧ b = len) ∨ ∃ k, hi = some (.int k b))
    (h0 : 0 ≤ a) (hab : a ≤ b) (hb : b ≤ cap) : (Instr.sliceBounds isS len cap lo hi none).run P w = .ok (a.toNat, b.toNat, cap) w := by
  have hb0 : 0 ≤ b := by omega
  have e : (b.toNat : Int) = b := by omega
  rcases hlo with ⟨rfl, rfl⟩ | ⟨k, rfl⟩ <;> rcases hhi with ⟨rfl, rfl⟩ | ⟨k', rfl⟩ <;>
    simp [Instr.sliceBounds, Instr.sliceBound, asIntOf, h0, hab, hb, hb0, e]

end

section
variable {P : Program} {ops : Array Oper} {S S' : St} {os : List Oper} {es : List Eff}
variable {d : Option Nat} {ty : TypeId} {pos : String} {af : Array Edge} 

theorem opt_eval {C : Ctx} {hd : Nat → Value} {a : Act} {w : World} {x : Option Operand} {dflt n : Int} {rs : List (Nat × V)} (hs : Sat' C S hd a w) (h : EvO S x dflt n rs) :
    (x.map a.eval = none ∧ n = dflt) ∨ ∃ k, x.map a.eval = some (.int k n) := by
  rcases h.vv hs with ⟨rfl, e⟩ | ⟨y, k, rfl, e⟩
  · exact .inl ⟨rfl, e⟩
  · exact .inr ⟨k, by simp [e]⟩

/-- a part of a list -/
theorem sl {α : Type} {F : α → List A} {t e : TypeId} {sz : Nat} {x : Operand} {lo hi : Option Operand} {a b : Int} {r0 r1 r2 : List (Nat × V)} {l q : List α} (hT : SF P t e sz)
    (hx : Er S x (.ro (.list sz (l.map F))) r0) (hlo : EvO S lo 0 a r1) (hhi : EvO S hi l.length b r2) (hq : sub l a b = some q) :
    OpV P S (.slice t x lo hi none) (r0 ++ (r1 ++ r2)) [] (.ro (.list sz (q.map F))) := by
  obtain ⟨h0, hab, hb, rfl⟩ := sub_eq hq
  refine ⟨mem_app hx.rd (mem_app hlo.rd hhi.rd), fun _ h => (List.not_mem_nil h).elim, fun C S2 hd ac w d ty pos af g hs h2 _ => ?_⟩
  have e1 := ((hx.of fun p hp => h2 p (List.mem_append_left _ hp)).vv hs).ro_of
  have e2 := opt_eval hs (hlo.of fun p hp => h2 p (List.mem_append_right _ (List.mem_append_left _ hp)))
  have e3 := opt_eval hs (hhi.of fun p hp => h2 p (List.mem_append_right _ (List.mem_append_right _ hp)))
  obtain ⟨o, cap, hv, hlc, hcm, hvr⟩ := e1.sub (a := a.toNat) (b := b.toNat) (by omega) (by simp; omega)
  have hv' : ac.eval x = .slice o l.length cap := by simpa using hv
  have hlc' : l.length ≤ cap := by simpa using hlc
  refine ⟨_, ?_, .ro _ _ (by rw [List.map_take, List.map_drop]; exact hvr)⟩
  simp only [execOp, Instr.sliceAt, Instr.slice, Sem.run_bind, run_underlying hT.u, Result.andThen_ok, hv', Option.map_none, run_bounds e2 e3 h0 hab (show b ≤ (cap : Int) by omega), hT.run_sizeOf, Sem.run_pure]

/-- a part of a text -/
theorem slt {t : TypeId} {x : Operand} {lo hi : Option Operand} {a b : Int} {r0 r1 r2 : List (Nat × V)} {l q : List UInt8} (hT : P.underlying t = some .string)
    (hx : Er S x (.ro (.str l)) r0) (hlo : EvO S lo 0 a r1) (hhi : EvO S hi l.length b r2) (hq : sub l a b = some q) :
    OpV P S (.slice t x lo hi none) (r0 ++ (r1 ++ r2)) [] (.ro (.str q)) := by
  obtain ⟨h0, hab, hb, rfl⟩ := sub_eq hq
  refine ⟨mem_app hx.rd (mem_app hlo.rd hhi.rd), fun _ h => (List.not_mem_nil h).elim, fun C S2 hd ac w d ty pos af g hs h2 _ => ?_⟩
  obtain ⟨e1, hm⟩ := ((hx.of fun p hp => h2 p (List.mem_append_left _ hp)).vv hs).str_inv
  have e2 := opt_eval hs (hlo.of fun p hp => h2 p (List.mem_append_right _ (List.mem_append_left _ hp)))
  have e3 := opt_eval hs (hhi.of fun p hp => h2 p (List.mem_append_right _ (List.mem_append_right _ hp)))
  have hsz : (ByteArray.mk l.toArray).size = l.length := by simp [ByteArray.size]
  have hx : (ByteArray.mk l.toArray).extract a.toNat b.toNat = ⟨((l.drop a.toNat).take (b.toNat - a.toNat)).toArray⟩ := by
    apply ByteArray.ext
    simp only [ByteArray.data_extract]
    apply Array.ext'
    simp [List.extract_eq_take_drop]
  refine ⟨.string ⟨((l.drop a.toNat).take (b.toNat - a.toNat)).toArray⟩, ?_, .ro _ _ (.str _ (by rw [List.length_take, List.length_drop]; omega))⟩
  simp only [execOp, Instr.sliceAt, Instr.slice, Sem.run_bind, run_underlying hT, Result.andThen_ok, e1, Option.map_none, Option.isSome_none, Bool.false_eq_true, if_false, hsz,
    run_bounds e2 e3 h0 hab hb, Sem.run_pure, hx]

end

/-! literals -/

/-- the parts of a literal list, one behind the other -/
inductive Parts (S : St) : Nat → List (Nat × Operand) → List (List A) → List (Nat × V) → Prop
  | n {i : Nat} : Parts S i [] [] []
  | c {i : Nat} {x : Operand} {v : V} {cs : List A} {ps : List (Nat × Operand)} {l : List (List A)} {r rs : List (Nat × V)} (h : Er S x v r) (hc : cellsV v = some (cs.map .ro)) (hp : Parts S (i + 1) ps l rs) :
      Parts S i ((i, x) :: ps) (cs :: l) (r ++ rs)

theorem Parts.rd {S : St} {i : Nat} {ps : List (Nat × Operand)} {l : List (List A)} {rs : List (Nat × V)} (h : Parts S i ps l rs) : ∀ p, p ∈ rs → S.gs p.1 = some p.2 := by
  induction h with
  | n => simp
  | c h _ _ ih => exact mem_app h.rd ih
theorem Parts.of {S S' : St} {i : Nat} {ps : List (Nat × Operand)} {l : List (List A)} {rs : List (Nat × V)} (h : Parts S i ps l rs) (hr : ∀ p, p ∈ rs → S'.gs p.1 = some p.2) : Parts S' i ps l rs := by
  induction h with
  | n => exact .n
  | c h hc _ ih => exact .c (h.of fun p hp => hr p (List.mem_append_left _ hp)) hc (ih fun p hp => hr p (List.mem_append_right _ hp))

theorem foldl_set {cells : Array Value} {off : Nat} {vs : List Value} (h : off + vs.length ≤ cells.size) :
    ((⟨vs⟩ : Array Value).zipIdx.foldl (fun cs (c, j) => cs.setIfInBounds (off + j) c) cells) = (cells.toList.take off ++ vs ++ cells.toList.drop (off + vs.length)).toArray := by
  have gen : ∀ (vs : List Value) (k : Nat) (cells : Array Value), off + k + vs.length ≤ cells.size →
      (vs.zipIdx k).foldl (fun cs (p : Value × Nat) => cs.setIfInBounds (off + p.2) p.1) cells = (cells.toList.take (off + k) ++ vs ++ cells.toList.drop (off + k + vs.length)).toArray := by
    intro vs
    induction vs with
    | nil => intro k cells _; simp
    | cons v vs ih =>
      intro k cells hk
      simp only [List.length_cons] at hk
      simp only [List.zipIdx_cons, List.foldl_cons]
      rw [ih (k + 1) _ (by simp; omega)]
      congr 1
      simp only [Array.toList_setIfInBounds]
      apply List.ext_getElem?
      intro i
      have hlen : cells.toList.length = cells.size := Array.length_toList
      rw [show off + (k + 1) + vs.length = off + (k + 1) + vs.length from rfl]
      have e1 := splice_get (n := off + (k + 1)) (cs := cells.toList.set (off + k) v) (xs := vs) (by simp; omega) i
      have e2 := splice_get (n := off + k) (cs := cells.toList) (xs := v :: vs) (by simp; omega) i
      rw [e1]
      simp only [List.length_cons] at e2
      rw [show off + k + (v :: vs).length = off + k + (vs.length + 1) by simp, e2]
      by_cases h1 : i < off + k
      · rw [if_pos (by omega), if_pos h1, List.getElem?_set_ne (by omega)]
      · rw [if_neg h1]
        by_cases h2 : i = off + k
        · subst h2
          rw [if_pos (by omega), if_pos (by omega), List.getElem?_set_self (by omega)]
          simp
        · rw [if_neg (by omega)]
          by_cases h3 : i < off + (k + 1) + vs.length
          · rw [if_pos h3, if_pos (by omega)]
            have : i - (off + k) = (i - (off + (k + 1))) + 1 := by omega
            rw [this]; simp
          · rw [if_neg h3, if_neg (by omega), List.getElem?_set_ne (by omega)]
  have := gen vs 0 cells (by omega)
  simp only [Nat.add_zero] at this
  rw [← this]
  have e : (⟨vs⟩ : Array Value).zipIdx = (vs.zipIdx).toArray := by
    apply Array.ext'
    refine List.ext_getElem? fun i => ?_
    simp [List.getElem?_mapIdx, List.getElem?_zipIdx]
  rw [e]
  simp

theorem fill_parts {C : Ctx} {S : St} {hd : Nat → Value} {a : Act} {w : World} (hs : Sat' C S hd a w) {sz : Nat} {i : Nat} {ps : List (Nat × Operand)} {l : List (List A)} {rs : List (Nat × V)} (h : Parts S i ps l rs) :
    (∀ cs, cs ∈ l → cs.length = sz) → ∀ (cells : Array Value), i * sz + l.length * sz ≤ cells.size →
      ∃ vs : List Value, vs.length = l.length * sz ∧ (∀ (k : Nat) (v : Value), vs[k]? = some v → v.oneCell' = true) ∧ (∀ (k : Nat) (x : A) (v : Value), l.flatten[k]? = some x → vs[k]? = some v → VR w (MM C S hd) x v) ∧
        Instr.fill (fun i => some (i * sz, sz)) cells (ps.map fun p => (p.1, a.eval p.2)) = some (cells.toList.take (i * sz) ++ vs ++ cells.toList.drop (i * sz + vs.length)).toArray := by
  induction h with
  | n => intro _ cells _; exact ⟨[], by simp, by simp, by simp, by simp [Instr.fill]⟩
  | @c i x v cs ps l r rs hx hc hp ih =>
    intro hl cells hsz
    obtain ⟨us, hus, hlu, hou, hvu⟩ := (hx.vv hs).cells hc
    have hcs := hl cs (by simp)
    have hlen : us.length = sz := by rw [← hlu]; simpa using hcs
    simp only [List.length_cons, Nat.add_mul, Nat.one_mul] at hsz
    let cells' : Array Value := (cells.toList.take (i * sz) ++ us ++ cells.toList.drop (i * sz + us.length)).toArray
    have hsize : cells'.size = cells.size := by simp [cells']; omega
    obtain ⟨vs, h1, h2, h3, h4⟩ := ih (fun cs h => hl cs (by simp [h])) cells' (by rw [hsize, Nat.add_mul]; omega)
    refine ⟨us ++ vs, by simp [h1, hlen, Nat.add_mul]; omega, one_append hou h2, ?_, ?_⟩
    · intro k y v hy hk
      simp only [List.flatten_cons] at hy
      by_cases hki : k < us.length
      · rw [List.getElem?_append_left (by omega)] at hy
        rw [List.getElem?_append_left hki] at hk
        exact (hvu k (.ro y) v (by simp [hy]) hk).ro_of
      · rw [List.getElem?_append_right (by omega)] at hy
        rw [List.getElem?_append_right (by omega)] at hk
        rw [show cs.length = us.length by omega] at hy
        exact h3 _ y v hy hk
    · simp only [List.map_cons, Instr.fill]
      have hus' : (a.eval x).cells = us.toArray := hus
      rw [hus']
      simp only [List.size_toArray, hlen, ne_eq, not_true, decide_false, Bool.false_or]
      have hle : ¬ (i * sz + sz > cells.size) := by omega
      rw [if_neg (by simpa using hle)]
      have hf := foldl_set (cells := cells) (off := i * sz) (vs := us) (by omega)
      rw [show (us.toArray : Array Value) = ⟨us⟩ from rfl, hf, h4]
      congr 2
      simp only [cells', Nat.add_mul, Nat.one_mul]
      have e1 : (cells.toList.take (i * sz) ++ us ++ cells.toList.drop (i * sz + us.length)).take (i * sz + sz) = cells.toList.take (i * sz) ++ us := by
        rw [List.take_append_of_le_length (by simp; omega)]
        exact List.take_of_length_le (by simp; omega)
      have e2 : (cells.toList.take (i * sz) ++ us ++ cells.toList.drop (i * sz + us.length)).drop (i * sz + sz + vs.length) = cells.toList.drop (i * sz + (us ++ vs).length) := by
        rw [List.drop_append, List.drop_eq_nil_of_le (by simp; omega), List.nil_append, List.drop_drop]
        congr 1
        simp; omega
      rw [e1, e2]
      simp

section
variable {P : Program} {ops : Array Oper} {S S' : St} {os : List Oper} {es : List Eff}
variable {d : Option Nat} {ty : TypeId} {pos : String} {af : Array Edge} 

/-- a literal list: new, one's own -/
theorem bs {α : Type} {F : α → List A} (id : Nat) {t e : TypeId} {sz n : Nat} {ps : Array (Nat × Operand)} {l : List α} {rs : List (Nat × V)} (hP : PF P t e sz)
    (hp : Parts S 0 ps.toList (l.map F) rs) (hn : Nat.beq n l.length = true) (hs : ∀ x, x ∈ l → (F x).length = sz) (hb : Nat.ble (n * sz) 1000000 = true) (hf : S.free id = true)
    (D : Der P ops ((me (rs) [] (.own id) [(id, some (.arr e sz (l.map F)))] [id]).app d S) os es S') :
    Der P ops S (⟨d, .buildSlice t n ps, ty, pos, af, none⟩ :: os) (me (rs) [] (.own id) [(id, some (.arr e sz (l.map F)))] [id] :: es) S' := by
  obtain rfl := Nat.eq_of_beq_eq_true hn
  have hb := Nat.le_of_ble_eq_true hb
  refine .cons (Trip.new (o := ⟨d, .buildSlice t l.length ps, ty, pos, af, none⟩) rfl fun C S2 hd a w hsat h2 hf2 => ?_)
    (pre_me hp.rd (fun _ h => (List.not_mem_nil h).elim) (by simp; exact hf)) D
  obtain ⟨i, z, hi, hz, hsz, hzs, hpos, hby⟩ := hP.i
  have hp2 := hp.of h2
  have hls : ∀ cs, cs ∈ l.map F → cs.length = sz := fun cs hcs => by
    obtain ⟨x, hx, rfl⟩ := List.mem_map.1 hcs
    exact hs x hx
  let zero : Array Value := if l.length * sz = 0 then #[] else z.cells
  let cells0 : Array Value := (Array.range (l.length * sz)).map (zero[· % zero.size]!)
  have hc0 : cells0.size = l.length * sz := by simp [cells0]
  obtain ⟨vs, h1, h3, h4, h5⟩ := fill_parts (sz := sz) hsat hp2 hls cells0 (by simp [hc0])
  have hvs : vs.length = l.length * sz := by simpa using h1
  have hfill : Instr.fill (fun i => some (i * sz, sz)) cells0 (ps.toList.map fun p => (p.1, a.eval p.2)) = some vs.toArray := by
    rw [h5]
    simp only [Nat.zero_mul, List.take_zero, List.nil_append, Nat.zero_add]
    rw [List.drop_eq_nil_of_le (by simp [hvs, hc0])]
    simp
  refine ⟨.slice (some ⟨w.heap.size, 0, none⟩) l.length l.length, w.alloc (.cells vs.toArray e), .slice (some ⟨w.heap.size, 0, none⟩) l.length l.length, ?_, Chg.alloc w _ _, fun b hb => ?_, fun M' hM' => ⟨?_, ?_⟩⟩
  · have hfill' : Instr.fill (fun i => some (i * sz, sz)) cells0 (Array.map (fun x => (x.fst, a.eval x.snd)) ps).toList = some vs.toArray := by simpa using hfill
    have hle : ¬ (l.length * sz > 16777216) := by omega
    by_cases h0 : l.length * sz = 0
    · have hl0 : l = [] := by
        cases l with
        | nil => rfl
        | cons x l => simp [Nat.add_mul] at h0; omega
      subst hl0
      have hps : ps = #[] := by
        have : ps.toList = [] := by
          generalize ps.toList = q at hp2
          cases hp2; rfl
        simpa using this
      subst hps
      have hv0 : vs = [] := List.eq_nil_of_length_eq_zero (by simpa using hvs)
      subst hv0
      simp [execOp, Instr.buildSlice, Sem.run_bind, run_underlying hP.s.u, hP.s.run_sizeOf, newRow, World.alloc_eq, Instr.fill, Array.range_zero']
    · have e0 : cells0 = (Array.range (l.length * sz)).map (z.cells[· % z.cells.size]!) := by simp only [cells0, zero, h0, if_false]
      rw [e0] at hfill
      have hzr : (zeroValue e).run P w = .ok z w := by simp [zeroValue, typeInfo, hi, hz]
      simp [execOp, Instr.buildSlice, Sem.run_bind, run_underlying hP.s.u, hP.s.run_sizeOf, hle, h0, hzr, hfill, newRow, World.alloc_eq]
  · simp [blk] at hb; subst hb; simp
  · have := VV.own (w := w.alloc (.cells vs.toArray e)) (M := M') (hd := updh hd id (.slice (some ⟨w.heap.size, 0, none⟩) l.length l.length)) id (by rw [updh_same]; rfl)
    rwa [updh_same] at this
  · refine .arr e sz (l.map F) vs ⟨by simpa using hvs, .inr ⟨w.heap.size, l.length, vs.toArray, by simp, Nat.zero_le _, heap_alloc_new w _, by simp, ?_, by simp [hvs], by rw [List.length_map]; exact List.take_of_length_le (by simp [hvs])⟩⟩ hls h3
      (fun k x v hx hk => (h4 k x v hx hk).ext (Chg.alloc w _ (fun _ => False)) (fun _ h => h.elim) hM')
    have : l.length ≤ l.length * sz := Nat.le_mul_of_pos_right _ hpos
    unfold maxLen; omega

/-! texts and bytes -/

/-- bytes, as numbers -/
def e8 (n : Int) : List A := [.int .u8 n]
def b2s (l : List Int) : List UInt8 := l.map fun n => UInt8.ofNat n.toNat
def s2b (s : List UInt8) : List Int := s.map fun c => (c.toNat : Int)

/-- bytes to a text -/
theorem bt {t u e : TypeId} {x : Operand} {l : List Int} (hT : SF P t e 1 ∧ P.underlying e = some (.int .u8) ∧ P.underlying u = some .string) {rs : List (Nat × V)} (hx : Er S x (.ro (.list 1 (l.map e8))) rs) :
    OpV P S (.convert t u x) rs [] (.ro (.str (b2s l))) :=
  .one hx (fun w M hd a d ty pos af g h1 => by
    have hr := h1.ro_of
    have hm : l.length ≤ maxLen := by
      generalize a.eval x = v at hr
      generalize hl : A.list 1 (l.map e8) = y at hr
      cases hr <;> simp at hl
      · obtain ⟨_, rfl⟩ := hl; exact Nat.zero_le _
      · rename_i l' b off cap vs h1 h2 _ _ _ _ _ _ _
        obtain ⟨_, rfl⟩ := hl
        simp at h1; omega
    refine ⟨.string ⟨(b2s l).toArray⟩, ?_, .ro _ _ (.str _ (by simp [b2s, hm]))⟩
    obtain ⟨hS, h8, hU⟩ := hT
    have hfl : (l.map e8).flatten = l.map (fun n => A.int .u8 n) := by
      clear hm hr h1 hx
      induction l with
      | nil => rfl
      | cons n l ih => simp [e8] at ih ⊢; exact ih
    have key : (convert t u (a.eval x)).run P w = .ok (.string ⟨(b2s l).toArray⟩) w := by
      generalize a.eval x = v at hr
      generalize hl : A.list 1 (l.map e8) = y at hr
      cases hr <;> simp at hl
      · obtain ⟨_, rfl⟩ := hl
        rename_i o cap hc _
        cases o with
        | none => exact run_convert_bytes_nil (P := P) w t e hS.u h8 0 cap u hU
        | some ad =>
          rw [run_convert_bytes_string w t u e (some ad) 0 cap hS.u h8 hU]
          simp [Conv.bytesToString, loadCells, loadCellsFrom, b2s]
          rfl
      · rename_i l' b off cap vs h1 h2 hM hb hs hlen hc ho hv
        obtain ⟨rfl, rfl⟩ := hl
        rw [hfl] at hlen hv
        have := run_convert_bytes_arg (P := P) w t e hS.u h8 b off l.length cap l rfl (fun i hi => by
          have hi' : i < vs.length := by simp at hlen; omega
          have h3 := hc i vs[i] (List.getElem?_eq_getElem hi')
          have h4 := hv i (.int .u8 l[i]) vs[i] (by simp [hi]) (List.getElem?_eq_getElem hi')
          rw [h3]
          generalize vs[i] = y at h4
          cases h4 with
          | int _ _ _ _ => simp [List.getD, hi]) u hU
        simpa [strOfNums, b2s] using this
    simp only [execOp, Sem.run_bind, key, Result.andThen_ok, Sem.run_pure])

end
end Xb
