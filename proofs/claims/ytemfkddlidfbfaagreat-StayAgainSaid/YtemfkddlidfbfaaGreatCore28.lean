/- Own text: Core28. -/
import Derived.Test.YtemfkddlidfbfaaGreatCore27
set_option linter.all false
set_option linter.unusedVariables false
set_option linter.unusedSimpArgs false
set_option linter.unnecessarySimpa false
set_option linter.deprecated false
/-! Interfaces: made, compared with nil, asserted, called. -/
namespace Xb
open Go

section
variable {P : Program} {ops : Array Oper} {S S' : St} {os : List Oper} {es : List Eff}
variable {d : Option Nat} {ty : TypeId} {pos : String} {af : Array Edge}

/-- data as an interface -/
theorem mki {t : TypeId} {x : Operand} {a : A} {rs : List (Nat × V)} (hc : P.concrete t = true) (hx : Er S x (.ro a) rs) : OpV P S (.makeInterface t x) rs [] (.ro (.ifc t a)) :=
  .one hx (fun w M hd a' d ty pos af g h1 => ⟨.iface t (a'.eval x), by simp only [execOp, Sem.run_bind, run_makeInterface w t (a'.eval x) hc, Result.andThen_ok, Sem.run_pure], .ro _ _ (.ifc t a _ h1.ro_of)⟩)
/-- anything as an interface -/
theorem mkx {t : TypeId} {x : Operand} {y : V} {rs : List (Nat × V)} (hc : P.concrete t = true) (hx : Er S x y rs) : OpV P S (.makeInterface t x) rs [] (.ifc t y) :=
  .one hx (fun w M hd a' d ty pos af g h1 => ⟨.iface t (a'.eval x), by simp only [execOp, Sem.run_bind, run_makeInterface w t (a'.eval x) hc, Result.andThen_ok, Sem.run_pure], .ifc t y _ h1⟩)

def nilA : A → Option Bool
  | .raw .nilIface => some true
  | .ifc _ _ => some false
  | _ => none

/-- is it nil? -/
theorem ifn {op : BinOp} {t u : TypeId} {x : Operand} {a : A} {b q : Bool} {r1 : List (Nat × V)} (hT : ∃ ms, P.underlying t = some (.interface ms)) (hx : Er S x (.ro a) r1) (hb : nilA a = some b) (ho : isEq op = true) (hq : q = eqO op b) :
    OpV P S (.binOp op t x (.const .nilIface) u) r1 [] (.ro (.bool q)) :=
  .one hx fun w M hd a' d ty pos af g h1 => by
    subst hq
    obtain ⟨ms, hms⟩ := hT
    have r := h1.ro_of
    generalize e1 : a'.eval x = vx at *
    have ec : a'.eval (.const .nilIface) = .nilIface := rfl
    refine ⟨.bool (eqO op b), ?_, .ro _ _ (.bool _)⟩
    cases r with
    | raw _ hp =>
      cases vx <;> simp [nilA] at hb
      subst hb
      have he : (Op.equal t .nilIface .nilIface).run P w = .ok true w := by
        have h : ∀ d, (Op.equalIn (d + 1) t .nilIface .nilIface).run P w = .ok true w := fun d => by
          simp [Op.equalIn, run_underlying hms]
        exact h 9999
      cases op <;> simp [isEq] at ho <;> simp [execOp, e1, ec, eqGuard, binOp, he, eqO]
    | ifc t' y v hv =>
      simp [nilA] at hb
      subst hb
      have he : (Op.equal t (.iface t' v) .nilIface).run P w = .ok false w := by
        have h : ∀ d, (Op.equalIn (d + 1) t (.iface t' v) .nilIface).run P w = .ok false w := fun d => by
          simp [Op.equalIn, run_underlying hms]
        exact h 9999
      cases op <;> simp [isEq] at ho <;> simp [execOp, e1, ec, eqGuard, binOp, he, eqO]
    | bool _ => simp [nilA] at hb
    | int _ _ _ _ => simp [nilA] at hb
    | str _ _ => simp [nilA] at hb
    | emp _ _ _ _ => simp [nilA] at hb
    | list _ _ _ _ _ _ _ _ _ _ _ _ _ _ => simp [nilA] at hb
    | agg _ _ _ _ _ => simp [nilA] at hb
    | tup _ _ _ _ => simp [nilA] at hb

/-- what an assertion of a concrete type tells -/
def tasA (T : TypeId) (z : A) : A → Option (A × Bool)
  | .raw .nilIface => some (z, false)
  | .ifc t y => bif Nat.beq t T then some (y, true) else some (z, false)
  | _ => none

theorem tas {xt T : TypeId} {x : Operand} {a z y : A} {b : Bool} {r1 : List (Nat × V)} (hT : ∃ k, P.underlying T = some k ∧ ∀ ms, k ≠ .interface ms) (hZ : ∃ i zv, P.info? T = some i ∧ i.zero = some zv ∧ ∀ w M, VR w M z zv)
    (hx : Er S x (.ro a) r1) (hb : tasA T z a = some (y, b)) : OpV P S (.typeAssert x xt T true) r1 [] (.ro (.tup [y, .bool b])) :=
  .one hx fun w M hd a' d ty pos af g h1 => by
    obtain ⟨k, hk, hnk⟩ := hT
    obtain ⟨i, zv, hi, hz, hzv⟩ := hZ
    have hzr : (zeroValue T).run P w = .ok zv w := by simp [zeroValue, typeInfo, hi, hz]
    have r := h1.ro_of
    have mk : ∀ {v : Value} (b : Bool), VR w M y v → VV w M hd (.ro (.tup [y, .bool b])) (.tuple #[v, .bool b]) := fun {v} b hv => .ro _ _ (.tup _ [v, .bool b] rfl fun i c u hi hu => by
      match i with
      | 0 => simp at hi hu; subst hi; subst hu; exact hv
      | 1 => simp at hi hu; subst hi; subst hu; exact .bool _
      | i + 2 => simp at hi)
    generalize e1 : a'.eval x = vx at *
    cases r with
    | raw _ hp =>
      cases vx <;> simp [tasA] at hb
      obtain ⟨rfl, rfl⟩ := hb
      refine ⟨_, ?_, mk false (hzv w M)⟩
      cases k <;> first
        | exact absurd rfl (hnk _)
        | simp [execOp, e1, Instr.typeAssert, run_underlying hk, hzr]
    | ifc t' y' v hv =>
      simp only [tasA] at hb
      cases hbb : Nat.beq t' T with
      | true =>
        have := Nat.eq_of_beq_eq_true hbb
        subst this
        rw [hbb] at hb; simp at hb
        obtain ⟨rfl, rfl⟩ := hb
        refine ⟨_, ?_, mk true hv⟩
        cases k <;> first
          | exact absurd rfl (hnk _)
          | simp [execOp, e1, Instr.typeAssert, run_underlying hk]
      | false =>
        have hne : t' ≠ T := fun e => by subst e; simp at hbb
        rw [hbb] at hb; simp at hb
        obtain ⟨rfl, rfl⟩ := hb
        refine ⟨_, ?_, mk false (hzv w M)⟩
        cases k <;> first
          | exact absurd rfl (hnk _)
          | simp [execOp, e1, Instr.typeAssert, run_underlying hk, hzr, hne]
    | bool _ => simp [tasA] at hb
    | int _ _ _ _ => simp [tasA] at hb
    | str _ _ => simp [tasA] at hb
    | emp _ _ _ _ => simp [tasA] at hb
    | list _ _ _ _ _ _ _ _ _ _ _ _ _ _ => simp [tasA] at hb
    | agg _ _ _ _ _ => simp [tasA] at hb
    | tup _ _ _ _ => simp [tasA] at hb

/-- who answers, whatever the type -/
def MC (P : Program) (name : String) (x : A) (args : List V) (r : A) : Prop := ∃ t y f, x = .ifc t y ∧ CM P t name f ∧ AC P f (.ro y :: args) (.ro r) []

/-- a method of data -/
theorem cms (gv : List Nat) {x : Operand} {name : String} {xs : Array Operand} {ts : Array TypeId} {a : A} {args : List V} {r : A} {r0 rs : List (Nat × V)} {ro : List (Nat × O)} {bs : List Nat}
    (h0 : Er S x (.ro a) r0) (hC : MC P name a args r) (hx : Ers S xs.toList args rs ro bs) (hb : subB bs gv = true ∨ flatA r = true)
    (D : Der P ops ((⟨[], True, r0 ++ rs, ro, .ro r, gone gv, []⟩ : Eff).app d S) os es S') :
    Der P ops S (⟨d, .call ⟨.invoke x name, xs, ts⟩, ty, pos, af, none⟩ :: os) (⟨[], True, r0 ++ rs, ro, .ro r, gone gv, []⟩ :: es) S' := by
  obtain ⟨t, y, f, rfl, hM, hC⟩ := hC
  exact .cons (Trip.callR (o := ⟨d, .call ⟨.invoke x name, xs, ts⟩, ty, pos, af, none⟩) (bs := bs) (fun _ _ _ _ _ _ _ => by simp [Region.wanted]) gv (fun _ => hC) (hb.imp subB_spec id) (.inl ⟨trivial, rfl⟩)
    (fun _ C S2 hd a w hs h2 h3 => by
      have he := (hx.of (fun p hp => h2 p (List.mem_append_right _ hp)) h3).vv hs bs (fun _ h => h)
      have h4 := ((h0.of fun p hp => h2 p (List.mem_append_left _ hp)).vv hs).ro_of
      obtain ⟨u, e1, hu⟩ : ∃ u, a.eval x = .iface t u ∧ VR w (MM C S2 hd) y u := by
        generalize a.eval x = vx at h4
        cases h4 with
        | ifc _ _ u hu => exact ⟨u, rfl, hu⟩
      refine ⟨u :: xs.toList.map a.eval, run_invoke (ρ := a.eval) e1 hM, by simpa using he.1, fun i z v hz hv => ?_⟩
      cases i with
      | zero =>
        simp at hz hv; subst hz; subst hv
        exact .ro _ _ (hu.ext (Chg.refl w (fun _ => False)) (fun _ h => h.elim) (fun b _ hm => hm.1))
      | succ i => exact he.2 i z v (by simpa using hz) (by simpa using hv))
    (fun _ _ _ _ _ _ _ h3 => ers_live hx h3))
    ⟨fun _ h => (List.not_mem_nil h).elim, fun _ => mem_app h0.rd hx.rd.1, fun _ => hx.rd.2, fun _ h => (List.not_mem_nil h).elim⟩ D

/-- a field of an element of one's own, loaded -/
theorem lef {t e : TypeId} {ag : Bool} {n sz id i off : Nat} {x : Operand} {l : List (List A)} {cs r : List A} {v : V} {rs : List (Nat × V)} (hT : TF P t ag n) (hx : Er S x (.ptr id (i * sz + off)) rs) (hO : S.go id = some (.arr e sz l))
    (hi : l[i]? = some cs) (hr : dropO off cs = some r) (hv : ldA ag n r = some v) : OpV P S (.load t x) rs [(id, .arr e sz l)] v := by
  obtain ⟨rfl, hoff⟩ := dropO_eq hr
  refine ⟨hx.rd, by simp; exact hO, fun C S2 hd a w d ty pos af g hs h2 h3 => ?_⟩
  obtain ⟨b, hb, e2⟩ := ((hx.of h2).vv hs).ptr_inv
  obtain ⟨xs, hr, _, hls, hlo, hlv⟩ := stands_own (hs.ob id _ (h3 (id, .arr e sz l) (by simp)))
  rcases hr.2 with ⟨h0, _⟩ | ⟨g', cap, cur, hv', _, hg, hn, hm, hc, htake⟩
  · rw [h0] at hb; cases hb
  · rw [hv'] at hb
    have : g' = b := by simpa [blk] using hb
    subst this
    have hcs : cs.length = sz := hls cs (List.mem_of_getElem? hi)
    have hil : i < l.length := (List.getElem?_eq_some_iff.1 hi).1
    have hlen : i * sz + sz ≤ xs.length := by
      rw [hr.1]
      have := Nat.mul_le_mul_right sz (show i + 1 ≤ l.length by omega)
      rw [Nat.add_mul] at this; omega
    obtain ⟨u, hru, hu⟩ := run_loadVar (P := P) (w := w) (M := MM C S2 hd) (hd := hd) hT (b := g') (off := i * sz + off) (cs := (cs.drop off).map .ro) (vs := (xs.drop (i * sz + off)).take (sz - off))
      (by rw [List.length_map, List.length_drop, List.length_take, List.length_drop]; omega)
      (fun j v hj => by
        rw [List.getElem?_take] at hj
        split at hj
        case isFalse => cases hj
        rw [List.getElem?_drop, ← htake, List.getElem?_take] at hj
        split at hj
        case isFalse => cases hj
        rw [cell_of_row w g' _ cur e (0, 0) hg]; simpa using hj)
      (fun j v hj => by
        rw [List.getElem?_take] at hj
        split at hj
        case isFalse => cases hj
        rw [List.getElem?_drop] at hj; exact hlo _ v hj)
      (fun j y v hy hj => by
        rw [List.getElem?_take] at hj
        split at hj
        case isFalse => cases hj
        rw [List.getElem?_drop] at hj
        simp only [List.getElem?_map, Option.map_eq_some_iff, List.getElem?_drop] at hy
        obtain ⟨y', hy', rfl⟩ := hy
        have e0 : i * sz + off + j = i * sz + (off + j) := by omega
        rw [e0] at hj
        exact .ro _ _ (hlv _ y' v (flatten_get hls hi hy') hj)) (ldA_V hv)
    refine ⟨u, ?_, hu⟩
    simp only [execOp, e2, Instr.loadAt, Instr.sureAddr, Sem.run_bind, Sem.run_pure, Result.andThen_ok, hru]

/-- append, and from now on it is only read -/
theorem apr {α : Type} {F : α → List A} {x y : Operand} {t e : TypeId} {sz i1 : Nat} {l m q : List α} (hP : PF P t e sz) (hx : Ev S x (.own i1)) (hO : S.go i1 = some (.arr e sz (l.map F)))
    (hy : Ev S y (.ro (.list sz (m.map F)))) (hq : app l m = some q)
    (D : Der P ops ((me ((rd x (.own i1) ++ rd y (.ro (.list sz (m.map F))))) [(i1, .arr e sz (l.map F))] (.ro (.list sz (q.map F))) [(i1, none)] []).app d S) os es S') :
    Der P ops S (⟨d, .call ⟨.builtin .append, #[x, y], #[t, t]⟩, ty, pos, af, none⟩ :: os)
      (me ((rd x (.own i1) ++ rd y (.ro (.list sz (m.map F))))) [(i1, .arr e sz (l.map F))] (.ro (.list sz (q.map F))) [(i1, none)] [] :: es) S' := by
  obtain ⟨rfl, hlen⟩ := app_eq hq
  refine .cons ?_ (pre_me (mem_app hx.rd hy.rd) (by simp; exact hO) (fun _ h => (List.not_mem_nil h).elim)) D
  rintro C S2 a w ⟨hd, hs⟩ hp hdst
  unfold stepOp
  rw [if_pos (by simp [Region.wanted])]
  have h2 := hp.rs trivial
  have hO2 := hp.ro trivial (i1, .arr e sz (l.map F)) (by simp [me])
  have e1 := ((hx.of fun p hp => h2 p (List.mem_append_left _ hp)).vv hs).own_inv
  have e2 := ((hy.of fun p hp => h2 p (List.mem_append_right _ hp)).vv hs).ro_of
  obtain ⟨xs, h4, h5, h6⟩ := stands_VR e2
  obtain ⟨u, w', hr, hchg, hblk, hone, hM⟩ := app_step (P := P) (d := d) (ty := ty) (pos := pos) (af := af) hs hP e1.1 hO2 h4 h5 h6 (by simpa using hlen)
  simp only [Oper.wp, hr]
  refine ⟨hd, hs.step _ hp d u hdst (fun b => (hd i1).ownBlock = some b) hchg (fun b hb => ⟨i1, _, none, hO2, ownBlock_blk hb, by simp [me, lk]⟩) (fun _ _ => rfl) (fun _ => ?_) (fun id x hx => ?_) (fun id x b hx => ?_) (fun i1' i2 x1 x2 b h1 => ?_)⟩
  · refine .ro _ _ ?_
    have hMM : ∀ b, (C.M0 b ∨ Ow ((me (rd x (.own i1) ++ rd y (.ro (.list sz (m.map F)))) [(i1, .arr e sz (l.map F))] (.ro (.list sz ((l ++ m).map F))) [(i1, none)] []).app d S2) hd b) → (C.M0 b ∨ ∃ id x, id ≠ i1 ∧ S2.go id = some x ∧ blk (hd id) = some b) := by
      rintro b (hm | ⟨id, x, hx, hb⟩)
      · exact .inl hm
      · rw [app_go] at hx
        by_cases hid : i1 = id
        · subst hid; simp [me, lk] at hx
        · simp only [me, lk, beq_ne hid, cond_false] at hx
          exact .inr ⟨id, x, fun e => hid e.symm, hx, hb⟩
    have hO3 := hM (fun b => C.M0 b ∨ Ow ((me (rd x (.own i1) ++ rd y (.ro (.list sz (m.map F)))) [(i1, .arr e sz (l.map F))] (.ro (.list sz ((l ++ m).map F))) [(i1, none)] []).app d S2) hd b)
      (fun b _ hm => (hMM b hm).elim .inl fun ⟨id, x, _, h1, h2⟩ => .inr ⟨id, x, h1, h2⟩) hd
    rw [← List.map_append] at hO3
    refine ownsRow_VR hO3 _ (fun b _ h => h) fun b hb hm => ?_
    rcases hblk b hb with h | h
    · rcases hMM b hm with h0 | ⟨id, x, hne, h1, h2⟩
      · have h1 := C.hM0 b h0
        rcases (hs.lv b ⟨i1, _, hO2, h⟩).1 with h2 | h2
        · omega
        · exact h1.2 h2
      · exact hne (hs.inj id i1 x _ b h1 hO2 h2 h)
    · rcases hMM b hm with h0 | ⟨id, x, hne, h1, h2⟩
      · have h1 := (C.hM0 b h0).1
        have h3 := hs.fr.size
        omega
      · have := (hs.lv b ⟨id, x, h1, h2⟩).2
        omega
  · simp only [me, lk] at hx
    by_cases hid : i1 = id
    · subst hid; simp at hx
    · simp [beq_ne hid] at hx
  · simp only [me, lk] at hx
    by_cases hid : i1 = id
    · subst hid; simp at hx
    · simp [beq_ne hid] at hx
  · simp only [me, lk] at h1
    by_cases hid : i1 = i1'
    · subst hid; simp at h1
    · simp [beq_ne hid] at h1
end
end Xb
