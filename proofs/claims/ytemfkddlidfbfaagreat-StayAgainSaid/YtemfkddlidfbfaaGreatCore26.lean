/- Own text: Core26. -/
import Derived.Test.YtemfkddlidfbfaaGreatCore25
import Derived.Carry
set_option linter.all false
set_option linter.unusedVariables false
set_option linter.unusedSimpArgs false
set_option linter.unnecessarySimpa false
set_option linter.deprecated false
/-! Maps of integers; nil lists that are written; == on structures. -/
namespace Xb
open Go Go.Maps Go.RowKit

/-- a map's type -/
structure MF (P : Program) (t k e : TypeId) (kk : IntKind) : Prop where
  u : P.underlying t = some (.map k e)
  hk : P.underlying k = some (.int kk)
def ElemOK (P : Program) (e : TypeId) : A → Prop
  | .int q _ => P.underlying e = some (.int q)
  | .bool _ => P.underlying e = some .bool
  | _ => False

def mputO {α : Type} (m : List (Int × α)) (k : Int) (v : α) : Option (List (Int × α)) := if m.length ≤ 4294967296 then some ((k, v) :: m) else none
def mgetD {α : Type} (m : List (Int × α)) (k : Int) (z : α) : α := (mlook m k).getD z
def mhas {α : Type} (m : List (Int × α)) (k : Int) : Bool := (mlook m k).isSome
def mpA {α : Type} (F : α → A) (m : List (Int × α)) : List (Int × A) := m.map fun p => (p.1, F p.2)

theorem mlook_map {α : Type} (F : α → A) : ∀ (m : List (Int × α)) (k : Int), mlook (mpA F m) k = (mlook m k).map F
  | [], _ => rfl
  | (i, x) :: m, k => by
    simp only [mpA, List.map_cons, mlook]
    by_cases h : i = k
    · rw [if_pos h, if_pos h]; rfl
    · rw [if_neg h, if_neg h]; exact mlook_map F m k

theorem elem_some {P : Program} {e : TypeId} {a : A} (h : ElemOK P e a) {w : World} {M : Nat → Prop} {v : Value} (hv : VR w M a v) : ∃ d, datA a = some d ∧ plainElem P e v = some (d, []) := by
  cases hv with
  | bool b => exact ⟨_, rfl, plainElem_bool h b⟩
  | int q n h1 h2 => exact ⟨_, rfl, plainElem_int h (by simp [Lit.wf, h1, h2])⟩
  | str _ _ => exact h.elim
  | emp _ _ _ _ => exact h.elim
  | list _ _ _ _ _ _ _ _ => exact h.elim
  | agg _ _ _ _ _ => exact h.elim
  | tup _ _ _ _ => exact h.elim
  | raw _ _ => exact h.elim
  | ifc _ _ _ _ => exact h.elim

theorem elem_inv {P : Program} {e : TypeId} {a : A} (h : ElemOK P e a) {w : World} {M : Nat → Prop} {v : Value} {d : DataW Unit} {ps : List MemPlace} (hd : datA a = some d) (hv : plainElem P e v = some (d, ps)) : VR w M a v := by
  cases a <;> simp only [ElemOK] at h
  · simp only [datA, Option.some.injEq] at hd
    subst hd
    unfold plainElem at hv
    rw [h] at hv
    cases v <;> simp at hv
    obtain ⟨rfl, _⟩ := hv
    exact .bool _
  · rename_i q n
    simp only [datA, Option.some.injEq] at hd
    subst hd
    obtain ⟨a', rfl, hz, hw⟩ := plainElem_int_inv h hv
    simp only [Prod.mk.injEq, DataW.lit.injEq, Lit.int.injEq, true_and] at hz
    obtain ⟨rfl, _⟩ := hz
    simp [Lit.wf] at hw
    exact .int _ _ hw.1 hw.2

section
variable {P : Program} {ops : Array Oper} {S S' : St} {os : List Oper} {es : List Eff}
variable {d : Option Nat} {ty : TypeId} {pos : String} {af : Array Edge}

theorem OO.map_inv {w : World} {M : Nat → Prop} {hd : Nat → Value} {h : Value} {k e : TypeId} {kk : IntKind} {m : List (Int × A)} (H : OO w M hd h (.map P k e kk m)) :
    ∃ b D, h = .map (some b) ∧ w.ownsMap P k (plainElem P e) b m.length D ∧ MapRel kk D m := by
  cases H with
  | map _ _ _ _ _ b D hh hb hr => exact ⟨b, D, hh, hb, hr⟩

/-- make a map -/
theorem mkm {α : Type} (F : α → A) (id : Nat) {t k e : TypeId} {kk : IntKind} (_hM : MF P t k e kk) (hf : S.free id = true)
    (D : Der P ops ((me [] [] (.own id) [(id, some (.map P k e kk (mpA F [])))] [id]).app d S) os es S') :
    Der P ops S (⟨d, .makeMap t none, ty, pos, af, none⟩ :: os) (me [] [] (.own id) [(id, some (.map P k e kk (mpA F [])))] [id] :: es) S' := by
  refine .cons (Trip.new (o := ⟨d, .makeMap t none, ty, pos, af, none⟩) rfl fun C S2 hd a w hs h2 hf2 => ?_) (pre_me (fun _ h => (List.not_mem_nil h).elim) (fun _ h => (List.not_mem_nil h).elim) (by simp; exact hf)) D
  refine ⟨.map (some w.heap.size), w.alloc (.map #[] 0), .map (some w.heap.size), ?_, Chg.alloc w _ _, fun b hb => ?_, fun M' hM' => ⟨?_, ?_⟩⟩
  · simp only [execOp, Option.map_none, Sem.run_bind, run_makeMap, Result.andThen_ok, Sem.run_pure]
  · simp [blk] at hb; subst hb; simp
  · have := VV.own (w := w.alloc (.map #[] 0)) (M := M') (hd := updh hd id (.map (some w.heap.size))) id (by rw [updh_same]; rfl)
    rwa [updh_same] at this
  · exact .map P k e kk [] _ (.map []) rfl (World.ownsMap_made w P k _) ⟨⟨[], rfl⟩, fun key => ⟨rfl, fun z => ⟨z, rfl, rfl⟩⟩⟩

/-- into a map -/
theorem mpu {α : Type} {F : α → A} {t k e : TypeId} {kk : IntKind} {x y z : Operand} {id : Nat} {m q : List (Int × α)} {key : Int} {v : α} {r1 r2 : List (Nat × V)} (hM : MF P t k e kk) (hE : ∀ x, ElemOK P e (F x))
    (hx : Ev S x (.own id)) (hO : S.go id = some (.map P k e kk (mpA F m))) (hy : Er S y (.ro (.int kk key)) r1) (hz : Er S z (.ro (F v)) r2) (hq : mputO m key v = some q)
    (D : Der P ops ((me (rd x (.own id) ++ (r1 ++ r2)) [(id, .map P k e kk (mpA F m))] .un [(id, some (.map P k e kk (mpA F q)))] []).app d S) os es S') :
    Der P ops S (⟨d, .mapUpdate t x y z, ty, pos, af, none⟩ :: os) (me (rd x (.own id) ++ (r1 ++ r2)) [(id, .map P k e kk (mpA F m))] .un [(id, some (.map P k e kk (mpA F q)))] [] :: es) S' := by
  have hql : m.length ≤ 4294967296 ∧ q = (key, v) :: m := by
    unfold mputO at hq; split at hq
    · exact ⟨‹_›, by simpa using hq.symm⟩
    · cases hq
  obtain ⟨hlen, rfl⟩ := hql
  refine .cons (Trip.mem (o := ⟨d, .mapUpdate t x y z, ty, pos, af, none⟩) rfl fun C S2 hd a w hs hp => ?_)
    (pre_me (mem_app hx.rd (mem_app hy.rd hz.rd)) (by simp; exact hO) (fun _ h => (List.not_mem_nil h).elim)) D
  have h2 := hp.rs trivial
  have hgo := hp.ro trivial (id, .map P k e kk (mpA F m)) (by simp [me])
  obtain ⟨e1, _⟩ := ((hx.of fun p hp => h2 p (List.mem_append_left _ hp)).vv hs).own_inv
  have e2 := ((hy.of fun p hp => h2 p (List.mem_append_right _ (List.mem_append_left _ hp))).vv hs)
  have e3 := ((hz.of fun p hp => h2 p (List.mem_append_right _ (List.mem_append_right _ hp))).vv hs).ro_of
  obtain ⟨ek, hk1, hk2⟩ := e2.int_inv
  obtain ⟨b, D0, hh, hown, hrel⟩ := (hs.ob id _ hgo).map_inv
  obtain ⟨dd, hdd, hpl⟩ := elem_some (hE v) e3
  have hwf : (Lit.int kk key).wf = true := by simp [Lit.wf, hk1, hk2]
  have hkey := keyOf_int_mk (P := P) hM.hk hwf
  obtain ⟨w', hrun, hown', hgr⟩ := hown.update (int_keyed hM.hk) hM.u (by simp [mpA]; unfold maxLen; omega) hkey hpl
  have hlk : ∀ j u, lk [(id, some (O.map P k e kk (mpA F ((key, v) :: m))))] j = some (some u) → j = id ∧ u = .map P k e kk (mpA F ((key, v) :: m)) := by
    intro j u hu
    simp only [lk] at hu
    by_cases hj : id = j
    · subst hj
      simp only [Nat.beq_refl, cond_true, Option.some.injEq] at hu
      exact ⟨rfl, hu.symm⟩
    · rw [beq_ne hj] at hu; cases hu
  have hki : lk [(id, some (O.map P k e kk (mpA F ((key, v) :: m))))] id = some (some (.map P k e kk (mpA F ((key, v) :: m)))) := by simp [lk]
  refine ⟨.skip, undef, w', hd, fun k => some k = some b, ?_, .inr ⟨rfl, rfl⟩, ⟨hgr.os, hgr.tape, hgr.output, hgr.size, fun j hj hn => hgr.block j hj hn⟩, ?_, fun _ _ => rfl, fun M' hM' => ⟨fun _ => .un _, ?_⟩, ?_, ?_⟩
  · simp only [execOp, e1, ek, hh, Sem.run_bind, hrun, Result.andThen_ok, Sem.run_pure]
  · rintro j hj
    simp only [Option.some.injEq] at hj; subst hj
    exact ⟨id, _, _, hgo, by rw [hh]; rfl, hki⟩
  · intro j u hu
    obtain ⟨rfl, rfl⟩ := hlk j u hu
    refine .map P k e kk _ b (D0.put (.int kk key) dd) hh hown' ⟨hown'.isMap, fun key' => ?_⟩
    obtain ⟨hr1, hr2⟩ := hrel.2 key'
    simp only [mpA, List.map_cons, mlook]
    by_cases hkk : key = key'
    · subst hkk
      rw [if_pos rfl]
      exact ⟨has_put_same hrel.1 (by exact trivial) dd, fun z => ⟨dd, atKey_put_same hrel.1 (by exact trivial) dd z, hdd⟩⟩
    · rw [if_neg hkk]
      have hne : (Lit.int kk key' : Lit) ≠ .int kk key := by simp; exact fun h => hkk h.symm
      refine ⟨by rw [has_put_other hne]; exact hr1, fun z => ?_⟩
      rw [atKey_put_other hne]; exact hr2 z
  · intro j u c hu hc
    obtain ⟨rfl, rfl⟩ := hlk j u hu
    exact .inr ⟨j, _, _, hgo, hc, hki⟩
  · intro i1 i2 x1 x2 c h1 h2 _ _
    exact ((hlk i1 x1 h1).1).trans ((hlk i2 x2 h2).1).symm

theorem mlk_core {α : Type} {F : α → A} {t k e : TypeId} {kk : IntKind} {id : Nat} {m : List (Int × α)} {key : Int} {z : α} {w : World} {M M' : Nat → Prop} {hd : Nat → Value} (hM : MF P t k e kk) (hE : ∀ x, ElemOK P e (F x))
    (hZ : ∃ i zv, P.info? e = some i ∧ i.zero = some zv ∧ ∀ w M, VR w M (F z) zv) (H : OO w M hd (hd id) (.map P k e kk (mpA F m))) (hk1 : kk.min ≤ key) (hk2 : key ≤ kk.max) :
    (∃ v, (Instr.lookup t (hd id) (.int kk key) true).run P w = .ok (.tuple #[v, .bool (mhas m key)]) w ∧ VR w M' (F (mgetD m key z)) v) ∧
    ∃ v, (Instr.lookup t (hd id) (.int kk key) false).run P w = .ok v w ∧ VR w M' (F (mgetD m key z)) v := by
  obtain ⟨b, D, hh, hown, hrel⟩ := H.map_inv
  obtain ⟨i, zv, hi, hz, hzv⟩ := hZ
  have hzr : (zeroValue e).run P w = .ok zv w := by simp [zeroValue, typeInfo, hi, hz]
  have hwf : (Lit.int kk key).wf = true := by simp [Lit.wf, hk1, hk2]
  have hkey := keyOf_int_mk (P := P) hM.hk hwf
  obtain ⟨zd, hzd, hzp⟩ := elem_some (hE z) (hzv w M')
  obtain ⟨h1, h2⟩ := hrel.2 key
  rw [mlook_map] at h1 h2
  have fin : ∀ {v : Value} {ps : List MemPlace}, plainElem P e v = some (D.atKey (.int kk key) zd, ps) → VR w M' (F (mgetD m key z)) v := fun {v ps} hv => by
    obtain ⟨d, hd1, hd2⟩ := h2 zd
    unfold mgetD
    cases hm : mlook m key with
    | none =>
      rw [hm] at hd2; simp at hd2
      rw [hd1, hd2] at hv
      exact elem_inv (hE z) hzd hv
    | some x =>
      rw [hm] at hd2; simp at hd2
      rw [hd1] at hv
      exact elem_inv (hE x) hd2 hv
  constructor
  · obtain ⟨v, ps, hrun, hv⟩ := hown.look_ok (int_keyed hM.hk) hM.u hzr hzp hkey
    refine ⟨v, ?_, fin hv⟩
    rw [hh, hrun, h1]
    simp [mhas]
  · obtain ⟨v, ps, hrun, hv⟩ := hown.lookup (int_keyed hM.hk) hM.u hzr hzp hkey
    exact ⟨v, by rw [hh, hrun], fin hv⟩

/-- out of a map, with whether it is there -/
theorem mlo {α : Type} {F : α → A} {t k e : TypeId} {kk : IntKind} {x y : Operand} {id : Nat} {m : List (Int × α)} {key : Int} {z : α} {r0 r1 : List (Nat × V)} (hM : MF P t k e kk) (hE : ∀ x, ElemOK P e (F x))
    (hZ : ∃ i zv, P.info? e = some i ∧ i.zero = some zv ∧ ∀ w M, VR w M (F z) zv) (hx : Er S x (.own id) r0) (hO : S.go id = some (.map P k e kk (mpA F m))) (hy : Er S y (.ro (.int kk key)) r1) :
    OpV P S (.lookup t x y true) (r0 ++ r1) [(id, .map P k e kk (mpA F m))] (.ro (.tup [F (mgetD m key z), .bool (mhas m key)])) := by
  refine ⟨mem_app hx.rd hy.rd, by simp; exact hO, fun C S2 hd a w d ty pos af g hs h2 h3 => ?_⟩
  obtain ⟨e1, _⟩ := ((hx.of fun p hp => h2 p (List.mem_append_left _ hp)).vv hs).own_inv
  obtain ⟨ek, hk1, hk2⟩ := ((hy.of fun p hp => h2 p (List.mem_append_right _ hp)).vv hs).int_inv
  obtain ⟨⟨v, hrun, hv⟩, _⟩ := mlk_core (M' := MM C S2 hd) hM hE hZ (hs.ob id _ (h3 (id, .map P k e kk (mpA F m)) (by simp))) hk1 hk2
  refine ⟨_, ?_, .ro _ _ (.tup _ [v, .bool (mhas m key)] rfl fun i b u hi hu => ?_)⟩
  · simp only [execOp, e1, ek, Sem.run_bind, hrun, Result.andThen_ok, Sem.run_pure]
  · match i with
    | 0 => simp at hi hu; subst hi; subst hu; exact hv
    | 1 => simp at hi hu; subst hi; subst hu; exact .bool _
    | i + 2 => simp at hi

/-- out of a map -/
theorem mlv {α : Type} {F : α → A} {t k e : TypeId} {kk : IntKind} {x y : Operand} {id : Nat} {m : List (Int × α)} {key : Int} {z : α} {r0 r1 : List (Nat × V)} (hM : MF P t k e kk) (hE : ∀ x, ElemOK P e (F x))
    (hZ : ∃ i zv, P.info? e = some i ∧ i.zero = some zv ∧ ∀ w M, VR w M (F z) zv) (hx : Er S x (.own id) r0) (hO : S.go id = some (.map P k e kk (mpA F m))) (hy : Er S y (.ro (.int kk key)) r1) :
    OpV P S (.lookup t x y false) (r0 ++ r1) [(id, .map P k e kk (mpA F m))] (.ro (F (mgetD m key z))) := by
  refine ⟨mem_app hx.rd hy.rd, by simp; exact hO, fun C S2 hd a w d ty pos af g hs h2 h3 => ?_⟩
  obtain ⟨e1, _⟩ := ((hx.of fun p hp => h2 p (List.mem_append_left _ hp)).vv hs).own_inv
  obtain ⟨ek, hk1, hk2⟩ := ((hy.of fun p hp => h2 p (List.mem_append_right _ hp)).vv hs).int_inv
  obtain ⟨_, v, hrun, hv⟩ := mlk_core (M' := MM C S2 hd) hM hE hZ (hs.ob id _ (h3 (id, .map P k e kk (mpA F m)) (by simp))) hk1 hk2
  refine ⟨_, ?_, .ro _ _ hv⟩
  simp only [execOp, e1, ek, Sem.run_bind, hrun, Result.andThen_ok, Sem.run_pure]
end

section
variable {P : Program} {T : Tgt} {C : Ctx} {k : List Item} {S : St}

/-- a nil list in a box becomes one of one's own -/
theorem AK.th {α : Type} {F : α → List A} (id off K : Nat) (e : TypeId) (sz : Nat) {cs : List V} (hO : S.go id = some (.box cs)) (hn : nth cs off = some (.ro (.raw (.slice none 0 0)))) (hK : S.free K = true)
    (h : AK P T C k ⟨S.s, (id, some (.box (cs.set off (.own K)))) :: (K, some (.arr e sz (([] : List α).map F))) :: S.o⟩) : AK P T C k S := by
  simp only [List.map_nil] at h
  rintro a w ⟨hd, hs⟩
  refine h a w ⟨updh hd K (.slice none 0 0), ?_⟩
  have hKn := free_go hK
  have hne : K ≠ id := fun e => by rw [e, hO] at hKn; cases hKn
  rw [nth_eq] at hn
  have hgo : ∀ i x, (St.mk S.s ((id, some (.box (cs.set off (.own K)))) :: (K, some (.arr e sz [])) :: S.o)).go i = some x → (i = id ∧ x = .box (cs.set off (.own K))) ∨ (i = K ∧ x = .arr e sz []) ∨ (i ≠ id ∧ i ≠ K ∧ S.go i = some x) := by
    intro i x hx
    simp only [St.go, lk] at hx
    by_cases h1 : id = i
    · subst h1; simp at hx; exact .inl ⟨rfl, hx.symm⟩
    · rw [beq_ne h1] at hx
      by_cases h2 : K = i
      · subst h2; simp at hx; exact .inr (.inl ⟨rfl, hx.symm⟩)
      · rw [beq_ne h2] at hx
        exact .inr (.inr ⟨fun e => h1 e.symm, fun e => h2 e.symm, hx⟩)
  have hblk : ∀ i x, (St.mk S.s ((id, some (.box (cs.set off (.own K)))) :: (K, some (.arr e sz [])) :: S.o)).go i = some x → ∀ b, blk (updh hd K (.slice none 0 0) i) = some b → ∃ y, S.go i = some y ∧ blk (hd i) = some b := by
    intro i x hx b hb
    rcases hgo i x hx with ⟨rfl, rfl⟩ | ⟨rfl, rfl⟩ | ⟨_, hk, hx'⟩
    · rw [updh_ne (Ne.symm hne)] at hb; exact ⟨_, hO, hb⟩
    · rw [updh_same] at hb; cases hb
    · rw [updh_ne hk] at hb; exact ⟨x, hx', hb⟩
  have hM : ∀ b, b < w.heap.size → (C.M0 b ∨ Ow ⟨S.s, (id, some (.box (cs.set off (.own K)))) :: (K, some (.arr e sz [])) :: S.o⟩ (updh hd K (.slice none 0 0)) b) → (C.M0 b ∨ Ow S hd b) := by
    rintro b _ (hm | ⟨i, x, hx, hb⟩)
    · exact .inl hm
    · obtain ⟨y, hy, hb'⟩ := hblk i x hx b hb
      exact .inr ⟨i, y, hy, hb'⟩
  refine ⟨hs.nt, fun t x hx => ?_, fun i x hx => ?_, ?_, ?_, hs.fr, hs.df⟩
  · obtain ⟨q, hv⟩ := hs.sl t x hx
    refine ⟨q, hv.ext (Chg.refl w (fun _ => False)) (fun _ h => h.elim) hM fun j hj => updh_ne fun e => ?_⟩
    subst e
    rw [free_slot hK hx] at hj; cases hj
  · rcases hgo i x hx with ⟨rfl, rfl⟩ | ⟨rfl, rfl⟩ | ⟨_, hk, hx'⟩
    · have hb := hs.ob i _ hO
      rw [updh_ne (Ne.symm hne)]
      have hmen := free_obj hK hO
      have hb2 := hb.ext (M' := fun b => C.M0 b ∨ Ow ⟨S.s, (i, some (.box (cs.set off (.own K)))) :: (K, some (.arr e sz [])) :: S.o⟩ (updh hd K (.slice none 0 0)) b) (hd' := updh hd K (.slice none 0 0)) (Chg.refl w (fun _ => False)) (fun _ h => h.elim) hM (fun j hj => updh_ne fun e => by
        subst e; rw [hmen] at hj; cases hj) (fun _ _ h => h)
      obtain ⟨b, vs, ty, hh, hbb, hl, ho, hv⟩ := hb2.box_inv
      refine .box _ vs ty b hh hbb (by simpa using hl) ho fun j y v hj hvj => ?_
      rw [List.getElem?_set] at hj
      by_cases hjo : off = j
      · subst hjo
        have hlt : off < cs.length := (List.getElem?_eq_some_iff.1 hn).1
        rw [if_pos rfl, if_pos hlt] at hj
        have hj' : V.own K = y := by simpa using hj
        subst hj'
        have hr := (hv off _ v hn hvj).ro_of
        cases hr with
        | raw _ _ =>
          have := VV.own (w := w) (M := fun b => C.M0 b ∨ Ow ⟨S.s, (i, some (.box (cs.set off (.own K)))) :: (K, some (.arr e sz [])) :: S.o⟩ (updh hd K (.slice none 0 0)) b) (hd := updh hd K (.slice none 0 0)) K (by rw [updh_same]; rfl)
          rwa [updh_same] at this
      · rw [if_neg hjo] at hj
        exact hv j y v hj hvj
    · rw [updh_same]
      exact .arr e sz [] [] (by simpa using World.ownsRow_nil w 0 e sz) (by simp) (by simp) (by simp)
    · rw [updh_ne hk]
      refine (hs.ob i x hx').ext (Chg.refl w (fun _ => False)) (fun _ h => h.elim) hM (fun j hj => updh_ne fun e => ?_) (fun _ _ h => h)
      subst e
      rw [free_obj hK hx'] at hj; cases hj
  · rintro b ⟨i, x, hx, hb⟩
    obtain ⟨y, hy, hb'⟩ := hblk i x hx b hb
    exact hs.lv b ⟨i, y, hy, hb'⟩
  · intro i1 i2 x1 x2 b h1 h2 hb1 hb2
    obtain ⟨y1, g1, q1⟩ := hblk i1 x1 h1 b hb1
    obtain ⟨y2, g2, q2⟩ := hblk i2 x2 h2 b hb2
    exact hs.inj i1 i2 y1 y2 b g1 g2 q1 q2
end

/-! == on structures of plain fields -/
inductive K1 where
  | int (k : IntKind)
  | bool
  | str
def K1.of (P : Program) : K1 → TypeId → Prop
  | .int k, t => P.underlying t = some (.int k)
  | .bool, t => P.underlying t = some .bool
  | .str, t => P.underlying t = some .string
def okT (d : TypeDesc) : K1 → Bool
  | .int k => match d with | .int k' => decide (k = k') | _ => false
  | .bool => match d with | .bool => true | _ => false
  | .str => match d with | .string => true | _ => false
def okF (P : Program) : Nat → List Field → List K1 → Bool
  | _, [], [] => true
  | n, f :: fs, k :: ks => f.name != "_" && (Nat.beq f.offset n && ((match P.underlying f.type with | some d => okT d k | none => false) && okF P (n + 1) fs ks))
  | _, _, _ => false
def K1.fits : K1 → A → Bool
  | .int k, .int k' _ => decide (k = k')
  | .bool, .bool _ => true
  | .str, .str _ => true
  | _, _ => false
def fitsA : List K1 → List A → Bool
  | [], [] => true
  | k :: ks, a :: ms => k.fits a && fitsA ks ms
  | _, _ => false
def eq1 : A → A → Bool
  | .int _ m, .int _ n => m == n
  | .bool m, .bool n => m == n
  | .str m, .str n => m == n
  | _, _ => false
def eqA : List A → List A → Bool
  | a :: ms, b :: bs => eq1 a b && eqA ms bs
  | _, _ => true
def eqO (op : BinOp) (b : Bool) : Bool := match op with | .eql => b | _ => !b

structure QF (P : Program) (t : TypeId) (ks : List K1) : Prop where
  u : ∃ fs, P.underlying t = some (.struct fs) ∧ okF P 0 fs.toList ks = true
  s : P.stoodInHeld t = false
  g : P.eqGuardType P.depth t = false

theorem okT_eq {d : TypeDesc} {k : K1} {P : Program} {t : TypeId} (hu : P.underlying t = some d) (h : okT d k = true) : k.of P t := by
  cases k with
  | int k =>
    cases d <;> simp [okT] at h
    subst h; exact hu
  | bool => cases d <;> simp [okT] at h; exact hu
  | str => cases d <;> simp [okT] at h; exact hu

theorem run_eqF {P : Program} {w : World} {M : Nat → Prop} {xs ys : List Value} (d : Nat) : ∀ (fs : List Field) (ks : List K1) (ms bs : List A) (n : Nat), okF P n fs ks = true → fitsA ks ms = true → fitsA ks bs = true →
    xs.length = n + ms.length → ys.length = n + bs.length →
    (∀ i a v, ms[i]? = some a → xs[n + i]? = some v → VR w M a v) → (∀ i a v, bs[i]? = some a → ys[n + i]? = some v → VR w M a v) →
    (Op.eqFields (d + 1) ⟨xs⟩ ⟨ys⟩ fs).run P w = .ok (eqA ms bs) w
  | [], [], ms, bs, n, h, ha, hb, _, _, _, _ => by
    cases ms <;> simp [fitsA] at ha
    cases bs <;> simp [fitsA] at hb
    simp [Op.eqFields, eqA]
  | [], _ :: _, _, _, _, h, _, _, _, _, _, _ => by simp [okF] at h
  | _ :: _, [], _, _, _, h, _, _, _, _, _, _ => by simp [okF] at h
  | f :: fs, k :: ks, ms, bs, n, h, ha, hb, lx, ly, hx, hy => by
    cases ms with
    | nil => simp [fitsA] at ha
    | cons a ms =>
    cases bs with
    | nil => simp [fitsA] at hb
    | cons b bs =>
    simp only [okF, fitsA, Bool.and_eq_true] at h ha hb
    obtain ⟨hn, ho, hk, hr⟩ := h
    have ho : f.offset = n := Nat.eq_of_beq_eq_true ho
    have hne : f.name ≠ "_" := by simpa using hn
    cases hu : P.underlying f.type with
    | none => rw [hu] at hk; cases hk
    | some dd =>
    rw [hu] at hk
    have hk := okT_eq hu hk
    simp only [List.length_cons] at lx ly
    obtain ⟨va, hva⟩ : ∃ v, xs[n]? = some v := ⟨xs[n]'(by omega), List.getElem?_eq_getElem _⟩
    obtain ⟨vb, hvb⟩ : ∃ v, ys[n]? = some v := ⟨ys[n]'(by omega), List.getElem?_eq_getElem _⟩
    have ra := hx 0 a va rfl (by simpa using hva)
    have rb := hy 0 b vb rfl (by simpa using hvb)
    have ih := run_eqF (w := w) (M := M) (xs := xs) (ys := ys) d fs ks ms bs (n + 1) hr ha.2 hb.2 (by omega) (by omega)
      (fun i a v hi hv => hx (i + 1) a v (by simpa using hi) (by rw [← hv]; congr 1; omega)) (fun i a v hi hv => hy (i + 1) a v (by simpa using hi) (by rw [← hv]; congr 1; omega))
    have hpl : P.plainKey f.type = true := by
      cases k <;> simp only [K1.of] at hk <;> simp [Program.plainKey, hk]
    have p1 := run_part_plain w hpl (xs := ⟨xs⟩) (off := n) (v := va) (by simpa using hva)
    have p2 := run_part_plain w hpl (xs := ⟨ys⟩) (off := n) (v := vb) (by simpa using hvb)
    have he : (Op.equalIn (d + 1) f.type va vb).run P w = .ok (eq1 a b) w := by
      cases k with
      | int q =>
        cases a <;> simp [K1.fits] at ha
        cases b <;> simp [K1.fits] at hb
        obtain ⟨rfl, _⟩ := ha
        obtain ⟨rfl, _⟩ := hb
        cases ra; cases rb
        exact run_equalIn_int w d _ _ _ _ _ hk
      | bool =>
        cases a <;> simp [K1.fits] at ha
        cases b <;> simp [K1.fits] at hb
        cases ra; cases rb
        exact run_equalIn_bool' w d _ _ _ hk
      | str =>
        cases a <;> simp [K1.fits] at ha
        cases b <;> simp [K1.fits] at hb
        cases ra; cases rb
        rw [run_equalIn_string w d _ _ _ hk]
        simp [eq1, ByteArray.toList_eq]
    simp only [Op.eqFields, if_pos hne, ho, Sem.run_bind, p1, p2, he, Result.andThen_ok, eqA]
    cases eq1 a b
    · simp
    · simpa using ih

theorem eqs {P : Program} {S : St} {op : BinOp} {t u : TypeId} {x y : Operand} {ks : List K1} {ms bs : List A} {q : Bool} {r1 r2 : List (Nat × V)} (hT : QF P t ks) (hx : Er S x (.ro (.agg ms)) r1) (hy : Er S y (.ro (.agg bs)) r2) (ho : isEq op = true)
    (ha : fitsA ks ms = true) (hb : fitsA ks bs = true) (hq : q = eqO op (eqA ms bs)) :
    OpV P S (.binOp op t x y u) (r1 ++ r2) [] (.ro (.bool q)) :=
  .two hx hy fun w M hd a d ty pos af g h1 h2 => by
    subst hq
    obtain ⟨fs, hu, hok⟩ := hT.u
    have r1 := h1.ro_of
    have r2 := h2.ro_of
    generalize e1 : a.eval x = vx at *
    generalize e2 : a.eval y = vy at *
    cases r1 with
    | agg _ vs l1 o1 v1 =>
    cases r2 with
    | agg _ us l2 o2 v2 =>
    refine ⟨.bool (eqO op (eqA ms bs)), ?_, .ro _ _ (.bool _)⟩
    have hf : P.fieldsOf t = fs := by simp [Program.fieldsOf, hu]
    have he : (Op.equal t (.agg ⟨vs⟩) (.agg ⟨us⟩)).run P w = .ok (eqA ms bs) w := by
      have h := run_equalIn_struct w 9999 t ⟨vs⟩ ⟨us⟩ (by rw [hf]; exact hu) hT.s
      have h2 := run_eqF (w := w) (M := M) (xs := vs) (ys := us) 9998 fs.toList ks ms bs 0 hok ha hb (by omega) (by omega) (fun i a v hi hv => v1 i a v hi (by simpa using hv)) (fun i a v hi hv => v2 i a v hi (by simpa using hv))
      rw [← hf] at h2
      exact h.trans h2
    have hg : (eqGuard op t x y (.agg ⟨vs⟩) (.agg ⟨us⟩)).run P w = .ok () w := by
      cases op <;> simp [isEq] at ho <;> simp [eqGuard, hT.g]
    cases op <;> simp [isEq] at ho <;> simp only [execOp, e1, e2, Sem.run_bind, hg, Result.andThen_ok] <;> simp [binOp, he, eqO]
end Xb
