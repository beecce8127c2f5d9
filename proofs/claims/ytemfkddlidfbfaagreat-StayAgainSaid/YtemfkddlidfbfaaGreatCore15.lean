/- Own text: Core15. -/
import Derived.Test.YtemfkddlidfbfaaGreatCore14
set_option linter.all false
set_option linter.unusedVariables false
set_option linter.unusedSimpArgs false
set_option linter.unnecessarySimpa false
set_option linter.deprecated false
/-! More operations; and the question whether a list is nil. -/
namespace Xb
open Go

section
variable {P : Program} {ops : Array Oper} {S S' : St} {os : List Oper} {es : List Eff}
variable {d : Option Nat} {ty : TypeId} {pos : String} {af : Array Edge} {op : Op} {rs : List (Nat × V)} {ro : List (Nat × O)} {v : V}

theorem lnm {α : Type} {F : α → List A} {t e : TypeId} {sz sz' : Nat} {x : Operand} {l : List α} (hT : SF P t e sz) {rs : List (Nat × V)} (hx : Er S x (.ro (.list sz' (l.map F))) rs) :
    OpV P S (.call ⟨.builtin .len, #[x], #[t]⟩) rs [] (.ro (.int .i64 l.length)) := by
  have := ln hT hx; rwa [List.length_map] at this

theorem lom {α : Type} {F : α → List A} {t e e' : TypeId} {sz sz' i1 : Nat} {x : Operand} {l : List α} {rs : List (Nat × V)} (hT : SF P t e sz) (hx : Er S x (.own i1) rs) (hO : S.go i1 = some (.arr e' sz' (l.map F))) :
    OpV P S (.call ⟨.builtin .len, #[x], #[t]⟩) rs [(i1, .arr e' sz' (l.map F))] (.ro (.int .i64 l.length)) := by
  have := lo hT hx hO; rwa [List.length_map] at this

theorem anm {α : Type} (F : α → List A) (id : Nat) (e : TypeId) (sz : Nat) {x : Operand} (hx : x = .const (.slice none 0 0)) (hf : S.free id = true)
    (D : Der P ops ((me [] [] (.own id) [(id, some (.arr e sz (([] : List α).map F)))] [id]).app d S) os es S') :
    Der P ops S (⟨d, .assign x, ty, pos, af, none⟩ :: os) (me [] [] (.own id) [(id, some (.arr e sz (([] : List α).map F)))] [id] :: es) S' := an id e sz hx hf D

/-- a text of another name -/
theorem cs {src dst : TypeId} {x : Operand} {s : List UInt8} (hk : P.underlying src = some .string ∧ P.underlying dst = some .string) {rs : List (Nat × V)} (hx : Er S x (.ro (.str s)) rs) :
    OpV P S (.convert src dst x) rs [] (.ro (.str s)) :=
  .one hx (fun w M hd a d ty pos af g h1 => by
    obtain ⟨e1, hl⟩ := h1.str_inv
    refine ⟨a.eval x, ?_, h1⟩
    simp [execOp, e1, convert, run_underlying hk.1, run_underlying hk.2])

theorem pkb {c x y : Operand} {b m n : Bool} {r1 r2 r3 : List (Nat × V)} (hc : Er S c (.ro (.bool b)) r1) (hx : Er S x (.ro (.bool m)) r2) (hy : Er S y (.ro (.bool n)) r3) :
    OpV P S (.pick c x y) (r1 ++ (r2 ++ r3)) [] (.ro (.bool (bif b then m else n))) := pk hc hx hy (by cases b <;> rfl)
theorem pki {c x y : Operand} {b : Bool} {k : IntKind} {m n : Int} {r1 r2 r3 : List (Nat × V)} (hc : Er S c (.ro (.bool b)) r1) (hx : Er S x (.ro (.int k m)) r2) (hy : Er S y (.ro (.int k n)) r3) :
    OpV P S (.pick c x y) (r1 ++ (r2 ++ r3)) [] (.ro (.int k (bif b then m else n))) := pk hc hx hy (by cases b <;> rfl)

theorem bt_run {t u e : TypeId} {l : List Int} {w : World} {M : Nat → Prop} {y : Value} (hT : SF P t e 1 ∧ P.underlying e = some (.int .u8) ∧ P.underlying u = some .string) (hr : VR w M (.list 1 (l.map e8)) y) :
    l.length ≤ maxLen ∧ (convert t u y).run P w = .ok (.string ⟨(b2s l).toArray⟩) w := by
  obtain ⟨hS, h8, hU⟩ := hT
  have hfl : (l.map e8).flatten = l.map (fun n => A.int .u8 n) := by
    clear hr
    induction l with
    | nil => rfl
    | cons n l ih => simp [e8] at ih ⊢; exact ih
  generalize hl : A.list 1 (l.map e8) = z at hr
  cases hr <;> simp at hl
  · obtain ⟨_, rfl⟩ := hl
    rename_i o cap hc _
    refine ⟨Nat.zero_le _, ?_⟩
    cases o with
    | none => exact run_convert_bytes_nil (P := P) w t e hS.u h8 0 cap u hU
    | some ad =>
      rw [run_convert_bytes_string w t u e (some ad) 0 cap hS.u h8 hU]
      simp [Conv.bytesToString, loadCells, loadCellsFrom, b2s]
      rfl
  · rename_i l' b off cap vs h1 h2 hM hb hs hlen hc ho hv
    obtain ⟨rfl, rfl⟩ := hl
    refine ⟨by simp at h1; omega, ?_⟩
    rw [hfl] at hlen hv
    have := run_convert_bytes_arg (P := P) w t e hS.u h8 b off l.length cap l rfl (fun i hi => by
      have hi' : i < vs.length := by simp at hlen; omega
      have h3 := hc i vs[i] (List.getElem?_eq_getElem hi')
      have h4 := hv i (.int .u8 l[i]) vs[i] (by simp [hi]) (List.getElem?_eq_getElem hi')
      rw [h3]
      generalize vs[i] = y at h4
      cases h4 with
      | int _ _ _ _ => simp [List.getD, hi]) u hU
    simpa [strOfNums, b2s] using this

/-- bytes of one's own, to a text -/
theorem bto {t u e e' : TypeId} {i1 : Nat} {x : Operand} {l : List Int} (hT : SF P t e 1 ∧ P.underlying e = some (.int .u8) ∧ P.underlying u = some .string) {rs : List (Nat × V)} (hx : Er S x (.own i1) rs)
    (hO : S.go i1 = some (.arr e' 1 (l.map e8))) :
    OpV P S (.convert t u x) rs [(i1, .arr e' 1 (l.map e8))] (.ro (.str (b2s l))) := by
  refine ⟨hx.rd, by simp; exact hO, fun C S2 hd a w d ty pos af g hs h2 h3 => ?_⟩
  have e1 := ((hx.of h2).vv hs).own_inv
  have hr := ownsRow_VR (hs.ob i1 _ (h3 (i1, .arr e' 1 (l.map e8)) (by simp))) (fun _ => False) (fun b _ hm => hm.elim) (fun b _ hm => hm)
  obtain ⟨hm, hrun⟩ := bt_run hT hr
  refine ⟨.string ⟨(b2s l).toArray⟩, ?_, .ro _ _ (.str _ (by simp [b2s, hm]))⟩
  rw [← e1.1] at hrun
  simp only [execOp, Sem.run_bind, hrun, Result.andThen_ok, Sem.run_pure]

theorem u_at {C : Ctx} {hd : Nat → Value} {a : Act} {w : World} (hs : Sat' C S hd a w) (hdst : ∀ t, d = some t → C.may t) {y : Value}
    (hr : (execOp a.eval ⟨d, op, ty, pos, af, none⟩).run P w = .ok (.value y) w) (hv : VV w (MM C S hd) hd v y) :
    stepOp P ops ⟨d, op, ty, pos, af, none⟩ a w (fun a' w' => Sat C ((re [] [] v).app d S) a' w') := by
  unfold stepOp
  rw [if_pos (by rfl)]
  simp only [Oper.wp, hr, Oper.upon]
  refine ⟨hd, hs.step (re [] [] v) ⟨fun _ h => (List.not_mem_nil h).elim, fun _ _ h => (List.not_mem_nil h).elim, fun _ _ h => (List.not_mem_nil h).elim, fun _ h => (List.not_mem_nil h).elim⟩ d y hdst (fun _ => False) (Chg.refl w _) (fun _ h => h.elim) (fun _ _ => rfl) (fun _ => ?_) (fun id x h => by cases h)
    (fun id x b h => by cases h) (fun _ _ _ _ _ h => by cases h)⟩
  refine hv.ext (Chg.refl w (fun _ => False)) (fun _ h => h.elim) (fun b _ hm => ?_) (fun _ _ => rfl)
  rcases hm with hm | ⟨id, x, hx, hb⟩
  · exact .inl hm
  · exact .inr ⟨id, x, by rw [app_go] at hx; exact hx, hb⟩

theorem stepOp_mono {o : Oper} {a : Act} {w : World} {K K' : Act → World → Prop} (h : ∀ a w, K a w → K' a w) (hs : stepOp P ops o a w K) : stepOp P ops o a w K' := by
  unfold stepOp at hs ⊢
  split at hs
  · rename_i hw; rw [if_pos hw]; exact Oper.wp_mono h hs
  · rename_i hw; rw [if_neg hw]; exact h _ _ hs

theorem wpOps_cons {o : Oper} {i : Nat} {l : List Nat} {a : Act} {w : World} {Q : Exit → Act → World → Prop} (hl : ops[i]? = some o) (hst : stepOp P ops o a w (wpOps P ops Q l)) : wpOps P ops Q (i :: l) a w := by
  simp only [wpOps, hl]
  unfold stepOp at hst
  split
  · rename_i hw
    rw [if_pos hw] at hst
    left
    unfold Oper.wp at hst ⊢
    generalize (execOp a.eval o).run P w = res at hst
    cases res with
    | ok n w' =>
      cases n <;> simp only [Oper.upon] at hst ⊢ <;> first
        | exact hst
        | exact hst.mono (fun e w'' he => by
            cases e with
            | returned v => exact he
            | panicked ch => exact he.elim
            | outgrown => obtain ⟨_, _, h⟩ := he; exact h.elim)
    | halt x w' => cases x <;> simp only [Oper.upon] at hst
  · rename_i hw
    rw [if_neg hw] at hst
    exact hst

variable {T : Tgt} {C : Ctx} {k : List Item}

/-- whether a list is nil: one of two -/
theorem AK.nq {id : Nat} {ops : Array Oper} {t d1 d2 : Nat} {sty e ty1 ty2 ty3 : TypeId} {sz sz' : Nat} {l : List (List A)} {p1 p2 : String} {af1 af2 : Array Edge}
    (ho : ops.toList = [⟨some d1, .move (.tmp t), ty1, p1, af1, none⟩, ⟨some d2, .binOp .eql sty (.tmp d1) (.const (.slice none 0 0)) ty2, ty3, p2, af2, none⟩])
    (hT : SF P sty e sz') (hS : S.gs t = some (.ro (.list sz l))) (hd : dstOk C.nt C.pn ops.toList = true)
    (h : ∀ b : Bool, (b = true → l = []) → AK P T C k ⟨(d2, .ro (.bool b)) :: (d1, .ro (.list sz l)) :: S.s, S.o⟩) :
    AK P T C (.code (.region id ops false) :: k) S := by
  intro a w hs b cs hf hk hB
  obtain ⟨hd0, hs⟩ := hs
  have hv := (hs.sl t _ hS).2
  have hr := hv.ro_of
  obtain ⟨o, n, c, hval⟩ : ∃ o n c, a.tmps.getD t undef = .slice o n c := by
    generalize a.tmps.getD t undef = y at hr
    cases hr <;> exact ⟨_, _, _, rfl⟩
  have hb0 : o.isNone = true → l = [] := by
    intro ho
    rw [hval] at hr
    cases hr with
    | emp _ _ _ _ => rfl
    | list _ _ _ _ _ _ _ _ => cases ho
  have hsz : ops.size = 2 := by rw [← Array.length_toList, ho]; rfl
  have g0 : ops[0]? = some ⟨some d1, .move (.tmp t), ty1, p1, af1, none⟩ := by rw [← Array.getElem?_toList, ho]; rfl
  have g1 : ops[1]? = some ⟨some d2, .binOp .eql sty (.tmp d1) (.const (.slice none 0 0)) ty2, ty3, p2, af2, none⟩ := by rw [← Array.getElem?_toList, ho]; rfl
  have hwp : wpOps P ops (fun e a w => match e with | .normal => Sat C ⟨(d2, .ro (.bool o.isNone)) :: (d1, .ro (.list sz l)) :: S.s, S.o⟩ a w | _ => False) (List.range 2) a w := by
    refine wpOps_cons (i := 0) g0 ?_
    refine stepOp_mono (K := fun a' w' => a' = a.put (some d1) (.slice o n c) ∧ w' = w) ?_ ?_
    · rintro a' w' ⟨rfl, rfl⟩
      have hs1 : Sat C ⟨(d1, .ro (.list sz l)) :: S.s, S.o⟩ (a.put (some d1) (.slice o n c)) w' := by
        have := u_at (P := P) (ops := #[]) (op := .move (.tmp t)) (ty := ty1) (pos := p1) (af := af1) (v := .ro (.list sz l)) (d := some d1) hs (by intro _ h; cases h; exact dstOk_may hd (o := ⟨some d1, .move (.tmp t), ty1, p1, af1, none⟩) (by rw [ho]; simp) d1 rfl) (y := .slice o n c)
          (by simp [execOp, Act.eval, hval]) (by rw [← hval]; exact hv)
        unfold stepOp at this
        rw [if_pos (by rfl)] at this
        simp only [Oper.wp, execOp, Act.eval, hval, Sem.run_pure, Oper.upon] at this
        exact this
      obtain ⟨hd1, hs1⟩ := hs1
      refine wpOps_cons (i := 1) g1 ?_
      refine stepOp_mono (fun a'' w'' h => h) (u_at hs1 (by intro _ h; cases h; exact dstOk_may hd (o := ⟨some d2, .binOp .eql sty (.tmp d1) (.const (.slice none 0 0)) ty2, ty3, p2, af2, none⟩) (by rw [ho]; simp) d2 rfl) (y := .bool o.isNone) ?_ (.ro _ _ (.bool _)))
      have hlt : d1 < a.tmps.size := by rw [hs.nt]; exact (dstOk_may hd (o := ⟨some d1, .move (.tmp t), ty1, p1, af1, none⟩) (by rw [ho]; simp) d1 rfl).1
      have e1 : (a.put (some d1) (.slice o n c)).tmps.getD d1 undef = .slice o n c := by
        simp [Act.put, Array.getD, hlt]
      have e2 : eqGuard .eql sty (.tmp d1) (.const (.slice none 0 0)) (.slice o n c) (.slice none 0 0) = pure () := by
        simp [eqGuard]
      have he : (Op.equal sty (.slice o n c) (.slice none 0 0)).run P w' = .ok o.isNone w' := by
        have h : ∀ d, (Op.equalIn (d + 1) sty (.slice o n c) (.slice none 0 0)).run P w' = .ok o.isNone w' := fun d => by
          cases o <;> simp only [Op.equalIn, Sem.run_bind, run_underlying hT.u, Result.andThen_ok, Sem.run_pure] <;> rfl
        exact h 9999
      simp only [execOp, Act.eval, e1, e2, Sem.run_bind, Sem.run_pure, Result.andThen_ok]
      simp [binOp, he]
    · unfold stepOp
      rw [if_pos (by rfl)]
      simp [Oper.wp, execOp, Act.eval, hval, Oper.upon]
  rw [← hsz] at hwp
  have hnd : ∀ o, o ∈ ops.toList → ∀ c, o.op ≠ .defer c := by
    rw [ho]; intro o ho' c
    rcases List.mem_cons.1 ho' with rfl | ho'
    · simp
    · rcases List.mem_cons.1 ho' with rfl | ho'
      · simp
      · cases ho'
  obtain ⟨a', w', hq, harr⟩ := wpOps_R (P := P) hnd (List.range ops.size) a w hwp b k cs
  obtain ⟨m, hE, hs2⟩ := h _ hb0 a' w' hq b cs hf hk hB
  exact ⟨m, hE, .head stepR_region (Steps.trans harr hs2)⟩

end
end Xb

namespace Xb
open Go
theorem AK.len {P : Program} {T : Tgt} {C : Ctx} {k : List Item} {S : St} (t : Nat) {sz : Nat} {l : List (List A)} (hS : S.gs t = some (.ro (.list sz l)))
    (h : l.length ≤ maxLen → AK P T C k S) : AK P T C k S := by
  intro a w hs
  refine h ?_ a w hs
  obtain ⟨hd, hs⟩ := hs
  have hr := (hs.sl t _ hS).2.ro_of
  generalize a.tmps.getD t undef = y at hr
  cases hr with
  | emp _ _ _ _ => exact Nat.zero_le _
  | list _ _ b off c vs h1 h2 => exact Nat.le_trans h1 h2
theorem app_nil {α : Type} {l r : List α} (h : app [] l = some r) : l = r := by
  unfold app at h; split at h
  · simpa using h
  · cases h
end Xb

namespace Xb
open Go
/-- a call that hands back a new list -/
theorem cnl {P : Program} {ops : Array Oper} {S S' : St} {os : List Oper} {es : List Eff} {d : Option Nat} {ty : TypeId} {pos : String} {af : Array Edge} {f : FuncId} {xs : Array Operand} {ts : Array TypeId} {args : List V} {e sz : Nat}
    {l : List (List A)} (K : Nat) (hF : CF P f) (hC : AC P f args (.own 0) [(0, .arr e sz l)]) (hx : Evs S xs.toList args) (hf : S.free K = true)
    (D : Der P ops ((me (rds xs.toList args) [] (.own K) [(K, some (.arr e sz l))] [K]).app d S) os es S') :
    Der P ops S (⟨d, .call ⟨.value (.func f), xs, ts⟩, ty, pos, af, none⟩ :: os) (me (rds xs.toList args) [] (.own K) [(K, some (.arr e sz l))] [K] :: es) S' :=
  cn K hF hC hx
    (fun id h => by
      have : id = 0 := by
        have h' : Nat.beq 0 id = true ∨ Nat.beq id 0 = true := by
          first | exact .inl h | exact .inr h
        rcases h' with h' | h' <;> have := Nat.eq_of_beq_eq_true h' <;> omega
      subst this; simp [shiftI])
    (fun i x id h hm => by
      simp only [obs, List.map_cons, List.map_nil, lk] at h
      cases hb : Nat.beq 0 i with
      | true => rw [hb] at h; simp at h; subst h; simp [O.men] at hm
      | false => rw [hb] at h; cases h)
    (by simpa [shiftI] using hf) D
theorem nxi {σ ρ : Type} {s : σ} {u : σ ⊕ ρ} (h : some (Sum.inl s) = some u) : u = .inl s := by simpa using h.symm
end Xb
