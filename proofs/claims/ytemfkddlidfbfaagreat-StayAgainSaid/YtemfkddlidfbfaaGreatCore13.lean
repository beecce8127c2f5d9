/- Own text: Core13. -/
import Derived.Test.YtemfkddlidfbfaaGreatCore12
set_option linter.all false
set_option linter.unusedVariables false
set_option linter.unusedSimpArgs false
set_option linter.unnecessarySimpa false
set_option linter.deprecated false
/-! Regions that draw their order: one derivation, in the text's order, serves every order. -/
namespace Xb
open Go

def keysO (l : List (Nat × Option O)) : List Nat := l.map (·.1)
def nmem (x : Nat) : List Nat → Bool
  | [] => true
  | y :: r => !Nat.beq x y && nmem x r
theorem nmem_spec {x : Nat} : ∀ {l : List Nat}, nmem x l = true → x ∉ l
  | [], _ => by simp
  | y :: r, h => by
    simp only [nmem, Bool.and_eq_true, Bool.not_eq_true'] at h
    intro hm
    rcases List.mem_cons.1 hm with e | hm
    · subst e; simp at h
    · exact nmem_spec h.2 hm
def disj (l m : List Nat) : Bool := l.all fun x => nmem x m
theorem disj_spec {l m : List Nat} (h : disj l m = true) : ∀ x, x ∈ l → x ∉ m := fun x hx => nmem_spec (List.all_eq_true.1 h x hx)

def slots (e : Eff) : List Nat := e.gs.map (·.1) ++ e.rs.map (·.1)
def freeE (id : Nat) (e : Eff) : Bool := !V.men id e.v && freeO id e.wo

/-- may these two be done in either order? (the first one stands first in the text) -/
def indep (d1 : Option Nat) (e1 : Eff) (d2 : Option Nat) (e2 : Eff) : Bool :=
  (match d1 with | some t => nmem t (slots e2) | none => true) && (match d2 with | some t => nmem t (slots e1) | none => true) &&
  (match d1, d2 with | some t, some u => !Nat.beq t u | _, _ => true) &&
  disj (keysO e1.wo) (keysO e2.wo) && disj (keysO e1.wo) (e2.ro.map (·.1)) && disj (keysO e2.wo) (e1.ro.map (·.1)) && e1.fr.all (fun id => freeE id e2)

structure Indep (d1 : Option Nat) (e1 : Eff) (d2 : Option Nat) (e2 : Eff) : Prop where
  a : ∀ t, d1 = some t → t ∉ slots e2
  b : ∀ t, d2 = some t → t ∉ slots e1
  c : ∀ t, d1 = some t → d2 ≠ some t
  k : ∀ x, x ∈ keysO e1.wo → x ∉ keysO e2.wo
  r1 : ∀ x, x ∈ keysO e1.wo → x ∉ e2.ro.map (·.1)
  r2 : ∀ x, x ∈ keysO e2.wo → x ∉ e1.ro.map (·.1)
  f : ∀ id, id ∈ e1.fr → freeE id e2 = true

theorem indep_spec {d1 d2 : Option Nat} {e1 e2 : Eff} (h : indep d1 e1 d2 e2 = true) : Indep d1 e1 d2 e2 := by
  simp only [indep, Bool.and_eq_true] at h
  obtain ⟨⟨⟨⟨⟨⟨h1, h2⟩, h3⟩, h4⟩, h5⟩, h6⟩, h7⟩ := h
  refine ⟨fun t ht => ?_, fun t ht => ?_, fun t ht hu => ?_, disj_spec h4, disj_spec h5, disj_spec h6, fun id hid => List.all_eq_true.1 h7 id hid⟩
  · subst ht; exact nmem_spec h1
  · subst ht; exact nmem_spec h2
  · subst ht; subst hu; simp at h3

theorem lk_keys {l : List (Nat × Option O)} {t : Nat} (h : t ∉ keysO l) : lk l t = none := by
  induction l with
  | nil => rfl
  | cons p l ih =>
    obtain ⟨i, x⟩ := p
    simp only [keysO, List.map_cons, List.mem_cons, not_or] at h
    simp only [lk]
    rw [beq_ne (fun e => h.1 e.symm)]
    exact ih h.2

def full : List Oper → List Eff → St → St
  | o :: os, e :: es, S => full os es (e.app o.dst S)
  | _, _, S => S
def part (L : Nat → Bool) : Nat → List Oper → List Eff → St → St
  | n, o :: os, e :: es, S => part L (n + 1) os es (bif L n then e.app o.dst S else S)
  | _, _, _, S => S

theorem Der.full {P : Program} {ops : Array Oper} {S S' : St} {os : List Oper} {es : List Eff} (D : Der P ops S os es S') : S' = full os es S ∧ os.length = es.length := by
  induction D with
  | nil => exact ⟨rfl, rfl⟩
  | cons _ _ _ ih => exact ⟨ih.1, by simp [ih.2]⟩

/-- states that read alike -/
def Like (S T : St) : Prop := (∀ t, S.gs t = T.gs t) ∧ ∀ i, S.go i = T.go i

theorem Like.app {S T : St} (h : Like S T) (e : Eff) (d : Option Nat) : Like (e.app d S) (e.app d T) :=
  ⟨fun t => by rw [app_gs, app_gs, h.1], fun i => by rw [app_go, app_go, h.2]⟩

theorem Like.part {L : Nat → Bool} : ∀ {os : List Oper} {es : List Eff} {n : Nat} {S T : St}, Like S T → Like (part L n os es S) (part L n os es T)
  | [], _, _, _, _, h => by simpa [Xb.part] using h
  | _ :: _, [], _, _, _, h => by simpa [Xb.part] using h
  | o :: os, e :: es, n, S, T, h => by
    simp only [Xb.part]
    cases L n with
    | true => exact Like.part (h.app e o.dst)
    | false => exact Like.part h

theorem Like.trans {S T U : St} (h : Like S T) (k : Like T U) : Like S U := ⟨fun t => (h.1 t).trans (k.1 t), fun i => (h.2 i).trans (k.2 i)⟩
theorem Like.symm {S T : St} (h : Like S T) : Like T S := ⟨fun t => (h.1 t).symm, fun i => (h.2 i).symm⟩

theorem Like.sat {S T : St} (h : Like S T) {C : Ctx} {a : Act} {w : World} (hs : Sat C S a w) : Sat C T a w := by
  obtain ⟨hd, hs⟩ := hs
  have how : ∀ b, Ow T hd b ↔ Ow S hd b := fun b => by simp only [Ow, h.2]
  have hM : ∀ b, b < w.heap.size → (C.M0 b ∨ Ow T hd b) → (C.M0 b ∨ Ow S hd b) := fun b _ hb => hb.imp id (how b).1
  refine ⟨hd, hs.nt, fun t x hx => ?_, fun i x hx => ?_, fun b hb => hs.lv b ((how b).1 hb), fun i1 i2 x1 x2 b h1 h2 => hs.inj i1 i2 x1 x2 b (by rw [h.2]; exact h1) (by rw [h.2]; exact h2), hs.fr, hs.df⟩
  · obtain ⟨ht, hv⟩ := hs.sl t x (by rw [h.1]; exact hx)
    exact ⟨ht, hv.ext (Chg.refl w (fun _ => False)) (fun _ h => h.elim) hM (fun _ _ => rfl)⟩
  · exact (hs.ob i x (by rw [h.2]; exact hx)).ext (Chg.refl w (fun _ => False)) (fun _ h => h.elim) hM (fun _ _ => rfl) (fun _ _ h => h)

theorem Indep.comm {d1 d2 : Option Nat} {e1 e2 : Eff} (h : Indep d1 e1 d2 e2) (S : St) : Like (e1.app d1 (e2.app d2 S)) (e2.app d2 (e1.app d1 S)) := by
  refine ⟨fun t => ?_, fun i => ?_⟩
  · simp only [app_gs]
    by_cases h1 : d1 = some t
    · rw [if_pos h1, if_neg (h.c t h1), if_pos h1]
    · rw [if_neg h1, if_neg h1]
  · simp only [app_go]
    cases h1 : lk e1.wo i with
    | none => rfl
    | some x =>
      have hk : i ∈ keysO e1.wo := by
        cases hm : decide (i ∈ keysO e1.wo) with
        | true => exact of_decide_eq_true hm
        | false => rw [lk_keys (of_decide_eq_false hm)] at h1; cases h1
      rw [lk_keys (h.k i hk)]

/-- what is independent of all that is done there may be done before -/
theorem part_comm {L : Nat → Bool} {d : Option Nat} {e : Eff} : ∀ {os : List Oper} {es : List Eff} {n : Nat} {S : St},
    (∀ (i : Nat) (o : Oper) (e2 : Eff), os[i]? = some o → es[i]? = some e2 → L (n + i) = true → Indep d e o.dst e2) → Like (e.app d (part L n os es S)) (part L n os es (e.app d S))
  | [], _, _, _, _ => by simp [part, Like]
  | _ :: _, [], _, _, _ => by simp [part, Like]
  | o :: os, e2 :: es, n, S, h => by
    simp only [part]
    have ih : ∀ T, Like (e.app d (part L (n + 1) os es T)) (part L (n + 1) os es (e.app d T)) := fun T => part_comm fun i o e2 ho he hL => h (i + 1) o e2 (by simpa using ho) (by simpa using he) (by rw [show n + (i + 1) = n + 1 + i by omega]; exact hL)
    cases hL : L n with
    | false => exact ih S
    | true => exact (ih _).trans ((h 0 o e2 rfl rfl (by simpa using hL)).comm S).part

/-- a slot's value does not hang on what does not write it -/
theorem part_gs {L : Nat → Bool} {t : Nat} : ∀ {os : List Oper} {es : List Eff} {n : Nat} {S T : St}, os.length = es.length → S.gs t = T.gs t →
    (∀ (i : Nat) (o : Oper), os[i]? = some o → L (n + i) = false → o.dst ≠ some t) → (part L n os es S).gs t = (full os es T).gs t
  | [], _, _, _, _, _, h, _ => by simpa [part, full] using h
  | _ :: _, [], _, _, _, hl, _, _ => by simp at hl
  | o :: os, e :: es, n, S, T, hl, h, hs => by
    simp only [part, full]
    refine part_gs (by simpa using hl) ?_ fun i o ho hL => hs (i + 1) o (by simpa using ho) (by rw [show n + (i + 1) = n + 1 + i by omega]; exact hL)
    cases hL : L n with
    | true => simp only [cond_true, app_gs, h]
    | false =>
      simp only [cond_false, app_gs]
      rw [if_neg (hs 0 o rfl (by simpa using hL))]; exact h
theorem part_go {L : Nat → Bool} {t : Nat} : ∀ {os : List Oper} {es : List Eff} {n : Nat} {S T : St}, os.length = es.length → S.go t = T.go t →
    (∀ (i : Nat) (e : Eff), es[i]? = some e → L (n + i) = false → t ∉ keysO e.wo) → (part L n os es S).go t = (full os es T).go t
  | [], _, _, _, _, _, h, _ => by simpa [part, full] using h
  | _ :: _, [], _, _, _, hl, _, _ => by simp at hl
  | o :: os, e :: es, n, S, T, hl, h, hs => by
    simp only [part, full]
    refine part_go (by simpa using hl) ?_ fun i e he hL => hs (i + 1) e (by simpa using he) (by rw [show n + (i + 1) = n + 1 + i by omega]; exact hL)
    cases hL : L n with
    | true => simp only [cond_true, app_go, h]
    | false =>
      simp only [cond_false, app_go]
      rw [lk_keys (hs 0 e rfl (by simpa using hL))]; exact h

theorem freeS_put {id : Nat} {d : Option Nat} {x : V} {l : List (Nat × V)} : freeS id (putl d x l) = true → freeS id l = true := by
  cases d with
  | none => exact id_fun
  | some t => intro h; simp only [putl, freeS, Bool.and_eq_true] at h; exact h.2
where id_fun {p : Prop} : p → p := fun h => h
theorem freeO_app {id : Nat} : ∀ {l m : List (Nat × Option O)}, freeO id (l ++ m) = true ↔ freeO id l = true ∧ freeO id m = true
  | [], m => by simp [freeO]
  | (i, none) :: l, m => by simp [freeO, freeO_app (l := l) (m := m), and_assoc]
  | (i, some x) :: l, m => by simp [freeO, freeO_app (l := l) (m := m), and_assoc]

theorem free_app {id : Nat} {e : Eff} {d : Option Nat} {S : St} (h : (e.app d S).free id = true) : S.free id = true ∧ freeO id e.wo = true ∧ (d ≠ none → V.men id e.v = false) := by
  simp only [St.free, Eff.app, Bool.and_eq_true, freeO_app] at h
  obtain ⟨h1, h2, h3⟩ := h
  refine ⟨by simp only [St.free, Bool.and_eq_true]; exact ⟨freeS_put h1, h3⟩, h2, fun hd => ?_⟩
  cases d with
  | none => exact absurd rfl hd
  | some t => simp only [putl, freeS, Bool.and_eq_true, Bool.not_eq_true'] at h1; exact h1.1
theorem app_free {id : Nat} {e : Eff} {d : Option Nat} {S : St} (h : S.free id = true) (h2 : freeO id e.wo = true) (h3 : d ≠ none → V.men id e.v = false) : (e.app d S).free id = true := by
  simp only [St.free, Bool.and_eq_true] at h
  simp only [St.free, Eff.app, Bool.and_eq_true, freeO_app]
  refine ⟨?_, h2, h.2⟩
  cases d with
  | none => exact h.1
  | some t => simp only [putl, freeS, Bool.and_eq_true, Bool.not_eq_true']; exact ⟨h3 (by simp), h.1⟩

theorem free_full {id : Nat} : ∀ {os : List Oper} {es : List Eff} {S : St}, (full os es S).free id = true → S.free id = true ∧
    ∀ (i : Nat) (o : Oper) (e : Eff), os[i]? = some o → es[i]? = some e → freeO id e.wo = true ∧ (o.dst ≠ none → V.men id e.v = false)
  | [], _, _, h => by simpa [full] using h
  | _ :: _, [], _, h => by simpa [full] using h
  | o :: os, e :: es, S, h => by
    simp only [full] at h
    obtain ⟨h1, h2⟩ := free_full h
    obtain ⟨h3, h4, h5⟩ := free_app h1
    refine ⟨h3, fun i o' e' ho he => ?_⟩
    cases i with
    | zero => simp at ho he; subst ho; subst he; exact ⟨h4, h5⟩
    | succ i => exact h2 i o' e' (by simpa using ho) (by simpa using he)
theorem part_free {id : Nat} {L : Nat → Bool} : ∀ {os : List Oper} {es : List Eff} {n : Nat} {S : St}, S.free id = true →
    (∀ (i : Nat) (o : Oper) (e : Eff), os[i]? = some o → es[i]? = some e → L (n + i) = true → freeO id e.wo = true ∧ (o.dst ≠ none → V.men id e.v = false)) → (part L n os es S).free id = true
  | [], _, _, _, h, _ => by simpa [part] using h
  | _ :: _, [], _, _, h, _ => by simpa [part] using h
  | o :: os, e :: es, n, S, h, hs => by
    simp only [part]
    refine part_free ?_ fun i o e ho he hL => hs (i + 1) o e (by simpa using ho) (by simpa using he) (by rw [show n + (i + 1) = n + 1 + i by omega]; exact hL)
    cases hL : L n with
    | true =>
      obtain ⟨h1, h2⟩ := hs 0 o e rfl rfl (by simpa using hL)
      exact app_free h h1 h2
    | false => exact h

theorem part_split {L : Nat → Bool} : ∀ {os1 : List Oper} {es1 : List Eff} {os2 : List Oper} {es2 : List Eff} {n : Nat} {S : St}, os1.length = es1.length →
    part L n (os1 ++ os2) (es1 ++ es2) S = part L (n + os1.length) os2 es2 (part L n os1 es1 S)
  | [], [], _, _, _, _, _ => by simp [part]
  | [], _ :: _, _, _, _, _, h => by simp at h
  | _ :: _, [], _, _, _, _, h => by simp at h
  | o :: os1, e :: es1, os2, es2, n, S, h => by
    simp only [List.cons_append, part, List.length_cons]
    rw [part_split (by simpa using h)]
    rw [show n + 1 + os1.length = n + (os1.length + 1) by omega]

theorem part_congr {L L' : Nat → Bool} : ∀ {os : List Oper} {es : List Eff} {n : Nat} {S : St}, (∀ i, i < os.length → L (n + i) = L' (n + i)) → part L n os es S = part L' n os es S
  | [], _, _, _, _ => by simp [part]
  | _ :: _, [], _, _, _ => by simp [part]
  | o :: os, e :: es, n, S, h => by
    simp only [part]
    have h0 := h 0 (by simp)
    simp only [Nat.add_zero] at h0
    rw [h0]
    exact part_congr fun i hi => by have := h (i + 1) (by simp; omega); rwa [show n + (i + 1) = n + 1 + i by omega] at this

theorem part_all {L : Nat → Bool} : ∀ {os : List Oper} {es : List Eff} {n : Nat} {S : St}, (∀ i, i < os.length → L (n + i) = true) → part L n os es S = full os es S
  | [], _, _, _, _ => by simp [part, full]
  | _ :: _, [], _, _, _ => by simp [part, full]
  | o :: os, e :: es, n, S, h => by
    simp only [part, full]
    have h0 := h 0 (by simp)
    simp only [Nat.add_zero] at h0
    rw [h0]
    exact part_all fun i hi => by have := h (i + 1) (by simp; omega); rwa [show n + (i + 1) = n + 1 + i by omega] at this

/-- the pairs of a region: each one in an order that stands, or free of the other one -/
def Pairs (os : List Oper) (es : List Eff) (Anc : Nat → Nat → Prop) : Prop :=
  ∀ (i j : Nat) (o1 o2 : Oper) (e1 e2 : Eff), i < j → os[i]? = some o1 → os[j]? = some o2 → es[i]? = some e1 → es[j]? = some e2 → Anc j i ∨ Indep o1.dst e1 o2.dst e2

theorem der_pre {P : Program} {ops : Array Oper} : ∀ {os : List Oper} {es : List Eff} {S S' : St}, Der P ops S os es S' → ∀ (j : Nat) (o : Oper) (e : Eff), os[j]? = some o → es[j]? = some e →
    e.pre (full (os.take j) (es.take j) S) ∧ Trip P ops o e := by
  intro os es S S' D
  induction D with
  | nil => intro j o e ho; simp at ho
  | cons ht hp _ ih =>
    intro j o e ho he
    cases j with
    | zero => simp at ho he; subst ho; subst he; exact ⟨by simpa [full] using hp, ht⟩
    | succ j =>
      simp only [List.take_succ_cons, full]
      exact ih j o e (by simpa using ho) (by simpa using he)

theorem pick_one {P : Program} {ops : Array Oper} {os : List Oper} {es : List Eff} {S S' : St} (D : Der P ops S os es S') {Anc : Nat → Nat → Prop} (hp : Pairs os es Anc) {L : Nat → Bool} {j : Nat} {o : Oper} {e : Eff}
    (ho : os[j]? = some o) (he : es[j]? = some e) (hj : L j = false) (hanc : ∀ i, Anc j i → L i = true) (hdc : ∀ i k, L i = true → Anc i k → L k = true) :
    Trip P ops o e ∧ e.pre (part L 0 os es S) ∧ Like (e.app o.dst (part L 0 os es S)) (part (fun i => if i = j then true else L i) 0 os es S) := by
  have hlen := D.full.2
  have hjl : j < os.length := (List.getElem?_eq_some_iff.1 ho).1
  obtain ⟨hpre, ht⟩ := der_pre D j o e ho he
  -- split
  have e1 : os = os.take j ++ o :: os.drop (j + 1) := by
    conv => lhs; rw [← List.take_append_drop j os]
    congr 1
    rw [List.drop_eq_getElem_cons hjl]
    congr 1
    rw [List.getElem?_eq_getElem hjl] at ho; exact Option.some.inj ho
  have hje : j < es.length := by omega
  have e2 : es = es.take j ++ e :: es.drop (j + 1) := by
    conv => lhs; rw [← List.take_append_drop j es]
    congr 1
    rw [List.drop_eq_getElem_cons hje]
    congr 1
    rw [List.getElem?_eq_getElem hje] at he; exact Option.some.inj he
  have hl1 : (os.take j).length = (es.take j).length := by simp [hlen]
  have hlj : (os.take j).length = j := by simp; omega
  have sp : ∀ M : Nat → Bool, part M 0 os es S = part M (j + 1) (os.drop (j + 1)) (es.drop (j + 1)) (bif M j then e.app o.dst (part M 0 (os.take j) (es.take j) S) else part M 0 (os.take j) (es.take j) S) := fun M => by
    conv => lhs; rw [e1, e2]
    rw [part_split hl1]
    simp only [part, Nat.zero_add, hlj]
  have early : ∀ i o1 e1', i < j → os[i]? = some o1 → es[i]? = some e1' → L i = false → Indep o1.dst e1' o.dst e := fun i o1 e1' hi h1 h2 hL => by
    rcases hp i j o1 o e1' e hi h1 ho h2 he with h | h
    · rw [hanc i h] at hL; cases hL
    · exact h
  have late : ∀ i o2 e2', j < i → os[i]? = some o2 → es[i]? = some e2' → L i = true → Indep o.dst e o2.dst e2' := fun i o2 e2' hi h1 h2 hL => by
    rcases hp j i o o2 e e2' hi ho h1 he h2 with h | h
    · rw [hdc i j hL h] at hj; cases hj
    · exact h
  have tk : ∀ {α : Type} (l : List α) (i : Nat) (x : α), (l.take j)[i]? = some x → i < j ∧ l[i]? = some x := fun l i x h => by
    rw [List.getElem?_take] at h
    split at h
    · exact ⟨‹_›, h⟩
    · cases h
  -- the precondition behind the first part
  let T := part L 0 (os.take j) (es.take j) S
  have hTpre : e.pre T := by
    have gsT : ∀ t, t ∈ slots e → T.gs t = (full (os.take j) (es.take j) S).gs t := fun t ht => part_gs hl1 rfl fun i o1 h1 hL => by
      obtain ⟨hi, h1⟩ := tk os i o1 h1
      have h2 : es[i]? = some (es[i]'(by omega)) := List.getElem?_eq_getElem _
      exact fun hd => (early i o1 _ hi h1 h2 (by simpa using hL)).a t hd ht
    have goT : ∀ t, t ∈ e.ro.map (·.1) → T.go t = (full (os.take j) (es.take j) S).go t := fun t ht => part_go hl1 rfl fun i e1' h1 hL => by
      obtain ⟨hi, h1⟩ := tk es i e1' h1
      have h2 : os[i]? = some (os[i]'(by omega)) := List.getElem?_eq_getElem _
      exact fun hk => (early i _ e1' hi h2 h1 (by simpa using hL)).r1 t hk ht
    refine ⟨fun p hp => ?_, fun hc p hp => ?_, fun hc p hp => ?_, fun id hid => ?_⟩
    · rw [gsT p.1 (List.mem_append_left _ (List.mem_map_of_mem hp))]; exact hpre.gs p hp
    · rw [gsT p.1 (List.mem_append_right _ (List.mem_map_of_mem hp))]; exact hpre.rs hc p hp
    · rw [goT p.1 (List.mem_map_of_mem hp)]; exact hpre.ro hc p hp
    · obtain ⟨h1, h2⟩ := free_full (hpre.fr id hid)
      exact part_free h1 fun i o1 e1' h3 h4 _ => h2 i o1 e1' h3 h4
  have hlate : ∀ (i : Nat) (o2 : Oper) (e2' : Eff), (os.drop (j + 1))[i]? = some o2 → (es.drop (j + 1))[i]? = some e2' → L (j + 1 + i) = true → Indep o.dst e o2.dst e2' := fun i o2 e2' h1 h2 hL => by
    rw [List.getElem?_drop] at h1 h2
    exact late (j + 1 + i) o2 e2' (by omega) h1 h2 hL
  have hsp := sp L
  rw [hj] at hsp
  simp only [cond_false] at hsp
  refine ⟨ht, ?_, ?_⟩
  · rw [hsp]
    have keepS : ∀ {os : List Oper} {es : List Eff} {n : Nat} {T : St}, (∀ (i : Nat) (o2 : Oper) (e2' : Eff), os[i]? = some o2 → es[i]? = some e2' → L (n + i) = true → Indep o.dst e o2.dst e2') → e.pre T → e.pre (part L n os es T) := by
      intro os
      induction os with
      | nil => intro es n T _ h; simpa [part] using h
      | cons o2 os ih =>
        intro es n T hI h
        cases es with
        | nil => simpa [part] using h
        | cons e2' es =>
          simp only [part]
          refine ih (fun i o3 e3 h1 h2 hL => hI (i + 1) o3 e3 (by simpa using h1) (by simpa using h2) (by rw [show n + (i + 1) = n + 1 + i by omega]; exact hL)) ?_
          cases hL : L n with
          | false => exact h
          | true =>
            have hin := hI 0 o2 e2' rfl rfl (by simpa using hL)
            refine ⟨fun p hp => ?_, fun hc p hp => ?_, fun hc p hp => ?_, fun id hid => ?_⟩
            · simp only [cond_true, app_gs]
              rw [if_neg (fun hd => hin.b p.1 hd (List.mem_append_left _ (List.mem_map_of_mem hp)))]; exact h.gs p hp
            · simp only [cond_true, app_gs]
              rw [if_neg (fun hd => hin.b p.1 hd (List.mem_append_right _ (List.mem_map_of_mem hp)))]; exact h.rs hc p hp
            · simp only [cond_true, app_go]
              rw [lk_keys (fun hk => hin.r2 p.1 hk (List.mem_map_of_mem hp))]; exact h.ro hc p hp
            · have hf := hin.f id hid
              simp only [freeE, Bool.and_eq_true, Bool.not_eq_true'] at hf
              exact app_free (h.fr id hid) hf.2 (fun _ => hf.1)
    exact keepS hlate hTpre
  · have hsp2 := sp (fun i => if i = j then true else L i)
    simp only [if_true, cond_true] at hsp2
    rw [hsp, hsp2]
    have c1 : part (fun i => if i = j then true else L i) 0 (os.take j) (es.take j) S = T := part_congr fun i hi => by
      rw [hlj] at hi
      simp only [Nat.zero_add]
      rw [if_neg (by omega)]
    have c2 : ∀ U, part (fun i => if i = j then true else L i) (j + 1) (os.drop (j + 1)) (es.drop (j + 1)) U = part L (j + 1) (os.drop (j + 1)) (es.drop (j + 1)) U := fun U => part_congr fun i _ => by
      rw [if_neg (by omega)]
    rw [c1, c2]
    exact part_comm hlate

/-! which operation waits for which -/

inductive Anc (os : List Oper) : Nat → Nat → Prop
  | one {i : Nat} {o : Oper} {e : Edge} (ho : os[i]? = some o) (he : e ∈ o.after) (hb : Region.binds .any e = true) : Anc os i e.on
  | more {i j : Nat} {o : Oper} {e : Edge} (ho : os[i]? = some o) (he : e ∈ o.after) (hb : Region.binds .any e = true) (h : Anc os e.on j) : Anc os i j

def maskOf (acc : List Nat) (o : Oper) : Nat := o.after.toList.foldl (fun s e => bif Region.binds .any e then s ||| 2 ^ e.on ||| acc.getD e.on 0 else s) 0
def masks : List Nat → List Oper → List Nat
  | acc, [] => acc
  | acc, o :: os => masks (acc ++ [maskOf acc o]) os

theorem maskOf_spec {acc : List Nat} {o : Oper} {j : Nat} (h : (maskOf acc o).testBit j = true) : ∃ e, e ∈ o.after ∧ Region.binds .any e = true ∧ (e.on = j ∨ (acc.getD e.on 0).testBit j = true) := by
  have gen : ∀ (l : List Edge) (s : Nat), (l.foldl (fun s e => bif Region.binds .any e then s ||| 2 ^ e.on ||| acc.getD e.on 0 else s) s).testBit j = true →
      s.testBit j = true ∨ ∃ e, e ∈ l ∧ Region.binds .any e = true ∧ (e.on = j ∨ (acc.getD e.on 0).testBit j = true) := by
    intro l
    induction l with
    | nil => intro s h; exact .inl h
    | cons e l ih =>
      intro s h
      simp only [List.foldl_cons] at h
      rcases ih _ h with h1 | ⟨e', h1, h2, h3⟩
      · cases hb : Region.binds .any e with
        | false => rw [hb] at h1; exact .inl h1
        | true =>
          rw [hb] at h1
          simp only [cond_true, Nat.testBit_or, Bool.or_eq_true] at h1
          rcases h1 with (h1 | h1) | h1
          · exact .inl h1
          · rw [Nat.testBit_two_pow] at h1
            exact .inr ⟨e, by simp, hb, .inl (of_decide_eq_true h1)⟩
          · exact .inr ⟨e, by simp, hb, .inr h1⟩
      · exact .inr ⟨e', by simp [h1], h2, h3⟩
  rcases gen o.after.toList 0 h with h1 | ⟨e, h1, h2, h3⟩
  · simp at h1
  · exact ⟨e, by simpa using h1, h2, h3⟩

theorem masks_spec {all : List Oper} : ∀ {os : List Oper} {acc : List Nat}, all.drop acc.length = os → (∀ i j, (acc.getD i 0).testBit j = true → Anc all i j) →
    ∀ i j, ((masks acc os).getD i 0).testBit j = true → Anc all i j
  | [], acc, _, h => h
  | o :: os, acc, hd, h => by
    simp only [masks]
    have hlt : acc.length < all.length := by
      rcases Nat.lt_or_ge acc.length all.length with h' | h'
      · exact h'
      · rw [List.drop_eq_nil_of_le h'] at hd; cases hd
    have ho : all[acc.length]? = some o := by
      rw [List.drop_eq_getElem_cons hlt] at hd
      rw [List.getElem?_eq_getElem hlt]; exact congrArg some (List.cons.inj hd).1
    refine masks_spec (all := all) (by rw [List.length_append, List.length_singleton, ← List.drop_drop, hd]; rfl) fun i j hij => ?_
    by_cases hi : i < acc.length
    · simp only [List.getD, List.getElem?_append_left hi] at hij; exact h i j hij
    · by_cases hi2 : i = acc.length
      · subst hi2
        have e : (acc ++ [maskOf acc o]).getD acc.length 0 = maskOf acc o := by simp [List.getD]
        rw [e] at hij
        obtain ⟨ed, h1, h2, h3⟩ := maskOf_spec hij
        rcases h3 with rfl | h3
        · exact .one ho h1 h2
        · exact .more ho h1 h2 (h _ _ h3)
      · have e : (acc ++ [maskOf acc o]).getD i 0 = 0 := by
          simp only [List.getD]
          rw [List.getElem?_eq_none (by simp; omega)]; rfl
        rw [e] at hij; simp at hij

/-- the check of a region's pairs -/
def checkRow (m : Nat) (d : Option Nat) (e : Eff) : Nat → List Oper → List Eff → Bool
  | i, o :: os, e1 :: es => (m.testBit i || indep o.dst e1 d e) && checkRow m d e (i + 1) os es
  | _, _, _ => true
def checkPairs (ms : List Nat) (os0 : List Oper) (es0 : List Eff) : Nat → List Oper → List Eff → Bool
  | j, o :: os, e :: es => checkRow (ms.getD j 0) o.dst e 0 (os0.take j) (es0.take j) && checkPairs ms os0 es0 (j + 1) os es
  | _, _, _ => true
def early (i : Nat) (o : Oper) : Bool := o.after.toList.all fun e => !Region.binds .any e || Nat.blt e.on i
def earlies : Nat → List Oper → Bool
  | _, [] => true
  | i, o :: os => early i o && earlies (i + 1) os
def checkR (os : List Oper) (es : List Eff) : Bool := earlies 0 os && checkPairs (masks [] os) os es 0 os es

theorem checkRow_spec {m : Nat} {d : Option Nat} {e : Eff} (os : List Oper) : ∀ (es : List Eff) (n : Nat), checkRow m d e n os es = true → ∀ (i : Nat) (o : Oper) (e1 : Eff), os[i]? = some o → es[i]? = some e1 →
    m.testBit (n + i) = true ∨ Indep o.dst e1 d e := by
  induction os with
  | nil => intro es n _ i o e1 ho; simp at ho
  | cons o os ih =>
    intro es n h i o' e' ho he
    cases es with
    | nil => simp at he
    | cons e1 es =>
      rw [checkRow, Bool.and_eq_true, Bool.or_eq_true] at h
      cases i with
      | zero => simp at ho he; subst ho; subst he; exact h.1.imp (fun h => h) indep_spec
      | succ i =>
        have := ih es (n + 1) h.2 i o' e' (by simpa using ho) (by simpa using he)
        rwa [show n + 1 + i = n + (i + 1) by omega] at this

theorem checkPairs_spec {ms : List Nat} {os0 : List Oper} {es0 : List Eff} (os : List Oper) : ∀ (es : List Eff) (n : Nat), checkPairs ms os0 es0 n os es = true → ∀ (j : Nat) (o : Oper) (e : Eff), os[j]? = some o → es[j]? = some e →
    checkRow (ms.getD (n + j) 0) o.dst e 0 (os0.take (n + j)) (es0.take (n + j)) = true := by
  induction os with
  | nil => intro es n _ i o e1 ho; simp at ho
  | cons o os ih =>
    intro es n h j o' e' ho he
    cases es with
    | nil => simp at he
    | cons e es =>
      rw [checkPairs, Bool.and_eq_true] at h
      cases j with
      | zero => simp only [List.getElem?_cons_zero, Option.some.injEq] at ho he; subst ho; subst he; exact h.1
      | succ j =>
        have := ih es (n + 1) h.2 j o' e' (by simpa using ho) (by simpa using he)
        rwa [show n + 1 + j = n + (j + 1) by omega] at this

theorem checkR_pairs {os : List Oper} {es : List Eff} (h : checkR os es = true) : Pairs os es (Anc os) := by
  intro i j o1 o2 e1 e2 hij h1 h2 h3 h4
  rw [checkR, Bool.and_eq_true] at h
  have hr := checkPairs_spec os es 0 h.2 j o2 e2 h2 h4
  simp only [Nat.zero_add] at hr
  have ht : (os.take j)[i]? = some o1 := by rw [List.getElem?_take, if_pos hij]; exact h1
  have he : (es.take j)[i]? = some e1 := by rw [List.getElem?_take, if_pos hij]; exact h3
  rcases checkRow_spec _ _ 0 hr i o1 e1 ht he with h5 | h5
  · simp only [Nat.zero_add] at h5
    exact .inl (masks_spec (all := os) (acc := []) rfl (by simp) j i h5)
  · exact .inr h5

theorem earlies_spec (os : List Oper) : ∀ (n : Nat), earlies n os = true → ∀ (i : Nat) (o : Oper), os[i]? = some o → ∀ e, e ∈ o.after → Region.binds .any e = true → e.on < n + i := by
  induction os with
  | nil => intro n _ i o ho; simp at ho
  | cons o os ih =>
    intro n h i o' ho e he hb
    rw [earlies, Bool.and_eq_true] at h
    cases i with
    | zero =>
      simp only [List.getElem?_cons_zero, Option.some.injEq] at ho; subst ho
      have := List.all_eq_true.1 h.1 e (by simpa using he)
      rw [hb] at this
      simpa using this
    | succ i =>
      have := ih (n + 1) h.2 i o' (by simpa using ho) e he hb
      omega

theorem count_set : ∀ (l : List Bool) (i : Nat), l[i]? = some false → ((l.set i true).filter (fun b => !b)).length + 1 = (l.filter (fun b => !b)).length
  | [], i, h => by simp at h
  | b :: l, 0, h => by simp at h; subst h; simp
  | b :: l, i + 1, h => by
    have := count_set l i (by simpa using h)
    cases b <;> simp [List.filter_cons] <;> omega

section
variable {P : Program} {T : Tgt} {C : Ctx} {k : List Item} {S : St}

theorem mem_ready' {ops : Array Oper} {listed : Array Bool} {i : Nat} : i ∈ Region.ready .any ops listed ↔
    i < ops.size ∧ listed.getD i true = false ∧ ((ops[i]?).map (·.after.all fun e => !Region.binds .any e || listed.getD e.on false)).getD false = true := by
  simp only [Region.ready, List.mem_filter, List.mem_range, Bool.and_eq_true, Bool.not_eq_true']

theorem wpAny_of_Der {ops : Array Oper} {Q : Exit → Act → World → Prop} {S S' : St} {es : List Eff} (D : Der P ops S ops.toList es S') (hc : checkR ops.toList es = true) (hd : dstOk C.nt C.pn ops.toList = true)
    (hq : ∀ a w, Sat C S' a w → Q .normal a w) : ∀ (fuel : Nat) (listed : Array Bool) (a : Act) (w : World), listed.size = ops.size → (listed.toList.filter (fun b => !b)).length ≤ fuel →
      (∀ i j, listed.getD i false = true → Anc ops.toList i j → listed.getD j false = true) → Sat C (part (fun i => listed.getD i false) 0 ops.toList es S) a w → wpAny P .any ops Q fuel listed a w := by
  have hpairs := checkR_pairs hc
  have hearly := earlies_spec ops.toList 0 (by rw [checkR, Bool.and_eq_true] at hc; exact hc.1)
  have alldone : ∀ (listed : Array Bool) a w, listed.size = ops.size → (∀ i, i < ops.size → listed.getD i false = true) → Sat C (part (fun i => listed.getD i false) 0 ops.toList es S) a w → Q .normal a w := by
    intro listed a w hsz hall hs
    rw [part_all (fun i hi => by simpa using hall i (by simpa using hi)), ← D.full.1] at hs
    exact hq a w hs
  have getD_eq : ∀ (listed : Array Bool) i, i < listed.size → listed.getD i true = listed.getD i false := fun listed i hi => by simp [Array.getD, hi]
  -- some operation is ready as long as one is left
  have exists_ready : ∀ (listed : Array Bool), listed.size = ops.size → Region.ready .any ops listed = [] → ∀ i, i < ops.size → listed.getD i false = true := by
    intro listed hsz hr i
    induction i using Nat.strongRecOn with
    | _ i ih =>
      intro hi
      cases hL : listed.getD i false with
      | true => rfl
      | false =>
        have : i ∈ Region.ready .any ops listed := by
          rw [mem_ready']
          refine ⟨hi, by rw [getD_eq listed i (by omega)]; exact hL, ?_⟩
          have ho : ops[i]? = some ops[i] := Array.getElem?_eq_getElem hi
          simp only [ho, Option.map_some, Option.getD_some, Array.all_eq_true']
          intro e he
          cases hb : Region.binds .any e with
          | false => simp
          | true =>
            have hlt := hearly i ops[i] (by simpa using ho) e he hb
            simp only [Nat.zero_add] at hlt
            have := ih e.on hlt (by omega)
            simp [this]
        rw [hr] at this; cases this
  intro fuel
  induction fuel with
  | zero =>
    intro listed a w hsz hf hdc hs
    have hall : ∀ i, i < ops.size → listed.getD i false = true := by
      intro i hi
      cases hL : listed.getD i false with
      | true => rfl
      | false =>
        have : false ∈ listed.toList.filter (fun b => !b) := by
          rw [List.mem_filter]
          refine ⟨?_, rfl⟩
          have hi' : i < listed.size := by omega
          simp only [Array.getD, hi', dif_pos] at hL
          rw [← hL]
          exact Array.getElem_mem_toList hi'
        have := List.length_pos_of_mem this
        omega
    refine ⟨?_, alldone listed a w hsz hall hs⟩
    rw [List.eq_nil_iff_forall_not_mem]
    intro i hi
    rw [mem_ready'] at hi
    have := hall i hi.1
    rw [getD_eq listed i (by omega), this] at hi
    cases hi.2.1
  | succ fuel ih =>
    intro listed a w hsz hf hdc hs
    refine ⟨fun hr => alldone listed a w hsz (exists_ready listed hsz hr) hs, fun i hi => ?_⟩
    rw [mem_ready'] at hi
    obtain ⟨hi, hun, hall⟩ := hi
    have hun' : listed.getD i false = false := by rw [← getD_eq listed i (by omega)]; exact hun
    have ho : ops[i]? = some ops[i] := Array.getElem?_eq_getElem hi
    have ho' : ops.toList[i]? = some ops[i] := by simpa using ho
    have hlen := D.full.2
    have he : es[i]? = some (es[i]'(by rw [← hlen]; simpa using hi)) := List.getElem?_eq_getElem _
    simp only [ho, Option.map_some, Option.getD_some, Array.all_eq_true'] at hall
    have hanc : ∀ j, Anc ops.toList i j → listed.getD j false = true := by
      intro j hj
      cases hj with
      | one h1 h2 h3 =>
        rw [ho'] at h1; cases h1
        have := hall _ h2
        simpa [h3] using this
      | more h1 h2 h3 h4 =>
        rw [ho'] at h1; cases h1
        have := hall _ h2
        rw [h3] at this
        exact hdc _ j (by simpa using this) h4
    obtain ⟨htrip, hpre, hlike⟩ := pick_one D hpairs (L := fun i => listed.getD i false) ho' he hun' hanc (fun i k h1 h2 => hdc i k h1 h2)
    have hset : ∀ k, (listed.setIfInBounds i true).getD k false = if k = i then true else listed.getD k false := fun k => by
      by_cases hk : k = i
      · subst hk
        rw [if_pos rfl]
        have : k < listed.size := by omega
        simp [Array.getD, this]
      · rw [if_neg hk]
        simp only [Array.getD_eq_getD_getElem?]
        rw [Array.getElem?_setIfInBounds_ne (fun e => hk e.symm)]
    have hnext : ∀ a' w', Sat C ((es[i]'(by rw [← hlen]; simpa using hi)).app (ops[i]).dst (part (fun i => listed.getD i false) 0 ops.toList es S)) a' w' →
        wpAny P .any ops Q fuel (listed.setIfInBounds i true) a' w' := fun a' w' hs' => by
      refine ih _ a' w' (by simp [hsz]) ?_ (fun x y hx hxy => ?_) ?_
      · have hi' : i < listed.toList.length := by simp; omega
        have := count_set listed.toList i (by
          have hi2 : i < listed.size := by omega
          simp only [Array.getD, hi2, dif_pos] at hun'
          rw [List.getElem?_eq_getElem hi']
          exact congrArg some (by simpa using hun'))
        rw [Array.toList_setIfInBounds]
        omega
      · rw [hset] at hx ⊢
        by_cases hy : y = i
        · rw [if_pos hy]
        · rw [if_neg hy]
          by_cases hxi : x = i
          · subst hxi; exact hanc y hxy
          · rw [if_neg hxi] at hx; exact hdc x y hx hxy
      · have e : (fun i' => (listed.setIfInBounds i true).getD i' false) = (fun k => if k = i then true else listed.getD k false) := funext hset
        rw [e]
        exact hlike.sat hs'
    have hdst : ∀ t, (ops[i]).dst = some t → C.may t := dstOk_may hd (Array.getElem_mem_toList hi)
    have hst := htrip C _ a w hs hpre hdst
    unfold wpOp
    simp only [ho]
    unfold stepOp at hst
    split
    · rename_i hw
      rw [if_pos hw] at hst
      left
      have h1 : (ops[i]).wp P a w (wpAny P .any ops Q fuel (listed.setIfInBounds i true)) (fun _ _ _ => False) := Oper.wp_mono hnext hst
      unfold Oper.wp at h1 ⊢
      generalize (execOp a.eval ops[i]).run P w = res at h1
      cases res with
      | ok n w' =>
        cases n <;> simp only [Oper.upon] at h1 ⊢ <;> first
          | exact h1
          | exact h1.mono (fun e w'' he => by
              cases e with
              | returned v => exact he
              | panicked ch => exact he.elim
              | outgrown => obtain ⟨_, _, h⟩ := he; exact h.elim)
      | halt x w' => cases x <;> simp only [Oper.upon] at h1
    · rename_i hw
      rw [if_neg hw] at hst
      exact hnext _ _ hst

theorem Sat.drew {S : St} {a : Act} {w : World} (h : Sat C S a w) : Sat C S a { w with drawn := w.drawn + 1 } := by
  obtain ⟨hd, hs⟩ := h
  have hch : Chg w { w with drawn := w.drawn + 1 } (fun _ => False) := ⟨rfl, rfl, rfl, Nat.le_refl _, fun _ _ _ => rfl⟩
  refine ⟨hd, hs.nt, fun t x hx => ?_, fun i x hx => ?_, hs.lv, hs.inj, ⟨hs.fr.os, hs.fr.tape, hs.fr.output, hs.fr.size, hs.fr.block⟩, ⟨hs.df.df, hs.df.nd, hs.df.mkd, hs.df.fx, hs.df.pn⟩⟩
  · exact ⟨(hs.sl t x hx).1, (hs.sl t x hx).2.ext hch (fun _ h => h.elim) (fun _ _ h => h) (fun _ _ => rfl)⟩
  · exact (hs.ob i x hx).ext hch (fun _ h => h.elim) (fun _ _ h => h) (fun _ _ => rfl) (fun _ _ h => h)

/-- a region whose order is drawn -/
theorem AK.rd {id : Nat} {ops : Array Oper} {es : List Eff} {S' : St} (hm : P.follows .mixedOrders = true) (D : Der P ops S ops.toList es S') (hc : checkR ops.toList es = true) (hd : dstOk C.nt C.pn ops.toList = true)
    (h : AK P T C k S') : AK P T C (.code (.region id ops true) :: k) S := by
  intro a w hs b cs hf hk hB
  have hwp : ∀ t, wpOps P ops (fun e a w => match e with | .normal => Sat C S' a w | _ => False) (Region.schedule (P.follows .mixedOrders) ops t) a { w with drawn := w.drawn + 1 } := fun t => by
    simp only [Region.schedule, hm, Bool.true_or, if_true]
    refine wpAny_sound ops.size t _ a _ (wpAny_of_Der (C := C) D hc hd (fun _ _ h => h) ops.size _ a _ (by simp) (by
      refine Nat.le_trans (List.length_filter_le _ _) (by simp)) (fun i j hi _ => ?_) ?_)
    · by_cases h : i < ops.size <;> simp [Array.getD, h] at hi
    · have e : (fun i => (Array.replicate ops.size false).getD i false) = fun _ => false := funext fun i => by
        by_cases h : i < ops.size <;> simp [Array.getD, h]
      rw [e]
      have none : ∀ (os : List Oper) (es : List Eff) (n : Nat) (S : St), part (fun _ => false) n os es S = S := by
        intro os
        induction os with
        | nil => intros; simp [part]
        | cons o os ih =>
          intro es n S
          cases es with
          | nil => simp [part]
          | cons e es => simp [part, ih]
      rw [none]
      exact hs.drew
  obtain ⟨a', w', hq, harr⟩ := wpOps_R (P := P) (fun o ho => dstOk_def hd ho) _ a _ (hwp (w.tape w.drawn (.order b.fn id))) b k cs
  obtain ⟨m, hE, hs2⟩ := h a' w' hq b cs hf hk hB
  exact ⟨m, hE, .head stepR_region_draw (Steps.trans harr hs2)⟩

end
end Xb
