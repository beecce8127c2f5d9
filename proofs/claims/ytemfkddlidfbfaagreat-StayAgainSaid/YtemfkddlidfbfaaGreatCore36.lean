/- Own text: Core36. -/
import Derived.Test.YtemfkddlidfbfaaGreatCore35
set_option linter.all false
set_option linter.unusedVariables false
set_option linter.unusedSimpArgs false
set_option linter.unnecessarySimpa false
set_option linter.deprecated false
/-! Guards that are known. -/
namespace Xb
open Go

theorem ifT {α : Type} {b : Bool} {x y z : α} (h : (if b = true then x else y) = z) (hb : b = true) : x = z := by rw [if_pos hb] at h; exact h
theorem ifF {α : Type} {b : Bool} {x y z : α} (h : (if b = true then x else y) = z) (hb : b = false) : y = z := by rw [hb] at h; exact h
theorem btf (b : Bool) : b = true ∨ b = false := by cases b <;> simp

section
variable {P : Program} {ops : Array Oper} {S S' : St} {os : List Oper} {es : List Eff}
variable {d : Option Nat} {ty : TypeId} {pos : String} {af : Array Edge} {op : Op}

theorem gdk {j t : Nat} {want b : Bool} {e : Eff} (hj : gslot ops j = some t) (hg : S.gs t = some (.ro (.bool b))) (hb : b = want) (h : Der P ops S (⟨d, op, ty, pos, af, none⟩ :: os) (e :: es) S') :
    Der P ops S (⟨d, op, ty, pos, af, some (j, want)⟩ :: os) ({ e with gs := (t, .ro (.bool b)) :: e.gs } :: es) S' := by
  cases h with
  | cons ht hp D =>
    refine .cons (fun C S2 a w hs hp2 hdst => ?_) ⟨fun p hpm => ?_, hp.rs, hp.ro, hp.fr⟩ D
    · have h1 := ht C S2 a w hs ⟨fun p hpm => hp2.gs p (List.mem_cons_of_mem _ hpm), hp2.rs, hp2.ro, hp2.fr⟩ hdst
      obtain ⟨hd, hs'⟩ := hs
      unfold stepOp at h1 ⊢
      rw [if_pos (by simp [Region.wanted])] at h1
      rw [if_pos ((wanted_iff hs' hj (hp2.gs _ (List.mem_cons_self ..))).2 hb)]
      exact h1
    · rcases List.mem_cons.1 hpm with rfl | hpm
      · exact hg
      · exact hp.gs p hpm

/-- a method's value, that is only looked at -/
theorem mfm {g : Fn} {x : Operand} {v : V} {rs : List (Nat × V)} (hx : Er S x v rs) : OpV P S (.makeFunc g #[x] #[]) rs [] (.fn g [v] []) :=
  .one hx fun w M hd a d ty pos af g' h1 => ⟨.func g #[a.eval x] #[], by simp [execOp, Instr.makeFunc],
    .fn g [v] [] [a.eval x] [] rfl rfl (fun i y u hy hu => by
      cases i with
      | zero => simp at hy hu; subst hy; subst hu; exact h1
      | succ i => simp at hy) (fun i y u hy hu => by simp at hy)⟩
def NM (P : Program) (t : TypeId) (name : String) : Prop :=
  ∃ i m f fl e, P.info? t = some i ∧ (i.methods.find? fun x => x.name == name) = some m ∧ m.path = #[] ∧ m.func = some (f, fl) ∧ P.underlying t = some (.pointer e)
theorem nkm {t : TypeId} {name : String} {x : Operand} {id o : Nat} {rs : List (Nat × V)} (hN : NM P t name) (hx : Er S x (.fn (.method name) [.ifc t (.ptr id o)] []) rs) :
    OpV P S (.nilCheck x) rs [] (.fn (.method name) [.ifc t (.ptr id o)] []) :=
  .one hx fun w M hd a d ty pos af g' h1 => by
    obtain ⟨b, us, e⟩ : ∃ (b : Nat) (us : Array Value), a.eval x = .func (.method name) #[.iface t (.pointer (some ⟨b, o, none⟩))] us := by
      have h2 := h1
      generalize a.eval x = u at h2
      cases h2 with
      | fn _ _ _ vs us hl _ hv _ =>
        match vs, hl with
        | [u], _ =>
          have h3 := hv 0 _ u rfl rfl
          cases h3 with
          | ifc _ _ u' h4 =>
            obtain ⟨b, _, e⟩ := h4.ptr_inv
            subst e
            exact ⟨b, _, rfl⟩
    refine ⟨a.eval x, ?_, h1⟩
    obtain ⟨i, m, f, fl, q, hi, hm, hp, hf, hu⟩ := hN
    have hn : (nilAhead (P.types.size + Made.depth) t (.pointer (some ⟨b, o, none⟩)) name).run P w = .ok (some false) w := by
      obtain ⟨n, hn⟩ : ∃ n, P.types.size + Made.depth = n + 1 := ⟨P.types.size + Made.depth - 1, by unfold Made.depth; omega⟩
      rw [hn]
      cases fl <;> simp [nilAhead, typeInfo, hi, hm, hp, hf, followBlind, run_underlying hu]
    simp only [execOp, e]
    simp [Sem.run_bind, hn]
/-- a choice that is known -/
theorem pkt {c x y : Operand} {b : Bool} {v : V} {r1 r2 : List (Nat × V)} (hb : b = true) (hc : Er S c (.ro (.bool b)) r1) (hx : Er S x v r2) : OpV P S (.pick c x y) (r1 ++ r2) [] v :=
  .two hc hx fun w M hd a d ty pos af g h1 h2 => by
    subst hb
    exact ⟨a.eval x, by simp [execOp, h1.bool_inv, asBool], h2⟩
theorem pkf {c x y : Operand} {b : Bool} {v : V} {r1 r2 : List (Nat × V)} (hb : b = false) (hc : Er S c (.ro (.bool b)) r1) (hy : Er S y v r2) : OpV P S (.pick c x y) (r1 ++ r2) [] v :=
  .two hc hy fun w M hd a d ty pos af g h1 h2 => by
    subst hb
    exact ⟨a.eval y, by simp [execOp, h1.bool_inv, asBool], h2⟩
end
end Xb
