/- Own text: Core22. -/
import Derived.Test.YtemfkddlidfbfaaGreatCore21
set_option linter.all false
set_option linter.unusedVariables false
set_option linter.unusedSimpArgs false
set_option linter.unnecessarySimpa false
set_option linter.deprecated false
/-! Calls that hand back new lists among other results. -/
namespace Xb
open Go

mutual
/-- it names these objects alone -/
def V.onlyI (l : List Nat) : V → Bool
  | .ro _ | .rptr _ | .un => true
  | .own i | .ptr i _ | .view i _ _ _ => l.any fun j => Nat.beq j i
  | .agg cs | .tup cs | .cptr cs => V.onlyIs l cs
  | .may _ x | .ifc _ x => V.onlyI l x
  | .fn _ cs ds => V.onlyIs l cs && V.onlyIs l ds
def V.onlyIs (l : List Nat) : List V → Bool
  | [] => true
  | x :: r => V.onlyI l x && V.onlyIs l r
end

mutual
theorem V.onlyI_men {l : List Nat} {id : Nat} : ∀ {x : V}, x.onlyI l = true → x.men id = true → id ∈ l
  | .ro _, _, h => by simp [V.men] at h
  | .rptr _, _, h => by simp [V.men] at h
  | .un, _, h => by simp [V.men] at h
  | .own i, h1, h2 => by
    simp only [V.onlyI, List.any_eq_true] at h1
    obtain ⟨j, hj, e⟩ := h1
    have e1 := Nat.eq_of_beq_eq_true e
    have e2 := Nat.eq_of_beq_eq_true (show Nat.beq i id = true from h2)
    subst e1; subst e2; exact hj
  | .ptr i _, h1, h2 => by
    simp only [V.onlyI, List.any_eq_true] at h1
    obtain ⟨j, hj, e⟩ := h1
    have e1 := Nat.eq_of_beq_eq_true e
    have e2 := Nat.eq_of_beq_eq_true (show Nat.beq i id = true from h2)
    subst e1; subst e2; exact hj
  | .cptr cs, h1, h2 => V.onlyIs_mens (x := cs) (by simpa [V.onlyI] using h1) (by simpa [V.men] using h2)
  | .agg cs, h1, h2 => V.onlyIs_mens (x := cs) (by simpa [V.onlyI] using h1) (by simpa [V.men] using h2)
  | .tup cs, h1, h2 => V.onlyIs_mens (x := cs) (by simpa [V.onlyI] using h1) (by simpa [V.men] using h2)
  | .may _ x, h1, h2 => V.onlyI_men (x := x) (by simpa [V.onlyI] using h1) (by simpa [V.men] using h2)
  | .ifc _ x, h1, h2 => V.onlyI_men (x := x) (by simpa [V.onlyI] using h1) (by simpa [V.men] using h2)
  | .view i _ _ _, h1, h2 => by
    simp only [V.onlyI, List.any_eq_true] at h1
    obtain ⟨j, hj, e⟩ := h1
    have e1 := Nat.eq_of_beq_eq_true e
    have e2 := Nat.eq_of_beq_eq_true (show Nat.beq i id = true from h2)
    subst e1; subst e2; exact hj
  | .fn _ cs ds, h1, h2 => by
    simp only [V.onlyI, Bool.and_eq_true] at h1
    simp only [V.men, Bool.or_eq_true] at h2
    exact h2.elim (V.onlyIs_mens h1.1) (V.onlyIs_mens h1.2)
theorem V.onlyIs_mens {l : List Nat} {id : Nat} : ∀ {x : List V}, V.onlyIs l x = true → V.mens id x = true → id ∈ l
  | [], _, h => by simp [V.mens] at h
  | x :: r, h1, h2 => by
    simp only [V.onlyIs, Bool.and_eq_true] at h1
    simp only [V.mens, Bool.or_eq_true] at h2
    exact h2.elim (V.onlyI_men h1.1) (V.onlyIs_mens h1.2)
end

def O.isArr : O → Bool
  | .arr _ _ _ => true
  | _ => false

theorem lk_mem {α : Type} : ∀ {l : List (Nat × α)} {i : Nat} {x : α}, lk l i = some x → (i, x) ∈ l
  | [], _, _, h => by simp [lk] at h
  | (j, y) :: l, i, x, h => by
    simp only [lk] at h
    cases hb : Nat.beq j i with
    | true => rw [hb] at h; simp at h; rw [Nat.eq_of_beq_eq_true hb, h]; simp
    | false => rw [hb] at h; exact List.mem_cons_of_mem _ (lk_mem h)

/-- a call that hands back new lists -/
theorem cnf {P : Program} {ops : Array Oper} {S S' : St} {os : List Oper} {es : List Eff} {d : Option Nat} {ty : TypeId} {pos : String} {af : Array Edge} {f : FuncId} {xs : Array Operand} {ts : Array TypeId} {args : List V} {r : V} {ob : List (Nat × O)} (K : Nat)
    (hF : CF P f) (hC : AC P f args r ob) (hx : Evs S xs.toList args) (hm : r.onlyI (ob.map (·.1)) = true) (hO : (ob.all fun p => p.2.isArr) = true) (hf : ((shiftI K ob).all S.free) = true)
    (D : Der P ops ((me (rds xs.toList args) [] (r.ren K) (shift K ob) (shiftI K ob)).app d S) os es S') :
    Der P ops S (⟨d, .call ⟨.value (.func f), xs, ts⟩, ty, pos, af, none⟩ :: os) (me (rds xs.toList args) [] (r.ren K) (shift K ob) (shiftI K ob) :: es) S' :=
  cn K hF hC hx
    (fun id h => by
      have := V.onlyI_men hm h
      obtain ⟨p, hp, rfl⟩ := List.mem_map.1 this
      exact List.mem_map.2 ⟨p, hp, rfl⟩)
    (fun i x id h hm' => by
      have h' := lk_mem h
      obtain ⟨p, hp, e⟩ := List.mem_map.1 h'
      have := List.all_eq_true.1 hO p hp
      simp only [Prod.mk.injEq, Option.some.injEq] at e
      rw [← e.2] at hm'
      cases hp2 : p.2 <;> rw [hp2] at this hm' <;> simp [O.isArr] at this
      simp [O.men] at hm')
    hf D
end Xb
