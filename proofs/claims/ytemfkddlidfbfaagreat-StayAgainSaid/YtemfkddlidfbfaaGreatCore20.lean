/- Own text: Core20. -/
import Derived.Test.YtemfkddlidfbfaaGreatCore19
set_option linter.all false
set_option linter.unusedVariables false
set_option linter.unusedSimpArgs false
set_option linter.unnecessarySimpa false
set_option linter.deprecated false
/-! slices.Grow(nil, n): its contract, out of what it does to the memory. -/
namespace Xb
open Go

def growL (n : Int) : Option Unit := if 0 ≤ n ∧ n ≤ 4294967296 then some () else none

theorem AC.grow {α : Type} {F : α → List A} {P : Program} {f : FuncId} {e : TypeId} {sz : Nat}
    (h : ∀ (n : Nat) (w : World), 0 < n → n ≤ 4294967296 → Calls P f #[.slice none 0 0, .int .i64 n] w fun e' w' =>
      ∃ (cs : Array Value) (G : Nat), e' = .returned (.slice (some ⟨w.heap.size, 0, none⟩) 0 G) ∧ cs.size = G * sz ∧ G ≤ maxLen ∧ w' = w.drew.alloc (.cells cs e))
    (h0 : ∀ w, Calls P f #[.slice none 0 0, .int .i64 0] w fun e' w' => e' = .returned (.slice none 0 0) ∧ w' = w) {n : Int} (hn : growL n = some ()) :
    AC P f [.ro (.raw (.slice none 0 0)), .ro (.int .i64 n)] (.own 0) [(0, .arr e sz (([] : List α).map F))] := by
  have hn' : 0 ≤ n ∧ n ≤ 4294967296 := by
    unfold growL at hn; split at hn
    · assumption
    · cases hn
  intro w M0 hM hd vals hl hv
  match vals, hl with
  | [v0, v1], _ =>
    have e0 : v0 = .slice none 0 0 := by
      have := (hv 0 _ v0 rfl rfl).ro_of
      cases this with
      | raw _ _ => rfl
    have e1 : v1 = .int .i64 n := (hv 1 _ v1 rfl rfl).int_inv.1
    subst e0; subst e1
    by_cases hz : n = 0
    · subst hz
      refine (h0 w).mono fun e' w' hp => ?_
      obtain ⟨rfl, rfl⟩ := hp
      refine ⟨.slice none 0 0, fun _ => .slice none 0 0, rfl, .own 0 rfl, ?_⟩
      refine ⟨fun id x hx => ?_, fun b hb => ?_, fun id1 id2 x1 x2 b _ _ hb => (by cases hb), Chg.refl w' _⟩
      · have hx' : x = .arr e sz [] := by
          simp only [obs, List.map_cons, List.map_nil, St.go, lk] at hx
          cases hb : Nat.beq 0 id with
          | true => rw [hb] at hx; simpa using hx.symm
          | false => rw [hb] at hx; simp at hx
        subst hx'
        exact .arr e sz [] [] (World.ownsRow_nil w' 0 e sz) (by simp) (by simp) (by simp)
      · obtain ⟨_, _, _, hb⟩ := hb; cases hb
    · obtain ⟨N, rfl⟩ := Int.eq_ofNat_of_zero_le hn'.1
      refine (h N w (by omega) (by omega)).mono fun e' w' hp => ?_
      obtain ⟨cs, G, rfl, hcs, hG, rfl⟩ := hp
      have hd1 : w.drew.heap = w.heap := rfl
      refine ⟨.slice (some ⟨w.heap.size, 0, none⟩) 0 G, fun _ => .slice (some ⟨w.heap.size, 0, none⟩) 0 G, rfl, .own 0 rfl, ?_⟩
      have hnew : (w.drew.alloc (.cells cs e)).heap[w.heap.size]? = some (.cells cs e (0, 0)) := heap_alloc_new w.drew _
      have hone : ∀ id x, (St.mk [] (obs [(0, O.arr e sz (([] : List α).map F))])).go id = some x → id = 0 ∧ x = .arr e sz [] := fun id x hx => by
        simp only [obs, List.map_cons, List.map_nil, St.go, lk] at hx
        cases hb : Nat.beq 0 id with
        | true => rw [hb] at hx; exact ⟨(Nat.eq_of_beq_eq_true hb).symm, by simpa using hx.symm⟩
        | false => rw [hb] at hx; simp at hx
      refine ⟨fun id x hx => ?_, fun b hb => ?_, fun id1 id2 x1 x2 b h1 h2 _ _ => ?_, ?_⟩
      · obtain ⟨_, rfl⟩ := hone id x hx
        exact .arr e sz [] [] ⟨by simp, .inr ⟨w.heap.size, G, cs, rfl, Nat.zero_le _, hnew, Nat.zero_le _, hG, hcs, by simp⟩⟩ (by simp) (by simp) (by simp)
      · obtain ⟨id, x, hx, hb⟩ := hb
        have : b = w.heap.size := by simpa [blk] using hb.symm
        subst this
        refine ⟨.inl (Nat.le_refl _), ?_⟩
        exact (Array.getElem?_eq_some_iff.1 hnew).1
      · rw [(hone id1 x1 h1).1, (hone id2 x2 h2).1]
      · exact (Chg.alloc w.drew (.cells cs e) (fun _ => False) : Chg w.drew _ _) |> fun c => ⟨c.os, c.tape, c.output, c.size, c.block⟩
end Xb
