/- Own text: Core21. -/
import Derived.Test.YtemfkddlidfbfaaGreatCore20
import Derived.Laws.Externs
import Derived.Shelf.Bytes.SlCountOne
set_option linter.all false
set_option linter.unusedVariables false
set_option linter.unusedSimpArgs false
set_option linter.unnecessarySimpa false
set_option linter.deprecated false
/-! Functions of the library without a body. -/
namespace Xb
open Go

/-- a function whose deed the model holds -/
def XF (P : Program) (f : FuncId) (e : Array Value → Sem Value) : Prop := ∀ (args : Array Value) (w : World), (callFunc f args).run P w = ((e args).run P w).andThen fun v w' => .ok (.value v) w'

def countB (l : List Int) (c : Int) : Int := (Lib.countByte (Lib.bytesOf l) c.toNat.toUInt8 : Nat)

section
variable {P : Program} {S : St}

theorem count_run {w : World} {M : Nat → Prop} {l : List Int} {y : Value} {c : Int} (hr : VR w M (.list 1 (l.map e8)) y) :
    (Extern.BytealgCount.count #[y, .int .u8 c]).run P w = .ok (.int .i64 (countB l c)) w ∧ l.length ≤ maxLen := by
  have hfl : (l.map e8).flatten = l.map (fun n => A.int .u8 n) := by
    clear hr
    induction l with
    | nil => rfl
    | cons n l ih => simp [e8] at ih ⊢; exact ih
  generalize hl : A.list 1 (l.map e8) = z at hr
  cases hr <;> simp at hl
  · obtain ⟨_, rfl⟩ := hl
    rename_i o cap hc _
    refine ⟨?_, Nat.zero_le _⟩
    cases o with
    | none => exact Lib.run_countNil w 0 cap c
    | some ad => exact Lib.run_countAt w ad 0 cap [] rfl (fun i hi => by omega) c
  · rename_i l' b off cap vs h1 h2 hM hb hs hlen hc ho hv
    obtain ⟨rfl, rfl⟩ := hl
    rw [hfl] at hlen hv
    simp only [List.length_map] at h1 hlen ⊢
    refine ⟨Lib.run_countSlice w b off l.length cap l rfl (fun i hi => ?_) c, by omega⟩
    have hi' : i < vs.length := by omega
    have h3 := hc i vs[i] (List.getElem?_eq_getElem hi')
    have h4 := hv i (.int .u8 l[i]) vs[i] (by simp [hi]) (List.getElem?_eq_getElem hi')
    rw [h3]
    generalize vs[i] = y at h4
    cases h4 with
    | int _ _ _ _ => simp [List.getD, hi]

/-- how often a byte stands in a list -/
theorem ctb {f : FuncId} {x y : Operand} {ts : Array TypeId} {l : List Int} {c : Int} {r1 r2 : List (Nat × V)} (hX : XF P f Extern.BytealgCount.count) (hx : Er S x (.ro (.list 1 (l.map e8))) r1) (hy : Er S y (.ro (.int .u8 c)) r2) :
    OpV P S (.call ⟨.value (.func f), #[x, y], ts⟩) (r1 ++ r2) [] (.ro (.int .i64 (countB l c))) :=
  .two hx hy fun w M hd a d ty pos af g h1 h2 => by
    obtain ⟨e2, _⟩ := h2.int_inv
    obtain ⟨hrun, hl⟩ := count_run (P := P) (c := c) h1.ro_of
    have hle : countB l c ≤ l.length := by
      unfold countB Lib.countByte
      have := List.count_le_length (a := c.toNat.toUInt8) (l := Lib.bytesOf l)
      simp [Lib.bytesOf] at this ⊢; exact this
    have h0 : 0 ≤ countB l c := by unfold countB; omega
    refine ⟨.int .i64 (countB l c), ?_, .ro _ _ (.int _ _ (by rw [min_i64]; omega) (by rw [max_i64]; unfold maxLen at hl; omega))⟩
    simp only [execOp, resolve, Act.eval, Deferred.ofValue, Sem.run_bind, Sem.run_pure, Result.andThen_ok, invoke]
    have := hX #[a.eval x, a.eval y] w
    rw [e2, hrun] at this
    simpa [e2] using this
end
end Xb
