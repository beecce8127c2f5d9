/- Own text: EFacts. -/
import Derived.Test.YthdbckjpoffnpaaEModels
import Derived.Test.YthdbckjpoffnpaaProg
set_option linter.all false
set_option linter.unusedVariables false
set_option linter.unusedSimpArgs false
set_option linter.unnecessarySimpa false
set_option linter.deprecated false
namespace Xb
open Go Go.Proofs

theorem sf22 : SF Try.prog 22 3 1 := ⟨rfl, ⟨_, rfl, rfl⟩⟩
theorem tf3 : TF Try.prog 3 false 1 := ⟨⟨_, rfl, rfl⟩, ⟨_, rfl, rfl⟩⟩
theorem cf46 : CF Try.prog 46 := fun _ _ => Try.call46 _ _
theorem tf22 : TF Try.prog 22 false 1 := ⟨⟨_, rfl, rfl⟩, ⟨_, rfl, rfl⟩⟩
theorem cf59 : CF Try.prog 59 := fun _ _ => Try.call59 _ _
theorem cf50 : CF Try.prog 50 := fun _ _ => Try.call50 _ _
theorem cv3_35 : (Try.prog.underlying 3).isSome = true ∧ Try.prog.underlying 35 = some (.int .u16) := ⟨rfl, rfl⟩
theorem cf47 : CF Try.prog 47 := fun _ _ => Try.call47 _ _
theorem cf38 : CF Try.prog 38 := fun _ _ => Try.call38 _ _
theorem cf48 : CF Try.prog 48 := fun _ _ => Try.call48 _ _
theorem cf35 : CF Try.prog 35 := fun _ _ => Try.call35 _ _
theorem cf34 : CF Try.prog 34 := fun _ _ => Try.call34 _ _
theorem cf36 : CF Try.prog 36 := fun _ _ => Try.call36 _ _
theorem sf23 : SF Try.prog 23 35 1 := ⟨rfl, ⟨_, rfl, rfl⟩⟩
theorem pf23 : PF Try.prog 23 35 1 := ⟨sf23, ⟨_, _, rfl, rfl, rfl, rfl, by decide, by decide⟩⟩
theorem mixed : Try.prog.follows .mixedOrders = true := rfl
theorem cv64_69 : (Try.prog.underlying 64).isSome = true ∧ Try.prog.underlying 69 = some (.int .u64) := ⟨rfl, rfl⟩
theorem cv69_64 : (Try.prog.underlying 69).isSome = true ∧ Try.prog.underlying 64 = some (.int .u32) := ⟨rfl, rfl⟩
theorem cf69 : CF Try.prog 69 := fun _ _ => Try.call69 _ _
theorem cv3_77 : (Try.prog.underlying 3).isSome = true ∧ Try.prog.underlying 77 = some (.int .u64) := ⟨rfl, rfl⟩
theorem cf60 : CF Try.prog 60 := fun _ _ => Try.call60 _ _
theorem cv77_3 : (Try.prog.underlying 77).isSome = true ∧ Try.prog.underlying 3 = some (.int .i64) := ⟨rfl, rfl⟩
theorem pf22 : PF Try.prog 22 3 1 := ⟨sf22, ⟨_, _, rfl, rfl, rfl, rfl, by decide, by decide⟩⟩
theorem zf3 : ZF Try.prog 3 [.ro (.int .i64 0)] := ⟨_, _, rfl, rfl, rfl⟩
theorem cv35_3 : (Try.prog.underlying 35).isSome = true ∧ Try.prog.underlying 3 = some (.int .i64) := ⟨rfl, rfl⟩
theorem cf49 : CF Try.prog 49 := fun _ _ => Try.call49 _ _
theorem tf35 : TF Try.prog 35 false 1 := ⟨⟨_, rfl, rfl⟩, ⟨_, rfl, rfl⟩⟩
theorem cf37 : CF Try.prog 37 := fun _ _ => Try.call37 _ _
theorem cf11 : CF Try.prog 11 := fun _ _ => Try.call11 _ _
theorem cf10 : CF Try.prog 10 := fun _ _ => Try.call10 _ _
theorem cf12 : CF Try.prog 12 := fun _ _ => Try.call12 _ _
theorem cf13 : CF Try.prog 13 := fun _ _ => Try.call13 _ _
theorem cf9 : CF Try.prog 9 := fun _ _ => Try.call9 _ _
theorem cf15 : CF Try.prog 15 := fun _ _ => Try.call15 _ _
theorem ub4 : Try.prog.underlying 4 = some .bool := rfl
theorem cf14 : CF Try.prog 14 := fun _ _ => Try.call14 _ _
theorem cv5_3 : (Try.prog.underlying 5).isSome = true ∧ Try.prog.underlying 3 = some (.int .i64) := ⟨rfl, rfl⟩

end Xb
