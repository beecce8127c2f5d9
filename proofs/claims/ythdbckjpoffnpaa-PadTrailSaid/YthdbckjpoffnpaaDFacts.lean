/- Own text: DFacts. -/
import Derived.Test.YthdbckjpoffnpaaDModels
import Derived.Test.YthdbckjpoffnpaaProg
set_option linter.all false
set_option linter.unusedVariables false
set_option linter.unusedSimpArgs false
set_option linter.unnecessarySimpa false
set_option linter.deprecated false
namespace Xb
open Go Go.Proofs

theorem sf37 : SF Try.prog 37 5 1 := ⟨rfl, ⟨_, rfl, rfl⟩⟩
theorem pf37 : PF Try.prog 37 5 1 := ⟨sf37, ⟨_, _, rfl, rfl, rfl, rfl, by decide, by decide⟩⟩
theorem zf5 : ZF Try.prog 5 [.ro (.int .u8 0)] := ⟨_, _, rfl, rfl, rfl⟩
theorem sf81 : SF Try.prog 81 37 1 := ⟨rfl, ⟨_, rfl, rfl⟩⟩
theorem tf37 : TF Try.prog 37 false 1 := ⟨⟨_, rfl, rfl⟩, ⟨_, rfl, rfl⟩⟩
theorem cf51 : CF Try.prog 51 := fun _ _ => Try.call51 _ _
theorem cf40 : CF Try.prog 40 := fun _ _ => Try.call40 _ _
theorem cv3_5 : (Try.prog.underlying 3).isSome = true ∧ Try.prog.underlying 5 = some (.int .u8) := ⟨rfl, rfl⟩
theorem pf81 : PF Try.prog 81 37 1 := ⟨sf81, ⟨_, _, rfl, rfl, rfl, rfl, by decide, by decide⟩⟩
theorem cf39 : CF Try.prog 39 := fun _ _ => Try.call39 _ _
theorem tf5 : TF Try.prog 5 false 1 := ⟨⟨_, rfl, rfl⟩, ⟨_, rfl, rfl⟩⟩
theorem cv5_3 : (Try.prog.underlying 5).isSome = true ∧ Try.prog.underlying 3 = some (.int .i64) := ⟨rfl, rfl⟩
theorem us9 : Try.prog.underlying 9 = some .string := rfl
theorem bt37_9 : SF Try.prog 37 5 1 ∧ Try.prog.underlying 5 = some (.int .u8) ∧ Try.prog.underlying 9 = some .string := ⟨sf37, rfl, us9⟩
theorem cv5_64 : (Try.prog.underlying 5).isSome = true ∧ Try.prog.underlying 64 = some (.int .u32) := ⟨rfl, rfl⟩
theorem cf71 : CF Try.prog 71 := fun _ _ => Try.call71 _ _
theorem mixed : Try.prog.follows .mixedOrders = true := rfl
theorem xf53 : XF Try.prog 53 Extern.BytealgCount.count := fun args w => run_callFunc_extern Try.func53 (by kernel_rfl) (by kernel_rfl) (by kernel_rfl) (by kernel_rfl) args w
theorem cf41 : CF Try.prog 41 := fun _ _ => Try.call41 _ _
theorem cf25 : CF Try.prog 25 := fun _ _ => Try.call25 _ _
theorem cf21 : CF Try.prog 21 := fun _ _ => Try.call21 _ _
theorem cf27 : CF Try.prog 27 := fun _ _ => Try.call27 _ _
theorem cf23 : CF Try.prog 23 := fun _ _ => Try.call23 _ _
theorem cf17 : CF Try.prog 17 := fun _ _ => Try.call17 _ _
theorem cf19 : CF Try.prog 19 := fun _ _ => Try.call19 _ _
theorem cf26 : CF Try.prog 26 := fun _ _ => Try.call26 _ _
theorem cf22 : CF Try.prog 22 := fun _ _ => Try.call22 _ _
theorem cf16 : CF Try.prog 16 := fun _ _ => Try.call16 _ _
theorem cf18 : CF Try.prog 18 := fun _ _ => Try.call18 _ _
theorem cf20 : CF Try.prog 20 := fun _ _ => Try.call20 _ _
theorem ub4 : Try.prog.underlying 4 = some .bool := rfl
theorem cf24 : CF Try.prog 24 := fun _ _ => Try.call24 _ _
theorem cf28 : CF Try.prog 28 := fun _ _ => Try.call28 _ _
theorem cv35_3 : (Try.prog.underlying 35).isSome = true ∧ Try.prog.underlying 3 = some (.int .i64) := ⟨rfl, rfl⟩

end Xb
