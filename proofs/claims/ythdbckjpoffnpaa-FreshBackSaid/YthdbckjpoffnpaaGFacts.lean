/- Own text: GFacts. -/
import Derived.Test.YthdbckjpoffnpaaGModels
import Derived.Test.YthdbckjpoffnpaaProg
set_option linter.all false
set_option linter.unusedVariables false
set_option linter.unusedSimpArgs false
set_option linter.unnecessarySimpa false
set_option linter.deprecated false
namespace Xb
open Go Go.Proofs

theorem cf55 : CF Try.prog 55 := fun _ _ => Try.call55 _ _
theorem tf69 : TF Try.prog 69 false 1 := ⟨⟨_, rfl, rfl⟩, ⟨_, rfl, rfl⟩⟩
theorem sf37 : SF Try.prog 37 5 1 := ⟨rfl, ⟨_, rfl, rfl⟩⟩
theorem pf37 : PF Try.prog 37 5 1 := ⟨sf37, ⟨_, _, rfl, rfl, rfl, rfl, by decide, by decide⟩⟩
theorem zf5 : ZF Try.prog 5 [.ro (.int .u8 0)] := ⟨_, _, rfl, rfl, rfl⟩
theorem zf37_0 : ZF Try.prog 37 [.ro (.raw (.slice none 0 0))] := ⟨_, _, rfl, rfl, rfl⟩
theorem tf37 : TF Try.prog 37 false 1 := ⟨⟨_, rfl, rfl⟩, ⟨_, rfl, rfl⟩⟩
theorem cf56 : CF Try.prog 56 := fun _ _ => Try.call56 _ _
theorem cv69_5 : (Try.prog.underlying 69).isSome = true ∧ Try.prog.underlying 5 = some (.int .u8) := ⟨rfl, rfl⟩
theorem tf5 : TF Try.prog 5 false 1 := ⟨⟨_, rfl, rfl⟩, ⟨_, rfl, rfl⟩⟩
theorem cf67 : CF Try.prog 67 := fun _ _ => Try.call67 _ _
theorem sf81 : SF Try.prog 81 37 1 := ⟨rfl, ⟨_, rfl, rfl⟩⟩
theorem cf51 : CF Try.prog 51 := fun _ _ => Try.call51 _ _
theorem cf40 : CF Try.prog 40 := fun _ _ => Try.call40 _ _
theorem pf81 : PF Try.prog 81 37 1 := ⟨sf81, ⟨_, _, rfl, rfl, rfl, rfl, by decide, by decide⟩⟩
theorem cf39 : CF Try.prog 39 := fun _ _ => Try.call39 _ _
theorem sf49 : SF Try.prog 49 66 2 := ⟨rfl, ⟨_, rfl, rfl⟩⟩
theorem tf66 : TF Try.prog 66 true 2 := ⟨⟨_, rfl, rfl⟩, ⟨_, rfl, rfl⟩⟩
theorem zf66 : ZF Try.prog 66 [.ro (.int .u32 0), .ro (.int .u8 0)] := ⟨_, _, rfl, rfl, rfl⟩
theorem ff66_0 : FF Try.prog 66 0 0 64 ∧ ∃ i, Try.prog.info? 64 = some i ∧ i.size ≠ 0 := ⟨⟨_, _, rfl, rfl, rfl, rfl⟩, _, rfl, by decide⟩
theorem tf64 : TF Try.prog 64 false 1 := ⟨⟨_, rfl, rfl⟩, ⟨_, rfl, rfl⟩⟩
theorem cv64_69 : (Try.prog.underlying 64).isSome = true ∧ Try.prog.underlying 69 = some (.int .u64) := ⟨rfl, rfl⟩
theorem cf43 : CF Try.prog 43 := fun _ _ => Try.call43 _ _
theorem ff66_1 : FF Try.prog 66 1 1 5 ∧ ∃ i, Try.prog.info? 5 = some i ∧ i.size ≠ 0 := ⟨⟨_, _, rfl, rfl, rfl, rfl⟩, _, rfl, by decide⟩
theorem cf19 : CF Try.prog 19 := fun _ _ => Try.call19 _ _
theorem tf3 : TF Try.prog 3 false 1 := ⟨⟨_, rfl, rfl⟩, ⟨_, rfl, rfl⟩⟩
theorem cf58 : CF Try.prog 58 := fun _ _ => Try.call58 _ _
theorem cv5_69 : (Try.prog.underlying 5).isSome = true ∧ Try.prog.underlying 69 = some (.int .u64) := ⟨rfl, rfl⟩
theorem zf49_0 : ZF Try.prog 49 [.ro (.raw (.slice none 0 0))] := ⟨_, _, rfl, rfl, rfl⟩
theorem cf44 : CF Try.prog 44 := fun _ _ => Try.call44 _ _
theorem tf49 : TF Try.prog 49 false 1 := ⟨⟨_, rfl, rfl⟩, ⟨_, rfl, rfl⟩⟩
theorem cf45 : CF Try.prog 45 := fun _ _ => Try.call45 _ _
theorem cv69_64 : (Try.prog.underlying 69).isSome = true ∧ Try.prog.underlying 64 = some (.int .u32) := ⟨rfl, rfl⟩
theorem bf66 : BF Try.prog 66 [(0, 1), (1, 1)] := ⟨_, rfl, rfl⟩
theorem pf49 : PF Try.prog 49 66 2 := ⟨sf49, ⟨_, _, rfl, rfl, rfl, rfl, by decide, by decide⟩⟩
theorem mixed : Try.prog.follows .mixedOrders = true := rfl
theorem cf57 : CF Try.prog 57 := fun _ _ => Try.call57 _ _
theorem eo83 : ∀ x, ElemOK Try.prog 5 ((A.int .u8) x) := fun _ => rfl
theorem mz83 : ∃ i zv, Try.prog.info? 5 = some i ∧ i.zero = some zv ∧ ∀ w M, VR w M ((A.int .u8) 0) zv := ⟨_, _, rfl, rfl, fun _ _ => .int _ _ (by decide) (by decide)⟩
theorem mf83 : MF Try.prog 83 64 5 .u32 := ⟨rfl, rfl⟩
theorem qf66 : QF Try.prog 66 [.int .u32, .int .u8] := ⟨⟨_, rfl, rfl⟩, by kernel_rfl, by kernel_rfl⟩
theorem us9 : Try.prog.underlying 9 = some .string := rfl
theorem bt37_9 : SF Try.prog 37 5 1 ∧ Try.prog.underlying 5 = some (.int .u8) ∧ Try.prog.underlying 9 = some .string := ⟨sf37, rfl, us9⟩
theorem cv5_64 : (Try.prog.underlying 5).isSome = true ∧ Try.prog.underlying 64 = some (.int .u32) := ⟨rfl, rfl⟩
theorem cf71 : CF Try.prog 71 := fun _ _ => Try.call71 _ _
theorem xf53 : XF Try.prog 53 Extern.BytealgCount.count := fun args w => run_callFunc_extern Try.func53 (by kernel_rfl) (by kernel_rfl) (by kernel_rfl) (by kernel_rfl) args w
theorem cf41 : CF Try.prog 41 := fun _ _ => Try.call41 _ _
theorem zf4 : ZF Try.prog 4 [.ro (.bool false)] := ⟨_, _, rfl, rfl, rfl⟩
theorem cf31 : CF Try.prog 31 := fun _ _ => Try.call31 _ _
theorem zf25 : ZF Try.prog 25 [.ro (.int .i64 0)] := ⟨_, _, rfl, rfl, rfl⟩
theorem tf25 : TF Try.prog 25 false 1 := ⟨⟨_, rfl, rfl⟩, ⟨_, rfl, rfl⟩⟩
theorem tf4 : TF Try.prog 4 false 1 := ⟨⟨_, rfl, rfl⟩, ⟨_, rfl, rfl⟩⟩
theorem cf21 : CF Try.prog 21 := fun _ _ => Try.call21 _ _
theorem cf30 : CF Try.prog 30 := fun _ _ => Try.call30 _ _
theorem cf42 : CF Try.prog 42 := fun _ _ => Try.call42 _ _
theorem cf32 : CF Try.prog 32 := fun _ _ => Try.call32 _ _
theorem cf33 : CF Try.prog 33 := fun _ _ => Try.call33 _ _
theorem cf29 : CF Try.prog 29 := fun _ _ => Try.call29 _ _
theorem ub4 : Try.prog.underlying 4 = some .bool := rfl
theorem cv35_3 : (Try.prog.underlying 35).isSome = true ∧ Try.prog.underlying 3 = some (.int .i64) := ⟨rfl, rfl⟩

end Xb
