/- Own text: HFacts. -/
import Derived.Test.YtbbjigdfgildeaaHModels
import Derived.Test.YtbbjigdfgildeaaProg
set_option linter.all false
set_option linter.unusedVariables false
set_option linter.unusedSimpArgs false
set_option linter.unnecessarySimpa false
set_option linter.deprecated false
namespace Xb
open Go Go.Proofs

theorem ff26_3 : FF Try.prog 26 3 3 3 ∧ ∃ i, Try.prog.info? 3 = some i ∧ i.size ≠ 0 := ⟨⟨_, _, rfl, rfl, rfl, rfl⟩, _, rfl, by decide⟩
theorem tf3 : TF Try.prog 3 false 1 := ⟨⟨_, rfl, rfl⟩, ⟨_, rfl, rfl⟩⟩
theorem ff26_7 : FF Try.prog 26 7 7 24 ∧ ∃ i, Try.prog.info? 24 = some i ∧ i.size ≠ 0 := ⟨⟨_, _, rfl, rfl, rfl, rfl⟩, _, rfl, by decide⟩
theorem tf24 : TF Try.prog 24 false 1 := ⟨⟨_, rfl, rfl⟩, ⟨_, rfl, rfl⟩⟩
theorem sf24 : SF Try.prog 24 23 1 := ⟨rfl, ⟨_, rfl, rfl⟩⟩
theorem ff29_0 : FF Try.prog 29 0 0 26 ∧ ∃ i, Try.prog.info? 26 = some i ∧ i.size ≠ 0 := ⟨⟨_, _, rfl, rfl, rfl, rfl⟩, _, rfl, by decide⟩
theorem ff26_1 : FF Try.prog 26 1 1 4 ∧ ∃ i, Try.prog.info? 4 = some i ∧ i.size ≠ 0 := ⟨⟨_, _, rfl, rfl, rfl, rfl⟩, _, rfl, by decide⟩
theorem tf4 : TF Try.prog 4 false 1 := ⟨⟨_, rfl, rfl⟩, ⟨_, rfl, rfl⟩⟩
theorem ff29_1 : FF Try.prog 29 1 8 22 ∧ ∃ i, Try.prog.info? 22 = some i ∧ i.size ≠ 0 := ⟨⟨_, _, rfl, rfl, rfl, rfl⟩, _, rfl, by decide⟩
theorem tf22 : TF Try.prog 22 false 1 := ⟨⟨_, rfl, rfl⟩, ⟨_, rfl, rfl⟩⟩
theorem ff29_2 : FF Try.prog 29 2 9 27 ∧ ∃ i, Try.prog.info? 27 = some i ∧ i.size ≠ 0 := ⟨⟨_, _, rfl, rfl, rfl, rfl⟩, _, rfl, by decide⟩
theorem tf27 : TF Try.prog 27 false 1 := ⟨⟨_, rfl, rfl⟩, ⟨_, rfl, rfl⟩⟩
theorem sf27 : SF Try.prog 27 5 1 := ⟨rfl, ⟨_, rfl, rfl⟩⟩
theorem ff26_0 : FF Try.prog 26 0 0 4 ∧ ∃ i, Try.prog.info? 4 = some i ∧ i.size ≠ 0 := ⟨⟨_, _, rfl, rfl, rfl, rfl⟩, _, rfl, by decide⟩
theorem ff29_4 : FF Try.prog 29 4 11 3 ∧ ∃ i, Try.prog.info? 3 = some i ∧ i.size ≠ 0 := ⟨⟨_, _, rfl, rfl, rfl, rfl⟩, _, rfl, by decide⟩
theorem tf26 : TF Try.prog 26 true 8 := ⟨⟨_, rfl, rfl⟩, ⟨_, rfl, rfl⟩⟩
theorem cf32 : CF Try.prog 32 := fun _ _ => Try.call32 _ _
theorem cf37 : CF Try.prog 37 := fun _ _ => Try.call37 _ _
theorem ff29_3 : FF Try.prog 29 3 10 27 ∧ ∃ i, Try.prog.info? 27 = some i ∧ i.size ≠ 0 := ⟨⟨_, _, rfl, rfl, rfl, rfl⟩, _, rfl, by decide⟩
theorem mixed : Try.prog.follows .mixedOrders = true := rfl
theorem tf29 : TF Try.prog 29 true 12 := ⟨⟨_, rfl, rfl⟩, ⟨_, rfl, rfl⟩⟩
theorem cf33 : CF Try.prog 33 := fun _ _ => Try.call33 _ _
theorem cf34 : CF Try.prog 34 := fun _ _ => Try.call34 _ _
theorem cf20 : CF Try.prog 20 := fun _ _ => Try.call20 _ _
theorem cf40 : CF Try.prog 40 := fun _ _ => Try.call40 _ _
theorem tf49 : TF Try.prog 49 false 1 := ⟨⟨_, rfl, rfl⟩, ⟨_, rfl, rfl⟩⟩
theorem pf27 : PF Try.prog 27 5 1 := ⟨sf27, ⟨_, _, rfl, rfl, rfl, rfl, by decide, by decide⟩⟩
theorem zf5 : ZF Try.prog 5 [.ro (.int .u8 0)] := ⟨_, _, rfl, rfl, rfl⟩
theorem zf27_0 : ZF Try.prog 27 [.ro (.raw (.slice none 0 0))] := ⟨_, _, rfl, rfl, rfl⟩
theorem cf41 : CF Try.prog 41 := fun _ _ => Try.call41 _ _
theorem cv49_5 : (Try.prog.underlying 49).isSome = true ∧ Try.prog.underlying 5 = some (.int .u8) := ⟨rfl, rfl⟩
theorem tf5 : TF Try.prog 5 false 1 := ⟨⟨_, rfl, rfl⟩, ⟨_, rfl, rfl⟩⟩
theorem cf51 : CF Try.prog 51 := fun _ _ => Try.call51 _ _
theorem cv23_49 : (Try.prog.underlying 23).isSome = true ∧ Try.prog.underlying 49 = some (.int .u64) := ⟨rfl, rfl⟩
theorem cf22 : CF Try.prog 22 := fun _ _ => Try.call22 _ _
theorem sf70 : SF Try.prog 70 27 1 := ⟨rfl, ⟨_, rfl, rfl⟩⟩
theorem cf52 : CF Try.prog 52 := fun _ _ => Try.call52 _ _
theorem cf42 : CF Try.prog 42 := fun _ _ => Try.call42 _ _
theorem cf38 : CF Try.prog 38 := fun _ _ => Try.call38 _ _
theorem cv3_5 : (Try.prog.underlying 3).isSome = true ∧ Try.prog.underlying 5 = some (.int .u8) := ⟨rfl, rfl⟩
theorem ff26_4 : FF Try.prog 26 4 4 22 ∧ ∃ i, Try.prog.info? 22 = some i ∧ i.size ≠ 0 := ⟨⟨_, _, rfl, rfl, rfl, rfl⟩, _, rfl, by decide⟩
theorem cv22_49 : (Try.prog.underlying 22).isSome = true ∧ Try.prog.underlying 49 = some (.int .u64) := ⟨rfl, rfl⟩
theorem ff26_2 : FF Try.prog 26 2 2 4 ∧ ∃ i, Try.prog.info? 4 = some i ∧ i.size ≠ 0 := ⟨⟨_, _, rfl, rfl, rfl, rfl⟩, _, rfl, by decide⟩
theorem ff26_5 : FF Try.prog 26 5 5 23 ∧ ∃ i, Try.prog.info? 23 = some i ∧ i.size ≠ 0 := ⟨⟨_, _, rfl, rfl, rfl, rfl⟩, _, rfl, by decide⟩
theorem tf23 : TF Try.prog 23 false 1 := ⟨⟨_, rfl, rfl⟩, ⟨_, rfl, rfl⟩⟩
theorem cf39 : CF Try.prog 39 := fun _ _ => Try.call39 _ _
theorem ff26_6 : FF Try.prog 26 6 6 23 ∧ ∃ i, Try.prog.info? 23 = some i ∧ i.size ≠ 0 := ⟨⟨_, _, rfl, rfl, rfl, rfl⟩, _, rfl, by decide⟩
theorem pf70 : PF Try.prog 70 27 1 := ⟨sf70, ⟨_, _, rfl, rfl, rfl, rfl, by decide, by decide⟩⟩
theorem cf23 : CF Try.prog 23 := fun _ _ => Try.call23 _ _
theorem cf43 : CF Try.prog 43 := fun _ _ => Try.call43 _ _
theorem cf15 : CF Try.prog 15 := fun _ _ => Try.call15 _ _
theorem cf21 : CF Try.prog 21 := fun _ _ => Try.call21 _ _
theorem cf24 : CF Try.prog 24 := fun _ _ => Try.call24 _ _
theorem cv3_49 : (Try.prog.underlying 3).isSome = true ∧ Try.prog.underlying 49 = some (.int .u64) := ⟨rfl, rfl⟩
theorem cf59 : CF Try.prog 59 := fun _ _ => Try.call59 _ _
theorem cv5_49 : (Try.prog.underlying 5).isSome = true ∧ Try.prog.underlying 49 = some (.int .u64) := ⟨rfl, rfl⟩
theorem cf55 : CF Try.prog 55 := fun _ _ => Try.call55 _ _
theorem cv49_23 : (Try.prog.underlying 49).isSome = true ∧ Try.prog.underlying 23 = some (.int .u32) := ⟨rfl, rfl⟩
theorem zf26 : ZF Try.prog 26 [.ro (.bool false), .ro (.bool false), .ro (.bool false), .ro (.int .i64 0), .ro (.int .u16 0), .ro (.int .u32 0), .ro (.int .u32 0), .ro (.list 1 (List.map (ei .u32) []))] := ⟨_, _, rfl, rfl, rfl⟩
theorem bf26 : BF Try.prog 26 [(0, 1), (1, 1), (2, 1), (3, 1), (4, 1), (5, 1), (6, 1), (7, 1)] := ⟨_, rfl, rfl⟩
theorem cv5_3 : (Try.prog.underlying 5).isSome = true ∧ Try.prog.underlying 3 = some (.int .i64) := ⟨rfl, rfl⟩
theorem zf26_7 : ZF Try.prog 26 [.ro (.bool false), .ro (.bool false), .ro (.bool false), .ro (.int .i64 0), .ro (.int .u16 0), .ro (.int .u32 0), .ro (.int .u32 0), .ro (.raw (.slice none 0 0))] := ⟨_, _, rfl, rfl, rfl⟩
theorem cf53 : CF Try.prog 53 := fun _ _ => Try.call53 _ _
theorem cv23_22 : (Try.prog.underlying 23).isSome = true ∧ Try.prog.underlying 22 = some (.int .u16) := ⟨rfl, rfl⟩
theorem cf54 : CF Try.prog 54 := fun _ _ => Try.call54 _ _
theorem pf24 : PF Try.prog 24 23 1 := ⟨sf24, ⟨_, _, rfl, rfl, rfl, rfl, by decide, by decide⟩⟩
theorem cf58 : CF Try.prog 58 := fun _ _ => Try.call58 _ _
theorem cf60 : CF Try.prog 60 := fun _ _ => Try.call60 _ _
theorem cv49_3 : (Try.prog.underlying 49).isSome = true ∧ Try.prog.underlying 3 = some (.int .i64) := ⟨rfl, rfl⟩
theorem cf56 : CF Try.prog 56 := fun _ _ => Try.call56 _ _
theorem cv49_22 : (Try.prog.underlying 49).isSome = true ∧ Try.prog.underlying 22 = some (.int .u16) := ⟨rfl, rfl⟩
theorem zf29 : ZF Try.prog 29 [.ro (.bool false), .ro (.bool false), .ro (.bool false), .ro (.int .i64 0), .ro (.int .u16 0), .ro (.int .u32 0), .ro (.int .u32 0), .ro (.list 1 (List.map (ei .u32) [])), .ro (.int .u16 0), .ro (.list 1 (List.map e8 [])), .ro (.list 1 (List.map e8 [])), .ro (.int .i64 0)] := ⟨_, _, rfl, rfl, rfl⟩
theorem cf45 : CF Try.prog 45 := fun _ _ => Try.call45 _ _
theorem cf47 : CF Try.prog 47 := fun _ _ => Try.call47 _ _
theorem cf46 : CF Try.prog 46 := fun _ _ => Try.call46 _ _
theorem cf28 : CF Try.prog 28 := fun _ _ => Try.call28 _ _
theorem bf29 : BF Try.prog 29 [(0, 8), (8, 1), (9, 1), (10, 1), (11, 1)] := ⟨_, rfl, rfl⟩
theorem ub4 : Try.prog.underlying 4 = some .bool := rfl
theorem cf49 : CF Try.prog 49 := fun _ _ => Try.call49 _ _
theorem cf35 : CF Try.prog 35 := fun _ _ => Try.call35 _ _
theorem us9 : Try.prog.underlying 9 = some .string := rfl
theorem bt27_9 : SF Try.prog 27 5 1 ∧ Try.prog.underlying 5 = some (.int .u8) ∧ Try.prog.underlying 9 = some .string := ⟨sf27, rfl, us9⟩
theorem cv5_23 : (Try.prog.underlying 5).isSome = true ∧ Try.prog.underlying 23 = some (.int .u32) := ⟨rfl, rfl⟩
theorem cf71 : CF Try.prog 71 := fun _ _ => Try.call71 _ _
theorem xf62 : XF Try.prog 62 Extern.BytealgCount.count := fun args w => run_callFunc_extern Try.func62 (by kernel_rfl) (by kernel_rfl) (by kernel_rfl) (by kernel_rfl) args w
theorem cf57 : CF Try.prog 57 := fun _ _ => Try.call57 _ _
theorem cf50 : CF Try.prog 50 := fun _ _ => Try.call50 _ _
theorem cf36 : CF Try.prog 36 := fun _ _ => Try.call36 _ _
theorem cf9 : CF Try.prog 9 := fun _ _ => Try.call9 _ _
theorem cf13 : CF Try.prog 13 := fun _ _ => Try.call13 _ _
theorem cf10 : CF Try.prog 10 := fun _ _ => Try.call10 _ _
theorem cf16 : CF Try.prog 16 := fun _ _ => Try.call16 _ _
theorem cf17 : CF Try.prog 17 := fun _ _ => Try.call17 _ _
theorem cf19 : CF Try.prog 19 := fun _ _ => Try.call19 _ _
theorem cf11 : CF Try.prog 11 := fun _ _ => Try.call11 _ _
theorem cf44 : CF Try.prog 44 := fun _ _ => Try.call44 _ _
theorem cf26 : CF Try.prog 26 := fun _ _ => Try.call26 _ _
theorem cf25 : CF Try.prog 25 := fun _ _ => Try.call25 _ _
theorem cf27 : CF Try.prog 27 := fun _ _ => Try.call27 _ _
theorem cf48 : CF Try.prog 48 := fun _ _ => Try.call48 _ _
theorem cf30 : CF Try.prog 30 := fun _ _ => Try.call30 _ _
theorem cf29 : CF Try.prog 29 := fun _ _ => Try.call29 _ _
theorem cf31 : CF Try.prog 31 := fun _ _ => Try.call31 _ _
theorem cv23_3 : (Try.prog.underlying 23).isSome = true ∧ Try.prog.underlying 3 = some (.int .i64) := ⟨rfl, rfl⟩
theorem cf14 : CF Try.prog 14 := fun _ _ => Try.call14 _ _
theorem cf12 : CF Try.prog 12 := fun _ _ => Try.call12 _ _
theorem cf6 : CF Try.prog 6 := fun _ _ => Try.call6 _ _
theorem cf7 : CF Try.prog 7 := fun _ _ => Try.call7 _ _
theorem cf8 : CF Try.prog 8 := fun _ _ => Try.call8 _ _
theorem cf18 : CF Try.prog 18 := fun _ _ => Try.call18 _ _
theorem cv22_3 : (Try.prog.underlying 22).isSome = true ∧ Try.prog.underlying 3 = some (.int .i64) := ⟨rfl, rfl⟩

end Xb
