/- Own text: JFacts. -/
import Derived.Test.YtjfacnghojgkeaaJModels
import Derived.Test.YtjfacnghojgkeaaProg
set_option linter.all false
set_option linter.unusedVariables false
set_option linter.unusedSimpArgs false
set_option linter.unnecessarySimpa false
set_option linter.deprecated false
namespace Xb
open Go Go.Proofs
set_option maxRecDepth 100000

theorem ff46_0 : FF Try.prog 46 0 0 3 ∧ ∃ i, Try.prog.info? 3 = some i ∧ i.size ≠ 0 := ⟨⟨_, _, rfl, rfl, rfl, rfl⟩, _, rfl, by decide⟩
theorem tf3 : TF Try.prog 3 false 1 := ⟨⟨_, rfl, rfl⟩, ⟨_, rfl, rfl⟩⟩
theorem ff46_1 : FF Try.prog 46 1 1 3 ∧ ∃ i, Try.prog.info? 3 = some i ∧ i.size ≠ 0 := ⟨⟨_, _, rfl, rfl, rfl, rfl⟩, _, rfl, by decide⟩
theorem tf46 : TF Try.prog 46 true 2 := ⟨⟨_, rfl, rfl⟩, ⟨_, rfl, rfl⟩⟩
theorem cf34 : CF Try.prog 34 := fun _ _ => Try.call34 _ _
theorem sf23 : SF Try.prog 23 46 2 := ⟨rfl, ⟨_, rfl, rfl⟩⟩
theorem cf54 : CF Try.prog 54 := fun _ _ => Try.call54 _ _
theorem ff25_1 : FF Try.prog 25 1 1 3 ∧ ∃ i, Try.prog.info? 3 = some i ∧ i.size ≠ 0 := ⟨⟨_, _, rfl, rfl, rfl, rfl⟩, _, rfl, by decide⟩
theorem ff25_3 : FF Try.prog 25 3 3 23 ∧ ∃ i, Try.prog.info? 23 = some i ∧ i.size ≠ 0 := ⟨⟨_, _, rfl, rfl, rfl, rfl⟩, _, rfl, by decide⟩
theorem tf23 : TF Try.prog 23 false 1 := ⟨⟨_, rfl, rfl⟩, ⟨_, rfl, rfl⟩⟩
theorem cf33 : CF Try.prog 33 := fun _ _ => Try.call33 _ _
theorem cf35 : CF Try.prog 35 := fun _ _ => Try.call35 _ _
theorem cf38 : CF Try.prog 38 := fun _ _ => Try.call38 _ _
theorem tf49 : TF Try.prog 49 false 1 := ⟨⟨_, rfl, rfl⟩, ⟨_, rfl, rfl⟩⟩
theorem sf26 : SF Try.prog 26 5 1 := ⟨rfl, ⟨_, rfl, rfl⟩⟩
theorem pf26 : PF Try.prog 26 5 1 := ⟨sf26, ⟨_, _, rfl, rfl, rfl, rfl, by decide, by decide⟩⟩
theorem zf5 : ZF Try.prog 5 [.ro (.int .u8 0)] := ⟨_, _, rfl, rfl, rfl⟩
theorem zf26_0 : ZF Try.prog 26 [.ro (.raw (.slice none 0 0))] := ⟨_, _, rfl, rfl, rfl⟩
theorem tf26 : TF Try.prog 26 false 1 := ⟨⟨_, rfl, rfl⟩, ⟨_, rfl, rfl⟩⟩
theorem cf39 : CF Try.prog 39 := fun _ _ => Try.call39 _ _
theorem cv49_5 : (Try.prog.underlying 49).isSome = true ∧ Try.prog.underlying 5 = some (.int .u8) := ⟨rfl, rfl⟩
theorem tf5 : TF Try.prog 5 false 1 := ⟨⟨_, rfl, rfl⟩, ⟨_, rfl, rfl⟩⟩
theorem cf56 : CF Try.prog 56 := fun _ _ => Try.call56 _ _
theorem cv2_49 : (Try.prog.underlying 2).isSome = true ∧ Try.prog.underlying 49 = some (.int .u64) := ⟨rfl, rfl⟩
theorem cf18 : CF Try.prog 18 := fun _ _ => Try.call18 _ _
theorem sf78 : SF Try.prog 78 26 1 := ⟨rfl, ⟨_, rfl, rfl⟩⟩
theorem cf57 : CF Try.prog 57 := fun _ _ => Try.call57 _ _
theorem cf40 : CF Try.prog 40 := fun _ _ => Try.call40 _ _
theorem zf46 : ZF Try.prog 46 [.ro (.int .i64 0), .ro (.int .i64 0)] := ⟨_, _, rfl, rfl, rfl⟩
theorem sf55 : SF Try.prog 55 3 1 := ⟨rfl, ⟨_, rfl, rfl⟩⟩
theorem pf55 : PF Try.prog 55 3 1 := ⟨sf55, ⟨_, _, rfl, rfl, rfl, rfl, by decide, by decide⟩⟩
theorem cf58 : CF Try.prog 58 := fun _ _ => Try.call58 _ _
theorem tf55 : TF Try.prog 55 false 1 := ⟨⟨_, rfl, rfl⟩, ⟨_, rfl, rfl⟩⟩
theorem cf68 : CF Try.prog 68 := fun _ _ => Try.call68 _ _
theorem cf69 : CF Try.prog 69 := fun _ _ => Try.call69 _ _
theorem cv3_22 : (Try.prog.underlying 3).isSome = true ∧ Try.prog.underlying 22 = some (.int .u16) := ⟨rfl, rfl⟩
theorem cf59 : CF Try.prog 59 := fun _ _ => Try.call59 _ _
theorem cf60 : CF Try.prog 60 := fun _ _ => Try.call60 _ _
theorem cf61 : CF Try.prog 61 := fun _ _ => Try.call61 _ _
theorem cf42 : CF Try.prog 42 := fun _ _ => Try.call42 _ _
theorem cf41 : CF Try.prog 41 := fun _ _ => Try.call41 _ _
theorem cf43 : CF Try.prog 43 := fun _ _ => Try.call43 _ _
theorem sf52 : SF Try.prog 52 22 1 := ⟨rfl, ⟨_, rfl, rfl⟩⟩
theorem pf52 : PF Try.prog 52 22 1 := ⟨sf52, ⟨_, _, rfl, rfl, rfl, rfl, by decide, by decide⟩⟩
theorem mixed : Try.prog.follows .mixedOrders = true := rfl
theorem cf19 : CF Try.prog 19 := fun _ _ => Try.call19 _ _
theorem cv3_5 : (Try.prog.underlying 3).isSome = true ∧ Try.prog.underlying 5 = some (.int .u8) := ⟨rfl, rfl⟩
theorem cf44 : CF Try.prog 44 := fun _ _ => Try.call44 _ _
theorem pf78 : PF Try.prog 78 26 1 := ⟨sf78, ⟨_, _, rfl, rfl, rfl, rfl, by decide, by decide⟩⟩
theorem tf25 : TF Try.prog 25 true 4 := ⟨⟨_, rfl, rfl⟩, ⟨_, rfl, rfl⟩⟩
theorem cf14 : CF Try.prog 14 := fun _ _ => Try.call14 _ _
theorem ff25_0 : FF Try.prog 25 0 0 22 ∧ ∃ i, Try.prog.info? 22 = some i ∧ i.size ≠ 0 := ⟨⟨_, _, rfl, rfl, rfl, rfl⟩, _, rfl, by decide⟩
theorem tf22 : TF Try.prog 22 false 1 := ⟨⟨_, rfl, rfl⟩, ⟨_, rfl, rfl⟩⟩
theorem cv22_49 : (Try.prog.underlying 22).isSome = true ∧ Try.prog.underlying 49 = some (.int .u64) := ⟨rfl, rfl⟩
theorem cv3_49 : (Try.prog.underlying 3).isSome = true ∧ Try.prog.underlying 49 = some (.int .u64) := ⟨rfl, rfl⟩
theorem ff25_2 : FF Try.prog 25 2 2 5 ∧ ∃ i, Try.prog.info? 5 = some i ∧ i.size ≠ 0 := ⟨⟨_, _, rfl, rfl, rfl, rfl⟩, _, rfl, by decide⟩
theorem cf20 : CF Try.prog 20 := fun _ _ => Try.call20 _ _
theorem cf22 : CF Try.prog 22 := fun _ _ => Try.call22 _ _
theorem cf21 : CF Try.prog 21 := fun _ _ => Try.call21 _ _
theorem cf23 : CF Try.prog 23 := fun _ _ => Try.call23 _ _
theorem cf24 : CF Try.prog 24 := fun _ _ => Try.call24 _ _
theorem cf62 : CF Try.prog 62 := fun _ _ => Try.call62 _ _
theorem cv5_49 : (Try.prog.underlying 5).isSome = true ∧ Try.prog.underlying 49 = some (.int .u64) := ⟨rfl, rfl⟩
theorem cf46 : CF Try.prog 46 := fun _ _ => Try.call46 _ _
theorem cv49_2 : (Try.prog.underlying 49).isSome = true ∧ Try.prog.underlying 2 = some (.int .i64) := ⟨rfl, rfl⟩
theorem zf52_0 : ZF Try.prog 52 [.ro (.raw (.slice none 0 0))] := ⟨_, _, rfl, rfl, rfl⟩
theorem cf63 : CF Try.prog 63 := fun _ _ => Try.call63 _ _
theorem tf52 : TF Try.prog 52 false 1 := ⟨⟨_, rfl, rfl⟩, ⟨_, rfl, rfl⟩⟩
theorem cv49_22 : (Try.prog.underlying 49).isSome = true ∧ Try.prog.underlying 22 = some (.int .u16) := ⟨rfl, rfl⟩
theorem cf70 : CF Try.prog 70 := fun _ _ => Try.call70 _ _
theorem cv65_49 : (Try.prog.underlying 65).isSome = true ∧ Try.prog.underlying 49 = some (.int .u64) := ⟨rfl, rfl⟩
theorem cv49_65 : (Try.prog.underlying 49).isSome = true ∧ Try.prog.underlying 65 = some (.int .u32) := ⟨rfl, rfl⟩
theorem cf82 : CF Try.prog 82 := fun _ _ => Try.call82 _ _
theorem cv3_77 : (Try.prog.underlying 3).isSome = true ∧ Try.prog.underlying 77 = some (.int .u64) := ⟨rfl, rfl⟩
theorem cf78 : CF Try.prog 78 := fun _ _ => Try.call78 _ _
theorem cv77_3 : (Try.prog.underlying 77).isSome = true ∧ Try.prog.underlying 3 = some (.int .i64) := ⟨rfl, rfl⟩
theorem zf3 : ZF Try.prog 3 [.ro (.int .i64 0)] := ⟨_, _, rfl, rfl, rfl⟩
theorem cv22_3 : (Try.prog.underlying 22).isSome = true ∧ Try.prog.underlying 3 = some (.int .i64) := ⟨rfl, rfl⟩
theorem cf71 : CF Try.prog 71 := fun _ _ => Try.call71 _ _
theorem cf64 : CF Try.prog 64 := fun _ _ => Try.call64 _ _
theorem bf46 : BF Try.prog 46 [(0, 1), (1, 1)] := ⟨_, rfl, rfl⟩
theorem cf50 : CF Try.prog 50 := fun _ _ => Try.call50 _ _
theorem pf23 : PF Try.prog 23 46 2 := ⟨sf23, ⟨_, _, rfl, rfl, rfl, rfl, by decide, by decide⟩⟩
theorem cv5_3 : (Try.prog.underlying 5).isSome = true ∧ Try.prog.underlying 3 = some (.int .i64) := ⟨rfl, rfl⟩
theorem cf47 : CF Try.prog 47 := fun _ _ => Try.call47 _ _
theorem zf25 : ZF Try.prog 25 [.ro (.int .u16 0), .ro (.int .i64 0), .ro (.int .u8 0), .ro (.list 2 (List.map cells_Seen []))] := ⟨_, _, rfl, rfl, rfl⟩
theorem cf48 : CF Try.prog 48 := fun _ _ => Try.call48 _ _
theorem cv49_3 : (Try.prog.underlying 49).isSome = true ∧ Try.prog.underlying 3 = some (.int .i64) := ⟨rfl, rfl⟩
theorem cf49 : CF Try.prog 49 := fun _ _ => Try.call49 _ _
theorem cf51 : CF Try.prog 51 := fun _ _ => Try.call51 _ _
theorem bf25 : BF Try.prog 25 [(0, 1), (1, 1), (2, 1), (3, 1)] := ⟨_, rfl, rfl⟩
theorem cf29 : CF Try.prog 29 := fun _ _ => Try.call29 _ _
theorem qf46 : QF Try.prog 46 [.int .i64, .int .i64] := ⟨⟨_, rfl, rfl⟩, by kernel_rfl, by kernel_rfl⟩
theorem us9 : Try.prog.underlying 9 = some .string := rfl
theorem bt26_9 : SF Try.prog 26 5 1 ∧ Try.prog.underlying 5 = some (.int .u8) ∧ Try.prog.underlying 9 = some .string := ⟨sf26, rfl, us9⟩
theorem cv5_65 : (Try.prog.underlying 5).isSome = true ∧ Try.prog.underlying 65 = some (.int .u32) := ⟨rfl, rfl⟩
theorem cf80 : CF Try.prog 80 := fun _ _ => Try.call80 _ _
theorem xf66 : XF Try.prog 66 Extern.BytealgCount.count := fun args w => run_callFunc_extern Try.func66 (by kernel_rfl) (by kernel_rfl) (by kernel_rfl) (by kernel_rfl) args w
theorem cf55 : CF Try.prog 55 := fun _ _ => Try.call55 _ _
theorem cf36 : CF Try.prog 36 := fun _ _ => Try.call36 _ _
theorem cf37 : CF Try.prog 37 := fun _ _ => Try.call37 _ _
theorem cf8 : CF Try.prog 8 := fun _ _ => Try.call8 _ _
theorem cf10 : CF Try.prog 10 := fun _ _ => Try.call10 _ _
theorem cf12 : CF Try.prog 12 := fun _ _ => Try.call12 _ _
theorem cf15 : CF Try.prog 15 := fun _ _ => Try.call15 _ _
theorem cf16 : CF Try.prog 16 := fun _ _ => Try.call16 _ _
theorem cf45 : CF Try.prog 45 := fun _ _ => Try.call45 _ _
theorem cf25 : CF Try.prog 25 := fun _ _ => Try.call25 _ _
theorem cf26 : CF Try.prog 26 := fun _ _ => Try.call26 _ _
theorem cf27 : CF Try.prog 27 := fun _ _ => Try.call27 _ _
theorem cf28 : CF Try.prog 28 := fun _ _ => Try.call28 _ _
theorem cf52 : CF Try.prog 52 := fun _ _ => Try.call52 _ _
theorem cf53 : CF Try.prog 53 := fun _ _ => Try.call53 _ _
theorem cf30 : CF Try.prog 30 := fun _ _ => Try.call30 _ _
theorem cv65_3 : (Try.prog.underlying 65).isSome = true ∧ Try.prog.underlying 3 = some (.int .i64) := ⟨rfl, rfl⟩
theorem cv65_22 : (Try.prog.underlying 65).isSome = true ∧ Try.prog.underlying 22 = some (.int .u16) := ⟨rfl, rfl⟩
theorem cf31 : CF Try.prog 31 := fun _ _ => Try.call31 _ _
theorem cf32 : CF Try.prog 32 := fun _ _ => Try.call32 _ _
theorem zf25_3 : ZF Try.prog 25 [.ro (.int .u16 0), .ro (.int .i64 0), .ro (.int .u8 0), .ro (.raw (.slice none 0 0))] := ⟨_, _, rfl, rfl, rfl⟩
theorem cf7 : CF Try.prog 7 := fun _ _ => Try.call7 _ _
theorem cf11 : CF Try.prog 11 := fun _ _ => Try.call11 _ _
theorem cf9 : CF Try.prog 9 := fun _ _ => Try.call9 _ _
theorem cf6 : CF Try.prog 6 := fun _ _ => Try.call6 _ _
theorem cf13 : CF Try.prog 13 := fun _ _ => Try.call13 _ _
theorem ub4 : Try.prog.underlying 4 = some .bool := rfl
theorem cf17 : CF Try.prog 17 := fun _ _ => Try.call17 _ _

end Xb
