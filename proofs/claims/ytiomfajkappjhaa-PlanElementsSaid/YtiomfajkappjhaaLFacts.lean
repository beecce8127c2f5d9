/- Own text: LFacts. -/
import Derived.Test.YtiomfajkappjhaaLModels
import Derived.Test.YtiomfajkappjhaaProg
set_option linter.all false
set_option linter.unusedVariables false
set_option linter.unusedSimpArgs false
set_option linter.unnecessarySimpa false
set_option linter.deprecated false
namespace Xb
open Go Go.Proofs
set_option maxRecDepth 100000

theorem ff31_3 : FF Try.prog 31 3 3 3 ∧ ∃ i, Try.prog.info? 3 = some i ∧ i.size ≠ 0 := ⟨⟨_, _, rfl, rfl, rfl, rfl⟩, _, rfl, by decide⟩
theorem tf3 : TF Try.prog 3 false 1 := ⟨⟨_, rfl, rfl⟩, ⟨_, rfl, rfl⟩⟩
theorem ff31_7 : FF Try.prog 31 7 7 29 ∧ ∃ i, Try.prog.info? 29 = some i ∧ i.size ≠ 0 := ⟨⟨_, _, rfl, rfl, rfl, rfl⟩, _, rfl, by decide⟩
theorem tf29 : TF Try.prog 29 false 1 := ⟨⟨_, rfl, rfl⟩, ⟨_, rfl, rfl⟩⟩
theorem sf29 : SF Try.prog 29 23 1 := ⟨rfl, ⟨_, rfl, rfl⟩⟩
theorem ff34_0 : FF Try.prog 34 0 0 31 ∧ ∃ i, Try.prog.info? 31 = some i ∧ i.size ≠ 0 := ⟨⟨_, _, rfl, rfl, rfl, rfl⟩, _, rfl, by decide⟩
theorem ff31_1 : FF Try.prog 31 1 1 4 ∧ ∃ i, Try.prog.info? 4 = some i ∧ i.size ≠ 0 := ⟨⟨_, _, rfl, rfl, rfl, rfl⟩, _, rfl, by decide⟩
theorem tf4 : TF Try.prog 4 false 1 := ⟨⟨_, rfl, rfl⟩, ⟨_, rfl, rfl⟩⟩
theorem ff34_1 : FF Try.prog 34 1 8 22 ∧ ∃ i, Try.prog.info? 22 = some i ∧ i.size ≠ 0 := ⟨⟨_, _, rfl, rfl, rfl, rfl⟩, _, rfl, by decide⟩
theorem tf22 : TF Try.prog 22 false 1 := ⟨⟨_, rfl, rfl⟩, ⟨_, rfl, rfl⟩⟩
theorem ff34_2 : FF Try.prog 34 2 9 32 ∧ ∃ i, Try.prog.info? 32 = some i ∧ i.size ≠ 0 := ⟨⟨_, _, rfl, rfl, rfl, rfl⟩, _, rfl, by decide⟩
theorem tf32 : TF Try.prog 32 false 1 := ⟨⟨_, rfl, rfl⟩, ⟨_, rfl, rfl⟩⟩
theorem sf32 : SF Try.prog 32 5 1 := ⟨rfl, ⟨_, rfl, rfl⟩⟩
theorem ff31_0 : FF Try.prog 31 0 0 4 ∧ ∃ i, Try.prog.info? 4 = some i ∧ i.size ≠ 0 := ⟨⟨_, _, rfl, rfl, rfl, rfl⟩, _, rfl, by decide⟩
theorem ff34_4 : FF Try.prog 34 4 11 3 ∧ ∃ i, Try.prog.info? 3 = some i ∧ i.size ≠ 0 := ⟨⟨_, _, rfl, rfl, rfl, rfl⟩, _, rfl, by decide⟩
theorem tf31 : TF Try.prog 31 true 8 := ⟨⟨_, rfl, rfl⟩, ⟨_, rfl, rfl⟩⟩
theorem cf36 : CF Try.prog 36 := fun _ _ => Try.call36 _ _
theorem cf51 : CF Try.prog 51 := fun _ _ => Try.call51 _ _
theorem ff34_3 : FF Try.prog 34 3 10 32 ∧ ∃ i, Try.prog.info? 32 = some i ∧ i.size ≠ 0 := ⟨⟨_, _, rfl, rfl, rfl, rfl⟩, _, rfl, by decide⟩
theorem mixed : Try.prog.follows .mixedOrders = true := rfl
theorem tf34 : TF Try.prog 34 true 12 := ⟨⟨_, rfl, rfl⟩, ⟨_, rfl, rfl⟩⟩
theorem cf37 : CF Try.prog 37 := fun _ _ => Try.call37 _ _
theorem cf38 : CF Try.prog 38 := fun _ _ => Try.call38 _ _
theorem cf39 : CF Try.prog 39 := fun _ _ => Try.call39 _ _
theorem ff28_0 : FF Try.prog 28 0 0 4 ∧ ∃ i, Try.prog.info? 4 = some i ∧ i.size ≠ 0 := ⟨⟨_, _, rfl, rfl, rfl, rfl⟩, _, rfl, by decide⟩
theorem ff28_1 : FF Try.prog 28 1 1 4 ∧ ∃ i, Try.prog.info? 4 = some i ∧ i.size ≠ 0 := ⟨⟨_, _, rfl, rfl, rfl, rfl⟩, _, rfl, by decide⟩
theorem ff28_3 : FF Try.prog 28 3 3 3 ∧ ∃ i, Try.prog.info? 3 = some i ∧ i.size ≠ 0 := ⟨⟨_, _, rfl, rfl, rfl, rfl⟩, _, rfl, by decide⟩
theorem ff28_2 : FF Try.prog 28 2 2 4 ∧ ∃ i, Try.prog.info? 4 = some i ∧ i.size ≠ 0 := ⟨⟨_, _, rfl, rfl, rfl, rfl⟩, _, rfl, by decide⟩
theorem ff28_4 : FF Try.prog 28 4 4 4 ∧ ∃ i, Try.prog.info? 4 = some i ∧ i.size ≠ 0 := ⟨⟨_, _, rfl, rfl, rfl, rfl⟩, _, rfl, by decide⟩
theorem ff28_5 : FF Try.prog 28 5 5 22 ∧ ∃ i, Try.prog.info? 22 = some i ∧ i.size ≠ 0 := ⟨⟨_, _, rfl, rfl, rfl, rfl⟩, _, rfl, by decide⟩
theorem ff28_6 : FF Try.prog 28 6 6 4 ∧ ∃ i, Try.prog.info? 4 = some i ∧ i.size ≠ 0 := ⟨⟨_, _, rfl, rfl, rfl, rfl⟩, _, rfl, by decide⟩
theorem ff28_7 : FF Try.prog 28 7 7 23 ∧ ∃ i, Try.prog.info? 23 = some i ∧ i.size ≠ 0 := ⟨⟨_, _, rfl, rfl, rfl, rfl⟩, _, rfl, by decide⟩
theorem tf23 : TF Try.prog 23 false 1 := ⟨⟨_, rfl, rfl⟩, ⟨_, rfl, rfl⟩⟩
theorem ff28_8 : FF Try.prog 28 8 8 4 ∧ ∃ i, Try.prog.info? 4 = some i ∧ i.size ≠ 0 := ⟨⟨_, _, rfl, rfl, rfl, rfl⟩, _, rfl, by decide⟩
theorem ff28_9 : FF Try.prog 28 9 9 23 ∧ ∃ i, Try.prog.info? 23 = some i ∧ i.size ≠ 0 := ⟨⟨_, _, rfl, rfl, rfl, rfl⟩, _, rfl, by decide⟩
theorem ff45_0 : FF Try.prog 45 0 0 3 ∧ ∃ i, Try.prog.info? 3 = some i ∧ i.size ≠ 0 := ⟨⟨_, _, rfl, rfl, rfl, rfl⟩, _, rfl, by decide⟩
theorem eo77 : ∀ x, ElemOK Try.prog 3 ((A.int .i64) x) := fun _ => rfl
theorem mz77 : ∃ i zv, Try.prog.info? 3 = some i ∧ i.zero = some zv ∧ ∀ w M, VR w M ((A.int .i64) 0) zv := ⟨_, _, rfl, rfl, fun _ _ => .int _ _ (by decide) (by decide)⟩
theorem mf77 : MF Try.prog 77 3 3 .i64 := ⟨rfl, rfl⟩
theorem sf26 : SF Try.prog 26 3 1 := ⟨rfl, ⟨_, rfl, rfl⟩⟩
theorem ff45_1 : FF Try.prog 45 1 1 3 ∧ ∃ i, Try.prog.info? 3 = some i ∧ i.size ≠ 0 := ⟨⟨_, _, rfl, rfl, rfl, rfl⟩, _, rfl, by decide⟩
theorem eo56 : ∀ x, ElemOK Try.prog 4 (A.bool x) := fun _ => rfl
theorem mz56 : ∃ i zv, Try.prog.info? 4 = some i ∧ i.zero = some zv ∧ ∀ w M, VR w M (A.bool false) zv := ⟨_, _, rfl, rfl, fun _ _ => .bool _⟩
theorem mf56 : MF Try.prog 56 3 4 .i64 := ⟨rfl, rfl⟩
theorem sf25 : SF Try.prog 25 43 2 := ⟨rfl, ⟨_, rfl, rfl⟩⟩
theorem tf43 : TF Try.prog 43 true 2 := ⟨⟨_, rfl, rfl⟩, ⟨_, rfl, rfl⟩⟩
theorem zf43 : ZF Try.prog 43 [.ro (.int .i64 0), .ro (.list 1 (List.map e8 []))] := ⟨_, _, rfl, rfl, rfl⟩
theorem ff43_0 : FF Try.prog 43 0 0 3 ∧ ∃ i, Try.prog.info? 3 = some i ∧ i.size ≠ 0 := ⟨⟨_, _, rfl, rfl, rfl, rfl⟩, _, rfl, by decide⟩
theorem ff43_1 : FF Try.prog 43 1 1 32 ∧ ∃ i, Try.prog.info? 32 = some i ∧ i.size ≠ 0 := ⟨⟨_, _, rfl, rfl, rfl, rfl⟩, _, rfl, by decide⟩
theorem cf45 : CF Try.prog 45 := fun _ _ => Try.call45 _ _
theorem tf26 : TF Try.prog 26 false 1 := ⟨⟨_, rfl, rfl⟩, ⟨_, rfl, rfl⟩⟩
theorem cf33 : CF Try.prog 33 := fun _ _ => Try.call33 _ _
theorem cf44 : CF Try.prog 44 := fun _ _ => Try.call44 _ _
theorem tf28 : TF Try.prog 28 true 15 := ⟨⟨_, rfl, rfl⟩, ⟨_, rfl, rfl⟩⟩
theorem cf24 : CF Try.prog 24 := fun _ _ => Try.call24 _ _
theorem ff28_10 : FF Try.prog 28 10 10 24 ∧ ∃ i, Try.prog.info? 24 = some i ∧ i.size ≠ 0 := ⟨⟨_, _, rfl, rfl, rfl, rfl⟩, _, rfl, by decide⟩
theorem tf24 : TF Try.prog 24 false 1 := ⟨⟨_, rfl, rfl⟩, ⟨_, rfl, rfl⟩⟩
theorem sf24 : SF Try.prog 24 45 2 := ⟨rfl, ⟨_, rfl, rfl⟩⟩
theorem tf45 : TF Try.prog 45 true 2 := ⟨⟨_, rfl, rfl⟩, ⟨_, rfl, rfl⟩⟩
theorem zf45 : ZF Try.prog 45 [.ro (.int .i64 0), .ro (.int .i64 0)] := ⟨_, _, rfl, rfl, rfl⟩
theorem cf27 : CF Try.prog 27 := fun _ _ => Try.call27 _ _
theorem pf26 : PF Try.prog 26 3 1 := ⟨sf26, ⟨_, _, rfl, rfl, rfl, rfl, by decide, by decide⟩⟩
theorem cf26 : CF Try.prog 26 := fun _ _ => Try.call26 _ _
theorem cf25 : CF Try.prog 25 := fun _ _ => Try.call25 _ _
theorem cf28 : CF Try.prog 28 := fun _ _ => Try.call28 _ _
theorem ff28_11 : FF Try.prog 28 11 11 25 ∧ ∃ i, Try.prog.info? 25 = some i ∧ i.size ≠ 0 := ⟨⟨_, _, rfl, rfl, rfl, rfl⟩, _, rfl, by decide⟩
theorem tf25 : TF Try.prog 25 false 1 := ⟨⟨_, rfl, rfl⟩, ⟨_, rfl, rfl⟩⟩
theorem cf12 : CF Try.prog 12 := fun _ _ => Try.call12 _ _
theorem ff28_13 : FF Try.prog 28 13 13 25 ∧ ∃ i, Try.prog.info? 25 = some i ∧ i.size ≠ 0 := ⟨⟨_, _, rfl, rfl, rfl, rfl⟩, _, rfl, by decide⟩
theorem ff28_12 : FF Try.prog 28 12 12 26 ∧ ∃ i, Try.prog.info? 26 = some i ∧ i.size ≠ 0 := ⟨⟨_, _, rfl, rfl, rfl, rfl⟩, _, rfl, by decide⟩
theorem cf30 : CF Try.prog 30 := fun _ _ => Try.call30 _ _
theorem cf29 : CF Try.prog 29 := fun _ _ => Try.call29 _ _
theorem zf26 : ZF Try.prog 26 [.ro (.list 1 (List.map (ei .i64) []))] := ⟨_, _, rfl, rfl, rfl⟩
theorem cf32 : CF Try.prog 32 := fun _ _ => Try.call32 _ _
theorem cf31 : CF Try.prog 31 := fun _ _ => Try.call31 _ _
theorem cf21 : CF Try.prog 21 := fun _ _ => Try.call21 _ _
theorem zf102 : ZF Try.prog 102 [] := ⟨_, _, rfl, rfl, rfl⟩
theorem bf102 : BF Try.prog 102 [] := ⟨_, rfl, rfl⟩
theorem pc102 : Try.prog.concrete 102 = true := by kernel_rfl
theorem zf103 : ZF Try.prog 103 [] := ⟨_, _, rfl, rfl, rfl⟩
theorem bf103 : BF Try.prog 103 [] := ⟨_, rfl, rfl⟩
theorem pc103 : Try.prog.concrete 103 = true := by kernel_rfl
theorem zf75 : ZF Try.prog 75 [.ro (.int .i64 0), .ro (.int .i64 0), .ro (.int .i64 0)] := ⟨_, _, rfl, rfl, rfl⟩
theorem tf5 : TF Try.prog 5 false 1 := ⟨⟨_, rfl, rfl⟩, ⟨_, rfl, rfl⟩⟩
theorem cv5_3 : (Try.prog.underlying 5).isSome = true ∧ Try.prog.underlying 3 = some (.int .i64) := ⟨rfl, rfl⟩
theorem bf75 : BF Try.prog 75 [(0, 1), (1, 1), (2, 1)] := ⟨_, rfl, rfl⟩
theorem tf75 : TF Try.prog 75 true 3 := ⟨⟨_, rfl, rfl⟩, ⟨_, rfl, rfl⟩⟩
theorem ff75_0 : FF Try.prog 75 0 0 3 ∧ ∃ i, Try.prog.info? 3 = some i ∧ i.size ≠ 0 := ⟨⟨_, _, rfl, rfl, rfl, rfl⟩, _, rfl, by decide⟩
theorem ff75_2 : FF Try.prog 75 2 2 3 ∧ ∃ i, Try.prog.info? 3 = some i ∧ i.size ≠ 0 := ⟨⟨_, _, rfl, rfl, rfl, rfl⟩, _, rfl, by decide⟩
theorem sf71 : SF Try.prog 71 75 3 := ⟨rfl, ⟨_, rfl, rfl⟩⟩
theorem cf60 : CF Try.prog 60 := fun _ _ => Try.call60 _ _
theorem cf52 : CF Try.prog 52 := fun _ _ => Try.call52 _ _
theorem if90 : ∃ ms, Try.prog.underlying 90 = some (.interface ms) := ⟨_, rfl⟩
theorem cm102_84 : CM Try.prog 102 "crossbar/elem.next" 84 := fun _ _ _ => by kernel_rfl
theorem cm103_85 : CM Try.prog 103 "crossbar/elem.next" 85 := fun _ _ _ => by kernel_rfl
theorem ff75_1 : FF Try.prog 75 1 1 3 ∧ ∃ i, Try.prog.info? 3 = some i ∧ i.size ≠ 0 := ⟨⟨_, _, rfl, rfl, rfl, rfl⟩, _, rfl, by decide⟩
theorem cf54 : CF Try.prog 54 := fun _ _ => Try.call54 _ _
theorem cf53 : CF Try.prog 53 := fun _ _ => Try.call53 _ _
theorem pf71 : PF Try.prog 71 75 3 := ⟨sf71, ⟨_, _, rfl, rfl, rfl, rfl, by decide, by decide⟩⟩
theorem pf32 : PF Try.prog 32 5 1 := ⟨sf32, ⟨_, _, rfl, rfl, rfl, rfl, by decide, by decide⟩⟩
theorem cf42 : CF Try.prog 42 := fun _ _ => Try.call42 _ _
theorem cf41 : CF Try.prog 41 := fun _ _ => Try.call41 _ _
theorem bf43 : BF Try.prog 43 [(0, 1), (1, 1)] := ⟨_, rfl, rfl⟩
theorem pf25 : PF Try.prog 25 43 2 := ⟨sf25, ⟨_, _, rfl, rfl, rfl, rfl, by decide, by decide⟩⟩
theorem cf22 : CF Try.prog 22 := fun _ _ => Try.call22 _ _
theorem sf105 : SF Try.prog 105 26 1 := ⟨rfl, ⟨_, rfl, rfl⟩⟩
theorem cf61 : CF Try.prog 61 := fun _ _ => Try.call61 _ _
theorem pf105 : PF Try.prog 105 26 1 := ⟨sf105, ⟨_, _, rfl, rfl, rfl, rfl, by decide, by decide⟩⟩
theorem cf55 : CF Try.prog 55 := fun _ _ => Try.call55 _ _
theorem cf56 : CF Try.prog 56 := fun _ _ => Try.call56 _ _
theorem cf57 : CF Try.prog 57 := fun _ _ => Try.call57 _ _
theorem cv3_5 : (Try.prog.underlying 3).isSome = true ∧ Try.prog.underlying 5 = some (.int .u8) := ⟨rfl, rfl⟩
theorem cf68 : CF Try.prog 68 := fun _ _ => Try.call68 _ _
theorem cf65 : CF Try.prog 65 := fun _ _ => Try.call65 _ _
theorem cf66 : CF Try.prog 66 := fun _ _ => Try.call66 _ _
theorem cf62 : CF Try.prog 62 := fun _ _ => Try.call62 _ _
theorem zf5 : ZF Try.prog 5 [.ro (.int .u8 0)] := ⟨_, _, rfl, rfl, rfl⟩
theorem sf111 : SF Try.prog 111 32 1 := ⟨rfl, ⟨_, rfl, rfl⟩⟩
theorem cf67 : CF Try.prog 67 := fun _ _ => Try.call67 _ _
theorem cf64 : CF Try.prog 64 := fun _ _ => Try.call64 _ _
theorem pf111 : PF Try.prog 111 32 1 := ⟨sf111, ⟨_, _, rfl, rfl, rfl, rfl, by decide, by decide⟩⟩
theorem cf63 : CF Try.prog 63 := fun _ _ => Try.call63 _ _
theorem cf58 : CF Try.prog 58 := fun _ _ => Try.call58 _ _
theorem cf59 : CF Try.prog 59 := fun _ _ => Try.call59 _ _
theorem zf34 : ZF Try.prog 34 [.ro (.bool false), .ro (.bool false), .ro (.bool false), .ro (.int .i64 0), .ro (.int .u16 0), .ro (.int .u32 0), .ro (.int .u32 0), .ro (.list 1 (List.map (ei .u32) [])), .ro (.int .u16 0), .ro (.list 1 (List.map e8 [])), .ro (.list 1 (List.map e8 [])), .ro (.int .i64 0)] := ⟨_, _, rfl, rfl, rfl⟩
theorem cf46 : CF Try.prog 46 := fun _ _ => Try.call46 _ _
theorem cf47 : CF Try.prog 47 := fun _ _ => Try.call47 _ _
theorem cf48 : CF Try.prog 48 := fun _ _ => Try.call48 _ _
theorem cf49 : CF Try.prog 49 := fun _ _ => Try.call49 _ _
theorem cf50 : CF Try.prog 50 := fun _ _ => Try.call50 _ _
theorem zf31 : ZF Try.prog 31 [.ro (.bool false), .ro (.bool false), .ro (.bool false), .ro (.int .i64 0), .ro (.int .u16 0), .ro (.int .u32 0), .ro (.int .u32 0), .ro (.list 1 (List.map (ei .u32) []))] := ⟨_, _, rfl, rfl, rfl⟩
theorem ff31_6 : FF Try.prog 31 6 6 23 ∧ ∃ i, Try.prog.info? 23 = some i ∧ i.size ≠ 0 := ⟨⟨_, _, rfl, rfl, rfl, rfl⟩, _, rfl, by decide⟩
theorem ff31_5 : FF Try.prog 31 5 5 23 ∧ ∃ i, Try.prog.info? 23 = some i ∧ i.size ≠ 0 := ⟨⟨_, _, rfl, rfl, rfl, rfl⟩, _, rfl, by decide⟩
theorem ff31_4 : FF Try.prog 31 4 4 22 ∧ ∃ i, Try.prog.info? 22 = some i ∧ i.size ≠ 0 := ⟨⟨_, _, rfl, rfl, rfl, rfl⟩, _, rfl, by decide⟩
theorem ff31_2 : FF Try.prog 31 2 2 4 ∧ ∃ i, Try.prog.info? 4 = some i ∧ i.size ≠ 0 := ⟨⟨_, _, rfl, rfl, rfl, rfl⟩, _, rfl, by decide⟩
theorem cf19 : CF Try.prog 19 := fun _ _ => Try.call19 _ _
theorem cf16 : CF Try.prog 16 := fun _ _ => Try.call16 _ _
theorem cf9 : CF Try.prog 9 := fun _ _ => Try.call9 _ _
theorem cf35 : CF Try.prog 35 := fun _ _ => Try.call35 _ _
theorem ff28_14 : FF Try.prog 28 14 14 4 ∧ ∃ i, Try.prog.info? 4 = some i ∧ i.size ≠ 0 := ⟨⟨_, _, rfl, rfl, rfl, rfl⟩, _, rfl, by decide⟩
theorem cf34 : CF Try.prog 34 := fun _ _ => Try.call34 _ _
theorem pf29 : PF Try.prog 29 23 1 := ⟨sf29, ⟨_, _, rfl, rfl, rfl, rfl, by decide, by decide⟩⟩
theorem cf40 : CF Try.prog 40 := fun _ _ => Try.call40 _ _
theorem cf18 : CF Try.prog 18 := fun _ _ => Try.call18 _ _
theorem bf34 : BF Try.prog 34 [(0, 8), (8, 1), (9, 1), (10, 1), (11, 1)] := ⟨_, rfl, rfl⟩
theorem cf20 : CF Try.prog 20 := fun _ _ => Try.call20 _ _
theorem bf31 : BF Try.prog 31 [(0, 1), (1, 1), (2, 1), (3, 1), (4, 1), (5, 1), (6, 1), (7, 1)] := ⟨_, rfl, rfl⟩
theorem bf45 : BF Try.prog 45 [(0, 1), (1, 1)] := ⟨_, rfl, rfl⟩
theorem pf24 : PF Try.prog 24 45 2 := ⟨sf24, ⟨_, _, rfl, rfl, rfl, rfl, by decide, by decide⟩⟩
theorem zf28 : ZF Try.prog 28 [.ro (.bool false), .ro (.bool false), .ro (.bool false), .ro (.int .i64 0), .ro (.bool false), .ro (.int .u16 0), .ro (.bool false), .ro (.int .u32 0), .ro (.bool false), .ro (.int .u32 0), .ro (.list 2 (List.map cells_GMap [])), .ro (.list 2 (List.map cells_Elem [])), .ro (.list 1 (List.map (ei .i64) [])), .ro (.list 2 (List.map cells_Elem [])), .ro (.bool false)] := ⟨_, _, rfl, rfl, rfl⟩
theorem bf28 : BF Try.prog 28 [(0, 1), (1, 1), (2, 1), (3, 1), (4, 1), (5, 1), (6, 1), (7, 1), (8, 1), (9, 1), (10, 1), (11, 1), (12, 1), (13, 1), (14, 1)] := ⟨_, rfl, rfl⟩
theorem cf8 : CF Try.prog 8 := fun _ _ => Try.call8 _ _
theorem us9 : Try.prog.underlying 9 = some .string := rfl
theorem bt32_9 : SF Try.prog 32 5 1 ∧ Try.prog.underlying 5 = some (.int .u8) ∧ Try.prog.underlying 9 = some .string := ⟨sf32, rfl, us9⟩
theorem cf13 : CF Try.prog 13 := fun _ _ => Try.call13 _ _
theorem cf15 : CF Try.prog 15 := fun _ _ => Try.call15 _ _
theorem cf17 : CF Try.prog 17 := fun _ _ => Try.call17 _ _
theorem cf5 : CF Try.prog 5 := fun _ _ => Try.call5 _ _
theorem cf6 : CF Try.prog 6 := fun _ _ => Try.call6 _ _
theorem cf7 : CF Try.prog 7 := fun _ _ => Try.call7 _ _
theorem cf10 : CF Try.prog 10 := fun _ _ => Try.call10 _ _
theorem cf11 : CF Try.prog 11 := fun _ _ => Try.call11 _ _
theorem ub4 : Try.prog.underlying 4 = some .bool := rfl
theorem cf43 : CF Try.prog 43 := fun _ _ => Try.call43 _ _
theorem cf23 : CF Try.prog 23 := fun _ _ => Try.call23 _ _
theorem cf14 : CF Try.prog 14 := fun _ _ => Try.call14 _ _

end Xb
