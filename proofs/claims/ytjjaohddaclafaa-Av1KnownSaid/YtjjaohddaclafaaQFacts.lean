/- Own text: QFacts. -/
import Derived.Test.YtjjaohddaclafaaQModels
import Derived.Test.YtjjaohddaclafaaProg
set_option linter.all false
set_option linter.unusedVariables false
set_option linter.unusedSimpArgs false
set_option linter.unnecessarySimpa false
set_option linter.deprecated false
namespace Xb
open Go Go.Proofs
set_option maxRecDepth 100000

theorem zf26 : ZF Try.prog 26 [.ro (.int .i64 0), .ro (.int .i64 0), .ro (.int .i64 0), .ro (.list 1 (List.map (ei .i64) [])), .ro (.list 5 (List.map cells_Template [])), .ro (.list 2 (List.map cells_Size []))] := ⟨_, _, rfl, rfl, rfl⟩
theorem ff29_4 : FF Try.prog 29 4 4 4 ∧ ∃ i, Try.prog.info? 4 = some i ∧ i.size ≠ 0 := ⟨⟨_, _, rfl, rfl, rfl, rfl⟩, _, rfl, by decide⟩
theorem tf4 : TF Try.prog 4 false 1 := ⟨⟨_, rfl, rfl⟩, ⟨_, rfl, rfl⟩⟩
theorem ff29_5 : FF Try.prog 29 5 5 26 ∧ ∃ i, Try.prog.info? 26 = some i ∧ i.size ≠ 0 := ⟨⟨_, _, rfl, rfl, rfl, rfl⟩, _, rfl, by decide⟩
theorem tf26 : TF Try.prog 26 true 6 := ⟨⟨_, rfl, rfl⟩, ⟨_, rfl, rfl⟩⟩
theorem tf3 : TF Try.prog 3 false 1 := ⟨⟨_, rfl, rfl⟩, ⟨_, rfl, rfl⟩⟩
theorem sf22 : SF Try.prog 22 3 1 := ⟨rfl, ⟨_, rfl, rfl⟩⟩
theorem cf65 : CF Try.prog 65 := fun _ _ => Try.call65 _ _
theorem cf53 : CF Try.prog 53 := fun _ _ => Try.call53 _ _
theorem cf52 : CF Try.prog 52 := fun _ _ => Try.call52 _ _
theorem ff26_2 : FF Try.prog 26 2 2 3 ∧ ∃ i, Try.prog.info? 3 = some i ∧ i.size ≠ 0 := ⟨⟨_, _, rfl, rfl, rfl, rfl⟩, _, rfl, by decide⟩
theorem ff26_3 : FF Try.prog 26 3 3 22 ∧ ∃ i, Try.prog.info? 22 = some i ∧ i.size ≠ 0 := ⟨⟨_, _, rfl, rfl, rfl, rfl⟩, _, rfl, by decide⟩
theorem tf22 : TF Try.prog 22 false 1 := ⟨⟨_, rfl, rfl⟩, ⟨_, rfl, rfl⟩⟩
theorem ff26_1 : FF Try.prog 26 1 1 3 ∧ ∃ i, Try.prog.info? 3 = some i ∧ i.size ≠ 0 := ⟨⟨_, _, rfl, rfl, rfl, rfl⟩, _, rfl, by decide⟩
theorem cf33 : CF Try.prog 33 := fun _ _ => Try.call33 _ _
theorem ff46_2 : FF Try.prog 46 2 2 22 ∧ ∃ i, Try.prog.info? 22 = some i ∧ i.size ≠ 0 := ⟨⟨_, _, rfl, rfl, rfl, rfl⟩, _, rfl, by decide⟩
theorem ff46_3 : FF Try.prog 46 3 3 22 ∧ ∃ i, Try.prog.info? 22 = some i ∧ i.size ≠ 0 := ⟨⟨_, _, rfl, rfl, rfl, rfl⟩, _, rfl, by decide⟩
theorem ff46_4 : FF Try.prog 46 4 4 22 ∧ ∃ i, Try.prog.info? 22 = some i ∧ i.size ≠ 0 := ⟨⟨_, _, rfl, rfl, rfl, rfl⟩, _, rfl, by decide⟩
theorem ff46_0 : FF Try.prog 46 0 0 3 ∧ ∃ i, Try.prog.info? 3 = some i ∧ i.size ≠ 0 := ⟨⟨_, _, rfl, rfl, rfl, rfl⟩, _, rfl, by decide⟩
theorem ff46_1 : FF Try.prog 46 1 1 3 ∧ ∃ i, Try.prog.info? 3 = some i ∧ i.size ≠ 0 := ⟨⟨_, _, rfl, rfl, rfl, rfl⟩, _, rfl, by decide⟩
theorem ff26_0 : FF Try.prog 26 0 0 3 ∧ ∃ i, Try.prog.info? 3 = some i ∧ i.size ≠ 0 := ⟨⟨_, _, rfl, rfl, rfl, rfl⟩, _, rfl, by decide⟩
theorem pf22 : PF Try.prog 22 3 1 := ⟨sf22, ⟨_, _, rfl, rfl, rfl, rfl, by decide, by decide⟩⟩
theorem ff26_4 : FF Try.prog 26 4 4 23 ∧ ∃ i, Try.prog.info? 23 = some i ∧ i.size ≠ 0 := ⟨⟨_, _, rfl, rfl, rfl, rfl⟩, _, rfl, by decide⟩
theorem tf23 : TF Try.prog 23 false 1 := ⟨⟨_, rfl, rfl⟩, ⟨_, rfl, rfl⟩⟩
theorem sf23 : SF Try.prog 23 46 5 := ⟨rfl, ⟨_, rfl, rfl⟩⟩
theorem cf34 : CF Try.prog 34 := fun _ _ => Try.call34 _ _
theorem zf46 : ZF Try.prog 46 [.ro (.int .i64 0), .ro (.int .i64 0), .ro (.list 1 (List.map (ei .i64) [])), .ro (.list 1 (List.map (ei .i64) [])), .ro (.list 1 (List.map (ei .i64) []))] := ⟨_, _, rfl, rfl, rfl⟩
theorem bf46 : BF Try.prog 46 [(0, 1), (1, 1), (2, 1), (3, 1), (4, 1)] := ⟨_, rfl, rfl⟩
theorem tf46 : TF Try.prog 46 true 5 := ⟨⟨_, rfl, rfl⟩, ⟨_, rfl, rfl⟩⟩
theorem cf35 : CF Try.prog 35 := fun _ _ => Try.call35 _ _
theorem cf36 : CF Try.prog 36 := fun _ _ => Try.call36 _ _
theorem ff26_5 : FF Try.prog 26 5 5 24 ∧ ∃ i, Try.prog.info? 24 = some i ∧ i.size ≠ 0 := ⟨⟨_, _, rfl, rfl, rfl, rfl⟩, _, rfl, by decide⟩
theorem tf24 : TF Try.prog 24 false 1 := ⟨⟨_, rfl, rfl⟩, ⟨_, rfl, rfl⟩⟩
theorem sf24 : SF Try.prog 24 74 2 := ⟨rfl, ⟨_, rfl, rfl⟩⟩
theorem tf74 : TF Try.prog 74 true 2 := ⟨⟨_, rfl, rfl⟩, ⟨_, rfl, rfl⟩⟩
theorem zf74 : ZF Try.prog 74 [.ro (.int .i64 0), .ro (.int .i64 0)] := ⟨_, _, rfl, rfl, rfl⟩
theorem ff74_0 : FF Try.prog 74 0 0 3 ∧ ∃ i, Try.prog.info? 3 = some i ∧ i.size ≠ 0 := ⟨⟨_, _, rfl, rfl, rfl, rfl⟩, _, rfl, by decide⟩
theorem ff74_1 : FF Try.prog 74 1 1 3 ∧ ∃ i, Try.prog.info? 3 = some i ∧ i.size ≠ 0 := ⟨⟨_, _, rfl, rfl, rfl, rfl⟩, _, rfl, by decide⟩
theorem mixed : Try.prog.follows .mixedOrders = true := rfl
theorem cf38 : CF Try.prog 38 := fun _ _ => Try.call38 _ _
theorem qf74 : QF Try.prog 74 [.int .i64, .int .i64] := ⟨⟨_, rfl, rfl⟩, by kernel_rfl, by kernel_rfl⟩
theorem cf39 : CF Try.prog 39 := fun _ _ => Try.call39 _ _
theorem cf37 : CF Try.prog 37 := fun _ _ => Try.call37 _ _
theorem cf40 : CF Try.prog 40 := fun _ _ => Try.call40 _ _
theorem cf14 : CF Try.prog 14 := fun _ _ => Try.call14 _ _
theorem bf26 : BF Try.prog 26 [(0, 1), (1, 1), (2, 1), (3, 1), (4, 1), (5, 1)] := ⟨_, rfl, rfl⟩
theorem cf15 : CF Try.prog 15 := fun _ _ => Try.call15 _ _
theorem ff29_7 : FF Try.prog 29 7 12 27 ∧ ∃ i, Try.prog.info? 27 = some i ∧ i.size ≠ 0 := ⟨⟨_, _, rfl, rfl, rfl, rfl⟩, _, rfl, by decide⟩
theorem tf27 : TF Try.prog 27 false 1 := ⟨⟨_, rfl, rfl⟩, ⟨_, rfl, rfl⟩⟩
theorem cv27_83 : (Try.prog.underlying 27).isSome = true ∧ Try.prog.underlying 83 = some (.int .u64) := ⟨rfl, rfl⟩
theorem ff29_6 : FF Try.prog 29 6 11 4 ∧ ∃ i, Try.prog.info? 4 = some i ∧ i.size ≠ 0 := ⟨⟨_, _, rfl, rfl, rfl, rfl⟩, _, rfl, by decide⟩
theorem ff29_2 : FF Try.prog 29 2 2 3 ∧ ∃ i, Try.prog.info? 3 = some i ∧ i.size ≠ 0 := ⟨⟨_, _, rfl, rfl, rfl, rfl⟩, _, rfl, by decide⟩
theorem ff29_3 : FF Try.prog 29 3 3 3 ∧ ∃ i, Try.prog.info? 3 = some i ∧ i.size ≠ 0 := ⟨⟨_, _, rfl, rfl, rfl, rfl⟩, _, rfl, by decide⟩
theorem cf51 : CF Try.prog 51 := fun _ _ => Try.call51 _ _
theorem tf29 : TF Try.prog 29 true 19 := ⟨⟨_, rfl, rfl⟩, ⟨_, rfl, rfl⟩⟩
theorem cf20 : CF Try.prog 20 := fun _ _ => Try.call20 _ _
theorem cf21 : CF Try.prog 21 := fun _ _ => Try.call21 _ _
theorem cf30 : CF Try.prog 30 := fun _ _ => Try.call30 _ _
theorem cf31 : CF Try.prog 31 := fun _ _ => Try.call31 _ _
theorem ff29_8 : FF Try.prog 29 8 13 4 ∧ ∃ i, Try.prog.info? 4 = some i ∧ i.size ≠ 0 := ⟨⟨_, _, rfl, rfl, rfl, rfl⟩, _, rfl, by decide⟩
theorem ff29_9 : FF Try.prog 29 9 14 22 ∧ ∃ i, Try.prog.info? 22 = some i ∧ i.size ≠ 0 := ⟨⟨_, _, rfl, rfl, rfl, rfl⟩, _, rfl, by decide⟩
theorem cf32 : CF Try.prog 32 := fun _ _ => Try.call32 _ _
theorem ff29_10 : FF Try.prog 29 10 15 4 ∧ ∃ i, Try.prog.info? 4 = some i ∧ i.size ≠ 0 := ⟨⟨_, _, rfl, rfl, rfl, rfl⟩, _, rfl, by decide⟩
theorem ff29_11 : FF Try.prog 29 11 16 22 ∧ ∃ i, Try.prog.info? 22 = some i ∧ i.size ≠ 0 := ⟨⟨_, _, rfl, rfl, rfl, rfl⟩, _, rfl, by decide⟩
theorem ff29_12 : FF Try.prog 29 12 17 4 ∧ ∃ i, Try.prog.info? 4 = some i ∧ i.size ≠ 0 := ⟨⟨_, _, rfl, rfl, rfl, rfl⟩, _, rfl, by decide⟩
theorem ff29_13 : FF Try.prog 29 13 18 22 ∧ ∃ i, Try.prog.info? 22 = some i ∧ i.size ≠ 0 := ⟨⟨_, _, rfl, rfl, rfl, rfl⟩, _, rfl, by decide⟩
theorem ff51_1 : FF Try.prog 51 1 1 3 ∧ ∃ i, Try.prog.info? 3 = some i ∧ i.size ≠ 0 := ⟨⟨_, _, rfl, rfl, rfl, rfl⟩, _, rfl, by decide⟩
theorem ff51_0 : FF Try.prog 51 0 0 30 ∧ ∃ i, Try.prog.info? 30 = some i ∧ i.size ≠ 0 := ⟨⟨_, _, rfl, rfl, rfl, rfl⟩, _, rfl, by decide⟩
theorem tf30 : TF Try.prog 30 false 1 := ⟨⟨_, rfl, rfl⟩, ⟨_, rfl, rfl⟩⟩
theorem sf30 : SF Try.prog 30 5 1 := ⟨rfl, ⟨_, rfl, rfl⟩⟩
theorem tf5 : TF Try.prog 5 false 1 := ⟨⟨_, rfl, rfl⟩, ⟨_, rfl, rfl⟩⟩
theorem cv83_5 : (Try.prog.underlying 83).isSome = true ∧ Try.prog.underlying 5 = some (.int .u8) := ⟨rfl, rfl⟩
theorem us9 : Try.prog.underlying 9 = some .string := rfl
theorem cv5_3 : (Try.prog.underlying 5).isSome = true ∧ Try.prog.underlying 3 = some (.int .i64) := ⟨rfl, rfl⟩
theorem pf30 : PF Try.prog 30 5 1 := ⟨sf30, ⟨_, _, rfl, rfl, rfl, rfl, by decide, by decide⟩⟩
theorem zf51 : ZF Try.prog 51 [.ro (.list 1 (List.map e8 [])), .ro (.int .i64 0)] := ⟨_, _, rfl, rfl, rfl⟩
theorem tf51 : TF Try.prog 51 true 2 := ⟨⟨_, rfl, rfl⟩, ⟨_, rfl, rfl⟩⟩
theorem cf54 : CF Try.prog 54 := fun _ _ => Try.call54 _ _
theorem cf55 : CF Try.prog 55 := fun _ _ => Try.call55 _ _
theorem cf56 : CF Try.prog 56 := fun _ _ => Try.call56 _ _
theorem cf79 : CF Try.prog 79 := fun _ _ => Try.call79 _ _
theorem cf43 : CF Try.prog 43 := fun _ _ => Try.call43 _ _
theorem zf97 : ZF Try.prog 97 [.ro (.list 1 (List.map e8 [])), .ro (.int .i64 0)] := ⟨_, _, rfl, rfl, rfl⟩
theorem bf97 : BF Try.prog 97 [(0, 2)] := ⟨_, rfl, rfl⟩
theorem ff97_0 : FF Try.prog 97 0 0 51 ∧ ∃ i, Try.prog.info? 51 = some i ∧ i.size ≠ 0 := ⟨⟨_, _, rfl, rfl, rfl, rfl⟩, _, rfl, by decide⟩
theorem cv3_83 : (Try.prog.underlying 3).isSome = true ∧ Try.prog.underlying 83 = some (.int .u64) := ⟨rfl, rfl⟩
theorem cf57 : CF Try.prog 57 := fun _ _ => Try.call57 _ _
theorem cf58 : CF Try.prog 58 := fun _ _ => Try.call58 _ _
theorem cf59 : CF Try.prog 59 := fun _ _ => Try.call59 _ _
theorem cf60 : CF Try.prog 60 := fun _ _ => Try.call60 _ _
theorem cf70 : CF Try.prog 70 := fun _ _ => Try.call70 _ _
theorem cf66 : CF Try.prog 66 := fun _ _ => Try.call66 _ _
theorem cf12 : CF Try.prog 12 := fun _ _ => Try.call12 _ _
theorem zf53 : ZF Try.prog 53 [.ro (.list 1 (List.map e8 [])), .ro (.int .i64 0)] := ⟨_, _, rfl, rfl, rfl⟩
theorem bf53 : BF Try.prog 53 [(0, 2)] := ⟨_, rfl, rfl⟩
theorem ff29_0 : FF Try.prog 29 0 0 4 ∧ ∃ i, Try.prog.info? 4 = some i ∧ i.size ≠ 0 := ⟨⟨_, _, rfl, rfl, rfl, rfl⟩, _, rfl, by decide⟩
theorem ff29_1 : FF Try.prog 29 1 1 4 ∧ ∃ i, Try.prog.info? 4 = some i ∧ i.size ≠ 0 := ⟨⟨_, _, rfl, rfl, rfl, rfl⟩, _, rfl, by decide⟩
theorem sf80 : SF Try.prog 80 4 1 := ⟨rfl, ⟨_, rfl, rfl⟩⟩
theorem pf80 : PF Try.prog 80 4 1 := ⟨sf80, ⟨_, _, rfl, rfl, rfl, rfl, by decide, by decide⟩⟩
theorem cf17 : CF Try.prog 17 := fun _ _ => Try.call17 _ _
theorem ff53_0 : FF Try.prog 53 0 0 51 ∧ ∃ i, Try.prog.info? 51 = some i ∧ i.size ≠ 0 := ⟨⟨_, _, rfl, rfl, rfl, rfl⟩, _, rfl, by decide⟩
theorem cf18 : CF Try.prog 18 := fun _ _ => Try.call18 _ _
theorem cf19 : CF Try.prog 19 := fun _ _ => Try.call19 _ _
theorem cf45 : CF Try.prog 45 := fun _ _ => Try.call45 _ _
theorem cv27_3 : (Try.prog.underlying 27).isSome = true ∧ Try.prog.underlying 3 = some (.int .i64) := ⟨rfl, rfl⟩
theorem cf44 : CF Try.prog 44 := fun _ _ => Try.call44 _ _
theorem zf59 : ZF Try.prog 59 [.ro (.list 1 (List.map e8 [])), .ro (.int .i64 0), .ro (.int .i64 0)] := ⟨_, _, rfl, rfl, rfl⟩
theorem bf59 : BF Try.prog 59 [(0, 1), (1, 1), (2, 1)] := ⟨_, rfl, rfl⟩
theorem tf59 : TF Try.prog 59 true 3 := ⟨⟨_, rfl, rfl⟩, ⟨_, rfl, rfl⟩⟩
theorem ff59_2 : FF Try.prog 59 2 2 34 ∧ ∃ i, Try.prog.info? 34 = some i ∧ i.size ≠ 0 := ⟨⟨_, _, rfl, rfl, rfl, rfl⟩, _, rfl, by decide⟩
theorem tf34 : TF Try.prog 34 false 1 := ⟨⟨_, rfl, rfl⟩, ⟨_, rfl, rfl⟩⟩
theorem ff59_1 : FF Try.prog 59 1 1 3 ∧ ∃ i, Try.prog.info? 3 = some i ∧ i.size ≠ 0 := ⟨⟨_, _, rfl, rfl, rfl, rfl⟩, _, rfl, by decide⟩
theorem ff59_0 : FF Try.prog 59 0 0 30 ∧ ∃ i, Try.prog.info? 30 = some i ∧ i.size ≠ 0 := ⟨⟨_, _, rfl, rfl, rfl, rfl⟩, _, rfl, by decide⟩
theorem cf50 : CF Try.prog 50 := fun _ _ => Try.call50 _ _
theorem cf67 : CF Try.prog 67 := fun _ _ => Try.call67 _ _
theorem cf25 : CF Try.prog 25 := fun _ _ => Try.call25 _ _
theorem cv5_83 : (Try.prog.underlying 5).isSome = true ∧ Try.prog.underlying 83 = some (.int .u64) := ⟨rfl, rfl⟩
theorem cf61 : CF Try.prog 61 := fun _ _ => Try.call61 _ _
theorem zf113 : ZF Try.prog 113 [.ro (.list 1 (List.map e8 [])), .ro (.int .i64 0), .ro (.int .i64 0)] := ⟨_, _, rfl, rfl, rfl⟩
theorem bf113 : BF Try.prog 113 [(0, 3)] := ⟨_, rfl, rfl⟩
theorem cf68 : CF Try.prog 68 := fun _ _ => Try.call68 _ _
theorem tf111 : TF Try.prog 111 false 1 := ⟨⟨_, rfl, rfl⟩, ⟨_, rfl, rfl⟩⟩
theorem ff113_0 : FF Try.prog 113 0 0 59 ∧ ∃ i, Try.prog.info? 59 = some i ∧ i.size ≠ 0 := ⟨⟨_, _, rfl, rfl, rfl, rfl⟩, _, rfl, by decide⟩
theorem cf71 : CF Try.prog 71 := fun _ _ => Try.call71 _ _
theorem cv83_3 : (Try.prog.underlying 83).isSome = true ∧ Try.prog.underlying 3 = some (.int .i64) := ⟨rfl, rfl⟩
theorem zf26_4_5 : ZF Try.prog 26 [.ro (.int .i64 0), .ro (.int .i64 0), .ro (.int .i64 0), .ro (.list 1 (List.map (ei .i64) [])), .ro (.raw (.slice none 0 0)), .ro (.raw (.slice none 0 0))] := ⟨_, _, rfl, rfl, rfl⟩
theorem cf72 : CF Try.prog 72 := fun _ _ => Try.call72 _ _
theorem pf23 : PF Try.prog 23 46 5 := ⟨sf23, ⟨_, _, rfl, rfl, rfl, rfl, by decide, by decide⟩⟩
theorem cf69 : CF Try.prog 69 := fun _ _ => Try.call69 _ _
theorem cf80 : CF Try.prog 80 := fun _ _ => Try.call80 _ _
theorem cf73 : CF Try.prog 73 := fun _ _ => Try.call73 _ _
theorem cf74 : CF Try.prog 74 := fun _ _ => Try.call74 _ _
theorem cf75 : CF Try.prog 75 := fun _ _ => Try.call75 _ _
theorem cf81 : CF Try.prog 81 := fun _ _ => Try.call81 _ _
theorem cf76 : CF Try.prog 76 := fun _ _ => Try.call76 _ _
theorem cf78 : CF Try.prog 78 := fun _ _ => Try.call78 _ _
theorem bf74 : BF Try.prog 74 [(0, 1), (1, 1)] := ⟨_, rfl, rfl⟩
theorem pf24 : PF Try.prog 24 74 2 := ⟨sf24, ⟨_, _, rfl, rfl, rfl, rfl, by decide, by decide⟩⟩
theorem cf77 : CF Try.prog 77 := fun _ _ => Try.call77 _ _
theorem zf29 : ZF Try.prog 29 [.ro (.bool false), .ro (.bool false), .ro (.int .i64 0), .ro (.int .i64 0), .ro (.bool false), .ro (.int .i64 0), .ro (.int .i64 0), .ro (.int .i64 0), .ro (.list 1 (List.map (ei .i64) [])), .ro (.list 5 (List.map cells_Template [])), .ro (.list 2 (List.map cells_Size [])), .ro (.bool false), .ro (.int .u32 0), .ro (.bool false), .ro (.list 1 (List.map (ei .i64) [])), .ro (.bool false), .ro (.list 1 (List.map (ei .i64) [])), .ro (.bool false), .ro (.list 1 (List.map (ei .i64) []))] := ⟨_, _, rfl, rfl, rfl⟩
theorem bf29 : BF Try.prog 29 [(0, 1), (1, 1), (2, 1), (3, 1), (4, 1), (5, 6), (11, 1), (12, 1), (13, 1), (14, 1), (15, 1), (16, 1), (17, 1), (18, 1)] := ⟨_, rfl, rfl⟩
theorem cf22 : CF Try.prog 22 := fun _ _ => Try.call22 _ _
theorem zf62 : ZF Try.prog 62 [.ro (.list 1 (List.map e8 [])), .ro (.int .i64 0), .ro (.int .i64 0)] := ⟨_, _, rfl, rfl, rfl⟩
theorem bf62 : BF Try.prog 62 [(0, 3)] := ⟨_, rfl, rfl⟩
theorem cf23 : CF Try.prog 23 := fun _ _ => Try.call23 _ _
theorem cf46 : CF Try.prog 46 := fun _ _ => Try.call46 _ _
theorem ff62_0 : FF Try.prog 62 0 0 59 ∧ ∃ i, Try.prog.info? 59 = some i ∧ i.size ≠ 0 := ⟨⟨_, _, rfl, rfl, rfl, rfl⟩, _, rfl, by decide⟩
theorem cf47 : CF Try.prog 47 := fun _ _ => Try.call47 _ _
theorem cf24 : CF Try.prog 24 := fun _ _ => Try.call24 _ _
theorem cf26 : CF Try.prog 26 := fun _ _ => Try.call26 _ _
theorem cf49 : CF Try.prog 49 := fun _ _ => Try.call49 _ _
theorem cf63 : CF Try.prog 63 := fun _ _ => Try.call63 _ _
theorem cf64 : CF Try.prog 64 := fun _ _ => Try.call64 _ _
theorem cv3_27 : (Try.prog.underlying 3).isSome = true ∧ Try.prog.underlying 27 = some (.int .u32) := ⟨rfl, rfl⟩
theorem cf48 : CF Try.prog 48 := fun _ _ => Try.call48 _ _
theorem sf103 : SF Try.prog 103 102 1 := ⟨rfl, ⟨_, rfl, rfl⟩⟩
theorem pf103 : PF Try.prog 103 102 1 := ⟨sf103, ⟨_, _, rfl, rfl, rfl, rfl, by decide, by decide⟩⟩
theorem tf102 : TF Try.prog 102 false 1 := ⟨⟨_, rfl, rfl⟩, ⟨_, rfl, rfl⟩⟩
theorem cf62 : CF Try.prog 62 := fun _ _ => Try.call62 _ _
theorem cf42 : CF Try.prog 42 := fun _ _ => Try.call42 _ _
theorem cf41 : CF Try.prog 41 := fun _ _ => Try.call41 _ _
theorem cf28 : CF Try.prog 28 := fun _ _ => Try.call28 _ _
theorem ub4 : Try.prog.underlying 4 = some .bool := rfl
theorem cf27 : CF Try.prog 27 := fun _ _ => Try.call27 _ _
theorem cf9 : CF Try.prog 9 := fun _ _ => Try.call9 _ _
theorem cf8 : CF Try.prog 8 := fun _ _ => Try.call8 _ _
theorem cf29 : CF Try.prog 29 := fun _ _ => Try.call29 _ _
theorem cf16 : CF Try.prog 16 := fun _ _ => Try.call16 _ _
theorem bt30_9 : SF Try.prog 30 5 1 ∧ Try.prog.underlying 5 = some (.int .u8) ∧ Try.prog.underlying 9 = some .string := ⟨sf30, rfl, us9⟩
theorem cf10 : CF Try.prog 10 := fun _ _ => Try.call10 _ _
theorem cf11 : CF Try.prog 11 := fun _ _ => Try.call11 _ _
theorem cf13 : CF Try.prog 13 := fun _ _ => Try.call13 _ _
theorem cf7 : CF Try.prog 7 := fun _ _ => Try.call7 _ _
theorem cf5 : CF Try.prog 5 := fun _ _ => Try.call5 _ _
theorem cf6 : CF Try.prog 6 := fun _ _ => Try.call6 _ _

end Xb
