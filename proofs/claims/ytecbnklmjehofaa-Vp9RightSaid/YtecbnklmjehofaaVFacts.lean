/- Own text: VFacts. -/
import Derived.Test.YtecbnklmjehofaaVModels
import Derived.Test.YtecbnklmjehofaaProg
set_option linter.all false
set_option linter.unusedVariables false
set_option linter.unusedSimpArgs false
set_option linter.unnecessarySimpa false
set_option linter.deprecated false
namespace Xb
open Go Go.Proofs
set_option maxRecDepth 100000

theorem ff62_0 : FF Try.prog 62 0 0 4 ∧ ∃ i, Try.prog.info? 4 = some i ∧ i.size ≠ 0 := ⟨⟨_, _, rfl, rfl, rfl, rfl⟩, _, rfl, by decide⟩
theorem tf4 : TF Try.prog 4 false 1 := ⟨⟨_, rfl, rfl⟩, ⟨_, rfl, rfl⟩⟩
theorem ff62_1 : FF Try.prog 62 1 1 4 ∧ ∃ i, Try.prog.info? 4 = some i ∧ i.size ≠ 0 := ⟨⟨_, _, rfl, rfl, rfl, rfl⟩, _, rfl, by decide⟩
theorem ff62_4 : FF Try.prog 62 4 4 4 ∧ ∃ i, Try.prog.info? 4 = some i ∧ i.size ≠ 0 := ⟨⟨_, _, rfl, rfl, rfl, rfl⟩, _, rfl, by decide⟩
theorem ff62_5 : FF Try.prog 62 5 5 3 ∧ ∃ i, Try.prog.info? 3 = some i ∧ i.size ≠ 0 := ⟨⟨_, _, rfl, rfl, rfl, rfl⟩, _, rfl, by decide⟩
theorem tf3 : TF Try.prog 3 false 1 := ⟨⟨_, rfl, rfl⟩, ⟨_, rfl, rfl⟩⟩
theorem ff62_6 : FF Try.prog 62 6 6 3 ∧ ∃ i, Try.prog.info? 3 = some i ∧ i.size ≠ 0 := ⟨⟨_, _, rfl, rfl, rfl, rfl⟩, _, rfl, by decide⟩
theorem ff62_7 : FF Try.prog 62 7 7 4 ∧ ∃ i, Try.prog.info? 4 = some i ∧ i.size ≠ 0 := ⟨⟨_, _, rfl, rfl, rfl, rfl⟩, _, rfl, by decide⟩
theorem ff62_8 : FF Try.prog 62 8 8 4 ∧ ∃ i, Try.prog.info? 4 = some i ∧ i.size ≠ 0 := ⟨⟨_, _, rfl, rfl, rfl, rfl⟩, _, rfl, by decide⟩
theorem ff62_10 : FF Try.prog 62 10 10 3 ∧ ∃ i, Try.prog.info? 3 = some i ∧ i.size ≠ 0 := ⟨⟨_, _, rfl, rfl, rfl, rfl⟩, _, rfl, by decide⟩
theorem cf74 : CF Try.prog 74 := fun _ _ => Try.call74 _ _
theorem ff62_9 : FF Try.prog 62 9 9 4 ∧ ∃ i, Try.prog.info? 4 = some i ∧ i.size ≠ 0 := ⟨⟨_, _, rfl, rfl, rfl, rfl⟩, _, rfl, by decide⟩
theorem sf22 : SF Try.prog 22 3 1 := ⟨rfl, ⟨_, rfl, rfl⟩⟩
theorem cf113 : CF Try.prog 113 := fun _ _ => Try.call113 _ _
theorem ff62_3 : FF Try.prog 62 3 3 4 ∧ ∃ i, Try.prog.info? 4 = some i ∧ i.size ≠ 0 := ⟨⟨_, _, rfl, rfl, rfl, rfl⟩, _, rfl, by decide⟩
theorem ff62_11 : FF Try.prog 62 11 11 22 ∧ ∃ i, Try.prog.info? 22 = some i ∧ i.size ≠ 0 := ⟨⟨_, _, rfl, rfl, rfl, rfl⟩, _, rfl, by decide⟩
theorem tf22 : TF Try.prog 22 false 1 := ⟨⟨_, rfl, rfl⟩, ⟨_, rfl, rfl⟩⟩
theorem cf107 : CF Try.prog 107 := fun _ _ => Try.call107 _ _
theorem cf98 : CF Try.prog 98 := fun _ _ => Try.call98 _ _
theorem ff83_0 : FF Try.prog 83 0 0 3 ∧ ∃ i, Try.prog.info? 3 = some i ∧ i.size ≠ 0 := ⟨⟨_, _, rfl, rfl, rfl, rfl⟩, _, rfl, by decide⟩
theorem ff83_1 : FF Try.prog 83 1 1 3 ∧ ∃ i, Try.prog.info? 3 = some i ∧ i.size ≠ 0 := ⟨⟨_, _, rfl, rfl, rfl, rfl⟩, _, rfl, by decide⟩
theorem sf24 : SF Try.prog 24 83 2 := ⟨rfl, ⟨_, rfl, rfl⟩⟩
theorem tf83 : TF Try.prog 83 true 2 := ⟨⟨_, rfl, rfl⟩, ⟨_, rfl, rfl⟩⟩
theorem cf104 : CF Try.prog 104 := fun _ _ => Try.call104 _ _
theorem sf58 : SF Try.prog 58 113 3 := ⟨rfl, ⟨_, rfl, rfl⟩⟩
theorem tf113 : TF Try.prog 113 true 3 := ⟨⟨_, rfl, rfl⟩, ⟨_, rfl, rfl⟩⟩
theorem cf105 : CF Try.prog 105 := fun _ _ => Try.call105 _ _
theorem ff113_0 : FF Try.prog 113 0 0 3 ∧ ∃ i, Try.prog.info? 3 = some i ∧ i.size ≠ 0 := ⟨⟨_, _, rfl, rfl, rfl, rfl⟩, _, rfl, by decide⟩
theorem ff113_2 : FF Try.prog 113 2 2 22 ∧ ∃ i, Try.prog.info? 22 = some i ∧ i.size ≠ 0 := ⟨⟨_, _, rfl, rfl, rfl, rfl⟩, _, rfl, by decide⟩
theorem cf106 : CF Try.prog 106 := fun _ _ => Try.call106 _ _
theorem cf79 : CF Try.prog 79 := fun _ _ => Try.call79 _ _
theorem ff60_1 : FF Try.prog 60 1 1 4 ∧ ∃ i, Try.prog.info? 4 = some i ∧ i.size ≠ 0 := ⟨⟨_, _, rfl, rfl, rfl, rfl⟩, _, rfl, by decide⟩
theorem ff60_3 : FF Try.prog 60 3 3 4 ∧ ∃ i, Try.prog.info? 4 = some i ∧ i.size ≠ 0 := ⟨⟨_, _, rfl, rfl, rfl, rfl⟩, _, rfl, by decide⟩
theorem ff60_0 : FF Try.prog 60 0 0 3 ∧ ∃ i, Try.prog.info? 3 = some i ∧ i.size ≠ 0 := ⟨⟨_, _, rfl, rfl, rfl, rfl⟩, _, rfl, by decide⟩
theorem ff60_2 : FF Try.prog 60 2 2 24 ∧ ∃ i, Try.prog.info? 24 = some i ∧ i.size ≠ 0 := ⟨⟨_, _, rfl, rfl, rfl, rfl⟩, _, rfl, by decide⟩
theorem tf24 : TF Try.prog 24 false 1 := ⟨⟨_, rfl, rfl⟩, ⟨_, rfl, rfl⟩⟩
theorem ff60_4 : FF Try.prog 60 4 4 58 ∧ ∃ i, Try.prog.info? 58 = some i ∧ i.size ≠ 0 := ⟨⟨_, _, rfl, rfl, rfl, rfl⟩, _, rfl, by decide⟩
theorem tf58 : TF Try.prog 58 false 1 := ⟨⟨_, rfl, rfl⟩, ⟨_, rfl, rfl⟩⟩
theorem cf75 : CF Try.prog 75 := fun _ _ => Try.call75 _ _
theorem cf76 : CF Try.prog 76 := fun _ _ => Try.call76 _ _
theorem cf78 : CF Try.prog 78 := fun _ _ => Try.call78 _ _
theorem cf77 : CF Try.prog 77 := fun _ _ => Try.call77 _ _
theorem ff62_2 : FF Try.prog 62 2 2 3 ∧ ∃ i, Try.prog.info? 3 = some i ∧ i.size ≠ 0 := ⟨⟨_, _, rfl, rfl, rfl, rfl⟩, _, rfl, by decide⟩
theorem tf62 : TF Try.prog 62 true 21 := ⟨⟨_, rfl, rfl⟩, ⟨_, rfl, rfl⟩⟩
theorem cf80 : CF Try.prog 80 := fun _ _ => Try.call80 _ _
theorem cf81 : CF Try.prog 81 := fun _ _ => Try.call81 _ _
theorem cf82 : CF Try.prog 82 := fun _ _ => Try.call82 _ _
theorem mixed : Try.prog.follows .mixedOrders = true := rfl
theorem ff62_14 : FF Try.prog 62 14 14 4 ∧ ∃ i, Try.prog.info? 4 = some i ∧ i.size ≠ 0 := ⟨⟨_, _, rfl, rfl, rfl, rfl⟩, _, rfl, by decide⟩
theorem ff62_15 : FF Try.prog 62 15 15 60 ∧ ∃ i, Try.prog.info? 60 = some i ∧ i.size ≠ 0 := ⟨⟨_, _, rfl, rfl, rfl, rfl⟩, _, rfl, by decide⟩
theorem tf60 : TF Try.prog 60 true 5 := ⟨⟨_, rfl, rfl⟩, ⟨_, rfl, rfl⟩⟩
theorem zf60 : ZF Try.prog 60 [.ro (.int .i64 0), .ro (.bool false), .ro (.list 2 (List.map cells_Size [])), .ro (.bool false), .ro (.list 3 (List.map cells_Group []))] := ⟨_, _, rfl, rfl, rfl⟩
theorem cf35 : CF Try.prog 35 := fun _ _ => Try.call35 _ _
theorem ff29_1 : FF Try.prog 29 1 1 3 ∧ ∃ i, Try.prog.info? 3 = some i ∧ i.size ≠ 0 := ⟨⟨_, _, rfl, rfl, rfl, rfl⟩, _, rfl, by decide⟩
theorem ff29_0 : FF Try.prog 29 0 0 27 ∧ ∃ i, Try.prog.info? 27 = some i ∧ i.size ≠ 0 := ⟨⟨_, _, rfl, rfl, rfl, rfl⟩, _, rfl, by decide⟩
theorem tf27 : TF Try.prog 27 false 1 := ⟨⟨_, rfl, rfl⟩, ⟨_, rfl, rfl⟩⟩
theorem sf27 : SF Try.prog 27 5 1 := ⟨rfl, ⟨_, rfl, rfl⟩⟩
theorem tf5 : TF Try.prog 5 false 1 := ⟨⟨_, rfl, rfl⟩, ⟨_, rfl, rfl⟩⟩
theorem cv50_5 : (Try.prog.underlying 50).isSome = true ∧ Try.prog.underlying 5 = some (.int .u8) := ⟨rfl, rfl⟩
theorem us9 : Try.prog.underlying 9 = some .string := rfl
theorem cv5_3 : (Try.prog.underlying 5).isSome = true ∧ Try.prog.underlying 3 = some (.int .i64) := ⟨rfl, rfl⟩
theorem pf27 : PF Try.prog 27 5 1 := ⟨sf27, ⟨_, _, rfl, rfl, rfl, rfl, by decide, by decide⟩⟩
theorem zf29 : ZF Try.prog 29 [.ro (.list 1 (List.map e8 [])), .ro (.int .i64 0)] := ⟨_, _, rfl, rfl, rfl⟩
theorem tf29 : TF Try.prog 29 true 2 := ⟨⟨_, rfl, rfl⟩, ⟨_, rfl, rfl⟩⟩
theorem cf43 : CF Try.prog 43 := fun _ _ => Try.call43 _ _
theorem cf63 : CF Try.prog 63 := fun _ _ => Try.call63 _ _
theorem cf64 : CF Try.prog 64 := fun _ _ => Try.call64 _ _
theorem ff32_2 : FF Try.prog 32 2 2 30 ∧ ∃ i, Try.prog.info? 30 = some i ∧ i.size ≠ 0 := ⟨⟨_, _, rfl, rfl, rfl, rfl⟩, _, rfl, by decide⟩
theorem tf30 : TF Try.prog 30 false 1 := ⟨⟨_, rfl, rfl⟩, ⟨_, rfl, rfl⟩⟩
theorem ff32_1 : FF Try.prog 32 1 1 3 ∧ ∃ i, Try.prog.info? 3 = some i ∧ i.size ≠ 0 := ⟨⟨_, _, rfl, rfl, rfl, rfl⟩, _, rfl, by decide⟩
theorem ff32_0 : FF Try.prog 32 0 0 27 ∧ ∃ i, Try.prog.info? 27 = some i ∧ i.size ≠ 0 := ⟨⟨_, _, rfl, rfl, rfl, rfl⟩, _, rfl, by decide⟩
theorem zf32 : ZF Try.prog 32 [.ro (.list 1 (List.map e8 [])), .ro (.int .i64 0), .ro (.int .i64 0)] := ⟨_, _, rfl, rfl, rfl⟩
theorem tf32 : TF Try.prog 32 true 3 := ⟨⟨_, rfl, rfl⟩, ⟨_, rfl, rfl⟩⟩
theorem cf65 : CF Try.prog 65 := fun _ _ => Try.call65 _ _
theorem cf66 : CF Try.prog 66 := fun _ _ => Try.call66 _ _
theorem cf67 : CF Try.prog 67 := fun _ _ => Try.call67 _ _
theorem cv5_50 : (Try.prog.underlying 5).isSome = true ∧ Try.prog.underlying 50 = some (.int .u64) := ⟨rfl, rfl⟩
theorem cf39 : CF Try.prog 39 := fun _ _ => Try.call39 _ _
theorem zf118 : ZF Try.prog 118 [.ro (.list 1 (List.map e8 [])), .ro (.int .i64 0)] := ⟨_, _, rfl, rfl, rfl⟩
theorem bf118 : BF Try.prog 118 [(0, 2)] := ⟨_, rfl, rfl⟩
theorem pc116 : Try.prog.concrete 116 = true := by kernel_rfl
theorem cf70 : CF Try.prog 70 := fun _ _ => Try.call70 _ _
theorem zf62 : ZF Try.prog 62 [.ro (.bool false), .ro (.bool false), .ro (.int .i64 0), .ro (.bool false), .ro (.bool false), .ro (.int .i64 0), .ro (.int .i64 0), .ro (.bool false), .ro (.bool false), .ro (.bool false), .ro (.int .i64 0), .ro (.list 1 (List.map (ei .i64) [])), .ro (.bool false), .ro (.bool false), .ro (.bool false), .ro (.int .i64 0), .ro (.bool false), .ro (.list 2 (List.map cells_Size [])), .ro (.bool false), .ro (.list 3 (List.map cells_Group [])), .ro (.bool false)] := ⟨_, _, rfl, rfl, rfl⟩
theorem ff62_12 : FF Try.prog 62 12 12 4 ∧ ∃ i, Try.prog.info? 4 = some i ∧ i.size ≠ 0 := ⟨⟨_, _, rfl, rfl, rfl, rfl⟩, _, rfl, by decide⟩
theorem ff62_13 : FF Try.prog 62 13 13 4 ∧ ∃ i, Try.prog.info? 4 = some i ∧ i.size ≠ 0 := ⟨⟨_, _, rfl, rfl, rfl, rfl⟩, _, rfl, by decide⟩
theorem ff62_16 : FF Try.prog 62 16 20 4 ∧ ∃ i, Try.prog.info? 4 = some i ∧ i.size ≠ 0 := ⟨⟨_, _, rfl, rfl, rfl, rfl⟩, _, rfl, by decide⟩
theorem sf148 : SF Try.prog 148 147 1 := ⟨rfl, ⟨_, rfl, rfl⟩⟩
theorem pf148 : PF Try.prog 148 147 1 := ⟨sf148, ⟨_, _, rfl, rfl, rfl, rfl, by decide, by decide⟩⟩
theorem tf147 : TF Try.prog 147 false 1 := ⟨⟨_, rfl, rfl⟩, ⟨_, rfl, rfl⟩⟩
theorem cf100 : CF Try.prog 100 := fun _ _ => Try.call100 _ _
theorem cm116_141 : CM Try.prog 116 "crossbar/vp9.num" 141 := fun _ _ _ => by kernel_rfl
theorem ff118_0 : FF Try.prog 118 0 0 29 ∧ ∃ i, Try.prog.info? 29 = some i ∧ i.size ≠ 0 := ⟨⟨_, _, rfl, rfl, rfl, rfl⟩, _, rfl, by decide⟩
theorem cv3_50 : (Try.prog.underlying 3).isSome = true ∧ Try.prog.underlying 50 = some (.int .u64) := ⟨rfl, rfl⟩
theorem cf24 : CF Try.prog 24 := fun _ _ => Try.call24 _ _
theorem cf103 : CF Try.prog 103 := fun _ _ => Try.call103 _ _
theorem tf146 : TF Try.prog 146 false 1 := ⟨⟨_, rfl, rfl⟩, ⟨_, rfl, rfl⟩⟩
theorem cf116 : CF Try.prog 116 := fun _ _ => Try.call116 _ _
theorem cm116_140 : CM Try.prog 116 "crossbar/vp9.failed" 140 := fun _ _ _ => by kernel_rfl
theorem zf113 : ZF Try.prog 113 [.ro (.int .i64 0), .ro (.bool false), .ro (.list 1 (List.map (ei .i64) []))] := ⟨_, _, rfl, rfl, rfl⟩
theorem cf117 : CF Try.prog 117 := fun _ _ => Try.call117 _ _
theorem cf118 : CF Try.prog 118 := fun _ _ => Try.call118 _ _
theorem ff113_1 : FF Try.prog 113 1 1 4 ∧ ∃ i, Try.prog.info? 4 = some i ∧ i.size ≠ 0 := ⟨⟨_, _, rfl, rfl, rfl, rfl⟩, _, rfl, by decide⟩
theorem cf122 : CF Try.prog 122 := fun _ _ => Try.call122 _ _
theorem cf123 : CF Try.prog 123 := fun _ _ => Try.call123 _ _
theorem pf22 : PF Try.prog 22 3 1 := ⟨sf22, ⟨_, _, rfl, rfl, rfl, rfl, by decide, by decide⟩⟩
theorem pf58 : PF Try.prog 58 113 3 := ⟨sf58, ⟨_, _, rfl, rfl, rfl, rfl, by decide, by decide⟩⟩
theorem cf114 : CF Try.prog 114 := fun _ _ => Try.call114 _ _
theorem zf83 : ZF Try.prog 83 [.ro (.int .i64 0), .ro (.int .i64 0)] := ⟨_, _, rfl, rfl, rfl⟩
theorem cf115 : CF Try.prog 115 := fun _ _ => Try.call115 _ _
theorem bf83 : BF Try.prog 83 [(0, 1), (1, 1)] := ⟨_, rfl, rfl⟩
theorem pf24 : PF Try.prog 24 83 2 := ⟨sf24, ⟨_, _, rfl, rfl, rfl, rfl, by decide, by decide⟩⟩
theorem cf102 : CF Try.prog 102 := fun _ _ => Try.call102 _ _
theorem cm116_139 : CM Try.prog 116 "crossbar/vp9.bad" 139 := fun _ _ _ => by kernel_rfl
theorem cf101 : CF Try.prog 101 := fun _ _ => Try.call101 _ _
theorem nm116_2 : NM Try.prog 116 "crossbar/vp9.num" := ⟨_, _, _, _, _, rfl, rfl, rfl, rfl, rfl⟩
theorem bf32 : BF Try.prog 32 [(0, 1), (1, 1), (2, 1)] := ⟨_, rfl, rfl⟩
theorem cf26 : CF Try.prog 26 := fun _ _ => Try.call26 _ _
theorem zf123 : ZF Try.prog 123 [.ro (.list 1 (List.map e8 [])), .ro (.int .i64 0), .ro (.int .i64 0)] := ⟨_, _, rfl, rfl, rfl⟩
theorem bf123 : BF Try.prog 123 [(0, 3)] := ⟨_, rfl, rfl⟩
theorem pc121 : Try.prog.concrete 121 = true := by kernel_rfl
theorem bf62 : BF Try.prog 62 [(0, 1), (1, 1), (2, 1), (3, 1), (4, 1), (5, 1), (6, 1), (7, 1), (8, 1), (9, 1), (10, 1), (11, 1), (12, 1), (13, 1), (14, 1), (15, 5), (20, 1)] := ⟨_, rfl, rfl⟩
theorem cm121_144 : CM Try.prog 121 "crossbar/vp9.num" 144 := fun _ _ _ => by kernel_rfl
theorem ff123_0 : FF Try.prog 123 0 0 32 ∧ ∃ i, Try.prog.info? 32 = some i ∧ i.size ≠ 0 := ⟨⟨_, _, rfl, rfl, rfl, rfl⟩, _, rfl, by decide⟩
theorem cf25 : CF Try.prog 25 := fun _ _ => Try.call25 _ _
theorem cv50_3 : (Try.prog.underlying 50).isSome = true ∧ Try.prog.underlying 3 = some (.int .i64) := ⟨rfl, rfl⟩
theorem cm121_143 : CM Try.prog 121 "crossbar/vp9.failed" 143 := fun _ _ _ => by kernel_rfl
theorem cm121_142 : CM Try.prog 121 "crossbar/vp9.bad" 142 := fun _ _ _ => by kernel_rfl
theorem nm121_2 : NM Try.prog 121 "crossbar/vp9.num" := ⟨_, _, _, _, _, rfl, rfl, rfl, rfl, rfl⟩
theorem cf32 : CF Try.prog 32 := fun _ _ => Try.call32 _ _
theorem cv3_5 : (Try.prog.underlying 3).isSome = true ∧ Try.prog.underlying 5 = some (.int .u8) := ⟨rfl, rfl⟩
theorem ub4 : Try.prog.underlying 4 = some .bool := rfl
theorem qf83 : QF Try.prog 83 [.int .i64, .int .i64] := ⟨⟨_, rfl, rfl⟩, by kernel_rfl, by kernel_rfl⟩
theorem cf58 : CF Try.prog 58 := fun _ _ => Try.call58 _ _
theorem cf69 : CF Try.prog 69 := fun _ _ => Try.call69 _ _
theorem cf30 : CF Try.prog 30 := fun _ _ => Try.call30 _ _
theorem cf83 : CF Try.prog 83 := fun _ _ => Try.call83 _ _
theorem bf113 : BF Try.prog 113 [(0, 1), (1, 1), (2, 1)] := ⟨_, rfl, rfl⟩
theorem bf60 : BF Try.prog 60 [(0, 1), (1, 1), (2, 1), (3, 1), (4, 1)] := ⟨_, rfl, rfl⟩
theorem cf37 : CF Try.prog 37 := fun _ _ => Try.call37 _ _
theorem bt27_9 : SF Try.prog 27 5 1 ∧ Try.prog.underlying 5 = some (.int .u8) ∧ Try.prog.underlying 9 = some .string := ⟨sf27, rfl, us9⟩
theorem cf34 : CF Try.prog 34 := fun _ _ => Try.call34 _ _
theorem cf40 : CF Try.prog 40 := fun _ _ => Try.call40 _ _
theorem cf68 : CF Try.prog 68 := fun _ _ => Try.call68 _ _
theorem cf36 : CF Try.prog 36 := fun _ _ => Try.call36 _ _
theorem cf71 : CF Try.prog 71 := fun _ _ => Try.call71 _ _
theorem zf126 : ZF Try.prog 126 [.ro (.list 1 (List.map e8 [])), .ro (.int .i64 0), .ro (.int .i64 0)] := ⟨_, _, rfl, rfl, rfl⟩
theorem bf126 : BF Try.prog 126 [(0, 1), (1, 1), (2, 1)] := ⟨_, rfl, rfl⟩
theorem ff126_2 : FF Try.prog 126 2 2 3 ∧ ∃ i, Try.prog.info? 3 = some i ∧ i.size ≠ 0 := ⟨⟨_, _, rfl, rfl, rfl, rfl⟩, _, rfl, by decide⟩
theorem ff126_1 : FF Try.prog 126 1 1 3 ∧ ∃ i, Try.prog.info? 3 = some i ∧ i.size ≠ 0 := ⟨⟨_, _, rfl, rfl, rfl, rfl⟩, _, rfl, by decide⟩
theorem ff126_0 : FF Try.prog 126 0 0 27 ∧ ∃ i, Try.prog.info? 27 = some i ∧ i.size ≠ 0 := ⟨⟨_, _, rfl, rfl, rfl, rfl⟩, _, rfl, by decide⟩
theorem cf72 : CF Try.prog 72 := fun _ _ => Try.call72 _ _
theorem zf62_11 : ZF Try.prog 62 [.ro (.bool false), .ro (.bool false), .ro (.int .i64 0), .ro (.bool false), .ro (.bool false), .ro (.int .i64 0), .ro (.int .i64 0), .ro (.bool false), .ro (.bool false), .ro (.bool false), .ro (.int .i64 0), .ro (.raw (.slice none 0 0)), .ro (.bool false), .ro (.bool false), .ro (.bool false), .ro (.int .i64 0), .ro (.bool false), .ro (.list 2 (List.map cells_Size [])), .ro (.bool false), .ro (.list 3 (List.map cells_Group [])), .ro (.bool false)] := ⟨_, _, rfl, rfl, rfl⟩
theorem cf73 : CF Try.prog 73 := fun _ _ => Try.call73 _ _
theorem zf60_2_4 : ZF Try.prog 60 [.ro (.int .i64 0), .ro (.bool false), .ro (.raw (.slice none 0 0)), .ro (.bool false), .ro (.raw (.slice none 0 0))] := ⟨_, _, rfl, rfl, rfl⟩
theorem zf113_2 : ZF Try.prog 113 [.ro (.int .i64 0), .ro (.bool false), .ro (.raw (.slice none 0 0))] := ⟨_, _, rfl, rfl, rfl⟩
theorem cf33 : CF Try.prog 33 := fun _ _ => Try.call33 _ _
theorem cf29 : CF Try.prog 29 := fun _ _ => Try.call29 _ _
theorem cf31 : CF Try.prog 31 := fun _ _ => Try.call31 _ _
theorem cf27 : CF Try.prog 27 := fun _ _ => Try.call27 _ _
theorem cf28 : CF Try.prog 28 := fun _ _ => Try.call28 _ _
theorem cf38 : CF Try.prog 38 := fun _ _ => Try.call38 _ _
theorem cf41 : CF Try.prog 41 := fun _ _ => Try.call41 _ _

end Xb
