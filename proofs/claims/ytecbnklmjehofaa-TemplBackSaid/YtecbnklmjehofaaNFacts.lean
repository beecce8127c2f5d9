/- Own text: NFacts. -/
import Derived.Test.YtecbnklmjehofaaNModels
import Derived.Test.YtecbnklmjehofaaProg
set_option linter.all false
set_option linter.unusedVariables false
set_option linter.unusedSimpArgs false
set_option linter.unnecessarySimpa false
set_option linter.deprecated false
namespace Xb
open Go Go.Proofs
set_option maxRecDepth 100000

theorem ff29_1 : FF Try.prog 29 1 1 3 ∧ ∃ i, Try.prog.info? 3 = some i ∧ i.size ≠ 0 := ⟨⟨_, _, rfl, rfl, rfl, rfl⟩, _, rfl, by decide⟩
theorem tf3 : TF Try.prog 3 false 1 := ⟨⟨_, rfl, rfl⟩, ⟨_, rfl, rfl⟩⟩
theorem ff29_0 : FF Try.prog 29 0 0 27 ∧ ∃ i, Try.prog.info? 27 = some i ∧ i.size ≠ 0 := ⟨⟨_, _, rfl, rfl, rfl, rfl⟩, _, rfl, by decide⟩
theorem tf27 : TF Try.prog 27 false 1 := ⟨⟨_, rfl, rfl⟩, ⟨_, rfl, rfl⟩⟩
theorem sf27 : SF Try.prog 27 5 1 := ⟨rfl, ⟨_, rfl, rfl⟩⟩
theorem tf5 : TF Try.prog 5 false 1 := ⟨⟨_, rfl, rfl⟩, ⟨_, rfl, rfl⟩⟩
theorem mixed : Try.prog.follows .mixedOrders = true := rfl
theorem sf22 : SF Try.prog 22 3 1 := ⟨rfl, ⟨_, rfl, rfl⟩⟩
theorem cf113 : CF Try.prog 113 := fun _ _ => Try.call113 _ _
theorem cf99 : CF Try.prog 99 := fun _ _ => Try.call99 _ _
theorem cf98 : CF Try.prog 98 := fun _ _ => Try.call98 _ _
theorem ff26_2 : FF Try.prog 26 2 2 3 ∧ ∃ i, Try.prog.info? 3 = some i ∧ i.size ≠ 0 := ⟨⟨_, _, rfl, rfl, rfl, rfl⟩, _, rfl, by decide⟩
theorem ff26_3 : FF Try.prog 26 3 3 22 ∧ ∃ i, Try.prog.info? 22 = some i ∧ i.size ≠ 0 := ⟨⟨_, _, rfl, rfl, rfl, rfl⟩, _, rfl, by decide⟩
theorem tf22 : TF Try.prog 22 false 1 := ⟨⟨_, rfl, rfl⟩, ⟨_, rfl, rfl⟩⟩
theorem ff26_1 : FF Try.prog 26 1 1 3 ∧ ∃ i, Try.prog.info? 3 = some i ∧ i.size ≠ 0 := ⟨⟨_, _, rfl, rfl, rfl, rfl⟩, _, rfl, by decide⟩
theorem cf54 : CF Try.prog 54 := fun _ _ => Try.call54 _ _
theorem ff56_2 : FF Try.prog 56 2 2 22 ∧ ∃ i, Try.prog.info? 22 = some i ∧ i.size ≠ 0 := ⟨⟨_, _, rfl, rfl, rfl, rfl⟩, _, rfl, by decide⟩
theorem ff56_3 : FF Try.prog 56 3 3 22 ∧ ∃ i, Try.prog.info? 22 = some i ∧ i.size ≠ 0 := ⟨⟨_, _, rfl, rfl, rfl, rfl⟩, _, rfl, by decide⟩
theorem ff56_4 : FF Try.prog 56 4 4 22 ∧ ∃ i, Try.prog.info? 22 = some i ∧ i.size ≠ 0 := ⟨⟨_, _, rfl, rfl, rfl, rfl⟩, _, rfl, by decide⟩
theorem ff56_0 : FF Try.prog 56 0 0 3 ∧ ∃ i, Try.prog.info? 3 = some i ∧ i.size ≠ 0 := ⟨⟨_, _, rfl, rfl, rfl, rfl⟩, _, rfl, by decide⟩
theorem ff56_1 : FF Try.prog 56 1 1 3 ∧ ∃ i, Try.prog.info? 3 = some i ∧ i.size ≠ 0 := ⟨⟨_, _, rfl, rfl, rfl, rfl⟩, _, rfl, by decide⟩
theorem ff26_0 : FF Try.prog 26 0 0 3 ∧ ∃ i, Try.prog.info? 3 = some i ∧ i.size ≠ 0 := ⟨⟨_, _, rfl, rfl, rfl, rfl⟩, _, rfl, by decide⟩
theorem pf22 : PF Try.prog 22 3 1 := ⟨sf22, ⟨_, _, rfl, rfl, rfl, rfl, by decide, by decide⟩⟩
theorem ff26_4 : FF Try.prog 26 4 4 23 ∧ ∃ i, Try.prog.info? 23 = some i ∧ i.size ≠ 0 := ⟨⟨_, _, rfl, rfl, rfl, rfl⟩, _, rfl, by decide⟩
theorem tf23 : TF Try.prog 23 false 1 := ⟨⟨_, rfl, rfl⟩, ⟨_, rfl, rfl⟩⟩
theorem sf23 : SF Try.prog 23 56 5 := ⟨rfl, ⟨_, rfl, rfl⟩⟩
theorem tf26 : TF Try.prog 26 true 6 := ⟨⟨_, rfl, rfl⟩, ⟨_, rfl, rfl⟩⟩
theorem cf55 : CF Try.prog 55 := fun _ _ => Try.call55 _ _
theorem zf56 : ZF Try.prog 56 [.ro (.int .i64 0), .ro (.int .i64 0), .ro (.list 1 (List.map (ei .i64) [])), .ro (.list 1 (List.map (ei .i64) [])), .ro (.list 1 (List.map (ei .i64) []))] := ⟨_, _, rfl, rfl, rfl⟩
theorem bf56 : BF Try.prog 56 [(0, 1), (1, 1), (2, 1), (3, 1), (4, 1)] := ⟨_, rfl, rfl⟩
theorem tf56 : TF Try.prog 56 true 5 := ⟨⟨_, rfl, rfl⟩, ⟨_, rfl, rfl⟩⟩
theorem cf56 : CF Try.prog 56 := fun _ _ => Try.call56 _ _
theorem cf57 : CF Try.prog 57 := fun _ _ => Try.call57 _ _
theorem ff26_5 : FF Try.prog 26 5 5 24 ∧ ∃ i, Try.prog.info? 24 = some i ∧ i.size ≠ 0 := ⟨⟨_, _, rfl, rfl, rfl, rfl⟩, _, rfl, by decide⟩
theorem tf24 : TF Try.prog 24 false 1 := ⟨⟨_, rfl, rfl⟩, ⟨_, rfl, rfl⟩⟩
theorem sf24 : SF Try.prog 24 83 2 := ⟨rfl, ⟨_, rfl, rfl⟩⟩
theorem tf83 : TF Try.prog 83 true 2 := ⟨⟨_, rfl, rfl⟩, ⟨_, rfl, rfl⟩⟩
theorem zf83 : ZF Try.prog 83 [.ro (.int .i64 0), .ro (.int .i64 0)] := ⟨_, _, rfl, rfl, rfl⟩
theorem ff83_0 : FF Try.prog 83 0 0 3 ∧ ∃ i, Try.prog.info? 3 = some i ∧ i.size ≠ 0 := ⟨⟨_, _, rfl, rfl, rfl, rfl⟩, _, rfl, by decide⟩
theorem ff83_1 : FF Try.prog 83 1 1 3 ∧ ∃ i, Try.prog.info? 3 = some i ∧ i.size ≠ 0 := ⟨⟨_, _, rfl, rfl, rfl, rfl⟩, _, rfl, by decide⟩
theorem cv50_5 : (Try.prog.underlying 50).isSome = true ∧ Try.prog.underlying 5 = some (.int .u8) := ⟨rfl, rfl⟩
theorem us9 : Try.prog.underlying 9 = some .string := rfl
theorem cv5_3 : (Try.prog.underlying 5).isSome = true ∧ Try.prog.underlying 3 = some (.int .i64) := ⟨rfl, rfl⟩
theorem pf27 : PF Try.prog 27 5 1 := ⟨sf27, ⟨_, _, rfl, rfl, rfl, rfl, by decide, by decide⟩⟩
theorem zf29 : ZF Try.prog 29 [.ro (.list 1 (List.map e8 [])), .ro (.int .i64 0)] := ⟨_, _, rfl, rfl, rfl⟩
theorem tf29 : TF Try.prog 29 true 2 := ⟨⟨_, rfl, rfl⟩, ⟨_, rfl, rfl⟩⟩
theorem cf43 : CF Try.prog 43 := fun _ _ => Try.call43 _ _
theorem cf63 : CF Try.prog 63 := fun _ _ => Try.call63 _ _
theorem cf64 : CF Try.prog 64 := fun _ _ => Try.call64 _ _
theorem cf119 : CF Try.prog 119 := fun _ _ => Try.call119 _ _
theorem cf24 : CF Try.prog 24 := fun _ _ => Try.call24 _ _
theorem cf20 : CF Try.prog 20 := fun _ _ => Try.call20 _ _
theorem zf86 : ZF Try.prog 86 [.ro (.list 1 (List.map e8 [])), .ro (.int .i64 0)] := ⟨_, _, rfl, rfl, rfl⟩
theorem bf86 : BF Try.prog 86 [(0, 2)] := ⟨_, rfl, rfl⟩
theorem ff86_0 : FF Try.prog 86 0 0 29 ∧ ∃ i, Try.prog.info? 29 = some i ∧ i.size ≠ 0 := ⟨⟨_, _, rfl, rfl, rfl, rfl⟩, _, rfl, by decide⟩
theorem cv3_50 : (Try.prog.underlying 3).isSome = true ∧ Try.prog.underlying 50 = some (.int .u64) := ⟨rfl, rfl⟩
theorem cf44 : CF Try.prog 44 := fun _ _ => Try.call44 _ _
theorem cf45 : CF Try.prog 45 := fun _ _ => Try.call45 _ _
theorem cf46 : CF Try.prog 46 := fun _ _ => Try.call46 _ _
theorem cf47 : CF Try.prog 47 := fun _ _ => Try.call47 _ _
theorem cf108 : CF Try.prog 108 := fun _ _ => Try.call108 _ _
theorem cf84 : CF Try.prog 84 := fun _ _ => Try.call84 _ _
theorem zf32 : ZF Try.prog 32 [.ro (.list 1 (List.map e8 [])), .ro (.int .i64 0), .ro (.int .i64 0)] := ⟨_, _, rfl, rfl, rfl⟩
theorem bf32 : BF Try.prog 32 [(0, 1), (1, 1), (2, 1)] := ⟨_, rfl, rfl⟩
theorem tf32 : TF Try.prog 32 true 3 := ⟨⟨_, rfl, rfl⟩, ⟨_, rfl, rfl⟩⟩
theorem ff32_2 : FF Try.prog 32 2 2 30 ∧ ∃ i, Try.prog.info? 30 = some i ∧ i.size ≠ 0 := ⟨⟨_, _, rfl, rfl, rfl, rfl⟩, _, rfl, by decide⟩
theorem tf30 : TF Try.prog 30 false 1 := ⟨⟨_, rfl, rfl⟩, ⟨_, rfl, rfl⟩⟩
theorem ff32_1 : FF Try.prog 32 1 1 3 ∧ ∃ i, Try.prog.info? 3 = some i ∧ i.size ≠ 0 := ⟨⟨_, _, rfl, rfl, rfl, rfl⟩, _, rfl, by decide⟩
theorem ff32_0 : FF Try.prog 32 0 0 27 ∧ ∃ i, Try.prog.info? 27 = some i ∧ i.size ≠ 0 := ⟨⟨_, _, rfl, rfl, rfl, rfl⟩, _, rfl, by decide⟩
theorem cf65 : CF Try.prog 65 := fun _ _ => Try.call65 _ _
theorem cf66 : CF Try.prog 66 := fun _ _ => Try.call66 _ _
theorem cf67 : CF Try.prog 67 := fun _ _ => Try.call67 _ _
theorem cv5_50 : (Try.prog.underlying 5).isSome = true ∧ Try.prog.underlying 50 = some (.int .u64) := ⟨rfl, rfl⟩
theorem cf25 : CF Try.prog 25 := fun _ _ => Try.call25 _ _
theorem zf26 : ZF Try.prog 26 [.ro (.int .i64 0), .ro (.int .i64 0), .ro (.int .i64 0), .ro (.list 1 (List.map (ei .i64) [])), .ro (.list 5 (List.map cells_Template [])), .ro (.list 2 (List.map cells_Size []))] := ⟨_, _, rfl, rfl, rfl⟩
theorem zf96 : ZF Try.prog 96 [.ro (.list 1 (List.map e8 [])), .ro (.int .i64 0), .ro (.int .i64 0)] := ⟨_, _, rfl, rfl, rfl⟩
theorem bf96 : BF Try.prog 96 [(0, 3)] := ⟨_, rfl, rfl⟩
theorem cf51 : CF Try.prog 51 := fun _ _ => Try.call51 _ _
theorem tf94 : TF Try.prog 94 false 1 := ⟨⟨_, rfl, rfl⟩, ⟨_, rfl, rfl⟩⟩
theorem ff96_0 : FF Try.prog 96 0 0 32 ∧ ∃ i, Try.prog.info? 32 = some i ∧ i.size ≠ 0 := ⟨⟨_, _, rfl, rfl, rfl, rfl⟩, _, rfl, by decide⟩
theorem cf87 : CF Try.prog 87 := fun _ _ => Try.call87 _ _
theorem cv50_3 : (Try.prog.underlying 50).isSome = true ∧ Try.prog.underlying 3 = some (.int .i64) := ⟨rfl, rfl⟩
theorem zf26_4_5 : ZF Try.prog 26 [.ro (.int .i64 0), .ro (.int .i64 0), .ro (.int .i64 0), .ro (.list 1 (List.map (ei .i64) [])), .ro (.raw (.slice none 0 0)), .ro (.raw (.slice none 0 0))] := ⟨_, _, rfl, rfl, rfl⟩
theorem bf26 : BF Try.prog 26 [(0, 1), (1, 1), (2, 1), (3, 1), (4, 1), (5, 1)] := ⟨_, rfl, rfl⟩
theorem cf88 : CF Try.prog 88 := fun _ _ => Try.call88 _ _
theorem pf23 : PF Try.prog 23 56 5 := ⟨sf23, ⟨_, _, rfl, rfl, rfl, rfl, by decide, by decide⟩⟩
theorem cf52 : CF Try.prog 52 := fun _ _ => Try.call52 _ _
theorem cf109 : CF Try.prog 109 := fun _ _ => Try.call109 _ _
theorem cf89 : CF Try.prog 89 := fun _ _ => Try.call89 _ _
theorem cf90 : CF Try.prog 90 := fun _ _ => Try.call90 _ _
theorem cf91 : CF Try.prog 91 := fun _ _ => Try.call91 _ _
theorem cf110 : CF Try.prog 110 := fun _ _ => Try.call110 _ _
theorem cf92 : CF Try.prog 92 := fun _ _ => Try.call92 _ _
theorem cf94 : CF Try.prog 94 := fun _ _ => Try.call94 _ _
theorem bf83 : BF Try.prog 83 [(0, 1), (1, 1)] := ⟨_, rfl, rfl⟩
theorem pf24 : PF Try.prog 24 83 2 := ⟨sf24, ⟨_, _, rfl, rfl, rfl, rfl, by decide, by decide⟩⟩
theorem cf93 : CF Try.prog 93 := fun _ _ => Try.call93 _ _
theorem cf60 : CF Try.prog 60 := fun _ _ => Try.call60 _ _
theorem qf83 : QF Try.prog 83 [.int .i64, .int .i64] := ⟨⟨_, rfl, rfl⟩, by kernel_rfl, by kernel_rfl⟩
theorem cf61 : CF Try.prog 61 := fun _ _ => Try.call61 _ _
theorem cf59 : CF Try.prog 59 := fun _ _ => Try.call59 _ _
theorem cf62 : CF Try.prog 62 := fun _ _ => Try.call62 _ _
theorem bf29 : BF Try.prog 29 [(0, 1), (1, 1)] := ⟨_, rfl, rfl⟩
theorem cf12 : CF Try.prog 12 := fun _ _ => Try.call12 _ _
theorem cf26 : CF Try.prog 26 := fun _ _ => Try.call26 _ _
theorem cf16 : CF Try.prog 16 := fun _ _ => Try.call16 _ _
theorem cf18 : CF Try.prog 18 := fun _ _ => Try.call18 _ _
theorem bt27_9 : SF Try.prog 27 5 1 ∧ Try.prog.underlying 5 = some (.int .u8) ∧ Try.prog.underlying 9 = some .string := ⟨sf27, rfl, us9⟩
theorem cf23 : CF Try.prog 23 := fun _ _ => Try.call23 _ _
theorem cf9 : CF Try.prog 9 := fun _ _ => Try.call9 _ _
theorem cf10 : CF Try.prog 10 := fun _ _ => Try.call10 _ _
theorem cf14 : CF Try.prog 14 := fun _ _ => Try.call14 _ _
theorem ub4 : Try.prog.underlying 4 = some .bool := rfl

end Xb
