/- Own text: SFacts. -/
import Derived.Test.YtemfkddlidfbfaaGreatSModels
import Derived.Test.YtemfkddlidfbfaaGreatProg
set_option linter.all false
set_option linter.unusedVariables false
set_option linter.unusedSimpArgs false
set_option linter.unnecessarySimpa false
set_option linter.deprecated false
namespace Xb
open Go Go.Proofs
set_option maxRecDepth 100000

theorem sf29 : SF Tryz.prog 29 5 1 := ⟨rfl, ⟨_, rfl, rfl⟩⟩
theorem cf83 : CF Tryz.prog 83 := fun _ _ => Tryz.call83 _ _
theorem cf134 : CF Tryz.prog 134 := fun _ _ => Tryz.call134 _ _
theorem tf5 : TF Tryz.prog 5 false 1 := ⟨⟨_, rfl, rfl⟩, ⟨_, rfl, rfl⟩⟩
theorem cv5_85 : (Tryz.prog.underlying 5).isSome = true ∧ Tryz.prog.underlying 85 = some (.int .u64) := ⟨rfl, rfl⟩
theorem cf109 : CF Tryz.prog 109 := fun _ _ => Tryz.call109 _ _
theorem cv85_23 : (Tryz.prog.underlying 85).isSome = true ∧ Tryz.prog.underlying 23 = some (.int .u32) := ⟨rfl, rfl⟩
theorem tf3 : TF Tryz.prog 3 false 1 := ⟨⟨_, rfl, rfl⟩, ⟨_, rfl, rfl⟩⟩
theorem zf48 : ZF Tryz.prog 48 [.ro (.bool false), .ro (.bool false), .ro (.bool false), .ro (.int .i64 0), .ro (.int .u16 0), .ro (.int .u32 0), .ro (.int .u32 0), .ro (.list 1 (List.map (ei .u32) []))] := ⟨_, _, rfl, rfl, rfl⟩
theorem bf48 : BF Tryz.prog 48 [(0, 1), (1, 1), (2, 1), (3, 1), (4, 1), (5, 1), (6, 1), (7, 1)] := ⟨_, rfl, rfl⟩
theorem tf48 : TF Tryz.prog 48 true 8 := ⟨⟨_, rfl, rfl⟩, ⟨_, rfl, rfl⟩⟩
theorem cv5_3 : (Tryz.prog.underlying 5).isSome = true ∧ Tryz.prog.underlying 3 = some (.int .i64) := ⟨rfl, rfl⟩
theorem zf48_7 : ZF Tryz.prog 48 [.ro (.bool false), .ro (.bool false), .ro (.bool false), .ro (.int .i64 0), .ro (.int .u16 0), .ro (.int .u32 0), .ro (.int .u32 0), .ro (.raw (.slice none 0 0))] := ⟨_, _, rfl, rfl, rfl⟩
theorem mixed : Tryz.prog.follows .mixedOrders = true := rfl
theorem cf107 : CF Tryz.prog 107 := fun _ _ => Tryz.call107 _ _
theorem cv23_22 : (Tryz.prog.underlying 23).isSome = true ∧ Tryz.prog.underlying 22 = some (.int .u16) := ⟨rfl, rfl⟩
theorem ff48_4 : FF Tryz.prog 48 4 4 22 ∧ ∃ i, Tryz.prog.info? 22 = some i ∧ i.size ≠ 0 := ⟨⟨_, _, rfl, rfl, rfl, rfl⟩, _, rfl, by decide⟩
theorem tf22 : TF Tryz.prog 22 false 1 := ⟨⟨_, rfl, rfl⟩, ⟨_, rfl, rfl⟩⟩
theorem ff48_5 : FF Tryz.prog 48 5 5 23 ∧ ∃ i, Tryz.prog.info? 23 = some i ∧ i.size ≠ 0 := ⟨⟨_, _, rfl, rfl, rfl, rfl⟩, _, rfl, by decide⟩
theorem tf23 : TF Tryz.prog 23 false 1 := ⟨⟨_, rfl, rfl⟩, ⟨_, rfl, rfl⟩⟩
theorem ff48_6 : FF Tryz.prog 48 6 6 23 ∧ ∃ i, Tryz.prog.info? 23 = some i ∧ i.size ≠ 0 := ⟨⟨_, _, rfl, rfl, rfl, rfl⟩, _, rfl, by decide⟩
theorem cf108 : CF Tryz.prog 108 := fun _ _ => Tryz.call108 _ _
theorem ff48_7 : FF Tryz.prog 48 7 7 46 ∧ ∃ i, Tryz.prog.info? 46 = some i ∧ i.size ≠ 0 := ⟨⟨_, _, rfl, rfl, rfl, rfl⟩, _, rfl, by decide⟩
theorem tf46 : TF Tryz.prog 46 false 1 := ⟨⟨_, rfl, rfl⟩, ⟨_, rfl, rfl⟩⟩
theorem sf46 : SF Tryz.prog 46 23 1 := ⟨rfl, ⟨_, rfl, rfl⟩⟩
theorem pf46 : PF Tryz.prog 46 23 1 := ⟨sf46, ⟨_, _, rfl, rfl, rfl, rfl, by decide, by decide⟩⟩
theorem cf133 : CF Tryz.prog 133 := fun _ _ => Tryz.call133 _ _
theorem pf29 : PF Tryz.prog 29 5 1 := ⟨sf29, ⟨_, _, rfl, rfl, rfl, rfl, by decide, by decide⟩⟩
theorem cf28 : CF Tryz.prog 28 := fun _ _ => Tryz.call28 _ _
theorem cv85_3 : (Tryz.prog.underlying 85).isSome = true ∧ Tryz.prog.underlying 3 = some (.int .i64) := ⟨rfl, rfl⟩
theorem cf110 : CF Tryz.prog 110 := fun _ _ => Tryz.call110 _ _
theorem cv85_22 : (Tryz.prog.underlying 85).isSome = true ∧ Tryz.prog.underlying 22 = some (.int .u16) := ⟨rfl, rfl⟩
theorem zf50 : ZF Tryz.prog 50 [.ro (.bool false), .ro (.bool false), .ro (.bool false), .ro (.int .i64 0), .ro (.int .u16 0), .ro (.int .u32 0), .ro (.int .u32 0), .ro (.list 1 (List.map (ei .u32) [])), .ro (.int .u16 0), .ro (.list 1 (List.map e8 [])), .ro (.list 1 (List.map e8 [])), .ro (.int .i64 0)] := ⟨_, _, rfl, rfl, rfl⟩
theorem tf50 : TF Tryz.prog 50 true 12 := ⟨⟨_, rfl, rfl⟩, ⟨_, rfl, rfl⟩⟩
theorem cf68 : CF Tryz.prog 68 := fun _ _ => Tryz.call68 _ _
theorem ff50_0 : FF Tryz.prog 50 0 0 48 ∧ ∃ i, Tryz.prog.info? 48 = some i ∧ i.size ≠ 0 := ⟨⟨_, _, rfl, rfl, rfl, rfl⟩, _, rfl, by decide⟩
theorem ff48_1 : FF Tryz.prog 48 1 1 4 ∧ ∃ i, Tryz.prog.info? 4 = some i ∧ i.size ≠ 0 := ⟨⟨_, _, rfl, rfl, rfl, rfl⟩, _, rfl, by decide⟩
theorem tf4 : TF Tryz.prog 4 false 1 := ⟨⟨_, rfl, rfl⟩, ⟨_, rfl, rfl⟩⟩
theorem ff48_0 : FF Tryz.prog 48 0 0 4 ∧ ∃ i, Tryz.prog.info? 4 = some i ∧ i.size ≠ 0 := ⟨⟨_, _, rfl, rfl, rfl, rfl⟩, _, rfl, by decide⟩
theorem ff50_4 : FF Tryz.prog 50 4 11 3 ∧ ∃ i, Tryz.prog.info? 3 = some i ∧ i.size ≠ 0 := ⟨⟨_, _, rfl, rfl, rfl, rfl⟩, _, rfl, by decide⟩
theorem ff50_3 : FF Tryz.prog 50 3 10 29 ∧ ∃ i, Tryz.prog.info? 29 = some i ∧ i.size ≠ 0 := ⟨⟨_, _, rfl, rfl, rfl, rfl⟩, _, rfl, by decide⟩
theorem tf29 : TF Tryz.prog 29 false 1 := ⟨⟨_, rfl, rfl⟩, ⟨_, rfl, rfl⟩⟩
theorem cf70 : CF Tryz.prog 70 := fun _ _ => Tryz.call70 _ _
theorem cf69 : CF Tryz.prog 69 := fun _ _ => Tryz.call69 _ _
theorem ff50_1 : FF Tryz.prog 50 1 8 22 ∧ ∃ i, Tryz.prog.info? 22 = some i ∧ i.size ≠ 0 := ⟨⟨_, _, rfl, rfl, rfl, rfl⟩, _, rfl, by decide⟩
theorem ff50_2 : FF Tryz.prog 50 2 9 29 ∧ ∃ i, Tryz.prog.info? 29 = some i ∧ i.size ≠ 0 := ⟨⟨_, _, rfl, rfl, rfl, rfl⟩, _, rfl, by decide⟩
theorem cf36 : CF Tryz.prog 36 := fun _ _ => Tryz.call36 _ _
theorem bf50 : BF Tryz.prog 50 [(0, 8), (8, 1), (9, 1), (10, 1), (11, 1)] := ⟨_, rfl, rfl⟩
theorem ff48_3 : FF Tryz.prog 48 3 3 3 ∧ ∃ i, Tryz.prog.info? 3 = some i ∧ i.size ≠ 0 := ⟨⟨_, _, rfl, rfl, rfl, rfl⟩, _, rfl, by decide⟩
theorem cf74 : CF Tryz.prog 74 := fun _ _ => Tryz.call74 _ _
theorem cf80 : CF Tryz.prog 80 := fun _ _ => Tryz.call80 _ _
theorem cf75 : CF Tryz.prog 75 := fun _ _ => Tryz.call75 _ _
theorem cf76 : CF Tryz.prog 76 := fun _ _ => Tryz.call76 _ _
theorem cf44 : CF Tryz.prog 44 := fun _ _ => Tryz.call44 _ _
theorem ff28_0 : FF Tryz.prog 28 0 0 4 ∧ ∃ i, Tryz.prog.info? 4 = some i ∧ i.size ≠ 0 := ⟨⟨_, _, rfl, rfl, rfl, rfl⟩, _, rfl, by decide⟩
theorem ff28_1 : FF Tryz.prog 28 1 1 4 ∧ ∃ i, Tryz.prog.info? 4 = some i ∧ i.size ≠ 0 := ⟨⟨_, _, rfl, rfl, rfl, rfl⟩, _, rfl, by decide⟩
theorem ff28_3 : FF Tryz.prog 28 3 3 3 ∧ ∃ i, Tryz.prog.info? 3 = some i ∧ i.size ≠ 0 := ⟨⟨_, _, rfl, rfl, rfl, rfl⟩, _, rfl, by decide⟩
theorem ff28_2 : FF Tryz.prog 28 2 2 4 ∧ ∃ i, Tryz.prog.info? 4 = some i ∧ i.size ≠ 0 := ⟨⟨_, _, rfl, rfl, rfl, rfl⟩, _, rfl, by decide⟩
theorem ff28_4 : FF Tryz.prog 28 4 4 4 ∧ ∃ i, Tryz.prog.info? 4 = some i ∧ i.size ≠ 0 := ⟨⟨_, _, rfl, rfl, rfl, rfl⟩, _, rfl, by decide⟩
theorem ff28_5 : FF Tryz.prog 28 5 5 22 ∧ ∃ i, Tryz.prog.info? 22 = some i ∧ i.size ≠ 0 := ⟨⟨_, _, rfl, rfl, rfl, rfl⟩, _, rfl, by decide⟩
theorem ff28_6 : FF Tryz.prog 28 6 6 4 ∧ ∃ i, Tryz.prog.info? 4 = some i ∧ i.size ≠ 0 := ⟨⟨_, _, rfl, rfl, rfl, rfl⟩, _, rfl, by decide⟩
theorem ff28_7 : FF Tryz.prog 28 7 7 23 ∧ ∃ i, Tryz.prog.info? 23 = some i ∧ i.size ≠ 0 := ⟨⟨_, _, rfl, rfl, rfl, rfl⟩, _, rfl, by decide⟩
theorem ff28_8 : FF Tryz.prog 28 8 8 4 ∧ ∃ i, Tryz.prog.info? 4 = some i ∧ i.size ≠ 0 := ⟨⟨_, _, rfl, rfl, rfl, rfl⟩, _, rfl, by decide⟩
theorem ff28_9 : FF Tryz.prog 28 9 9 23 ∧ ∃ i, Tryz.prog.info? 23 = some i ∧ i.size ≠ 0 := ⟨⟨_, _, rfl, rfl, rfl, rfl⟩, _, rfl, by decide⟩
theorem ff64_0 : FF Tryz.prog 64 0 0 3 ∧ ∃ i, Tryz.prog.info? 3 = some i ∧ i.size ≠ 0 := ⟨⟨_, _, rfl, rfl, rfl, rfl⟩, _, rfl, by decide⟩
theorem eo187 : ∀ x, ElemOK Tryz.prog 3 ((A.int .i64) x) := fun _ => rfl
theorem mz187 : ∃ i zv, Tryz.prog.info? 3 = some i ∧ i.zero = some zv ∧ ∀ w M, VR w M ((A.int .i64) 0) zv := ⟨_, _, rfl, rfl, fun _ _ => .int _ _ (by decide) (by decide)⟩
theorem mf187 : MF Tryz.prog 187 3 3 .i64 := ⟨rfl, rfl⟩
theorem sf26 : SF Tryz.prog 26 3 1 := ⟨rfl, ⟨_, rfl, rfl⟩⟩
theorem ff64_1 : FF Tryz.prog 64 1 1 3 ∧ ∃ i, Tryz.prog.info? 3 = some i ∧ i.size ≠ 0 := ⟨⟨_, _, rfl, rfl, rfl, rfl⟩, _, rfl, by decide⟩
theorem eo188 : ∀ x, ElemOK Tryz.prog 4 (A.bool x) := fun _ => rfl
theorem mz188 : ∃ i zv, Tryz.prog.info? 4 = some i ∧ i.zero = some zv ∧ ∀ w M, VR w M (A.bool false) zv := ⟨_, _, rfl, rfl, fun _ _ => .bool _⟩
theorem mf188 : MF Tryz.prog 188 3 4 .i64 := ⟨rfl, rfl⟩
theorem sf25 : SF Tryz.prog 25 66 2 := ⟨rfl, ⟨_, rfl, rfl⟩⟩
theorem tf66 : TF Tryz.prog 66 true 2 := ⟨⟨_, rfl, rfl⟩, ⟨_, rfl, rfl⟩⟩
theorem zf66 : ZF Tryz.prog 66 [.ro (.int .i64 0), .ro (.list 1 (List.map e8 []))] := ⟨_, _, rfl, rfl, rfl⟩
theorem ff66_0 : FF Tryz.prog 66 0 0 3 ∧ ∃ i, Tryz.prog.info? 3 = some i ∧ i.size ≠ 0 := ⟨⟨_, _, rfl, rfl, rfl, rfl⟩, _, rfl, by decide⟩
theorem ff66_1 : FF Tryz.prog 66 1 1 29 ∧ ∃ i, Tryz.prog.info? 29 = some i ∧ i.size ≠ 0 := ⟨⟨_, _, rfl, rfl, rfl, rfl⟩, _, rfl, by decide⟩
theorem cf136 : CF Tryz.prog 136 := fun _ _ => Tryz.call136 _ _
theorem tf26 : TF Tryz.prog 26 false 1 := ⟨⟨_, rfl, rfl⟩, ⟨_, rfl, rfl⟩⟩
theorem cf121 : CF Tryz.prog 121 := fun _ _ => Tryz.call121 _ _
theorem cf135 : CF Tryz.prog 135 := fun _ _ => Tryz.call135 _ _
theorem tf28 : TF Tryz.prog 28 true 15 := ⟨⟨_, rfl, rfl⟩, ⟨_, rfl, rfl⟩⟩
theorem cf111 : CF Tryz.prog 111 := fun _ _ => Tryz.call111 _ _
theorem ff28_10 : FF Tryz.prog 28 10 10 24 ∧ ∃ i, Tryz.prog.info? 24 = some i ∧ i.size ≠ 0 := ⟨⟨_, _, rfl, rfl, rfl, rfl⟩, _, rfl, by decide⟩
theorem tf24 : TF Tryz.prog 24 false 1 := ⟨⟨_, rfl, rfl⟩, ⟨_, rfl, rfl⟩⟩
theorem sf24 : SF Tryz.prog 24 64 2 := ⟨rfl, ⟨_, rfl, rfl⟩⟩
theorem tf64 : TF Tryz.prog 64 true 2 := ⟨⟨_, rfl, rfl⟩, ⟨_, rfl, rfl⟩⟩
theorem zf64 : ZF Tryz.prog 64 [.ro (.int .i64 0), .ro (.int .i64 0)] := ⟨_, _, rfl, rfl, rfl⟩
theorem cf114 : CF Tryz.prog 114 := fun _ _ => Tryz.call114 _ _
theorem pf26 : PF Tryz.prog 26 3 1 := ⟨sf26, ⟨_, _, rfl, rfl, rfl, rfl, by decide, by decide⟩⟩
theorem cf113 : CF Tryz.prog 113 := fun _ _ => Tryz.call113 _ _
theorem cf112 : CF Tryz.prog 112 := fun _ _ => Tryz.call112 _ _
theorem cf115 : CF Tryz.prog 115 := fun _ _ => Tryz.call115 _ _
theorem ff28_11 : FF Tryz.prog 28 11 11 25 ∧ ∃ i, Tryz.prog.info? 25 = some i ∧ i.size ≠ 0 := ⟨⟨_, _, rfl, rfl, rfl, rfl⟩, _, rfl, by decide⟩
theorem tf25 : TF Tryz.prog 25 false 1 := ⟨⟨_, rfl, rfl⟩, ⟨_, rfl, rfl⟩⟩
theorem cf116 : CF Tryz.prog 116 := fun _ _ => Tryz.call116 _ _
theorem ff28_13 : FF Tryz.prog 28 13 13 25 ∧ ∃ i, Tryz.prog.info? 25 = some i ∧ i.size ≠ 0 := ⟨⟨_, _, rfl, rfl, rfl, rfl⟩, _, rfl, by decide⟩
theorem ff28_12 : FF Tryz.prog 28 12 12 26 ∧ ∃ i, Tryz.prog.info? 26 = some i ∧ i.size ≠ 0 := ⟨⟨_, _, rfl, rfl, rfl, rfl⟩, _, rfl, by decide⟩
theorem cf118 : CF Tryz.prog 118 := fun _ _ => Tryz.call118 _ _
theorem cf117 : CF Tryz.prog 117 := fun _ _ => Tryz.call117 _ _
theorem zf26 : ZF Tryz.prog 26 [.ro (.list 1 (List.map (ei .i64) []))] := ⟨_, _, rfl, rfl, rfl⟩
theorem cf120 : CF Tryz.prog 120 := fun _ _ => Tryz.call120 _ _
theorem cf119 : CF Tryz.prog 119 := fun _ _ => Tryz.call119 _ _
theorem cf37 : CF Tryz.prog 37 := fun _ _ => Tryz.call37 _ _
theorem zf197 : ZF Tryz.prog 197 [] := ⟨_, _, rfl, rfl, rfl⟩
theorem bf197 : BF Tryz.prog 197 [] := ⟨_, rfl, rfl⟩
theorem pc197 : Tryz.prog.concrete 197 = true := by kernel_rfl
theorem zf198 : ZF Tryz.prog 198 [] := ⟨_, _, rfl, rfl, rfl⟩
theorem bf198 : BF Tryz.prog 198 [] := ⟨_, rfl, rfl⟩
theorem pc198 : Tryz.prog.concrete 198 = true := by kernel_rfl
theorem zf79 : ZF Tryz.prog 79 [.ro (.int .i64 0), .ro (.int .i64 0), .ro (.int .i64 0)] := ⟨_, _, rfl, rfl, rfl⟩
theorem bf79 : BF Tryz.prog 79 [(0, 1), (1, 1), (2, 1)] := ⟨_, rfl, rfl⟩
theorem tf79 : TF Tryz.prog 79 true 3 := ⟨⟨_, rfl, rfl⟩, ⟨_, rfl, rfl⟩⟩
theorem ff79_0 : FF Tryz.prog 79 0 0 3 ∧ ∃ i, Tryz.prog.info? 3 = some i ∧ i.size ≠ 0 := ⟨⟨_, _, rfl, rfl, rfl, rfl⟩, _, rfl, by decide⟩
theorem ff79_2 : FF Tryz.prog 79 2 2 3 ∧ ∃ i, Tryz.prog.info? 3 = some i ∧ i.size ≠ 0 := ⟨⟨_, _, rfl, rfl, rfl, rfl⟩, _, rfl, by decide⟩
theorem sf75 : SF Tryz.prog 75 79 3 := ⟨rfl, ⟨_, rfl, rfl⟩⟩
theorem cf146 : CF Tryz.prog 146 := fun _ _ => Tryz.call146 _ _
theorem cf130 : CF Tryz.prog 130 := fun _ _ => Tryz.call130 _ _
theorem if180 : ∃ ms, Tryz.prog.underlying 180 = some (.interface ms) := ⟨_, rfl⟩
theorem cm197_174 : CM Tryz.prog 197 "crossbar/elem.next" 174 := fun _ _ _ => by kernel_rfl
theorem cm198_175 : CM Tryz.prog 198 "crossbar/elem.next" 175 := fun _ _ _ => by kernel_rfl
theorem ff79_1 : FF Tryz.prog 79 1 1 3 ∧ ∃ i, Tryz.prog.info? 3 = some i ∧ i.size ≠ 0 := ⟨⟨_, _, rfl, rfl, rfl, rfl⟩, _, rfl, by decide⟩
theorem cf132 : CF Tryz.prog 132 := fun _ _ => Tryz.call132 _ _
theorem cf131 : CF Tryz.prog 131 := fun _ _ => Tryz.call131 _ _
theorem pf75 : PF Tryz.prog 75 79 3 := ⟨sf75, ⟨_, _, rfl, rfl, rfl, rfl, by decide, by decide⟩⟩
theorem cf91 : CF Tryz.prog 91 := fun _ _ => Tryz.call91 _ _
theorem bf66 : BF Tryz.prog 66 [(0, 1), (1, 1)] := ⟨_, rfl, rfl⟩
theorem pf25 : PF Tryz.prog 25 66 2 := ⟨sf25, ⟨_, _, rfl, rfl, rfl, rfl, by decide, by decide⟩⟩
theorem cf137 : CF Tryz.prog 137 := fun _ _ => Tryz.call137 _ _
theorem sf200 : SF Tryz.prog 200 26 1 := ⟨rfl, ⟨_, rfl, rfl⟩⟩
theorem cf147 : CF Tryz.prog 147 := fun _ _ => Tryz.call147 _ _
theorem pf200 : PF Tryz.prog 200 26 1 := ⟨sf200, ⟨_, _, rfl, rfl, rfl, rfl, by decide, by decide⟩⟩
theorem cf138 : CF Tryz.prog 138 := fun _ _ => Tryz.call138 _ _
theorem cf139 : CF Tryz.prog 139 := fun _ _ => Tryz.call139 _ _
theorem cf140 : CF Tryz.prog 140 := fun _ _ => Tryz.call140 _ _
theorem cv3_5 : (Tryz.prog.underlying 3).isSome = true ∧ Tryz.prog.underlying 5 = some (.int .u8) := ⟨rfl, rfl⟩
theorem cf95 : CF Tryz.prog 95 := fun _ _ => Tryz.call95 _ _
theorem cf155 : CF Tryz.prog 155 := fun _ _ => Tryz.call155 _ _
theorem cf156 : CF Tryz.prog 156 := fun _ _ => Tryz.call156 _ _
theorem cf148 : CF Tryz.prog 148 := fun _ _ => Tryz.call148 _ _
theorem zf5 : ZF Tryz.prog 5 [.ro (.int .u8 0)] := ⟨_, _, rfl, rfl, rfl⟩
theorem sf136 : SF Tryz.prog 136 29 1 := ⟨rfl, ⟨_, rfl, rfl⟩⟩
theorem cf129 : CF Tryz.prog 129 := fun _ _ => Tryz.call129 _ _
theorem cf86 : CF Tryz.prog 86 := fun _ _ => Tryz.call86 _ _
theorem pf136 : PF Tryz.prog 136 29 1 := ⟨sf136, ⟨_, _, rfl, rfl, rfl, rfl, by decide, by decide⟩⟩
theorem cf85 : CF Tryz.prog 85 := fun _ _ => Tryz.call85 _ _
theorem cf141 : CF Tryz.prog 141 := fun _ _ => Tryz.call141 _ _
theorem cf142 : CF Tryz.prog 142 := fun _ _ => Tryz.call142 _ _
theorem cf122 : CF Tryz.prog 122 := fun _ _ => Tryz.call122 _ _
theorem cf123 : CF Tryz.prog 123 := fun _ _ => Tryz.call123 _ _
theorem cf124 : CF Tryz.prog 124 := fun _ _ => Tryz.call124 _ _
theorem cf125 : CF Tryz.prog 125 := fun _ _ => Tryz.call125 _ _
theorem cf126 : CF Tryz.prog 126 := fun _ _ => Tryz.call126 _ _
theorem ff48_2 : FF Tryz.prog 48 2 2 4 ∧ ∃ i, Tryz.prog.info? 4 = some i ∧ i.size ≠ 0 := ⟨⟨_, _, rfl, rfl, rfl, rfl⟩, _, rfl, by decide⟩
theorem cf39 : CF Tryz.prog 39 := fun _ _ => Tryz.call39 _ _
theorem cf71 : CF Tryz.prog 71 := fun _ _ => Tryz.call71 _ _
theorem cf42 : CF Tryz.prog 42 := fun _ _ => Tryz.call42 _ _
theorem cf73 : CF Tryz.prog 73 := fun _ _ => Tryz.call73 _ _
theorem ff28_14 : FF Tryz.prog 28 14 14 4 ∧ ∃ i, Tryz.prog.info? 4 = some i ∧ i.size ≠ 0 := ⟨⟨_, _, rfl, rfl, rfl, rfl⟩, _, rfl, by decide⟩
theorem cf72 : CF Tryz.prog 72 := fun _ _ => Tryz.call72 _ _
theorem cf38 : CF Tryz.prog 38 := fun _ _ => Tryz.call38 _ _
theorem cf15 : CF Tryz.prog 15 := fun _ _ => Tryz.call15 _ _
theorem zf140 : ZF Tryz.prog 140 [.ro (.list 3 (List.map cells_Place [])), .ro (.int .i64 0)] := ⟨_, _, rfl, rfl, rfl⟩
theorem zf140_0 : ZF Tryz.prog 140 [.ro (.raw (.slice none 0 0)), .ro (.int .i64 0)] := ⟨_, _, rfl, rfl, rfl⟩
theorem bf140 : BF Tryz.prog 140 [(0, 1), (1, 1)] := ⟨_, rfl, rfl⟩
theorem cf87 : CF Tryz.prog 87 := fun _ _ => Tryz.call87 _ _
theorem ff140_0 : FF Tryz.prog 140 0 0 32 ∧ ∃ i, Tryz.prog.info? 32 = some i ∧ i.size ≠ 0 := ⟨⟨_, _, rfl, rfl, rfl, rfl⟩, _, rfl, by decide⟩
theorem tf32 : TF Tryz.prog 32 false 1 := ⟨⟨_, rfl, rfl⟩, ⟨_, rfl, rfl⟩⟩
theorem ff140_1 : FF Tryz.prog 140 1 1 3 ∧ ∃ i, Tryz.prog.info? 3 = some i ∧ i.size ≠ 0 := ⟨⟨_, _, rfl, rfl, rfl, rfl⟩, _, rfl, by decide⟩
theorem zf59 : ZF Tryz.prog 59 [.ro (.int .i64 0), .ro (.int .i64 0), .ro (.int .i64 0)] := ⟨_, _, rfl, rfl, rfl⟩
theorem bf59 : BF Tryz.prog 59 [(0, 1), (1, 1), (2, 1)] := ⟨_, rfl, rfl⟩
theorem sf32 : SF Tryz.prog 32 59 3 := ⟨rfl, ⟨_, rfl, rfl⟩⟩
theorem pf32 : PF Tryz.prog 32 59 3 := ⟨sf32, ⟨_, _, rfl, rfl, rfl, rfl, by decide, by decide⟩⟩
theorem tf59 : TF Tryz.prog 59 true 3 := ⟨⟨_, rfl, rfl⟩, ⟨_, rfl, rfl⟩⟩
theorem ff59_0 : FF Tryz.prog 59 0 0 3 ∧ ∃ i, Tryz.prog.info? 3 = some i ∧ i.size ≠ 0 := ⟨⟨_, _, rfl, rfl, rfl, rfl⟩, _, rfl, by decide⟩
theorem tf85 : TF Tryz.prog 85 false 1 := ⟨⟨_, rfl, rfl⟩, ⟨_, rfl, rfl⟩⟩
theorem zf29_0 : ZF Tryz.prog 29 [.ro (.raw (.slice none 0 0))] := ⟨_, _, rfl, rfl, rfl⟩
theorem cf84 : CF Tryz.prog 84 := fun _ _ => Tryz.call84 _ _
theorem cv85_5 : (Tryz.prog.underlying 85).isSome = true ∧ Tryz.prog.underlying 5 = some (.int .u8) := ⟨rfl, rfl⟩
theorem cf128 : CF Tryz.prog 128 := fun _ _ => Tryz.call128 _ _
theorem cf46 : CF Tryz.prog 46 := fun _ _ => Tryz.call46 _ _
theorem cf17 : CF Tryz.prog 17 := fun _ _ => Tryz.call17 _ _
theorem zf100 : ZF Tryz.prog 100 [.ro (.list 1 (List.map e8 [])), .ro (.list 3 (List.map cells_Place [])), .ro (.list 4 (List.map cells_stay_stroke []))] := ⟨_, _, rfl, rfl, rfl⟩
theorem zf100_2 : ZF Tryz.prog 100 [.ro (.list 1 (List.map e8 [])), .ro (.list 3 (List.map cells_Place [])), .ro (.raw (.slice none 0 0))] := ⟨_, _, rfl, rfl, rfl⟩
theorem bf100 : BF Tryz.prog 100 [(0, 1), (1, 1), (2, 1)] := ⟨_, rfl, rfl⟩
theorem cf49 : CF Tryz.prog 49 := fun _ _ => Tryz.call49 _ _
theorem ff100_1 : FF Tryz.prog 100 1 1 32 ∧ ∃ i, Tryz.prog.info? 32 = some i ∧ i.size ≠ 0 := ⟨⟨_, _, rfl, rfl, rfl, rfl⟩, _, rfl, by decide⟩
theorem cf51 : CF Tryz.prog 51 := fun _ _ => Tryz.call51 _ _
theorem cf50 : CF Tryz.prog 50 := fun _ _ => Tryz.call50 _ _
theorem cf88 : CF Tryz.prog 88 := fun _ _ => Tryz.call88 _ _
theorem ff100_2 : FF Tryz.prog 100 2 2 68 ∧ ∃ i, Tryz.prog.info? 68 = some i ∧ i.size ≠ 0 := ⟨⟨_, _, rfl, rfl, rfl, rfl⟩, _, rfl, by decide⟩
theorem tf68 : TF Tryz.prog 68 false 1 := ⟨⟨_, rfl, rfl⟩, ⟨_, rfl, rfl⟩⟩
theorem ff100_0 : FF Tryz.prog 100 0 0 29 ∧ ∃ i, Tryz.prog.info? 29 = some i ∧ i.size ≠ 0 := ⟨⟨_, _, rfl, rfl, rfl, rfl⟩, _, rfl, by decide⟩
theorem ff59_1 : FF Tryz.prog 59 1 1 3 ∧ ∃ i, Tryz.prog.info? 3 = some i ∧ i.size ≠ 0 := ⟨⟨_, _, rfl, rfl, rfl, rfl⟩, _, rfl, by decide⟩
theorem ff59_2 : FF Tryz.prog 59 2 2 3 ∧ ∃ i, Tryz.prog.info? 3 = some i ∧ i.size ≠ 0 := ⟨⟨_, _, rfl, rfl, rfl, rfl⟩, _, rfl, by decide⟩
theorem cf89 : CF Tryz.prog 89 := fun _ _ => Tryz.call89 _ _
theorem zf72 : ZF Tryz.prog 72 [.ro (.int .i64 0), .ro (.int .i64 0), .ro (.int .i64 0), .ro (.list 1 (List.map e8 []))] := ⟨_, _, rfl, rfl, rfl⟩
theorem bf72 : BF Tryz.prog 72 [(0, 3), (3, 1)] := ⟨_, rfl, rfl⟩
theorem sf68 : SF Tryz.prog 68 72 4 := ⟨rfl, ⟨_, rfl, rfl⟩⟩
theorem pf68 : PF Tryz.prog 68 72 4 := ⟨sf68, ⟨_, _, rfl, rfl, rfl, rfl, by decide, by decide⟩⟩
theorem cv22_85 : (Tryz.prog.underlying 22).isSome = true ∧ Tryz.prog.underlying 85 = some (.int .u64) := ⟨rfl, rfl⟩
theorem cf52 : CF Tryz.prog 52 := fun _ _ => Tryz.call52 _ _
theorem cf90 : CF Tryz.prog 90 := fun _ _ => Tryz.call90 _ _
theorem cv23_85 : (Tryz.prog.underlying 23).isSome = true ∧ Tryz.prog.underlying 85 = some (.int .u64) := ⟨rfl, rfl⟩
theorem cf53 : CF Tryz.prog 53 := fun _ _ => Tryz.call53 _ _
theorem cf93 : CF Tryz.prog 93 := fun _ _ => Tryz.call93 _ _
theorem cf92 : CF Tryz.prog 92 := fun _ _ => Tryz.call92 _ _
theorem cf96 : CF Tryz.prog 96 := fun _ _ => Tryz.call96 _ _
theorem cf94 : CF Tryz.prog 94 := fun _ _ => Tryz.call94 _ _
theorem cf16 : CF Tryz.prog 16 := fun _ _ => Tryz.call16 _ _
theorem cf25 : CF Tryz.prog 25 := fun _ _ => Tryz.call25 _ _
theorem tf72 : TF Tryz.prog 72 true 4 := ⟨⟨_, rfl, rfl⟩, ⟨_, rfl, rfl⟩⟩
theorem ff72_0 : FF Tryz.prog 72 0 0 59 ∧ ∃ i, Tryz.prog.info? 59 = some i ∧ i.size ≠ 0 := ⟨⟨_, _, rfl, rfl, rfl, rfl⟩, _, rfl, by decide⟩
theorem ff72_1 : FF Tryz.prog 72 1 3 29 ∧ ∃ i, Tryz.prog.info? 29 = some i ∧ i.size ≠ 0 := ⟨⟨_, _, rfl, rfl, rfl, rfl⟩, _, rfl, by decide⟩
theorem cf77 : CF Tryz.prog 77 := fun _ _ => Tryz.call77 _ _
theorem cf40 : CF Tryz.prog 40 := fun _ _ => Tryz.call40 _ _
theorem cf81 : CF Tryz.prog 81 := fun _ _ => Tryz.call81 _ _
theorem cf82 : CF Tryz.prog 82 := fun _ _ => Tryz.call82 _ _
theorem cf47 : CF Tryz.prog 47 := fun _ _ => Tryz.call47 _ _
theorem cf45 : CF Tryz.prog 45 := fun _ _ => Tryz.call45 _ _
theorem cf48 : CF Tryz.prog 48 := fun _ _ => Tryz.call48 _ _
theorem cv3_85 : (Tryz.prog.underlying 3).isSome = true ∧ Tryz.prog.underlying 85 = some (.int .u64) := ⟨rfl, rfl⟩
theorem cf18 : CF Tryz.prog 18 := fun _ _ => Tryz.call18 _ _
theorem cf23 : CF Tryz.prog 23 := fun _ _ => Tryz.call23 _ _
theorem bf64 : BF Tryz.prog 64 [(0, 1), (1, 1)] := ⟨_, rfl, rfl⟩
theorem pf24 : PF Tryz.prog 24 64 2 := ⟨sf24, ⟨_, _, rfl, rfl, rfl, rfl, by decide, by decide⟩⟩
theorem zf28 : ZF Tryz.prog 28 [.ro (.bool false), .ro (.bool false), .ro (.bool false), .ro (.int .i64 0), .ro (.bool false), .ro (.int .u16 0), .ro (.bool false), .ro (.int .u32 0), .ro (.bool false), .ro (.int .u32 0), .ro (.list 2 (List.map cells_GMap [])), .ro (.list 2 (List.map cells_Elem [])), .ro (.list 1 (List.map (ei .i64) [])), .ro (.list 2 (List.map cells_Elem [])), .ro (.bool false)] := ⟨_, _, rfl, rfl, rfl⟩
theorem bf28 : BF Tryz.prog 28 [(0, 1), (1, 1), (2, 1), (3, 1), (4, 1), (5, 1), (6, 1), (7, 1), (8, 1), (9, 1), (10, 1), (11, 1), (12, 1), (13, 1), (14, 1)] := ⟨_, rfl, rfl⟩
theorem cf11 : CF Tryz.prog 11 := fun _ _ => Tryz.call11 _ _
theorem cf8 : CF Tryz.prog 8 := fun _ _ => Tryz.call8 _ _
theorem cf13 : CF Tryz.prog 13 := fun _ _ => Tryz.call13 _ _
theorem us9 : Tryz.prog.underlying 9 = some .string := rfl
theorem bt29_9 : SF Tryz.prog 29 5 1 ∧ Tryz.prog.underlying 5 = some (.int .u8) ∧ Tryz.prog.underlying 9 = some .string := ⟨sf29, rfl, us9⟩
theorem qf59 : QF Tryz.prog 59 [.int .i64, .int .i64, .int .i64] := ⟨⟨_, rfl, rfl⟩, by kernel_rfl, by kernel_rfl⟩
theorem cf24 : CF Tryz.prog 24 := fun _ _ => Tryz.call24 _ _
theorem cv5_23 : (Tryz.prog.underlying 5).isSome = true ∧ Tryz.prog.underlying 23 = some (.int .u32) := ⟨rfl, rfl⟩
theorem cf158 : CF Tryz.prog 158 := fun _ _ => Tryz.call158 _ _
theorem xf144 : XF Tryz.prog 144 Extern.BytealgCount.count := fun args w => run_callFunc_extern Tryz.func144 (by kernel_rfl) (by kernel_rfl) (by kernel_rfl) (by kernel_rfl) args w
theorem cf127 : CF Tryz.prog 127 := fun _ _ => Tryz.call127 _ _
theorem cf79 : CF Tryz.prog 79 := fun _ _ => Tryz.call79 _ _
theorem cf43 : CF Tryz.prog 43 := fun _ _ => Tryz.call43 _ _
theorem ub4 : Tryz.prog.underlying 4 = some .bool := rfl
theorem cf78 : CF Tryz.prog 78 := fun _ _ => Tryz.call78 _ _
theorem cf41 : CF Tryz.prog 41 := fun _ _ => Tryz.call41 _ _
theorem cf6 : CF Tryz.prog 6 := fun _ _ => Tryz.call6 _ _
theorem cf7 : CF Tryz.prog 7 := fun _ _ => Tryz.call7 _ _
theorem cf22 : CF Tryz.prog 22 := fun _ _ => Tryz.call22 _ _
theorem cf21 : CF Tryz.prog 21 := fun _ _ => Tryz.call21 _ _
theorem cf19 : CF Tryz.prog 19 := fun _ _ => Tryz.call19 _ _

end Xb
