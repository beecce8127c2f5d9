/- Own text: SFacts. -/
import Derived.Test.YtpehlandaemcmaaGreatSModels
import Derived.Test.YtpehlandaemcmaaGreatProg
set_option linter.all false
set_option linter.unusedVariables false
set_option linter.unusedSimpArgs false
set_option linter.unnecessarySimpa false
set_option linter.deprecated false
namespace Xb
open Go Go.Proofs
set_option maxRecDepth 100000

theorem ff33_0 : FF Tryz.prog 33 0 0 3 ∧ ∃ i, Tryz.prog.info? 3 = some i ∧ i.size ≠ 0 := ⟨⟨_, _, rfl, rfl, rfl, rfl⟩, _, rfl, by decide⟩
theorem tf3 : TF Tryz.prog 3 false 1 := ⟨⟨_, rfl, rfl⟩, ⟨_, rfl, rfl⟩⟩
theorem ff33_3 : FF Tryz.prog 33 3 3 23 ∧ ∃ i, Tryz.prog.info? 23 = some i ∧ i.size ≠ 0 := ⟨⟨_, _, rfl, rfl, rfl, rfl⟩, _, rfl, by decide⟩
theorem tf23 : TF Tryz.prog 23 false 1 := ⟨⟨_, rfl, rfl⟩, ⟨_, rfl, rfl⟩⟩
theorem pc107 : Tryz.prog.concrete 107 = true := by kernel_rfl
theorem ff33_4 : FF Tryz.prog 33 4 4 27 ∧ ∃ i, Tryz.prog.info? 27 = some i ∧ i.size ≠ 0 := ⟨⟨_, _, rfl, rfl, rfl, rfl⟩, _, rfl, by decide⟩
theorem tf27 : TF Tryz.prog 27 true 4 := ⟨⟨_, rfl, rfl⟩, ⟨_, rfl, rfl⟩⟩
theorem zf111 : ZF Tryz.prog 111 [.ro (.int .u16 0), .ro (.int .i64 0), .ro (.int .u8 0), .ro (.list 2 (List.map cells_Seen []))] := ⟨_, _, rfl, rfl, rfl⟩
theorem bf111 : BF Tryz.prog 111 [(0, 4)] := ⟨_, rfl, rfl⟩
theorem pc111 : Tryz.prog.concrete 111 = true := by kernel_rfl
theorem zf120 : ZF Tryz.prog 120 [] := ⟨_, _, rfl, rfl, rfl⟩
theorem bf120 : BF Tryz.prog 120 [] := ⟨_, rfl, rfl⟩
theorem pc120 : Tryz.prog.concrete 120 = true := by kernel_rfl
theorem ff33_5 : FF Tryz.prog 33 5 8 28 ∧ ∃ i, Tryz.prog.info? 28 = some i ∧ i.size ≠ 0 := ⟨⟨_, _, rfl, rfl, rfl, rfl⟩, _, rfl, by decide⟩
theorem tf28 : TF Tryz.prog 28 false 1 := ⟨⟨_, rfl, rfl⟩, ⟨_, rfl, rfl⟩⟩
theorem pc114 : Tryz.prog.concrete 114 = true := by kernel_rfl
theorem ff33_6 : FF Tryz.prog 33 6 9 31 ∧ ∃ i, Tryz.prog.info? 31 = some i ∧ i.size ≠ 0 := ⟨⟨_, _, rfl, rfl, rfl, rfl⟩, _, rfl, by decide⟩
theorem tf31 : TF Tryz.prog 31 true 3 := ⟨⟨_, rfl, rfl⟩, ⟨_, rfl, rfl⟩⟩
theorem zf118 : ZF Tryz.prog 118 [.ro (.int .i64 0), .ro (.int .u32 0), .ro (.list 1 (List.map (ei .u32) []))] := ⟨_, _, rfl, rfl, rfl⟩
theorem bf118 : BF Tryz.prog 118 [(0, 3)] := ⟨_, rfl, rfl⟩
theorem pc118 : Tryz.prog.concrete 118 = true := by kernel_rfl
theorem ff27_0 : FF Tryz.prog 27 0 0 24 ∧ ∃ i, Tryz.prog.info? 24 = some i ∧ i.size ≠ 0 := ⟨⟨_, _, rfl, rfl, rfl, rfl⟩, _, rfl, by decide⟩
theorem tf24 : TF Tryz.prog 24 false 1 := ⟨⟨_, rfl, rfl⟩, ⟨_, rfl, rfl⟩⟩
theorem ff27_1 : FF Tryz.prog 27 1 1 3 ∧ ∃ i, Tryz.prog.info? 3 = some i ∧ i.size ≠ 0 := ⟨⟨_, _, rfl, rfl, rfl, rfl⟩, _, rfl, by decide⟩
theorem ff27_2 : FF Tryz.prog 27 2 2 5 ∧ ∃ i, Tryz.prog.info? 5 = some i ∧ i.size ≠ 0 := ⟨⟨_, _, rfl, rfl, rfl, rfl⟩, _, rfl, by decide⟩
theorem tf5 : TF Tryz.prog 5 false 1 := ⟨⟨_, rfl, rfl⟩, ⟨_, rfl, rfl⟩⟩
theorem ff27_3 : FF Tryz.prog 27 3 3 25 ∧ ∃ i, Tryz.prog.info? 25 = some i ∧ i.size ≠ 0 := ⟨⟨_, _, rfl, rfl, rfl, rfl⟩, _, rfl, by decide⟩
theorem tf25 : TF Tryz.prog 25 false 1 := ⟨⟨_, rfl, rfl⟩, ⟨_, rfl, rfl⟩⟩
theorem sf25 : SF Tryz.prog 25 90 2 := ⟨rfl, ⟨_, rfl, rfl⟩⟩
theorem ff31_0 : FF Tryz.prog 31 0 0 3 ∧ ∃ i, Tryz.prog.info? 3 = some i ∧ i.size ≠ 0 := ⟨⟨_, _, rfl, rfl, rfl, rfl⟩, _, rfl, by decide⟩
theorem ff31_1 : FF Tryz.prog 31 1 1 22 ∧ ∃ i, Tryz.prog.info? 22 = some i ∧ i.size ≠ 0 := ⟨⟨_, _, rfl, rfl, rfl, rfl⟩, _, rfl, by decide⟩
theorem tf22 : TF Tryz.prog 22 false 1 := ⟨⟨_, rfl, rfl⟩, ⟨_, rfl, rfl⟩⟩
theorem ff31_2 : FF Tryz.prog 31 2 2 29 ∧ ∃ i, Tryz.prog.info? 29 = some i ∧ i.size ≠ 0 := ⟨⟨_, _, rfl, rfl, rfl, rfl⟩, _, rfl, by decide⟩
theorem tf29 : TF Tryz.prog 29 false 1 := ⟨⟨_, rfl, rfl⟩, ⟨_, rfl, rfl⟩⟩
theorem sf29 : SF Tryz.prog 29 22 1 := ⟨rfl, ⟨_, rfl, rfl⟩⟩
theorem tc107 : ∃ k, Tryz.prog.underlying 107 = some k ∧ ∀ ms, k ≠ .interface ms := ⟨_, rfl, fun _ h => by cases h⟩
theorem tz107 : ∃ i zv, Tryz.prog.info? 107 = some i ∧ i.zero = some zv ∧ ∀ w M, VR w M (.list 2 (List.map cells_Pair [])) zv := ⟨_, _, rfl, rfl, fun _ _ => (.emp _ _ _ (by decide))⟩
theorem sf23 : SF Tryz.prog 23 55 2 := ⟨rfl, ⟨_, rfl, rfl⟩⟩
theorem sf28 : SF Tryz.prog 28 104 2 := ⟨rfl, ⟨_, rfl, rfl⟩⟩
theorem cf65 : CF Tryz.prog 65 := fun _ _ => Tryz.call65 _ _
theorem cf66 : CF Tryz.prog 66 := fun _ _ => Tryz.call66 _ _
theorem tc111 : ∃ k, Tryz.prog.underlying 111 = some k ∧ ∀ ms, k ≠ .interface ms := ⟨_, rfl, fun _ h => by cases h⟩
theorem tz111 : ∃ i zv, Tryz.prog.info? 111 = some i ∧ i.zero = some zv ∧ ∀ w M, VR w M (enc_feed_arrivals (feed_arrivals.mk (Arrive.mk 0 0 0 []))) zv := ⟨_, _, rfl, rfl, fun _ _ => VL.agg (.c (.int _ _ (by decide) (by decide)) rfl <| .c (.int _ _ (by decide) (by decide)) rfl <| .c (.int _ _ (by decide) (by decide)) rfl <| .c (.emp _ _ _ (by decide)) rfl <| .n)⟩
theorem zf27 : ZF Tryz.prog 27 [.ro (.int .u16 0), .ro (.int .i64 0), .ro (.int .u8 0), .ro (.list 2 (List.map cells_Seen []))] := ⟨_, _, rfl, rfl, rfl⟩
theorem bf27 : BF Tryz.prog 27 [(0, 1), (1, 1), (2, 1), (3, 1)] := ⟨_, rfl, rfl⟩
theorem tc114 : ∃ k, Tryz.prog.underlying 114 = some k ∧ ∀ ms, k ≠ .interface ms := ⟨_, rfl, fun _ h => by cases h⟩
theorem tz114 : ∃ i zv, Tryz.prog.info? 114 = some i ∧ i.zero = some zv ∧ ∀ w M, VR w M (.list 2 (List.map cells_Entry [])) zv := ⟨_, _, rfl, rfl, fun _ _ => (.emp _ _ _ (by decide))⟩
theorem tc118 : ∃ k, Tryz.prog.underlying 118 = some k ∧ ∀ ms, k ≠ .interface ms := ⟨_, rfl, fun _ h => by cases h⟩
theorem tz118 : ∃ i zv, Tryz.prog.info? 118 = some i ∧ i.zero = some zv ∧ ∀ w M, VR w M (enc_feed_rate (feed_rate.mk (Rate.mk 0 0 []))) zv := ⟨_, _, rfl, rfl, fun _ _ => VL.agg (.c (.int _ _ (by decide) (by decide)) rfl <| .c (.int _ _ (by decide) (by decide)) rfl <| .c (.emp _ _ _ (by decide)) rfl <| .n)⟩
theorem zf31 : ZF Tryz.prog 31 [.ro (.int .i64 0), .ro (.int .u32 0), .ro (.list 1 (List.map (ei .u32) []))] := ⟨_, _, rfl, rfl, rfl⟩
theorem bf31 : BF Tryz.prog 31 [(0, 1), (1, 1), (2, 1)] := ⟨_, rfl, rfl⟩
theorem cf55 : CF Tryz.prog 55 := fun _ _ => Tryz.call55 _ _
theorem tf64 : TF Tryz.prog 64 false 1 := ⟨⟨_, rfl, rfl⟩, ⟨_, rfl, rfl⟩⟩
theorem sf34 : SF Tryz.prog 34 5 1 := ⟨rfl, ⟨_, rfl, rfl⟩⟩
theorem pf34 : PF Tryz.prog 34 5 1 := ⟨sf34, ⟨_, _, rfl, rfl, rfl, rfl, by decide, by decide⟩⟩
theorem zf5 : ZF Tryz.prog 5 [.ro (.int .u8 0)] := ⟨_, _, rfl, rfl, rfl⟩
theorem zf34_0 : ZF Tryz.prog 34 [.ro (.raw (.slice none 0 0))] := ⟨_, _, rfl, rfl, rfl⟩
theorem tf34 : TF Tryz.prog 34 false 1 := ⟨⟨_, rfl, rfl⟩, ⟨_, rfl, rfl⟩⟩
theorem cf67 : CF Tryz.prog 67 := fun _ _ => Tryz.call67 _ _
theorem cv64_5 : (Tryz.prog.underlying 64).isSome = true ∧ Tryz.prog.underlying 5 = some (.int .u8) := ⟨rfl, rfl⟩
theorem cf79 : CF Tryz.prog 79 := fun _ _ => Tryz.call79 _ _
theorem tf55 : TF Tryz.prog 55 true 2 := ⟨⟨_, rfl, rfl⟩, ⟨_, rfl, rfl⟩⟩
theorem zf55 : ZF Tryz.prog 55 [.ro (.int .u16 0), .ro (.int .u16 0)] := ⟨_, _, rfl, rfl, rfl⟩
theorem ff55_0 : FF Tryz.prog 55 0 0 24 ∧ ∃ i, Tryz.prog.info? 24 = some i ∧ i.size ≠ 0 := ⟨⟨_, _, rfl, rfl, rfl, rfl⟩, _, rfl, by decide⟩
theorem cv24_64 : (Tryz.prog.underlying 24).isSome = true ∧ Tryz.prog.underlying 64 = some (.int .u64) := ⟨rfl, rfl⟩
theorem ff55_1 : FF Tryz.prog 55 1 1 24 ∧ ∃ i, Tryz.prog.info? 24 = some i ∧ i.size ≠ 0 := ⟨⟨_, _, rfl, rfl, rfl, rfl⟩, _, rfl, by decide⟩
theorem cf45 : CF Tryz.prog 45 := fun _ _ => Tryz.call45 _ _
theorem cf121 : CF Tryz.prog 121 := fun _ _ => Tryz.call121 _ _
theorem ff90_0 : FF Tryz.prog 90 0 0 3 ∧ ∃ i, Tryz.prog.info? 3 = some i ∧ i.size ≠ 0 := ⟨⟨_, _, rfl, rfl, rfl, rfl⟩, _, rfl, by decide⟩
theorem ff90_1 : FF Tryz.prog 90 1 1 3 ∧ ∃ i, Tryz.prog.info? 3 = some i ∧ i.size ≠ 0 := ⟨⟨_, _, rfl, rfl, rfl, rfl⟩, _, rfl, by decide⟩
theorem tf90 : TF Tryz.prog 90 true 2 := ⟨⟨_, rfl, rfl⟩, ⟨_, rfl, rfl⟩⟩
theorem cf132 : CF Tryz.prog 132 := fun _ _ => Tryz.call132 _ _
theorem cf137 : CF Tryz.prog 137 := fun _ _ => Tryz.call137 _ _
theorem cf131 : CF Tryz.prog 131 := fun _ _ => Tryz.call131 _ _
theorem cf133 : CF Tryz.prog 133 := fun _ _ => Tryz.call133 _ _
theorem cv2_64 : (Tryz.prog.underlying 2).isSome = true ∧ Tryz.prog.underlying 64 = some (.int .u64) := ⟨rfl, rfl⟩
theorem sf141 : SF Tryz.prog 141 34 1 := ⟨rfl, ⟨_, rfl, rfl⟩⟩
theorem cf80 : CF Tryz.prog 80 := fun _ _ => Tryz.call80 _ _
theorem cf68 : CF Tryz.prog 68 := fun _ _ => Tryz.call68 _ _
theorem zf90 : ZF Tryz.prog 90 [.ro (.int .i64 0), .ro (.int .i64 0)] := ⟨_, _, rfl, rfl, rfl⟩
theorem sf56 : SF Tryz.prog 56 3 1 := ⟨rfl, ⟨_, rfl, rfl⟩⟩
theorem pf56 : PF Tryz.prog 56 3 1 := ⟨sf56, ⟨_, _, rfl, rfl, rfl, rfl, by decide, by decide⟩⟩
theorem cf92 : CF Tryz.prog 92 := fun _ _ => Tryz.call92 _ _
theorem tf56 : TF Tryz.prog 56 false 1 := ⟨⟨_, rfl, rfl⟩, ⟨_, rfl, rfl⟩⟩
theorem cf91 : CF Tryz.prog 91 := fun _ _ => Tryz.call91 _ _
theorem cf90 : CF Tryz.prog 90 := fun _ _ => Tryz.call90 _ _
theorem cv3_24 : (Tryz.prog.underlying 3).isSome = true ∧ Tryz.prog.underlying 24 = some (.int .u16) := ⟨rfl, rfl⟩
theorem cf84 : CF Tryz.prog 84 := fun _ _ => Tryz.call84 _ _
theorem cf83 : CF Tryz.prog 83 := fun _ _ => Tryz.call83 _ _
theorem cf85 : CF Tryz.prog 85 := fun _ _ => Tryz.call85 _ _
theorem cf135 : CF Tryz.prog 135 := fun _ _ => Tryz.call135 _ _
theorem cf134 : CF Tryz.prog 134 := fun _ _ => Tryz.call134 _ _
theorem cf76 : CF Tryz.prog 76 := fun _ _ => Tryz.call76 _ _
theorem sf100 : SF Tryz.prog 100 24 1 := ⟨rfl, ⟨_, rfl, rfl⟩⟩
theorem pf100 : PF Tryz.prog 100 24 1 := ⟨sf100, ⟨_, _, rfl, rfl, rfl, rfl, by decide, by decide⟩⟩
theorem mixed : Tryz.prog.follows .mixedOrders = true := rfl
theorem cf126 : CF Tryz.prog 126 := fun _ _ => Tryz.call126 _ _
theorem cv3_5 : (Tryz.prog.underlying 3).isSome = true ∧ Tryz.prog.underlying 5 = some (.int .u8) := ⟨rfl, rfl⟩
theorem cf136 : CF Tryz.prog 136 := fun _ _ => Tryz.call136 _ _
theorem pf141 : PF Tryz.prog 141 34 1 := ⟨sf141, ⟨_, _, rfl, rfl, rfl, rfl, by decide, by decide⟩⟩
theorem cf125 : CF Tryz.prog 125 := fun _ _ => Tryz.call125 _ _
theorem cv3_64 : (Tryz.prog.underlying 3).isSome = true ∧ Tryz.prog.underlying 64 = some (.int .u64) := ⟨rfl, rfl⟩
theorem cf46 : CF Tryz.prog 46 := fun _ _ => Tryz.call46 _ _
theorem cf128 : CF Tryz.prog 128 := fun _ _ => Tryz.call128 _ _
theorem cf127 : CF Tryz.prog 127 := fun _ _ => Tryz.call127 _ _
theorem cf129 : CF Tryz.prog 129 := fun _ _ => Tryz.call129 _ _
theorem cf130 : CF Tryz.prog 130 := fun _ _ => Tryz.call130 _ _
theorem ff111_0 : FF Tryz.prog 111 0 0 27 ∧ ∃ i, Tryz.prog.info? 27 = some i ∧ i.size ≠ 0 := ⟨⟨_, _, rfl, rfl, rfl, rfl⟩, _, rfl, by decide⟩
theorem cf124 : CF Tryz.prog 124 := fun _ _ => Tryz.call124 _ _
theorem tf104 : TF Tryz.prog 104 true 2 := ⟨⟨_, rfl, rfl⟩, ⟨_, rfl, rfl⟩⟩
theorem zf104 : ZF Tryz.prog 104 [.ro (.int .u32 0), .ro (.int .u8 0)] := ⟨_, _, rfl, rfl, rfl⟩
theorem ff104_0 : FF Tryz.prog 104 0 0 22 ∧ ∃ i, Tryz.prog.info? 22 = some i ∧ i.size ≠ 0 := ⟨⟨_, _, rfl, rfl, rfl, rfl⟩, _, rfl, by decide⟩
theorem cv22_64 : (Tryz.prog.underlying 22).isSome = true ∧ Tryz.prog.underlying 64 = some (.int .u64) := ⟨rfl, rfl⟩
theorem ff104_1 : FF Tryz.prog 104 1 1 5 ∧ ∃ i, Tryz.prog.info? 5 = some i ∧ i.size ≠ 0 := ⟨⟨_, _, rfl, rfl, rfl, rfl⟩, _, rfl, by decide⟩
theorem cf140 : CF Tryz.prog 140 := fun _ _ => Tryz.call140 _ _
theorem cf144 : CF Tryz.prog 144 := fun _ _ => Tryz.call144 _ _
theorem u85 : Tryz.prog.underlying 5 = some (.int .u8) := rfl
theorem ff118_0 : FF Tryz.prog 118 0 0 31 ∧ ∃ i, Tryz.prog.info? 31 = some i ∧ i.size ≠ 0 := ⟨⟨_, _, rfl, rfl, rfl, rfl⟩, _, rfl, by decide⟩
theorem cf143 : CF Tryz.prog 143 := fun _ _ => Tryz.call143 _ _
theorem tf33 : TF Tryz.prog 33 true 12 := ⟨⟨_, rfl, rfl⟩, ⟨_, rfl, rfl⟩⟩
theorem cf43 : CF Tryz.prog 43 := fun _ _ => Tryz.call43 _ _
theorem if70 : ∃ ms, Tryz.prog.underlying 70 = some (.interface ms) := ⟨_, rfl⟩
theorem cf44 : CF Tryz.prog 44 := fun _ _ => Tryz.call44 _ _
theorem cm107_119 : CM Tryz.prog 107 "crossbar/feed.bytes" 119 := fun _ _ _ => by kernel_rfl
theorem cm111_122 : CM Tryz.prog 111 "crossbar/feed.bytes" 122 := fun _ _ _ => by kernel_rfl
theorem cm114_138 : CM Tryz.prog 114 "crossbar/feed.bytes" 138 := fun _ _ _ => by kernel_rfl
theorem cm118_141 : CM Tryz.prog 118 "crossbar/feed.bytes" 141 := fun _ _ _ => by kernel_rfl
theorem cm120_145 : CM Tryz.prog 120 "crossbar/feed.bytes" 145 := fun _ _ _ => by kernel_rfl
theorem ff33_1 : FF Tryz.prog 33 1 1 22 ∧ ∃ i, Tryz.prog.info? 22 = some i ∧ i.size ≠ 0 := ⟨⟨_, _, rfl, rfl, rfl, rfl⟩, _, rfl, by decide⟩
theorem ff33_2 : FF Tryz.prog 33 2 2 22 ∧ ∃ i, Tryz.prog.info? 22 = some i ∧ i.size ≠ 0 := ⟨⟨_, _, rfl, rfl, rfl, rfl⟩, _, rfl, by decide⟩
theorem cf24 : CF Tryz.prog 24 := fun _ _ => Tryz.call24 _ _
theorem cf56 : CF Tryz.prog 56 := fun _ _ => Tryz.call56 _ _
theorem cv5_64 : (Tryz.prog.underlying 5).isSome = true ∧ Tryz.prog.underlying 64 = some (.int .u64) := ⟨rfl, rfl⟩
theorem zf23_0 : ZF Tryz.prog 23 [.ro (.raw (.slice none 0 0))] := ⟨_, _, rfl, rfl, rfl⟩
theorem cf63 : CF Tryz.prog 63 := fun _ _ => Tryz.call63 _ _
theorem cf31 : CF Tryz.prog 31 := fun _ _ => Tryz.call31 _ _
theorem cv64_24 : (Tryz.prog.underlying 64).isSome = true ∧ Tryz.prog.underlying 24 = some (.int .u16) := ⟨rfl, rfl⟩
theorem bf55 : BF Tryz.prog 55 [(0, 1), (1, 1)] := ⟨_, rfl, rfl⟩
theorem pf23 : PF Tryz.prog 23 55 2 := ⟨sf23, ⟨_, _, rfl, rfl, rfl, rfl, by decide, by decide⟩⟩
theorem cf78 : CF Tryz.prog 78 := fun _ _ => Tryz.call78 _ _
theorem cv64_2 : (Tryz.prog.underlying 64).isSome = true ∧ Tryz.prog.underlying 2 = some (.int .i64) := ⟨rfl, rfl⟩
theorem zf100_0 : ZF Tryz.prog 100 [.ro (.raw (.slice none 0 0))] := ⟨_, _, rfl, rfl, rfl⟩
theorem tf100 : TF Tryz.prog 100 false 1 := ⟨⟨_, rfl, rfl⟩, ⟨_, rfl, rfl⟩⟩
theorem cv64_22 : (Tryz.prog.underlying 64).isSome = true ∧ Tryz.prog.underlying 22 = some (.int .u32) := ⟨rfl, rfl⟩
theorem cf103 : CF Tryz.prog 103 := fun _ _ => Tryz.call103 _ _
theorem cv3_123 : (Tryz.prog.underlying 3).isSome = true ∧ Tryz.prog.underlying 123 = some (.int .u64) := ⟨rfl, rfl⟩
theorem cf99 : CF Tryz.prog 99 := fun _ _ => Tryz.call99 _ _
theorem cv123_3 : (Tryz.prog.underlying 123).isSome = true ∧ Tryz.prog.underlying 3 = some (.int .i64) := ⟨rfl, rfl⟩
theorem zf3 : ZF Tryz.prog 3 [.ro (.int .i64 0)] := ⟨_, _, rfl, rfl, rfl⟩
theorem cv24_3 : (Tryz.prog.underlying 24).isSome = true ∧ Tryz.prog.underlying 3 = some (.int .i64) := ⟨rfl, rfl⟩
theorem cf89 : CF Tryz.prog 89 := fun _ _ => Tryz.call89 _ _
theorem cf82 : CF Tryz.prog 82 := fun _ _ => Tryz.call82 _ _
theorem bf90 : BF Tryz.prog 90 [(0, 1), (1, 1)] := ⟨_, rfl, rfl⟩
theorem cf74 : CF Tryz.prog 74 := fun _ _ => Tryz.call74 _ _
theorem pf25 : PF Tryz.prog 25 90 2 := ⟨sf25, ⟨_, _, rfl, rfl, rfl, rfl, by decide, by decide⟩⟩
theorem cv5_3 : (Tryz.prog.underlying 5).isSome = true ∧ Tryz.prog.underlying 3 = some (.int .i64) := ⟨rfl, rfl⟩
theorem cf71 : CF Tryz.prog 71 := fun _ _ => Tryz.call71 _ _
theorem cf72 : CF Tryz.prog 72 := fun _ _ => Tryz.call72 _ _
theorem cv64_3 : (Tryz.prog.underlying 64).isSome = true ∧ Tryz.prog.underlying 3 = some (.int .i64) := ⟨rfl, rfl⟩
theorem cf73 : CF Tryz.prog 73 := fun _ _ => Tryz.call73 _ _
theorem cf75 : CF Tryz.prog 75 := fun _ _ => Tryz.call75 _ _
theorem cf60 : CF Tryz.prog 60 := fun _ _ => Tryz.call60 _ _
theorem zf28_0 : ZF Tryz.prog 28 [.ro (.raw (.slice none 0 0))] := ⟨_, _, rfl, rfl, rfl⟩
theorem bf104 : BF Tryz.prog 104 [(0, 1), (1, 1)] := ⟨_, rfl, rfl⟩
theorem pf28 : PF Tryz.prog 28 104 2 := ⟨sf28, ⟨_, _, rfl, rfl, rfl, rfl, by decide, by decide⟩⟩
theorem cv22_5 : (Tryz.prog.underlying 22).isSome = true ∧ Tryz.prog.underlying 5 = some (.int .u8) := ⟨rfl, rfl⟩
theorem us9 : Tryz.prog.underlying 9 = some .string := rfl
theorem cf81 : CF Tryz.prog 81 := fun _ _ => Tryz.call81 _ _
theorem bt34_9 : SF Tryz.prog 34 5 1 ∧ Tryz.prog.underlying 5 = some (.int .u8) ∧ Tryz.prog.underlying 9 = some .string := ⟨sf34, rfl, us9⟩
theorem zf31_2 : ZF Tryz.prog 31 [.ro (.int .i64 0), .ro (.int .u32 0), .ro (.raw (.slice none 0 0))] := ⟨_, _, rfl, rfl, rfl⟩
theorem cf64 : CF Tryz.prog 64 := fun _ _ => Tryz.call64 _ _
theorem cf69 : CF Tryz.prog 69 := fun _ _ => Tryz.call69 _ _
theorem pf29 : PF Tryz.prog 29 22 1 := ⟨sf29, ⟨_, _, rfl, rfl, rfl, rfl, by decide, by decide⟩⟩
theorem cf51 : CF Tryz.prog 51 := fun _ _ => Tryz.call51 _ _
theorem cf52 : CF Tryz.prog 52 := fun _ _ => Tryz.call52 _ _
theorem cf53 : CF Tryz.prog 53 := fun _ _ => Tryz.call53 _ _
theorem cf54 : CF Tryz.prog 54 := fun _ _ => Tryz.call54 _ _
theorem zf33 : ZF Tryz.prog 33 [.ro (.int .i64 0), .ro (.int .u32 0), .ro (.int .u32 0), .ro (.list 2 (List.map cells_Pair [])), .ro (.int .u16 0), .ro (.int .i64 0), .ro (.int .u8 0), .ro (.list 2 (List.map cells_Seen [])), .ro (.list 2 (List.map cells_Entry [])), .ro (.int .i64 0), .ro (.int .u32 0), .ro (.list 1 (List.map (ei .u32) []))] := ⟨_, _, rfl, rfl, rfl⟩
theorem cf7 : CF Tryz.prog 7 := fun _ _ => Tryz.call7 _ _
theorem bf33 : BF Tryz.prog 33 [(0, 1), (1, 1), (2, 1), (3, 1), (4, 4), (8, 1), (9, 3)] := ⟨_, rfl, rfl⟩
theorem cf30 : CF Tryz.prog 30 := fun _ _ => Tryz.call30 _ _
theorem cm107_120 : CM Tryz.prog 107 "crossbar/feed.put" 120 := fun _ _ _ => by kernel_rfl
theorem cm111_123 : CM Tryz.prog 111 "crossbar/feed.put" 123 := fun _ _ _ => by kernel_rfl
theorem cm114_139 : CM Tryz.prog 114 "crossbar/feed.put" 139 := fun _ _ _ => by kernel_rfl
theorem cm118_142 : CM Tryz.prog 118 "crossbar/feed.put" 142 := fun _ _ _ => by kernel_rfl
theorem cm120_146 : CM Tryz.prog 120 "crossbar/feed.put" 146 := fun _ _ _ => by kernel_rfl
theorem cv5_22 : (Tryz.prog.underlying 5).isSome = true ∧ Tryz.prog.underlying 22 = some (.int .u32) := ⟨rfl, rfl⟩
theorem cf101 : CF Tryz.prog 101 := fun _ _ => Tryz.call101 _ _
theorem xf87 : XF Tryz.prog 87 Extern.BytealgCount.count := fun args w => run_callFunc_extern Tryz.func87 (by kernel_rfl) (by kernel_rfl) (by kernel_rfl) (by kernel_rfl) args w
theorem cf77 : CF Tryz.prog 77 := fun _ _ => Tryz.call77 _ _
theorem cf61 : CF Tryz.prog 61 := fun _ _ => Tryz.call61 _ _
theorem cf62 : CF Tryz.prog 62 := fun _ _ => Tryz.call62 _ _
theorem zf4 : ZF Tryz.prog 4 [.ro (.bool false)] := ⟨_, _, rfl, rfl, rfl⟩
theorem zf37 : ZF Tryz.prog 37 [.ro (.int .i64 0)] := ⟨_, _, rfl, rfl, rfl⟩
theorem tf37 : TF Tryz.prog 37 false 1 := ⟨⟨_, rfl, rfl⟩, ⟨_, rfl, rfl⟩⟩
theorem tf4 : TF Tryz.prog 4 false 1 := ⟨⟨_, rfl, rfl⟩, ⟨_, rfl, rfl⟩⟩
theorem cf14 : CF Tryz.prog 14 := fun _ _ => Tryz.call14 _ _
theorem cf39 : CF Tryz.prog 39 := fun _ _ => Tryz.call39 _ _
theorem cf40 : CF Tryz.prog 40 := fun _ _ => Tryz.call40 _ _
theorem cf41 : CF Tryz.prog 41 := fun _ _ => Tryz.call41 _ _
theorem cf12 : CF Tryz.prog 12 := fun _ _ => Tryz.call12 _ _
theorem cf9 : CF Tryz.prog 9 := fun _ _ => Tryz.call9 _ _
theorem cf18 : CF Tryz.prog 18 := fun _ _ => Tryz.call18 _ _
theorem cf16 : CF Tryz.prog 16 := fun _ _ => Tryz.call16 _ _
theorem qf90 : QF Tryz.prog 90 [.int .i64, .int .i64] := ⟨⟨_, rfl, rfl⟩, by kernel_rfl, by kernel_rfl⟩
theorem cf42 : CF Tryz.prog 42 := fun _ _ => Tryz.call42 _ _
theorem cf20 : CF Tryz.prog 20 := fun _ _ => Tryz.call20 _ _
theorem cf21 : CF Tryz.prog 21 := fun _ _ => Tryz.call21 _ _
theorem cf22 : CF Tryz.prog 22 := fun _ _ => Tryz.call22 _ _
theorem cf23 : CF Tryz.prog 23 := fun _ _ => Tryz.call23 _ _
theorem cf47 : CF Tryz.prog 47 := fun _ _ => Tryz.call47 _ _
theorem cv24_5 : (Tryz.prog.underlying 24).isSome = true ∧ Tryz.prog.underlying 5 = some (.int .u8) := ⟨rfl, rfl⟩
theorem cf25 : CF Tryz.prog 25 := fun _ _ => Tryz.call25 _ _
theorem cf48 : CF Tryz.prog 48 := fun _ _ => Tryz.call48 _ _
theorem cf49 : CF Tryz.prog 49 := fun _ _ => Tryz.call49 _ _
theorem cf50 : CF Tryz.prog 50 := fun _ _ => Tryz.call50 _ _
theorem cf26 : CF Tryz.prog 26 := fun _ _ => Tryz.call26 _ _
theorem cf27 : CF Tryz.prog 27 := fun _ _ => Tryz.call27 _ _
theorem cf28 : CF Tryz.prog 28 := fun _ _ => Tryz.call28 _ _
theorem cf29 : CF Tryz.prog 29 := fun _ _ => Tryz.call29 _ _
theorem cf57 : CF Tryz.prog 57 := fun _ _ => Tryz.call57 _ _
theorem cv5_24 : (Tryz.prog.underlying 5).isSome = true ∧ Tryz.prog.underlying 24 = some (.int .u16) := ⟨rfl, rfl⟩
theorem cf70 : CF Tryz.prog 70 := fun _ _ => Tryz.call70 _ _
theorem cf32 : CF Tryz.prog 32 := fun _ _ => Tryz.call32 _ _
theorem cv22_3 : (Tryz.prog.underlying 22).isSome = true ∧ Tryz.prog.underlying 3 = some (.int .i64) := ⟨rfl, rfl⟩
theorem cv22_24 : (Tryz.prog.underlying 22).isSome = true ∧ Tryz.prog.underlying 24 = some (.int .u16) := ⟨rfl, rfl⟩
theorem cf58 : CF Tryz.prog 58 := fun _ _ => Tryz.call58 _ _
theorem cf59 : CF Tryz.prog 59 := fun _ _ => Tryz.call59 _ _
theorem zf27_3 : ZF Tryz.prog 27 [.ro (.int .u16 0), .ro (.int .i64 0), .ro (.int .u8 0), .ro (.raw (.slice none 0 0))] := ⟨_, _, rfl, rfl, rfl⟩
theorem cf33 : CF Tryz.prog 33 := fun _ _ => Tryz.call33 _ _
theorem cf34 : CF Tryz.prog 34 := fun _ _ => Tryz.call34 _ _
theorem cf35 : CF Tryz.prog 35 := fun _ _ => Tryz.call35 _ _
theorem cf36 : CF Tryz.prog 36 := fun _ _ => Tryz.call36 _ _
theorem qf55 : QF Tryz.prog 55 [.int .u16, .int .u16] := ⟨⟨_, rfl, rfl⟩, by kernel_rfl, by kernel_rfl⟩
theorem qf104 : QF Tryz.prog 104 [.int .u32, .int .u8] := ⟨⟨_, rfl, rfl⟩, by kernel_rfl, by kernel_rfl⟩
theorem cf37 : CF Tryz.prog 37 := fun _ _ => Tryz.call37 _ _
theorem cf38 : CF Tryz.prog 38 := fun _ _ => Tryz.call38 _ _
theorem cf15 : CF Tryz.prog 15 := fun _ _ => Tryz.call15 _ _
theorem cf13 : CF Tryz.prog 13 := fun _ _ => Tryz.call13 _ _
theorem cf5 : CF Tryz.prog 5 := fun _ _ => Tryz.call5 _ _
theorem cf6 : CF Tryz.prog 6 := fun _ _ => Tryz.call6 _ _
theorem cf8 : CF Tryz.prog 8 := fun _ _ => Tryz.call8 _ _
theorem ub4 : Tryz.prog.underlying 4 = some .bool := rfl
theorem cf10 : CF Tryz.prog 10 := fun _ _ => Tryz.call10 _ _
theorem cf11 : CF Tryz.prog 11 := fun _ _ => Tryz.call11 _ _
theorem cf17 : CF Tryz.prog 17 := fun _ _ => Tryz.call17 _ _
theorem cf19 : CF Tryz.prog 19 := fun _ _ => Tryz.call19 _ _

end Xb
