/- Own text: RFacts. -/
import Derived.Test.YtpehlandaemcmaaRModels
import Derived.Test.YtpehlandaemcmaaProg
set_option linter.all false
set_option linter.unusedVariables false
set_option linter.unusedSimpArgs false
set_option linter.unnecessarySimpa false
set_option linter.deprecated false
namespace Xb
open Go Go.Proofs
set_option maxRecDepth 100000

theorem ff44_0 : FF Try.prog 44 0 0 3 ∧ ∃ i, Try.prog.info? 3 = some i ∧ i.size ≠ 0 := ⟨⟨_, _, rfl, rfl, rfl, rfl⟩, _, rfl, by decide⟩
theorem tf3 : TF Try.prog 3 false 1 := ⟨⟨_, rfl, rfl⟩, ⟨_, rfl, rfl⟩⟩
theorem ff44_3 : FF Try.prog 44 3 3 35 ∧ ∃ i, Try.prog.info? 35 = some i ∧ i.size ≠ 0 := ⟨⟨_, _, rfl, rfl, rfl, rfl⟩, _, rfl, by decide⟩
theorem tf35 : TF Try.prog 35 false 1 := ⟨⟨_, rfl, rfl⟩, ⟨_, rfl, rfl⟩⟩
theorem pc68 : Try.prog.concrete 68 = true := by kernel_rfl
theorem ff44_4 : FF Try.prog 44 4 4 38 ∧ ∃ i, Try.prog.info? 38 = some i ∧ i.size ≠ 0 := ⟨⟨_, _, rfl, rfl, rfl, rfl⟩, _, rfl, by decide⟩
theorem tf38 : TF Try.prog 38 true 4 := ⟨⟨_, rfl, rfl⟩, ⟨_, rfl, rfl⟩⟩
theorem zf72 : ZF Try.prog 72 [.ro (.int .u16 0), .ro (.int .i64 0), .ro (.int .u8 0), .ro (.list 2 (List.map cells_Seen []))] := ⟨_, _, rfl, rfl, rfl⟩
theorem bf72 : BF Try.prog 72 [(0, 4)] := ⟨_, rfl, rfl⟩
theorem pc72 : Try.prog.concrete 72 = true := by kernel_rfl
theorem zf81 : ZF Try.prog 81 [] := ⟨_, _, rfl, rfl, rfl⟩
theorem bf81 : BF Try.prog 81 [] := ⟨_, rfl, rfl⟩
theorem pc81 : Try.prog.concrete 81 = true := by kernel_rfl
theorem ff44_5 : FF Try.prog 44 5 8 39 ∧ ∃ i, Try.prog.info? 39 = some i ∧ i.size ≠ 0 := ⟨⟨_, _, rfl, rfl, rfl, rfl⟩, _, rfl, by decide⟩
theorem tf39 : TF Try.prog 39 false 1 := ⟨⟨_, rfl, rfl⟩, ⟨_, rfl, rfl⟩⟩
theorem pc75 : Try.prog.concrete 75 = true := by kernel_rfl
theorem ff44_6 : FF Try.prog 44 6 9 42 ∧ ∃ i, Try.prog.info? 42 = some i ∧ i.size ≠ 0 := ⟨⟨_, _, rfl, rfl, rfl, rfl⟩, _, rfl, by decide⟩
theorem tf42 : TF Try.prog 42 true 3 := ⟨⟨_, rfl, rfl⟩, ⟨_, rfl, rfl⟩⟩
theorem zf79 : ZF Try.prog 79 [.ro (.int .i64 0), .ro (.int .u32 0), .ro (.list 1 (List.map (ei .u32) []))] := ⟨_, _, rfl, rfl, rfl⟩
theorem bf79 : BF Try.prog 79 [(0, 3)] := ⟨_, rfl, rfl⟩
theorem pc79 : Try.prog.concrete 79 = true := by kernel_rfl
theorem ff38_0 : FF Try.prog 38 0 0 32 ∧ ∃ i, Try.prog.info? 32 = some i ∧ i.size ≠ 0 := ⟨⟨_, _, rfl, rfl, rfl, rfl⟩, _, rfl, by decide⟩
theorem tf32 : TF Try.prog 32 false 1 := ⟨⟨_, rfl, rfl⟩, ⟨_, rfl, rfl⟩⟩
theorem ff38_1 : FF Try.prog 38 1 1 3 ∧ ∃ i, Try.prog.info? 3 = some i ∧ i.size ≠ 0 := ⟨⟨_, _, rfl, rfl, rfl, rfl⟩, _, rfl, by decide⟩
theorem ff38_2 : FF Try.prog 38 2 2 5 ∧ ∃ i, Try.prog.info? 5 = some i ∧ i.size ≠ 0 := ⟨⟨_, _, rfl, rfl, rfl, rfl⟩, _, rfl, by decide⟩
theorem tf5 : TF Try.prog 5 false 1 := ⟨⟨_, rfl, rfl⟩, ⟨_, rfl, rfl⟩⟩
theorem ff38_3 : FF Try.prog 38 3 3 36 ∧ ∃ i, Try.prog.info? 36 = some i ∧ i.size ≠ 0 := ⟨⟨_, _, rfl, rfl, rfl, rfl⟩, _, rfl, by decide⟩
theorem tf36 : TF Try.prog 36 false 1 := ⟨⟨_, rfl, rfl⟩, ⟨_, rfl, rfl⟩⟩
theorem sf36 : SF Try.prog 36 120 2 := ⟨rfl, ⟨_, rfl, rfl⟩⟩
theorem ff42_0 : FF Try.prog 42 0 0 3 ∧ ∃ i, Try.prog.info? 3 = some i ∧ i.size ≠ 0 := ⟨⟨_, _, rfl, rfl, rfl, rfl⟩, _, rfl, by decide⟩
theorem ff42_1 : FF Try.prog 42 1 1 31 ∧ ∃ i, Try.prog.info? 31 = some i ∧ i.size ≠ 0 := ⟨⟨_, _, rfl, rfl, rfl, rfl⟩, _, rfl, by decide⟩
theorem tf31 : TF Try.prog 31 false 1 := ⟨⟨_, rfl, rfl⟩, ⟨_, rfl, rfl⟩⟩
theorem ff42_2 : FF Try.prog 42 2 2 40 ∧ ∃ i, Try.prog.info? 40 = some i ∧ i.size ≠ 0 := ⟨⟨_, _, rfl, rfl, rfl, rfl⟩, _, rfl, by decide⟩
theorem tf40 : TF Try.prog 40 false 1 := ⟨⟨_, rfl, rfl⟩, ⟨_, rfl, rfl⟩⟩
theorem sf40 : SF Try.prog 40 31 1 := ⟨rfl, ⟨_, rfl, rfl⟩⟩
theorem tc68 : ∃ k, Try.prog.underlying 68 = some k ∧ ∀ ms, k ≠ .interface ms := ⟨_, rfl, fun _ h => by cases h⟩
theorem tz68 : ∃ i zv, Try.prog.info? 68 = some i ∧ i.zero = some zv ∧ ∀ w M, VR w M (.list 2 (List.map cells_Pair [])) zv := ⟨_, _, rfl, rfl, fun _ _ => (.emp _ _ _ (by decide))⟩
theorem sf35 : SF Try.prog 35 34 2 := ⟨rfl, ⟨_, rfl, rfl⟩⟩
theorem sf39 : SF Try.prog 39 101 2 := ⟨rfl, ⟨_, rfl, rfl⟩⟩
theorem cf32 : CF Try.prog 32 := fun _ _ => Try.call32 _ _
theorem cf33 : CF Try.prog 33 := fun _ _ => Try.call33 _ _
theorem tc72 : ∃ k, Try.prog.underlying 72 = some k ∧ ∀ ms, k ≠ .interface ms := ⟨_, rfl, fun _ h => by cases h⟩
theorem tz72 : ∃ i zv, Try.prog.info? 72 = some i ∧ i.zero = some zv ∧ ∀ w M, VR w M (enc_feed_arrivals (feed_arrivals.mk (Arrive.mk 0 0 0 []))) zv := ⟨_, _, rfl, rfl, fun _ _ => VL.agg (.c (.int _ _ (by decide) (by decide)) rfl <| .c (.int _ _ (by decide) (by decide)) rfl <| .c (.int _ _ (by decide) (by decide)) rfl <| .c (.emp _ _ _ (by decide)) rfl <| .n)⟩
theorem zf38 : ZF Try.prog 38 [.ro (.int .u16 0), .ro (.int .i64 0), .ro (.int .u8 0), .ro (.list 2 (List.map cells_Seen []))] := ⟨_, _, rfl, rfl, rfl⟩
theorem bf38 : BF Try.prog 38 [(0, 1), (1, 1), (2, 1), (3, 1)] := ⟨_, rfl, rfl⟩
theorem tc75 : ∃ k, Try.prog.underlying 75 = some k ∧ ∀ ms, k ≠ .interface ms := ⟨_, rfl, fun _ h => by cases h⟩
theorem tz75 : ∃ i zv, Try.prog.info? 75 = some i ∧ i.zero = some zv ∧ ∀ w M, VR w M (.list 2 (List.map cells_Entry [])) zv := ⟨_, _, rfl, rfl, fun _ _ => (.emp _ _ _ (by decide))⟩
theorem tc79 : ∃ k, Try.prog.underlying 79 = some k ∧ ∀ ms, k ≠ .interface ms := ⟨_, rfl, fun _ h => by cases h⟩
theorem tz79 : ∃ i zv, Try.prog.info? 79 = some i ∧ i.zero = some zv ∧ ∀ w M, VR w M (enc_feed_rate (feed_rate.mk (Rate.mk 0 0 []))) zv := ⟨_, _, rfl, rfl, fun _ _ => VL.agg (.c (.int _ _ (by decide) (by decide)) rfl <| .c (.int _ _ (by decide) (by decide)) rfl <| .c (.emp _ _ _ (by decide)) rfl <| .n)⟩
theorem zf42 : ZF Try.prog 42 [.ro (.int .i64 0), .ro (.int .u32 0), .ro (.list 1 (List.map (ei .u32) []))] := ⟨_, _, rfl, rfl, rfl⟩
theorem bf42 : BF Try.prog 42 [(0, 1), (1, 1), (2, 1)] := ⟨_, rfl, rfl⟩
theorem cf25 : CF Try.prog 25 := fun _ _ => Try.call25 _ _
theorem tf55 : TF Try.prog 55 false 1 := ⟨⟨_, rfl, rfl⟩, ⟨_, rfl, rfl⟩⟩
theorem sf28 : SF Try.prog 28 5 1 := ⟨rfl, ⟨_, rfl, rfl⟩⟩
theorem pf28 : PF Try.prog 28 5 1 := ⟨sf28, ⟨_, _, rfl, rfl, rfl, rfl, by decide, by decide⟩⟩
theorem zf5 : ZF Try.prog 5 [.ro (.int .u8 0)] := ⟨_, _, rfl, rfl, rfl⟩
theorem zf28_0 : ZF Try.prog 28 [.ro (.raw (.slice none 0 0))] := ⟨_, _, rfl, rfl, rfl⟩
theorem tf28 : TF Try.prog 28 false 1 := ⟨⟨_, rfl, rfl⟩, ⟨_, rfl, rfl⟩⟩
theorem cf34 : CF Try.prog 34 := fun _ _ => Try.call34 _ _
theorem cv55_5 : (Try.prog.underlying 55).isSome = true ∧ Try.prog.underlying 5 = some (.int .u8) := ⟨rfl, rfl⟩
theorem cf45 : CF Try.prog 45 := fun _ _ => Try.call45 _ _
theorem tf34 : TF Try.prog 34 true 2 := ⟨⟨_, rfl, rfl⟩, ⟨_, rfl, rfl⟩⟩
theorem zf34 : ZF Try.prog 34 [.ro (.int .u16 0), .ro (.int .u16 0)] := ⟨_, _, rfl, rfl, rfl⟩
theorem ff34_0 : FF Try.prog 34 0 0 32 ∧ ∃ i, Try.prog.info? 32 = some i ∧ i.size ≠ 0 := ⟨⟨_, _, rfl, rfl, rfl, rfl⟩, _, rfl, by decide⟩
theorem cv32_55 : (Try.prog.underlying 32).isSome = true ∧ Try.prog.underlying 55 = some (.int .u64) := ⟨rfl, rfl⟩
theorem ff34_1 : FF Try.prog 34 1 1 32 ∧ ∃ i, Try.prog.info? 32 = some i ∧ i.size ≠ 0 := ⟨⟨_, _, rfl, rfl, rfl, rfl⟩, _, rfl, by decide⟩
theorem cf19 : CF Try.prog 19 := fun _ _ => Try.call19 _ _
theorem cf87 : CF Try.prog 87 := fun _ _ => Try.call87 _ _
theorem ff120_0 : FF Try.prog 120 0 0 3 ∧ ∃ i, Try.prog.info? 3 = some i ∧ i.size ≠ 0 := ⟨⟨_, _, rfl, rfl, rfl, rfl⟩, _, rfl, by decide⟩
theorem ff120_1 : FF Try.prog 120 1 1 3 ∧ ∃ i, Try.prog.info? 3 = some i ∧ i.size ≠ 0 := ⟨⟨_, _, rfl, rfl, rfl, rfl⟩, _, rfl, by decide⟩
theorem tf120 : TF Try.prog 120 true 2 := ⟨⟨_, rfl, rfl⟩, ⟨_, rfl, rfl⟩⟩
theorem cf98 : CF Try.prog 98 := fun _ _ => Try.call98 _ _
theorem cf103 : CF Try.prog 103 := fun _ _ => Try.call103 _ _
theorem cf97 : CF Try.prog 97 := fun _ _ => Try.call97 _ _
theorem cf99 : CF Try.prog 99 := fun _ _ => Try.call99 _ _
theorem cv2_55 : (Try.prog.underlying 2).isSome = true ∧ Try.prog.underlying 55 = some (.int .u64) := ⟨rfl, rfl⟩
theorem sf99 : SF Try.prog 99 28 1 := ⟨rfl, ⟨_, rfl, rfl⟩⟩
theorem cf46 : CF Try.prog 46 := fun _ _ => Try.call46 _ _
theorem cf35 : CF Try.prog 35 := fun _ _ => Try.call35 _ _
theorem zf120 : ZF Try.prog 120 [.ro (.int .i64 0), .ro (.int .i64 0)] := ⟨_, _, rfl, rfl, rfl⟩
theorem sf106 : SF Try.prog 106 3 1 := ⟨rfl, ⟨_, rfl, rfl⟩⟩
theorem pf106 : PF Try.prog 106 3 1 := ⟨sf106, ⟨_, _, rfl, rfl, rfl, rfl, by decide, by decide⟩⟩
theorem cf58 : CF Try.prog 58 := fun _ _ => Try.call58 _ _
theorem tf106 : TF Try.prog 106 false 1 := ⟨⟨_, rfl, rfl⟩, ⟨_, rfl, rfl⟩⟩
theorem cf57 : CF Try.prog 57 := fun _ _ => Try.call57 _ _
theorem cf56 : CF Try.prog 56 := fun _ _ => Try.call56 _ _
theorem cv3_32 : (Try.prog.underlying 3).isSome = true ∧ Try.prog.underlying 32 = some (.int .u16) := ⟨rfl, rfl⟩
theorem cf50 : CF Try.prog 50 := fun _ _ => Try.call50 _ _
theorem cf49 : CF Try.prog 49 := fun _ _ => Try.call49 _ _
theorem cf51 : CF Try.prog 51 := fun _ _ => Try.call51 _ _
theorem cf101 : CF Try.prog 101 := fun _ _ => Try.call101 _ _
theorem cf100 : CF Try.prog 100 := fun _ _ => Try.call100 _ _
theorem cf42 : CF Try.prog 42 := fun _ _ => Try.call42 _ _
theorem sf85 : SF Try.prog 85 32 1 := ⟨rfl, ⟨_, rfl, rfl⟩⟩
theorem pf85 : PF Try.prog 85 32 1 := ⟨sf85, ⟨_, _, rfl, rfl, rfl, rfl, by decide, by decide⟩⟩
theorem mixed : Try.prog.follows .mixedOrders = true := rfl
theorem cf92 : CF Try.prog 92 := fun _ _ => Try.call92 _ _
theorem cv3_5 : (Try.prog.underlying 3).isSome = true ∧ Try.prog.underlying 5 = some (.int .u8) := ⟨rfl, rfl⟩
theorem cf102 : CF Try.prog 102 := fun _ _ => Try.call102 _ _
theorem pf99 : PF Try.prog 99 28 1 := ⟨sf99, ⟨_, _, rfl, rfl, rfl, rfl, by decide, by decide⟩⟩
theorem cf91 : CF Try.prog 91 := fun _ _ => Try.call91 _ _
theorem cv3_55 : (Try.prog.underlying 3).isSome = true ∧ Try.prog.underlying 55 = some (.int .u64) := ⟨rfl, rfl⟩
theorem cf20 : CF Try.prog 20 := fun _ _ => Try.call20 _ _
theorem cf94 : CF Try.prog 94 := fun _ _ => Try.call94 _ _
theorem cf93 : CF Try.prog 93 := fun _ _ => Try.call93 _ _
theorem cf95 : CF Try.prog 95 := fun _ _ => Try.call95 _ _
theorem cf96 : CF Try.prog 96 := fun _ _ => Try.call96 _ _
theorem ff72_0 : FF Try.prog 72 0 0 38 ∧ ∃ i, Try.prog.info? 38 = some i ∧ i.size ≠ 0 := ⟨⟨_, _, rfl, rfl, rfl, rfl⟩, _, rfl, by decide⟩
theorem cf90 : CF Try.prog 90 := fun _ _ => Try.call90 _ _
theorem tf101 : TF Try.prog 101 true 2 := ⟨⟨_, rfl, rfl⟩, ⟨_, rfl, rfl⟩⟩
theorem zf101 : ZF Try.prog 101 [.ro (.int .u32 0), .ro (.int .u8 0)] := ⟨_, _, rfl, rfl, rfl⟩
theorem ff101_0 : FF Try.prog 101 0 0 31 ∧ ∃ i, Try.prog.info? 31 = some i ∧ i.size ≠ 0 := ⟨⟨_, _, rfl, rfl, rfl, rfl⟩, _, rfl, by decide⟩
theorem cv31_55 : (Try.prog.underlying 31).isSome = true ∧ Try.prog.underlying 55 = some (.int .u64) := ⟨rfl, rfl⟩
theorem ff101_1 : FF Try.prog 101 1 1 5 ∧ ∃ i, Try.prog.info? 5 = some i ∧ i.size ≠ 0 := ⟨⟨_, _, rfl, rfl, rfl, rfl⟩, _, rfl, by decide⟩
theorem cf106 : CF Try.prog 106 := fun _ _ => Try.call106 _ _
theorem cf110 : CF Try.prog 110 := fun _ _ => Try.call110 _ _
theorem u85 : Try.prog.underlying 5 = some (.int .u8) := rfl
theorem ff79_0 : FF Try.prog 79 0 0 42 ∧ ∃ i, Try.prog.info? 42 = some i ∧ i.size ≠ 0 := ⟨⟨_, _, rfl, rfl, rfl, rfl⟩, _, rfl, by decide⟩
theorem cf109 : CF Try.prog 109 := fun _ _ => Try.call109 _ _
theorem tf44 : TF Try.prog 44 true 12 := ⟨⟨_, rfl, rfl⟩, ⟨_, rfl, rfl⟩⟩
theorem cf17 : CF Try.prog 17 := fun _ _ => Try.call17 _ _
theorem if52 : ∃ ms, Try.prog.underlying 52 = some (.interface ms) := ⟨_, rfl⟩
theorem cf18 : CF Try.prog 18 := fun _ _ => Try.call18 _ _
theorem cm68_85 : CM Try.prog 68 "crossbar/feed.bytes" 85 := fun _ _ _ => by kernel_rfl
theorem cm72_88 : CM Try.prog 72 "crossbar/feed.bytes" 88 := fun _ _ _ => by kernel_rfl
theorem cm75_104 : CM Try.prog 75 "crossbar/feed.bytes" 104 := fun _ _ _ => by kernel_rfl
theorem cm79_107 : CM Try.prog 79 "crossbar/feed.bytes" 107 := fun _ _ _ => by kernel_rfl
theorem cm81_111 : CM Try.prog 81 "crossbar/feed.bytes" 111 := fun _ _ _ => by kernel_rfl
theorem ff44_1 : FF Try.prog 44 1 1 31 ∧ ∃ i, Try.prog.info? 31 = some i ∧ i.size ≠ 0 := ⟨⟨_, _, rfl, rfl, rfl, rfl⟩, _, rfl, by decide⟩
theorem ff44_2 : FF Try.prog 44 2 2 31 ∧ ∃ i, Try.prog.info? 31 = some i ∧ i.size ≠ 0 := ⟨⟨_, _, rfl, rfl, rfl, rfl⟩, _, rfl, by decide⟩
theorem cf11 : CF Try.prog 11 := fun _ _ => Try.call11 _ _
theorem cf26 : CF Try.prog 26 := fun _ _ => Try.call26 _ _
theorem cv5_55 : (Try.prog.underlying 5).isSome = true ∧ Try.prog.underlying 55 = some (.int .u64) := ⟨rfl, rfl⟩
theorem zf35_0 : ZF Try.prog 35 [.ro (.raw (.slice none 0 0))] := ⟨_, _, rfl, rfl, rfl⟩
theorem cf30 : CF Try.prog 30 := fun _ _ => Try.call30 _ _
theorem cf13 : CF Try.prog 13 := fun _ _ => Try.call13 _ _
theorem cv55_32 : (Try.prog.underlying 55).isSome = true ∧ Try.prog.underlying 32 = some (.int .u16) := ⟨rfl, rfl⟩
theorem bf34 : BF Try.prog 34 [(0, 1), (1, 1)] := ⟨_, rfl, rfl⟩
theorem pf35 : PF Try.prog 35 34 2 := ⟨sf35, ⟨_, _, rfl, rfl, rfl, rfl, by decide, by decide⟩⟩
theorem cf44 : CF Try.prog 44 := fun _ _ => Try.call44 _ _
theorem cv55_2 : (Try.prog.underlying 55).isSome = true ∧ Try.prog.underlying 2 = some (.int .i64) := ⟨rfl, rfl⟩
theorem zf85_0 : ZF Try.prog 85 [.ro (.raw (.slice none 0 0))] := ⟨_, _, rfl, rfl, rfl⟩
theorem tf85 : TF Try.prog 85 false 1 := ⟨⟨_, rfl, rfl⟩, ⟨_, rfl, rfl⟩⟩
theorem cv55_31 : (Try.prog.underlying 55).isSome = true ∧ Try.prog.underlying 31 = some (.int .u32) := ⟨rfl, rfl⟩
theorem cf69 : CF Try.prog 69 := fun _ _ => Try.call69 _ _
theorem cv3_84 : (Try.prog.underlying 3).isSome = true ∧ Try.prog.underlying 84 = some (.int .u64) := ⟨rfl, rfl⟩
theorem cf65 : CF Try.prog 65 := fun _ _ => Try.call65 _ _
theorem cv84_3 : (Try.prog.underlying 84).isSome = true ∧ Try.prog.underlying 3 = some (.int .i64) := ⟨rfl, rfl⟩
theorem zf3 : ZF Try.prog 3 [.ro (.int .i64 0)] := ⟨_, _, rfl, rfl, rfl⟩
theorem cv32_3 : (Try.prog.underlying 32).isSome = true ∧ Try.prog.underlying 3 = some (.int .i64) := ⟨rfl, rfl⟩
theorem cf55 : CF Try.prog 55 := fun _ _ => Try.call55 _ _
theorem cf48 : CF Try.prog 48 := fun _ _ => Try.call48 _ _
theorem bf120 : BF Try.prog 120 [(0, 1), (1, 1)] := ⟨_, rfl, rfl⟩
theorem cf40 : CF Try.prog 40 := fun _ _ => Try.call40 _ _
theorem pf36 : PF Try.prog 36 120 2 := ⟨sf36, ⟨_, _, rfl, rfl, rfl, rfl, by decide, by decide⟩⟩
theorem cv5_3 : (Try.prog.underlying 5).isSome = true ∧ Try.prog.underlying 3 = some (.int .i64) := ⟨rfl, rfl⟩
theorem cf37 : CF Try.prog 37 := fun _ _ => Try.call37 _ _
theorem cf38 : CF Try.prog 38 := fun _ _ => Try.call38 _ _
theorem cv55_3 : (Try.prog.underlying 55).isSome = true ∧ Try.prog.underlying 3 = some (.int .i64) := ⟨rfl, rfl⟩
theorem cf39 : CF Try.prog 39 := fun _ _ => Try.call39 _ _
theorem cf41 : CF Try.prog 41 := fun _ _ => Try.call41 _ _
theorem cf27 : CF Try.prog 27 := fun _ _ => Try.call27 _ _
theorem zf39_0 : ZF Try.prog 39 [.ro (.raw (.slice none 0 0))] := ⟨_, _, rfl, rfl, rfl⟩
theorem bf101 : BF Try.prog 101 [(0, 1), (1, 1)] := ⟨_, rfl, rfl⟩
theorem pf39 : PF Try.prog 39 101 2 := ⟨sf39, ⟨_, _, rfl, rfl, rfl, rfl, by decide, by decide⟩⟩
theorem cv31_5 : (Try.prog.underlying 31).isSome = true ∧ Try.prog.underlying 5 = some (.int .u8) := ⟨rfl, rfl⟩
theorem us9 : Try.prog.underlying 9 = some .string := rfl
theorem cf47 : CF Try.prog 47 := fun _ _ => Try.call47 _ _
theorem bt28_9 : SF Try.prog 28 5 1 ∧ Try.prog.underlying 5 = some (.int .u8) ∧ Try.prog.underlying 9 = some .string := ⟨sf28, rfl, us9⟩
theorem zf42_2 : ZF Try.prog 42 [.ro (.int .i64 0), .ro (.int .u32 0), .ro (.raw (.slice none 0 0))] := ⟨_, _, rfl, rfl, rfl⟩
theorem cf31 : CF Try.prog 31 := fun _ _ => Try.call31 _ _
theorem cf36 : CF Try.prog 36 := fun _ _ => Try.call36 _ _
theorem pf40 : PF Try.prog 40 31 1 := ⟨sf40, ⟨_, _, rfl, rfl, rfl, rfl, by decide, by decide⟩⟩
theorem cf21 : CF Try.prog 21 := fun _ _ => Try.call21 _ _
theorem cf22 : CF Try.prog 22 := fun _ _ => Try.call22 _ _
theorem cf23 : CF Try.prog 23 := fun _ _ => Try.call23 _ _
theorem cf24 : CF Try.prog 24 := fun _ _ => Try.call24 _ _
theorem zf44 : ZF Try.prog 44 [.ro (.int .i64 0), .ro (.int .u32 0), .ro (.int .u32 0), .ro (.list 2 (List.map cells_Pair [])), .ro (.int .u16 0), .ro (.int .i64 0), .ro (.int .u8 0), .ro (.list 2 (List.map cells_Seen [])), .ro (.list 2 (List.map cells_Entry [])), .ro (.int .i64 0), .ro (.int .u32 0), .ro (.list 1 (List.map (ei .u32) []))] := ⟨_, _, rfl, rfl, rfl⟩
theorem cf6 : CF Try.prog 6 := fun _ _ => Try.call6 _ _
theorem bf44 : BF Try.prog 44 [(0, 1), (1, 1), (2, 1), (3, 1), (4, 4), (8, 1), (9, 3)] := ⟨_, rfl, rfl⟩
theorem cf12 : CF Try.prog 12 := fun _ _ => Try.call12 _ _
theorem cm68_86 : CM Try.prog 68 "crossbar/feed.put" 86 := fun _ _ _ => by kernel_rfl
theorem cm72_89 : CM Try.prog 72 "crossbar/feed.put" 89 := fun _ _ _ => by kernel_rfl
theorem cm75_105 : CM Try.prog 75 "crossbar/feed.put" 105 := fun _ _ _ => by kernel_rfl
theorem cm79_108 : CM Try.prog 79 "crossbar/feed.put" 108 := fun _ _ _ => by kernel_rfl
theorem cm81_112 : CM Try.prog 81 "crossbar/feed.put" 112 := fun _ _ _ => by kernel_rfl
theorem cv5_31 : (Try.prog.underlying 5).isSome = true ∧ Try.prog.underlying 31 = some (.int .u32) := ⟨rfl, rfl⟩
theorem cf67 : CF Try.prog 67 := fun _ _ => Try.call67 _ _
theorem xf53 : XF Try.prog 53 Extern.BytealgCount.count := fun args w => run_callFunc_extern Try.func53 (by kernel_rfl) (by kernel_rfl) (by kernel_rfl) (by kernel_rfl) args w
theorem cf43 : CF Try.prog 43 := fun _ _ => Try.call43 _ _
theorem cf28 : CF Try.prog 28 := fun _ _ => Try.call28 _ _
theorem cf29 : CF Try.prog 29 := fun _ _ => Try.call29 _ _
theorem zf4 : ZF Try.prog 4 [.ro (.bool false)] := ⟨_, _, rfl, rfl, rfl⟩
theorem zf24 : ZF Try.prog 24 [.ro (.int .i64 0)] := ⟨_, _, rfl, rfl, rfl⟩
theorem tf24 : TF Try.prog 24 false 1 := ⟨⟨_, rfl, rfl⟩, ⟨_, rfl, rfl⟩⟩
theorem tf4 : TF Try.prog 4 false 1 := ⟨⟨_, rfl, rfl⟩, ⟨_, rfl, rfl⟩⟩
theorem cf8 : CF Try.prog 8 := fun _ _ => Try.call8 _ _
theorem cf14 : CF Try.prog 14 := fun _ _ => Try.call14 _ _
theorem cf15 : CF Try.prog 15 := fun _ _ => Try.call15 _ _
theorem cf16 : CF Try.prog 16 := fun _ _ => Try.call16 _ _
theorem cf7 : CF Try.prog 7 := fun _ _ => Try.call7 _ _
theorem cf5 : CF Try.prog 5 := fun _ _ => Try.call5 _ _
theorem cf9 : CF Try.prog 9 := fun _ _ => Try.call9 _ _
theorem cf10 : CF Try.prog 10 := fun _ _ => Try.call10 _ _
theorem cf4 : CF Try.prog 4 := fun _ _ => Try.call4 _ _

end Xb
