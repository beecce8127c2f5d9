/- Own text: KFacts. -/
import Derived.Test.YtcdhafhamjinlaaKModels
import Derived.Test.YtcdhafhamjinlaaProg
set_option linter.all false
set_option linter.unusedVariables false
set_option linter.unusedSimpArgs false
set_option linter.unnecessarySimpa false
set_option linter.deprecated false
namespace Xb
open Go Go.Proofs
set_option maxRecDepth 100000

theorem eo59 : ∀ x, ElemOK Try.prog 4 (A.bool x) := fun _ => rfl
theorem mz59 : ∃ i zv, Try.prog.info? 4 = some i ∧ i.zero = some zv ∧ ∀ w M, VR w M (A.bool false) zv := ⟨_, _, rfl, rfl, fun _ _ => .bool _⟩
theorem mf59 : MF Try.prog 59 3 4 .i64 := ⟨rfl, rfl⟩
theorem sf22 : SF Try.prog 22 49 2 := ⟨rfl, ⟨_, rfl, rfl⟩⟩
theorem tf49 : TF Try.prog 49 true 2 := ⟨⟨_, rfl, rfl⟩, ⟨_, rfl, rfl⟩⟩
theorem zf49 : ZF Try.prog 49 [.ro (.int .i64 0), .ro (.list 1 (List.map e8 []))] := ⟨_, _, rfl, rfl, rfl⟩
theorem ff49_0 : FF Try.prog 49 0 0 3 ∧ ∃ i, Try.prog.info? 3 = some i ∧ i.size ≠ 0 := ⟨⟨_, _, rfl, rfl, rfl, rfl⟩, _, rfl, by decide⟩
theorem tf3 : TF Try.prog 3 false 1 := ⟨⟨_, rfl, rfl⟩, ⟨_, rfl, rfl⟩⟩
theorem ff49_1 : FF Try.prog 49 1 1 24 ∧ ∃ i, Try.prog.info? 24 = some i ∧ i.size ≠ 0 := ⟨⟨_, _, rfl, rfl, rfl, rfl⟩, _, rfl, by decide⟩
theorem tf24 : TF Try.prog 24 false 1 := ⟨⟨_, rfl, rfl⟩, ⟨_, rfl, rfl⟩⟩
theorem sf24 : SF Try.prog 24 5 1 := ⟨rfl, ⟨_, rfl, rfl⟩⟩
theorem cf36 : CF Try.prog 36 := fun _ _ => Try.call36 _ _
theorem cf32 : CF Try.prog 32 := fun _ _ => Try.call32 _ _
theorem cf33 : CF Try.prog 33 := fun _ _ => Try.call33 _ _
theorem cf17 : CF Try.prog 17 := fun _ _ => Try.call17 _ _
theorem cf27 : CF Try.prog 27 := fun _ _ => Try.call27 _ _
theorem pf24 : PF Try.prog 24 5 1 := ⟨sf24, ⟨_, _, rfl, rfl, rfl, rfl, by decide, by decide⟩⟩
theorem zf5 : ZF Try.prog 5 [.ro (.int .u8 0)] := ⟨_, _, rfl, rfl, rfl⟩
theorem sf71 : SF Try.prog 71 24 1 := ⟨rfl, ⟨_, rfl, rfl⟩⟩
theorem cf35 : CF Try.prog 35 := fun _ _ => Try.call35 _ _
theorem cf30 : CF Try.prog 30 := fun _ _ => Try.call30 _ _
theorem pf71 : PF Try.prog 71 24 1 := ⟨sf71, ⟨_, _, rfl, rfl, rfl, rfl, by decide, by decide⟩⟩
theorem cf29 : CF Try.prog 29 := fun _ _ => Try.call29 _ _
theorem cf18 : CF Try.prog 18 := fun _ _ => Try.call18 _ _
theorem cv3_5 : (Try.prog.underlying 3).isSome = true ∧ Try.prog.underlying 5 = some (.int .u8) := ⟨rfl, rfl⟩
theorem cf21 : CF Try.prog 21 := fun _ _ => Try.call21 _ _
theorem zf61 : ZF Try.prog 61 [] := ⟨_, _, rfl, rfl, rfl⟩
theorem bf61 : BF Try.prog 61 [] := ⟨_, rfl, rfl⟩
theorem pc61 : Try.prog.concrete 61 = true := by kernel_rfl
theorem zf66 : ZF Try.prog 66 [] := ⟨_, _, rfl, rfl, rfl⟩
theorem bf66 : BF Try.prog 66 [] := ⟨_, rfl, rfl⟩
theorem pc66 : Try.prog.concrete 66 = true := by kernel_rfl
theorem zf43 : ZF Try.prog 43 [.ro (.int .i64 0), .ro (.int .i64 0), .ro (.int .i64 0)] := ⟨_, _, rfl, rfl, rfl⟩
theorem tf5 : TF Try.prog 5 false 1 := ⟨⟨_, rfl, rfl⟩, ⟨_, rfl, rfl⟩⟩
theorem cv5_3 : (Try.prog.underlying 5).isSome = true ∧ Try.prog.underlying 3 = some (.int .i64) := ⟨rfl, rfl⟩
theorem bf43 : BF Try.prog 43 [(0, 1), (1, 1), (2, 1)] := ⟨_, rfl, rfl⟩
theorem tf43 : TF Try.prog 43 true 3 := ⟨⟨_, rfl, rfl⟩, ⟨_, rfl, rfl⟩⟩
theorem mixed : Try.prog.follows .mixedOrders = true := rfl
theorem ff43_0 : FF Try.prog 43 0 0 3 ∧ ∃ i, Try.prog.info? 3 = some i ∧ i.size ≠ 0 := ⟨⟨_, _, rfl, rfl, rfl, rfl⟩, _, rfl, by decide⟩
theorem ff43_2 : FF Try.prog 43 2 2 3 ∧ ∃ i, Try.prog.info? 3 = some i ∧ i.size ≠ 0 := ⟨⟨_, _, rfl, rfl, rfl, rfl⟩, _, rfl, by decide⟩
theorem sf36 : SF Try.prog 36 43 3 := ⟨rfl, ⟨_, rfl, rfl⟩⟩
theorem cf31 : CF Try.prog 31 := fun _ _ => Try.call31 _ _
theorem cf24 : CF Try.prog 24 := fun _ _ => Try.call24 _ _
theorem if53 : ∃ ms, Try.prog.underlying 53 = some (.interface ms) := ⟨_, rfl⟩
theorem cm61_63 : CM Try.prog 61 "crossbar/elem.next" 63 := fun _ _ _ => by kernel_rfl
theorem cm66_64 : CM Try.prog 66 "crossbar/elem.next" 64 := fun _ _ _ => by kernel_rfl
theorem ff43_1 : FF Try.prog 43 1 1 3 ∧ ∃ i, Try.prog.info? 3 = some i ∧ i.size ≠ 0 := ⟨⟨_, _, rfl, rfl, rfl, rfl⟩, _, rfl, by decide⟩
theorem cf26 : CF Try.prog 26 := fun _ _ => Try.call26 _ _
theorem cf25 : CF Try.prog 25 := fun _ _ => Try.call25 _ _
theorem pf36 : PF Try.prog 36 43 3 := ⟨sf36, ⟨_, _, rfl, rfl, rfl, rfl, by decide, by decide⟩⟩
theorem cf14 : CF Try.prog 14 := fun _ _ => Try.call14 _ _
theorem cf23 : CF Try.prog 23 := fun _ _ => Try.call23 _ _
theorem bf49 : BF Try.prog 49 [(0, 1), (1, 1)] := ⟨_, rfl, rfl⟩
theorem pf22 : PF Try.prog 22 49 2 := ⟨sf22, ⟨_, _, rfl, rfl, rfl, rfl, by decide, by decide⟩⟩
theorem us9 : Try.prog.underlying 9 = some .string := rfl
theorem bt24_9 : SF Try.prog 24 5 1 ∧ Try.prog.underlying 5 = some (.int .u8) ∧ Try.prog.underlying 9 = some .string := ⟨sf24, rfl, us9⟩
theorem cv5_79 : (Try.prog.underlying 5).isSome = true ∧ Try.prog.underlying 79 = some (.int .u32) := ⟨rfl, rfl⟩
theorem cf47 : CF Try.prog 47 := fun _ _ => Try.call47 _ _
theorem xf38 : XF Try.prog 38 Extern.BytealgCount.count := fun args w => run_callFunc_extern Try.func38 (by kernel_rfl) (by kernel_rfl) (by kernel_rfl) (by kernel_rfl) args w
theorem cf34 : CF Try.prog 34 := fun _ _ => Try.call34 _ _
theorem tc61 : ∃ k, Try.prog.underlying 61 = some k ∧ ∀ ms, k ≠ .interface ms := ⟨_, rfl, fun _ h => by cases h⟩
theorem tz61 : ∃ i zv, Try.prog.info? 61 = some i ∧ i.zero = some zv ∧ ∀ w M, VR w M (enc_elem_low (elem_low.mk )) zv := ⟨_, _, rfl, rfl, fun _ _ => .agg [] [] rfl (by simp) (by simp)⟩
theorem tf61 : TF Try.prog 61 true 0 := ⟨⟨_, rfl, rfl⟩, ⟨_, rfl, rfl⟩⟩
theorem ub4 : Try.prog.underlying 4 = some .bool := rfl
theorem cf28 : CF Try.prog 28 := fun _ _ => Try.call28 _ _
theorem cf8 : CF Try.prog 8 := fun _ _ => Try.call8 _ _
theorem cf12 : CF Try.prog 12 := fun _ _ => Try.call12 _ _
theorem qf43 : QF Try.prog 43 [.int .i64, .int .i64, .int .i64] := ⟨⟨_, rfl, rfl⟩, by kernel_rfl, by kernel_rfl⟩
theorem cf19 : CF Try.prog 19 := fun _ _ => Try.call19 _ _
theorem cf9 : CF Try.prog 9 := fun _ _ => Try.call9 _ _
theorem cf10 : CF Try.prog 10 := fun _ _ => Try.call10 _ _
theorem cf22 : CF Try.prog 22 := fun _ _ => Try.call22 _ _
theorem cf15 : CF Try.prog 15 := fun _ _ => Try.call15 _ _
theorem cf13 : CF Try.prog 13 := fun _ _ => Try.call13 _ _
theorem cf11 : CF Try.prog 11 := fun _ _ => Try.call11 _ _
theorem cf6 : CF Try.prog 6 := fun _ _ => Try.call6 _ _
theorem cf7 : CF Try.prog 7 := fun _ _ => Try.call7 _ _
theorem cf16 : CF Try.prog 16 := fun _ _ => Try.call16 _ _
theorem cf20 : CF Try.prog 20 := fun _ _ => Try.call20 _ _
theorem ui3 : Try.prog.underlying 3 = some (.int .i64) := rfl
theorem cv5_23 : (Try.prog.underlying 5).isSome = true ∧ Try.prog.underlying 23 = some (.int .u16) := ⟨rfl, rfl⟩

end Xb
