/- Own text: BFacts. -/
import Derived.Test.YtffmagkhoepfnaaBModels
import Derived.Test.YtffmagkhoepfnaaProg
set_option linter.all false
set_option linter.unusedVariables false
set_option linter.unusedSimpArgs false
set_option linter.unnecessarySimpa false
set_option linter.deprecated false
namespace Xb
open Go Go.Proofs

theorem ff27_1 : FF Try.prog 27 1 1 3 ∧ ∃ i, Try.prog.info? 3 = some i ∧ i.size ≠ 0 := ⟨⟨_, _, rfl, rfl, rfl, rfl⟩, _, rfl, by decide⟩
theorem tf3 : TF Try.prog 3 false 1 := ⟨⟨_, rfl, rfl⟩, ⟨_, rfl, rfl⟩⟩
theorem ff27_0 : FF Try.prog 27 0 0 22 ∧ ∃ i, Try.prog.info? 22 = some i ∧ i.size ≠ 0 := ⟨⟨_, _, rfl, rfl, rfl, rfl⟩, _, rfl, by decide⟩
theorem tf22 : TF Try.prog 22 false 1 := ⟨⟨_, rfl, rfl⟩, ⟨_, rfl, rfl⟩⟩
theorem sf22 : SF Try.prog 22 5 1 := ⟨rfl, ⟨_, rfl, rfl⟩⟩
theorem tf5 : TF Try.prog 5 false 1 := ⟨⟨_, rfl, rfl⟩, ⟨_, rfl, rfl⟩⟩
theorem mixed : Try.prog.follows .mixedOrders = true := rfl
theorem cv28_5 : (Try.prog.underlying 28).isSome = true ∧ Try.prog.underlying 5 = some (.int .u8) := ⟨rfl, rfl⟩
theorem us9 : Try.prog.underlying 9 = some .string := rfl
theorem cv5_3 : (Try.prog.underlying 5).isSome = true ∧ Try.prog.underlying 3 = some (.int .i64) := ⟨rfl, rfl⟩
theorem pf22 : PF Try.prog 22 5 1 := ⟨sf22, ⟨_, _, rfl, rfl, rfl, rfl, by decide, by decide⟩⟩
theorem zf27 : ZF Try.prog 27 [.ro (.list 1 (List.map e8 [])), .ro (.int .i64 0)] := ⟨_, _, rfl, rfl, rfl⟩
theorem tf27 : TF Try.prog 27 true 2 := ⟨⟨_, rfl, rfl⟩, ⟨_, rfl, rfl⟩⟩
theorem cf17 : CF Try.prog 17 := fun _ _ => Try.call17 _ _
theorem cf30 : CF Try.prog 30 := fun _ _ => Try.call30 _ _
theorem cf31 : CF Try.prog 31 := fun _ _ => Try.call31 _ _
theorem cf28 : CF Try.prog 28 := fun _ _ => Try.call28 _ _
theorem cf15 : CF Try.prog 15 := fun _ _ => Try.call15 _ _
theorem zf25 : ZF Try.prog 25 [.ro (.list 1 (List.map e8 [])), .ro (.int .i64 0), .ro (.int .i64 0)] := ⟨_, _, rfl, rfl, rfl⟩
theorem bf25 : BF Try.prog 25 [(0, 1), (1, 1), (2, 1)] := ⟨_, rfl, rfl⟩
theorem tf25 : TF Try.prog 25 true 3 := ⟨⟨_, rfl, rfl⟩, ⟨_, rfl, rfl⟩⟩
theorem ff25_2 : FF Try.prog 25 2 2 23 ∧ ∃ i, Try.prog.info? 23 = some i ∧ i.size ≠ 0 := ⟨⟨_, _, rfl, rfl, rfl, rfl⟩, _, rfl, by decide⟩
theorem tf23 : TF Try.prog 23 false 1 := ⟨⟨_, rfl, rfl⟩, ⟨_, rfl, rfl⟩⟩
theorem ff25_1 : FF Try.prog 25 1 1 3 ∧ ∃ i, Try.prog.info? 3 = some i ∧ i.size ≠ 0 := ⟨⟨_, _, rfl, rfl, rfl, rfl⟩, _, rfl, by decide⟩
theorem ff25_0 : FF Try.prog 25 0 0 22 ∧ ∃ i, Try.prog.info? 22 = some i ∧ i.size ≠ 0 := ⟨⟨_, _, rfl, rfl, rfl, rfl⟩, _, rfl, by decide⟩
theorem cf24 : CF Try.prog 24 := fun _ _ => Try.call24 _ _
theorem cf25 : CF Try.prog 25 := fun _ _ => Try.call25 _ _
theorem cf11 : CF Try.prog 11 := fun _ _ => Try.call11 _ _
theorem cv5_28 : (Try.prog.underlying 5).isSome = true ∧ Try.prog.underlying 28 = some (.int .u64) := ⟨rfl, rfl⟩
theorem cf9 : CF Try.prog 9 := fun _ _ => Try.call9 _ _
theorem bf27 : BF Try.prog 27 [(0, 1), (1, 1)] := ⟨_, rfl, rfl⟩
theorem cf20 : CF Try.prog 20 := fun _ _ => Try.call20 _ _
theorem cf23 : CF Try.prog 23 := fun _ _ => Try.call23 _ _
theorem cf13 : CF Try.prog 13 := fun _ _ => Try.call13 _ _
theorem bt22_9 : SF Try.prog 22 5 1 ∧ Try.prog.underlying 5 = some (.int .u8) ∧ Try.prog.underlying 9 = some .string := ⟨sf22, rfl, us9⟩
theorem cf8 : CF Try.prog 8 := fun _ _ => Try.call8 _ _
theorem cf26 : CF Try.prog 26 := fun _ _ => Try.call26 _ _
theorem cf27 : CF Try.prog 27 := fun _ _ => Try.call27 _ _
theorem cf29 : CF Try.prog 29 := fun _ _ => Try.call29 _ _
theorem cf10 : CF Try.prog 10 := fun _ _ => Try.call10 _ _
theorem cf18 : CF Try.prog 18 := fun _ _ => Try.call18 _ _
theorem cf16 : CF Try.prog 16 := fun _ _ => Try.call16 _ _
theorem cf7 : CF Try.prog 7 := fun _ _ => Try.call7 _ _
theorem cf12 : CF Try.prog 12 := fun _ _ => Try.call12 _ _
theorem cf14 : CF Try.prog 14 := fun _ _ => Try.call14 _ _
theorem ub4 : Try.prog.underlying 4 = some .bool := rfl
theorem cf19 : CF Try.prog 19 := fun _ _ => Try.call19 _ _
theorem cf21 : CF Try.prog 21 := fun _ _ => Try.call21 _ _
theorem sf45 : SF Try.prog 45 28 1 := ⟨rfl, ⟨_, rfl, rfl⟩⟩
theorem sf46 : SF Try.prog 46 4 1 := ⟨rfl, ⟨_, rfl, rfl⟩⟩
theorem tf4 : TF Try.prog 4 false 1 := ⟨⟨_, rfl, rfl⟩, ⟨_, rfl, rfl⟩⟩
theorem tf28 : TF Try.prog 28 false 1 := ⟨⟨_, rfl, rfl⟩, ⟨_, rfl, rfl⟩⟩
theorem pf45 : PF Try.prog 45 28 1 := ⟨sf45, ⟨_, _, rfl, rfl, rfl, rfl, by decide, by decide⟩⟩
theorem cf22 : CF Try.prog 22 := fun _ _ => Try.call22 _ _
theorem sf51 : SF Try.prog 51 9 1 := ⟨rfl, ⟨_, rfl, rfl⟩⟩
theorem tf9 : TF Try.prog 9 false 1 := ⟨⟨_, rfl, rfl⟩, ⟨_, rfl, rfl⟩⟩
theorem pf51 : PF Try.prog 51 9 1 := ⟨sf51, ⟨_, _, rfl, rfl, rfl, rfl, by decide, by decide⟩⟩

end Xb
