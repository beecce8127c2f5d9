/- Own text: SIter. -/
import Derived.RangeFuncNested
import Derived.RangeFuncBound
import Derived.RangeFuncCalls
import Derived.RangeFuncLeaves
import Derived.Shelf.Abstract
import Derived.Shelf.RegionOpen
import Derived.WalkKit
import Derived.OwnWalkIn
import Derived.TacticsInMore
import Derived.LoopNIn
import Derived.LoopIn
import Derived.Test.YtemfkddlidfbfaaGreatProg
set_option linter.all false
set_option linter.unusedVariables false
set_option linter.unusedSimpArgs false
set_option linter.unnecessarySimpa false
set_option linter.deprecated false
namespace Go.Proofs
open Go.RowKit Go.Shelf

attribute [local go_sem] Oper.semAt_some

set_option maxRecDepth 100000 in
set_option maxHeartbeats 4000000 in
theorem chunk133_in (l Bs os Bn on n N : Nat) (hn : 1 ≤ n) (hnn : n ≤ 1000000) (hN : N ≤ 281474976710656) (J : Nat → World → Prop) (Jx : World → Prop)
    (hd : ∀ i W, J i W → J i W.drew)
    (hgood : ∀ i W, J i W → W.cell? ⟨Bn, on, none⟩ = some (.int .i64 n) ∧ ∃ o cap, W.cell? ⟨Bs, os, none⟩ = some (.slice o N cap) ∧ ((∃ b off, o = some ⟨b, off, none⟩) ∨ N = 0) ∧ N ≤ cap ∧ cap ≤ maxLen)
    (hY : ∀ i W b off cap, J i W → i < N → i < N + n → W.cell? ⟨Bs, os, none⟩ = some (.slice (some ⟨b, off, none⟩) N cap) → YieldAt Fence.wide 2 Tryz.prog l #[.slice (some ⟨b, off + i, none⟩) (min n (N - i)) (min n (N - i))] W fun e W' =>
      (e = .returned (.bool true) ∧ J (i + n) W') ∨ (e = .returned (.bool false) ∧ Jx W'))
    (W : World) (h0 : J 0 W) :
    CallsIn Fence.wide 3 Tryz.prog 133 #[.func (.yield l) #[] #[], .pointer (some ⟨Bs, os, none⟩), .pointer (some ⟨Bn, on, none⟩)] W fun e W' => (∃ v, e = .returned v) ∧ ((∃ i, N ≤ i ∧ J i W') ∨ Jx W') := by
  have hro : Fence.wide.round = none := rfl
  have hmix : Tryz.prog.follows .mixedOrders = true := by kernel_rfl
  refine callsIn_of_wp Tryz.func133 rfl trivial ?_ hro
  simp only [Tryz.ntmps133, List.size_toArray, List.length_cons, List.length_nil, Nat.reduceAdd, Nat.reduceSub, Array.replicate_succ, Array.replicate_zero, List.push_toArray, List.append_toArray, List.nil_append, List.cons_append]
  gi_wp2
  gi_loopw [4] (fun i wr => ∃ k : Nat, i = .int .i64 k ∧ k ≤ N + n ∧ J k wr) (fun i _ => N + n + 1 - (intOf i).toNat)
  case atStart => exact ⟨0, by simp, by omega, h0⟩
  case round =>
    obtain ⟨k, rfl, hk, hJ⟩ := hrel
    obtain ⟨g1, o, cap, g2, g3, g4, g5⟩ := hgood k wr hJ
    by_cases hlt : k < N
    · obtain ⟨b, off, rfl⟩ := g3.resolve_right (by omega)
      obtain ⟨fn, tmps, assign, body, hy, hR⟩ := hY k wr.drew b off cap (hd _ _ hJ) hlt (by omega) g2
      have hltN : (k : Int) < (N : Int) := by omega
      obtain ⟨e, he⟩ : ∃ e, e = min n (N - k) := ⟨_, rfl⟩
      have hif : (if N - k < n then ((N - k : Nat) : Int) else (n : Int)) = ((e : Nat) : Int) := by rw [he]; split <;> omega
      have he1 : 1 ≤ e := by omega
      have he2 : k + e ≤ N := by omega
      rw [← he] at hy
      clear he
      have hw1 : wrap64 ((k : Int) + (e : Int)) = ((k + e : Nat) : Int) := by unfold wrap64; omega
      have hw2 : wrap64 ((k : Int) + (n : Int)) = ((k + n : Nat) : Int) := by unfold wrap64; omega
      have hne : ¬ (k + e = k) := by omega
      have hi1 : (0 : Int) ≤ (k : Int) ∧ (k : Int) ≤ ((k + e : Nat) : Int) := by omega
      have hi2 : ((k + e : Nat) : Int) ≤ (cap : Int) := by omega
      have hi3 : k + e - k = e := by omega
      gi_wp2
      gi_region
      gi_wp2
      refine hR.mono ?_
      rintro e3 W3 (⟨rfl, hJ3⟩ | ⟨rfl, hJx3⟩)
      · obtain ⟨g6, o3, cap3, g7, _⟩ := hgood _ W3 hJ3
        gi_wp2
        go_roundw
        case rel => exact ⟨k + n, by simp, by omega, hJ3⟩
        case measure => simp [intOf]; omega
      · gi_wp2
        refine bodyPost_ret (results_none rfl _ _ _) rfl ?_
        exact ⟨⟨_, rfl⟩, .inr hJx3⟩
    · have hltN : ¬ (k : Int) < (N : Int) := by omega
      gi_wp2
      go_end0
      exact ⟨⟨_, rfl⟩, .inl ⟨k, by omega, hJ⟩⟩


set_option maxRecDepth 100000 in
set_option maxHeartbeats 4000000 in
theorem back128_in (l Bs os N : Nat) (hN : N ≤ 281474976710656) (J : Nat → World → Prop) (Jx : World → Prop)
    (hgood : ∀ i W, J i W → ∃ o cap, W.cell? ⟨Bs, os, none⟩ = some (.slice o N cap) ∧ ((∃ b off, o = some ⟨b, off, none⟩ ∧ ∀ j, j < N → ∃ v, W.cell? ⟨b, off + j, none⟩ = some (.int .u8 v)) ∨ N = 0) ∧ N ≤ cap ∧ cap ≤ maxLen)
    (hY : ∀ i W v, J (i + 1) W → i < N → YieldAt Fence.wide 2 Tryz.prog l #[.int .i64 i, .int .u8 v] W fun e W' =>
      (e = .returned (.bool true) ∧ J i W') ∨ (e = .returned (.bool false) ∧ Jx W'))
    (W : World) (h0 : J N W) :
    CallsIn Fence.wide 3 Tryz.prog 128 #[.func (.yield l) #[] #[], .pointer (some ⟨Bs, os, none⟩)] W fun e W' => (∃ v, e = .returned v) ∧ (J 0 W' ∨ Jx W') := by
  have hro : Fence.wide.round = none := rfl
  have hmix : Tryz.prog.follows .mixedOrders = true := by kernel_rfl
  refine callsIn_of_wp Tryz.func128 rfl trivial ?_ hro
  simp only [Tryz.ntmps128, List.size_toArray, List.length_cons, List.length_nil, Nat.reduceAdd, Nat.reduceSub, Array.replicate_succ, Array.replicate_zero, List.push_toArray, List.append_toArray, List.nil_append, List.cons_append]
  obtain ⟨o0, cap0, q1, _⟩ := hgood _ W h0
  have hw0 : wrap64 ((N : Int) - 1) = (N : Int) - 1 := by unfold wrap64; omega
  gi_wp2
  gi_loopw [3] (fun i wr => ∃ k : Nat, i = .int .i64 ((k : Int) - 1) ∧ k ≤ N ∧ J k wr) (fun i _ => (intOf i + 1).toNat)
  case atStart => exact ⟨N, rfl, Nat.le_refl _, h0⟩
  case round =>
    obtain ⟨k, rfl, hk, hJ⟩ := hrel
    cases k with
    | zero =>
      have hneg : ¬ (0 : Int) ≤ (((0 : Nat) : Int) - 1) := by omega
      gi_wp2
      go_end0
      exact ⟨⟨_, rfl⟩, .inl hJ⟩
    | succ k =>
      have e0 : (((k + 1 : Nat) : Int) - 1) = (k : Int) := by omega
      simp only [e0]
      obtain ⟨o, cap, g2, g3, g4, g5⟩ := hgood _ wr hJ
      obtain ⟨b, off, rfl, g6⟩ := g3.resolve_right (by omega)
      obtain ⟨v, g7⟩ := g6 k (by omega)
      obtain ⟨fn, tmps, assign, body, hy, hR⟩ := hY k wr v hJ (by omega)
      have hpos : (0 : Int) ≤ (k : Int) := by omega
      have hltN : (k : Int) < (N : Int) := by omega
      have hw1 : wrap64 ((k : Int) - 1) = (k : Int) - 1 := by unfold wrap64; omega
      gi_wp2
      refine hR.mono ?_
      rintro e3 W3 (⟨rfl, hJ3⟩ | ⟨rfl, hJx3⟩)
      · gi_wp2
        go_roundw
        case rel => exact ⟨k, rfl, by omega, hJ3⟩
        case measure => simp [intOf]
      · gi_wp2
        refine bodyPost_ret (results_none rfl _ _ _) rfl ?_
        exact ⟨⟨_, rfl⟩, .inr hJx3⟩

set_option maxHeartbeats 1000000 in
theorem back84_in (o : Option Addr) (n c : Nat) (w : World) :
    Calls Tryz.prog 84 #[.slice o n c] w fun e w' => e = .returned (.func (.func 128) #[] #[.pointer (some ⟨w.heap.size, 0, none⟩)]) ∧ w' = w.alloc (.cells #[.slice o n c] 29) := by
  go_enter Tryz.func84, Tryz.ntmps84
  go_wp2
  all_goals (go_ret; exact ⟨rfl, rfl⟩)


end Go.Proofs
