/- Own text: DTruePadTrail. -/
import Derived.Test.YthdbckjpoffnpaaDTruePadRight
set_option linter.all false
set_option linter.unusedVariables false
set_option linter.unusedSimpArgs false
set_option linter.unnecessarySimpa false
set_option linter.deprecated false
namespace Xb
open Go

theorem trN_snoc {l : List Int} {n : Int} (_h1 : 1 ≤ n) (h2 : n ≤ l.length + 1) : trN (l ++ [n]) = n := by
  have e : (l ++ [n]).getD ((l ++ [n]).length - 1) 0 = n := by simp [List.getD]
  unfold trN
  rw [e, if_neg (by simp), if_neg (by simp; omega)]

theorem cleanS_snoc {b m : List Int} {n : Int} (h1 : 1 ≤ n) (h2 : m.length = n.toNat - 1) : cleanS (b ++ m ++ [n]) = allZ m := by
  have ht : trN (b ++ m ++ [n]) = n := trN_snoc h1 (by simp; omega)
  unfold cleanS
  rw [ht]
  have e : ((b ++ m ++ [n]).drop ((b ++ m ++ [n]).length - n.toNat)).take (n.toNat - 1) = m := by
    have : (b ++ m ++ [n]).length - n.toNat = b.length := by simp; omega
    rw [this, List.append_assoc, List.drop_left, ← h2, List.take_left]
  rw [e]
  have : decide (0 < n) = true := decide_eq_true (by omega)
  rw [this, Bool.true_and]

theorem padTrail_true {b : List Int} {n at_ by_ : Int} (hb : b.length ≤ maxLen ∧ ∀ x, x ∈ b → inK .u8 x) (hn : inK .u8 n) (hat : inK .u16 at_) (hby : inK .u8 by_) : law03_PadTrail none b n at_ by_ = some true := by
  have hu : ∀ y, y ∈ b → 0 ≤ y ∧ y ≤ 255 := hb.2
  obtain ⟨hn0, hn1⟩ := in_u8.1 hn
  obtain ⟨ha0, ha1⟩ := in_u16.1 hat
  obtain ⟨hy0, hy1⟩ := in_u8.1 hby
  unfold law03_PadTrail
  rw [w_i64 (n := n) (by omega) (by omega), w_i64 (n := at_) (by omega) (by omega)]
  by_cases h : (b.length : Int) > 3000
  · rw [if_pos (by rw [cm_gtr]; simpa using h)]
  · rw [if_neg (by rw [cm_gtr]; simpa using h)]
    have hl : b.length ≤ 1000000 := by omega
    by_cases hz : n = 0
    · have ha : pad_Add none b n = some ([], 1) := by
        unfold pad_Add
        rw [if_pos (by rw [cm_lss, cm_gtr]; simp; omega)]
      rw [bnd ha, if_pos (by rw [cm_eql]; simpa using hz)]
      simp [cm_eql]
    · have h1 : 1 ≤ n := by omega
      rw [bnd (padAdd_eq hl h1 hn1), if_neg (by rw [cm_eql]; simpa using hz)]
      have hrl : (List.replicate (n.toNat - 1) (0 : Int)).length = n.toNat - 1 := by simp
      have hlen : (b ++ List.replicate (n.toNat - 1) (0 : Int) ++ [n]).length = b.length + n.toNat := by simp; omega
      have hxu : ∀ y, y ∈ b ++ List.replicate (n.toNat - 1) (0 : Int) ++ [n] → 0 ≤ y ∧ y ≤ 255 := fun y hy => by
        simp only [List.mem_append, List.mem_replicate, List.mem_singleton] at hy
        rcases hy with (hy | hy) | hy
        · exact hu y hy
        · omega
        · omega
      have ht : trN (b ++ List.replicate (n.toNat - 1) (0 : Int) ++ [n]) = n := trN_snoc h1 (by simp; omega)
      have hp := padTrail_eq hxu (by rw [hlen]; omega)
      rw [ht, if_neg hz] at hp
      have hc : cleanS (b ++ List.replicate (n.toNat - 1) (0 : Int) ++ [n]) = true := by
        rw [cleanS_snoc h1 hrl]; exact decide_eq_true fun y hy => (List.mem_replicate.1 hy).2
      have hpc := padClean_eq hxu (by rw [hlen]; omega)
      rw [hc] at hpc
      rw [bnd hp]
      have hs : sub (b ++ List.replicate (n.toNat - 1) (0 : Int) ++ [n]) 0 (b.length : Int) = some b := by
        rw [sub_some (by omega) (by omega) (by rw [hlen]; omega)]
        simp [List.append_assoc]
      have hlen' : ((b ++ List.replicate (n.toNat - 1) (0 : Int) ++ [n]).length : Int) = ar .add .i64 (b.length : Int) n := by
        rw [hlen, ar_add, w_i64 (by omega) (by omega)]; omega
      have c1 : cm .neq (0 : Int) 0 = false := by decide
      have c2 : cm .neq n n = false := by rw [cm_neq]; simp
      have c3 : ∀ m : Int, cm .neq m m = false := fun m => by rw [cm_neq]; simp
      have s1 : sc .neq (b2s b) (b2s b) = false := by simp [sc]
      have c4 : ∀ m : Int, cm .eql m m = true := fun m => by rw [cm_eql]; simp
      simp only [hlen', c3, Bool.or_false, Bool.not_false, gTT]
      rw [bnd hs]
      simp only [s1, Bool.or_false, Bool.not_false, gTT]
      rw [bnd hpc]
      simp only [Bool.not_true, Bool.or_false, Bool.false_eq_true, if_false]
      by_cases hd : n = 1 ∨ by_ = 0
      · rw [if_pos (by rw [cm_eql, cm_eql]; simpa using hd)]
      · rw [if_neg (by rw [cm_eql, cm_eql]; simpa using hd), ar_sub, w_i64 (by omega) (by omega), bnd (dvO_nz (by omega)), dv_rem (by omega)]
        have hm0 : 0 ≤ at_ % (n - 1) := Int.emod_nonneg _ (by omega)
        have hm1 : at_ % (n - 1) < n - 1 := Int.emod_lt_of_pos _ (by omega)
        generalize at_ % (n - 1) = k at *
        rw [ar_add, w_i64 (by omega) (by omega)]
        have hix : ∃ q, ix (b ++ List.replicate (n.toNat - 1) (0 : Int) ++ [n]) ((b.length : Int) + k) = some q := ⟨_, ix_getD (by omega) (by rw [hlen]; omega)⟩
        obtain ⟨q, hq⟩ := hix
        rw [bnd hq]
        have hset : (b ++ List.replicate (n.toNat - 1) (0 : Int) ++ [n]).set ((b.length : Int) + k).toNat by_ = b ++ (List.replicate (n.toNat - 1) (0 : Int)).set k.toNat by_ ++ [n] := by
          have e : ((b.length : Int) + k).toNat = b.length + k.toNat := by omega
          rw [e, List.append_assoc, List.set_append_right _ _ (by omega), Nat.add_sub_cancel_left, List.set_append_left _ _ (by simp; omega), List.append_assoc]
        rw [hset]
        have hrl2 : ((List.replicate (n.toNat - 1) (0 : Int)).set k.toNat by_).length = n.toNat - 1 := by simp
        have hmem : by_ ∈ (List.replicate (n.toNat - 1) (0 : Int)).set k.toNat by_ := by
          have hk : k.toNat < (List.replicate (n.toNat - 1) (0 : Int)).length := by simp; omega
          exact List.mem_set hk by_
        have hxu2 : ∀ y, y ∈ b ++ (List.replicate (n.toNat - 1) (0 : Int)).set k.toNat by_ ++ [n] → 0 ≤ y ∧ y ≤ 255 := fun y hy => by
          simp only [List.mem_append, List.mem_singleton] at hy
          rcases hy with (hy | hy) | hy
          · exact hu y hy
          · rcases List.mem_or_eq_of_mem_set hy with h | h
            · have := (List.mem_replicate.1 h).2; omega
            · omega
          · omega
        have hlen2 : (b ++ (List.replicate (n.toNat - 1) (0 : Int)).set k.toNat by_ ++ [n]).length = b.length + n.toNat := by simp; omega
        have ht2 : trN (b ++ (List.replicate (n.toNat - 1) (0 : Int)).set k.toNat by_ ++ [n]) = n := trN_snoc h1 (by simp; omega)
        have hp2 := padTrail_eq hxu2 (by rw [hlen2]; omega)
        rw [ht2, if_neg hz] at hp2
        have hc2 : cleanS (b ++ (List.replicate (n.toNat - 1) (0 : Int)).set k.toNat by_ ++ [n]) = false := by
          rw [cleanS_snoc h1 hrl2]
          exact decide_eq_false fun hall => hd (.inr (hall _ hmem))
        have hpc2 := padClean_eq hxu2 (by rw [hlen2]; omega)
        rw [hc2] at hpc2
        rw [bnd hp2]
        simp only [c4, Bool.true_and, gTT]
        rw [bnd hpc2]
        rfl
end Xb
