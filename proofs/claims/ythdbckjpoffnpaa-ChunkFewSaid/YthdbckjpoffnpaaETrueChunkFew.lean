/- Own text: ETrueChunkFew. -/
import Derived.Test.YthdbckjpoffnpaaMChunk2
import Derived.Test.YthdbckjpoffnpaaEWf
set_option linter.all false
set_option linter.unusedVariables false
set_option linter.unusedSimpArgs false
set_option linter.unnecessarySimpa false
set_option linter.deprecated false
namespace Xb
open Go

theorem chunkFew_true {l : List Int} {what many : Int} (hl : l.length ≤ maxLen ∧ ∀ x, x ∈ l → inK .i64 x) (hw : inK .u8 what) (hm : inK .u16 many) : law18_ChunkFew none l what many = some true := by
  obtain ⟨hw0, hw1⟩ := in_u8.1 hw
  obtain ⟨hm0, hm1⟩ := in_u16.1 hm
  unfold law18_ChunkFew
  by_cases h : (l.length : Int) > 9000
  · rw [if_pos (by rw [cm_gtr]; simpa using h)]
  · rw [if_neg (by rw [cm_gtr]; simpa using h), bnd (write_eq (by omega))]
    have hc : ((cm .eql (if (∀ x, x ∈ l → 0 ≤ x ∧ x ≤ 2) then (writeS l, (0 : Int)) else ([], 1)).2 0) && ((cm .gtr ((if (∀ x, x ∈ l → 0 ≤ x ∧ x ≤ 2) then (writeS l, (0 : Int)) else ([], 1)).1.length : Int) (dv .quo .i64 (ar .add .i64 (l.length : Int) 6) 7)) || (bq .neq (cm .eql ((if (∀ x, x ∈ l → 0 ≤ x ∧ x ≤ 2) then (writeS l, (0 : Int)) else ([], 1)).1.length : Int) 0) (cm .eql (l.length : Int) 0)))) = false := by
      by_cases hv : ∀ x, x ∈ l → 0 ≤ x ∧ x ≤ 2
      · rw [if_pos hv]
        have h1 := writeS_len (l.length + 1) l (by omega)
        have h2 := writeS_nil_iff (l := l)
        rw [ar_add, w_i64 (by omega) (by omega), dv_quo (by omega), w_i64 (by omega) (by omega), cm_gtr, cm_eql, cm_eql, cm_eql]
        have e1 : decide (((l.length : Int) + 6) / 7 < ((writeS l).length : Int)) = false := decide_eq_false (by omega)
        have e2 : decide (((writeS l).length : Int) = 0) = decide ((l.length : Int) = 0) := decide_eq_decide.2 (by omega)
        simp only [e1, e2, bq]
        simp
      · rw [if_neg hv]
        have : cm .eql (1 : Int) 0 = false := by decide
        simp only [this, Bool.false_and]
    rw [hc, if_neg (by decide)]
    have en : IntKind.i64.wrap many = many := w_i64 (by omega) (by omega)
    have ew : IntKind.i64.wrap what = what := w_i64 (by omega) (by omega)
    rw [en, dv_rem (by omega)]
    have hn0 : 0 ≤ many % 20000 := by omega
    have hn1 : many % 20000 < 20000 := by omega
    have hmk : mkL (0 : Int) (many % 20000) (many % 20000) = some (List.replicate (many % 20000).toNat 0) := by
      unfold mkL; rw [if_pos (by omega)]
    rw [bnd hmk]
    obtain ⟨n, hn⟩ : ∃ n : Nat, many % 20000 = (n : Int) := ⟨(many % 20000).toNat, by omega⟩
    rw [hn]
    have hv3 : 0 ≤ what % 3 ∧ what % 3 ≤ 2 := by omega
    unfold law18_ChunkFew_l1
    have := loop_seq (step := fun (s : List Int × Int) => law18_ChunkFew_s1 none what many s.1 s.2) (r := true) (fun i => (List.replicate i (what % 3) ++ List.replicate (n - i) 0, (i : Int))) n (fun i hi => by
      simp only [law18_ChunkFew_s1]
      rw [en, ew, dv_rem (by omega), dv_rem (by omega), hn, cm_lss, if_pos (by simp; omega)]
      have hix : ∃ q, ix (List.replicate i (what % 3) ++ List.replicate (n - i) (0 : Int)) (i : Int) = some q := ⟨_, ix_getD (by omega) (by simp; omega)⟩
      obtain ⟨q, hq⟩ := hix
      rw [bnd hq, ar_add, w_i64 (by omega) (by omega)]
      have e : (List.replicate i (what % 3) ++ List.replicate (n - i) (0 : Int)).set (i : Int).toNat (what % 3) = List.replicate (i + 1) (what % 3) ++ List.replicate (n - (i + 1)) 0 := by
        obtain ⟨m, hm⟩ : ∃ m, n - i = m + 1 := ⟨n - i - 1, by omega⟩
        have hm2 : n - (i + 1) = m := by omega
        rw [hm, hm2, Int.toNat_natCast, List.set_append_right _ _ (by simp), List.length_replicate, Nat.sub_self, List.replicate_succ (n := m), List.set_cons_zero, List.replicate_succ' (n := i), List.append_assoc]
        rfl
      rw [e]
      rfl) (by
      simp only [law18_ChunkFew_s1]
      rw [en, dv_rem (by omega), hn, cm_lss, if_neg (by simp)]
      have e : List.replicate n (what % 3) ++ List.replicate (n - n) (0 : Int) = List.replicate n (what % 3) := by simp
      rw [e]
      have hw := write_eq (l := List.replicate n (what % 3)) (by simp; omega)
      rw [if_pos (fun x hx => by rw [(List.mem_replicate.1 hx).2]; exact hv3)] at hw
      rw [bnd hw, writeS_rep (n + 1) n (what % 3) (by omega)]
      have e2 : dv .quo .i64 (ar .add .i64 (n : Int) 8190) 8191 = (((n + 8190) / 8191 : Nat) : Int) := by
        rw [ar_add, w_i64 (by omega) (by omega), dv_quo (by omega), w_i64 (by omega) (by omega)]; omega
      rw [e2, cm_eql, cm_eql]; simp)
    have e0 : List.replicate (many % 20000).toNat (0 : Int) = List.replicate 0 (what % 3) ++ List.replicate (n - 0) 0 := by
      rw [hn]; simp
    rw [hn] at e0
    rw [e0]
    exact this
end Xb
