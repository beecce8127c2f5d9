/- Own text: SPad. -/
import Derived.Test.YtpehlandaemcmaaGreatMath2
import Derived.Test.YtpehlandaemcmaaGreatSModels
set_option linter.all false
set_option linter.unusedVariables false
set_option linter.unusedSimpArgs false
set_option linter.unnecessarySimpa false
set_option linter.deprecated false
namespace Xb
open Go

theorem concat_eq {ss : List (List Int)} (h1 : ss.length ≤ 1000) (h2 : ss.flatten.length ≤ 100000000) : slices_Concat none ss = some ss.flatten := by
  have hle : ∀ i, (ss.take i).flatten.length ≤ ss.flatten.length := fun i => by
    have : ss.flatten = (ss.take i).flatten ++ (ss.drop i).flatten := by rw [← List.flatten_append, List.take_append_drop]
    rw [this]; simp
  have hsucc : ∀ i (h : i < ss.length), (ss.take (i + 1)).flatten = (ss.take i).flatten ++ ss[i] := fun i h => by
    rw [List.take_add_one, List.getElem?_eq_getElem h]
    simp only [Option.toList_some, List.flatten_append, List.flatten_cons, List.flatten_nil, List.append_nil]
  unfold slices_Concat slices_Concat_l1
  have := loop_seq (step := fun (s : Int × Int) => slices_Concat_s1 none ss s.1 s.2) (r := ss.flatten) (fun i => (((ss.take i).flatten.length : Int), (i : Int))) ss.length (fun i hi => by
    have a := hle (i + 1)
    have b := hsucc i hi
    rw [b] at a
    simp only [List.length_append] at a
    have c := congrArg List.length b
    simp only [List.length_append] at c
    simp only [slices_Concat_s1, slices_Concat_j2, cm_lss, decide_eq_true_eq]
    rw [if_pos (by omega), bnd (ix_some rfl hi), ar_add, w_i64 (by omega) (by omega), if_neg (by omega), ar_add, w_i64 (by omega) (by omega), c]
    simp) (by
    simp only [slices_Concat_s1, cm_lss, decide_eq_true_eq]
    have hg : growL (((ss.take ss.length).flatten.length : Nat) : Int) = some () := by
      have := hle ss.length
      simp only [growL]
      rw [if_pos (by omega)]
    rw [if_neg (by omega), bnd hg]
    unfold slices_Concat_l3
    have := loop_seq (step := fun (s : List Int × Int) => slices_Concat_s3 none ss s.1 s.2) (r := ss.flatten) (fun i => ((ss.take i).flatten, (i : Int))) ss.length (fun i hi => by
      have a := hle (i + 1)
      have b := hsucc i hi
      rw [b] at a
      simp only [List.length_append] at a
      simp only [slices_Concat_s3, cm_lss, decide_eq_true_eq]
      rw [if_pos (by omega), bnd (ix_some rfl hi), bnd (app_some (by omega)), ar_add, w_i64 (by omega) (by omega), b]
      simp) (by
      simp only [slices_Concat_s3, cm_lss, decide_eq_true_eq]
      rw [if_neg (by omega)]
      simp)
    have h0 : (ss.take 0).flatten = ([] : List Int) := by simp
    rw [h0] at this
    have this' : loopG none (fun (s : List Int × Int) => slices_Concat_s3 none ss s.1 s.2) (([] : List Int), (0 : Int)) = some ss.flatten := this
    rw [this']; rfl)
  simpa using this
end Xb

namespace Xb
open Go

theorem zeros_eq {n : Int} (h0 : 0 ≤ n) (h1 : n ≤ 1000000) : pad_zeros n = some (List.replicate n.toNat 0) := by
  simp only [pad_zeros, mkL]
  rw [if_pos (by omega)]; rfl

/-- how many noughts fill up -/
def fillN (n : Nat) : Nat := (4 - n % 4) % 4

theorem fill_eq {b : List Int} (h : b.length ≤ 1000000) : pad_Fill none b = some (b ++ List.replicate (fillN b.length) 0) := by
  unfold pad_Fill fillN
  have e : dv .rem .i64 (ar .sub .i64 4 (dv .rem .i64 (b.length : Int) 4)) 4 = (((4 - b.length % 4) % 4 : Nat) : Int) := by
    rw [dv_rem (x := (b.length : Int)) (by omega), ar_sub, w_i64 (by omega) (by omega), dv_rem (by omega)]; omega
  rw [e, bnd (zeros_eq (by omega) (by omega)), bnd (concat_eq (by simp) (by simp; omega))]
  simp only [Int.toNat_natCast]
  simp

theorem count_zero {b : List Int} (hb : ∀ y, y ∈ b → 0 ≤ y ∧ y ≤ 255) : (countB b 0 = b.length) ↔ ∀ y, y ∈ b → y = 0 := by
  have hz : (0 : Int).toNat.toUInt8 = 0 := rfl
  simp only [countB, Lib.countByte, Lib.bytesOf, hz]
  have hle : List.count 0 (b.map fun n => UInt8.ofNat n.toNat) ≤ b.length := by
    have := List.count_le_length (a := (0 : UInt8)) (l := b.map fun n => UInt8.ofNat n.toNat)
    simpa using this
  constructor
  · intro h y hy
    have h' : List.count 0 (b.map fun n => UInt8.ofNat n.toNat) = (b.map fun n => UInt8.ofNat n.toNat).length := by simp; omega
    have := List.count_eq_length.1 h' (UInt8.ofNat y.toNat) (List.mem_map.2 ⟨y, hy, rfl⟩)
    have hr := hb y hy
    have h2 := congrArg UInt8.toNat this
    simp at h2
    omega
  · intro h
    have h' : List.count 0 (b.map fun n => UInt8.ofNat n.toNat) = (b.map fun n => UInt8.ofNat n.toNat).length := by
      rw [List.count_eq_length]
      intro x hx
      obtain ⟨y, hy, rfl⟩ := List.mem_map.1 hx
      rw [h y hy]; rfl
    simp at h'; omega

theorem zero_eq {b : List Int} (hb : ∀ y, y ∈ b → 0 ≤ y ∧ y ≤ 255) : pad_Zero none b = some (decide (∀ y, y ∈ b → y = 0)) := by
  unfold pad_Zero bytes_Count
  have hc : ix [(0 : Int)] 0 = some 0 := rfl
  simp only [List.length_cons, List.length_nil, cm_eql]
  rw [if_neg (by decide), if_pos (by decide), bnd hc, Option.bind_some]
  congr 1
  exact decide_eq_decide.2 (count_zero hb)
end Xb

namespace Xb
open Go
theorem refFill_eq {b : List Int} (h : b.length ≤ 1000000) : ref03_Fill none b = some (b ++ List.replicate (fillN b.length) 0) := by
  unfold ref03_Fill ref03_Fill_l1
  rw [bnd (app_some (l := []) (m := b) (by simp; omega)), List.nil_append]
  have hf : fillN b.length ≤ 3 ∧ (b.length + fillN b.length) % 4 = 0 ∧ ∀ i, i < fillN b.length → (b.length + i) % 4 ≠ 0 := by
    unfold fillN
    exact ⟨by omega, by omega, fun i hi => by omega⟩
  have := loop_seq (step := fun (s : List Int) => ref03_Fill_s1 none s) (r := b ++ List.replicate (fillN b.length) 0) (fun i => b ++ List.replicate i 0) (fillN b.length) (fun i hi => by
    have h1 := hf.2.2 i hi
    simp only [ref03_Fill_s1]
    have hl : (b ++ List.replicate i (0 : Int)).length = b.length + i := by simp
    rw [hl, dv_rem (by omega), cm_neq, if_pos (by simp; omega), bnd (app_some (by rw [hl]; simp; omega)), List.append_assoc, ← List.replicate_succ']) (by
    simp only [ref03_Fill_s1]
    have hl : (b ++ List.replicate (fillN b.length) (0 : Int)).length = b.length + fillN b.length := by simp
    rw [hl, dv_rem (by omega), cm_neq, if_neg (by simp; omega)]
    rfl)
  simpa using this

end Xb

