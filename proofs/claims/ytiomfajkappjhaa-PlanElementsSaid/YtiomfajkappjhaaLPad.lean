/- Own text: LPad. -/
import Derived.Test.YtiomfajkappjhaaMath2
import Derived.Test.YtiomfajkappjhaaLModels
import Derived.Test.YtiomfajkappjhaaLWf
set_option linter.all false
set_option linter.unusedVariables false
set_option linter.unusedSimpArgs false
set_option linter.unnecessarySimpa false
set_option linter.deprecated false
namespace Xb
open Go

theorem concat_eq {ss : List (List Int)} (h1 : ss.length ≤ 1000) (h2 : ss.flatten.length ≤ 100000000) : slices_Concat_byte none ss = some ss.flatten := by
  have hle : ∀ i, (ss.take i).flatten.length ≤ ss.flatten.length := fun i => by
    have : ss.flatten = (ss.take i).flatten ++ (ss.drop i).flatten := by rw [← List.flatten_append, List.take_append_drop]
    rw [this]; simp
  have hsucc : ∀ i (h : i < ss.length), (ss.take (i + 1)).flatten = (ss.take i).flatten ++ ss[i] := fun i h => by
    rw [List.take_add_one, List.getElem?_eq_getElem h]
    simp only [Option.toList_some, List.flatten_append, List.flatten_cons, List.flatten_nil, List.append_nil]
  unfold slices_Concat_byte slices_Concat_byte_l1
  have := loop_seq (step := fun (s : Int × Int) => slices_Concat_byte_s1 none ss s.1 s.2) (r := ss.flatten) (fun i => (((ss.take i).flatten.length : Int), (i : Int))) ss.length (fun i hi => by
    have a := hle (i + 1)
    have b := hsucc i hi
    rw [b] at a
    simp only [List.length_append] at a
    have c := congrArg List.length b
    simp only [List.length_append] at c
    simp only [slices_Concat_byte_s1, slices_Concat_byte_j2, cm_lss, decide_eq_true_eq]
    rw [if_pos (by omega), bnd (ix_some rfl hi), ar_add, w_i64 (by omega) (by omega), if_neg (by omega), ar_add, w_i64 (by omega) (by omega), c]
    simp) (by
    simp only [slices_Concat_byte_s1, cm_lss, decide_eq_true_eq]
    have hg : growL (((ss.take ss.length).flatten.length : Nat) : Int) = some () := by
      have := hle ss.length
      simp only [growL]
      rw [if_pos (by omega)]
    rw [if_neg (by omega), bnd hg]
    unfold slices_Concat_byte_l3
    have := loop_seq (step := fun (s : List Int × Int) => slices_Concat_byte_s3 none ss s.1 s.2) (r := ss.flatten) (fun i => ((ss.take i).flatten, (i : Int))) ss.length (fun i hi => by
      have a := hle (i + 1)
      have b := hsucc i hi
      rw [b] at a
      simp only [List.length_append] at a
      simp only [slices_Concat_byte_s3, cm_lss, decide_eq_true_eq]
      rw [if_pos (by omega), bnd (ix_some rfl hi), bnd (app_some (by omega)), ar_add, w_i64 (by omega) (by omega), b]
      simp) (by
      simp only [slices_Concat_byte_s3, cm_lss, decide_eq_true_eq]
      rw [if_neg (by omega)]
      simp)
    have h0 : (ss.take 0).flatten = ([] : List Int) := by simp
    rw [h0] at this
    have this' : loopG none (fun (s : List Int × Int) => slices_Concat_byte_s3 none ss s.1 s.2) (([] : List Int), (0 : Int)) = some ss.flatten := this
    rw [this']; rfl)
  simpa using this
theorem zeros_eq {n : Int} (h0 : 0 ≤ n) (h1 : n ≤ 1000000) : pad_zeros n = some (List.replicate n.toNat 0) := by
  simp only [pad_zeros, mkL]
  rw [if_pos (by omega)]; rfl
/-- how many noughts fill up -/
def fillN (n : Nat) : Nat := (4 - n % 4) % 4
theorem fill_eq {b : List Int} (h : b.length ≤ 1000000) : pad_Fill none b = some (b ++ List.replicate (fillN b.length) 0) := by
  unfold pad_Fill fillN
  have e : dv .rem .i64 (ar .sub .i64 4 (dv .rem .i64 (b.length : Int) 4)) 4 = (((4 - b.length % 4) % 4 : Nat) : Int) := by
    rw [dv_rem (x := (b.length : Int)) (by omega), ar_sub, w_i64 (by omega) (by omega), dv_rem (by omega)]; omega
  rw [e, bnd (zeros_eq (by omega) (by omega)), bnd (concat_eq (by simp) (by simp; omega))]
  simp only [Int.toNat_natCast]
  simp
theorem count_zero {b : List Int} (hb : ∀ y, y ∈ b → 0 ≤ y ∧ y ≤ 255) : (countB b 0 = b.length) ↔ ∀ y, y ∈ b → y = 0 := by
  have hz : (0 : Int).toNat.toUInt8 = 0 := rfl
  simp only [countB, Lib.countByte, Lib.bytesOf, hz]
  have hle : List.count 0 (b.map fun n => UInt8.ofNat n.toNat) ≤ b.length := by
    have := List.count_le_length (a := (0 : UInt8)) (l := b.map fun n => UInt8.ofNat n.toNat)
    simpa using this
  constructor
  · intro h y hy
    have h' : List.count 0 (b.map fun n => UInt8.ofNat n.toNat) = (b.map fun n => UInt8.ofNat n.toNat).length := by simp; omega
    have := List.count_eq_length.1 h' (UInt8.ofNat y.toNat) (List.mem_map.2 ⟨y, hy, rfl⟩)
    have hr := hb y hy
    have h2 := congrArg UInt8.toNat this
    simp at h2
    omega
  · intro h
    have h' : List.count 0 (b.map fun n => UInt8.ofNat n.toNat) = (b.map fun n => UInt8.ofNat n.toNat).length := by
      rw [List.count_eq_length]
      intro x hx
      obtain ⟨y, hy, rfl⟩ := List.mem_map.1 hx
      rw [h y hy]; rfl
    simp at h'; omega
/-- texts are the same when the octets are -/
theorem b2s_inj {a b : List Int} (ha : ∀ x, x ∈ a → 0 ≤ x ∧ x ≤ 255) (hb : ∀ x, x ∈ b → 0 ≤ x ∧ x ≤ 255) : b2s a = b2s b ↔ a = b := by
  refine ⟨fun h => ?_, fun h => by rw [h]⟩
  have hi : ∀ (l : List Int), (∀ x, x ∈ l → 0 ≤ x ∧ x ≤ 255) → (b2s l).map (fun u => (u.toNat : Int)) = l := by
    intro l hl
    unfold b2s
    rw [List.map_map]
    conv => rhs; rw [← List.map_id l]
    apply List.map_congr_left
    intro x hx
    obtain ⟨h0, h1⟩ := hl x hx
    simp
    omega
  rw [← hi a ha, ← hi b hb, h]
theorem sc_b2s {a b : List Int} (ha : ∀ x, x ∈ a → 0 ≤ x ∧ x ≤ 255) (hb : ∀ x, x ∈ b → 0 ≤ x ∧ x ≤ 255) : sc .eql (b2s a) (b2s b) = decide (a = b) := by
  simp only [sc]
  by_cases h : a = b
  · subst h; simp
  · simp [h]; exact fun e => h ((b2s_inj ha hb).1 e)

end Xb
