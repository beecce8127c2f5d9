/- Own text: KPad2. -/
import Derived.Test.YtcdhafhamjinlaaKPad1
set_option linter.all false
set_option linter.unusedVariables false
set_option linter.unusedSimpArgs false
set_option linter.unnecessarySimpa false
set_option linter.deprecated false
namespace Xb
open Go

theorem zeros_eq {n : Int} (h0 : 0 ≤ n) (h1 : n ≤ 1000000) : pad_zeros n = some (List.replicate n.toNat 0) := by
  simp only [pad_zeros, mkL]
  rw [if_pos (by omega)]; rfl

/-- how many noughts fill up -/
def fillN (n : Nat) : Nat := (4 - n % 4) % 4

theorem fill_eq {b : List Int} (h : b.length ≤ 1000000) : pad_Fill none b = some (b ++ List.replicate (fillN b.length) 0) := by
  unfold pad_Fill fillN
  have e : dv .rem .i64 (ar .sub .i64 4 (dv .rem .i64 (b.length : Int) 4)) 4 = (((4 - b.length % 4) % 4 : Nat) : Int) := by
    rw [dv_rem (x := (b.length : Int)) (by omega), ar_sub, w_i64 (by omega) (by omega), dv_rem (by omega)]; omega
  rw [e, bnd (zeros_eq (by omega) (by omega)), bnd (concat_eq (by simp) (by simp; omega))]
  simp only [Int.toNat_natCast]
  simp

theorem count_zero {b : List Int} (hb : ∀ y, y ∈ b → 0 ≤ y ∧ y ≤ 255) : (countB b 0 = b.length) ↔ ∀ y, y ∈ b → y = 0 := by
  have hz : (0 : Int).toNat.toUInt8 = 0 := rfl
  simp only [countB, Lib.countByte, Lib.bytesOf, hz]
  have hle : List.count 0 (b.map fun n => UInt8.ofNat n.toNat) ≤ b.length := by
    have := List.count_le_length (a := (0 : UInt8)) (l := b.map fun n => UInt8.ofNat n.toNat)
    simpa using this
  constructor
  · intro h y hy
    have h' : List.count 0 (b.map fun n => UInt8.ofNat n.toNat) = (b.map fun n => UInt8.ofNat n.toNat).length := by simp; omega
    have := List.count_eq_length.1 h' (UInt8.ofNat y.toNat) (List.mem_map.2 ⟨y, hy, rfl⟩)
    have hr := hb y hy
    have h2 := congrArg UInt8.toNat this
    simp at h2
    omega
  · intro h
    have h' : List.count 0 (b.map fun n => UInt8.ofNat n.toNat) = (b.map fun n => UInt8.ofNat n.toNat).length := by
      rw [List.count_eq_length]
      intro x hx
      obtain ⟨y, hy, rfl⟩ := List.mem_map.1 hx
      rw [h y hy]; rfl
    simp at h'; omega

theorem zero_eq {b : List Int} (hb : ∀ y, y ∈ b → 0 ≤ y ∧ y ≤ 255) : pad_Zero none b = some (decide (∀ y, y ∈ b → y = 0)) := by
  unfold pad_Zero bytes_Count
  have hc : ix [(0 : Int)] 0 = some 0 := rfl
  simp only [List.length_cons, List.length_nil, cm_eql]
  rw [if_neg (by decide), if_pos (by decide), bnd hc, Option.bind_some]
  congr 1
  exact decide_eq_decide.2 (count_zero hb)
end Xb
