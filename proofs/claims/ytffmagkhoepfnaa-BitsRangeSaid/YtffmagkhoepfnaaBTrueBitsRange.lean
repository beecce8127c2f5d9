/- Own text: BTrueBitsRange. -/
import Derived.Test.YtffmagkhoepfnaaMBitsR0
import Derived.Test.YtffmagkhoepfnaaMBitsR32
import Derived.Test.YtffmagkhoepfnaaMBitsR44
import Derived.Test.YtffmagkhoepfnaaMBitsR52
import Derived.Test.YtffmagkhoepfnaaMBitsR58
import Derived.Test.YtffmagkhoepfnaaMath1
set_option linter.all false
set_option linter.unusedVariables false
set_option linter.unusedSimpArgs false
set_option linter.unnecessarySimpa false
set_option linter.deprecated false
namespace Xb
open Go

theorem bitsRange_mod {z : Option Nat} {n : Int} (h0 : 0 ≤ n) (h : n ≤ 255) : law02_BitsRange z n = law02_BitsRange z (n % 64) := by
  have e : dv .rem .u64 (IntKind.u64.wrap n) 64 = dv .rem .u64 (IntKind.u64.wrap (n % 64)) 64 := by
    rw [w_u64 h0 (by omega), w_u64 (by omega) (by omega), dv_rem h0, dv_rem (by omega)]; omega
  have e4 : ∀ v3 v4 v9 v14, law02_BitsRange_l4 z n v3 v4 v9 v14 = law02_BitsRange_l4 z (n % 64) v3 v4 v9 v14 := by
    intros; unfold law02_BitsRange_l4 law02_BitsRange_s4; rw [e]
  have e3 : ∀ v3 v4 x5 v9 v10 v11, law02_BitsRange_l3 z n v3 v4 x5 v9 v10 v11 = law02_BitsRange_l3 z (n % 64) v3 v4 x5 v9 v10 v11 := by
    intros; unfold law02_BitsRange_l3 law02_BitsRange_s3; simp only [e4]
  have e2 : ∀ v1 v3 v4, law02_BitsRange_l2 z n v1 v3 v4 = law02_BitsRange_l2 z (n % 64) v1 v3 v4 := by
    intros; unfold law02_BitsRange_l2 law02_BitsRange_s2; simp only [e3, e]
  unfold law02_BitsRange law02_BitsRange_l1 law02_BitsRange_s1
  simp only [e2, e]

theorem bitsRange_true {n : Int} (h : inK .u8 n) : law02_BitsRange (some 70) n = some true := by
  rw [in_u8] at h
  rw [bitsRange_mod h.1 h.2]
  obtain ⟨m, hm⟩ := Int.eq_ofNat_of_zero_le (show 0 ≤ n % 64 by omega)
  have hlt : m < 64 := by omega
  rw [hm]
  by_cases h1 : m < 32
  · have := bitsRange_0 ⟨m, h1⟩
    simpa using this
  by_cases h2 : m < 44
  · have := bitsRange_32 ⟨m - 32, by omega⟩
    rwa [show (32 : Int) + ((m - 32 : Nat) : Int) = m by omega] at this
  by_cases h3 : m < 52
  · have := bitsRange_44 ⟨m - 44, by omega⟩
    rwa [show (44 : Int) + ((m - 44 : Nat) : Int) = m by omega] at this
  by_cases h4 : m < 58
  · have := bitsRange_52 ⟨m - 52, by omega⟩
    rwa [show (52 : Int) + ((m - 52 : Nat) : Int) = m by omega] at this
  · have := bitsRange_58 ⟨m - 58, by omega⟩
    rwa [show (58 : Int) + ((m - 58 : Nat) : Int) = m by omega] at this
end Xb
