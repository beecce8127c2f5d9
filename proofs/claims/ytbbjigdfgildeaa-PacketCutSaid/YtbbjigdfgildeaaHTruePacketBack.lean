/- Own text: HTruePacketBack. -/
import Derived.Test.YtbbjigdfgildeaaHTruePacketRight
set_option linter.all false
set_option linter.unusedVariables false
set_option linter.unusedSimpArgs false
set_option linter.unnecessarySimpa false
set_option linter.deprecated false
namespace Xb
open Go

theorem size_dec {b : List Int} (hb : oct b) (h : ErrP b) : packet_Size (decP b) = b.length := by
  obtain ⟨_, hr, hsz⟩ := goodP_dec hb h
  rw [size_eq (short_dec hb h), if_pos hr, hsz]

theorem read_enc {p : Packet} (hg : GoodP p) (hr : RightP p) : packet_Read none (encP p) = some (p, 0) := by
  obtain ⟨h1, h2⟩ := dec_enc hg hr
  have hl := encP_len hr
  have := hr.2.2.2.2
  rw [packetRead_eq (oct_encP hg hr) (by omega)]
  unfold readP
  rw [of_errP h1, if_pos rfl, h2]

theorem errP_cases (b : List Int) : errP b = 0 ∨ errP b = 2 ∨ errP b = 3 ∨ errP b = 4 ∨ errP b = 5 := by
  unfold errP
  have := headE_cases b
  split
  · omega
  · split
    · omega
    · split
      · omega
      · split <;> omega

theorem pb_j1 {b : List Int} (hb : oct b) (hl : b.length ≤ 100000) : law06_PacketBack_j1 none b = some true := by
  unfold law06_PacketBack_j1
  rw [bnd (packetRead_eq hb hl)]
  unfold readP
  by_cases h : errP b = 0
  · have hE := errP_of h
    obtain ⟨hg, hr, hsz⟩ := goodP_dec hb hE
    have hs := short_dec hb hE
    have hlen := encP_len hr
    have c0 : cm .neq (0 : Int) 0 = false := by decide
    have c1 : cm .eql (0 : Int) 0 = true := by decide
    rw [if_pos h]
    simp only [c0]
    rw [if_neg (by decide), bnd (write_eq hg hs _), if_pos hr, if_neg (by omega), right_eq hs, decide_eq_true hr]
    have c2 : cm .neq ((encP (decP b)).length : Int) (b.length : Int) = false := by rw [cm_neq, hlen, hsz]; simp
    simp only [c0, c2, Bool.not_true, Bool.or_false, Bool.not_false, gTT]
    rw [bnd (packetCanon_eq hb hl), sc_b2s (oct_encP hg hr) hb]
    have : bq .neq (canonS b) (decide (encP (decP b) = b)) = false := by
      have := canon_iff hb hE
      by_cases hc : canonS b = true
      · rw [hc, decide_eq_true (this.1 hc)]; rfl
      · rw [decide_eq_false (fun e => hc (this.2 e))]
        simp only [Bool.not_eq_true] at hc
        rw [hc]; rfl
    rw [this, if_neg (by decide), bnd (read_enc hg hr)]
    simp only [c1, gTT]
    rw [bnd (sameP_eq hg hg (by have := hs.c; omega))]
    simp
  · have hc : cm .neq (errP b) 0 = true := by rw [cm_neq]; simp [h]
    rw [if_neg h]
    simp only [hc]
    rw [if_pos trivial, bnd (packetCanon_eq hb hl)]
    have hcs : canonS b = false := by unfold canonS; rw [decide_eq_false h, Bool.false_and]
    rw [hcs]
    simp only [Bool.not_false, gTT]
    have := sameP_eq goodZ goodZ (by simp [zeroP, zeroH])
    simp only [zeroP, zeroH] at this ⊢
    rw [bnd this]
    rfl

theorem packetBack_true {p : Packet} {b : List Int} (hp : wf_Packet p) (hb : b.length ≤ maxLen ∧ ∀ x, x ∈ b → inK .u8 x) : law06_PacketBack none p b = some true := by
  have hb' := octs hb
  have hg := goodP_of hp
  unfold law06_PacketBack
  by_cases h : ref06_Short p = true ∧ b.length ≤ 70000
  · have hs := short_eq.1 h.1
    have fin := pb_j1 hb' (by omega)
    rw [if_neg (by rw [h.1, cm_gtr]; simp; omega), bnd (write_eq hg hs _)]
    by_cases hr : RightP p
    · have hlen := encP_len hr
      have hsz := hr.2.2.2.2
      rw [if_pos hr, if_neg (show ¬ sizeP p > 65535 by omega)]
      have c0 : cm .neq (0 : Int) 0 = false := by decide
      have c1 : cm .eql (0 : Int) 0 = true := by decide
      simp only [c1]
      rw [if_pos trivial, bnd (read_enc hg hr)]
      simp only [c0, Bool.not_false, gTT]
      rw [bnd (sameP_eq hg hg (by have := hs.c; omega))]
      simp only [decide_true, Bool.not_true, Bool.or_false, Bool.not_false, gTT]
      rw [bnd (packetCanon_eq (oct_encP hg hr) (by omega)), canon_enc hg hr, size_eq hs, if_pos hr]
      have c2 : cm .neq ((encP p).length : Int) (sizeP p) = false := by rw [cm_neq, hlen]; simp
      have c3 : cm .gtr ((encP p).length : Int) 65535 = false := by rw [cm_gtr]; exact decide_eq_false (by omega)
      rw [c2, c3, if_neg (by decide)]
      exact fin
    · rw [if_neg hr, right_eq hs, decide_eq_false hr]
      have c1 : cm .eql (1 : Int) 0 = false := by decide
      simp only [c1]
      rw [if_neg (by decide), if_neg (by decide)]
      exact fin
  · rw [if_pos (by
      rw [cm_gtr]
      by_cases h1 : ref06_Short p = true
      · have : ¬ b.length ≤ 70000 := fun h2 => h ⟨h1, h2⟩
        rw [h1]; simp; omega
      · simp only [Bool.not_eq_true] at h1
        rw [h1]; rfl)]
end Xb
