/- Own text: HTruePacketRight. -/
import Derived.Test.YtbbjigdfgildeaaHPacket6
set_option linter.all false
set_option linter.unusedVariables false
set_option linter.unusedSimpArgs false
set_option linter.unnecessarySimpa false
set_option linter.deprecated false
namespace Xb
open Go

theorem octs {l : List Int} (h : l.length ≤ maxLen ∧ ∀ x, x ∈ l → inK .u8 x) : oct l := fun x hx => in_u8.1 (h.2 x hx)

theorem refCanon_eq {b : List Int} (hb : oct b) (hl : b.length ≤ 100000) : ref06_Canon none b = some (canonS b) := by
  unfold ref06_Canon
  rw [bnd (refRead_eq hb hl)]
  unfold readP
  by_cases h : errP b = 0
  · have hE := errP_of h
    obtain ⟨hg, hr, _⟩ := goodP_dec hb hE
    have c0 : cm .eql (0 : Int) 0 = true := by decide
    rw [if_pos h]
    simp only [c0, gTT]
    rw [bnd (refWrite_eq hg (short_dec hb hE) hr), sc_b2s (oct_encP hg hr) hb, Bool.true_and]
    congr 1
    rw [Bool.eq_iff_iff, decide_eq_true_iff]
    exact (canon_iff hb hE).symm
  · have c0 : cm .eql (errP b) 0 = false := by rw [cm_eql]; exact decide_eq_false h
    rw [if_neg h]
    simp only [c0, gTF, Option.bind_some, Bool.false_and]
    unfold canonS
    rw [decide_eq_false h, Bool.false_and]

theorem pr_j1 {p : Packet} {b : List Int} (hs : ShortP p) (hb : oct b) (hl : b.length ≤ 100000) : law06_PacketRight_j1 none p b = some true := by
  unfold law06_PacketRight_j1
  have hself : bq .eql (decide (RightP p)) (decide (RightP p)) = true := by rw [bq_eql]; simp
  have hself2 : cm .eql (readP b).2 (readP b).2 = true := by rw [cm_eql]; simp
  rw [bnd (packetRead_eq hb hl), bnd (refRead_eq hb hl), right_eq hs, refRight_eq hs, hself, hself2]
  simp only [Bool.and_self, gTT]
  rw [bnd (sameP_eq (goodR hb) (goodR hb) (csR hb))]
  simp only [decide_true, Bool.and_self, gTT]
  rw [bnd (packetCanon_eq hb hl), bnd (refCanon_eq hb hl)]
  simp [bq_eql]

theorem packetRight_true {p : Packet} {room : Int} {b : List Int} (hp : wf_Packet p) (_hr : inK .i64 room) (hb : b.length ≤ maxLen ∧ ∀ x, x ∈ b → inK .u8 x) : law06_PacketRight none p room b = some true := by
  have hb' := octs hb
  have hg := goodP_of hp
  unfold law06_PacketRight
  by_cases h : ref06_Short p = true ∧ b.length ≤ 70000
  · have hs := short_eq.1 h.1
    rw [if_neg (by rw [h.1, cm_gtr]; simp; omega), bnd (write_eq hg hs room), refRight_eq hs, size_eq hs]
    have fin := pr_j1 (p := p) hs hb' (by omega)
    by_cases hr : RightP p
    · have hsz := refSize_eq hs hr.2.2.1
      have hlen := encP_len hr
      rw [decide_eq_true hr, if_neg (by decide), hsz, if_pos hr, if_pos hr]
      by_cases hroom : sizeP p > room
      · rw [if_pos (by rw [cm_gtr]; simpa using hroom), if_pos hroom]
        have c1 : cm .neq (7 : Int) 7 = false := by decide
        have c2 : cm .neq (([] : List Int).length : Int) 0 = false := by decide
        have c3 : cm .neq (sizeP p) (sizeP p) = false := by rw [cm_neq]; simp
        simp only [c1, c2, c3]
        rw [if_neg (by decide)]
        exact fin
      · rw [if_neg (by rw [cm_gtr]; simpa using hroom), if_neg hroom]
        have c1 : cm .neq (0 : Int) 0 = false := by decide
        have c2 : cm .neq (sizeP p) ((encP p).length : Int) = false := by rw [cm_neq, hlen]; simp
        simp only [c1, Bool.not_false, gTT]
        rw [bnd (refWrite_eq hg hs hr)]
        have c3 : sc .neq (b2s (encP p)) (b2s (encP p)) = false := by simp [sc]
        rw [c2, c3, if_neg (by decide)]
        exact fin
    · rw [decide_eq_false hr, if_pos (by decide), if_neg hr, if_neg hr]
      have c1 : cm .neq (1 : Int) 1 = false := by decide
      have c2 : cm .neq (([] : List Int).length : Int) 0 = false := by decide
      have c3 : cm .neq (0 : Int) 0 = false := by decide
      simp only [c1, c2, c3]
      rw [if_neg (by decide)]
      exact fin
  · rw [if_pos (by
      rw [cm_gtr]
      by_cases h1 : ref06_Short p = true
      · have : ¬ b.length ≤ 70000 := fun h2 => h ⟨h1, h2⟩
        rw [h1]; simp; omega
      · simp only [Bool.not_eq_true] at h1
        rw [h1]; rfl)]
end Xb
