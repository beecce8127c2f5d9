/- Own text: HPacket3. -/
import Derived.Test.YtbbjigdfgildeaaHPacket2
set_option linter.all false
set_option linter.unusedVariables false
set_option linter.unusedSimpArgs false
set_option linter.unnecessarySimpa false
set_option linter.deprecated false
namespace Xb
open Go

def extB (p : Packet) : List Int := if p.head.hasExt then beN 2 p.profile ++ (beN 2 ((p.ext.length / 4 : Nat) : Int) ++ p.ext) else []
def encX (p : Packet) : List Int := encH p.head ++ extB p
def padB (p : Packet) : List Int := if p.head.hasPad then List.replicate (p.pad.toNat - 1) 0 ++ [p.pad] else []
def encP (p : Packet) : List Int := encX p ++ (p.payload ++ padB p)
def extN (p : Packet) : Int := if p.head.hasExt then 4 + p.ext.length else 0
def padN (p : Packet) : Int := if p.head.hasPad then p.pad else 0
def sizeP (p : Packet) : Int := 12 + 4 * p.head.csrc.length + extN p + p.payload.length + padN p
def ExtOk (p : Packet) : Prop := if p.head.hasExt then p.ext.length % 4 = 0 ∧ p.ext.length ≤ 262140 else p.profile = 0 ∧ p.ext.length = 0
def PadOk (p : Packet) : Prop := if p.head.hasPad then 1 ≤ p.pad ∧ p.pad ≤ 255 else p.pad = 0
instance (p : Packet) : Decidable (ExtOk p) := by unfold ExtOk; exact inferInstance
instance (p : Packet) : Decidable (PadOk p) := by unfold PadOk; exact inferInstance
def RightP (p : Packet) : Prop := RightH p.head ∧ ExtOk p ∧ PadOk p ∧ p.payload.length ≤ 65535 ∧ sizeP p ≤ 65535
instance (p : Packet) : Decidable (RightP p) := inferInstanceAs (Decidable (_ ∧ _))

theorem padN_in {p : Packet} (h : PadOk p) : 0 ≤ padN p ∧ padN p ≤ 255 ∧ p.pad = padN p := by
  unfold PadOk at h; unfold padN
  split at h <;> rename_i hh <;> simp [hh] <;> omega

theorem extended_eq {p : Packet} (hl : p.ext.length ≤ 1000000) : packet_extended p = decide (ExtOk p) := by
  unfold packet_extended
  cases hx : p.head.hasExt
  · rw [if_pos (by rfl), Bool.eq_iff_iff]
    simp only [cm_eql, Bool.and_eq_true, decide_eq_true_eq, ExtOk, hx, Bool.false_eq_true, if_false]
    omega
  · rw [if_neg (by simp), Bool.eq_iff_iff, dv_rem (by omega), dv_quo (by omega), w_i64 (by omega) (by omega)]
    simp only [cm_eql, cm_leq, Bool.and_eq_true, decide_eq_true_eq, ExtOk, hx, if_true]
    omega
theorem padded_eq {p : Packet} : packet_padded p = decide (PadOk p) := by
  unfold packet_padded
  cases hx : p.head.hasPad
  · rw [if_pos (by rfl), Bool.eq_iff_iff]
    simp only [cm_eql, decide_eq_true_eq, PadOk, hx, Bool.false_eq_true, if_false]
  · rw [if_neg (by simp), Bool.eq_iff_iff]
    simp only [cm_geq, cm_leq, Bool.and_eq_true, decide_eq_true_eq, PadOk, hx, if_true]

structure ShortP (p : Packet) : Prop where
  c : p.head.csrc.length ≤ 99
  e : p.ext.length ≤ 300000
  y : p.payload.length ≤ 70000
theorem short_eq {p : Packet} : ref06_Short p = true ↔ ShortP p := by
  simp only [ref06_Short, cm_leq, Bool.and_eq_true, decide_eq_true_eq]
  constructor
  · rintro ⟨⟨h1, h2⟩, h3⟩; exact ⟨by omega, by omega, by omega⟩
  · rintro ⟨h1, h2, h3⟩; exact ⟨⟨by omega, by omega⟩, by omega⟩

theorem total_eq {p : Packet} (hs : ShortP p) (hr : RightH p.head) (hx : ExtOk p) (hp : PadOk p) : packet_total p = sizeP p := by
  have h1 := hs.c; have h2 := hs.e; have h3 := hs.y
  obtain ⟨q1, q2, q3⟩ := padN_in hp
  unfold packet_total packet_total_j1 sizeP extN
  rw [headSize_eq hr]
  have e0 : ar .add .i64 (ar .add .i64 (ar .add .i64 (12 + 4 * (p.head.csrc.length : Int)) (p.ext.length : Int)) (p.payload.length : Int)) p.pad = 12 + 4 * (p.head.csrc.length : Int) + p.ext.length + p.payload.length + padN p := by
    rw [q3]
    rw [ar_add (x := 12 + 4 * (p.head.csrc.length : Int)), w_i64 (by omega) (by omega), ar_add (y := (p.payload.length : Int)), w_i64 (by omega) (by omega), ar_add, w_i64 (by omega) (by omega)]
  rw [e0]
  cases hxx : p.head.hasExt
  · simp only [Bool.false_eq_true, if_false]
    unfold ExtOk at hx; rw [hxx] at hx; simp at hx
    simp [hx]
  · simp only [if_true]
    rw [ar_add, w_i64 (by omega) (by omega)]; omega

theorem right_eq {p : Packet} (hs : ShortP p) : packet_Right p = decide (RightP p) := by
  unfold packet_Right
  rw [headRight_eq, extended_eq (by have := hs.e; omega), padded_eq, cm_leq, cm_leq]
  by_cases h : RightH p.head ∧ ExtOk p ∧ PadOk p
  · rw [total_eq hs h.1 h.2.1 h.2.2, Bool.eq_iff_iff, decide_eq_true_iff (p := RightP p)]
    simp only [Bool.and_eq_true, decide_eq_true_eq]
    constructor
    · rintro ⟨⟨⟨⟨a, b⟩, c⟩, d⟩, e⟩; exact ⟨a, b, c, by omega, e⟩
    · rintro ⟨a, b, c, d, e⟩; exact ⟨⟨⟨⟨a, b⟩, c⟩, by omega⟩, e⟩
  · rw [Bool.eq_iff_iff, decide_eq_true_iff (p := RightP p)]
    simp only [Bool.and_eq_true, decide_eq_true_eq]
    constructor
    · rintro ⟨⟨⟨⟨a, b⟩, c⟩, d⟩, e⟩; exact absurd ⟨a, b, c⟩ h
    · rintro ⟨a, b, c, d, e⟩; exact absurd ⟨a, b, c⟩ h

theorem size_eq {p : Packet} (hs : ShortP p) : packet_Size p = if RightP p then sizeP p else 0 := by
  unfold packet_Size
  rw [right_eq hs]
  by_cases h : RightP p
  · rw [decide_eq_true h, if_neg (by decide), if_pos h, total_eq hs h.1 h.2.1 h.2.2.1]
  · rw [decide_eq_false h, if_pos (by decide), if_neg h]

theorem refSize_eq {p : Packet} (hs : ShortP p) (hp : PadOk p) : ref06_Size p = sizeP p := by
  have h1 := hs.c; have h2 := hs.e; have h3 := hs.y
  obtain ⟨q1, q2, q3⟩ := padN_in hp
  have a3 : ∀ x y : Int, 0 ≤ x → x ≤ 1000000 → 0 ≤ y → y ≤ 1000000 → ar .add .i64 x y = x + y := fun x y _ _ _ _ => by rw [ar_add, w_i64 (by omega) (by omega)]
  have m : ar .mul .i64 4 (p.head.csrc.length : Int) = 4 * p.head.csrc.length := by rw [ar_mul, w_i64 (by omega) (by omega)]
  unfold ref06_Size ref06_Size_j1 ref06_Size_j2 sizeP extN padN
  unfold padN at q1 q2 q3
  rw [m, a3 12 _ (by omega) (by omega) (by omega) (by omega), a3 _ (p.payload.length : Int) (by omega) (by omega) (by omega) (by omega), a3 _ 4 (by omega) (by omega) (by omega) (by omega), a3 _ (p.ext.length : Int) (by omega) (by omega) (by omega) (by omega)]
  cases hx : p.head.hasExt <;> cases hp : p.head.hasPad <;> simp only [if_true, if_false, Bool.false_eq_true, hp] at q1 q2 q3 ⊢
  · omega
  · rw [a3 _ _ (by omega) (by omega) (by omega) (by omega)]; omega
  · omega
  · rw [a3 _ _ (by omega) (by omega) (by omega) (by omega)]; omega

theorem refRight_eq {p : Packet} (hs : ShortP p) : ref06_Right p = decide (RightP p) := by
  have h2 := hs.e
  unfold ref06_Right
  rw [refHRight_eq, dv_rem (by omega), cm_gtr, cm_gtr, cm_neq, cm_neq, cm_gtr, cm_lss, cm_gtr, cm_neq, cm_leq]
  by_cases h1 : RightH p.head ∧ p.payload.length ≤ 65535 ∧ p.ext.length ≤ 262140 ∧ p.ext.length % 4 = 0
  · rw [if_neg (by simp only [decide_eq_true h1.1, Bool.not_true, Bool.false_or, Bool.or_eq_true, decide_eq_true_eq, Bool.not_eq_true', decide_eq_false_iff_not]; omega)]
    by_cases h3 : ExtOk p
    · rw [if_neg (by unfold ExtOk at h3; cases hx : p.head.hasExt <;> simp [hx] at h3 ⊢; simp [h3])]
      by_cases h4 : PadOk p
      · rw [if_neg (by unfold PadOk at h4; cases hx : p.head.hasPad <;> simp [hx] at h4 ⊢ <;> omega), refSize_eq hs h4]
        exact decide_eq_decide.2 ⟨fun h => ⟨h1.1, h3, h4, h1.2.1, h⟩, fun h => h.2.2.2.2⟩
      · rw [if_pos (by unfold PadOk at h4; cases hx : p.head.hasPad <;> simp only [hx, if_true, if_false, Bool.false_eq_true] at h4 <;> simp <;> omega)]
        exact (decide_eq_false fun h => h4 h.2.2.1).symm
    · rw [if_pos (by unfold ExtOk at h3; cases hx : p.head.hasExt <;> simp only [hx, if_true, if_false, Bool.false_eq_true] at h3 <;> simp <;> omega)]
      exact (decide_eq_false fun h => h3 h.2.1).symm
  · rw [if_pos (by
      by_cases hr : RightH p.head
      · have h1' : ¬ (p.payload.length ≤ 65535 ∧ p.ext.length ≤ 262140 ∧ p.ext.length % 4 = 0) := fun h => h1 ⟨hr, h⟩
        simp only [decide_eq_true hr, Bool.not_true, Bool.false_or, Bool.or_eq_true, decide_eq_true_eq, Bool.not_eq_true', decide_eq_false_iff_not]; omega
      · simp [hr])]
    refine (decide_eq_false fun h => h1 ⟨h.1, h.2.2.2.1, ?_⟩).symm
    have hx := h.2.1
    unfold ExtOk at hx
    split at hx <;> omega

/-! writing -/
theorem extB_len (p : Packet) : ((extB p).length : Int) = extN p := by
  unfold extB extN
  split <;> simp [beN_len] <;> omega
theorem padB_len {p : Packet} (h : PadOk p) : ((padB p).length : Int) = padN p := by
  obtain ⟨q1, q2, q3⟩ := padN_in h
  unfold PadOk at h; unfold padB padN
  split at h <;> rename_i hh <;> simp [hh]; omega
theorem encP_len {p : Packet} (h : RightP p) : ((encP p).length : Int) = sizeP p := by
  unfold encP encX sizeP
  have h1 := extB_len p
  have h2 := padB_len h.2.2.1
  simp only [List.length_append, encH_len, Int.natCast_add] at *
  omega
theorem oct_extB {p : Packet} (hg : GoodP p) : oct (extB p) := by
  unfold extB
  split
  · exact oct_app (oct_be _ _) (oct_app (oct_be _ _) hg.ext)
  · intro x hx; cases hx
theorem oct_padB {p : Packet} (h : PadOk p) : oct (padB p) := by
  obtain ⟨q1, q2, q3⟩ := padN_in h
  unfold padB
  split
  · refine oct_app (fun x hx => ?_) fun x hx => ?_
    · rw [List.eq_of_mem_replicate hx]; omega
    · rw [List.mem_singleton.1 hx]; omega
  · intro x hx; cases hx
theorem oct_encP {p : Packet} (hg : GoodP p) (hr : RightP p) : oct (encP p) :=
  oct_app (oct_app (oct_encH hr.1) (oct_extB hg)) (oct_app hg.pay (oct_padB hr.2.2.1))

theorem write_eq {p : Packet} (hg : GoodP p) (hs : ShortP p) (room : Int) : packet_Write none p room = some (if RightP p then (if sizeP p > room then ([], 7) else (encP p, 0)) else ([], 1)) := by
  unfold packet_Write
  rw [right_eq hs]
  by_cases h : RightP p
  · have h1 := hs.c; have h2 := hs.e; have h3 := hs.y
    rw [decide_eq_true h, if_neg (by decide), if_pos h, total_eq hs h.1 h.2.1 h.2.2.1]
    by_cases hroom : sizeP p > room
    · rw [if_pos (by rw [cm_gtr]; simpa using hroom), if_pos hroom]
    · rw [if_neg (by rw [cm_gtr]; simpa using hroom), if_neg hroom, bnd (headWrite_eq hg.h h.1)]
      have tail : packet_Write_j1 none p (encX p) = some (encP p, 0) := by
        have hl1 : (encX p).length ≤ 400000 := by
          unfold encX
          have := extB_len p
          have : extN p ≤ 300004 := by unfold extN; split <;> omega
          rw [List.length_append, encH_len]; omega
        unfold packet_Write_j1 packet_Write_j2
        rw [bnd (app_some (by omega))]
        have hp := h.2.2.1
        unfold encP padB
        unfold PadOk at hp
        cases hx : p.head.hasPad
        · simp
        · rw [hx] at hp; simp only [if_true] at hp ⊢
          rw [bnd (padAdd_eq (by rw [List.length_append]; omega) hp.1 hp.2)]
          simp
      have hx := h.2.1
      unfold ExtOk at hx
      cases hxx : p.head.hasExt
      · simp only [Bool.false_eq_true, if_false]
        have : encX p = encH p.head := by unfold encX extB; simp [hxx]
        rw [← this]; exact tail
      · rw [hxx] at hx; simp only [if_true] at hx ⊢
        have e1 : dv .quo .i64 (p.ext.length : Int) 4 = ((p.ext.length / 4 : Nat) : Int) := by rw [dv_quo (by omega), w_i64 (by omega) (by omega)]; omega
        rw [bnd (put2_eq hg.pr.1 hg.pr.2), e1, bnd (put2_eq (by omega) (by omega))]
        have hj : octet_Join none [encH p.head, beN 2 p.profile, beN 2 ((p.ext.length / 4 : Nat) : Int), p.ext] = some (encX p) := by
          unfold octet_Join
          have : [encH p.head, beN 2 p.profile, beN 2 ((p.ext.length / 4 : Nat) : Int), p.ext].flatten = encX p := by
            unfold encX extB; simp [hxx]
          rw [bnd (concat_eq (by simp) (by rw [this]; unfold encX; have := extB_len p; unfold extN at this; rw [hxx] at this; simp only [if_true] at this; rw [List.length_append, encH_len]; omega)), this]
        rw [bnd hj]
        exact tail
  · rw [decide_eq_false h, if_pos (by decide), if_neg h]

theorem refWrite_eq {p : Packet} (hg : GoodP p) (hs : ShortP p) (h : RightP p) : ref06_Write none p = some (encP p) := by
  have h1 := hs.c; have h2 := hs.e; have h3 := hs.y
  unfold ref06_Write
  rw [bnd (refHWrite_eq hg.h h.1)]
  have hl1 : (encX p).length ≤ 400000 := by
    unfold encX
    have := extB_len p
    have : extN p ≤ 300004 := by unfold extN; split <;> omega
    rw [List.length_append, encH_len]; omega
  have tail : ref06_Write_j1 none p (encX p) = some (encP p) := by
    unfold ref06_Write_j1 ref06_Write_j2
    rw [bnd (app_some (by omega))]
    have hp := h.2.2.1
    unfold encP padB
    unfold PadOk at hp
    cases hx : p.head.hasPad
    · simp
    · rw [hx] at hp; simp only [if_true] at hp ⊢
      rw [bnd (refAdd_eq (by rw [List.length_append]; omega) hp.1 hp.2)]
      simp
  have hx := h.2.1
  unfold ExtOk at hx
  cases hxx : p.head.hasExt
  · simp only [Bool.false_eq_true, if_false]
    have : encX p = encH p.head := by unfold encX extB; simp [hxx]
    rw [← this]; exact tail
  · rw [hxx] at hx; simp only [if_true] at hx ⊢
    have hpr := hg.pr
    have e1 : dv .quo .i64 (p.ext.length : Int) 4 = ((p.ext.length / 4 : Nat) : Int) := by rw [dv_quo (by omega), w_i64 (by omega) (by omega)]; omega
    have m1 : ref01_Must none (IntKind.u64.wrap p.profile) 2 = some (beN 2 p.profile) := by rw [w_u64 (by omega) (by omega)]; exact rmust_eq (n := 2) hpr.1 (by omega) (by omega) (by omega) (by omega)
    have m2 : ref01_Must none (IntKind.u64.wrap ((p.ext.length / 4 : Nat) : Int)) 2 = some (beN 2 ((p.ext.length / 4 : Nat) : Int)) := by rw [w_u64 (by omega) (by omega)]; exact rmust_eq (n := 2) (by omega) (by omega) (by omega) (by omega) (by omega)
    have hL := encH_len p.head
    rw [bnd m1, bnd (app_some (by rw [beN_len]; omega)), e1, bnd m2, bnd (app_some (by rw [List.length_append, beN_len, beN_len]; omega)), bnd (app_some (by rw [List.length_append, List.length_append, beN_len, beN_len]; omega))]
    have : encH p.head ++ beN 2 p.profile ++ beN 2 ((p.ext.length / 4 : Nat) : Int) ++ p.ext = encX p := by unfold encX extB; simp [hxx]
    rw [this]; exact tail
end Xb
