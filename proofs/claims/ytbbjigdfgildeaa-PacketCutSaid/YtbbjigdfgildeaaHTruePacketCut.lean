/- Own text: HTruePacketCut. -/
import Derived.Test.YtbbjigdfgildeaaHTruePacketBack
set_option linter.all false
set_option linter.unusedVariables false
set_option linter.unusedSimpArgs false
set_option linter.unnecessarySimpa false
set_option linter.deprecated false
namespace Xb
open Go

theorem b0_take {b : List Int} {k : Nat} (hk : 1 ≤ k) : b0 (b.take k) = b0 b := by
  unfold b0
  rw [List.getD_eq_getElem?_getD, List.getD_eq_getElem?_getD, List.getElem?_take, if_pos (by omega)]

/-- what cut bytes are -/
theorem cut_err {p : Packet} (hg : GoodP p) (hr : RightP p) {k : Nat} (hk : k < (encP p).length) :
    (errP ((encP p).take k) = 0 ∨ errP ((encP p).take k) = 2 ∨ errP ((encP p).take k) = 5) ∧ (k < 12 → errP ((encP p).take k) = 2) := by
  have hl := encP_len hr
  have hsz := hr.2.2.2.2
  have hkl : ((encP p).take k).length = k := by rw [List.length_take]; omega
  have hne : ¬ ((encP p).take k).length > 65535 := by omega
  by_cases h12 : k < 12
  · have h2 : headE ((encP p).take k) = 2 := by unfold headE; rw [if_pos (by omega)]
    have : errP ((encP p).take k) = 2 := by
      unfold errP
      rw [if_neg hne, if_pos (by rw [h2]; decide), h2]
    exact ⟨.inr (.inl this), fun _ => this⟩
  · refine ⟨?_, fun h => absurd h h12⟩
    obtain ⟨hE, _⟩ := dec_enc hg hr
    have hb0 := (headE_len hE.head).2
    have hh : headE ((encP p).take k) = 0 ∨ headE ((encP p).take k) = 2 := by
      unfold headE
      rw [b0_take (by omega), if_neg (by omega), if_neg (by simp [hb0])]
      split
      · exact .inr rfl
      · exact .inl rfl
    unfold errP
    rw [if_neg hne]
    rcases hh with hh | hh
    · rw [if_neg (by simp [hh])]
      split
      · exact .inr (.inl rfl)
      · split
        · exact .inr (.inr rfl)
        · exact .inl rfl
    · rw [if_pos (by rw [hh]; decide), hh]
      exact .inr (.inl rfl)

theorem oct_encT {p : Packet} (hg : GoodP p) (hr : RightP p) {t : List Int} (ht : oct t) : oct (encP p ++ t) := oct_app (oct_encP hg hr) ht

theorem packetCut_true {p : Packet} {cut : Int} {more : List Int} (hp : wf_Packet p) (hc : inK .u16 cut) (hm : more.length ≤ maxLen ∧ ∀ x, x ∈ more → inK .u8 x) : law06_PacketCut none p cut more = some true := by
  have hm' := octs hm
  have hg := goodP_of hp
  have hc' := in_u16.1 hc
  unfold law06_PacketCut
  by_cases h : ref06_Short p = true ∧ more.length ≤ 3000 ∧ p.payload.length ≤ 3000 ∧ p.ext.length ≤ 3000
  · have hs := short_eq.1 h.1
    have hcs := hs.c
    rw [if_neg (by rw [h.1, cm_gtr, cm_gtr, cm_gtr]; simp; omega), bnd (write_eq hg hs _)]
    by_cases hr : RightP p
    · have hl := encP_len hr
      have hsz := hr.2.2.2.2
      have hpn := padN_in hr.2.2.1
      have hsz2 : sizeP p ≤ 10000 := by
        unfold sizeP extN
        have := hr.1.2.2
        split <;> omega
      have hen : 0 ≤ extN p := by unfold extN; split <;> omega
      have hsz3 : 12 ≤ sizeP p := by unfold sizeP; omega
      rw [if_pos hr, if_neg (show ¬ sizeP p > 65535 by omega)]
      have c0 : cm .neq (0 : Int) 0 = false := by decide
      have c1 : cm .eql (0 : Int) 0 = true := by decide
      have c2 : cm .eql ((encP p).length : Int) 0 = false := by rw [cm_eql]; exact decide_eq_false (by omega)
      simp only [c0, c2]
      rw [if_neg (by decide), w_i64 (by omega) (by omega), dvO_nz (by omega), dv_rem (by omega), Option.bind_some]
      have hk1 := Int.emod_nonneg cut (b := ((encP p).length : Int)) (by omega)
      have hk2 := Int.emod_lt_of_pos cut (b := ((encP p).length : Int)) (by omega)
      obtain ⟨k, hk⟩ : ∃ k : Nat, cut % ((encP p).length : Int) = k := ⟨(cut % ((encP p).length : Int)).toNat, by omega⟩
      rw [hk] at hk1 hk2 ⊢
      have hsub : sub (encP p) 0 (k : Int) = some ((encP p).take k) := by
        rw [sub_some (by omega) (by omega) (by omega)]
        simp
      have hot := oct_take (oct_encP hg hr) k
      have hkl : ((encP p).take k).length = k := by rw [List.length_take]; omega
      rw [bnd hsub, bnd (packetRead_eq hot (by omega))]
      obtain ⟨he1, he2⟩ := cut_err hg hr (k := k) (by omega)
      have first : ∃ x5, (gT (cm .eql (readP ((encP p).take k)).2 0) (ref06_Same none p (readP ((encP p).take k)).1)) = some x5 ∧
          (((cm .eql (readP ((encP p).take k)).2 0) && (x5 || (cm .neq (packet_Size (readP ((encP p).take k)).1) (k : Int)))) || (((cm .neq (readP ((encP p).take k)).2 0) && (cm .neq (readP ((encP p).take k)).2 2)) && (cm .neq (readP ((encP p).take k)).2 5))) = false := by
        unfold readP
        by_cases h0 : errP ((encP p).take k) = 0
        · have hE := errP_of h0
          obtain ⟨g2, r2, s2⟩ := goodP_dec hot hE
          have hne : p ≠ decP ((encP p).take k) := fun e => by rw [← e] at s2; omega
          rw [if_pos h0]
          simp only [c0, c1, gTT, Bool.true_and, Bool.false_and, Bool.or_false]
          refine ⟨_, sameP_eq hg g2 (by omega), ?_⟩
          rw [decide_eq_false hne, size_dec hot hE, hkl, cm_neq]
          simp
        · rw [if_neg h0]
          have e1 : cm .eql (errP ((encP p).take k)) 0 = false := by rw [cm_eql]; exact decide_eq_false h0
          simp only [e1, gTF, Bool.false_and, Bool.false_or]
          refine ⟨_, rfl, ?_⟩
          rcases he1 with he | he | he
          · exact absurd he h0
          · rw [he]; decide
          · rw [he]; decide
      obtain ⟨x5, hx5, hcond⟩ := first
      rw [bnd hx5, hcond, if_neg (by decide)]
      have second : ((cm .lss (k : Int) 12) && (cm .neq (readP ((encP p).take k)).2 2)) = false := by
        by_cases h12 : k < 12
        · have := he2 h12
          unfold readP
          rw [if_neg (by omega)]
          simp only [this]
          have : cm .neq (2 : Int) 2 = false := by decide
          rw [this, Bool.and_false]
        · have : cm .lss (k : Int) 12 = false := by rw [cm_lss]; exact decide_eq_false (by omega)
          rw [this, Bool.false_and]
      rw [second, if_neg (by decide), bnd (app_some (l := []) (m := encP p) (by simp; omega)), List.nil_append, bnd (app_some (by omega))]
      have hml := h.2.1
      have hlt : (encP p ++ more).length ≤ 65535 := by rw [List.length_append]; omega
      have hom := oct_encT hg hr hm'
      rw [bnd (packetRead_eq hom (by omega))]
      by_cases hm0 : more = []
      · subst hm0
        rw [if_pos (by decide), List.append_nil]
        obtain ⟨hE, hdec⟩ := dec_enc hg hr
        have hrd : readP (encP p) = (p, 0) := by unfold readP; rw [of_errP hE, if_pos rfl, hdec]
        rw [hrd]
        simp only [c1, gTT]
        rw [bnd (sameP_eq hg hg (by omega))]
        simp
      · have hml0 : 1 ≤ more.length := by
          have := List.length_pos_iff.2 hm0; omega
        rw [if_neg (by rw [cm_eql]; simp [hm0])]
        have e : encP p ++ more = encX p ++ ((p.payload ++ padB p) ++ more) := by unfold encP; simp
        have herr := err_enc hg hr ((p.payload ++ padB p) ++ more) (by rw [← e]; exact hlt)
        rw [← e] at herr
        unfold readP
        by_cases h0 : errP (encP p ++ more) = 0
        · have hE := errP_of h0
          obtain ⟨g2, r2, s2⟩ := goodP_dec hom hE
          have hne : p ≠ decP (encP p ++ more) := fun e => by rw [← e, List.length_append] at s2; omega
          rw [if_pos h0]
          simp only [c1, gTT]
          rw [bnd (sameP_eq hg g2 (by omega)), decide_eq_false hne]
          simp
        · rw [if_neg h0]
          have e1 : cm .eql (errP (encP p ++ more)) 0 = false := by rw [cm_eql]; exact decide_eq_false h0
          simp only [e1, gTF, Option.bind_some, Bool.false_and, Bool.false_or]
          by_cases hcond2 : p.head.hasPad = true ∧ trN ((p.payload ++ padB p) ++ more) = 0
          · rw [if_pos hcond2] at herr
            rw [herr, hcond2.1]
            rfl
          · rw [if_neg hcond2] at herr
            exact absurd herr h0
    · rw [if_neg hr]
      have c0 : cm .neq (1 : Int) 0 = true := by decide
      simp only [c0, Bool.true_or]
      rw [if_pos trivial]
  · rw [if_pos (by
      rw [cm_gtr, cm_gtr, cm_gtr]
      by_cases h1 : ref06_Short p = true
      · have : ¬ (more.length ≤ 3000 ∧ p.payload.length ≤ 3000 ∧ p.ext.length ≤ 3000) := fun h2 => h ⟨h1, h2⟩
        rw [h1]
        simp only [Bool.not_true, Bool.false_or, Bool.or_eq_true, decide_eq_true_eq]
        omega
      · simp only [Bool.not_eq_true] at h1
        rw [h1]; rfl)]
end Xb
