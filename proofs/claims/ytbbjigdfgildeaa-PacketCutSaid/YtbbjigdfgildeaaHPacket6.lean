/- Own text: HPacket6. -/
import Derived.Test.YtbbjigdfgildeaaHPacket5
set_option linter.all false
set_option linter.unusedVariables false
set_option linter.unusedSimpArgs false
set_option linter.unnecessarySimpa false
set_option linter.deprecated false
namespace Xb
open Go

theorem oct_split {b : List Int} (hb : oct b) (h : ErrP b) : (bodyOf b).take ((bodyOf b).length - (padOf b).toNat) ++ (bodyOf b).drop ((bodyOf b).length - (padOf b).toNat) = bodyOf b := List.take_append_drop _ _

theorem last_tr {l : List Int} (h : 0 < trN l) : ∃ m, l = m ++ [trN l] := by
  unfold trN at h ⊢
  by_cases h0 : l.length = 0
  · rw [if_pos h0] at h; omega
  · rw [if_neg h0] at h ⊢
    have hne : l ≠ [] := fun e => h0 (by rw [e]; rfl)
    by_cases h1 : l.getD (l.length - 1) 0 > l.length
    · rw [if_pos h1] at h; omega
    · rw [if_neg h1]
      refine ⟨l.dropLast, ?_⟩
      have : l.getD (l.length - 1) 0 = l.getLast hne := by
        rw [List.getLast_eq_getElem, List.getD_eq_getElem?_getD, List.getElem?_eq_getElem (by omega)]
        rfl
      rw [this, List.dropLast_concat_getLast]

/-- a trailer is clean just if it is what is written -/
theorem clean_iff {l : List Int} (hl : oct l) (h : 0 < trN l) : cleanS l = true ↔ l.drop (l.length - (trN l).toNat) = List.replicate ((trN l).toNat - 1) 0 ++ [trN l] := by
  have hin := trN_in hl
  unfold cleanS allZ
  rw [decide_eq_true h, Bool.true_and, decide_eq_true_iff]
  obtain ⟨m, hm⟩ := last_tr h
  have hml : m.length + 1 = l.length := by have := congrArg List.length hm; simp at this; omega
  generalize hn : trN l = n at *
  have hd : l.drop (l.length - n.toNat) = m.drop (l.length - n.toNat) ++ [n] := by
    conv => lhs; rw [hm]
    rw [List.drop_append_of_le_length (by simp; omega)]
    congr 2
    rw [← hm]
  have ht : (l.drop (l.length - n.toNat)).take (n.toNat - 1) = m.drop (l.length - n.toNat) := by
    rw [hd]
    apply List.take_left'
    rw [List.length_drop]; omega
  rw [ht, hd]
  constructor
  · intro hz
    congr 1
    exact List.eq_replicate_iff.2 ⟨by rw [List.length_drop]; omega, hz⟩
  · intro he y hy
    have := List.append_inj_left' he rfl
    rw [this] at hy
    exact List.eq_of_mem_replicate hy

theorem canon_iff {b : List Int} (hb : oct b) (h : ErrP b) : canonS b = true ↔ encP (decP b) = b := by
  obtain ⟨hg, hr, hs⟩ := goodP_dec hb h
  have hob := oct_body hb
  have hpi := pad_in hb
  unfold canonS
  rw [of_errP h]
  have e1 : encP (decP b) = b ↔ (decP b).payload ++ padB (decP b) = bodyOf b := by
    unfold encP
    conv => lhs; rhs; rw [← encX_dec hb h]
    exact ⟨fun e => List.append_cancel_left e, fun e => by rw [e]⟩
  rw [e1]
  have e2 : (decP b).payload = (bodyOf b).take ((bodyOf b).length - (padOf b).toNat) := rfl
  have e3 : bodyOf b = (bodyOf b).take ((bodyOf b).length - (padOf b).toNat) ++ (bodyOf b).drop ((bodyOf b).length - (padOf b).toNat) := (List.take_append_drop _ _).symm
  have e4 : (decP b).payload ++ padB (decP b) = bodyOf b ↔ padB (decP b) = (bodyOf b).drop ((bodyOf b).length - (padOf b).toNat) := by
    rw [e2]
    conv => lhs; rhs; rw [e3]
    exact ⟨fun e => List.append_cancel_left e, fun e => by rw [e]⟩
  rw [e4]
  cases hpp : hp b
  · have hpo : padOf b = 0 := by unfold padOf; simp [hpp]
    have hpf : (decP b).head.hasPad = false := hpp
    unfold padB
    rw [hpf, hpo]
    simp
  · have hpo : padOf b = trN (bodyOf b) := by unfold padOf; simp [hpp]
    have hpt : (decP b).head.hasPad = true := hpp
    have hne := h.pad hpp
    have hpos : 0 < trN (bodyOf b) := by omega
    have hpd : (decP b).pad = trN (bodyOf b) := hpo
    unfold padB
    rw [hpt, hpd, hpo, if_pos rfl]
    have : decide (trN (bodyOf b) = 0) = false := decide_eq_false hne
    rw [this]
    simp only [decide_true, Bool.true_and, Bool.false_or]
    rw [clean_iff hob hpos]
    exact ⟨fun e => e.symm, fun e => e.symm⟩

/-! what is written is read -/
theorem enc_fields {p : Packet} (hg : GoodP p) (hr : RightP p) (t : List Int) :
    headE (encX p ++ t) = 0 ∧ decH (encX p ++ t) = p.head ∧ nC (encX p ++ t) = p.head.csrc.length ∧ restOf (encX p ++ t) = extB p ++ t ∧ (hx (encX p ++ t) = true → extE (extB p ++ t) = 0 ∧ extW (extB p ++ t) = p.ext.length ∧ numB (seg (extB p ++ t) 0 2) = p.profile ∧ seg (extB p ++ t) 4 p.ext.length = p.ext) ∧
      bodyOf (encX p ++ t) = t := by
  have e : encX p ++ t = encH p.head ++ (extB p ++ t) := by unfold encX; rw [List.append_assoc]
  have h1 : headE (encX p ++ t) = 0 := by rw [e]; exact headE_enc hr.1 _
  have h2 : decH (encX p ++ t) = p.head := by rw [e]; exact decH_enc hg.h hr.1 _
  have h3 : nC (encX p ++ t) = p.head.csrc.length := by rw [e]; exact nC_enc hr.1 _
  have h4 : restOf (encX p ++ t) = extB p ++ t := by
    unfold restOf
    rw [h3, e]
    exact List.drop_left' (encH_len _)
  have hxe : hx (encX p ++ t) = p.head.hasExt := by unfold hx; rw [h2]
  have hext := hr.2.1
  have h5 : hx (encX p ++ t) = true → extE (extB p ++ t) = 0 ∧ extW (extB p ++ t) = p.ext.length ∧ numB (seg (extB p ++ t) 0 2) = p.profile ∧ seg (extB p ++ t) 4 p.ext.length = p.ext := by
    intro hh
    rw [hxe] at hh
    unfold ExtOk at hext
    rw [hh] at hext
    simp only [if_true] at hext
    have eb : extB p ++ t = beN 2 p.profile ++ (beN 2 ((p.ext.length / 4 : Nat) : Int) ++ (p.ext ++ t)) := by unfold extB; rw [hh]; simp
    have s0 : seg (extB p ++ t) 0 2 = beN 2 p.profile := by rw [eb, seg_take (beN_len _ _)]
    have s2 : seg (extB p ++ t) 2 2 = beN 2 ((p.ext.length / 4 : Nat) : Int) := by rw [eb, seg_skip (k := 2) (i := 0) (beN_len _ _), seg_take (beN_len _ _)]
    have s4 : seg (extB p ++ t) 4 p.ext.length = p.ext := by rw [eb, seg_skip (k := 2) (i := 2) (beN_len _ _), seg_skip (k := 2) (i := 0) (beN_len _ _), seg_take rfl]
    have hpr := hg.pr
    have w : extW (extB p ++ t) = p.ext.length := by
      unfold extW
      rw [s2, num_be 2 _ (by omega) (by omega)]
      omega
    refine ⟨?_, w, by rw [s0, num_be 2 _ hpr.1 (by omega)], s4⟩
    have hlen : (extB p ++ t).length = 4 + p.ext.length + t.length := by rw [eb]; simp [beN_len]; omega
    unfold extE
    rw [if_neg (by omega), w, if_neg (by omega)]
  refine ⟨h1, h2, h3, h4, h5, ?_⟩
  unfold bodyOf
  rw [h4]
  split
  · rename_i hh
    obtain ⟨_, w, _, _⟩ := h5 hh
    rw [w]
    apply List.drop_left'
    have := extB_len p
    rw [hxe] at hh
    unfold extN at this
    rw [hh] at this
    simp only [if_true] at this
    omega
  · rename_i hh
    rw [hxe] at hh
    unfold extB
    rw [if_neg hh]; rfl

theorem err_enc {p : Packet} (hg : GoodP p) (hr : RightP p) (t : List Int) (hl : (encX p ++ t).length ≤ 65535) : errP (encX p ++ t) = if p.head.hasPad ∧ trN t = 0 then 5 else 0 := by
  obtain ⟨h1, h2, h3, h4, h5, h6⟩ := enc_fields hg hr t
  unfold errP hp
  rw [if_neg (by omega), if_neg (by simpa using h1), h4, if_neg (fun hh => hh.2 (h5 hh.1).1), h6, h2]

theorem dec_enc {p : Packet} (hg : GoodP p) (hr : RightP p) : ErrP (encP p) ∧ decP (encP p) = p := by
  obtain ⟨h1, h2, h3, h4, h5, h6⟩ := enc_fields hg hr (p.payload ++ padB p)
  have hlen := encP_len hr
  have hsz := hr.2.2.2.2
  have hpad := hr.2.2.1
  obtain ⟨q1, q2, q3⟩ := padN_in hpad
  have hxe : hx (encP p) = p.head.hasExt := by unfold hx encP; rw [h2]
  have hpe : hp (encP p) = p.head.hasPad := by unfold hp encP; rw [h2]
  have ht : p.head.hasPad = true → trN (p.payload ++ padB p) = p.pad := by
    intro hh
    unfold PadOk at hpad; rw [hh] at hpad; simp only [if_true] at hpad
    unfold padB; rw [hh]; simp only [if_true]
    rw [← List.append_assoc]
    exact trN_snoc hpad.1 (by simp; omega)
  have hbody : bodyOf (encP p) = p.payload ++ padB p := h6
  have hE : ErrP (encP p) := by
    refine ⟨by omega, h1, fun hh => ?_, fun hh => ?_⟩
    · have := (h5 hh).1
      rw [← h4] at this; exact this
    · rw [hpe] at hh
      rw [hbody, ht hh]
      unfold PadOk at hpad; rw [hh] at hpad; simp only [if_true] at hpad; omega
  refine ⟨hE, ?_⟩
  have hpo : padOf (encP p) = p.pad := by
    unfold padOf
    rw [hpe, hbody]
    cases hh : p.head.hasPad
    · unfold PadOk at hpad; rw [hh] at hpad; simp at hpad; simp [hpad]
    · simp only [if_true]; exact ht hh
  have hpl := padB_len hpad
  have e1 : (decP (encP p)).head = p.head := h2
  have e5 : (decP (encP p)).pad = p.pad := hpo
  have e4 : (decP (encP p)).payload = p.payload := by
    show (bodyOf (encP p)).take ((bodyOf (encP p)).length - (padOf (encP p)).toNat) = _
    rw [hbody, hpo]
    apply List.take_left'
    rw [List.length_append]; omega
  have hr4 : restOf (encP p) = extB p ++ (p.payload ++ padB p) := h4
  have e2 : (decP (encP p)).profile = p.profile := by
    show (if hx (encP p) = true then numB (seg (restOf (encP p)) 0 2) else 0) = _
    split
    · rename_i hh; rw [hr4]; exact (h5 hh).2.2.1
    · rename_i hh
      rw [hxe] at hh
      have := hr.2.1
      unfold ExtOk at this; rw [if_neg hh] at this
      exact this.1.symm
  have e3 : (decP (encP p)).ext = p.ext := by
    show (if hx (encP p) = true then seg (restOf (encP p)) 4 (extW (restOf (encP p))) else []) = _
    split
    · rename_i hh; rw [hr4, (h5 hh).2.1]; exact (h5 hh).2.2.2
    · rename_i hh
      rw [hxe] at hh
      have := hr.2.1
      unfold ExtOk at this; rw [if_neg hh] at this
      exact (List.length_eq_zero_iff.1 this.2).symm
  generalize decP (encP p) = q at *
  cases q; cases p
  simp only at e1 e2 e3 e4 e5
  simp [e1, e2, e3, e4, e5]
theorem canon_enc {p : Packet} (hg : GoodP p) (hr : RightP p) : canonS (encP p) = true := by
  obtain ⟨h1, h2⟩ := dec_enc hg hr
  rw [canon_iff (oct_encP hg hr) h1, h2]

theorem goodZ : GoodP zeroP := ⟨⟨by decide, by decide, by decide, by decide, by simp [zeroP, zeroH]⟩, by decide, by simp [oct, zeroP], by simp [oct, zeroP]⟩
theorem goodR {b : List Int} (hb : oct b) : GoodP (readP b).1 := by
  unfold readP
  split
  · exact (goodP_dec hb (errP_of ‹_›)).1
  · exact goodZ
theorem csR {b : List Int} (hb : oct b) : (readP b).1.head.csrc.length ≤ 1000000 := by
  unfold readP
  split
  · have := (short_dec hb (errP_of ‹_›)).c
    show (decP b).head.csrc.length ≤ _; omega
  · simp [zeroP, zeroH]
end Xb
