/- Own text: HPacket5. -/
import Derived.Test.YtbbjigdfgildeaaHPacket4
set_option linter.all false
set_option linter.unusedVariables false
set_option linter.unusedSimpArgs false
set_option linter.unnecessarySimpa false
set_option linter.deprecated false
namespace Xb
open Go

theorem seg_restOf {b : List Int} (h : 12 + 4 * nC b ≤ b.length) (i n : Nat) : seg (restOf b) i n = seg b (12 + 4 * nC b + i) n := by
  simp only [seg, restOf, List.drop_drop]

theorem refRead_eq {b : List Int} (hb : oct b) (hl : b.length ≤ 100000) : ref06_Read none b = some (readP b) := by
  unfold ref06_Read readP
  by_cases h1 : b.length > 65535
  · have he : errP b = 4 := by unfold errP; rw [if_pos h1]
    rw [if_pos (by rw [cm_gtr]; simp; omega), he, if_neg (by decide)]; rfl
  · rw [if_neg (by rw [cm_gtr]; simp; omega), bnd (refHRead_eq hb hl)]
    unfold readH
    by_cases h2 : headE b = 0
    · obtain ⟨hlen, _⟩ := headE_len h2
      have hn16 : nC b ≤ 15 := by unfold nC; omega
      rw [if_pos h2]
      have c0 : cm .neq (0 : Int) 0 = false := by decide
      simp only [c0]
      rw [if_neg (by decide)]
      have hrlen : (restOf b).length = b.length - (12 + 4 * nC b) := by unfold restOf; rw [List.length_drop]
      have fin : ∀ (v2 : Nat) (p5 v4 : Packet), (hx b = true → extE (restOf b) = 0) → b.drop v2 = bodyOf b → v2 ≤ b.length → p5 = { decP b with pad := 0, payload := [] } →
          ref06_Read_j1 none b (decH b, 12 + 4 * (nC b : Int), 0) (v2 : Int) v4 p5 = some (if errP b = 0 then (decP b, 0) else (zeroP, errP b)) := by
        rintro v2 p5 v4 hext hdrop hv2 rfl
        have hbl : (bodyOf b).length = b.length - v2 := by rw [← hdrop, List.length_drop]
        have hob := oct_body hb
        have ht := trN_in hob
        unfold ref06_Read_j1
        have hnx : ¬ (hx b = true ∧ extE (restOf b) ≠ 0) := fun hh => hh.2 (hext hh.1)
        have j2 : ∀ (v6 v7 : Packet), v7 = { decP b with payload := [] } → ref06_Read_j2 none b (v2 : Int) v6 v7 = some (decP b, 0) := by
          rintro v6 v7 rfl
          have hpo : 0 ≤ padOf b ∧ padOf b ≤ (bodyOf b).length := by unfold padOf; split <;> omega
          unfold ref06_Read_j2
          have e : ar .sub .i64 (b.length : Int) (padOf b) = (b.length : Int) - padOf b := by rw [ar_sub, w_i64 (by omega) (by omega)]
          show Option.bind (sub b (v2 : Int) (ar .sub .i64 (b.length : Int) (padOf b))) _ = _
          rw [e, bnd (sub_some (by omega) (by omega) (by omega)), Int.toNat_natCast, hdrop]
          have e2 : ((b.length : Int) - padOf b).toNat - v2 = (bodyOf b).length - (padOf b).toNat := by omega
          rw [e2, bnd (app_some (by simp; omega))]
          rfl
        cases hpp : hp b
        · have hpf : (decH b).hasPad = false := hpp
          have hpo : padOf b = 0 := by unfold padOf; simp [hpp]
          have he : errP b = 0 := by unfold errP; rw [if_neg h1, if_neg (by simpa using h2), if_neg hnx, if_neg (by simp [hpp])]
          rw [if_neg (show ¬ (decH b).hasPad = true by rw [hpf]; decide), j2 _ _ (by unfold decP; simp [hpo]), he, if_pos rfl]
        · have hpt : (decH b).hasPad = true := hpp
          have hpo : padOf b = trN (bodyOf b) := by unfold padOf; simp [hpp]
          have hsub : sub b (v2 : Int) (b.length : Int) = some (bodyOf b) := by
            rw [sub_some (by omega) (by omega) (by omega)]
            simp only [Int.toNat_natCast, hdrop]
            congr 1
            apply List.take_of_length_le
            omega
          rw [if_pos (show (decH b).hasPad = true from hpt), bnd hsub, bnd (refTrail_eq hob (by omega))]
          by_cases h0 : trN (bodyOf b) = 0
          · have he : errP b = 5 := by unfold errP; rw [if_neg h1, if_neg (by simpa using h2), if_neg hnx, if_pos ⟨hpp, h0⟩]
            rw [if_pos (by rw [cm_eql]; simp [h0]), he, if_neg (by decide)]; rfl
          · have he : errP b = 0 := by unfold errP; rw [if_neg h1, if_neg (by simpa using h2), if_neg hnx, if_neg (fun hh => h0 hh.2)]
            rw [if_neg (by rw [cm_eql]; simp [h0]), j2 _ _ (by unfold decP; simp [hpo]), he, if_pos rfl]
      cases hxx : hx b
      · have hxf : (decH b).hasExt = false := hxx
        have hbo : bodyOf b = restOf b := by unfold bodyOf; simp [hxx]
        rw [if_neg (show ¬ (decH b).hasExt = true by rw [hxf]; decide)]
        have := fin (12 + 4 * nC b) (Packet.mk (decH b) 0 [] [] 0) (Packet.mk (Head.mk false false false 0 0 0 0 []) 0 [] [] 0) (fun h => by rw [hxx] at h; cases h) (by rw [hbo]; rfl) hlen (by unfold decP; simp [hxx])
        simpa using this
      · have hxt : (decH b).hasExt = true := hxx
        rw [if_pos (show (decH b).hasExt = true from hxt)]
        have e1 : ar .sub .i64 (b.length : Int) (12 + 4 * (nC b : Int)) = ((restOf b).length : Int) := by rw [ar_sub, w_i64 (by omega) (by omega)]; omega
        have e2 : ar .sub .i64 ((restOf b).length : Int) 4 = ((restOf b).length : Int) - 4 := by rw [ar_sub, w_i64 (by omega) (by omega)]
        have e3 : ar .add .i64 (12 + 4 * (nC b : Int)) 2 = ((12 + 4 * nC b + 2 : Nat) : Int) := by rw [ar_add, w_i64 (by omega) (by omega)]; omega
        have e4 : ar .add .i64 (12 + 4 * (nC b : Int)) 4 = ((12 + 4 * nC b + 4 : Nat) : Int) := by rw [ar_add, w_i64 (by omega) (by omega)]; omega
        simp only [e1, e2, e3, e4]
        by_cases h4 : (restOf b).length < 4
        · have hee : extE (restOf b) = 2 := by unfold extE; rw [if_pos h4]
          have he : errP b = 2 := by unfold errP; rw [if_neg h1, if_neg (by simpa using h2), if_pos ⟨hxx, by rw [hee]; decide⟩]
          rw [if_pos (by rw [cm_lss]; simp; omega), he, if_neg (by decide)]; rfl
        · have n2 := num_in2 (oct_seg (oct_rest hb) 2 2) (seg_len (b := restOf b) (i := 2) (n := 2) (by omega))
          have n1 := num_in2 (oct_seg (oct_rest hb) 0 2) (seg_len (b := restOf b) (i := 0) (n := 2) (by omega))
          have m2 : ref05_Num none b ((12 + 4 * nC b + 2 : Nat) : Int) 2 = some (numB (seg (restOf b) 2 2)) := by
            rw [seg_restOf hlen]
            exact rnum_eq (n := 2) (by omega) (by omega) hb (by omega) (by omega)
          have m1 : ref05_Num none b (12 + 4 * (nC b : Int)) 2 = some (numB (seg (restOf b) 0 2)) := by
            rw [seg_restOf hlen]
            have := rnum_eq (b := b) (at_ := 12 + 4 * nC b) (n := 2) (by omega) (by omega) hb (by omega) (by omega)
            simpa using this
          have eW : ar .mul .i64 4 (IntKind.i64.wrap (numB (seg (restOf b) 2 2))) = ((extW (restOf b) : Nat) : Int) := by
            rw [w_i64 (by omega) (by omega), ar_mul, w_i64 (by omega) (by omega)]; unfold extW; omega
          have hW := extW_in (oct_rest hb) (by omega)
          rw [if_neg (by rw [cm_lss]; simp; omega), bnd m2]
          simp only [eW]
          by_cases h5 : (restOf b).length - 4 < extW (restOf b)
          · have hee : extE (restOf b) = 2 := by unfold extE; rw [if_neg h4, if_pos h5]
            have he : errP b = 2 := by unfold errP; rw [if_neg h1, if_neg (by simpa using h2), if_pos ⟨hxx, by rw [hee]; decide⟩]
            rw [if_pos (by rw [cm_lss]; simp; omega), he, if_neg (by decide)]; rfl
          · have hee : extE (restOf b) = 0 := by unfold extE; rw [if_neg h4, if_neg h5]
            have e5 : ar .add .i64 ((12 + 4 * nC b + 4 : Nat) : Int) ((extW (restOf b) : Nat) : Int) = ((12 + 4 * nC b + 4 + extW (restOf b) : Nat) : Int) := by rw [ar_add, w_i64 (by omega) (by omega)]; omega
            have hsub : sub b ((12 + 4 * nC b + 4 : Nat) : Int) ((12 + 4 * nC b + 4 + extW (restOf b) : Nat) : Int) = some (seg (restOf b) 4 (extW (restOf b))) := by
              rw [sub_some (by omega) (by omega) (by omega), seg_restOf hlen]
              simp only [seg, Int.toNat_natCast]
              congr 2
              omega
            rw [if_neg (by rw [cm_lss]; simp; omega), bnd m1]
            simp only [e5]
            rw [bnd hsub, bnd (app_some (by rw [seg_len (by omega)]; simp; omega)), w_u16 n1.1 n1.2]
            exact fin _ _ _ (fun _ => hee) (by unfold bodyOf restOf; simp only [hxx, if_true, List.drop_drop]; congr 1; omega) (by omega) (by unfold decP; simp [hxx])
    · rw [if_neg h2]
      have hc : cm .neq (headE b) 0 = true := by rw [cm_neq]; simp [h2]
      have he : errP b = headE b := by unfold errP; rw [if_neg h1, if_pos h2]
      simp only [hc]
      rw [if_pos trivial, he, if_neg h2]; rfl

/-! what is read is right -/
theorem pad_in {b : List Int} (hb : oct b) : 0 ≤ padOf b ∧ padOf b ≤ (bodyOf b).length := by
  have := trN_in (oct_body hb)
  unfold padOf; split <;> omega
theorem trN_byte {l : List Int} (hl : oct l) : trN l ≤ 255 := by
  unfold trN
  split
  · omega
  · rename_i h
    have : l.getD (l.length - 1) 0 ∈ l := by
      have hi : l.length - 1 < l.length := by omega
      simp [List.getD, hi]
    have := hl _ this
    split <;> omega
structure ErrP (b : List Int) : Prop where
  len : b.length ≤ 65535
  head : headE b = 0
  ext : hx b = true → extE (restOf b) = 0
  pad : hp b = true → trN (bodyOf b) ≠ 0
theorem errP_of {b : List Int} (h : errP b = 0) : ErrP b := by
  unfold errP at h
  have h1 : ¬ b.length > 65535 := fun hh => by rw [if_pos hh] at h; cases h
  rw [if_neg h1] at h
  have h2 : headE b = 0 := by
    refine Classical.byContradiction fun hh => ?_
    rw [if_pos hh] at h; exact hh h
  rw [if_neg (by simpa using h2)] at h
  have h3 : ¬ (hx b = true ∧ extE (restOf b) ≠ 0) := fun hh => by rw [if_pos hh] at h; cases h
  rw [if_neg h3] at h
  have h4 : ¬ (hp b = true ∧ trN (bodyOf b) = 0) := fun hh => by rw [if_pos hh] at h; cases h
  exact ⟨by omega, h2, fun hh => Classical.byContradiction fun hn => h3 ⟨hh, hn⟩, fun hh hn => h4 ⟨hh, hn⟩⟩
theorem of_errP {b : List Int} (h : ErrP b) : errP b = 0 := by
  have := h.len
  unfold errP
  rw [if_neg (by omega), if_neg (by simpa using h.head), if_neg (fun hh => hh.2 (h.ext hh.1)), if_neg (fun hh => h.pad hh.1 hh.2)]

theorem ext_lens {b : List Int} (h : ErrP b) : extN (decP b) + (bodyOf b).length = (restOf b).length ∧ extB (decP b) = (restOf b).take ((restOf b).length - (bodyOf b).length) ∨ ¬ oct b := by
  by_cases hb : oct b
  · left
    unfold extN extB bodyOf
    cases hxx : hx b
    · have hxf : (decP b).head.hasExt = false := hxx
      rw [hxf]; simp
    · have hxt : (decP b).head.hasExt = true := hxx
      have h4 := extE_len (h.ext hxx)
      have ho := oct_rest hb
      have hW := extW_in ho (by omega)
      rw [hxt]
      simp only [if_true]
      have e1 : (decP b).ext = seg (restOf b) 4 (extW (restOf b)) := by unfold decP; simp [hxx]
      have e2 : (decP b).profile = numB (seg (restOf b) 0 2) := by unfold decP; simp [hxx]
      have l1 : (seg (restOf b) 4 (extW (restOf b))).length = extW (restOf b) := seg_len (by omega)
      refine ⟨by rw [e1, l1, List.length_drop]; omega, ?_⟩
      rw [e1, e2, l1, List.length_drop]
      have q1 : beN 2 (numB (seg (restOf b) 0 2)) = seg (restOf b) 0 2 := by
        have := be_num (seg (restOf b) 0 2) (oct_seg ho _ _)
        rw [seg_len (by omega)] at this; exact this
      have q2 : beN 2 ((extW (restOf b) / 4 : Nat) : Int) = seg (restOf b) 2 2 := by
        have n2 := num_in2 (oct_seg ho 2 2) (seg_len (b := restOf b) (i := 2) (n := 2) (by omega))
        have := be_num (seg (restOf b) 2 2) (oct_seg ho _ _)
        rw [seg_len (by omega)] at this
        have e : ((extW (restOf b) / 4 : Nat) : Int) = numB (seg (restOf b) 2 2) := by unfold extW; omega
        rw [e]; exact this
      rw [q1, q2]
      have step : ∀ (r : List Int) (i n m : Nat), seg r i (n + m) = seg r i n ++ seg r (i + n) m := by
        intro r i n m
        simp only [seg]
        rw [List.take_add, List.drop_drop]
      have : (restOf b).take ((restOf b).length - ((restOf b).length - (4 + extW (restOf b)))) = seg (restOf b) 0 (2 + (2 + extW (restOf b))) := by
        simp only [seg, List.drop_zero]; congr 1; omega
      rw [this, step _ 0 2, step _ 2 2]
  · exact .inr hb

theorem encX_dec {b : List Int} (hb : oct b) (h : ErrP b) : encX (decP b) ++ bodyOf b = b := by
  obtain ⟨h1, h2⟩ := (ext_lens h).resolve_right (fun hn => hn hb)
  unfold encX
  have e1 : encH (decP b).head = b.take (12 + 4 * nC b) := encH_dec hb h.head
  have e3 : (restOf b).drop ((restOf b).length - (bodyOf b).length) = bodyOf b := by
    unfold bodyOf
    split
    · have h4 := extE_len (h.ext ‹_›)
      rw [List.length_drop]; congr 1; omega
    · simp
  rw [e1, h2, List.append_assoc]
  conv => lhs; rhs; rhs; rw [← e3]
  rw [List.take_append_drop]
  exact List.take_append_drop _ b

theorem goodP_dec {b : List Int} (hb : oct b) (h : ErrP b) : GoodP (decP b) ∧ RightP (decP b) ∧ sizeP (decP b) = b.length := by
  obtain ⟨hlen, _⟩ := headE_len h.head
  obtain ⟨gh, rh⟩ := goodH_dec hb hlen
  have hpi := pad_in hb
  have ho := oct_rest hb
  have hob := oct_body hb
  have hlb := h.len
  obtain ⟨h1, h2⟩ := (ext_lens h).resolve_right (fun hn => hn hb)
  have hxl := congrArg List.length (encX_dec hb h)
  have hel := extB_len (decP b)
  have hbl : (bodyOf b).length ≤ b.length := by have := hxl; rw [List.length_append] at this; omega
  have hcs : (decP b).head.csrc.length = nC b := nC_csrc hlen
  have hpl : (decP b).payload.length = (bodyOf b).length - (padOf b).toNat := by
    show ((bodyOf b).take ((bodyOf b).length - (padOf b).toNat)).length = _
    rw [List.length_take]; omega
  have hpn : padN (decP b) = padOf b := by
    unfold padN
    show (if (decH b).hasPad = true then padOf b else 0) = padOf b
    unfold padOf hp
    split <;> simp_all
  have hext : ExtOk (decP b) := by
    unfold ExtOk
    cases hxx : hx b
    · have hxf : (decP b).head.hasExt = false := hxx
      rw [hxf]
      simp only [Bool.false_eq_true, if_false]
      unfold decP; simp [hxx]
    · have hxt : (decP b).head.hasExt = true := hxx
      have h4 := extE_len (h.ext hxx)
      have hW := extW_in ho (by omega)
      have e1 : (decP b).ext = seg (restOf b) 4 (extW (restOf b)) := by unfold decP; simp [hxx]
      have l1 : (seg (restOf b) 4 (extW (restOf b))).length = extW (restOf b) := seg_len (by omega)
      rw [hxt]
      simp only [if_true]
      rw [e1, l1]
      exact ⟨by unfold extW; omega, hW⟩
  have hpad : PadOk (decP b) := by
    unfold PadOk
    cases hpp : hp b
    · have hpf : (decP b).head.hasPad = false := hpp
      rw [hpf]
      simp only [Bool.false_eq_true, if_false]
      show padOf b = 0
      unfold padOf; simp [hpp]
    · have hpt : (decP b).head.hasPad = true := hpp
      rw [hpt]
      simp only [if_true]
      have e : padOf b = trN (bodyOf b) := by unfold padOf; simp [hpp]
      have hne := h.pad hpp
      have hbt := trN_byte hob
      show 1 ≤ padOf b ∧ padOf b ≤ 255
      omega
  have hsz : sizeP (decP b) = b.length := by
    unfold sizeP
    rw [hcs, hpl, hpn]
    unfold encX at hxl
    simp only [List.length_append, encH_len, hcs] at hxl
    omega
  refine ⟨⟨gh, ?_, ?_, fun x hx' => hob x (List.mem_of_mem_take hx')⟩, ⟨rh, hext, hpad, by omega, by omega⟩, hsz⟩
  · show 0 ≤ (if hx b = true then numB (seg (restOf b) 0 2) else 0) ∧ (if hx b = true then numB (seg (restOf b) 0 2) else 0) ≤ 65535
    split
    · have h4 := extE_len (h.ext ‹_›)
      exact num_in2 (oct_seg ho _ _) (seg_len (by omega))
    · omega
  · show oct (if hx b = true then seg (restOf b) 4 (extW (restOf b)) else [])
    split
    · exact oct_seg ho _ _
    · intro x hx'; cases hx'

theorem short_dec {b : List Int} (hb : oct b) (h : ErrP b) : ShortP (decP b) := by
  obtain ⟨_, hr, _⟩ := goodP_dec hb h
  have h1 := hr.1.2.2; have h2 := hr.2.1; have h3 := hr.2.2.2.1
  refine ⟨by omega, ?_, by omega⟩
  unfold ExtOk at h2
  split at h2 <;> omega
end Xb
