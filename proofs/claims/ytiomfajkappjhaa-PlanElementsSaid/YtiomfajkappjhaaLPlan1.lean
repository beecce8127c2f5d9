/- Own text: LPlan1. -/
import Derived.Test.YtiomfajkappjhaaMath2
import Derived.Test.YtiomfajkappjhaaLModels
import Derived.Test.YtiomfajkappjhaaLWf
set_option linter.all false
set_option linter.unusedVariables false
set_option linter.unusedSimpArgs false
set_option linter.unnecessarySimpa false
set_option linter.deprecated false
/-! Packets that are right; plans of single numbers. -/
namespace Xb
open Go

theorem samePs {a : Packet} (hl : a.head.csrc.length ≤ 1000000) : ref06_Same none a a = some true := by
  have hb : ∀ x : Bool, bq .eql x x = true := by decide
  have hc : ∀ x : Int, cm .eql x x = true := fun x => by rw [cm_eql]; simp
  have hn : ref05_Numbers none a.head.csrc a.head.csrc = some true := by
    unfold ref05_Numbers
    rw [if_neg (by rw [cm_neq]; simp)]
    unfold ref05_Numbers_l1
    have := find_loop (l := a.head.csrc) (step := fun s => ref05_Numbers_s1 none a.head.csrc a.head.csrc s) (p := fun _ => false) (hit := fun _ => false) (miss := true) (by
      show ref05_Numbers_s1 none _ _ _ = _
      unfold ref05_Numbers_s1
      rw [if_neg (by rw [cm_lss]; simp)]; rfl) (fun i hi => by
      show ref05_Numbers_s1 none _ _ (i : Int) = _
      unfold ref05_Numbers_s1
      rw [if_pos (by rw [cm_lss]; simpa using hi), bnd (ix_some (n := i) rfl hi), bnd (ix_some (n := i) rfl hi), if_neg (by rw [cm_neq]; simp), if_neg (by decide), ar_add, w_i64 (by omega) (by omega)]
      rfl)
    rw [this]
    congr 1
    have : a.head.csrc.findIdx? (fun _ => false) = none := by rw [List.findIdx?_eq_none_iff]; intros; rfl
    rw [this]
  unfold ref06_Same ref05_Same
  simp only [hb, hc, Bool.and_self, gTT]
  rw [hn]
  simp only [Option.bind_some, Bool.and_self, sc_self]

/-- what a packet's being right hangs on -/
theorem right_cong {a b : Packet} (h1 : head_Right a.head = head_Right b.head) (h2 : a.head.hasExt = b.head.hasExt) (h3 : a.head.hasPad = b.head.hasPad) (h4 : a.head.csrc = b.head.csrc) (h5 : a.profile = b.profile) (h6 : a.ext = b.ext) (h7 : a.payload = b.payload) (h8 : a.pad = b.pad) :
    packet_Right a = packet_Right b := by
  unfold packet_Right packet_extended packet_padded packet_total head_Size
  rw [h1, h2, h3, h4, h5, h6, h7, h8]

theorem right_parts {a : Packet} (h : packet_Right a = true) : head_Right a.head = true ∧ a.head.csrc.length ≤ 15 ∧ a.payload.length ≤ 65535 ∧ (0 ≤ a.head.type ∧ a.head.type ≤ 127) := by
  unfold packet_Right at h
  simp only [Bool.and_eq_true, cm_leq, decide_eq_true_eq] at h
  have h1 := h.1.1.1.1
  unfold head_Right at h1
  simp only [Bool.and_eq_true, cm_leq, cm_geq, decide_eq_true_eq] at h1
  refine ⟨h.1.1.1.1, by omega, by omega, h1.1.1, h1.1.2⟩

theorem head_right {h : Head} (h1 : 0 ≤ h.type) (h2 : h.type ≤ 127) (h3 : h.csrc.length ≤ 15) : head_Right h = true := by
  unfold head_Right
  simp only [Bool.and_eq_true, cm_leq, cm_geq, decide_eq_true_eq]
  omega

/-- single numbers -/
def OneP (p : Plan) : Prop := p.maps = [] ∧ p.over = [] ∧ p.drops = [] ∧ p.adds = []
def behS (p : Plan) (k : Packet) : Packet :=
  { k with head := { k.head with hasPad := if p.noPad then false else k.head.hasPad, marker := if p.setMarker then p.marker else k.head.marker, type := if p.setType then p.type else k.head.type, seq := if p.setSeq then p.seq else k.head.seq, time := if p.setTime then p.time else k.head.time, ssrc := if p.setSsrc then p.ssrc else k.head.ssrc }, pad := if p.noPad then 0 else k.pad }

theorem set_eq (p : Plan) (h : Head) : plan_set p h = { h with marker := if p.setMarker then p.marker else h.marker, type := if p.setType then p.type else h.type, seq := if p.setSeq then p.seq else h.seq, time := if p.setTime then p.time else h.time, ssrc := if p.setSsrc then p.ssrc else h.ssrc } := by
  obtain ⟨q1, q2, q3, q4, q5, q6, q7, q8, q9, q10, q11, q12, q13, q14, q15⟩ := p
  unfold plan_set plan_set_j1 plan_set_j2 plan_set_j3 plan_set_j4 plan_set_j5
  cases q1 <;> cases q3 <;> cases q5 <;> cases q7 <;> cases q9 <;> rfl

theorem oneRight {p : Plan} (h : OneP p) : plan_Right none p = some (plan_single p) := by
  obtain ⟨h1, h2, h3, h4⟩ := h
  have i1 : plan_ids_Map_f0 none [] = some [] := by
    unfold plan_ids_Map_f0 plan_ids_Map_f0_l1
    refine loop_inr ?_
    unfold plan_ids_Map_f0_s1; rw [if_neg (by decide)]; rfl
  have i2 : plan_ids_Map_f1 none [] = some [] := by
    unfold plan_ids_Map_f1 plan_ids_Map_f1_l1
    refine loop_inr ?_
    unfold plan_ids_Map_f1_s1; rw [if_neg (by decide)]; rfl
  have i3 : plan_ids_Elem_f0 none [] = some [] := by
    unfold plan_ids_Elem_f0 plan_ids_Elem_f0_l1
    refine loop_inr ?_
    unfold plan_ids_Elem_f0_s1; rw [if_neg (by decide)]; rfl
  have i4 : plan_apart none [] = some true := by
    unfold plan_apart plan_apart_l1
    refine loop_inr ?_
    unfold plan_apart_s1; rw [if_neg (by decide)]; rfl
  have i5 : elem_Right none [] = some true := by
    unfold elem_Right elem_Right_l1
    refine loop_inr ?_
    unfold elem_Right_s1; rw [if_neg (by decide)]; rfl
  have i6 : ∀ f, slices_ContainsFunc_int none [] f = some false := fun f => by
    unfold slices_ContainsFunc_int slices_IndexFunc_int slices_IndexFunc_int_l1
    have : loopG none (fun (s : Int) => slices_IndexFunc_int_s1 none [] f s) 0 = some (-1) := by
      refine loop_inr ?_
      unfold slices_IndexFunc_int_s1; rw [if_neg (by decide)]; rfl
    rw [bnd this]; rfl
  unfold plan_Right
  rw [h1, h2, h3, h4]
  cases hs : plan_single p with
  | false => simp only [Bool.not_false, Bool.not_true, gTF, Option.bind_some, Bool.true_or, if_true]
  | true =>
    simp only [Bool.not_true, Bool.not_false, gTT, i1, Option.bind_some, i4, Bool.or_self, i2, i5]
    rw [if_neg (by decide), i3]
    simp only [Option.bind_some]
    rw [bnd (app_some (by simp))]
    rw [bnd (i6 _)]; rfl

theorem clone_eq {l : List Int} (h : l.length ≤ 4294967296) : slices_Clone l = some l := by
  unfold slices_Clone; rw [app_some (by simpa using h)]; rfl
theorem clone2_eq {l : List Int} (h : l.length ≤ 4294967296) : slices_Clone2 l = some l := by
  unfold slices_Clone2; rw [app_some (by simpa using h)]; rfl
theorem own_eq {k : Packet} (h1 : k.head.csrc.length ≤ 4294967296) (h2 : k.ext.length ≤ 4294967296) (h3 : k.payload.length ≤ 4294967296) : plan_own k = some k := by
  unfold plan_own
  rw [bnd (clone2_eq h1), bnd (clone_eq h2), bnd (clone_eq h3)]

def zeroP : Packet := ⟨⟨false, false, false, 0, 0, 0, 0, []⟩, 0, [], [], 0⟩
theorem apply_one {p : Plan} (h : OneP p) {k : Packet} (h1 : k.head.csrc.length ≤ 4294967296) (h2 : k.ext.length ≤ 4294967296) (h3 : k.payload.length ≤ 4294967296) :
    plan_Apply none p k = some (if packet_Right k = true then (if plan_single p = true ∧ packet_Right (behS p k) = true then (behS p k, 0) else (zeroP, 9)) else (zeroP, 1)) := by
  have hE : plan_Elements p = false := by
    obtain ⟨h1, h2, h3, h4⟩ := h
    unfold plan_Elements plan_turns
    rw [h1, h2, h3, h4]; rfl
  have hb : plan_behind none p k = some (if packet_Right k = true ∧ plan_single p = true then (behS p k, packet_Right (behS p k)) else (k, false)) := by
    unfold plan_behind
    cases hr : packet_Right k with
    | false => simp only [Bool.not_false, Bool.not_true, gTF, Option.bind_some, Bool.true_or, if_true, Bool.false_eq_true, false_and, if_false]
    | true =>
      simp only [Bool.not_true, Bool.not_false, gTT, oneRight h, Option.bind_some, Bool.false_or]
      cases hs : plan_single p with
      | false => simp
      | true =>
        rw [if_neg (by decide), hE, if_neg (by decide), if_pos (by simp)]
        unfold plan_behind_j1 plan_behind_j2
        rw [set_eq]
        cases hn : p.noPad with
        | false =>
          rw [if_neg (by decide)]
          have : behS p k = { k with head := { k.head with marker := if p.setMarker then p.marker else k.head.marker, type := if p.setType then p.type else k.head.type, seq := if p.setSeq then p.seq else k.head.seq, time := if p.setTime then p.time else k.head.time, ssrc := if p.setSsrc then p.ssrc else k.head.ssrc } } := by
            unfold behS; rw [hn]; rfl
          rw [this, Bool.true_and]
        | true =>
          rw [if_pos rfl]
          have : behS p k = { k with head := { k.head with hasPad := false, marker := if p.setMarker then p.marker else k.head.marker, type := if p.setType then p.type else k.head.type, seq := if p.setSeq then p.seq else k.head.seq, time := if p.setTime then p.time else k.head.time, ssrc := if p.setSsrc then p.ssrc else k.head.ssrc }, pad := 0 } := by
            unfold behS; rw [hn]; rfl
          rw [this, Bool.true_and]
  unfold plan_Apply
  rw [bnd hb]
  cases hr : packet_Right k with
  | false => simp [zeroP]
  | true =>
    cases hs : plan_single p with
    | false => simp [zeroP]
    | true =>
      rw [if_pos (show true = true ∧ true = true from ⟨rfl, rfl⟩)]
      cases hq : packet_Right (behS p k) with
      | false => rfl
      | true =>
        have ho : plan_own (behS p k) = some (behS p k) := own_eq h1 h2 h3
        rw [if_neg (by decide), if_neg (show ¬ (!true) = true by decide)]
        simp only []
        rw [bnd ho]; rfl
end Xb
