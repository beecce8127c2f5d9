/- Own text: HPacket4. -/
import Derived.Test.YtbbjigdfgildeaaHPacket3
set_option linter.all false
set_option linter.unusedVariables false
set_option linter.unusedSimpArgs false
set_option linter.unnecessarySimpa false
set_option linter.deprecated false
namespace Xb
open Go

/-! reading -/
def restOf (b : List Int) : List Int := b.drop (12 + 4 * nC b)
def extW (r : List Int) : Nat := 4 * (numB (seg r 2 2)).toNat
def extE (r : List Int) : Int := if r.length < 4 then 2 else if r.length - 4 < extW r then 2 else 0
def hx (b : List Int) : Bool := (decH b).hasExt
def hp (b : List Int) : Bool := (decH b).hasPad
def bodyOf (b : List Int) : List Int := if hx b then (restOf b).drop (4 + extW (restOf b)) else restOf b
def padOf (b : List Int) : Int := if hp b then trN (bodyOf b) else 0
def errP (b : List Int) : Int :=
  if b.length > 65535 then 4 else if headE b ≠ 0 then headE b else if hx b ∧ extE (restOf b) ≠ 0 then 2 else if hp b ∧ trN (bodyOf b) = 0 then 5 else 0
def decP (b : List Int) : Packet :=
  ⟨decH b, if hx b then numB (seg (restOf b) 0 2) else 0, if hx b then seg (restOf b) 4 (extW (restOf b)) else [], (bodyOf b).take ((bodyOf b).length - (padOf b).toNat), padOf b⟩
def zeroP : Packet := Packet.mk zeroH 0 [] [] 0
def readP (b : List Int) : Packet × Int := if errP b = 0 then (decP b, 0) else (zeroP, errP b)

theorem oct_rest {b : List Int} (hb : oct b) : oct (restOf b) := oct_drop hb _
theorem oct_body {b : List Int} (hb : oct b) : oct (bodyOf b) := by
  unfold bodyOf; split
  · exact oct_drop (oct_rest hb) _
  · exact oct_rest hb
theorem headE_len {b : List Int} (h : headE b = 0) : 12 + 4 * nC b ≤ b.length ∧ b0 b / 64 = 2 := by
  unfold headE at h
  have h1 : ¬ b.length < 12 := fun hh => by rw [if_pos hh] at h; cases h
  rw [if_neg h1] at h
  have h2 : b0 b / 64 = 2 := by
    refine Classical.byContradiction fun hh => ?_
    rw [if_pos hh] at h; cases h
  rw [if_neg (by simpa using h2)] at h
  have h3 : ¬ b.length < 12 + 4 * nC b := fun hh => by rw [if_pos hh] at h; cases h
  exact ⟨by omega, h2⟩
theorem headE_cases (b : List Int) : headE b = 0 ∨ headE b = 2 ∨ headE b = 3 := by
  unfold headE; split
  · exact .inr (.inl rfl)
  · split
    · exact .inr (.inr rfl)
    · split
      · exact .inr (.inl rfl)
      · exact .inl rfl
theorem extE_len {r : List Int} (h : extE r = 0) : 4 + extW r ≤ r.length := by
  unfold extE at h
  have h1 : ¬ r.length < 4 := fun hh => by rw [if_pos hh] at h; cases h
  rw [if_neg h1] at h
  have h2 : ¬ r.length - 4 < extW r := fun hh => by rw [if_pos hh] at h; cases h
  omega
theorem extE_cases (r : List Int) : extE r = 0 ∨ extE r = 2 := by
  unfold extE; split
  · exact .inr rfl
  · split
    · exact .inr rfl
    · exact .inl rfl
theorem extW_in {r : List Int} (hr : oct r) (h4 : 4 ≤ r.length) : extW r ≤ 262140 := by
  have := num_in2 (oct_seg hr 2 2) (seg_len (b := r) (i := 2) (n := 2) (by omega))
  unfold extW; omega

theorem part_eq {b : List Int} {at_ n : Nat} (hl : b.length ≤ 1000000) (h : at_ + n ≤ b.length) : octet_Part b at_ n = some (seg b at_ n, 0) := by
  unfold octet_Part octet_Part_j1
  have c1 : cm .lss (n : Int) 0 = false := by rw [cm_lss]; exact decide_eq_false (by omega)
  have c2 : cm .lss (at_ : Int) 0 = false := by rw [cm_lss]; exact decide_eq_false (by omega)
  have ht : octet_there b at_ n = true := by rw [there_eq (by omega) (by omega)]; simp; omega
  rw [c1, if_neg (by decide), c2, if_neg (by decide), ht, if_neg (by decide), ar_add, w_i64 (by omega) (by omega), bnd (sub_some (by omega) (by omega) (by omega))]
  have e : ((at_ : Int) + n).toNat - (at_ : Int).toNat = n := by omega
  rw [e, Int.toNat_natCast]
  have hc : slices_Clone (List.take n (List.drop at_ b)) = some (seg b at_ n) := by
    unfold slices_Clone
    rw [app_some (by simp; omega)]
    rfl
  rw [bnd hc]
theorem part_short {b : List Int} {at_ n : Nat} (hl : b.length ≤ 1000000) (h : b.length < at_ + n) : octet_Part b at_ n = some ([], 2) := by
  unfold octet_Part octet_Part_j1
  have c1 : cm .lss (n : Int) 0 = false := by rw [cm_lss]; exact decide_eq_false (by omega)
  have c2 : cm .lss (at_ : Int) 0 = false := by rw [cm_lss]; exact decide_eq_false (by omega)
  have ht : octet_there b at_ n = false := by rw [there_eq (by omega) (by omega)]; simp; omega
  rw [c1, if_neg (by decide), c2, if_neg (by decide), ht, if_pos (by decide)]

theorem extension_eq {r : List Int} (hr : oct r) (hl : r.length ≤ 100000) : packet_extension none r = some (if extE r = 0 then (numB (seg r 0 2), seg r 4 (extW r), r.drop (4 + extW r), 0) else (0, [], [], 2)) := by
  unfold packet_extension
  have g1 : ∃ u, octet_Get none r 0 2 = some u ∧ (4 ≤ r.length → u = (numB (seg r 0 2), 0)) := by
    by_cases h : 2 ≤ r.length
    · exact ⟨_, get_eq (at_ := 0) (n := 2) (by omega) (by omega) hr (by omega) (by omega), fun _ => rfl⟩
    · exact ⟨_, get_short (at_ := 0) (n := 2) (by omega) (by omega) (by omega) (by omega), fun h4 => absurd h4 (by omega)⟩
  obtain ⟨u, hu, hu4⟩ := g1
  rw [bnd hu]
  unfold extE
  by_cases h4 : r.length < 4
  · have g2 : octet_Get none r 2 2 = some (0, 2) := get_short (at_ := 2) (n := 2) (by omega) (by omega) (by omega) (by omega)
    rw [bnd g2, if_pos (by decide), if_pos h4, if_neg (by decide)]
  · have g2 : octet_Get none r 2 2 = some (numB (seg r 2 2), 0) := get_eq (at_ := 2) (n := 2) (by omega) (by omega) hr (by omega) (by omega)
    have n2 := num_in2 (oct_seg hr 2 2) (seg_len (b := r) (i := 2) (n := 2) (by omega))
    have n1 := num_in2 (oct_seg hr 0 2) (seg_len (b := r) (i := 0) (n := 2) (by omega))
    have eW : ar .mul .i64 4 (IntKind.i64.wrap (numB (seg r 2 2))) = ((extW r : Nat) : Int) := by
      rw [w_i64 (by omega) (by omega), ar_mul, w_i64 (by omega) (by omega)]; unfold extW; omega
    rw [bnd g2]
    have c0 : cm .neq (0 : Int) 0 = false := by decide
    simp only [c0]
    rw [if_neg (by decide), eW, if_neg h4]
    by_cases h5 : r.length - 4 < extW r
    · have : octet_Part r 4 ((extW r : Nat) : Int) = some ([], 2) := part_short (at_ := 4) (by omega) (by omega)
      rw [bnd this, if_pos (by decide), if_pos h5, if_neg (by decide)]
    · have : octet_Part r 4 ((extW r : Nat) : Int) = some (seg r 4 (extW r), 0) := part_eq (at_ := 4) (by omega) (by omega)
      rw [bnd this]
      simp only [c0]
      rw [if_neg (by decide), if_neg h5, if_pos rfl, seg_len (by omega), ar_add, w_i64 (by omega) (by omega), bnd (sub_some (by omega) (by omega) (by omega)), hu4 (by omega)]
      have e1 : ((4 : Int) + (extW r : Nat)).toNat = 4 + extW r := by omega
      rw [e1, w_u16 n1.1 n1.2]
      congr 4
      apply List.take_of_length_le
      rw [List.length_drop]; omega

theorem read_core {b : List Int} (hb : oct b) (hl : b.length ≤ 100000) : ∃ q r, packet_read none b = some (q, r, errP b) ∧ (errP b = 0 → q = decP b ∧ r = bodyOf b) := by
  unfold packet_read
  by_cases h1 : b.length > 65535
  · rw [if_pos (by rw [cm_gtr]; simp; omega)]
    have : errP b = 4 := by unfold errP; rw [if_pos h1]
    exact ⟨_, _, by rw [this], fun h => by rw [this] at h; cases h⟩
  · rw [if_neg (by rw [cm_gtr]; simp; omega), bnd (headRead_eq hb hl)]
    unfold readH
    by_cases h2 : headE b = 0
    · obtain ⟨hlen, _⟩ := headE_len h2
      have hn16 : nC b ≤ 15 := by unfold nC; omega
      rw [if_pos h2]
      have c0 : cm .neq (0 : Int) 0 = false := by decide
      simp only [c0]
      rw [if_neg (by decide)]
      have hsub : sub b (12 + 4 * (nC b : Int)) (b.length : Int) = some (restOf b) := by
        rw [sub_some (by omega) (by omega) (by omega)]
        have e1 : (12 + 4 * (nC b : Int)).toNat = 12 + 4 * nC b := by omega
        rw [e1]
        congr 1
        apply List.take_of_length_le
        rw [List.length_drop]; omega
      rw [bnd hsub]
      have hrl : (restOf b).length ≤ 100000 := by unfold restOf; rw [List.length_drop]; omega
      have fin : ∀ (p5 : Packet) (v4 : Packet), (hx b = true → extE (restOf b) = 0) → p5 = { decP b with pad := 0, payload := [] } →
          ∃ q r, packet_read_j1 none (decH b, 12 + 4 * (nC b : Int), 0) (bodyOf b) v4 p5 = some (q, r, errP b) ∧ (errP b = 0 → q = decP b ∧ r = bodyOf b) := by
        rintro p5 v4 hext rfl
        have hbl : (bodyOf b).length ≤ 100000 := by
          unfold bodyOf; split
          · rw [List.length_drop]; omega
          · exact hrl
        have hob := oct_body hb
        have ht := trN_in hob
        unfold packet_read_j1
        have hnx : ¬ (hx b = true ∧ extE (restOf b) ≠ 0) := fun hh => hh.2 (hext hh.1)
        have j2 : ∀ (v6 v7 : Packet), v7 = { decP b with payload := [] } → packet_read_j2 none (bodyOf b) v6 v7 = some (decP b, bodyOf b, 0) := by
          rintro v6 v7 rfl
          have hpo : 0 ≤ padOf b ∧ padOf b ≤ (bodyOf b).length := by unfold padOf; split <;> omega
          unfold packet_read_j2
          have e : ar .sub .i64 ((bodyOf b).length : Int) (padOf b) = ((bodyOf b).length : Int) - padOf b := by rw [ar_sub, w_i64 (by omega) (by omega)]
          show Option.bind (sub (bodyOf b) 0 (ar .sub .i64 ((bodyOf b).length : Int) (padOf b))) _ = _
          rw [e, bnd (sub_some (by omega) (by omega) (by omega))]
          have e2 : ((bodyOf b).length - padOf b).toNat - (0 : Int).toNat = (bodyOf b).length - (padOf b).toNat := by omega
          rw [e2]
          have ha : app ([] : List Int) (List.take ((bodyOf b).length - (padOf b).toNat) (List.drop (0 : Int).toNat (bodyOf b))) = some ((bodyOf b).take ((bodyOf b).length - (padOf b).toNat)) := by
            rw [app_some (by simp; omega)]
            simp
          rw [bnd ha]
          rfl
        cases hpp : hp b
        · have hpf : (decH b).hasPad = false := hpp
          have hpo : padOf b = 0 := by unfold padOf; simp [hpp]
          have he : errP b = 0 := by unfold errP; rw [if_neg h1, if_neg (by simpa using h2), if_neg hnx, if_neg (by simp [hpp])]
          rw [if_neg (show ¬ (decH b).hasPad = true by rw [hpf]; decide), j2 _ _ (by unfold decP; simp [hpo]), he]
          exact ⟨_, _, rfl, fun _ => ⟨rfl, rfl⟩⟩
        · have hpt : (decH b).hasPad = true := hpp
          have hpo : padOf b = trN (bodyOf b) := by unfold padOf; simp [hpp]
          rw [if_pos (show (decH b).hasPad = true from hpt), bnd (padTrail_eq hob (by omega))]
          by_cases h0 : trN (bodyOf b) = 0
          · have he : errP b = 5 := by unfold errP; rw [if_neg h1, if_neg (by simpa using h2), if_neg hnx, if_pos ⟨hpp, h0⟩]
            rw [if_pos h0, if_pos (by decide), he]
            exact ⟨_, _, rfl, fun h => by cases h⟩
          · have he : errP b = 0 := by unfold errP; rw [if_neg h1, if_neg (by simpa using h2), if_neg hnx, if_neg (fun hh => h0 hh.2)]
            rw [if_neg h0]
            simp only [c0]
            rw [if_neg (by decide), j2 _ _ (by unfold decP; simp [hpo]), he]
            exact ⟨_, _, rfl, fun _ => ⟨rfl, rfl⟩⟩
      cases hxx : hx b
      · have hxf : (decH b).hasExt = false := hxx
        have hbo : bodyOf b = restOf b := by unfold bodyOf; simp [hxx]
        rw [if_neg (show ¬ (decH b).hasExt = true by rw [hxf]; decide), ← hbo]
        exact fin _ _ (fun h => by rw [hxx] at h; cases h) (by unfold decP; simp [hxx])
      · have hxt : (decH b).hasExt = true := hxx
        rw [if_pos (show (decH b).hasExt = true from hxt), bnd (extension_eq (oct_rest hb) hrl)]
        by_cases h3 : extE (restOf b) = 0
        · have hbo : (restOf b).drop (4 + extW (restOf b)) = bodyOf b := by unfold bodyOf; simp [hxx]
          rw [if_pos h3]
          simp only [c0]
          rw [if_neg (by decide), hbo]
          exact fin _ _ (fun _ => h3) (by unfold decP; simp [hxx])
        · have he : errP b = 2 := by unfold errP; rw [if_neg h1, if_neg (by simpa using h2), if_pos ⟨hxx, h3⟩]
          rw [if_neg h3, if_pos (by decide), he]
          exact ⟨_, _, rfl, fun h => by cases h⟩
    · rw [if_neg h2]
      have hc : cm .neq (headE b) 0 = true := by rw [cm_neq]; simp [h2]
      have he : errP b = headE b := by unfold errP; rw [if_neg h1, if_pos h2]
      simp only [hc]
      rw [if_pos trivial, he]
      exact ⟨_, _, rfl, fun h => absurd h h2⟩

theorem packetRead_eq {b : List Int} (hb : oct b) (hl : b.length ≤ 100000) : packet_Read none b = some (readP b) := by
  obtain ⟨q, r, h1, h2⟩ := read_core hb hl
  unfold packet_Read readP
  rw [bnd h1]
  by_cases he : errP b = 0
  · obtain ⟨rfl, rfl⟩ := h2 he
    rw [he]
    rfl
  · have hc : cm .neq (errP b) 0 = true := by rw [cm_neq]; simp [he]
    simp only [hc]
    rw [if_pos trivial, if_neg he]
    rfl

def canonS (b : List Int) : Bool := decide (errP b = 0) && (decide (padOf b = 0) || cleanS (bodyOf b))
theorem packetCanon_eq {b : List Int} (hb : oct b) (hl : b.length ≤ 100000) : packet_Canon none b = some (canonS b) := by
  obtain ⟨q, r, h1, h2⟩ := read_core hb hl
  unfold packet_Canon canonS
  rw [bnd h1]
  simp only [cm_eql]
  by_cases he : errP b = 0
  · obtain ⟨rfl, rfl⟩ := h2 he
    have hp0 : (decP b).pad = padOf b := rfl
    rw [he, hp0]
    have hbl : (bodyOf b).length ≤ 1000000 := by
      unfold bodyOf restOf; split
      · rw [List.length_drop, List.length_drop]; omega
      · rw [List.length_drop]; omega
    by_cases h0 : padOf b = 0
    · simp [h0, gTF]
    · simp only [h0, decide_true, decide_false, Bool.not_false, Bool.and_true, Bool.true_and, gTT, Bool.false_or]
      rw [bnd (padClean_eq (oct_body hb) hbl)]
  · simp [he, gTF]
end Xb
