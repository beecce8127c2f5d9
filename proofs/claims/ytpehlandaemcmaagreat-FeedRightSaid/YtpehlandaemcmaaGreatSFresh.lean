/- Own text: SFresh. -/
import Derived.Test.YtpehlandaemcmaaGreatSOct
import Derived.Test.YtpehlandaemcmaaGreatSPad
import Derived.Test.YtpehlandaemcmaaGreatSWf
set_option linter.all false
set_option linter.unusedVariables false
set_option linter.unusedSimpArgs false
set_option linter.unnecessarySimpa false
set_option linter.deprecated false
namespace Xb
open Go

def okE (e : Entry) : Prop := wf_Entry e
theorem okE_ssrc {e : Entry} (h : okE e) : 0 ≤ e.ssrc ∧ e.ssrc ≤ 4294967295 := in_u32.1 h.1
theorem okE_seq {e : Entry} (h : okE e) : 0 ≤ e.seq ∧ e.seq ≤ 255 := in_u8.1 h.2
def encE (e : Entry) : List Int := beN 4 e.ssrc ++ [e.seq, 0, 0, 0]
def decE (c : List Int) : Entry := ⟨numB (c.take 4), c.getD 4 0⟩
theorem encE_len (e : Entry) : (encE e).length = 8 := by simp [encE, beN_len]
theorem encE_byte {e : Entry} (h : okE e) : ∀ x, x ∈ encE e → 0 ≤ x ∧ x ≤ 255 := by
  intro x hx
  simp only [encE, List.mem_append, List.mem_cons, List.not_mem_nil, or_false] at hx
  have := okE_seq h
  rcases hx with hx | rfl | rfl | rfl | rfl
  · exact beN_byte _ _ _ hx
  all_goals omega
theorem dec_encF {e : Entry} (h : okE e) : decE (encE e) = e := by
  have h1 : (encE e).take 4 = beN 4 e.ssrc := by
    unfold encE; exact List.take_left' (beN_len 4 _)
  have h2 : (encE e).getD 4 0 = e.seq := by
    simp only [encE, List.getD_eq_getElem?_getD]
    rw [List.getElem?_append_right (by rw [beN_len]; exact Nat.le_refl _), beN_len]; rfl
  unfold decE
  rw [h1, h2, num_be 4 _ (okE_ssrc h).1 (by have := (okE_ssrc h).2; omega)]
theorem decE_ok {c : List Int} (hl : c.length = 8) (hb : ∀ x, x ∈ c → 0 ≤ x ∧ x ≤ 255) : okE (decE c) := by
  have h1 := numB_bd (c.take 4) fun x hx => hb x (List.mem_of_mem_take hx)
  have h4 : (c.take 4).length = 4 := by rw [List.length_take]; omega
  rw [h4] at h1
  refine ⟨in_u32.2 ⟨h1.1, ?_⟩, in_u8.2 ?_⟩
  · show numB (c.take 4) ≤ _; omega
  · show 0 ≤ c.getD 4 0 ∧ c.getD 4 0 ≤ 255
    rw [List.getD_eq_getElem?_getD, List.getElem?_eq_getElem (by omega)]
    exact hb _ (List.getElem_mem _)
theorem enc_decF {c : List Int} (hl : c.length = 8) (hb : ∀ x, x ∈ c → 0 ≤ x ∧ x ≤ 255) : encE (decE c) = c ↔ ∀ y, y ∈ c.drop 5 → y = 0 := by
  have h4 : (c.take 4).length = 4 := by rw [List.length_take]; omega
  have h1 : beN 4 (decE c).ssrc = c.take 4 := by
    have := be_num (c.take 4) fun x hx => hb x (List.mem_of_mem_take hx)
    rw [h4] at this; exact this
  unfold encE
  rw [h1]
  match c, hl with
  | [a0, a1, a2, a3, a4, a5, a6, a7], _ => simp [decE]; exact ⟨fun ⟨a, b, c⟩ => ⟨a.symm, b.symm, c.symm⟩, fun ⟨a, b, c⟩ => ⟨a.symm, b.symm, c.symm⟩⟩

theorem writeF_step {l : List Entry} (hl : ∀ e, e ∈ l → okE e) (hn : l.length ≤ 8190) (i : Nat) (hi : i < l.length) :
    fresh_Write_s1 none l ((l.take i).flatMap encE) (i : Int) = some (.inl ((l.take (i + 1)).flatMap encE, ((i + 1 : Nat) : Int))) := by
  have ho := hl l[i] (List.getElem_mem hi)
  have hs := okE_ssrc ho
  have hlen : ∀ (m : List Entry), (m.flatMap encE).length = 8 * m.length := by
    intro m
    induction m with
    | nil => rfl
    | cons a m ih => rw [List.flatMap_cons, List.length_append, ih, encE_len, List.length_cons]; omega
  have e1 : octet_Put (IntKind.u64.wrap l[i].ssrc) 4 = some (beN 4 l[i].ssrc, 0) := by
    rw [w_u64 (by omega) (by omega)]
    exact put_eq (n := 4) hs.1 (by omega) (by omega) (.inr (by omega))
  have e2 : app (beN 4 l[i].ssrc) [l[i].seq] = some (beN 4 l[i].ssrc ++ [l[i].seq]) := app_some (by rw [beN_len]; simp)
  have e3 : pad_Fill none (beN 4 l[i].ssrc ++ [l[i].seq]) = some (encE l[i]) := by
    rw [fill_eq (by simp [beN_len])]
    simp [beN_len, fillN, encE, List.replicate]
  have e4 : app ((l.take i).flatMap encE) (encE l[i]) = some ((l.take (i + 1)).flatMap encE) := by
    rw [app_some (by rw [hlen, encE_len, List.length_take]; omega), List.take_add_one, List.getElem?_eq_getElem hi, Option.toList_some, List.flatMap_append, List.flatMap_singleton]
  unfold fresh_Write_s1
  rw [if_pos (by rw [cm_lss]; simpa using hi), bnd (ix_some (n := i) rfl hi), bnd e1, bnd e2, bnd e3, bnd e4, ar_add, w_i64 (by omega) (by omega)]
  rfl

theorem writeF_eq {l : List Entry} (hl : ∀ e, e ∈ l → okE e) : fresh_Write none l = some (if 1 ≤ l.length ∧ l.length ≤ 8190 then (l.flatMap encE, 0) else ([], 1)) := by
  unfold fresh_Write
  by_cases h : 1 ≤ l.length ∧ l.length ≤ 8190
  · rw [if_pos h, if_neg (by rw [cm_lss, cm_gtr]; simp; omega)]
    unfold fresh_Write_l1
    have := loop_seq (step := fun (s : List Int × Int) => fresh_Write_s1 none l s.1 s.2) (r := (l.flatMap encE, 0)) (fun i => ((l.take i).flatMap encE, (i : Int))) l.length (fun i hi => writeF_step hl h.2 i hi) (by
      show fresh_Write_s1 none l _ _ = _
      unfold fresh_Write_s1
      rw [if_neg (by rw [cm_lss]; simp)]
      simp)
    simpa using this
  · rw [if_neg h, if_pos (by rw [cm_lss, cm_gtr]; simp; omega)]

theorem flat_lenF (m : List Entry) : (m.flatMap encE).length = 8 * m.length := by
  induction m with
  | nil => rfl
  | cons a m ih => rw [List.flatMap_cons, List.length_append, ih, encE_len, List.length_cons]; omega

theorem lnO_okF {α : Type} {l : List α} (h : l.length ≤ 4294967296) : lnO l = some () := by simp [lnO, h]

def readOkF (b : List Int) : Prop := 1 ≤ b.length ∧ b.length ≤ 65520 ∧ b.length % 8 = 0
instance (b : List Int) : Decidable (readOkF b) := inferInstanceAs (Decidable (_ ∧ _))

theorem read_stepF {c : List Int} (hl : c.length = 8) (hb : ∀ x, x ∈ c → 0 ≤ x ∧ x ≤ 255) (v : List Entry) (hv : v.length ≤ 1000000) : fresh_Read_s2 none c v = some (.inl (v ++ [decE c])) := by
  unfold fresh_Read_s2
  have h1 : octet_Get none c 0 4 = some (numB (c.take 4), 0) := get_eq (at_ := 0) (n := 4) (by omega) (by omega) hb (by omega) (by omega)
  have h2 : ix c 4 = some (c.getD 4 0) := ix_getD (by omega) (by omega)
  have h3 := (in_u32.1 (decE_ok hl hb).1)
  have h4 : IntKind.u32.wrap (numB (c.take 4)) = numB (c.take 4) := w_u32 h3.1 h3.2
  rw [bnd h1, bnd h2]
  simp only [h4]
  rw [bnd (app_some (by simp; omega))]
  rfl

theorem readF_eq {b : List Int} (hb : ∀ x, x ∈ b → 0 ≤ x ∧ x ≤ 255) (hl : b.length ≤ 1000000) : fresh_Read none b = some (if readOkF b then ((chunksL 8 b).map decE, 0) else ([], if b.length = 0 then 2 else 4)) := by
  unfold fresh_Read
  by_cases h1 : b.length > 65520
  · have c1 : cm .gtr (b.length : Int) 65520 = true := by rw [cm_gtr]; simp; omega
    rw [c1, if_pos rfl]
    unfold fresh_Read_j1
    rw [if_pos rfl, if_neg (by unfold readOkF; omega), if_neg (by omega)]
  · have c1 : cm .gtr (b.length : Int) 65520 = false := by rw [cm_gtr]; simp; omega
    rw [c1, if_neg (by decide), dv_rem (by omega)]
    unfold fresh_Read_j1
    by_cases h2 : b.length % 8 = 0
    · have c2 : cm .gtr ((b.length : Int) % 8) 0 = false := by rw [cm_gtr]; simp; omega
      rw [c2, if_neg (by decide)]
      by_cases h3 : b.length = 0
      · rw [if_pos (by rw [cm_eql]; simp; simpa using h3), if_neg (by unfold readOkF; omega), if_pos h3]
      · rw [if_neg (by rw [cm_eql]; simp; simpa using h3), bnd (lnO_okF (by omega))]
        unfold fresh_Read_l2
        rw [fold_map (f := decE) (chunksL 8 b) [] (fun c v hc hv => read_stepF (chunks_len (by omega) h2 c hc) (fun x hx => hb x (chunks_mem hc hx)) v hv) (by rw [chunks_count (by omega) h2]; simp; omega)]
        rw [if_pos (by unfold readOkF; omega)]
        rfl
    · have c2 : cm .gtr ((b.length : Int) % 8) 0 = true := by rw [cm_gtr]; simp; omega
      rw [c2, if_pos rfl, if_neg (by unfold readOkF; omega), if_neg (by omega)]

def canonSF (b : List Int) : Bool := decide (readOkF b) && (chunksL 8 b).all fun c => decide (∀ y, y ∈ c.drop 5 → y = 0)

theorem canonF_eq {b : List Int} (hb : ∀ x, x ∈ b → 0 ≤ x ∧ x ≤ 255) (hl : b.length ≤ 1000000) : fresh_Canon none b = some (canonSF b) := by
  unfold fresh_Canon
  rw [bnd (readF_eq hb hl), bnd (lnO_okF (by omega))]
  unfold fresh_Canon_l1
  by_cases h : readOkF b
  · rw [if_pos h, fold_all (p := fun c => decide (∀ y, y ∈ c.drop 5 → y = 0)) (no := false) (chunksL 8 b) false]
    · unfold canonSF
      rw [decide_eq_true h, Bool.true_and]
      unfold fresh_Canon_d1
      have : cm .eql (0 : Int) 0 = true := by decide
      simp only [this]
      cases (chunksL 8 b).all fun c => decide (∀ y, y ∈ c.drop 5 → y = 0) <;> rfl
    · intro c hc
      have hc8 := chunks_len (n := 8) (by omega) h.2.2 c hc
      have hcb : ∀ x, x ∈ c → 0 ≤ x ∧ x ≤ 255 := fun x hx => hb x (chunks_mem hc hx)
      unfold fresh_Canon_s1
      have e0 : cm .eql (0 : Int) 0 = true := by decide
      have e1 : sub c 5 (c.length : Int) = some (c.drop 5) := by
        rw [sub_some (by omega) (by omega) (by omega)]
        congr 1
        apply List.take_of_length_le
        rw [List.length_drop]; omega
      simp only [e0, gTT]
      rw [bnd e1, bnd (zero_eq fun y hy => hcb y (List.mem_of_mem_drop hy))]
      by_cases hz : ∀ y, y ∈ c.drop 5 → y = 0
      · rw [decide_eq_true hz]; rfl
      · rw [decide_eq_false hz]; rfl
  · rw [if_neg h]
    have hc : ∀ (n : Int), n = 2 ∨ n = 4 → cm .eql n 0 = false := by
      rintro n (rfl | rfl) <;> decide
    have hn : cm .eql (if b.length = 0 then (2 : Int) else 4) 0 = false := hc _ (by split <;> simp)
    rw [fold_all (p := fun _ => true) (no := false) (chunksL 8 b) false]
    · unfold canonSF fresh_Canon_d1
      rw [decide_eq_false h, Bool.false_and]
      simp only [hn]
      simp
    · intro c hc
      unfold fresh_Canon_s1
      simp only [hn, gTF, Option.bind_some, Bool.false_and]
      rfl

theorem canon_iffF {b : List Int} (hb : ∀ x, x ∈ b → 0 ≤ x ∧ x ≤ 255) (h : readOkF b) : canonSF b = true ↔ ((chunksL 8 b).map decE).flatMap encE = b := by
  unfold canonSF
  rw [decide_eq_true h, Bool.true_and, List.all_eq_true]
  have hf := chunks_flat (n := 8) (by omega) b
  have hlen := chunks_len (n := 8) (by omega) h.2.2
  have hmem : ∀ c, c ∈ chunksL 8 b → ∀ x, x ∈ c → 0 ≤ x ∧ x ≤ 255 := fun c hc x hx => hb x (chunks_mem hc hx)
  have key : ∀ (L : List (List Int)), (∀ c, c ∈ L → c.length = 8) → (∀ c, c ∈ L → ∀ x, x ∈ c → 0 ≤ x ∧ x ≤ 255) → ((∀ c, c ∈ L → decide (∀ y, y ∈ c.drop 5 → y = 0) = true) ↔ (L.map decE).flatMap encE = L.flatten) := by
    intro L
    induction L with
    | nil => intro _ _; simp
    | cons c L ih =>
      intro hl hb
      have h8 := hl c (by simp)
      have hi := ih (fun d hd => hl d (by simp [hd])) (fun d hd => hb d (by simp [hd]))
      rw [List.map_cons, List.flatMap_cons, List.flatten_cons]
      have hap : encE (decE c) ++ (L.map decE).flatMap encE = c ++ L.flatten ↔ encE (decE c) = c ∧ (L.map decE).flatMap encE = L.flatten := by
        constructor
        · intro e; exact List.append_inj e (by rw [encE_len, h8])
        · rintro ⟨e1, e2⟩; rw [e1, e2]
      rw [hap, enc_decF h8 (hb c (by simp)), ← hi]
      simp only [List.mem_cons, forall_eq_or_imp, decide_eq_true_iff]
  have := key _ hlen hmem
  rw [hf] at this
  exact this

theorem sameF_eq (a b : List Entry) (hl : a.length ≤ 1000000) : ref16_Same none a b = some (decide (a = b)) := by
  unfold ref16_Same
  by_cases h : a.length = b.length
  · rw [if_neg (by rw [cm_neq]; simp; omega)]
    unfold ref16_Same_l1
    refine same_loop h (step := fun s => ref16_Same_s1 none a b s) ?_ fun i hi hi' => ?_
    · show ref16_Same_s1 none a b _ = _
      unfold ref16_Same_s1
      rw [if_neg (by rw [cm_lss]; simp)]
      rfl
    · show ref16_Same_s1 none a b _ = _
      unfold ref16_Same_s1
      rw [if_pos (by rw [cm_lss]; simpa using hi), bnd (ix_some (n := i) rfl hi), bnd (ix_some (n := i) rfl hi')]
      have : (!(a[i].ssrc == b[i].ssrc && (a[i].seq == b[i].seq && true))) = decide (a[i] ≠ b[i]) := by
        generalize a[i] = x; generalize b[i] = y
        cases x; cases y
        simp
        rfl
      rw [this]
      by_cases he : a[i] ≠ b[i]
      · rw [if_pos (by simpa using he), if_pos he]; rfl
      · rw [if_neg (by simpa using he), if_neg he, ar_add, w_i64 (by omega) (by omega)]
        rfl
  · rw [if_pos (by rw [cm_neq]; simp; omega)]
    have : a ≠ b := fun e => h (by rw [e])
    simp [this]

theorem readOk_ofF {l : List Entry} (h : 1 ≤ l.length ∧ l.length ≤ 8190) : readOkF (l.flatMap encE) := by
  unfold readOkF; rw [flat_lenF]; omega
theorem enc_allF {l : List Entry} (hl : ∀ e, e ∈ l → okE e) : ∀ x, x ∈ l.flatMap encE → 0 ≤ x ∧ x ≤ 255 := by
  intro x hx
  obtain ⟨e, he, hx⟩ := List.mem_flatMap.1 hx
  exact encE_byte (hl e he) x hx
theorem chunks_encF {l : List Entry} : chunksL 8 (l.flatMap encE) = l.map encE := by
  rw [List.flatMap_def]
  exact chunks_of (by omega) _ fun c hc => by
    obtain ⟨e, _, rfl⟩ := List.mem_map.1 hc
    exact encE_len e
theorem read_writeF {l : List Entry} (hl : ∀ e, e ∈ l → okE e) (h : 1 ≤ l.length ∧ l.length ≤ 8190) : fresh_Read none (l.flatMap encE) = some (l, 0) := by
  rw [readF_eq (enc_allF hl) (by rw [flat_lenF]; omega), if_pos (readOk_ofF h), chunks_encF, List.map_map]
  congr 2
  conv => rhs; rw [← List.map_id l]
  apply List.map_congr_left
  intro e he
  exact dec_encF (hl e he)
theorem canon_writeF {l : List Entry} (hl : ∀ e, e ∈ l → okE e) (h : 1 ≤ l.length ∧ l.length ≤ 8190) : fresh_Canon none (l.flatMap encE) = some true := by
  rw [canonF_eq (enc_allF hl) (by rw [flat_lenF]; omega)]
  congr 1
  rw [canon_iffF (enc_allF hl) (readOk_ofF h), chunks_encF, List.map_map]
  congr 1
  conv => rhs; rw [← List.map_id l]
  apply List.map_congr_left
  intro e he
  exact dec_encF (hl e he)

theorem zero_okF : okE (Entry.mk 0 0) := ⟨in_u32.2 (by decide), in_u8.2 (by decide)⟩
end Xb
