/- Own text: LTruePlanElements. -/
import Derived.Test.YtiomfajkappjhaaLConcat
import Derived.Test.YtiomfajkappjhaaLTruePlanTwice
set_option linter.all false
set_option linter.unusedVariables false
set_option linter.unusedSimpArgs false
set_option linter.unnecessarySimpa false
set_option linter.deprecated false
namespace Xb
open Go

theorem readP {q : Int} {nar : Bool} {L : List (Nat × Elem)} {t : List Int} (hq : profOf q = if nar then .nar else .wide) (hf : ∀ x, x ∈ L → FitE x.2) (hn : nar = true → ∀ x, x ∈ L → Nar x.2) (hd : (L.map (·.2.id_)).Nodup)
    (ht : ∀ m pos out, t.length < m → spotsG nar m pos t out = (out, 0)) : readS q (bodyP nar L ++ t) = (L.map (·.2), 0) := by
  have key : spotsG nar ((bodyP nar L ++ t).length + 1) 0 (bodyP nar L ++ t) [] = (mkP nar 0 L, 0) := by
    obtain ⟨m, hm1, hm2⟩ := spots_fwdP (nar := nar) L _ 0 t [] hf hn (by simpa using hd) (Nat.lt_succ_self _)
    rw [hm2, ht _ _ _ hm1]
    simp
  have hs : spotsS q (bodyP nar L ++ t) = (mkP nar 0 L, 0) := by
    unfold spotsS
    rw [hq]
    cases nar <;> exact key
  unfold readS
  rw [hs]
  simp only []
  rw [mkP_at (nar := nar) L 0 t rfl]

theorem known_eq {p : Plan} (h : SmallP p) {l : List Elem} (hl : l.length ≤ 300) :
    plan_known none p l = some (decide (∀ x, x ∈ p.maps.map (·.from_) ++ p.over.map (·.id_) ++ p.drops → x ∈ l.map (·.id_))) := by
  have hm := h.m; have ho := h.o; have hd := h.d; have ha := h.a
  unfold plan_known
  rw [bnd (idsE_eq (by omega)), bnd (idsF_eq (by omega)), bnd (idsE_eq (by omega)), bnd (concatI_eq (by simp) (by simp; omega))]
  have e : [p.maps.map (·.from_), p.over.map (·.id_), p.drops].flatten = p.maps.map (·.from_) ++ p.over.map (·.id_) ++ p.drops := by simp
  rw [e]
  generalize hq : p.maps.map (·.from_) ++ p.over.map (·.id_) ++ p.drops = q
  have hql : q.length ≤ 900 := by rw [← hq]; simp; omega
  unfold plan_known_l1
  have := find_loop (l := q) (step := fun s => plan_known_s1 none (l.map (·.id_)) q s) (p := fun x => !decide (x ∈ l.map (·.id_))) (hit := fun _ => false) (miss := true) (by
    show plan_known_s1 none _ q _ = _
    unfold plan_known_s1
    rw [if_neg (by rw [cm_lss]; simp)]; rfl) (fun i hi => by
    show plan_known_s1 none _ q (i : Int) = _
    unfold plan_known_s1
    rw [if_pos (by rw [cm_lss]; simpa using hi), bnd (ix_some (n := i) rfl hi), bnd (Contains_eq (by simp; omega)), ar_add, w_i64 (by omega) (by omega)]
    by_cases hx : q[i] ∈ l.map (·.id_)
    · rw [decide_eq_true hx, if_neg (by decide), if_neg (by decide)]; rfl
    · rw [decide_eq_false hx, if_pos (by decide), if_pos (by decide)]; rfl)
  rw [this]
  congr 1
  cases hf : q.findIdx? (fun x => !decide (x ∈ l.map (·.id_))) with
  | none =>
    rw [List.findIdx?_eq_none_iff] at hf
    exact (decide_eq_true fun x hx => by have := hf x hx; simpa using this).symm
  | some i =>
    rw [List.findIdx?_eq_some_iff_getElem] at hf
    obtain ⟨hi, hp, _⟩ := hf
    refine (decide_eq_false fun h => ?_).symm
    have := h _ (List.getElem_mem hi)
    simp at hp
    simp at this
    obtain ⟨a, ha, hb⟩ := this
    exact hp a ha hb

theorem j1_eq (v : Bool) (p : Plan) (k : Packet) : plan_behind_j1 none v p k = some (behS p k, v && packet_Right (behS p k)) := by
  unfold plan_behind_j1 plan_behind_j2
  rw [set_eq]
  cases hn : p.noPad with
  | false =>
    rw [if_neg (by decide)]
    have : behS p k = { k with head := { k.head with marker := if p.setMarker then p.marker else k.head.marker, type := if p.setType then p.type else k.head.type, seq := if p.setSeq then p.seq else k.head.seq, time := if p.setTime then p.time else k.head.time, ssrc := if p.setSsrc then p.ssrc else k.head.ssrc } } := by
      unfold behS; rw [hn]; rfl
    rw [this]
  | true =>
    rw [if_pos rfl]
    have : behS p k = { k with head := { k.head with hasPad := false, marker := if p.setMarker then p.marker else k.head.marker, type := if p.setType then p.type else k.head.type, seq := if p.setSeq then p.seq else k.head.seq, time := if p.setTime then p.time else k.head.time, ssrc := if p.setSsrc then p.ssrc else k.head.ssrc }, pad := 0 } := by
      unfold behS; rw [hn]; rfl
    rw [this]

/-- the elements of a packet -/
def elsS (k : Packet) : List Elem := if k.head.hasExt then (readS k.profile k.ext).1 else []
structure GoodK (k : Packet) : Prop where
  b : oct k.ext
  p0 : 0 ≤ k.profile
  p1 : k.profile ≤ 65535
  l : k.ext.length ≤ 400000
theorem read_eq' {k : Packet} (h : GoodK k) : law29_read none k = some (elsS k) := by
  unfold law29_read elsS
  cases hx : k.head.hasExt with
  | false => rfl
  | true => rw [if_neg (by decide), bnd (eread_eq h.p0 h.p1 h.b h.l)]; rfl
theorem elements_eq {k : Packet} (h : GoodK k) : plan_elements none k = some (elsS k, !k.head.hasExt || decide ((spotsS k.profile k.ext).2 = 0)) := by
  unfold plan_elements elsS
  cases hx : k.head.hasExt with
  | false => rfl
  | true =>
    rw [if_neg (by decide), bnd (eread_eq h.p0 h.p1 h.b h.l), cm_eql]; rfl
theorem els_right {k : Packet} (h : GoodK k) : RightL (elsS k) ∧ GoodE (elsS k) := by
  unfold elsS
  split
  · exact ⟨right_read h.b, good_read h.b⟩
  · exact ⟨⟨fun e he => by simp at he, by simp⟩, ⟨fun e he => by simp at he⟩⟩

theorem turns_iff {p : Plan} (h : SmallP p) : plan_turns p = decide (p.drops ≠ [] ∨ p.adds ≠ []) := by
  have hd := h.d; have ha := h.a
  unfold plan_turns
  rw [ar_add, w_i64 (by omega) (by omega), cm_gtr]
  refine decide_eq_decide.2 ?_
  rw [← List.length_pos_iff, ← List.length_pos_iff]
  omega

theorem extend_spec {p : Plan} {k : Packet} (hs : SmallP p) (hk : GoodK k) (hfrom : ApartL (p.maps.map (·.from_))) (hov : RightL p.over) (had : RightL p.adds) (gov : GoodE p.over) (gad : GoodE p.adds) (hE : plan_Elements p = true) :
    ∃ k' b, plan_extend none p k = some (k', b) ∧ k'.head.csrc = k.head.csrc ∧ k'.payload = k.payload ∧ (b = true → GoodK k' ∧ elsS k' = wantS p (elsS k) ∧ RightL (wantS p (elsS k)) ∧ GoodE (wantS p (elsS k)) ∧
      k'.head.hasExt = (decide (0 < (wantS p (elsS k)).length) || (!plan_turns p && k.head.hasExt))) := by
  obtain ⟨hr, hg⟩ := els_right hk
  have hll := right_len hr
  have fail : ∀ {m : Option (Packet × Bool)}, m = some (k, false) → ∃ k' b, m = some (k', b) ∧ k'.head.csrc = k.head.csrc ∧ k'.payload = k.payload ∧ (b = true → GoodK k' ∧ elsS k' = wantS p (elsS k) ∧ RightL (wantS p (elsS k)) ∧ GoodE (wantS p (elsS k)) ∧
      k'.head.hasExt = (decide (0 < (wantS p (elsS k)).length) || (!plan_turns p && k.head.hasExt))) := fun h => ⟨k, false, h, rfl, rfl, fun h => by cases h⟩
  unfold plan_extend
  rw [bnd (elements_eq hk)]
  simp only []
  by_cases he : (!k.head.hasExt || decide ((spotsS k.profile k.ext).2 = 0)) = true
  · rw [he]
    simp only [Bool.not_true, Bool.not_false, gTT, Bool.false_or]
    rw [bnd (known_eq hs (by omega))]
    by_cases hkn : ∀ x, x ∈ p.maps.map (·.from_) ++ p.over.map (·.id_) ++ p.drops → x ∈ (elsS k).map (·.id_)
    · rw [decide_eq_true hkn, if_neg (by decide), bnd (left_eq hs (by omega))]
      by_cases hok : (keptS p (elsS k)).all (okS p) = true
      · rw [if_pos hok]
        simp only []
        by_cases hap : ApartL ((wantS p (elsS k)).map (·.id_))
        · rw [decide_eq_true hap, if_neg (by decide)]
          have hokk : ∀ e, e ∈ keptS p (elsS k) → okS p e = true := List.all_eq_true.1 hok
          have hkm : ∀ e, e ∈ keptS p (elsS k) → e ∈ elsS k := fun e he => (List.mem_filter.1 he).1
          have hW : RightL (wantS p (elsS k)) := by
            refine ⟨fun e he => ⟨(hap.1 e.id_ (List.mem_map.2 ⟨e, he, rfl⟩)).1, (hap.1 e.id_ (List.mem_map.2 ⟨e, he, rfl⟩)).2, ?_⟩, hap.2⟩
            rcases List.mem_append.1 he with h | h
            · obtain ⟨a, ha, rfl⟩ := List.mem_map.1 h
              show (datS p a).length ≤ 255
              rw [dat_len (hokk a ha)]
              exact (hr.1 a (hkm a ha)).2.2
            · exact (had.1 e h).2.2
          have hGW : GoodE (wantS p (elsS k)) := by
            refine ⟨fun e he => ?_⟩
            rcases List.mem_append.1 he with h | h
            · obtain ⟨a, ha, rfl⟩ := List.mem_map.1 h
              show oct (datS p a)
              unfold datS
              cases hf : p.over.find? (fun y => decide (y.id_ = a.id_)) with
              | none => exact hg.d a (hkm a ha)
              | some y => exact gov.d y (List.mem_of_find?_eq_some hf)
            · exact gad.d e h
          have hWl := right_len hW
          have ht := turns_iff hs
          by_cases htn : p.drops ≠ [] ∨ p.adds ≠ []
          · have ht2 : plan_turns p = true := by rw [ht]; exact decide_eq_true htn
            rw [ht2, if_neg (by decide)]
            unfold plan_extend_j1
            by_cases hpos : 0 < (wantS p (elsS k)).length
            · have hsh : ShortL (wantS p (elsS k)) := ⟨by omega, fun e he => by have := (hW.1 e he).2.2; omega⟩
              have c : cm .gtr ((wantS p (elsS k)).length : Int) 0 = true := by rw [cm_gtr]; exact decide_eq_true (by omega)
              rw [c, if_pos rfl, bnd (ewrite_eq hsh), if_pos hW]
              have hwl := (write_len hW).1
              have hrd := read_write hW
              refine ⟨_, _, rfl, rfl, rfl, fun _ => ⟨⟨writeL_oct hGW hW, (prof_in _).1, (prof_in _).2, by show (writeL _).length ≤ _; omega⟩, ?_, hW, hGW, ?_⟩⟩
              · show (if true = true then (readS (profS (wantS p (elsS k))) (writeL (wantS p (elsS k)))).1 else []) = _
                rw [if_pos rfl, hrd]
              · show true = _
                rw [decide_eq_true hpos]; rfl
            · have c : cm .gtr ((wantS p (elsS k)).length : Int) 0 = false := by rw [cm_gtr]; exact decide_eq_false (by omega)
              rw [c, if_neg (by decide)]
              have h0 : wantS p (elsS k) = [] := List.eq_nil_of_length_eq_zero (by omega)
              refine ⟨_, _, rfl, rfl, rfl, fun _ => ⟨⟨fun x hx => by simp at hx, by show (0 : Int) ≤ 0; decide, by show (0 : Int) ≤ 65535; decide, by show ([] : List Int).length ≤ _; simp⟩, ?_, hW, hGW, ?_⟩⟩
              · rw [h0]; rfl
              · show false = _
                rw [h0]; rfl
          · have ht2 : plan_turns p = false := by rw [ht]; exact decide_eq_false htn
            have hd0 : p.drops = [] := Classical.byContradiction fun h => htn (.inl h)
            have ha0 : p.adds = [] := Classical.byContradiction fun h => htn (.inr h)
            have hkept : keptS p (elsS k) = elsS k := by unfold keptS; rw [hd0]; simp
            have hwant : wantS p (elsS k) = (elsS k).map (newS p) := by unfold wantS; rw [hkept, ha0, List.append_nil]
            rw [ht2, if_pos (by decide)]
            have hx : k.head.hasExt = true := by
              refine Classical.byContradiction fun hx => ?_
              have hx0 : k.head.hasExt = false := by simpa using hx
              have hnil : elsS k = [] := by unfold elsS; rw [hx0]; rfl
              rw [hnil, hd0, List.append_nil] at hkn
              have hm0 : p.maps = [] := by
                cases hm : p.maps with
                | nil => rfl
                | cons a m => rw [hm] at hkn; have := hkn a.from_ (by simp); simp at this
              have ho0 : p.over = [] := by
                cases hm : p.over with
                | nil => rfl
                | cons a m => rw [hm] at hkn; have := hkn a.id_ (by simp); simp at this
              unfold plan_Elements at hE
              rw [ht2, hm0, ho0] at hE
              cases hE
            have hsp : (spotsS k.profile k.ext).2 = 0 := by rw [hx] at he; simpa using he
            -- the bytes are elements and an end
            have hdec : ∃ (nar : Bool) (L : List (Nat × Elem)) (t : List Int), profOf k.profile = (if nar then .nar else .wide) ∧ (k.profile = 48862 ↔ nar = true) ∧ k.ext = bodyP nar L ++ t ∧ spotsS k.profile k.ext = (mkP nar 0 L, 0) ∧ (∀ x, x ∈ L → FitE x.2 ∧ (nar = true → Nar x.2) ∧ oct x.2.data) ∧ ∀ m pos' out', t.length < m → spotsG nar m pos' t out' = (out', 0) := by
              have go : ∀ nar : Bool, profOf k.profile = (if nar then .nar else .wide) → (k.profile = 48862 ↔ nar = true) → spotsS k.profile k.ext = spotsG nar (k.ext.length + 1) 0 k.ext [] → ∃ (L : List (Nat × Elem)) (t : List Int), k.ext = bodyP nar L ++ t ∧ spotsS k.profile k.ext = (mkP nar 0 L, 0) ∧ (∀ x, x ∈ L → FitE x.2 ∧ (nar = true → Nar x.2) ∧ oct x.2.data) ∧ ∀ m pos' out', t.length < m → spotsG nar m pos' t out' = (out', 0) := by
                intro nar _ _ h3
                rw [h3] at hsp ⊢
                obtain ⟨L, t, q1, q2, q3, q4⟩ := spots_dec (nar := nar) _ 0 k.ext [] (Nat.lt_succ_self _) hk.b hsp
                refine ⟨L, t, q1, ?_, q3, q4⟩
                have : spotsG nar (k.ext.length + 1) 0 k.ext [] = ((spotsG nar (k.ext.length + 1) 0 k.ext []).1, (spotsG nar (k.ext.length + 1) 0 k.ext []).2) := rfl
                rw [this, hsp, q2, List.nil_append]
              by_cases h1 : k.profile = 48862
              · have hp : profOf k.profile = .nar := by unfold profOf; rw [if_pos h1]
                obtain ⟨L, t, q⟩ := go true hp ⟨fun _ => rfl, fun _ => h1⟩ (by unfold spotsS; rw [hp])
                exact ⟨true, L, t, hp, ⟨fun _ => rfl, fun _ => h1⟩, q⟩
              · by_cases h2 : k.profile / 16 = 256
                · have hp : profOf k.profile = .wide := by unfold profOf; rw [if_neg h1, if_pos h2]
                  obtain ⟨L, t, q⟩ := go false hp ⟨fun h => absurd h h1, fun h => by cases h⟩ (by unfold spotsS; rw [hp])
                  exact ⟨false, L, t, hp, ⟨fun h => absurd h h1, fun h => by cases h⟩, q⟩
                · have hp : profOf k.profile = .none := by unfold profOf; rw [if_neg h1, if_neg h2]
                  unfold spotsS at hsp
                  rw [hp] at hsp
                  cases hsp
            obtain ⟨nar, L, t, d1, d2, d3, d4, d5, d6⟩ := hdec
            have hels : elsS k = L.map (·.2) := by
              unfold elsS
              rw [hx, if_pos rfl]
              unfold readS
              rw [d4]
              exact mkP_at (nar := nar) L 0 t d3
            have hLl : L.length ≤ 255 := by have := congrArg List.length hels; rw [List.length_map] at this; omega
            have hI : InP nar p L := by
              refine ⟨d5, fun x hxx => hokk x.2 ?_, fun x hxx => hap.1 (renS p x.2.id_) ?_⟩
              · rw [hkept, hels]; exact List.mem_map.2 ⟨x, hxx, rfl⟩
              · rw [hwant, hels]
                exact List.mem_map.2 ⟨newS p x.2, List.mem_map.2 ⟨x.2, List.mem_map.2 ⟨x, hxx, rfl⟩, rfl⟩, rfl⟩
            have hse : elem_Spots none k.profile k.ext = some (mkP nar 0 L, 0) := by rw [espots_eq hk.p0 hk.p1 hk.b hk.l, d4]
            obtain ⟨r, e1, e2⟩ := inside_eq d2 hs hI (by omega) d3 hk.l hse
            rw [bnd e1]
            refine ⟨{ k with ext := r.1 }, r.2, rfl, rfl, rfl, fun hb => ?_⟩
            obtain ⟨f1, f2⟩ := e2 hb
            have hfit : ∀ x, x ∈ L.map (newP p) → FitE x.2 := fun x hxx => by
              obtain ⟨y, hy, rfl⟩ := List.mem_map.1 hxx
              have h1 := hI.ids y hy
              refine ⟨h1.1, h1.2, ?_⟩
              show (datS p y.2).length ≤ 255
              rw [dat_len (hI.ok y hy)]; exact (d5 y hy).1.2.2
            have hnr : nar = true → ∀ x, x ∈ L.map (newP p) → Nar x.2 := fun hn x hxx => by
              obtain ⟨y, hy, rfl⟩ := List.mem_map.1 hxx
              have h1 := (d5 y hy).2.1 hn
              refine ⟨f2 hn y hy, ?_, ?_⟩
              · show 1 ≤ (datS p y.2).length
                rw [dat_len (hI.ok y hy)]; exact h1.2.1
              · show (datS p y.2).length ≤ 16
                rw [dat_len (hI.ok y hy)]; exact h1.2.2
            have hws : (L.map (newP p)).map (·.2) = wantS p (elsS k) := by
              rw [hwant, hels, List.map_map, List.map_map]; rfl
            have hoct : oct r.1 := by
              rw [f1]
              have hbt : oct t := fun x hxx => hk.b x (by rw [d3]; exact List.mem_append_right _ hxx)
              have hbb := bodyP_oct (nar := nar) (L := L.map (newP p)) (fun x hxx => hGW.d x.2 (by rw [← hws]; exact List.mem_map.2 ⟨x, hxx, rfl⟩)) hfit hnr
              exact fun x hxx => (List.mem_append.1 hxx).elim (hbb x) (hbt x)
            have hlen : r.1.length = k.ext.length := by rw [f1, d3, List.length_append, List.length_append, newP_len hI.ok]
            refine ⟨⟨hoct, hk.p0, hk.p1, by show r.1.length ≤ _; rw [hlen]; exact hk.l⟩, ?_, hW, hGW, ?_⟩
            · show (if k.head.hasExt = true then (readS k.profile r.1).1 else []) = _
              rw [if_pos hx, f1, readP d1 hfit hnr (by
                have : (L.map (newP p)).map (·.2.id_) = (wantS p (elsS k)).map (·.id_) := by rw [← hws]; simp only [List.map_map]; rfl
                rw [this]; exact hap.2) d6]
              exact hws
            · show k.head.hasExt = _
              rw [hx]; simp
        · rw [decide_eq_false hap, if_pos (by decide)]; exact fail rfl
      · rw [if_neg hok]
        simp only []
        rw [if_pos (by decide)]; exact fail rfl
    · rw [decide_eq_false hkn, if_pos (by decide)]; exact fail rfl
  · have he0 : (!k.head.hasExt || decide ((spotsS k.profile k.ext).2 = 0)) = false := by simpa using he
    rw [he0]
    simp only [Bool.not_false, Bool.not_true, gTF, Option.bind_some, Bool.true_or, if_true]
    exact fail rfl

/-! the law's own list -/
theorem find_take {α : Type} {l : List α} {q : α → Bool} {j : Nat} (hj : j < l.length) : (l.take (j + 1)).find? q = ((l.take j).find? q).or (if q l[j] = true then some l[j] else none) := by
  rw [snoc_take l j hj, List.find?_append]
  congr 1
  by_cases h : q l[j] = true <;> simp [h]

theorem none_before {α : Type} {l : List α} {key : α → Int} {c : Int} (hn : (l.map key).Nodup) {j : Nat} (hj : j < l.length) (h : key l[j] = c) : (l.take j).find? (fun y => decide (key y = c)) = none := by
  rw [List.find?_eq_none]
  intro y hy hc
  have hk : key y = c := by simpa using hc
  have h2 : ((l.take (j + 1)).map key).Nodup := by rw [List.map_take]; exact List.Sublist.nodup (List.take_sublist _ _) hn
  rw [snoc_take l j hj, List.map_append, List.map_singleton, nodup_snoc] at h2
  exact h2.2 (List.mem_map.2 ⟨y, hy, by rw [hk, h]⟩)

def datT (p : Plan) (e : Elem) (j : Nat) : List Int := match (p.over.take j).find? (fun y => decide (y.id_ = e.id_)) with | some y => y.data | none => e.data
def renT (p : Plan) (id : Int) (j : Nat) : Int := match (p.maps.take j).find? (fun m => decide (m.from_ = id)) with | some m => m.to | none => id

theorem datT_next {p : Plan} {e : Elem} {j : Nat} (hn : (p.over.map (·.id_)).Nodup) (hj : j < p.over.length) : datT p e (j + 1) = if p.over[j].id_ = e.id_ then p.over[j].data else datT p e j := by
  unfold datT
  rw [find_take hj]
  by_cases h : p.over[j].id_ = e.id_
  · rw [none_before (key := fun y : Elem => y.id_) hn hj h]
    simp [h]
  · simp [h]
theorem renT_next {p : Plan} {id : Int} {j : Nat} (hn : (p.maps.map (·.from_)).Nodup) (hj : j < p.maps.length) : renT p id (j + 1) = if p.maps[j].from_ = id then p.maps[j].to else renT p id j := by
  unfold renT
  rw [find_take hj]
  by_cases h : p.maps[j].from_ = id
  · rw [none_before (key := fun m : GMap => m.from_) hn hj h]
    simp [h]
  · simp [h]

theorem law_l5 {p : Plan} (hs : SmallP p) (hn : (p.maps.map (·.from_)).Nodup) {l v : List Elem} {i : Nat} (hi : i < l.length) (hl : l.length ≤ 1000) (hv : v.length ≤ 1000) (b : Bool) (d : List Int) :
    law29_PlanElements_l5 none p l v (i : Int) b 0 ⟨l[i].id_, d⟩ = some (.inl (v ++ (if b then [] else [⟨renS p l[i].id_, d⟩]), ((i + 1 : Nat) : Int))) := by
  have hm := hs.m
  unfold law29_PlanElements_l5
  have ei : ar .add .i64 (i : Int) 1 = ((i + 1 : Nat) : Int) := by rw [ar_add, w_i64 (by omega) (by omega)]; rfl
  have := loop_seq (step := fun (s : Int × Elem) => law29_PlanElements_s5 none p l v (i : Int) b s.1 s.2) (r := (.inl (v ++ (if b then [] else [⟨renS p l[i].id_, d⟩]), ((i + 1 : Nat) : Int)) : (List Elem × Int) ⊕ Bool)) (fun j => ((j : Int), (⟨renT p l[i].id_ j, d⟩ : Elem))) p.maps.length (fun j hj => by
    show law29_PlanElements_s5 none p l v (i : Int) b (j : Int) ⟨renT p l[i].id_ j, d⟩ = _
    unfold law29_PlanElements_s5 law29_PlanElements_j6
    rw [if_pos (by rw [cm_lss]; simpa using hj), bnd (ix_some (n := j) rfl hj), bnd (ix_some (n := i) rfl hi), ar_add, w_i64 (by omega) (by omega), cm_eql, renT_next hn hj]
    by_cases h : p.maps[j].from_ = l[i].id_
    · rw [if_pos (by simpa using h), bnd (ix_some (n := j) rfl hj), if_pos h]; rfl
    · rw [if_neg (by simpa using h), if_neg h]; rfl) (by
    show law29_PlanElements_s5 none p l v (i : Int) b _ _ = _
    unfold law29_PlanElements_s5 law29_PlanElements_j7
    have e : renT p l[i].id_ p.maps.length = renS p l[i].id_ := by
      unfold renT renS; rw [List.take_length]
      cases p.maps.find? (fun m => decide (m.from_ = l[i].id_)) <;> rfl
    rw [if_neg (by rw [cm_lss]; simp), e, ei]
    cases b with
    | true => rw [if_neg (by decide), if_pos rfl, List.append_nil]; rfl
    | false => rw [if_pos (by decide), if_neg (by decide), bnd (app_some (by simp; omega))]; rfl)
  simpa [renT] using this

theorem law_l3 {p : Plan} (hs : SmallP p) (hn : (p.maps.map (·.from_)).Nodup) (ho : (p.over.map (·.id_)).Nodup) {l v : List Elem} {i : Nat} (hi : i < l.length) (hl : l.length ≤ 1000) (hv : v.length ≤ 1000) (b : Bool) :
    law29_PlanElements_l3 none p l v (i : Int) b 0 l[i] = some (.inl (v ++ (if b then [] else [newS p l[i]]), ((i + 1 : Nat) : Int))) := by
  have hm := hs.o
  unfold law29_PlanElements_l3
  have := loop_seq (step := fun (s : Int × Elem) => law29_PlanElements_s3 none p l v (i : Int) b s.1 s.2) (r := (.inl (v ++ (if b then [] else [newS p l[i]]), ((i + 1 : Nat) : Int)) : (List Elem × Int) ⊕ Bool)) (fun j => ((j : Int), (⟨l[i].id_, datT p l[i] j⟩ : Elem))) p.over.length (fun j hj => by
    show law29_PlanElements_s3 none p l v (i : Int) b (j : Int) ⟨l[i].id_, datT p l[i] j⟩ = _
    unfold law29_PlanElements_s3 law29_PlanElements_j4
    rw [if_pos (by rw [cm_lss]; simpa using hj), bnd (ix_some (n := j) rfl hj), bnd (ix_some (n := i) rfl hi), ar_add, w_i64 (by omega) (by omega), cm_eql, datT_next ho hj]
    by_cases h : p.over[j].id_ = l[i].id_
    · rw [if_pos (by simpa using h), bnd (ix_some (n := j) rfl hj), if_pos h]; rfl
    · rw [if_neg (by simpa using h), if_neg h]; rfl) (by
    show law29_PlanElements_s3 none p l v (i : Int) b _ _ = _
    unfold law29_PlanElements_s3
    have e : datT p l[i] p.over.length = datS p l[i] := by
      unfold datT datS; rw [List.take_length]
      cases p.over.find? (fun y => decide (y.id_ = l[i].id_)) <;> rfl
    rw [if_neg (by rw [cm_lss]; simp), e, law_l5 hs hn hi hl hv b (datS p l[i])]
    rfl)
  simpa [datT] using this

theorem law_l2 {p : Plan} (hs : SmallP p) (hn : (p.maps.map (·.from_)).Nodup) (ho : (p.over.map (·.id_)).Nodup) {l v : List Elem} {i : Nat} (hi : i < l.length) (hl : l.length ≤ 1000) (hv : v.length ≤ 1000) :
    law29_PlanElements_l2 none p l v (i : Int) l[i] false 0 = some (.inl (v ++ (if l[i].id_ ∈ p.drops then [] else [newS p l[i]]), ((i + 1 : Nat) : Int))) := by
  have hm := hs.d
  unfold law29_PlanElements_l2
  have := loop_seq (step := fun (s : Bool × Int) => law29_PlanElements_s2 none p l v (i : Int) l[i] s.1 s.2) (r := (.inl (v ++ (if l[i].id_ ∈ p.drops then [] else [newS p l[i]]), ((i + 1 : Nat) : Int)) : (List Elem × Int) ⊕ Bool)) (fun j => (decide (l[i].id_ ∈ p.drops.take j), (j : Int))) p.drops.length (fun j hj => by
    show law29_PlanElements_s2 none p l v (i : Int) l[i] (decide (l[i].id_ ∈ p.drops.take j)) (j : Int) = _
    unfold law29_PlanElements_s2
    rw [if_pos (by rw [cm_lss]; simpa using hj), ar_add, w_i64 (by omega) (by omega), snoc_take _ j hj]
    by_cases h : l[i].id_ ∈ p.drops.take j
    · rw [decide_eq_true h]
      simp only [Bool.not_true, gTF, Option.bind_some, Bool.true_or]
      rw [decide_eq_true (List.mem_append_left _ h)]; rfl
    · rw [decide_eq_false h]
      simp only [Bool.not_false, gTT, Bool.false_or]
      rw [bnd (ix_some (n := j) rfl hj), bnd (ix_some (n := i) rfl hi), cm_eql]
      congr 3
      refine decide_eq_decide.2 ?_
      simp only [List.mem_append, h, false_or, List.mem_singleton]
      exact eq_comm) (by
    show law29_PlanElements_s2 none p l v (i : Int) l[i] _ _ = _
    unfold law29_PlanElements_s2
    rw [if_neg (by rw [cm_lss]; simp), List.take_length, law_l3 hs hn ho hi hl hv]
    by_cases h : l[i].id_ ∈ p.drops
    · rw [decide_eq_true h, if_pos rfl, if_pos h]; rfl
    · rw [decide_eq_false h, if_neg (show ¬ false = true by decide), if_neg h]; rfl)
  simpa using this

theorem law_l1 {p : Plan} {k : Packet} {x2 : Packet × Int} {l : List Elem} (hs : SmallP p) (hn : (p.maps.map (·.from_)).Nodup) (ho : (p.over.map (·.id_)).Nodup) (hl : l.length ≤ 300) (hW : RightL (wantS p l)) (hG : GoodE (wantS p l))
    (hx : x2.1.head.hasExt = (decide (0 < (wantS p l).length) || (!plan_turns p && k.head.hasExt))) : law29_PlanElements_l1 none p k x2 l (wantS p l) [] 0 = some true := by
  have hm := hs.a
  have hWl := right_len hW
  unfold law29_PlanElements_l1
  have := loop_seq (step := fun (s : List Elem × Int) => law29_PlanElements_s1 none p k x2 l (wantS p l) s.1 s.2) (r := true) (fun i => ((keptS p (l.take i)).map (newS p), (i : Int))) l.length (fun i hi => by
    show law29_PlanElements_s1 none p k x2 l (wantS p l) ((keptS p (l.take i)).map (newS p)) (i : Int) = _
    have hkt : keptS p (l.take (i + 1)) = keptS p (l.take i) ++ (if l[i].id_ ∈ p.drops then [] else [l[i]]) := by
      unfold keptS
      rw [snoc_take l i hi, List.filter_append]
      congr 1
      by_cases hx : l[i].id_ ∈ p.drops <;> simp [hx]
    have hk : (keptS p (l.take i)).length ≤ i := Nat.le_trans (List.length_filter_le _ _) (by rw [List.length_take]; omega)
    unfold law29_PlanElements_s1
    rw [if_pos (by rw [cm_lss]; simpa using hi), bnd (ix_some (n := i) rfl hi), law_l2 hs hn ho hi (by omega) (by rw [List.length_map]; omega), hkt, List.map_append]
    by_cases hx : l[i].id_ ∈ p.drops
    · rw [if_pos hx, if_pos hx]; rfl
    · rw [if_neg hx, if_neg hx]; rfl) (by
    show law29_PlanElements_s1 none p k x2 l (wantS p l) _ _ = _
    have hk : (keptS p l).length ≤ l.length := List.length_filter_le _ _
    unfold law29_PlanElements_s1
    rw [if_neg (by rw [cm_lss]; simp), List.take_length, bnd (app_some (by rw [List.length_map]; omega))]
    have e : (keptS p l).map (newS p) ++ p.adds = wantS p l := rfl
    rw [e, bnd (sameE_eq hG hG (by omega)), decide_eq_true (show wantS p l = wantS p l from rfl)]
    simp only [gTT]
    rw [bnd (eright_eq (by omega)), decide_eq_true hW]
    have hkp : plan_Keeps (Plan.mk false false false 0 false 0 false 0 false 0 [] [] p.drops p.adds false) = !plan_turns p := by
      unfold plan_Keeps plan_turns; simp
    rw [hkp, hx, cm_gtr]
    have hdec : decide (0 < ((wantS p l).length : Int)) = decide (0 < (wantS p l).length) := decide_eq_decide.2 (by omega)
    rw [hdec]
    have hb : ∀ x : Bool, bq .eql x x = true := by decide
    rw [hb]
    rfl)
  simpa [keptS] using this

theorem short29 {p : Plan} (w : wf_Plan p) : ∃ b, ref29_Short none p = some b ∧ (b = true → SmallP p) := by
  have hov := w.2.2.2.2.2.2.2.2.2.2.2.1
  have had := w.2.2.2.2.2.2.2.2.2.2.2.2.2.1
  have hmax : maxLen ≤ 9223372036854775807 := by decide
  have ho := hov.1; have ha := had.1
  unfold ref29_Short
  by_cases h : p.maps.length ≤ 300 ∧ p.drops.length ≤ 300
  · have c : ((cm .leq (p.maps.length : Int) 300) && (cm .leq (p.drops.length : Int) 300)) = true := by
      simp only [cm_leq, Bool.and_eq_true, decide_eq_true_eq]; omega
    rw [c, gTT, bnd (short_eq (by omega))]
    by_cases h1 : ShortL p.over
    · rw [decide_eq_true h1]
      simp only [Bool.and_self, gTT]
      rw [bnd (short_eq (by omega))]
      exact ⟨_, rfl, fun hb => ⟨h.1, h1.1, h.2, by have : ShortL p.adds := by simpa using hb
                                                   exact this.1⟩⟩
    · rw [decide_eq_false h1]
      exact ⟨false, rfl, fun h => by cases h⟩
  · have c : ((cm .leq (p.maps.length : Int) 300) && (cm .leq (p.drops.length : Int) 300)) = false := by
      rw [Bool.eq_false_iff]
      simp only [cm_leq, ne_eq, Bool.and_eq_true, decide_eq_true_eq]; omega
    rw [c]
    exact ⟨false, rfl, fun h => by cases h⟩

theorem planElements_true {p : Plan} {k : Packet} (wp : wf_Plan p) (wk : wf_Packet k) : law29_PlanElements none p k = some true := by
  obtain ⟨b, hb, hsm⟩ := short29 wp
  unfold law29_PlanElements
  rw [bnd hb]
  by_cases hsh : b = true ∧ ref06_Short k = true
  · obtain ⟨h1, h2⟩ := hsh
    have hs := hsm h1
    have hkl := short_len h2
    rw [h1, h2, if_neg (by decide)]
    have hGK : GoodK k := ⟨octs wk.2.2.1, (in_u16.1 wk.2.1).1, (in_u16.1 wk.2.1).2, by omega⟩
    have gov : GoodE p.over := goodE_of wp.2.2.2.2.2.2.2.2.2.2.2.1
    have gad : GoodE p.adds := goodE_of wp.2.2.2.2.2.2.2.2.2.2.2.2.2.1
    have hA : ∃ x e, plan_Apply none p k = some (x, e) ∧ (e = 0 → plan_Elements p = true → GoodK x ∧ elsS x = wantS p (elsS k) ∧ RightL (wantS p (elsS k)) ∧ GoodE (wantS p (elsS k)) ∧ ApartL (p.maps.map (·.from_)) ∧ RightL p.over ∧
        x.head.hasExt = (decide (0 < (wantS p (elsS k)).length) || (!plan_turns p && k.head.hasExt))) := by
      unfold plan_Apply plan_behind
      cases hr : packet_Right k with
      | false =>
        simp only [Bool.not_false, Bool.not_true, gTF, Option.bind_some, Bool.true_or, if_true]
        exact ⟨_, _, rfl, fun h => by cases h⟩
      | true =>
        simp only [Bool.not_true, Bool.not_false, gTT]
        obtain ⟨c, hc, hcr⟩ := planRight hs
        rw [hc]
        simp only [Option.bind_some, Bool.false_or]
        cases c with
        | false => exact ⟨_, _, rfl, fun h => by cases h⟩
        | true =>
          obtain ⟨hf, hov, had⟩ := hcr rfl
          rw [if_neg (by decide)]
          by_cases hE : plan_Elements p = true
          · rw [if_pos hE]
            obtain ⟨k', b', he, hc1, hc2, hspec⟩ := extend_spec hs hGK hf hov had gov gad hE
            rw [bnd he]
            simp only [j1_eq, Option.bind_some]
            rw [if_neg (by decide)]
            by_cases hb' : (b' && packet_Right (behS p k')) = true
            · rw [hb', if_neg (by decide)]
              have hbt : b' = true := by
                simp only [Bool.and_eq_true] at hb'; exact hb'.1
              obtain ⟨g1, g2, g3, g4, g5⟩ := hspec hbt
              have ho : plan_own (behS p k') = some (behS p k') := own_eq (by show k'.head.csrc.length ≤ _; rw [hc1]; omega) (by show k'.ext.length ≤ _; have := g1.l; omega) (by show k'.payload.length ≤ _; rw [hc2]; omega)
              rw [bnd ho]
              refine ⟨behS p k', 0, rfl, fun _ _ => ⟨⟨g1.b, g1.p0, g1.p1, g1.l⟩, ?_, g3, g4, hf, hov, g5⟩⟩
              rw [← g2]; rfl
            · have : (b' && packet_Right (behS p k')) = false := by simpa using hb'
              rw [this, if_pos (by decide)]
              exact ⟨_, _, rfl, fun h => by cases h⟩
          · rw [if_neg hE]
            simp only [j1_eq, Option.bind_some]
            rw [if_neg (by decide)]
            by_cases hb' : (true && packet_Right (behS p k)) = true
            · rw [hb', if_neg (by decide)]
              have ho : plan_own (behS p k) = some (behS p k) := own_eq (by show k.head.csrc.length ≤ _; omega) (by show k.ext.length ≤ _; omega) (by show k.payload.length ≤ _; omega)
              rw [bnd ho]
              exact ⟨_, _, rfl, fun _ h => absurd h hE⟩
            · have : (true && packet_Right (behS p k)) = false := by simpa using hb'
              rw [this, if_pos (by decide)]
              exact ⟨_, _, rfl, fun h => by cases h⟩
    obtain ⟨x, e, hA1, hA2⟩ := hA
    rw [bnd hA1]
    by_cases he : e = 0 ∧ plan_Elements p = true
    · obtain ⟨he0, hE⟩ := he
      obtain ⟨g1, g2, g3, g4, g5, g6, g7⟩ := hA2 he0 hE
      have hr := (els_right hGK).1
      have hll := right_len hr
      rw [he0, hE, if_neg (show ¬ (cm .neq (0 : Int) 0 || !true) = true by decide), bnd (read_eq' hGK), bnd (read_eq' g1), g2]
      exact law_l1 hs g5.2 g6.2 (by omega) g3 g4 g7
    · rw [if_pos (by
        rw [cm_neq]
        by_cases h0 : e = 0
        · have : ¬ plan_Elements p = true := fun h => he ⟨h0, h⟩
          have : plan_Elements p = false := by simpa using this
          rw [this]; simp
        · simp [h0])]
  · rw [if_pos (by
      cases hb1 : b with
      | false => rfl
      | true =>
        cases hk1 : ref06_Short k with
        | false => rfl
        | true => exact absurd ⟨hb1, hk1⟩ hsh)]
end Xb
