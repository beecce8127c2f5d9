/- Own text: LPlan2. -/
import Derived.Test.YtiomfajkappjhaaLCont
import Derived.Test.YtiomfajkappjhaaLPlan1
set_option linter.all false
set_option linter.unusedVariables false
set_option linter.unusedSimpArgs false
set_option linter.unnecessarySimpa false
set_option linter.deprecated false
/-! What the functions of a plan answer. -/
namespace Xb
open Go

def ApartL (l : List Int) : Prop := (∀ x, x ∈ l → 1 ≤ x ∧ x ≤ 255) ∧ l.Nodup
instance (l : List Int) : Decidable (ApartL l) := inferInstanceAs (Decidable (_ ∧ _))

theorem snoc_take {α : Type} (l : List α) (i : Nat) (hi : i < l.length) : l.take (i + 1) = l.take i ++ [l[i]] := by
  rw [List.take_add_one, List.getElem?_eq_getElem hi]; rfl

theorem mlook_ones {l : List Int} {k : Int} : mgetD (l.reverse.map fun x => (x, (1 : Int))) k 0 = if k ∈ l then 1 else 0 := by
  have key : ∀ (m : List Int), mgetD (m.map fun x => (x, (1 : Int))) k 0 = if k ∈ m then 1 else 0 := by
    intro m
    unfold mgetD
    induction m with
    | nil => simp [mlook]
    | cons a m ih =>
      simp only [List.map_cons, mlook]
      by_cases h : a = k
      · rw [if_pos h]; simp [h]
      · rw [if_neg h, ih]
        simp [Ne.symm h]
  rw [key]
  simp

theorem apart_eq {l : List Int} (hl : l.length ≤ 1000000) : plan_apart none l = some (decide (ApartL l)) := by
  unfold plan_apart plan_apart_l1
  have key : ∀ m i, i + m = l.length → ApartL (l.take i) → loopG none (fun (s : (List (Int × Int)) × Int) => plan_apart_s1 none l s.1 s.2) ((l.take i).reverse.map (fun x => (x, (1 : Int))), (i : Int)) = some (decide (ApartL l)) := by
    intro m
    induction m with
    | zero =>
      intro i hi hr
      have e : i = l.length := by omega
      subst e
      rw [List.take_length] at hr ⊢
      refine loop_inr ?_
      show plan_apart_s1 none l _ _ = _
      unfold plan_apart_s1
      rw [if_neg (by rw [cm_lss]; simp), decide_eq_true hr]; rfl
    | succ m ih =>
      intro i hi hr
      have hil : i < l.length := by omega
      have hlen : ((l.take i).reverse.map fun x => (x, (1 : Int))).length ≤ 4294967296 := by simp; omega
      have hp : ∀ v, mputO ((l.take i).reverse.map fun x => (x, (1 : Int))) l[i] v = some ((l[i], v) :: (l.take i).reverse.map fun x => (x, (1 : Int))) := fun v => by unfold mputO; rw [if_pos hlen]
      have hg : ∀ v (m : List (Int × Int)), mgetD ((l[i], v) :: m) l[i] 0 = v := fun v m => by unfold mgetD; simp [mlook]
      by_cases h : (1 ≤ l[i] ∧ l[i] ≤ 255) ∧ l[i] ∉ l.take i
      · have step : plan_apart_s1 none l ((l.take i).reverse.map fun x => (x, (1 : Int))) (i : Int) = some (.inl ((l.take (i + 1)).reverse.map (fun x => (x, (1 : Int))), ((i + 1 : Nat) : Int))) := by
          unfold plan_apart_s1
          rw [if_pos (by rw [cm_lss]; simpa using hil), bnd (ix_some (n := i) rfl hil), mlook_ones, if_neg h.2, bnd (hp _), hg, if_neg (by
            have : ar .add .i64 0 1 = 1 := by decide
            rw [this, cm_lss, cm_gtr, cm_gtr]; simp; omega), ar_add, w_i64 (by omega) (by omega)]
          have : ar .add .i64 0 1 = 1 := by decide
          rw [snoc_take l i hil, List.reverse_append, List.reverse_singleton, List.singleton_append, List.map_cons, ar_add, w_i64 (by omega) (by omega)]
          rfl
        rw [loop_inl step]
        refine ih (i + 1) (by omega) ?_
        rw [snoc_take l i hil]
        refine ⟨fun x hx => ?_, nodup_snoc.2 ⟨hr.2, h.2⟩⟩
        rcases List.mem_append.1 hx with hx | hx
        · exact hr.1 x hx
        · rw [List.mem_singleton.1 hx]; exact h.1
      · refine loop_inr ?_
        show plan_apart_s1 none l ((l.take i).reverse.map fun x => (x, (1 : Int))) (i : Int) = _
        unfold plan_apart_s1
        have hn : ¬ ApartL l := by
          intro ha
          refine h ⟨ha.1 _ (List.getElem_mem hil), fun hm => ?_⟩
          have h2 : (l.take (i + 1)).Nodup := List.Sublist.nodup (List.take_sublist _ _) ha.2
          rw [snoc_take l i hil, nodup_snoc] at h2
          exact h2.2 hm
        rw [if_pos (by rw [cm_lss]; simpa using hil), bnd (ix_some (n := i) rfl hil), mlook_ones, bnd (hp _), hg, if_pos (by
          rw [cm_lss, cm_gtr, cm_gtr, ar_add]
          by_cases hm : l[i] ∈ l.take i
          · rw [if_pos hm, w_i64 (by omega) (by omega)]; simp
          · have : ¬ (1 ≤ l[i] ∧ l[i] ≤ 255) := fun h1 => h ⟨h1, hm⟩
            simp; omega), decide_eq_false hn]
        rfl
  have := key l.length 0 (by omega) ⟨by simp, by simp⟩
  simpa using this

theorem idsE_eq {l : List Elem} (hl : l.length ≤ 1000000) : plan_ids_Elem_f0 none l = some (l.map (·.id_)) := by
  unfold plan_ids_Elem_f0 plan_ids_Elem_f0_l1
  have := loop_seq (step := fun (s : List Int × Int) => plan_ids_Elem_f0_s1 none l s.1 s.2) (r := l.map (·.id_)) (fun i => ((l.take i).map (·.id_), (i : Int))) l.length (fun i hi => by
    show plan_ids_Elem_f0_s1 none l ((l.take i).map (·.id_)) (i : Int) = _
    unfold plan_ids_Elem_f0_s1 plan_ident
    rw [if_pos (by rw [cm_lss]; simpa using hi), bnd (ix_some (n := i) rfl hi), bnd (app_some (by simp; omega)), ar_add, w_i64 (by omega) (by omega), snoc_take l i hi, List.map_append]
    rfl) (by
    show plan_ids_Elem_f0_s1 none l _ _ = _
    unfold plan_ids_Elem_f0_s1
    rw [if_neg (by rw [cm_lss]; simp), List.take_length]; rfl)
  simpa using this
theorem idsF_eq {l : List GMap} (hl : l.length ≤ 1000000) : plan_ids_Map_f0 none l = some (l.map (·.from_)) := by
  unfold plan_ids_Map_f0 plan_ids_Map_f0_l1
  have := loop_seq (step := fun (s : List Int × Int) => plan_ids_Map_f0_s1 none l s.1 s.2) (r := l.map (·.from_)) (fun i => ((l.take i).map (·.from_), (i : Int))) l.length (fun i hi => by
    show plan_ids_Map_f0_s1 none l ((l.take i).map (·.from_)) (i : Int) = _
    unfold plan_ids_Map_f0_s1 plan_from
    rw [if_pos (by rw [cm_lss]; simpa using hi), bnd (ix_some (n := i) rfl hi), bnd (app_some (by simp; omega)), ar_add, w_i64 (by omega) (by omega), snoc_take l i hi, List.map_append]
    rfl) (by
    show plan_ids_Map_f0_s1 none l _ _ = _
    unfold plan_ids_Map_f0_s1
    rw [if_neg (by rw [cm_lss]; simp), List.take_length]; rfl)
  simpa using this
theorem idsT_eq {l : List GMap} (hl : l.length ≤ 1000000) : plan_ids_Map_f1 none l = some (l.map (·.to)) := by
  unfold plan_ids_Map_f1 plan_ids_Map_f1_l1
  have := loop_seq (step := fun (s : List Int × Int) => plan_ids_Map_f1_s1 none l s.1 s.2) (r := l.map (·.to)) (fun i => ((l.take i).map (·.to), (i : Int))) l.length (fun i hi => by
    show plan_ids_Map_f1_s1 none l ((l.take i).map (·.to)) (i : Int) = _
    unfold plan_ids_Map_f1_s1 plan_to
    rw [if_pos (by rw [cm_lss]; simpa using hi), bnd (ix_some (n := i) rfl hi), bnd (app_some (by simp; omega)), ar_add, w_i64 (by omega) (by omega), snoc_take l i hi, List.map_append]
    rfl) (by
    show plan_ids_Map_f1_s1 none l _ _ = _
    unfold plan_ids_Map_f1_s1
    rw [if_neg (by rw [cm_lss]; simp), List.take_length]; rfl)
  simpa using this

structure SmallP (p : Plan) : Prop where
  m : p.maps.length ≤ 300
  o : p.over.length ≤ 300
  d : p.drops.length ≤ 300
  a : p.adds.length ≤ 300

/-- whether a plan is right, as far as it is needed -/
theorem planRight {p : Plan} (h : SmallP p) : ∃ b, plan_Right none p = some b ∧ (b = true → ApartL (p.maps.map (·.from_)) ∧ RightL p.over ∧ RightL p.adds) := by
  have hm := h.m; have ho := h.o; have hd := h.d; have ha := h.a
  unfold plan_Right
  cases hs : plan_single p with
  | false => exact ⟨false, by simp only [Bool.not_false, Bool.not_true, gTF, Option.bind_some, Bool.true_or, if_true], fun h => by cases h⟩
  | true =>
    simp only [Bool.not_true, Bool.not_false, gTT]
    rw [idsF_eq (by omega)]
    simp only [Option.bind_some]
    rw [apart_eq (by simp; omega)]
    simp only [Option.bind_some, Bool.false_or]
    by_cases h1 : ApartL (p.maps.map (·.from_))
    · rw [decide_eq_true h1]
      simp only [Bool.not_true, Bool.not_false, gTT]
      rw [idsT_eq (by omega)]
      simp only [Option.bind_some]
      rw [apart_eq (by simp; omega)]
      simp only [Option.bind_some, Bool.false_or]
      by_cases h2 : ApartL (p.maps.map (·.to))
      · rw [decide_eq_true h2]
        simp only [Bool.not_true, Bool.not_false, gTT]
        rw [eright_eq (by omega)]
        simp only [Option.bind_some, Bool.false_or]
        by_cases h3 : RightL p.over
        · rw [decide_eq_true h3]
          simp only [Bool.not_true, Bool.not_false, gTT]
          rw [eright_eq (by omega)]
          simp only [Option.bind_some, Bool.false_or]
          by_cases h4 : RightL p.adds
          · rw [decide_eq_true h4]
            simp only [Bool.not_true, Bool.not_false, gTT]
            rw [apart_eq (by omega)]
            simp only [Option.bind_some, Bool.false_or]
            by_cases h5 : ApartL p.drops
            · rw [decide_eq_true h5]
              simp only [Bool.not_true]
              rw [if_neg (by decide), idsE_eq (by omega)]
              simp only [Option.bind_some]
              rw [bnd (app_some (by simp; omega)), bnd (ContainsFunc_eq (p := fun y => decide (y ∈ p.maps.map (·.from_) ++ p.over.map (·.id_))) (by omega) (fun x _ => by
                unfold plan_Right_1
                rw [bnd (Contains_eq (by simp; omega))]))]
              exact ⟨_, rfl, fun _ => ⟨h1, h3, h4⟩⟩
            · rw [decide_eq_false h5]
              exact ⟨false, rfl, fun h => by cases h⟩
          · rw [decide_eq_false h4]
            exact ⟨false, rfl, fun h => by cases h⟩
        · rw [decide_eq_false h3]
          exact ⟨false, rfl, fun h => by cases h⟩
      · rw [decide_eq_false h2]
        exact ⟨false, rfl, fun h => by cases h⟩
    · rw [decide_eq_false h1]
      exact ⟨false, rfl, fun h => by cases h⟩

/-! what becomes of an element -/
def renS (p : Plan) (id : Int) : Int := match p.maps.find? (fun m => decide (m.from_ = id)) with | some m => m.to | none => id
def datS (p : Plan) (e : Elem) : List Int := match p.over.find? (fun y => decide (y.id_ = e.id_)) with | some y => y.data | none => e.data
def okS (p : Plan) (e : Elem) : Bool := match p.over.find? (fun y => decide (y.id_ = e.id_)) with | some y => decide (y.data.length = e.data.length) | none => true
def newS (p : Plan) (e : Elem) : Elem := ⟨renS p e.id_, datS p e⟩

theorem find_by {α β : Type} {l : List α} {q : α → Bool} {step : Int → Option (Int ⊕ β)} {hit : α → β} {miss : β} (hl : l.length ≤ 1000000) (h1 : ∀ i (hi : i < l.length), step (i : Nat) = if q l[i] = true then some (.inr (hit l[i])) else some (.inl (ar .add .i64 (i : Int) 1))) (h2 : step (l.length : Nat) = some (.inr miss)) :
    loopG none step 0 = some (match l.find? q with | some x => hit x | none => miss) := by
  have key : ∀ m i, i + m = l.length → loopG none step (i : Nat) = some (match (l.drop i).find? q with | some x => hit x | none => miss) := by
    intro m
    induction m with
    | zero =>
      intro i hi
      have e : i = l.length := by omega
      subst e
      rw [loop_inr h2, List.drop_length]; rfl
    | succ m ih =>
      intro i hi
      have hil : i < l.length := by omega
      have hs := h1 i hil
      rw [List.drop_eq_getElem_cons hil, List.find?_cons]
      cases hq : q l[i] with
      | true =>
        rw [hq, if_pos rfl] at hs
        rw [loop_inr hs]
      | false =>
        rw [hq, if_neg (by decide), ar_add, w_i64 (by omega) (by omega)] at hs
        rw [loop_inl hs]
        exact ih (i + 1) (by omega)
  have := key l.length 0 (by omega)
  simpa using this

theorem data_eq {p : Plan} (hl : p.over.length ≤ 300) (e : Elem) : plan_data none p e = some (datS p e, okS p e) := by
  unfold plan_data plan_data_l1
  rw [find_by (l := p.over) (q := fun y => decide (y.id_ = e.id_)) (hit := fun y => (y.data, decide (y.data.length = e.data.length))) (miss := (e.data, true)) (by omega) (fun i hi => by
    show plan_data_s1 none p e (i : Int) = _
    unfold plan_data_s1
    rw [if_pos (by rw [cm_lss]; simpa using hi), bnd (ix_some (n := i) rfl hi), cm_eql]
    by_cases h : p.over[i].id_ = e.id_
    · rw [if_pos (by simpa using h), if_pos (by simpa using h), cm_eql]
      simp; omega
    · rw [if_neg (by simpa using h), if_neg (by simpa using h)]) (by
    show plan_data_s1 none p e _ = _
    unfold plan_data_s1
    rw [if_neg (by rw [cm_lss]; simp)]; rfl)]
  unfold datS okS
  cases p.over.find? (fun y => decide (y.id_ = e.id_)) <;> rfl

theorem ren_eq {p : Plan} (hl : p.maps.length ≤ 300) (id : Int) : plan_renamed none p id = some (renS p id) := by
  unfold plan_renamed plan_renamed_l1
  rw [find_by (l := p.maps) (q := fun m => decide (m.from_ = id)) (hit := fun m => m.to) (miss := id) (by omega) (fun i hi => by
    show plan_renamed_s1 none p id (i : Int) = _
    unfold plan_renamed_s1
    rw [if_pos (by rw [cm_lss]; simpa using hi), bnd (ix_some (n := i) rfl hi), cm_eql]
    by_cases h : p.maps[i].from_ = id
    · rw [if_pos (by simpa using h), if_pos (by simpa using h)]; rfl
    · rw [if_neg (by simpa using h), if_neg (by simpa using h)]) (by
    show plan_renamed_s1 none p id _ = _
    unfold plan_renamed_s1
    rw [if_neg (by rw [cm_lss]; simp)]; rfl)]
  unfold renS
  cases p.maps.find? (fun m => decide (m.from_ = id)) <;> rfl

def keptS (p : Plan) (l : List Elem) : List Elem := l.filter fun e => !decide (e.id_ ∈ p.drops)
def wantS (p : Plan) (l : List Elem) : List Elem := (keptS p l).map (newS p) ++ p.adds

theorem left_eq {p : Plan} (h : SmallP p) {l : List Elem} (hl : l.length ≤ 300) :
    plan_left none p l = some (if (keptS p l).all (okS p) then (wantS p l, decide (ApartL ((wantS p l).map (·.id_)))) else ([], false)) := by
  have hm := h.m; have ho := h.o; have hd := h.d; have ha := h.a
  unfold plan_left plan_left_l1
  have key : ∀ m i, i + m = l.length → (keptS p (l.take i)).all (okS p) = true → loopG none (fun (s : List Elem × Int × Plan) => plan_left_s1 none l s.1 s.2.1 s.2.2) ((keptS p (l.take i)).map (newS p), (i : Int), p) = some (if (keptS p l).all (okS p) then (wantS p l, decide (ApartL ((wantS p l).map (·.id_)))) else ([], false)) := by
    intro m
    induction m with
    | zero =>
      intro i hi hok
      have e : i = l.length := by omega
      subst e
      rw [List.take_length] at hok ⊢
      refine loop_inr ?_
      show plan_left_s1 none l ((keptS p l).map (newS p)) (l.length : Int) p = _
      have hk : (keptS p l).length ≤ l.length := List.length_filter_le _ _
      unfold plan_left_s1
      rw [if_neg (by rw [cm_lss]; simp), bnd (app_some (by rw [List.length_map]; omega)), bnd (idsE_eq (by rw [List.length_append, List.length_map]; omega)), bnd (apart_eq (by simp; omega)), hok, if_pos rfl]
      rfl
    | succ m ih =>
      intro i hi hok
      have hil : i < l.length := by omega
      have hkt : keptS p (l.take (i + 1)) = keptS p (l.take i) ++ (if l[i].id_ ∈ p.drops then [] else [l[i]]) := by
        unfold keptS
        rw [snoc_take l i hil, List.filter_append]
        congr 1
        by_cases hx : l[i].id_ ∈ p.drops <;> simp [hx]
      have hk : (keptS p (l.take i)).length ≤ i := Nat.le_trans (List.length_filter_le _ _) (by rw [List.length_take]; omega)
      by_cases hx : l[i].id_ ∈ p.drops
      · have step : plan_left_s1 none l ((keptS p (l.take i)).map (newS p)) (i : Int) p = some (.inl ((keptS p (l.take (i + 1))).map (newS p), ((i + 1 : Nat) : Int), p)) := by
          unfold plan_left_s1 plan_left_j2
          rw [if_pos (by rw [cm_lss]; simpa using hil), bnd (ix_some (n := i) rfl hil), bnd (Contains_eq (by omega)), decide_eq_true hx, if_pos rfl, hkt, if_pos hx, List.append_nil, ar_add, w_i64 (by omega) (by omega)]
          rfl
        rw [loop_inl step]
        refine ih (i + 1) (by omega) ?_
        rw [hkt, if_pos hx, List.append_nil]; exact hok
      · by_cases ho' : okS p l[i] = true
        · have step : plan_left_s1 none l ((keptS p (l.take i)).map (newS p)) (i : Int) p = some (.inl ((keptS p (l.take (i + 1))).map (newS p), ((i + 1 : Nat) : Int), p)) := by
            unfold plan_left_s1 plan_left_j2
            rw [if_pos (by rw [cm_lss]; simpa using hil), bnd (ix_some (n := i) rfl hil), bnd (Contains_eq (by omega)), decide_eq_false hx, if_neg (by decide), bnd (data_eq (by omega) _), ho', if_neg (show ¬ (!true) = true by decide), bnd (ren_eq (by omega) _), bnd (app_some (by simp; omega)), hkt, if_neg hx, List.map_append, ar_add, w_i64 (by omega) (by omega)]
            rfl
          rw [loop_inl step]
          refine ih (i + 1) (by omega) ?_
          rw [hkt, if_neg hx, List.all_append, hok]; simp [ho']
        · refine loop_inr ?_
          show plan_left_s1 none l ((keptS p (l.take i)).map (newS p)) (i : Int) p = _
          have ho2 : okS p l[i] = false := by simpa using ho'
          have hall : (keptS p l).all (okS p) = false := by
            rw [List.all_eq_false]
            exact ⟨l[i], List.mem_filter.2 ⟨List.getElem_mem hil, by simp [hx]⟩, by simp [ho2]⟩
          unfold plan_left_s1
          rw [if_pos (by rw [cm_lss]; simpa using hil), bnd (ix_some (n := i) rfl hil), bnd (Contains_eq (by omega)), decide_eq_false hx, if_neg (by decide), bnd (data_eq (by omega) _), ho2, if_pos (show (!false) = true by decide), hall]
          rfl
  have := key l.length 0 (by omega) (by simp [keptS])
  simpa [keptS] using this
end Xb
