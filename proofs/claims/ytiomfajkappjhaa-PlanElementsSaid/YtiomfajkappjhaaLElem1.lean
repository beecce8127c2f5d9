/- Own text: LElem1. -/
import Derived.Test.YtiomfajkappjhaaLPad
set_option linter.all false
set_option linter.unusedVariables false
set_option linter.unusedSimpArgs false
set_option linter.unnecessarySimpa false
set_option linter.deprecated false
namespace Xb
open Go

def oct (l : List Int) : Prop := ∀ x, x ∈ l → 0 ≤ x ∧ x ≤ 255
def FitE (e : Elem) : Prop := 1 ≤ e.id_ ∧ e.id_ ≤ 255 ∧ e.data.length ≤ 255
instance (e : Elem) : Decidable (FitE e) := inferInstanceAs (Decidable (_ ∧ _))
def RightL (l : List Elem) : Prop := (∀ e, e ∈ l → FitE e) ∧ (l.map (·.id_)).Nodup
instance (l : List Elem) : Decidable (RightL l) := inferInstanceAs (Decidable (_ ∧ _))
theorem mlook_ids {l : List Elem} {k : Int} : mgetD (l.reverse.map fun e => (e.id_, true)) k false = decide (k ∈ l.map (·.id_)) := by
  have key : ∀ (m : List Elem), mgetD (m.map fun e => (e.id_, true)) k false = decide (k ∈ m.map (·.id_)) := by
    intro m
    unfold mgetD
    induction m with
    | nil => simp [mlook]
    | cons a m ih =>
      simp only [List.map_cons, mlook]
      by_cases h : a.id_ = k
      · rw [if_pos h]; simp [h]
      · rw [if_neg h, ih]
        simp [Ne.symm h]
  rw [key]
  simp
theorem right_step {l : List Elem} {i : Nat} (hl : l.length ≤ 1000000) (hi : i < l.length) :
    elem_Right_s1 none l ((l.take i).reverse.map fun e => (e.id_, true)) (i : Int) =
      if FitE l[i] ∧ l[i].id_ ∉ (l.take i).map (·.id_) then some (.inl ((l.take (i + 1)).reverse.map (fun e => (e.id_, true)), ((i + 1 : Nat) : Int))) else some (.inr false) := by
  unfold elem_Right_s1
  rw [if_pos (by rw [cm_lss]; simpa using hi), bnd (ix_some (n := i) rfl hi), mlook_ids]
  by_cases h : FitE l[i] ∧ l[i].id_ ∉ (l.take i).map (·.id_)
  · have h1 := h.1
    unfold FitE at h1
    rw [if_pos h, if_neg (by rw [decide_eq_false h.2, cm_lss, cm_gtr, cm_gtr]; simp; omega)]
    have hp : mputO ((l.take i).reverse.map fun e => (e.id_, true)) l[i].id_ true = some ((l.take (i + 1)).reverse.map fun e => (e.id_, true)) := by
      unfold mputO
      have e : l.take (i + 1) = l.take i ++ [l[i]] := by rw [List.take_add_one, List.getElem?_eq_getElem hi]; rfl
      rw [if_pos (by simp; omega), e, List.reverse_append, List.reverse_singleton, List.singleton_append, List.map_cons]
    rw [bnd hp, ar_add, w_i64 (by omega) (by omega)]
    rfl
  · rw [if_neg h, if_pos (by
      by_cases h2 : l[i].id_ ∈ (l.take i).map (·.id_)
      · rw [decide_eq_true h2, Bool.or_true]
      · have h1 : ¬ FitE l[i] := fun h1 => h ⟨h1, h2⟩
        unfold FitE at h1
        rw [decide_eq_false h2, cm_lss, cm_gtr, cm_gtr]
        simp only [Bool.or_false, Bool.or_eq_true, decide_eq_true_eq]
        omega)]
    rfl
theorem nodup_snoc {l : List Int} {x : Int} : (l ++ [x]).Nodup ↔ l.Nodup ∧ x ∉ l := by
  rw [List.nodup_append]
  constructor
  · rintro ⟨h1, _, h3⟩; exact ⟨h1, fun hx => h3 x hx x (by simp) rfl⟩
  · rintro ⟨h1, h2⟩; exact ⟨h1, by simp, fun a ha b hb e => by simp at hb; subst hb; exact h2 (e ▸ ha)⟩
theorem right_take {l : List Elem} {i : Nat} (hi : i < l.length) : RightL (l.take (i + 1)) ↔ RightL (l.take i) ∧ FitE l[i] ∧ l[i].id_ ∉ (l.take i).map (·.id_) := by
  have e : l.take (i + 1) = l.take i ++ [l[i]] := by rw [List.take_add_one, List.getElem?_eq_getElem hi]; rfl
  unfold RightL
  rw [e, List.map_append, List.map_singleton, nodup_snoc]
  constructor
  · rintro ⟨h1, h2, h3⟩; exact ⟨⟨fun e he => h1 e (List.mem_append_left _ he), h2⟩, h1 _ (List.mem_append_right _ (List.mem_singleton.2 rfl)), h3⟩
  · rintro ⟨⟨h1, h2⟩, h3, h4⟩
    refine ⟨fun e he => ?_, h2, h4⟩
    rcases List.mem_append.1 he with he | he
    · exact h1 e he
    · rw [List.mem_singleton.1 he]; exact h3
theorem right_mono {l : List Elem} {i : Nat} (h : RightL l) : RightL (l.take i) := by
  refine ⟨fun e he => h.1 e (List.mem_of_mem_take he), ?_⟩
  rw [List.map_take]
  exact List.Sublist.nodup (List.take_sublist _ _) h.2
theorem eright_eq {l : List Elem} (hl : l.length ≤ 1000000) : elem_Right none l = some (decide (RightL l)) := by
  unfold elem_Right elem_Right_l1
  have key : ∀ m i, i + m = l.length → RightL (l.take i) → loopG none (fun (s : (List (Int × Bool)) × Int) => elem_Right_s1 none l s.1 s.2) ((l.take i).reverse.map (fun e => (e.id_, true)), (i : Int)) = some (decide (RightL l)) := by
    intro m
    induction m with
    | zero =>
      intro i hi hr
      have e : i = l.length := by omega
      subst e
      rw [List.take_length] at hr ⊢
      rw [loopG_eq]
      have : elem_Right_s1 none l (l.reverse.map fun e => (e.id_, true)) (l.length : Int) = some (.inr true) := by
        unfold elem_Right_s1
        rw [if_neg (by rw [cm_lss]; simp)]; rfl
      simp only [this, decide_eq_true hr]
    | succ m ih =>
      intro i hi hr
      have hil : i < l.length := by omega
      have hs := right_step (l := l) (i := i) hl hil
      by_cases h : FitE l[i] ∧ l[i].id_ ∉ (l.take i).map (·.id_)
      · rw [if_pos h] at hs
        rw [loop_inl hs]
        exact ih (i + 1) (by omega) ((right_take hil).2 ⟨hr, h⟩)
      · rw [if_neg h] at hs
        rw [loop_inr hs]
        have : ¬ RightL l := fun hr2 => h ((right_take hil).1 (right_mono (i := i + 1) hr2)).2
        rw [decide_eq_false this]
  have := key l.length 0 (by omega) ⟨by simp, by simp⟩
  simpa using this
def Nar (e : Elem) : Prop := e.id_ ≤ 14 ∧ 1 ≤ e.data.length ∧ e.data.length ≤ 16
instance (e : Elem) : Decidable (Nar e) := inferInstanceAs (Decidable (_ ∧ _))
def NarL (l : List Elem) : Prop := ∀ e, e ∈ l → Nar e
instance (l : List Elem) : Decidable (NarL l) := inferInstanceAs (Decidable (∀ e, e ∈ l → Nar e))
def profS (l : List Elem) : Int := if RightL l then (if NarL l then 48862 else 4096) else 0
theorem containsE_eq {l : List Elem} {f : Elem → Option Bool} {p : Elem → Bool} (hf : ∀ s, f s = some (p s)) (hl : l.length ≤ 1000000) : slices_ContainsFunc_Elem none l f = some (l.any p) := by
  unfold slices_ContainsFunc_Elem slices_IndexFunc_Elem slices_IndexFunc_Elem_l1
  have := find_loop (l := l) (step := fun s => slices_IndexFunc_Elem_s1 none l f s) (p := p) (hit := fun i => (i : Int)) (miss := -1) (by
    show slices_IndexFunc_Elem_s1 none l f _ = _
    unfold slices_IndexFunc_Elem_s1
    rw [if_neg (by rw [cm_lss]; simp)]; rfl) (fun i hi => by
    show slices_IndexFunc_Elem_s1 none l f _ = _
    unfold slices_IndexFunc_Elem_s1
    rw [if_pos (by rw [cm_lss]; simpa using hi), bnd (ix_some (n := i) rfl hi), bnd (hf _)]
    by_cases hp : p l[i] = true
    · rw [if_pos hp, if_pos hp]; rfl
    · rw [if_neg hp, if_neg hp, ar_add, w_i64 (by omega) (by omega)]; rfl)
  rw [bnd this]
  congr 1
  cases h : l.findIdx? p with
  | none =>
    rw [List.findIdx?_eq_none_iff] at h
    have : l.any p = false := by rw [List.any_eq_false]; intro x hx; simp [h x hx]
    rw [this]; decide
  | some i =>
    rw [List.findIdx?_eq_some_iff_getElem] at h
    obtain ⟨hi, hp, _⟩ := h
    have : l.any p = true := List.any_eq_true.2 ⟨l[i], List.getElem_mem hi, hp⟩
    rw [this, cm_geq]; simp
theorem enarrow_eq {l : List Elem} (hl : l.length ≤ 1000000) : elem_narrow none l = some (decide (NarL l)) := by
  unfold elem_narrow
  rw [bnd (containsE_eq (p := fun e => !decide (Nar e)) (fun e => by
    congr 1
    unfold elem_narrow_1
    rw [cm_gtr, cm_lss, cm_gtr]
    by_cases h : Nar e
    · rw [decide_eq_true h]
      unfold Nar at h
      show _ = false
      rw [Bool.eq_false_iff]
      simp only [ne_eq, Bool.or_eq_true, decide_eq_true_eq]; omega
    · rw [decide_eq_false h]
      unfold Nar at h
      show _ = true
      simp only [Bool.or_eq_true, decide_eq_true_eq]; omega) hl)]
  congr 1
  rw [Bool.eq_iff_iff, decide_eq_true_iff (p := NarL l)]
  unfold NarL
  simp only [Bool.not_eq_true', List.any_eq_false]
  constructor
  · intro h e he; simpa using h e he
  · intro h e he; simpa using h e he
theorem eprof_eq {l : List Elem} (hl : l.length ≤ 1000000) : elem_Profile none l = some (profS l) := by
  unfold elem_Profile profS
  rw [bnd (eright_eq hl)]
  by_cases h : RightL l
  · rw [decide_eq_true h, if_neg (by decide), if_pos h, bnd (enarrow_eq hl)]
    by_cases h2 : NarL l
    · rw [decide_eq_true h2, if_pos rfl, if_pos h2]
    · rw [decide_eq_false h2, if_neg (by decide), if_neg h2]
  · rw [decide_eq_false h, if_pos (by decide), if_neg h]
def ShortL (l : List Elem) : Prop := l.length ≤ 300 ∧ ∀ e, e ∈ l → e.data.length ≤ 400
instance (l : List Elem) : Decidable (ShortL l) := inferInstanceAs (Decidable (_ ∧ _))
theorem short_eq {l : List Elem} (hl : l.length ≤ 9223372036854775807) : ref08_Short none l = some (decide (ShortL l)) := by
  unfold ref08_Short ref08_Short_l1
  have := find_loop (l := l) (step := fun s => ref08_Short_s1 none l s) (p := fun e => decide (400 < e.data.length)) (hit := fun _ => false) (miss := decide (l.length ≤ 300)) (by
    show ref08_Short_s1 none l _ = _
    unfold ref08_Short_s1
    rw [if_neg (by rw [cm_lss]; simp), cm_leq]
    simp only [Option.map_some]
    congr 2
    exact decide_eq_decide.2 (by omega)) (fun i hi => by
    show ref08_Short_s1 none l (i : Int) = _
    unfold ref08_Short_s1
    rw [if_pos (by rw [cm_lss]; simpa using hi), bnd (ix_some (n := i) rfl hi), cm_gtr]
    by_cases h : 400 < l[i].data.length
    · rw [if_pos (by simp; omega), if_pos (by simpa using h)]; rfl
    · rw [if_neg (by simp; omega), if_neg (by simpa using h), ar_add, w_i64 (by omega) (by omega)]; rfl)
  rw [this]
  congr 1
  cases hf : l.findIdx? (fun e => decide (400 < e.data.length)) with
  | none =>
    rw [List.findIdx?_eq_none_iff] at hf
    refine decide_eq_decide.2 ⟨fun h => ⟨h, fun e he => by have := hf e he; simp at this; omega⟩, fun h => h.1⟩
  | some j =>
    rw [List.findIdx?_eq_some_iff_getElem] at hf
    obtain ⟨hj, hp, _⟩ := hf
    exact (decide_eq_false fun h => by have := h.2 _ (List.getElem_mem hj); simp at hp; omega).symm
def hdr (nar : Bool) (e : Elem) : List Int := if nar then [16 * e.id_ + e.data.length - 1] else [e.id_, e.data.length]
def encE (nar : Bool) (e : Elem) : List Int := hdr nar e ++ e.data
def bodyL (nar : Bool) (l : List Elem) : List Int := l.flatMap (encE nar)
def fill4 (b : List Int) : List Int := b ++ List.replicate (fillN b.length) 0
def narB (l : List Elem) : Bool := decide (NarL l)
def writeL (l : List Elem) : List Int := fill4 (bodyL (narB l) l)
structure GoodE (l : List Elem) : Prop where
  d : ∀ e, e ∈ l → oct e.data
theorem bodyL_take (nar : Bool) (l : List Elem) (i : Nat) (hi : i < l.length) : bodyL nar (l.take (i + 1)) = bodyL nar (l.take i) ++ encE nar l[i] := by
  simp only [bodyL]
  rw [List.take_add_one, List.getElem?_eq_getElem hi, Option.toList_some, List.flatMap_append, List.flatMap_singleton]
theorem hdr_len (nar : Bool) (e : Elem) : (hdr nar e).length = if nar then 1 else 2 := by unfold hdr; split <;> rfl
theorem bodyL_len {nar : Bool} : ∀ {l : List Elem}, (∀ e, e ∈ l → e.data.length ≤ 400) → (bodyL nar l).length ≤ 402 * l.length
  | [], _ => by simp [bodyL]
  | a :: l, h => by
    have ih := bodyL_len (nar := nar) (l := l) fun e he => h e (by simp [he])
    have := h a (by simp)
    simp only [bodyL, List.flatMap_cons, List.length_append, encE, hdr_len, List.length_cons] at *
    split <;> omega
theorem prof_nar {l : List Elem} (hr : RightL l) : cm .eql (profS l) 48862 = narB l := by
  unfold profS narB
  rw [if_pos hr]
  by_cases h : NarL l
  · rw [if_pos h, decide_eq_true h]; decide
  · rw [if_neg h, decide_eq_false h]; decide
theorem nhdr {e : Elem} (hf : FitE e) (hn : Nar e) : IntKind.u8.wrap (ar .or .i64 (sf .shl .i64 e.id_ 4) (ar .sub .i64 (e.data.length : Int) 1)) = 16 * e.id_ + e.data.length - 1 := by
  unfold FitE at hf; unfold Nar at hn
  rw [sf_shl (y := 4) (n := 4) rfl (by decide), w_i64 (by omega) (by omega), ar_sub, w_i64 (by omega) (by omega), ar_or_add_i64 (n := 4) (a := e.id_) rfl (by omega) (by omega) (by omega) (by omega) (by omega), w_u8 (by omega) (by omega)]
  omega
theorem write_loop {l : List Elem} (hr : RightL l) (hs : ShortL l) (i : Nat) (hi : i < l.length) :
    elem_Write_s1 none l (profS l) (bodyL (narB l) (l.take i)) (i : Int) = some (.inl (bodyL (narB l) (l.take (i + 1)), ((i + 1 : Nat) : Int))) := by
  have hf := hr.1 l[i] (List.getElem_mem hi)
  have hb := bodyL_len (nar := narB l) (l := l.take i) fun e he => hs.2 e (List.mem_of_mem_take he)
  have hl := hs.1
  rw [List.length_take] at hb
  have hb2 : (bodyL (narB l) (l.take i)).length ≤ 200000 := by omega
  have hd := hf.2.2
  unfold elem_Write_s1 elem_Write_j2
  rw [if_pos (by rw [cm_lss]; simpa using hi), bnd (ix_some (n := i) rfl hi), prof_nar hr]
  rw [bodyL_take _ _ _ hi]
  unfold encE hdr
  by_cases hn : NarL l
  · have hnb : narB l = true := decide_eq_true hn
    rw [hnb] at hb2 ⊢
    rw [if_pos rfl, nhdr hf (hn _ (List.getElem_mem hi)), bnd (app_some (by simp; omega)), bnd (app_some (by simp; omega)), ar_add, w_i64 (by omega) (by omega)]
    simp
  · have hnb : narB l = false := decide_eq_false hn
    rw [hnb] at hb2 ⊢
    unfold FitE at hf
    rw [if_neg (by decide), w_u8 (by omega) (by omega), w_u8 (by omega) (by omega), bnd (app_some (by simp; omega)), bnd (app_some (by simp; omega)), ar_add, w_i64 (by omega) (by omega)]
    simp
theorem ewrite_eq {l : List Elem} (hs : ShortL l) : elem_Write none l = some (if RightL l then (profS l, writeL l, 0) else (0, [], 1)) := by
  have hl := hs.1
  unfold elem_Write
  rw [bnd (eprof_eq (by omega))]
  by_cases hr : RightL l
  · have hp : profS l ≠ 0 := by unfold profS; rw [if_pos hr]; split <;> decide
    rw [if_neg (by rw [cm_eql]; simpa using hp), if_pos hr]
    unfold elem_Write_l1
    have := loop_seq (step := fun (s : List Int × Int) => elem_Write_s1 none l (profS l) s.1 s.2) (r := (profS l, writeL l, 0)) (fun i => (bodyL (narB l) (l.take i), (i : Int))) l.length (fun i hi => write_loop hr hs i hi) (by
      show elem_Write_s1 none l (profS l) (bodyL (narB l) (l.take l.length)) (l.length : Int) = _
      have hb := bodyL_len (nar := narB l) (l := l) hs.2
      unfold elem_Write_s1
      rw [if_neg (by rw [cm_lss]; simp), List.take_length, bnd (fill_eq (by omega))]
      rfl)
    simpa [bodyL] using this
  · have hp : profS l = 0 := by unfold profS; rw [if_neg hr]
    rw [if_pos (by rw [cm_eql]; simpa using hp), if_neg hr]
theorem sameE_eq {a b : List Elem} (ha : GoodE a) (hb : GoodE b) (hl : a.length ≤ 1000000) : ref08_Same none a b = some (decide (a = b)) := by
  unfold ref08_Same
  by_cases h : a.length = b.length
  · rw [if_neg (by rw [cm_neq]; simp; omega)]
    unfold ref08_Same_l1
    refine same_loop h (step := fun s => ref08_Same_s1 none a b s) ?_ fun i hi hi' => ?_
    · show ref08_Same_s1 none a b _ = _
      unfold ref08_Same_s1
      rw [if_neg (by rw [cm_lss]; simp)]
      rfl
    · show ref08_Same_s1 none a b _ = _
      unfold ref08_Same_s1
      have hx := ix_some (l := a) (n := i) (i := (i : Int)) rfl hi
      have hx' := ix_some (l := b) (n := i) (i := (i : Int)) rfl hi'
      have o1 := ha.d _ (List.getElem_mem hi)
      have o2 := hb.d _ (List.getElem_mem hi')
      rw [if_pos (by rw [cm_lss]; simpa using hi), bnd hx, bnd hx', hx, hx', cm_neq]
      by_cases h1 : a[i].id_ = b[i].id_
      · rw [decide_eq_true h1]
        simp only [Bool.not_true, Bool.not_false, gTT, Option.bind_some, Bool.false_or]
        have hsc : sc .neq (b2s a[i].data) (b2s b[i].data) = !decide (a[i].data = b[i].data) := by
          have := sc_b2s o1 o2
          simp only [sc] at this ⊢
          rw [this]
        rw [hsc]
        by_cases h2 : a[i].data = b[i].data
        · have he : a[i] = b[i] := by
            generalize a[i] = x at *; generalize b[i] = y at *
            cases x; cases y; simp_all
          rw [decide_eq_true h2, if_neg (by decide), if_neg (by simpa using he), ar_add, w_i64 (by omega) (by omega)]
          rfl
        · have he : a[i] ≠ b[i] := fun e => h2 (by rw [e])
          rw [decide_eq_false h2, if_pos (by decide), if_pos he]
          rfl
      · have he : a[i] ≠ b[i] := fun e => h1 (by rw [e])
        rw [decide_eq_false h1]
        simp only [Bool.not_false, Bool.not_true, gTF, Option.bind_some, Bool.true_or]
        rw [if_pos trivial, if_pos he]
        rfl
  · rw [if_pos (by rw [cm_neq]; simp; omega)]
    have : a ≠ b := fun e => h (by rw [e])
    simp [this]
theorem nat_hi (x : Nat) (hx : x < 65536) : x &&& 65520 = x / 16 * 16 := by
  have h : x &&& 65520 = (x / 2 ^ 4 &&& 4095) * 2 ^ 4 := by
    apply Nat.eq_of_testBit_eq
    intro i
    have e : (65520 : Nat) = 4095 * 2 ^ 4 := by decide
    rw [Nat.testBit_and, e, Nat.testBit_mul_two_pow, Nat.testBit_mul_two_pow, Nat.testBit_and, Nat.testBit_div_two_pow]
    by_cases hi : 4 ≤ i
    · have : i - 4 + 4 = i := by omega
      simp [hi, this]
    · simp [hi]
  rw [h]
  have e2 : (4095 : Nat) = 2 ^ 12 - 1 := by decide
  rw [e2, nat_and_mask]
  omega
theorem andNot15 {x : Int} (h0 : 0 ≤ x) (h1 : x ≤ 65535) : ar .andNot .u16 x 15 = x / 16 * 16 := by
  obtain ⟨n, rfl⟩ : ∃ n : Nat, x = n := ⟨x.toNat, by omega⟩
  have e : ~~~ (BitVec.ofInt 16 15) = 65520#16 := by decide
  have hb : IntKind.u16.bits = 16 := rfl
  show IntKind.u16.wrap ((BitVec.ofInt 16 (n : Int) &&& ~~~ BitVec.ofInt 16 15).toNat : Int) = _
  rw [e, BitVec.toNat_and]
  have e1 : (BitVec.ofInt 16 (n : Int)).toNat = n := by
    rw [BitVec.toNat_ofInt]; omega
  have e2 : (65520#16).toNat = 65520 := rfl
  rw [e1, e2, nat_hi n (by omega), w_u16 (by omega) (by omega)]
  omega
/-- where elements stand -/
def dupS (out : List Spot) (id : Int) : Bool := out.any fun s => decide (s.id_ = id)
def spotsG (nar : Bool) : Nat → Nat → List Int → List Spot → List Spot × Int
  | 0, _, _, out => (out, 0)
  | _ + 1, _, [], out => (out, 0)
  | n + 1, pos, x :: r, out =>
    if x = 0 then spotsG nar n (pos + 1) r out else
    if nar then
      if x / 16 = 0 ∨ x / 16 = 15 then (out, 0)
      else if r.length < (x % 16 + 1).toNat then ([], 4)
      else if dupS out (x / 16) then ([], 6)
      else spotsG nar n (pos + 1 + (x % 16 + 1).toNat) (r.drop (x % 16 + 1).toNat) (out ++ [⟨x / 16, pos + 1, x % 16 + 1⟩])
    else
      match r with
      | [] => ([], 4)
      | s :: r' =>
        if r'.length < s.toNat then ([], 4)
        else if dupS out x then ([], 6)
        else spotsG nar n (pos + 2 + s.toNat) (r'.drop s.toNat) (out ++ [⟨x, pos + 2, s⟩])
inductive Prof where
  | nar | wide | none
def profOf (p : Int) : Prof := if p = 48862 then .nar else if p / 16 = 256 then .wide else .none
def spotsS (p : Int) (data : List Int) : List Spot × Int :=
  match profOf p with
  | .nar => spotsG true (data.length + 1) 0 data []
  | .wide => spotsG false (data.length + 1) 0 data []
  | .none => ([], 6)
theorem containsS_eq {l : List Spot} {f : Spot → Option Bool} {p : Spot → Bool} (hf : ∀ s, f s = some (p s)) (hl : l.length ≤ 1000000) : slices_ContainsFunc_Spot none l f = some (l.any p) := by
  unfold slices_ContainsFunc_Spot slices_IndexFunc_Spot slices_IndexFunc_Spot_l1
  have := find_loop (l := l) (step := fun s => slices_IndexFunc_Spot_s1 none l f s) (p := p) (hit := fun i => (i : Int)) (miss := -1) (by
    show slices_IndexFunc_Spot_s1 none l f _ = _
    unfold slices_IndexFunc_Spot_s1
    rw [if_neg (by rw [cm_lss]; simp)]; rfl) (fun i hi => by
    show slices_IndexFunc_Spot_s1 none l f _ = _
    unfold slices_IndexFunc_Spot_s1
    rw [if_pos (by rw [cm_lss]; simpa using hi), bnd (ix_some (n := i) rfl hi), bnd (hf _)]
    by_cases hp : p l[i] = true
    · rw [if_pos hp, if_pos hp]; rfl
    · rw [if_neg hp, if_neg hp, ar_add, w_i64 (by omega) (by omega)]; rfl)
  rw [bnd this]
  congr 1
  cases h : l.findIdx? p with
  | none =>
    rw [List.findIdx?_eq_none_iff] at h
    have : l.any p = false := by rw [List.any_eq_false]; intro x hx; simp [h x hx]
    rw [this]; decide
  | some i =>
    rw [List.findIdx?_eq_some_iff_getElem] at h
    obtain ⟨hi, hp, _⟩ := h
    have : l.any p = true := List.any_eq_true.2 ⟨l[i], List.getElem_mem hi, hp⟩
    rw [this, cm_geq]; simp
theorem drop_cons {data : List Int} {pos : Nat} {x : Int} {r : List Int} (h : data.drop pos = x :: r) : ∃ hp : pos < data.length, data[pos] = x ∧ data.drop (pos + 1) = r := by
  have hp : pos < data.length := by
    refine Classical.byContradiction fun hn => ?_
    rw [List.drop_of_length_le (by omega)] at h; cases h
  rw [List.drop_eq_getElem_cons hp] at h
  simp only [List.cons.injEq] at h
  exact ⟨hp, h.1, h.2⟩
theorem walk_nar : elem_walk 48862 = .c102 ⟨⟩ := by decide
theorem walk_wide {p : Int} (h0 : 0 ≤ p) (h1 : p ≤ 65535) (h : p / 16 = 256) : elem_walk p = .c103 ⟨⟩ := by
  unfold elem_walk
  rw [if_neg (by rw [cm_eql]; simp; omega), andNot15 h0 h1, if_pos (by rw [cm_eql]; simp; omega)]
theorem walk_none {p : Int} (h0 : 0 ≤ p) (h1 : p ≤ 65535) (h : p ≠ 48862) (h2 : p / 16 ≠ 256) : elem_walk p = .nil := by
  unfold elem_walk
  rw [if_neg (by rw [cm_eql]; simpa using h), andNot15 h0 h1, if_neg (by rw [cm_eql]; simp; omega)]
theorem shr4 {x : Int} (h0 : 0 ≤ x) (h1 : x ≤ 255) : IntKind.i64.wrap (sf .shr .u8 x 4) = x / 16 := by
  rw [sf_shr (y := 4) (n := 4) rfl (by decide), w_i64 (by omega) (by omega)]
  rfl
theorem and15' {x : Int} (h0 : 0 ≤ x) (h1 : x ≤ 255) : IntKind.i64.wrap (ar .and .u8 x 15) = x % 16 := by
  have : ar .and .u8 x 15 = x % 16 := ar_mask (k := .u8) (n := 4) rfl (by decide) (by decide) h0 (by simp [IntKind.bits]; omega)
  rw [this, w_i64 (by omega) (by omega)]
theorem spots_loop {p : Int} {nar : Bool} {data : List Int} (hw : elem_walk p = if nar then .c102 ⟨⟩ else .c103 ⟨⟩) (hb : oct data) (hl : data.length ≤ 1000000) :
    ∀ (n pos : Nat) (rest : List Int) (out : List Spot), rest.length < n → data.drop pos = rest → pos ≤ data.length → out.length + rest.length ≤ 1000000 →
      elem_Spots_l2 none p data out (pos : Int) = some (spotsG nar n pos rest out)
  | 0, _, _, _, h, _, _, _ => by omega
  | n + 1, pos, [], out, _, hd, hp, _ => by
    have hpos : pos = data.length := by
      have := congrArg List.length hd
      rw [List.length_drop] at this; simp at this; omega
    unfold elem_Spots_l2
    have : elem_Spots_s2 none p data out (pos : Int) = some (.inr (out, 0)) := by
      unfold elem_Spots_s2 elem_Spots_j1
      rw [if_neg (by rw [cm_lss, hpos]; simp)]; rfl
    exact loop_inr (step := fun (s : List Spot × Int) => elem_Spots_s2 none p data s.1 s.2) (s := (out, (pos : Int))) this
  | n + 1, pos, x :: r, out, hn, hd, hp, hol => by
    obtain ⟨hpl, hx, hr⟩ := drop_cons hd
    have hxb := hb x (by rw [← hx]; exact List.getElem_mem hpl)
    have hrl : r.length = data.length - (pos + 1) := by rw [← hr, List.length_drop]
    simp only [List.length_cons] at hn hol
    have hix : ix data (pos : Int) = some x := by rw [ix_some (n := pos) rfl hpl, hx]
    unfold elem_Spots_l2
    have next : ∀ (out' : List Spot) (pos' : Nat) (rest' : List Int), elem_Spots_s2 none p data out (pos : Int) = some (.inl (out', (pos' : Int))) → rest'.length < n → data.drop pos' = rest' → pos' ≤ data.length → out'.length + rest'.length ≤ 1000000 →
        loopG none (fun (s : List Spot × Int) => elem_Spots_s2 none p data s.1 s.2) (out, (pos : Int)) = some (spotsG nar n pos' rest' out') := fun out' pos' rest' h1 h2 h3 h4 h5 => by
      rw [loop_inl (s := (out, (pos : Int))) (s' := (out', (pos' : Int))) h1]
      exact spots_loop hw hb hl n pos' rest' out' h2 h3 h4 h5
    have stop : ∀ (q : List Spot × Int), elem_Spots_s2 none p data out (pos : Int) = some (.inr q) → loopG none (fun (s : List Spot × Int) => elem_Spots_s2 none p data s.1 s.2) (out, (pos : Int)) = some q := fun q h1 => loop_inr (s := (out, (pos : Int))) h1
    have st : elem_Spots_s2 none p data out (pos : Int) = (if cm .eql x 0 = true then some (Sum.inl (out, (ar .add .i64 (pos : Int) 1)))
      else Option.bind (I_elem_walker_next (elem_walk p) data (pos : Int)) fun x5 =>
        if (!x5.2) then Option.map Sum.inr (elem_Spots_j1 none out)
        else if ((cm .gtr x5.1.at_ (data.length : Int)) || (cm .gtr x5.1.size (ar .sub .i64 (data.length : Int) x5.1.at_))) then Option.map Sum.inr (some ([], 4))
        else Option.bind (slices_ContainsFunc_Spot none out (fun (y0 : Spot) => some (elem_Spots_1 y0 x5.1))) fun x6 =>
          if x6 then Option.map Sum.inr (some ([], 6))
          else Option.bind (app out [x5.1]) fun x7 => some (Sum.inl (x7, (ar .add .i64 x5.1.at_ x5.1.size)))) := by
      conv => lhs; unfold elem_Spots_s2
      rw [if_pos (by rw [cm_lss]; simpa using hpl), bnd hix]
    have hdup : ∀ (s : Spot), slices_ContainsFunc_Spot none out (fun (y0 : Spot) => some (elem_Spots_1 y0 s)) = some (dupS out s.id_) := fun s =>
      containsS_eq (p := fun y => decide (y.id_ = s.id_)) (fun y => by unfold elem_Spots_1; rw [cm_eql]) (by omega)
    by_cases h0 : x = 0
    · have e : spotsG nar (n + 1) pos (x :: r) out = spotsG nar n (pos + 1) r out := by cases nar <;> cases r <;> simp [spotsG, h0]
      rw [e]
      refine next out (pos + 1) r ?_ (by omega) hr (by omega) (by omega)
      rw [st, if_pos (by rw [cm_eql]; simpa using h0), ar_add, w_i64 (by omega) (by omega)]
      rfl
    · have c0 : ¬ cm .eql x 0 = true := by rw [cm_eql]; simpa using h0
      rw [if_neg c0] at st
      have ep : ∀ k : Int, 0 ≤ k → k ≤ 10 → ar .add .i64 (pos : Int) k = pos + k := fun k _ _ => by rw [ar_add, w_i64 (by omega) (by omega)]
      cases nar with
      | true =>
        rw [hw] at st
        simp only [if_true, I_elem_walker_next] at st
        have hnx : elem_low_next ⟨⟩ data (pos : Int) = some (⟨x / 16, pos + 1, x % 16 + 1⟩, (cm .neq (x / 16) 0) && (cm .neq (x / 16) 15)) := by
          unfold elem_low_next
          rw [bnd hix, bnd hix, shr4 hxb.1 hxb.2, and15' hxb.1 hxb.2, ep 1 (by omega) (by omega), ar_add, w_i64 (by omega) (by omega)]
        rw [bnd hnx] at st
        have e : spotsG true (n + 1) pos (x :: r) out = if x / 16 = 0 ∨ x / 16 = 15 then (out, 0) else if r.length < (x % 16 + 1).toNat then ([], 4) else if dupS out (x / 16) then ([], 6) else spotsG true n (pos + 1 + (x % 16 + 1).toNat) (r.drop (x % 16 + 1).toNat) (out ++ [⟨x / 16, pos + 1, x % 16 + 1⟩]) := by
          cases r <;> simp [spotsG, h0]
        rw [e]
        simp only [] at st
        by_cases h1 : x / 16 = 0 ∨ x / 16 = 15
        · rw [if_pos h1]
          refine stop _ ?_
          rw [st, if_pos (by rw [cm_neq, cm_neq]; rcases h1 with h1 | h1 <;> simp [h1])]
          rfl
        · rw [if_neg h1]
          rw [if_neg (by rw [cm_neq, cm_neq]; simp; omega)] at st
          by_cases h2 : r.length < (x % 16 + 1).toNat
          · rw [if_pos h2]
            refine stop _ ?_
            rw [st, if_pos (by rw [cm_gtr, cm_gtr, ar_sub, w_i64 (by omega) (by omega)]; simp; omega)]
            rfl
          · rw [if_neg h2]
            rw [if_neg (by rw [cm_gtr, cm_gtr, ar_sub, w_i64 (by omega) (by omega)]; simp; omega), bnd (hdup _)] at st
            by_cases h3 : dupS out (x / 16) = true
            · rw [if_pos h3]
              refine stop _ ?_
              rw [st, if_pos h3]; rfl
            · rw [if_neg h3]
              rw [if_neg h3, bnd (app_some (by simp; omega)), ar_add, w_i64 (by omega) (by omega)] at st
              refine next _ _ _ (by rw [st]; congr 3; omega) (by rw [List.length_drop]; omega) ?_ (by omega) (by rw [List.length_drop, List.length_append]; simp; omega)
              rw [← hr, List.drop_drop]
      | false =>
        rw [hw] at st
        simp only [Bool.false_eq_true, if_false, I_elem_walker_next] at st
        cases r with
        | nil =>
          have hnx : elem_high_next ⟨⟩ data (pos : Int) = some (⟨x, pos + 2, 256⟩, true) := by
            unfold elem_high_next elem_high_next_j1
            rw [bnd hix, ep 1 (by omega) (by omega), if_neg (by rw [cm_lss]; simp at hrl; simp; omega), w_i64 (by omega) (by omega), ep 2 (by omega) (by omega)]
          rw [bnd hnx] at st
          have e : spotsG false (n + 1) pos [x] out = ([], 4) := by simp [spotsG, h0]
          rw [e]
          refine stop _ ?_
          simp only [List.length_nil] at hrl
          simp only [Bool.not_true] at st
          rw [st, if_neg (by decide), if_pos (by rw [cm_gtr]; simp; left; omega)]
          rfl
        | cons s r' =>
          obtain ⟨hpl2, hx2, hr2⟩ := drop_cons hr
          have hsb := hb s (by rw [← hx2]; exact List.getElem_mem hpl2)
          have hix2 : ix data ((pos + 1 : Nat) : Int) = some s := by rw [ix_some (n := pos + 1) rfl hpl2, hx2]
          simp only [List.length_cons] at hrl hn hol
          have hnx : elem_high_next ⟨⟩ data (pos : Int) = some (⟨x, pos + 2, s⟩, true) := by
            unfold elem_high_next elem_high_next_j1
            have e1 : ((pos : Int) + 1) = ((pos + 1 : Nat) : Int) := by omega
            rw [bnd hix, ep 1 (by omega) (by omega), if_pos (by rw [cm_lss]; simp; omega), e1, bnd hix2, w_i64 (by omega) (by omega), ep 2 (by omega) (by omega), w_i64 (by omega) (by omega)]
          rw [bnd hnx] at st
          have e : spotsG false (n + 1) pos (x :: s :: r') out = if r'.length < s.toNat then ([], 4) else if dupS out x then ([], 6) else spotsG false n (pos + 2 + s.toNat) (r'.drop s.toNat) (out ++ [⟨x, pos + 2, s⟩]) := by
            simp [spotsG, h0]
          rw [e]
          simp only [Bool.not_true] at st
          rw [if_neg (by decide)] at st
          by_cases h2 : r'.length < s.toNat
          · rw [if_pos h2]
            refine stop _ ?_
            rw [st, if_pos (by rw [cm_gtr, cm_gtr, ar_sub, w_i64 (by omega) (by omega)]; simp; omega)]
            rfl
          · rw [if_neg h2]
            rw [if_neg (by rw [cm_gtr, cm_gtr, ar_sub, w_i64 (by omega) (by omega)]; simp; omega), bnd (hdup _)] at st
            by_cases h3 : dupS out x = true
            · rw [if_pos h3]
              refine stop _ ?_
              rw [st, if_pos h3]; rfl
            · rw [if_neg h3]
              rw [if_neg h3, bnd (app_some (by simp; omega)), ar_add, w_i64 (by omega) (by omega)] at st
              refine next _ _ _ (by rw [st]; congr 3; omega) (by rw [List.length_drop]; omega) ?_ (by omega) (by rw [List.length_drop, List.length_append]; simp; omega)
              rw [← hr2, List.drop_drop]
theorem espots_eq {p : Int} {data : List Int} (h0 : 0 ≤ p) (h1 : p ≤ 65535) (hb : oct data) (hl : data.length ≤ 400000) : elem_Spots none p data = some (spotsS p data) := by
  unfold elem_Spots spotsS profOf
  by_cases hn : p = 48862
  · subst hn
    rw [walk_nar, if_neg (by decide), if_pos rfl]
    exact spots_loop (nar := true) walk_nar hb (by omega) (data.length + 1) 0 data [] (by omega) rfl (by omega) (by simp; omega)
  · rw [if_neg hn]
    by_cases hw : p / 16 = 256
    · rw [walk_wide h0 h1 hw, if_neg (by decide), if_pos hw]
      exact spots_loop (nar := false) (walk_wide h0 h1 hw) hb (by omega) (data.length + 1) 0 data [] (by omega) rfl (by omega) (by simp; omega)
    · rw [walk_none h0 h1 hn hw, if_pos (by decide), if_neg hw]

end Xb
