/- Own text: KElem3. -/
import Derived.Test.YtcdhafhamjinlaaKElem2
set_option linter.all false
set_option linter.unusedVariables false
set_option linter.unusedSimpArgs false
set_option linter.unnecessarySimpa false
set_option linter.deprecated false
namespace Xb
open Go

def hdr (nar : Bool) (e : Elem) : List Int := if nar then [16 * e.id_ + e.data.length - 1] else [e.id_, e.data.length]
def encE (nar : Bool) (e : Elem) : List Int := hdr nar e ++ e.data
def bodyL (nar : Bool) (l : List Elem) : List Int := l.flatMap (encE nar)
def fill4 (b : List Int) : List Int := b ++ List.replicate (fillN b.length) 0
def narB (l : List Elem) : Bool := decide (NarL l)
def writeL (l : List Elem) : List Int := fill4 (bodyL (narB l) l)
structure GoodE (l : List Elem) : Prop where
  d : ∀ e, e ∈ l → oct e.data

theorem bodyL_take (nar : Bool) (l : List Elem) (i : Nat) (hi : i < l.length) : bodyL nar (l.take (i + 1)) = bodyL nar (l.take i) ++ encE nar l[i] := by
  simp only [bodyL]
  rw [List.take_add_one, List.getElem?_eq_getElem hi, Option.toList_some, List.flatMap_append, List.flatMap_singleton]
theorem hdr_len (nar : Bool) (e : Elem) : (hdr nar e).length = if nar then 1 else 2 := by unfold hdr; split <;> rfl
theorem bodyL_len {nar : Bool} : ∀ {l : List Elem}, (∀ e, e ∈ l → e.data.length ≤ 400) → (bodyL nar l).length ≤ 402 * l.length
  | [], _ => by simp [bodyL]
  | a :: l, h => by
    have ih := bodyL_len (nar := nar) (l := l) fun e he => h e (by simp [he])
    have := h a (by simp)
    simp only [bodyL, List.flatMap_cons, List.length_append, encE, hdr_len, List.length_cons] at *
    split <;> omega

theorem prof_nar {l : List Elem} (hr : RightL l) : cm .eql (profS l) 48862 = narB l := by
  unfold profS narB
  rw [if_pos hr]
  by_cases h : NarL l
  · rw [if_pos h, decide_eq_true h]; decide
  · rw [if_neg h, decide_eq_false h]; decide

theorem nhdr {e : Elem} (hf : FitE e) (hn : Nar e) : IntKind.u8.wrap (ar .or .i64 (sf .shl .i64 e.id_ 4) (ar .sub .i64 (e.data.length : Int) 1)) = 16 * e.id_ + e.data.length - 1 := by
  unfold FitE at hf; unfold Nar at hn
  rw [sf_shl (y := 4) (n := 4) rfl (by decide), w_i64 (by omega) (by omega), ar_sub, w_i64 (by omega) (by omega), ar_or_add_i64 (n := 4) (a := e.id_) rfl (by omega) (by omega) (by omega) (by omega) (by omega), w_u8 (by omega) (by omega)]
  omega

theorem write_loop {l : List Elem} (hr : RightL l) (hs : ShortL l) (i : Nat) (hi : i < l.length) :
    elem_Write_s1 none l (profS l) (bodyL (narB l) (l.take i)) (i : Int) = some (.inl (bodyL (narB l) (l.take (i + 1)), ((i + 1 : Nat) : Int))) := by
  have hf := hr.1 l[i] (List.getElem_mem hi)
  have hb := bodyL_len (nar := narB l) (l := l.take i) fun e he => hs.2 e (List.mem_of_mem_take he)
  have hl := hs.1
  rw [List.length_take] at hb
  have hb2 : (bodyL (narB l) (l.take i)).length ≤ 200000 := by omega
  have hd := hf.2.2
  unfold elem_Write_s1 elem_Write_j2
  rw [if_pos (by rw [cm_lss]; simpa using hi), bnd (ix_some (n := i) rfl hi), prof_nar hr]
  rw [bodyL_take _ _ _ hi]
  unfold encE hdr
  by_cases hn : NarL l
  · have hnb : narB l = true := decide_eq_true hn
    rw [hnb] at hb2 ⊢
    rw [if_pos rfl, nhdr hf (hn _ (List.getElem_mem hi)), bnd (app_some (by simp; omega)), bnd (app_some (by simp; omega)), ar_add, w_i64 (by omega) (by omega)]
    simp
  · have hnb : narB l = false := decide_eq_false hn
    rw [hnb] at hb2 ⊢
    unfold FitE at hf
    rw [if_neg (by decide), w_u8 (by omega) (by omega), w_u8 (by omega) (by omega), bnd (app_some (by simp; omega)), bnd (app_some (by simp; omega)), ar_add, w_i64 (by omega) (by omega)]
    simp

theorem ewrite_eq {l : List Elem} (hs : ShortL l) : elem_Write none l = some (if RightL l then (profS l, writeL l, 0) else (0, [], 1)) := by
  have hl := hs.1
  unfold elem_Write
  rw [bnd (eprof_eq (by omega))]
  by_cases hr : RightL l
  · have hp : profS l ≠ 0 := by unfold profS; rw [if_pos hr]; split <;> decide
    rw [if_neg (by rw [cm_eql]; simpa using hp), if_pos hr]
    unfold elem_Write_l1
    have := loop_seq (step := fun (s : List Int × Int) => elem_Write_s1 none l (profS l) s.1 s.2) (r := (profS l, writeL l, 0)) (fun i => (bodyL (narB l) (l.take i), (i : Int))) l.length (fun i hi => write_loop hr hs i hi) (by
      show elem_Write_s1 none l (profS l) (bodyL (narB l) (l.take l.length)) (l.length : Int) = _
      have hb := bodyL_len (nar := narB l) (l := l) hs.2
      unfold elem_Write_s1
      rw [if_neg (by rw [cm_lss]; simp), List.take_length, bnd (fill_eq (by omega))]
      rfl)
    simpa [bodyL] using this
  · have hp : profS l = 0 := by unfold profS; rw [if_neg hr]
    rw [if_pos (by rw [cm_eql]; simpa using hp), if_neg hr]

theorem rwrite_eq {l : List Elem} (hr : RightL l) (hs : ShortL l) : ref08_Write none l = some (writeL l) := by
  have hl := hs.1
  unfold ref08_Write ref08_Write_l1
  have := loop_seq (step := fun (s : List Int × Int) => ref08_Write_s1 none l s.1 s.2) (r := writeL l) (fun i => (bodyL (narB l) (l.take i), (i : Int))) l.length (fun i hi => by
    show ref08_Write_s1 none l (bodyL (narB l) (l.take i)) (i : Int) = _
    have hf := hr.1 l[i] (List.getElem_mem hi)
    have hb := bodyL_len (nar := narB l) (l := l.take i) fun e he => hs.2 e (List.mem_of_mem_take he)
    rw [List.length_take] at hb
    have hb2 : (bodyL (narB l) (l.take i)).length ≤ 200000 := by omega
    have hd := hf.2.2
    have hx := ix_some (l := l) (n := i) (i := (i : Int)) rfl hi
    unfold ref08_Write_s1 ref08_Write_j2
    rw [if_pos (by rw [cm_lss]; simpa using hi), bnd hx, bnd (rprof_eq (by omega)), prof_nar hr, hx]
    rw [bodyL_take _ _ _ hi]
    unfold encE hdr
    by_cases hn : NarL l
    · have hnb : narB l = true := decide_eq_true hn
      have hni := hn _ (List.getElem_mem hi)
      unfold FitE at hf; unfold Nar at hni
      rw [hnb] at hb2 ⊢
      have e1 : ar .sub .i64 (ar .add .i64 (ar .mul .i64 16 l[i].id_) (l[i].data.length : Int)) 1 = 16 * l[i].id_ + l[i].data.length - 1 := by
        rw [ar_mul, w_i64 (by omega) (by omega), ar_add, w_i64 (by omega) (by omega), ar_sub, w_i64 (by omega) (by omega)]
      rw [if_pos rfl, Option.bind_some, e1, w_u8 (by omega) (by omega), bnd (app_some (by simp; omega)), Option.bind_some, bnd (app_some (by simp; omega)), ar_add, w_i64 (by omega) (by omega)]
      simp
    · have hnb : narB l = false := decide_eq_false hn
      rw [hnb] at hb2 ⊢
      unfold FitE at hf
      rw [if_neg (by decide), Option.bind_some, w_u8 (by omega) (by omega), w_u8 (by omega) (by omega), bnd (app_some (by simp; omega)), Option.bind_some, bnd (app_some (by simp; omega)), ar_add, w_i64 (by omega) (by omega)]
      simp) (by
    show ref08_Write_s1 none l (bodyL (narB l) (l.take l.length)) (l.length : Int) = _
    have hb := bodyL_len (nar := narB l) (l := l) hs.2
    unfold ref08_Write_s1
    rw [if_neg (by rw [cm_lss]; simp), List.take_length, bnd (refFill_eq (by omega))]
    rfl)
  simpa [bodyL] using this

theorem sameE_eq {a b : List Elem} (ha : GoodE a) (hb : GoodE b) (hl : a.length ≤ 1000000) : ref08_Same none a b = some (decide (a = b)) := by
  unfold ref08_Same
  by_cases h : a.length = b.length
  · rw [if_neg (by rw [cm_neq]; simp; omega)]
    unfold ref08_Same_l1
    refine same_loop h (step := fun s => ref08_Same_s1 none a b s) ?_ fun i hi hi' => ?_
    · show ref08_Same_s1 none a b _ = _
      unfold ref08_Same_s1
      rw [if_neg (by rw [cm_lss]; simp)]
      rfl
    · show ref08_Same_s1 none a b _ = _
      unfold ref08_Same_s1
      have hx := ix_some (l := a) (n := i) (i := (i : Int)) rfl hi
      have hx' := ix_some (l := b) (n := i) (i := (i : Int)) rfl hi'
      have o1 := ha.d _ (List.getElem_mem hi)
      have o2 := hb.d _ (List.getElem_mem hi')
      rw [if_pos (by rw [cm_lss]; simpa using hi), bnd hx, bnd hx', hx, hx', cm_neq]
      by_cases h1 : a[i].id_ = b[i].id_
      · rw [decide_eq_true h1]
        simp only [Bool.not_true, Bool.not_false, gTT, Option.bind_some, Bool.false_or]
        have hsc : sc .neq (b2s a[i].data) (b2s b[i].data) = !decide (a[i].data = b[i].data) := by
          have := sc_b2s o1 o2
          simp only [sc] at this ⊢
          rw [this]
        rw [hsc]
        by_cases h2 : a[i].data = b[i].data
        · have he : a[i] = b[i] := by
            generalize a[i] = x at *; generalize b[i] = y at *
            cases x; cases y; simp_all
          rw [decide_eq_true h2, if_neg (by decide), if_neg (by simpa using he), ar_add, w_i64 (by omega) (by omega)]
          rfl
        · have he : a[i] ≠ b[i] := fun e => h2 (by rw [e])
          rw [decide_eq_false h2, if_pos (by decide), if_pos he]
          rfl
      · have he : a[i] ≠ b[i] := fun e => h1 (by rw [e])
        rw [decide_eq_false h1]
        simp only [Bool.not_false, Bool.not_true, gTF, Option.bind_some, Bool.true_or]
        rw [if_pos trivial, if_pos he]
        rfl
  · rw [if_pos (by rw [cm_neq]; simp; omega)]
    have : a ≠ b := fun e => h (by rw [e])
    simp [this]
end Xb
