/- Own text: JArr7. -/
import Derived.Test.YtjfacnghojgkeaaJArr6
set_option linter.all false
set_option linter.unusedVariables false
set_option linter.unusedSimpArgs false
set_option linter.unnecessarySimpa false
set_option linter.deprecated false
/-! The document's chunks, written; its telling. -/
namespace Xb
open Go

theorem headD_eq {l : List Int} (hn : 0 < l.length) : l.headD 0 = l[0] := by
  cases l with
  | nil => simp at hn
  | cons a l => rfl

theorem run_le (l : List Int) : runN l ≤ l.length := runN_le l

theorem run_get {l : List Int} {i : Nat} (hi : i < l.length) : i < runN l → l[i] = l.headD 0 := by
  intro h
  have h1 := take_run l
  have h2 : (l.take (runN l))[i]? = some l[i] := by
    rw [List.getElem?_take_of_lt h, List.getElem?_eq_getElem hi]
  rw [h1, List.getElem?_replicate, if_pos h] at h2
  exact (Option.some.inj h2).symm

theorem run_stop {l : List Int} (h : runN l < l.length) : l[runN l] ≠ l.headD 0 := by
  have key : ∀ (a : Int) (m : List Int) (h : (m.takeWhile (fun x => decide (x = a))).length < m.length), m[(m.takeWhile (fun x => decide (x = a))).length] ≠ a := by
    intro a m
    induction m with
    | nil => intro h; simp at h
    | cons x m ih =>
      intro h
      by_cases hx : x = a
      · subst hx
        simp only [List.takeWhile_cons, decide_true, if_true, List.length_cons] at h ⊢
        simp only [List.getElem_cons_succ]
        exact ih (by omega)
      · simp [hx]
  exact key _ _ h

/-- how far alike ones go, at most 8191 -/
theorem rrun_loop {l out : List Int} {p : Nat} (hp : p < l.length) (hl : l.length ≤ 100000) : ∀ (m k : Nat), k + m = min (runN (l.drop p)) 8191 → 1 ≤ k →
    loopG none (fun (s : Int) => ref18_Write_s2 none l out (p : Int) s) (k : Int) = ref18_Write_l2 none l out (p : Int) ((min (runN (l.drop p)) 8191 : Nat) : Int)
  | 0, k, hk, _ => by
    rw [show k = min (runN (l.drop p)) 8191 by omega]; rfl
  | m + 1, k, hk, h1 => by
    have h2 := rrun_loop (out := out) hp hl m (k + 1) (by omega) (by omega)
    have hr := runN_le (l.drop p)
    rw [List.length_drop] at hr
    have hpk : p + k < l.length := by omega
    have hg := run_get (l := l.drop p) (i := k) (by rw [List.length_drop]; omega) (by omega)
    rw [List.getElem_drop, headD_eq (by rw [List.length_drop]; omega), List.getElem_drop] at hg
    have e1 : ar .add .i64 (p : Int) (k : Int) = ((p + k : Nat) : Int) := by rw [ar_add, w_i64 (by omega) (by omega)]; rfl
    have step : ref18_Write_s2 none l out (p : Int) (k : Int) = some (.inl ((k + 1 : Nat) : Int)) := by
      unfold ref18_Write_s2
      have c1 : cm .lss ((p + k : Nat) : Int) (l.length : Int) = true := by rw [cm_lss]; exact decide_eq_true (by omega)
      rw [e1]
      simp only [c1, gTT, Bool.true_and]
      rw [bnd (ix_some (n := p + k) rfl hpk), bnd (ix_some (n := p) rfl hp), if_pos (by rw [cm_eql, cm_lss, hg]; simp; omega), ar_add, w_i64 (by omega) (by omega)]
      rfl
    rw [loop_inl step]
    exact h2

theorem padTo_lt {n i : Nat} {m : List Int} (h : i < m.length) (hi : i < (padTo n m).length) : (padTo n m)[i] = m[i] := List.getElem_append_left h
theorem padTo_ge {n i : Nat} {m : List Int} (h : m.length ≤ i) (hi : i < (padTo n m).length) : (padTo n m)[i] = 0 := (List.getElem_append_right h).trans (List.getElem_replicate ..)
theorem rpack {l out : List Int} {p B n : Nat} {lead : Int} (hB : (B = 2 ∧ n = 14 ∧ lead = 2) ∨ (B = 4 ∧ n = 7 ∧ lead = 3)) (hv : ∀ x, x ∈ (l.drop p).take n → 0 ≤ x ∧ x < B) (hp : p ≤ l.length) (hl : l.length ≤ 100000) (ho : out.length ≤ 1000000) :
    ref18_Write_j4 none l out (p : Int) (n : Int) (B : Int) lead = some (.inl (out ++ [valB B lead (padTo n ((l.drop p).take n))], ((p + n : Nat) : Int))) := by
  unfold ref18_Write_j4 ref18_Write_l5
  have hpl : (padTo n ((l.drop p).take n)).length = n := padTo_len (by rw [List.length_take]; omega)
  have hpv : ∀ x, x ∈ padTo n ((l.drop p).take n) → 0 ≤ x ∧ x < B := by
    intro x hx
    unfold padTo at hx
    rcases List.mem_append.1 hx with hx | hx
    · exact hv x hx
    · rw [List.eq_of_mem_replicate hx]; omega
  have hbd : ∀ i, i ≤ n → lead * (B : Int) ^ i ≤ valB B lead ((padTo n ((l.drop p).take n)).take i) ∧ valB B lead ((padTo n ((l.drop p).take n)).take i) < (lead + 1) * (B : Int) ^ i := by
    intro i hi
    have := valB_bound (B := (B : Int)) (by omega) (l := (padTo n ((l.drop p).take n)).take i) (a := lead) (fun x hx => hpv x (List.mem_of_mem_take hx))
    rw [List.length_take, hpl, Nat.min_eq_left hi] at this
    exact this
  have hsmall : ∀ i, i ≤ n → 0 ≤ valB B lead ((padTo n ((l.drop p).take n)).take i) ∧ valB B lead ((padTo n ((l.drop p).take n)).take i) ≤ 65535 := by
    intro i hi
    have h := hbd i hi
    rcases hB with ⟨rfl, rfl, rfl⟩ | ⟨rfl, rfl, rfl⟩
    · have : ∀ j : Fin 15, 0 ≤ (2 : Int) * ((2 : Nat) : Int) ^ j.val ∧ ((2 : Int) + 1) * ((2 : Nat) : Int) ^ j.val ≤ 65536 := by decide
      have := this ⟨i, by omega⟩
      simp only at this
      omega
    · have : ∀ j : Fin 8, 0 ≤ (3 : Int) * ((4 : Nat) : Int) ^ j.val ∧ ((3 : Int) + 1) * ((4 : Nat) : Int) ^ j.val ≤ 65536 := by decide
      have := this ⟨i, by omega⟩
      simp only at this
      omega
  have hn : n ≤ 14 := by omega
  have hB4 : B ≤ 4 := by omega
  have e0 : ar .add .i64 (p : Int) (n : Int) = ((p + n : Nat) : Int) := by rw [ar_add, w_i64 (by omega) (by omega)]; rfl
  have := loop_seq (step := fun (s : Int × Int) => ref18_Write_s5 none l out (p : Int) (n : Int) (B : Int) s.1 s.2) (r := (.inl (out ++ [valB B lead (padTo n ((l.drop p).take n))], ((p + n : Nat) : Int)) : (List Int × Int) ⊕ List Int)) (fun i => (valB B lead ((padTo n ((l.drop p).take n)).take i), ((p + i : Nat) : Int))) n (fun i hi => by
    show ref18_Write_s5 none l out (p : Int) (n : Int) (B : Int) _ _ = _
    have h1 := hsmall i (by omega)
    have h2 := hsmall (i + 1) (by omega)
    have hil : i < (padTo n ((l.drop p).take n)).length := by omega
    have hd := hpv _ (List.getElem_mem hil)
    have hval : valB B lead ((padTo n ((l.drop p).take n)).take (i + 1)) = valB B lead ((padTo n ((l.drop p).take n)).take i) * B + (padTo n ((l.drop p).take n))[i] := by
      rw [take_snoc _ i hil, valB_append]; rfl
    have hm1 : 0 ≤ valB B lead ((padTo n ((l.drop p).take n)).take i) * (B : Int) := Int.mul_nonneg h1.1 (by omega)
    unfold ref18_Write_s5 ref18_Write_j6
    have ei : ar .add .i64 ((p + i : Nat) : Int) 1 = ((p + (i + 1) : Nat) : Int) := by rw [ar_add, w_i64 (by omega) (by omega)]; omega
    have em : ar .mul .i64 (B : Int) (valB B lead ((padTo n ((l.drop p).take n)).take i)) = valB B lead ((padTo n ((l.drop p).take n)).take i) * B := by
      rw [ar_mul, Int.mul_comm, w_i64 (by omega) (by omega)]
    rw [e0, if_pos (by rw [cm_lss]; simp; omega), em, ei]
    by_cases hpi : p + i < l.length
    · have hgi : (padTo n ((l.drop p).take n))[i] = l[p + i] := by
        have : i < ((l.drop p).take n).length := by rw [List.length_take, List.length_drop]; omega
        rw [padTo_lt this, List.getElem_take, List.getElem_drop]
      rw [if_pos (by rw [cm_lss]; simp; omega), bnd (ix_some (n := p + i) rfl hpi), ← hgi, ar_add, w_i64 (by omega) (by omega), hval]
    · have hgi : (padTo n ((l.drop p).take n))[i] = 0 := by
        have : ((l.drop p).take n).length ≤ i := by rw [List.length_take, List.length_drop]; omega
        exact padTo_ge this _
      rw [if_neg (by rw [cm_lss]; simp; omega), hval, hgi, Int.add_zero]) (by
    show ref18_Write_s5 none l out (p : Int) (n : Int) (B : Int) _ _ = _
    have h1 := hsmall n (by omega)
    rw [List.take_of_length_le (by omega)] at h1 ⊢
    unfold ref18_Write_s5
    rw [e0, if_neg (by rw [cm_lss]; simp), w_u16 h1.1 h1.2, bnd (app_some (by simp; omega))]; rfl)
  simpa [valB] using this

theorem rall {l out : List Int} {p : Nat} (hl : l.length ≤ 100000) (hv : vl l) : ref18_Write_l3 none l out (p : Int) true (p : Int) = if (2 : Int) ∈ (l.drop p).take 14 then ref18_Write_j4 none l out (p : Int) 7 4 3 else ref18_Write_j4 none l out (p : Int) 14 2 2 := by
  by_cases hp : l.length ≤ p
  · unfold ref18_Write_l3
    rw [loopG_eq]
    have hd : l.drop p = [] := List.drop_of_length_le hp
    rw [hd]
    have hs : ref18_Write_s3 none l out (p : Int) true (p : Int) = Option.map Sum.inr (ref18_Write_j4 none l out (p : Int) 14 2 2) := by
      unfold ref18_Write_s3
      rw [if_neg (by rw [cm_lss, cm_lss]; simp; omega), if_pos rfl]
    simp only [hs]
    cases ref18_Write_j4 none l out (p : Int) 14 2 2 <;> simp
  · have key : ∀ (m i : Nat), i + m = ((l.drop p).take 14).length → 
        loopG none (fun (s : Bool × Int) => ref18_Write_s3 none l out (p : Int) s.1 s.2) (decide (¬ (2 : Int) ∈ ((l.drop p).take 14).take i), ((p + i : Nat) : Int)) = if (2 : Int) ∈ (l.drop p).take 14 then ref18_Write_j4 none l out (p : Int) 7 4 3 else ref18_Write_j4 none l out (p : Int) 14 2 2 := by
      intro m
      have hlen : ((l.drop p).take 14).length = min 14 (l.length - p) := by rw [List.length_take, List.length_drop]
      have e0 : p ≤ 100000 → ar .add .i64 (p : Int) 14 = ((p + 14 : Nat) : Int) := fun h => by rw [ar_add, w_i64 (by omega) (by omega)]; rfl
      have e0 := e0 (by omega)
      induction m with
      | zero =>
        intro i hi
        rw [loopG_eq]
        have hti : ((l.drop p).take 14).take i = (l.drop p).take 14 := List.take_of_length_le (by omega)
        rw [hti]
        have hs : ref18_Write_s3 none l out (p : Int) (decide (¬ (2 : Int) ∈ (l.drop p).take 14)) ((p + i : Nat) : Int) = Option.map Sum.inr (if (2 : Int) ∈ (l.drop p).take 14 then ref18_Write_j4 none l out (p : Int) 7 4 3 else ref18_Write_j4 none l out (p : Int) 14 2 2) := by
          unfold ref18_Write_s3
          rw [e0, if_neg (by rw [cm_lss, cm_lss]; simp; omega)]
          by_cases h2 : (2 : Int) ∈ (l.drop p).take 14
          · rw [if_neg (by simpa using h2), if_pos h2]
          · rw [if_pos (by simpa using h2), if_neg h2]
        simp only [hs]
        cases (if (2 : Int) ∈ (l.drop p).take 14 then ref18_Write_j4 none l out (p : Int) 7 4 3 else ref18_Write_j4 none l out (p : Int) 14 2 2) <;> simp
      | succ m ih =>
        intro i hi
        have hil : i < ((l.drop p).take 14).length := by omega
        have hpi : p + i < l.length := by omega
        have hx := hv _ (List.getElem_mem hpi)
        have hgi : ((l.drop p).take 14)[i] = l[p + i] := by rw [List.getElem_take, List.getElem_drop]
        have step : ref18_Write_s3 none l out (p : Int) (decide (¬ (2 : Int) ∈ ((l.drop p).take 14).take i)) ((p + i : Nat) : Int) = some (.inl (decide (¬ (2 : Int) ∈ ((l.drop p).take 14).take (i + 1)), ((p + (i + 1) : Nat) : Int))) := by
          unfold ref18_Write_s3
          have ei : ar .add .i64 ((p + i : Nat) : Int) 1 = ((p + (i + 1) : Nat) : Int) := by rw [ar_add, w_i64 (by omega) (by omega)]; omega
          rw [e0, if_pos (by rw [cm_lss, cm_lss]; simp; omega), ei, take_snoc _ i hil, hgi]
          by_cases h2 : (2 : Int) ∈ ((l.drop p).take 14).take i
          · have hf : decide (¬ (2 : Int) ∈ ((l.drop p).take 14).take i) = false := decide_eq_false fun h => h h2
            have hf2 : decide (¬ (2 : Int) ∈ ((l.drop p).take 14).take i ++ [l[p + i]]) = false := decide_eq_false fun h => h (List.mem_append_left _ h2)
            rw [hf, hf2]
            simp only [gTF, Option.bind_some, Bool.false_and]
          · have hf : decide (¬ (2 : Int) ∈ ((l.drop p).take 14).take i) = true := decide_eq_true h2
            rw [hf]
            simp only [gTT, Bool.true_and]
            rw [bnd (ix_some (n := p + i) rfl hpi), cm_lss]
            congr 3
            refine decide_eq_decide.2 ?_
            simp only [List.mem_append, h2, false_or, List.mem_singleton]
            omega
        rw [loop_inl step]
        exact ih (i + 1) (by omega)
    have := key ((l.drop p).take 14).length 0 (by omega)
    unfold ref18_Write_l3
    simpa using this

theorem rstep {l out : List Int} {p : Nat} (hp : p < l.length) (hl : l.length ≤ 100000) (ho : out.length ≤ 1000000) (hv : vl l) :
    ∃ q : Nat, ref18_Write_s1 none l out (p : Int) = some (.inl (out ++ [(firstS (l.drop p)).1], (q : Int))) ∧ p < q ∧ q ≤ l.length + 14 ∧ l.drop q = (l.drop p).drop (firstS (l.drop p)).2 := by
  have hne : l.drop p ≠ [] := by
    intro h
    have := congrArg List.length h
    rw [List.length_drop, List.length_nil] at this; omega
  have hvd : vl (l.drop p) := hv.sub fun x hx => List.mem_of_mem_drop hx
  have hrl := runN_le (l.drop p)
  have hpos := firstS_pos hne
  have hr1 : 1 ≤ runN (l.drop p) := by
    rw [List.drop_eq_getElem_cons hp]
    show 1 ≤ ((l[p] :: l.drop (p + 1)).takeWhile fun x => decide (x = l[p])).length
    rw [List.takeWhile_cons, if_pos (by simp)]
    simp
  have hdl : (l.drop p).length = l.length - p := List.length_drop
  have h0 : ref18_Write_s1 none l out (p : Int) = ref18_Write_l2 none l out (p : Int) ((min (runN (l.drop p)) 8191 : Nat) : Int) := by
    unfold ref18_Write_s1
    rw [if_pos (by rw [cm_lss]; simpa using hp)]
    exact rrun_loop (out := out) hp hl (min (runN (l.drop p)) 8191 - 1) 1 (by omega) (by omega)
  rw [h0]
  have hk1 : 1 ≤ min (runN (l.drop p)) 8191 := by omega
  have hstop : ref18_Write_l2 none l out (p : Int) ((min (runN (l.drop p)) 8191 : Nat) : Int) = (if ((cm .geq ((min (runN (l.drop p)) 8191 : Nat) : Int) 14) || (cm .eql (ar .add .i64 (p : Int) ((min (runN (l.drop p)) 8191 : Nat) : Int)) (l.length : Int))) then
    Option.bind (ix l (p : Int)) fun x6 =>
      Option.bind (app out [(IntKind.u16.wrap (ar .add .i64 (ar .mul .i64 8192 x6) ((min (runN (l.drop p)) 8191 : Nat) : Int)))]) fun x7 =>
      some (Sum.inl (x7, (ar .add .i64 (p : Int) ((min (runN (l.drop p)) 8191 : Nat) : Int))))
  else
    ref18_Write_l3 none l out (p : Int) true (p : Int)) := by
    generalize hk : min (runN (l.drop p)) 8191 = k at *
    unfold ref18_Write_l2
    rw [loopG_eq]
    have e1 : ar .add .i64 (p : Int) (k : Int) = ((p + k : Nat) : Int) := by rw [ar_add, w_i64 (by omega) (by omega)]; rfl
    have hs : ref18_Write_s2 none l out (p : Int) (k : Int) = Option.map Sum.inr (if ((cm .geq (k : Int) 14) || (cm .eql (ar .add .i64 (p : Int) (k : Int)) (l.length : Int))) then
    Option.bind (ix l (p : Int)) fun x6 =>
      Option.bind (app out [(IntKind.u16.wrap (ar .add .i64 (ar .mul .i64 8192 x6) (k : Int)))]) fun x7 =>
      some (Sum.inl (x7, (ar .add .i64 (p : Int) (k : Int))))
  else
    ref18_Write_l3 none l out (p : Int) true (p : Int)) := by
      unfold ref18_Write_s2
      rw [e1]
      by_cases hpk : p + k < l.length
      · have c1 : cm .lss ((p + k : Nat) : Int) (l.length : Int) = true := by rw [cm_lss]; exact decide_eq_true (by omega)
        simp only [c1, gTT, Bool.true_and]
        rw [bnd (ix_some (n := p + k) rfl hpk), bnd (ix_some (n := p) rfl hp), if_neg]
        intro hc
        rw [cm_eql, cm_lss] at hc
        simp only [Bool.and_eq_true, decide_eq_true_eq] at hc
        have hkr : k = runN (l.drop p) := by omega
        have := run_stop (l := l.drop p) (by omega)
        rw [List.getElem_drop, headD_eq (by omega), List.getElem_drop] at this
        simp only [← hkr, Nat.add_zero] at this
        exact this hc.1
      · have c1 : cm .lss ((p + k : Nat) : Int) (l.length : Int) = false := by rw [cm_lss]; exact decide_eq_false (by omega)
        simp only [c1, gTF, Option.bind_some, Bool.false_and]
        rw [if_neg (by decide)]
    simp only [hs]
    generalize (if ((cm .geq (k : Int) 14) || (cm .eql (ar .add .i64 (p : Int) (k : Int)) (l.length : Int))) then
    Option.bind (ix l (p : Int)) fun x6 =>
      Option.bind (app out [(IntKind.u16.wrap (ar .add .i64 (ar .mul .i64 8192 x6) (k : Int)))]) fun x7 =>
      some (Sum.inl (x7, (ar .add .i64 (p : Int) (k : Int))))
  else
    ref18_Write_l3 none l out (p : Int) true (p : Int)) = t
    cases t <;> simp
  rw [hstop]
  have e1 : ar .add .i64 (p : Int) ((min (runN (l.drop p)) 8191 : Nat) : Int) = ((p + min (runN (l.drop p)) 8191 : Nat) : Int) := by rw [ar_add, w_i64 (by omega) (by omega)]; rfl
  rw [e1]
  by_cases hc : 14 ≤ runN (l.drop p) ∨ runN (l.drop p) = (l.drop p).length
  · have hx := hv _ (List.getElem_mem hp)
    have hf : firstS (l.drop p) = ((l.drop p).headD 0 * 8192 + (min (runN (l.drop p)) 8191 : Nat), min (runN (l.drop p)) 8191) := by unfold firstS; rw [if_pos hc]
    have hh : (l.drop p).headD 0 = l[p] := by rw [headD_eq (by omega), List.getElem_drop]; rfl
    refine ⟨p + min (runN (l.drop p)) 8191, ?_, by omega, by omega, by rw [hf, List.drop_drop]⟩
    rw [if_pos (by rw [cm_geq, cm_eql]; simp only [Bool.or_eq_true, decide_eq_true_eq]; omega), bnd (ix_some (n := p) rfl hp), hf, hh]
    rw [ar_mul, w_i64 (n := 8192 * l[p]) (by omega) (by omega), ar_add, w_i64 (n := 8192 * l[p] + _) (by omega) (by omega), w_u16 (by omega) (by omega), bnd (app_some (by simp; omega)), Int.mul_comm 8192]
  · rw [if_neg (by rw [cm_geq, cm_eql]; simp only [Bool.or_eq_true, decide_eq_true_eq]; omega), rall hl hv]
    by_cases h2 : (2 : Int) ∈ (l.drop p).take 14
    · have hf : firstS (l.drop p) = (valB 4 3 (padTo 7 ((l.drop p).take 7)), min (l.drop p).length 7) := by unfold firstS; rw [if_neg hc, if_pos h2]
      refine ⟨p + 7, ?_, by omega, by omega, ?_⟩
      · rw [if_pos h2, hf]
        exact rpack (B := 4) (n := 7) (.inr ⟨rfl, rfl, rfl⟩) (fun x hx => by have := hvd x (List.mem_of_mem_take hx); omega) (by omega) hl ho
      · rw [hf, List.drop_drop]
        show l.drop (p + 7) = l.drop (p + min (l.drop p).length 7)
        by_cases h7 : 7 ≤ (l.drop p).length
        · rw [Nat.min_eq_right h7]
        · rw [List.drop_of_length_le (by omega), List.drop_of_length_le (by omega)]
    · have hf : firstS (l.drop p) = (valB 2 2 (padTo 14 ((l.drop p).take 14)), min (l.drop p).length 14) := by unfold firstS; rw [if_neg hc, if_neg h2]
      refine ⟨p + 14, ?_, by omega, by omega, ?_⟩
      · rw [if_neg h2, hf]
        exact rpack (B := 2) (n := 14) (.inl ⟨rfl, rfl, rfl⟩) (fun x hx => by
          have := hvd x (List.mem_of_mem_take hx)
          have : x ≠ 2 := fun e => h2 (e ▸ hx)
          omega) (by omega) hl ho
      · rw [hf, List.drop_drop]
        show l.drop (p + 14) = l.drop (p + min (l.drop p).length 14)
        by_cases h7 : 14 ≤ (l.drop p).length
        · rw [Nat.min_eq_right h7]
        · rw [List.drop_of_length_le (by omega), List.drop_of_length_le (by omega)]

theorem rwrite_loop {l : List Int} (hl : l.length ≤ 100000) (hv : vl l) : ∀ (n p : Nat) (out : List Int), l.length < p + n → out.length + n ≤ 1000000 → p ≤ l.length + 14 →
    loopG none (fun (s : List Int × Int) => ref18_Write_s1 none l s.1 s.2) (out, (p : Int)) = some (out ++ writeS (l.drop p))
  | 0, p, out, h, _, _ => by
    refine (loop_inr (r := out) ?_).trans ?_
    · show ref18_Write_s1 none l out (p : Int) = _
      unfold ref18_Write_s1
      rw [if_neg (by rw [cm_lss]; simp; omega)]; rfl
    · rw [List.drop_of_length_le (by omega), writeS_nil, List.append_nil]
  | n + 1, p, out, h, ho, hp14 => by
    by_cases hp : p < l.length
    · obtain ⟨q, h1, h2, h3, h4⟩ := rstep (out := out) hp hl (by omega) hv
      refine (loop_inl (s' := (out ++ [(firstS (l.drop p)).1], (q : Int))) h1).trans ?_
      rw [rwrite_loop hl hv n q _ (by omega) (by simp; omega) h3, h4]
      have hne : l.drop p ≠ [] := by
        intro h
        have := congrArg List.length h
        rw [List.length_drop, List.length_nil] at this; omega
      rw [writeS_cons hne]
      simp
    · refine (loop_inr (r := out) ?_).trans ?_
      · show ref18_Write_s1 none l out (p : Int) = _
        unfold ref18_Write_s1
        rw [if_neg (by rw [cm_lss]; simp; omega)]; rfl
      · rw [List.drop_of_length_le (by omega), writeS_nil, List.append_nil]

theorem rwrite_eq {l : List Int} (hl : l.length ≤ 10000) (hv : vl l) : ref18_Write none l = some (writeS l) := by
  unfold ref18_Write ref18_Write_l1
  have := rwrite_loop (by omega) hv (l.length + 1) 0 [] (by omega) (by simp; omega) (by omega)
  simpa using this
end Xb
