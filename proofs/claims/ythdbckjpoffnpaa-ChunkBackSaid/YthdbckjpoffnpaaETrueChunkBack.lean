/- Own text: ETrueChunkBack. -/
import Derived.Test.YthdbckjpoffnpaaMChunk5
import Derived.Test.YthdbckjpoffnpaaEWf
set_option linter.all false
set_option linter.unusedVariables false
set_option linter.unusedSimpArgs false
set_option linter.unnecessarySimpa false
set_option linter.deprecated false
namespace Xb
open Go

theorem Ints_eq {a b : List Int} (h : a.length ≤ 1000000) : ref18_Ints none a b = some (decide (a = b)) := by
  unfold ref18_Ints
  by_cases hl : a.length = b.length
  · rw [if_neg (by rw [cm_neq]; simp; omega)]
    unfold ref18_Ints_l1
    refine same_loop hl (step := fun (s : Int) => ref18_Ints_s1 none a b s) ?_ ?_
    · simp only [ref18_Ints_s1, cm_lss, decide_eq_true_eq]
      rw [if_neg (by omega)]; rfl
    · intro i hi hi'
      simp only [ref18_Ints_s1, cm_lss, decide_eq_true_eq]
      rw [if_pos (by omega), bnd (ix_some rfl hi), bnd (ix_some rfl hi'), cm_neq, ar_add, w_i64 (by omega) (by omega)]
      by_cases he : a[i] = b[i]
      · rw [if_neg (by simpa using he), if_neg (by simpa using he)]; rfl
      · rw [if_pos (by simpa using he), if_pos he]; rfl
  · rw [if_pos (by rw [cm_neq]; simp; omega)]
    have : ¬ a = b := fun e => hl (by rw [e])
    simp [this]

theorem Same_eq {a b : List Int} (h : a.length ≤ 1000000) : ref18_Same none a b = some (decide (a = b)) := by
  unfold ref18_Same
  by_cases hl : a.length = b.length
  · rw [if_neg (by rw [cm_neq]; simp; omega)]
    unfold ref18_Same_l1
    refine same_loop hl (step := fun (s : Int) => ref18_Same_s1 none a b s) ?_ ?_
    · simp only [ref18_Same_s1, cm_lss, decide_eq_true_eq]
      rw [if_neg (by omega)]; rfl
    · intro i hi hi'
      simp only [ref18_Same_s1, cm_lss, decide_eq_true_eq]
      rw [if_pos (by omega), bnd (ix_some rfl hi), bnd (ix_some rfl hi'), cm_neq, ar_add, w_i64 (by omega) (by omega)]
      by_cases he : a[i] = b[i]
      · rw [if_neg (by simpa using he), if_neg (by simpa using he)]; rfl
      · rw [if_pos (by simpa using he), if_pos he]; rfl
  · rw [if_pos (by rw [cm_neq]; simp; omega)]
    have : ¬ a = b := fun e => hl (by rw [e])
    simp [this]

theorem readC_write {l more : List Int} (hv : vl l) (hl : l.length ≤ 4000) : readC (writeS l ++ more) (l.length : Int) = .ok (l, (writeS l).length) := by
  unfold readC
  rw [if_neg (by omega)]
  by_cases h0 : l = []
  · subst h0; rw [writeS_nil]; rfl
  · have hpos : 0 < l.length := List.length_pos_iff.2 h0
    rw [if_neg (by omega)]
    exact readT_write more (l.length + 1) (by omega) hv h0

theorem readC_err {cs : List Int} {count e : Int} (h : readC cs count = .error e) : e ≠ 0 := by
  intro h0
  subst h0
  unfold readC at h
  split at h
  · cases h
  · split at h
    · cases h
    · have : ∀ (cs : List Int) (rem : Nat), readT cs rem ≠ .error 0 := by
        intro cs
        induction cs with
        | nil => intro rem h; simp [readT] at h
        | cons c cs ih =>
          intro rem h
          rw [readT] at h
          split at h
          · simp at h
          · split at h
            · cases h
            · split at h
              · cases h
              · rename_i e' he'; cases h; exact ih _ he'
      exact this _ _ h

theorem cme (x : Int) : cm .eql x x = true := by rw [cm_eql]; simp
theorem cmn (x : Int) : cm .neq x x = false := by rw [cm_neq]; simp

theorem chunkBack_j {c : List Int} {count : Int} (hc : ∀ x, x ∈ c → 0 ≤ x ∧ x ≤ 65535) (hl : c.length ≤ 3000) : law18_ChunkBack_j1 none c count = some true := by
  unfold law18_ChunkBack_j1
  have hcan := canon_eq hc (by omega) (count := count)
  rw [bnd (read_eq hc (by omega))]
  cases hr : readC c count with
  | error e =>
    have he := readC_err hr
    rw [hr] at hcan
    show (if cm .neq e 0 = true then Option.bind (gT ((cm .eql (([] : List Int).length : Int) 0) && (cm .eql (0 : Int) 0)) (chunk_Canon none c count)) (fun x3 => some (((cm .eql (([] : List Int).length : Int) 0) && (cm .eql (0 : Int) 0)) && (!x3))) else _) = some true
    rw [if_pos (by rw [cm_neq]; simpa using he)]
    have e1 : ((cm .eql (([] : List Int).length : Int) 0) && (cm .eql (0 : Int) 0)) = true := by decide
    rw [e1, gTT, bnd hcan]; rfl
  | ok p =>
    obtain ⟨y, n⟩ := p
    rw [hr] at hcan
    obtain ⟨h1, h2, h3, h4⟩ := readC_ok hc hr
    have hw : chunk_Write none ([] ++ y) = some (writeS y, 0) := by rw [List.nil_append, write_eq (by omega), if_pos (show ∀ x, x ∈ y → 0 ≤ x ∧ x ≤ 2 from h3)]
    have hx := writeS_in (y.length + 1) (l := y) (by omega) h3
    have hxl : (writeS y).length ≤ 1000000 := by have := writeS_len (y.length + 1) y (by omega); omega
    have hre : chunk_Read none (writeS y) count = some (y, ((writeS y).length : Int), 0) := by
      rw [read_eq hx hxl]
      have := readC_write (more := []) h3 h2
      rw [List.append_nil, h1] at this
      rw [this]
      simp [rdR]
    show (if cm .neq (0 : Int) 0 = true then _ else Option.bind (chunk_Write none ([] ++ y)) _) = some true
    rw [if_neg (by decide), bnd hw]
    simp only
    rw [bnd hre]
    simp only [rdR, List.nil_append, Nat.zero_add]
    have c1 : cm .eql (y.length : Int) count = true := by rw [h1]; exact cme _
    have c2 : cm .geq (n : Int) 0 = true := by rw [cm_geq]; simp
    have c3 : cm .leq (n : Int) (c.length : Int) = true := by rw [cm_leq]; simp; omega
    simp only [cme, c1, c2, c3, Bool.true_and, gTT]
    rw [bnd (Ints_eq (by omega))]
    simp only [decide_true, Bool.true_and, gTT]
    rw [bnd hcan, bnd (Same_eq hxl)]
    simp [bq]

theorem chunkBack_true {l c : List Int} {count : Int} {more : List Int} (hl : l.length ≤ maxLen ∧ ∀ x, x ∈ l → inK .i64 x) (hc : c.length ≤ maxLen ∧ ∀ x, x ∈ c → inK .u16 x) (_hcount : inK .i64 count)
    (hm : more.length ≤ maxLen ∧ ∀ x, x ∈ more → inK .u16 x) : law18_ChunkBack none l c count more = some true := by
  have hcu : ∀ x, x ∈ c → 0 ≤ x ∧ x ≤ 65535 := fun x hx => in_u16.1 (hc.2 x hx)
  have hmu : ∀ x, x ∈ more → 0 ≤ x ∧ x ≤ 65535 := fun x hx => in_u16.1 (hm.2 x hx)
  unfold law18_ChunkBack
  by_cases h : l.length > 4000 ∨ c.length > 3000 ∨ more.length > 30
  · rw [if_pos (by rw [cm_gtr, cm_gtr, cm_gtr]; simp; omega)]
  · rw [if_neg (by rw [cm_gtr, cm_gtr, cm_gtr]; simp; omega), bnd (write_eq (by omega))]
    have hj := chunkBack_j hcu (by omega) (count := count)
    by_cases hv : vl l
    · have hv' : ∀ x, x ∈ l → 0 ≤ x ∧ x ≤ 2 := hv
      rw [if_pos hv']
      rw [if_pos (by rfl)]
      have hx := writeS_in (l.length + 1) (l := l) (by omega) hv
      have hxl : (writeS l).length ≤ 4000 := by have := writeS_len (l.length + 1) l (by omega); omega
      have hr1 : chunk_Read none (writeS l) (l.length : Int) = some (l, ((writeS l).length : Int), 0) := by
        rw [read_eq hx (by omega)]
        have := readC_write (more := []) hv (by omega)
        rw [List.append_nil] at this
        rw [this]; simp [rdR]
      have hr2 : chunk_Read none (writeS l ++ more) (l.length : Int) = some (l, ((writeS l).length : Int), 0) := by
        rw [read_eq (fun x hxm => (List.mem_append.1 hxm).elim (hx x) (hmu x)) (by rw [List.length_append]; omega), readC_write hv (by omega)]
        simp [rdR]
      have hcan : ∀ n : Int, chunk_Canon none (writeS l) n = some (match readC (writeS l) n with | .ok (y, _) => decide (writeS y = writeS l) | .error _ => false) := fun n => canon_eq hx (by omega)
      have hcan1 : chunk_Canon none (writeS l) (l.length : Int) = some true := by
        rw [hcan]
        have := readC_write (more := []) hv (by omega)
        rw [List.append_nil] at this
        rw [this]; simp
      simp only
      rw [bnd hr1, bnd (app_some (l := []) (by simp; omega)), List.nil_append, bnd (app_some (by omega)), bnd hr2]
      simp only [cmn, Bool.or_false, Bool.not_false, gTT]
      rw [bnd (Ints_eq (by omega))]
      simp only [decide_true, Bool.not_true, Bool.or_false, Bool.not_false, gTT]
      rw [bnd (Ints_eq (by omega))]
      simp only [decide_true, Bool.not_true, Bool.or_false, Bool.not_false, gTT]
      rw [bnd hcan1, if_neg (by decide), bnd (hcan count)]
      by_cases hov : (match readC (writeS l) count with | .ok (y, _) => decide (writeS y = writeS l) | .error _ => false) = true ∧ count ≠ (l.length : Int)
      · rw [if_pos (by rw [hov.1, cm_neq]; simpa using hov.2)]
        obtain ⟨h1, h2⟩ := hov
        cases hr : readC (writeS l) count with
        | error e => rw [hr] at h1; simp at h1
        | ok p =>
          obtain ⟨y, n⟩ := p
          rw [hr] at h1
          have hwe : writeS y = writeS l := by simpa using h1
          obtain ⟨g1, g2, g3, g4⟩ := readC_ok hx hr
          have hnl : l ≠ [] := by
            rintro rfl
            rw [writeS_nil] at hwe
            have := (writeS_nil_iff (l := y)).1 (by rw [hwe]; rfl)
            simp at h2; omega
          have hny : y ≠ [] := by
            rintro rfl
            rw [writeS_nil] at hwe
            have := (writeS_nil_iff (l := l)).1 (by rw [← hwe]; rfl)
            exact hnl (List.length_eq_zero_iff.1 this)
          have ho := writeS_ovl (l.length + 1) (l := l) (m := y) (by omega) hv g3 hnl hny hwe.symm (by omega)
          have hwpos : 0 < (writeS l).length := by rw [writeS_cons hnl]; simp
          have : law18_overlap (writeS l) count (l.length : Int) = some true := by
            unfold law18_overlap
            have e1 : cm .gtr ((writeS l).length : Int) 0 = true := by rw [cm_gtr]; simp; omega
            rw [e1, gTT, ar_sub, w_i64 (by omega) (by omega), bnd (ix_getD (by omega) (by omega))]
            have e2 : (((writeS l).length : Int) - 1).toNat = (writeS l).length - 1 := by omega
            rw [e2, ar_sub, w_i64 (by omega) (by omega), ar_sub, w_i64 (by omega) (by omega), cm_geq, cm_lss, cm_lss]
            congr 1
            simp only [Bool.true_and, Bool.and_eq_true, decide_eq_true_eq]
            omega
          rw [bnd this]
      · rw [if_neg (by
          rw [cm_neq]
          simp only [Bool.and_eq_true, Bool.not_eq_true', decide_eq_false_iff_not]
          exact hov)]
        by_cases hl0 : l = []
        · subst hl0
          rw [writeS_nil, if_neg (by decide)]; exact hj
        · have hwpos : 0 < (writeS l).length := by rw [writeS_cons hl0]; simp
          have hpos : 0 < l.length := List.length_pos_iff.2 hl0
          rw [if_pos (by rw [cm_gtr]; simp; omega)]
          have hs : sub (writeS l) 0 (ar .sub .i64 ((writeS l).length : Int) 1) = some (writeS l).dropLast := by
            rw [ar_sub, w_i64 (by omega) (by omega), sub_some (by omega) (by omega) (by omega), List.dropLast_eq_take]
            simp only [Int.toNat_zero, List.drop_zero, Nat.sub_zero]
            congr 2; omega
          have hrc : chunk_Read none (writeS l).dropLast (l.length : Int) = some ([], 0, 2) := by
            rw [read_eq (fun x hxm => hx x ((List.dropLast_sublist _).subset hxm)) (by rw [List.length_dropLast]; omega)]
            unfold readC
            rw [if_neg (by omega), if_neg (by omega)]
            have := readT_cut (l.length + 1) (l := l) (by omega) hv hl0
            rw [Int.toNat_natCast, this]; rfl
          rw [bnd hs, bnd hrc, if_neg (by decide)]
          exact hj
    · have hv' : ¬ ∀ x, x ∈ l → 0 ≤ x ∧ x ≤ 2 := hv
      rw [if_neg hv']
      rw [if_neg (by decide)]
      exact hj
end Xb
