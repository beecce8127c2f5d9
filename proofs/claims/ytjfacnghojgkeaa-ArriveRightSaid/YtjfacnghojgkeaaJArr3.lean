/- Own text: JArr3. -/
import Derived.Test.YtjfacnghojgkeaaJArr2
set_option linter.all false
set_option linter.unusedVariables false
set_option linter.unusedSimpArgs false
set_option linter.unnecessarySimpa false
set_option linter.deprecated false
/-! A telling, read. -/
namespace Xb
open Go

def numA (b : List Int) : Int := numB ((b.drop 2).take 2)
def csA (b : List Int) : List Int := (chunksL 2 (b.drop 8)).map numB
def sumN (l : List Int) : Nat := (l.map Int.toNat).sum
def valD (v : Int) (b : List Int) : Int := if v = 1 then b.headD 0 else if v = 2 then sg2 (numB (b.take 2)) else 0
def deltasS : List Int → List Int → List Seen
  | [], _ => []
  | v :: l, b => ⟨v, valD v b⟩ :: deltasS l (b.drop v.toNat)
def readA (b : List Int) : Except Int (Arrive × Nat × Nat) :=
  if 65520 < b.length ∨ b.length % 4 ≠ 0 then .error 4 else if b.length < 8 then .error 2 else
  if 4000 < numA b then .error 4 else
  match readC (csA b) (numA b) with
  | .error e => .error e
  | .ok (L, u) =>
    if (b.drop (8 + 2 * u)).length < sumN L then .error 2 else if sumN L + 3 < (b.drop (8 + 2 * u)).length then .error 4 else
    .ok (⟨numB (b.take 2), sg3 (numB ((b.drop 4).take 3)), b.getD 7 0, deltasS L (b.drop (8 + 2 * u))⟩, u, sumN L)

theorem sumN_snoc (l : List Int) (x : Int) : sumN (l ++ [x]) = sumN l + x.toNat := by simp [sumN]
theorem sumN_cons (l : List Int) (x : Int) : sumN (x :: l) = x.toNat + sumN l := by simp [sumN]
theorem sumN_bd {l : List Int} (h : vl l) : sumN l ≤ 2 * l.length := by
  induction l with
  | nil => simp [sumN]
  | cons a l ih =>
    have h1 := ih fun x hx => h x (by simp [hx])
    have h2 := h a (by simp)
    rw [sumN_cons, List.length_cons]; omega

theorem numbers_eq {b : List Int} (hb : oct b) (hl : b.length ≤ 100000) (he : b.length % 2 = 0) : arrive_numbers none b = some ((chunksL 2 b).map numB) := by
  unfold arrive_numbers
  rw [bnd (show lnO b = some () by simp [lnO]; omega)]
  unfold arrive_numbers_l1
  have hc := chunks_count (n := 2) (by omega) he
  rw [fold_map (f := numB) (chunksL 2 b) [] (fun y s hy hs => by
    have hlen := chunks_len (n := 2) (by omega) he y hy
    have hyo : oct y := fun x hx => hb x (chunks_mem hy hx)
    have hn := numB_bd y hyo
    rw [hlen] at hn
    have hg : octet_Get none y 0 2 = some (numB y, 0) := by
      have := get_eq (b := y) (at_ := 0) (n := 2) (by omega) (by omega) hyo (by omega) (by omega)
      rw [List.drop_zero, ← hlen, List.take_length, hlen] at this
      exact this
    show arrive_numbers_s1 none y s = _
    unfold arrive_numbers_s1
    rw [bnd hg]
    simp only []
    rw [w_u16 (by omega) (by omega), bnd (app_some (by simp; omega))]) (by simp; omega)]
  rfl
theorem csA_in {b : List Int} (hb : oct b) (he : b.length % 4 = 0) (h8 : 8 ≤ b.length) : ∀ x, x ∈ csA b → 0 ≤ x ∧ x ≤ 65535 := by
  intro x hx
  obtain ⟨y, hy, rfl⟩ := List.mem_map.1 hx
  have hlen := chunks_len (n := 2) (l := b.drop 8) (by omega) (by rw [List.length_drop]; omega) y hy
  have hyo : oct y := fun x hx => hb.drop 8 x (chunks_mem hy hx)
  have hn := numB_bd y hyo
  rw [hlen] at hn
  omega
theorem csA_len {b : List Int} (he : b.length % 4 = 0) (h8 : 8 ≤ b.length) : (csA b).length = (b.length - 8) / 2 := by
  have hc := chunks_count (n := 2) (l := b.drop 8) (by omega) (by rw [List.length_drop]; omega)
  unfold csA
  rw [List.length_map, hc, List.length_drop]

theorem deltas_loop {l b : List Int} (hb : oct b) (hl : b.length ≤ 100000) (hv : vl l) (hll : l.length ≤ 4000) : ∀ (m i pos : Nat) (out : List Seen), i + m = l.length → pos + sumN (l.drop i) ≤ b.length → out.length + m ≤ 5000 →
    loopG none (fun (s : List Seen × Int × Int) => arrive_deltas_s1 none l b s.1 s.2.1 s.2.2) (out, (pos : Int), (i : Int)) = some (out ++ deltasS (l.drop i) (b.drop pos))
  | 0, i, pos, out, hi, _, _ => by
    have e : i = l.length := by omega
    subst e
    have h : arrive_deltas_s1 none l b out (pos : Int) (l.length : Int) = some (.inr out) := by
      unfold arrive_deltas_s1
      rw [if_neg (by rw [cm_lss]; simp)]; rfl
    rw [loop_inr h, List.drop_length]
    simp [deltasS]
  | m + 1, i, pos, out, hi, hp, ho => by
    have hil : i < l.length := by omega
    have hd : l.drop i = l[i] :: l.drop (i + 1) := List.drop_eq_getElem_cons hil
    rw [hd, sumN_cons] at hp
    have hvi := hv _ (List.getElem_mem hil)
    have step : arrive_deltas_s1 none l b out (pos : Int) (i : Int) = some (.inl (out ++ [⟨l[i], valD l[i] (b.drop pos)⟩], ((pos + l[i].toNat : Nat) : Int), ((i + 1 : Nat) : Int))) := by
      unfold arrive_deltas_s1
      rw [if_pos (by rw [cm_lss]; simpa using hil), bnd (ix_some (n := i) rfl hil)]
      have ea : ar .add .i64 (pos : Int) (arrive_size l[i]) = ((pos + l[i].toNat : Nat) : Int) := by
        unfold arrive_size
        rw [ar_add, w_i64 (by omega) (by omega)]; omega
      have ei : ar .add .i64 (i : Int) 1 = ((i + 1 : Nat) : Int) := by rw [ar_add, w_i64 (by omega) (by omega)]; rfl
      unfold valD
      by_cases h1 : l[i] = 1
      · rw [h1] at hp ea ⊢
        have hpl : pos < b.length := by simp at hp; omega
        have hx := hb _ (List.getElem_mem hpl)
        rw [if_pos (by decide), bnd (ix_some (n := pos) rfl hpl), w_i64 (by omega) (by omega), if_pos rfl]
        unfold arrive_deltas_j2
        rw [bnd (app_some (by simp; omega)), ea, ei, List.drop_eq_getElem_cons hpl]
        rfl
      · rw [if_neg (by rw [cm_eql]; simpa using h1), if_neg h1]
        by_cases h2 : l[i] = 2
        · rw [h2] at hp ea ⊢
          have hpl : pos + 2 ≤ b.length := by simp at hp; omega
          rw [if_pos (by decide), bnd (gets2 hb (by omega) hpl), if_pos rfl]
          unfold arrive_deltas_j2
          rw [bnd (app_some (by simp; omega)), ea, ei]
        · rw [if_neg (by rw [cm_eql]; simpa using h2), if_neg h2]
          unfold arrive_deltas_j2
          rw [bnd (app_some (by simp; omega)), ea, ei]
    rw [loop_inl step, deltas_loop hb hl hv hll m (i + 1) (pos + l[i].toNat) _ (by omega) (by omega) (by simp; omega), hd, List.append_assoc]
    have e : b.drop (pos + l[i].toNat) = (b.drop pos).drop l[i].toNat := by rw [List.drop_drop]
    rw [e]
    rfl

theorem deltas_eq {l b : List Int} (hb : oct b) (hl : b.length ≤ 100000) (hv : vl l) (hll : l.length ≤ 4000) (h : sumN l ≤ b.length) : arrive_deltas none l b = some (deltasS l b) := by
  unfold arrive_deltas arrive_deltas_l1
  have := deltas_loop hb hl hv hll l.length 0 0 [] (by omega) (by simpa using h) (by simp; omega)
  simpa using this

theorem size_loop {body x6 x8 L : List Int} {x2 x4 : Int × Int} {u : Nat} {e : Int} {r : Arrive × List Int × List Int × Int} (hv : vl L) (hll : L.length ≤ 4000)
    (h : arrive_read_s2 none body x2 x4 x6 (L, (u : Int), e) x8 ((sumN L : Nat) : Int) ((L.length : Nat) : Int) = some (.inr r)) :
    arrive_read_l2 none body x2 x4 x6 (L, (u : Int), e) x8 0 0 = some r := by
  unfold arrive_read_l2
  have := loop_seq (step := fun (s : Int × Int) => arrive_read_s2 none body x2 x4 x6 (L, (u : Int), e) x8 s.1 s.2) (r := r) (fun i => (((sumN (L.take i) : Nat) : Int), (i : Int))) L.length (fun i hi => by
    show arrive_read_s2 none body x2 x4 x6 (L, (u : Int), e) x8 _ (i : Int) = _
    have hvi := hv _ (List.getElem_mem hi)
    have hb := sumN_bd (l := L.take i) fun x hx => hv x (List.mem_of_mem_take hx)
    rw [List.length_take] at hb
    unfold arrive_read_s2 arrive_size
    rw [if_pos (by rw [cm_lss]; simpa using hi), bnd (ix_some (n := i) rfl hi), ar_add, w_i64 (by omega) (by omega), ar_add, w_i64 (by omega) (by omega), take_snoc L i hi, sumN_snoc]
    congr 4
    · omega) (by
    show arrive_read_s2 none body x2 x4 x6 (L, (u : Int), e) x8 _ _ = _
    rw [List.take_length]
    exact h)
  simpa [sumN] using this

def zeroA : Arrive := ⟨0, 0, 0, []⟩
def rdA (b : List Int) : Arrive × List Int × List Int × Int :=
  match readA b with
  | .error e => (zeroA, [], [], e)
  | .ok (a, u, n) => (a, (csA b).take u, (b.drop (8 + 2 * u)).drop n, 0)

theorem aread_eq {b : List Int} (hb : oct b) (hl : b.length ≤ 100000) : arrive_read none b = some (rdA b) := by
  have hj : arrive_read none b = arrive_read_j1 none b (decide (65520 < b.length ∨ b.length % 4 ≠ 0)) := by
    unfold arrive_read
    by_cases h : 65520 < b.length
    · have : cm .gtr (b.length : Int) 65520 = true := by rw [cm_gtr]; exact decide_eq_true (by omega)
      rw [this, if_pos rfl, decide_eq_true (.inl h)]
    · have h1 : cm .gtr (b.length : Int) 65520 = false := by rw [cm_gtr]; exact decide_eq_false (by omega)
      have h2 : cm .gtr (dv .rem .i64 (b.length : Int) 4) 0 = decide (65520 < b.length ∨ b.length % 4 ≠ 0) := by
        rw [dv_rem (by omega), cm_gtr]; exact decide_eq_decide.2 (by omega)
      rw [h1, if_neg (by decide), h2]
  rw [hj]
  unfold arrive_read_j1 rdA readA
  by_cases h : 65520 < b.length ∨ b.length % 4 ≠ 0
  · rw [decide_eq_true h, if_pos rfl, if_pos h]; rfl
  · rw [decide_eq_false h, if_neg (by decide), if_neg h]
    by_cases h8 : b.length < 8
    · rw [if_pos (by rw [cm_lss]; simp; omega), if_pos h8]; rfl
    · rw [if_neg (by rw [cm_lss]; simp; omega), if_neg h8]
      have e4 : b.length % 4 = 0 := by omega
      have g0 : octet_Get none b 0 2 = some (numB (b.take 2), 0) := by
        have := get_eq (b := b) (at_ := 0) (n := 2) (by omega) (by omega) hb (by omega) (by omega)
        rw [List.drop_zero] at this
        exact this
      have g2 : octet_Get none b 2 2 = some (numA b, 0) := get_eq (b := b) (at_ := 2) (n := 2) (by omega) (by omega) hb (by omega) (by omega)
      have g4 : octet_Signed none b 4 3 = some (sg3 (numB ((b.drop 4).take 3)), 0) := gets3 (at_ := 4) hb (by omega) (by omega)
      have n0 := numB_bd (b.take 2) (hb.take 2)
      have n2 := numB_bd ((b.drop 2).take 2) ((hb.drop 2).take 2)
      rw [List.length_take, show min 2 b.length = 2 by omega] at n0
      rw [List.length_take, List.length_drop, show min 2 (b.length - 2) = 2 by omega] at n2
      have hnA : 0 ≤ numA b ∧ numA b < 65536 := n2
      rw [bnd g0, bnd g2, bnd g4]
      simp only []
      by_cases h4 : 4000 < numA b
      · rw [if_pos (by rw [cm_gtr]; simpa using h4), if_pos h4]; rfl
      · rw [if_neg (by rw [cm_gtr]; simpa using h4), if_neg h4, w_i64 (n := numA b) (by omega) (by omega)]
        have wu : IntKind.u16.wrap (numB (b.take 2)) = numB (b.take 2) := w_u16 (by omega) (by omega)
        have s8 : sub b 8 (b.length : Int) = some (b.drop 8) := by
          rw [sub_some (by omega) (by omega) (by omega)]
          show some ((b.drop 8).take _) = _
          exact congrArg some (List.take_of_length_le (by simp only [List.length_drop]; omega))
        have hcs := csA_in hb e4 (by omega)
        have hcl := csA_len e4 (by omega : 8 ≤ b.length)
        have hnum : arrive_numbers none (b.drop 8) = some (csA b) := numbers_eq (hb.drop 8) (by rw [List.length_drop]; omega) (by rw [List.length_drop]; omega)
        rw [bnd s8, bnd hnum]
        have hcr := read_eq (chunks := csA b) (count := numA b) hcs (by omega)
        cases hr : readC (csA b) (numA b) with
        | error e =>
          have he := readC_err hr
          rw [hr] at hcr
          have hcr2 : chunk_Read none (csA b) (numA b) = some ([], 0, e) := hcr
          rw [bnd hcr2, if_pos (by rw [cm_neq]; simpa using he)]; rfl
        | ok p =>
          obtain ⟨L, u⟩ := p
          obtain ⟨r1, r2, r3, r4⟩ := readC_ok hcs hr
          rw [hr] at hcr
          have hcr2 : chunk_Read none (csA b) (numA b) = some (L, (u : Int), 0) := by rw [hcr]; simp [rdR]
          rw [bnd hcr2]
          rw [if_neg (show ¬ cm .neq (0 : Int) 0 = true by decide)]
          have ep : ar .add .i64 8 (ar .mul .i64 2 (u : Int)) = ((8 + 2 * u : Nat) : Int) := by
            rw [ar_mul, w_i64 (by omega) (by omega), ar_add, w_i64 (by omega) (by omega)]; omega
          have s9 : sub b ((8 + 2 * u : Nat) : Int) (b.length : Int) = some (b.drop (8 + 2 * u)) := by
            rw [sub_some (by omega) (by omega) (by omega), Int.toNat_natCast]
            congr 1
            exact List.take_of_length_le (by simp only [List.length_drop]; omega)
          rw [ep, bnd s9]
          have hbd := sumN_bd r3
          have hxl : (b.drop (8 + 2 * u)).length = b.length - (8 + 2 * u) := List.length_drop
          refine size_loop r3 r2 ?_
          simp only []
          unfold arrive_read_s2
          rw [if_neg (by rw [cm_lss]; simp)]
          by_cases hs1 : (b.drop (8 + 2 * u)).length < sumN L
          · rw [if_pos (by rw [cm_lss]; exact decide_eq_true (by omega)), if_pos hs1]; rfl
          · rw [if_neg (by rw [cm_lss, decide_eq_true_eq]; omega), if_neg hs1]
            have e3 : ar .add .i64 ((sumN L : Nat) : Int) 3 = ((sumN L + 3 : Nat) : Int) := by rw [ar_add, w_i64 (by omega) (by omega)]; omega
            rw [e3]
            by_cases hs2 : sumN L + 3 < (b.drop (8 + 2 * u)).length
            · rw [if_pos (by rw [cm_gtr]; exact decide_eq_true (by omega)), if_pos hs2]; rfl
            · rw [if_neg (by rw [cm_gtr, decide_eq_true_eq]; omega), if_neg hs2]
              have h7 : 7 < b.length := by omega
              have i7 : ix b 7 = some (b.getD 7 0) := by
                have := ix_some (l := b) (n := 7) (i := 7) rfl h7
                rw [this, List.getD_eq_getElem?_getD, List.getElem?_eq_getElem h7]; rfl
              rw [bnd i7, bnd (deltas_eq (hb.drop _) (by omega) r3 r2 (by omega))]
              rw [bnd (sub_some (l := csA b) (a := 0) (b := (u : Int)) (by omega) (by omega) (by omega)), bnd (sub_some (l := b.drop (8 + 2 * u)) (by omega) (by omega) (by omega))]
              simp only [Option.map_some, wu]
              congr 4
              rw [Int.toNat_natCast, Int.toNat_natCast, List.take_of_length_le (by rw [List.length_drop]; omega)]
end Xb
