/- Own text: JArr5. -/
import Derived.Test.YtjfacnghojgkeaaJArr4
set_option linter.all false
set_option linter.unusedVariables false
set_option linter.unusedSimpArgs false
set_option linter.unnecessarySimpa false
set_option linter.deprecated false
/-! A telling: canonical. -/
namespace Xb
open Go

theorem readA_err {b : List Int} {e : Int} (h : readA b = .error e) : e ≠ 0 := by
  unfold readA at h
  split at h
  · cases h; decide
  · split at h
    · cases h; decide
    · split at h
      · cases h; decide
      · cases hr : readC (csA b) (numA b) with
        | error e' => rw [hr] at h; cases h; exact readC_err hr
        | ok p =>
          obtain ⟨L, u⟩ := p
          rw [hr] at h
          simp only [] at h
          split at h
          · cases h; decide
          · split at h
            · cases h; decide
            · cases h

def allZ (l : List Int) : Bool := decide (∀ y, y ∈ l → y = 0)
theorem allZ_iff {l : List Int} : allZ l = true ↔ ∀ y, y ∈ l → y = 0 := by unfold allZ; exact decide_eq_true_iff
def canonC (cs : List Int) (count : Int) : Bool := match readC cs count with | .ok (y, _) => decide (writeS y = cs) | .error _ => false
def canonS (b : List Int) : Bool :=
  match readA b with
  | .error _ => false
  | .ok (a, u, n) => canonC ((csA b).take u) (a.seen.length : Int) && allZ ((b.drop (8 + 2 * u)).drop n)

theorem acanon_eq {b : List Int} (hb : oct b) (hl : b.length ≤ 100000) : arrive_Canon none b = some (canonS b) := by
  unfold arrive_Canon canonS
  rw [bnd (aread_eq hb hl)]
  unfold rdA
  cases hr : readA b with
  | error e =>
    have he := readA_err hr
    have c : cm .eql e 0 = false := by rw [cm_eql]; simpa using he
    simp only [c, gTF, Option.bind_some, Bool.false_and]
  | ok p =>
    obtain ⟨a, u, n⟩ := p
    have hok := read_ok hb hr
    have c : cm .eql (0 : Int) 0 = true := by decide
    have hcs := csA_in hb hok.2.1 hok.2.2.1
    have hcl := csA_len hok.2.1 hok.2.2.1
    simp only [c, gTT, Bool.true_and]
    have hcc : chunk_Canon none ((csA b).take u) (a.seen.length : Int) = some (canonC ((csA b).take u) (a.seen.length : Int)) := canon_eq (fun x hx => hcs x (List.mem_of_mem_take hx)) (by rw [List.length_take]; omega)
    rw [bnd hcc]
    cases canonC ((csA b).take u) (a.seen.length : Int)
    · simp only [gTF, Option.bind_some, Bool.false_and]
    · simp only [gTT, Bool.true_and]
      rw [bnd (zero_eq ((hb.drop _).drop _))]; rfl

theorem readT_take : ∀ {cs : List Int} {rem : Nat} {y : List Int} {n : Nat}, readT cs rem = .ok (y, n) → readT (cs.take n) rem = .ok (y, n)
  | [], rem, y, n, h => by simp [readT] at h
  | c :: cs, rem, y, n, h => by
    rw [readT] at h
    by_cases h3 : (3 : Int) ∈ toldS c rem
    · rw [if_pos h3] at h; cases h
    · rw [if_neg h3] at h
      by_cases hq : (toldS c rem).length = rem
      · rw [if_pos hq] at h; cases h
        show readT [c] rem = _
        rw [readT, if_neg h3, if_pos hq]
      · rw [if_neg hq] at h
        cases hr : readT cs (rem - (toldS c rem).length) with
        | error e => rw [hr] at h; cases h
        | ok p =>
          obtain ⟨z, m⟩ := p
          rw [hr] at h; cases h
          show readT (c :: cs.take m) rem = _
          rw [readT, if_neg h3, if_neg hq, readT_take hr]
theorem readC_take {cs : List Int} {count : Int} {y : List Int} {n : Nat} (h : readC cs count = .ok (y, n)) : readC (cs.take n) count = .ok (y, n) := by
  unfold readC at h ⊢
  split at h
  · cases h
  · rename_i h1
    rw [if_neg h1]
    split at h
    · rename_i h2
      cases h
      rw [if_pos h2]
    · rename_i h2
      rw [if_neg h2]
      exact readT_take h

theorem flat_len2 {α : Type} : ∀ {C : List (List α)}, (∀ c, c ∈ C → c.length = 2) → C.flatten.length = 2 * C.length
  | [], _ => rfl
  | c :: C, h => by
    have h1 := h c (by simp)
    have h2 := flat_len2 (C := C) fun d hd => h d (by simp [hd])
    simp only [List.flatten_cons, List.length_append, List.length_cons]; omega

theorem cs_take {b : List Int} (hb : oct b) (he : b.length % 4 = 0) (h8 : 8 ≤ b.length) {u : Nat} (hu : u ≤ (csA b).length) : numsL ((csA b).take u) = (b.drop 8).take (2 * u) := by
  have hd : (b.drop 8).length % 2 = 0 := by rw [List.length_drop]; omega
  have hlen := chunks_len (n := 2) (l := b.drop 8) (by omega) hd
  unfold csA at hu ⊢
  rw [List.length_map] at hu
  rw [← List.map_take, nums_back (fun c hc => ⟨hlen c (List.mem_of_mem_take hc), fun x hx => hb.drop 8 x (chunks_mem (List.mem_of_mem_take hc) hx)⟩)]
  have hf := chunks_flat (n := 2) (by omega) (b.drop 8)
  have e : (chunksL 2 (b.drop 8)).flatten = ((chunksL 2 (b.drop 8)).take u).flatten ++ ((chunksL 2 (b.drop 8)).drop u).flatten := by
    rw [← List.flatten_append, List.take_append_drop]
  have hl : ((chunksL 2 (b.drop 8)).take u).flatten.length = 2 * u := by
    rw [flat_len2 fun c hc => hlen c (List.mem_of_mem_take hc), List.length_take]; omega
  rw [← hf, e, List.take_left' hl]
  have : ((chunksL 2 (b.drop 8)).take u).flatten ++ ((chunksL 2 (b.drop 8)).drop u).flatten = b.drop 8 := by rw [← e, hf]
  rw [this]

theorem canon_write {b : List Int} (hb : oct b) {a : Arrive} {u n : Nat} (hr : readA b = .ok (a, u, n)) : canonS b = true ↔ writeA a = b := by
  obtain ⟨k1, k2, k3, k4, k5, k6, k7, k8, k9, k10, k11, k12, k13⟩ := read_ok hb hr
  constructor
  · intro h
    unfold canonS at h
    rw [hr] at h
    unfold canonC at h
    simp only [readC_take k7, Bool.and_eq_true, decide_eq_true_eq, allZ_iff] at h
    obtain ⟨h1, h2⟩ := h
    have hct := cs_take hb k2 k3 k8
    rw [← h1] at hct
    have hul : (writeS (whatsL a.seen)).length = u := by rw [h1, List.length_take]; omega
    have hrest : (b.drop (8 + 2 * u)).drop n = List.replicate ((b.drop (8 + 2 * u)).drop n).length 0 := List.eq_replicate_of_mem h2
    have eb : b = bodyA a ++ (b.drop (8 + 2 * u)).drop n := by
      unfold bodyA
      rw [k13, hct, k12, List.append_assoc, List.append_assoc, List.take_append_drop, ← List.drop_drop, List.take_append_drop, List.take_append_drop]
    have hbl : b.length = (bodyA a).length + ((b.drop (8 + 2 * u)).drop n).length := by
      conv => lhs; rw [eb]
      rw [List.length_append]
    have hrl : ((b.drop (8 + 2 * u)).drop n).length = (b.drop (8 + 2 * u)).length - n := List.length_drop
    have hfill : ((b.drop (8 + 2 * u)).drop n).length = fillN (bodyA a).length := by unfold fillN; omega
    unfold writeA
    rw [← hfill, ← hrest]
    exact eb.symm
  · intro h
    have hrw := read_write k5 k4
    rw [h, hr] at hrw
    cases hrw
    have hd : (b.drop (8 + 2 * (writeS (whatsL a.seen)).length)).drop (sumN (whatsL a.seen)) = List.replicate (fillN (bodyA a).length) 0 := by
      have hsw := sum_whats k4.2.2.2
      have e : b = hdA a ++ (numsL (writeS (whatsL a.seen)) ++ (dltL a.seen ++ List.replicate (fillN (bodyA a).length) 0)) := by rw [← h]; simp [writeA, bodyA]
      conv => lhs; rw [e]
      rw [← List.drop_drop, List.drop_left' (hdA_len a), List.drop_left' (numsL_len _), List.drop_left' hsw.symm]
    have hcs : (csA b).take (writeS (whatsL a.seen)).length = writeS (whatsL a.seen) := by
      have hsw : csA b = writeS (whatsL a.seen) ++ (chunksL 2 (dltL a.seen ++ List.replicate (fillN (bodyA a).length) 0)).map numB := by
        have e : b = hdA a ++ (numsL (writeS (whatsL a.seen)) ++ (dltL a.seen ++ List.replicate (fillN (bodyA a).length) 0)) := by rw [← h]; simp [writeA, bodyA]
        unfold csA
        conv => lhs; rw [e]
        rw [List.drop_left' (hdA_len a), nums_chunks (wl_in k4)]
      rw [hsw, List.take_left]
    unfold canonS
    unfold canonC
    rw [hr]
    simp only [readC_take k7, Bool.and_eq_true, decide_eq_true_eq, allZ_iff]
    refine ⟨hcs.symm, fun y hy => ?_⟩
    rw [hd] at hy
    exact List.eq_of_mem_replicate hy

theorem same_eq {a b : Arrive} (hl : a.seen.length ≤ 1000000) : ref19_Same none a b = some (decide (a = b)) := by
  unfold ref19_Same
  by_cases h : a.base = b.base ∧ a.time = b.time ∧ a.count = b.count ∧ a.seen.length = b.seen.length
  · obtain ⟨h1, h2, h3, h4⟩ := h
    rw [if_neg (by rw [h1, h2, h3, h4]; simp [cm_neq])]
    unfold ref19_Same_l1
    have := find_loop (l := List.range a.seen.length) (step := fun s => ref19_Same_s1 none a b s) (p := fun i => !decide (a.seen[i]? = b.seen[i]?)) (hit := fun _ => false) (miss := true) (by
      show ref19_Same_s1 none a b _ = _
      unfold ref19_Same_s1
      rw [if_neg (by rw [cm_lss]; simp)]; rfl) (fun i hi => by
      show ref19_Same_s1 none a b (i : Int) = _
      rw [List.length_range] at hi
      have hib : i < b.seen.length := by omega
      unfold ref19_Same_s1
      rw [if_pos (by rw [cm_lss]; simpa using hi), bnd (ix_some (n := i) rfl hi), bnd (ix_some (n := i) rfl hib), List.getElem_range, List.getElem?_eq_getElem hi, List.getElem?_eq_getElem hib]
      have e : (a.seen[i].what == b.seen[i].what && (a.seen[i].delta == b.seen[i].delta && true)) = decide (some a.seen[i] = some b.seen[i]) := by
        rw [Bool.and_true, Bool.eq_iff_iff, decide_eq_true_iff (p := some a.seen[i] = some b.seen[i])]
        simp only [Bool.and_eq_true, beq_iff_eq, Option.some.injEq]
        generalize a.seen[i] = x
        generalize b.seen[i] = y
        cases x; cases y; simp
      rw [e]
      by_cases hd : some a.seen[i] = some b.seen[i]
      · rw [decide_eq_true hd, if_neg (by decide), if_neg (by decide), ar_add, w_i64 (by omega) (by omega)]; rfl
      · rw [decide_eq_false hd, if_pos (by decide), if_pos (by decide)]; rfl)
    rw [this]
    congr 1
    cases hf : (List.range a.seen.length).findIdx? (fun i => !decide (a.seen[i]? = b.seen[i]?)) with
    | none =>
      rw [List.findIdx?_eq_none_iff] at hf
      have hs : a.seen = b.seen := List.ext_getElem? fun i => by
        by_cases hi : i < a.seen.length
        · simpa using hf i (List.mem_range.2 hi)
        · rw [List.getElem?_eq_none (by omega), List.getElem?_eq_none (by omega)]
      refine (decide_eq_true ?_).symm
      cases a; cases b
      simp_all
    | some i =>
      rw [List.findIdx?_eq_some_iff_getElem] at hf
      obtain ⟨hi, hp, _⟩ := hf
      refine (decide_eq_false fun e => ?_).symm
      subst e
      simp at hp
  · rw [if_pos (by
      simp only [cm_neq, Bool.or_eq_true, Bool.not_eq_true', decide_eq_false_iff_not]
      by_cases h1 : a.base = b.base
      · by_cases h2 : a.time = b.time
        · by_cases h3 : a.count = b.count
          · right; intro h4; exact h ⟨h1, h2, h3, by omega⟩
          · left; right; exact h3
        · left; left; right; exact h2
      · left; left; left; exact h1)]
    refine congrArg some (decide_eq_false fun e => h ?_).symm
    subst e
    exact ⟨rfl, rfl, rfl, rfl⟩

theorem Read_eq {b : List Int} (hb : oct b) (hl : b.length ≤ 100000) : arrive_Read none b = some ((rdA b).1, (rdA b).2.2.2) := by
  unfold arrive_Read; rw [bnd (aread_eq hb hl)]
end Xb
