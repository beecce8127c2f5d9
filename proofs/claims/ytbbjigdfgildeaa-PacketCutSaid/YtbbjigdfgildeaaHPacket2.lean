/- Own text: HPacket2. -/
import Derived.Test.YtbbjigdfgildeaaHPacket1
import Derived.Test.YtbbjigdfgildeaaHRef1
set_option linter.all false
set_option linter.unusedVariables false
set_option linter.unusedSimpArgs false
set_option linter.unnecessarySimpa false
set_option linter.deprecated false
namespace Xb
open Go

theorem rnum_eq {b : List Int} {at_ n : Nat} (h1 : 1 ≤ n) (h2 : n ≤ 4) (hb : oct b) (hl : b.length ≤ 4294967296) (h : at_ + n ≤ b.length) : ref05_Num none b at_ n = some (numB (seg b at_ n)) := by
  unfold ref05_Num
  rw [bnd (rget_eq h1 (by omega) hb hl h)]
  have hbd := numB_bd8 (l := (b.drop at_).take n) (fun x hx => hb x (List.mem_of_mem_drop (List.mem_of_mem_take hx))) (k := 4) (by rw [List.length_take]; omega)
  have h256 : (256 : Int) ^ 4 = 4294967296 := by decide
  simp only []
  rw [w_u32 (by omega) (by omega)]
  rfl

theorem chunk_seg (b : List Int) (k : Nat) (h : 12 + 4 * k ≤ b.length) : (chunksL 4 (seg b 12 (4 * k))).map numB = (List.range k).map fun j => numB (seg b (12 + 4 * j) 4) := by
  have hl : (seg b 12 (4 * k)).length = 4 * k := seg_len h
  simp only [chunksL, hl]
  have e : (4 * k + 4 - 1) / 4 = k := by omega
  rw [e, List.map_map]
  apply List.map_congr_left
  intro j hj
  have hj := List.mem_range.1 hj
  simp only [Function.comp, seg]
  congr 1
  rw [List.drop_take, List.drop_drop, List.take_take]
  congr 1
  · omega
  · congr 1; omega

theorem refHRead_eq {b : List Int} (hb : oct b) (hl : b.length ≤ 100000) : ref05_Read none b = some (readH b) := by
  have i0 := b0_in hb
  have i1 := b1_in hb
  unfold ref05_Read readH headE zeroH
  by_cases h1 : b.length < 12
  · rw [if_pos (by rw [cm_lss]; simp; omega), if_pos h1, if_neg (by decide)]
  · have x0 : ix b 0 = some (b0 b) := ix_getD (by omega) (by omega)
    have x1 : ix b 1 = some (b1 b) := ix_getD (by omega) (by omega)
    have q64 : dv .quo .u8 (b0 b) 64 = b0 b / 64 := by rw [dv_quo i0.1, w_u8 (by omega) (by omega)]
    rw [if_neg (by rw [cm_lss]; simp; omega), bnd x0, bnd x0, q64, if_neg h1]
    by_cases h2 : b0 b / 64 = 2
    · rw [if_neg (by rw [cm_neq]; simp [h2]), if_neg (show ¬ b0 b / 64 ≠ 2 by simp [h2])]
      have en0 : IntKind.i64.wrap (dv .rem .u8 (b0 b) 16) = (nC b : Int) := by
        rw [dv_rem i0.1, w_i64 (by omega) (by omega)]; unfold nC; omega
      have hn16 : nC b ≤ 15 := by unfold nC; omega
      have en : ar .add .i64 12 (ar .mul .i64 4 (IntKind.i64.wrap (dv .rem .u8 (b0 b) 16))) = 12 + 4 * (nC b : Int) := by
        rw [en0, ar_mul, w_i64 (by omega) (by omega), ar_add, w_i64 (by omega) (by omega)]
      rw [en]
      by_cases h3 : b.length < 12 + 4 * nC b
      · rw [if_pos (by rw [cm_lss]; simp; omega), if_pos h3, if_neg (by decide)]
      · have q1 := seg_len (b := b) (i := 2) (n := 2) (by omega)
        have r1 := num_in2 (oct_seg hb 2 2) q1
        have n1 : ref05_Num none b 2 2 = some (numB (seg b 2 2)) := rnum_eq (at_ := 2) (n := 2) (by omega) (by omega) hb (by omega) (by omega)
        have n2 : ref05_Num none b 4 4 = some (numB (seg b 4 4)) := rnum_eq (at_ := 4) (n := 4) (by omega) (by omega) hb (by omega) (by omega)
        have n3 : ref05_Num none b 8 4 = some (numB (seg b 8 4)) := rnum_eq (at_ := 8) (n := 4) (by omega) (by omega) hb (by omega) (by omega)
        rw [if_neg (by rw [cm_lss]; simp; omega), bnd x1, bnd x1, bnd x0, bnd x0, bnd n1, bnd n2, bnd n3, if_neg h3, if_pos rfl]
        have d1 : cm .eql (dv .rem .u8 (dv .quo .u8 (b0 b) 32) 2) 1 = decide (b0 b / 32 % 2 = 1) := by
          rw [dv_quo i0.1, w_u8 (by omega) (by omega), dv_rem (by omega), cm_eql]
        have d2 : cm .eql (dv .rem .u8 (dv .quo .u8 (b0 b) 16) 2) 1 = decide (b0 b / 16 % 2 = 1) := by
          rw [dv_quo i0.1, w_u8 (by omega) (by omega), dv_rem (by omega), cm_eql]
        have d3 : cm .geq (b1 b) 128 = decide (128 ≤ b1 b) := by rw [cm_geq]
        have d4 : IntKind.i64.wrap (dv .rem .u8 (b1 b) 128) = b1 b % 128 := by rw [dv_rem i1.1, w_i64 (by omega) (by omega)]
        rw [d1, d2, d3, d4, w_u16 r1.1 r1.2]
        unfold ref05_Read_l1
        have := loop_seq (step := fun (s : Int × Head) => ref05_Read_s1 none b (b0 b) s.1 s.2) (r := (decH b, 12 + 4 * (nC b : Int), 0))
          (fun i => ((i : Int), Head.mk (decide (b0 b / 32 % 2 = 1)) (decide (b0 b / 16 % 2 = 1)) (decide (128 ≤ b1 b)) (b1 b % 128) (numB (seg b 2 2)) (numB (seg b 4 4)) (numB (seg b 8 4)) ((List.range i).map fun j => numB (seg b (12 + 4 * j) 4)))) (nC b) (fun i hi => by
          show ref05_Read_s1 none b (b0 b) (i : Int) _ = _
          unfold ref05_Read_s1
          have ea : ar .add .i64 12 (ar .mul .i64 4 (i : Int)) = ((12 + 4 * i : Nat) : Int) := by
            rw [ar_mul, w_i64 (by omega) (by omega), ar_add, w_i64 (by omega) (by omega)]; omega
          have nn : ref05_Num none b ((12 + 4 * i : Nat) : Int) 4 = some (numB (seg b (12 + 4 * i) 4)) := rnum_eq (at_ := 12 + 4 * i) (n := 4) (by omega) (by omega) hb (by omega) (by omega)
          rw [en0, if_pos (by rw [cm_lss]; simpa using hi), ea, bnd nn, bnd (app_some (by simp; omega)), ar_add, w_i64 (by omega) (by omega), List.range_succ, List.map_append]
          rfl) (by
          show ref05_Read_s1 none b (b0 b) (nC b : Int) _ = _
          unfold ref05_Read_s1
          have en' : ar .add .i64 12 (ar .mul .i64 4 (nC b : Int)) = 12 + 4 * (nC b : Int) := by rw [ar_mul, w_i64 (by omega) (by omega), ar_add, w_i64 (by omega) (by omega)]
          rw [en0, if_neg (by rw [cm_lss]; simp), en']
          rw [← chunk_seg b (nC b) (by omega)]
          rfl)
        simpa using this
    · rw [if_pos (by rw [cm_neq]; simpa using h2), if_pos h2, if_neg (by decide)]

theorem refHWrite_eq {h : Head} (hg : GoodH h) (hr : RightH h) : ref05_Write none h = some (encH h) := by
  have h1 := hr.1; have h2 := hr.2.1; have h3 := hr.2.2
  have hs := hg.seq; have ht := hg.time; have hss := hg.ssrc
  have tail : ∀ v2 v3, v2 = hN h → v3 = hT h → ref05_Write_j3 none h v2 v3 = some (encH h) := by
    rintro v2 v3 rfl rfl
    have hn := hN_in hr; have ht2 := hT_in hr
    unfold ref05_Write_j3 ref05_Write_l4
    have m1 : ref01_Must none (IntKind.u64.wrap h.seq) 2 = some (beN 2 h.seq) := by rw [w_u64 (by omega) (by omega)]; exact rmust_eq (n := 2) hs.1 (by omega) (by omega) (by omega) (by omega)
    have m2 : ref01_Must none (IntKind.u64.wrap h.time) 4 = some (beN 4 h.time) := by rw [w_u64 (by omega) (by omega)]; exact rmust_eq (n := 4) ht.1 (by omega) (by omega) (by omega) (by omega)
    have m3 : ref01_Must none (IntKind.u64.wrap h.ssrc) 4 = some (beN 4 h.ssrc) := by rw [w_u64 (by omega) (by omega)]; exact rmust_eq (n := 4) hss.1 (by omega) (by omega) (by omega) (by omega)
    rw [bnd m1, bnd (app_some (by simp [beN_len])), bnd m2, bnd (app_some (by simp [beN_len])), bnd m3, bnd (app_some (by simp [beN_len])), w_u8 hn.1 hn.2, w_u8 ht2.1 ht2.2]
    have := loop_seq (step := fun (s : List Int × Int) => ref05_Write_s4 none h s.1 s.2) (r := encH h) (fun i => ([hN h, hT h] ++ beN 2 h.seq ++ beN 4 h.time ++ beN 4 h.ssrc ++ csB (h.csrc.take i), (i : Int))) h.csrc.length (fun i hi => by
      show ref05_Write_s4 none h _ (i : Int) = _
      have hc := hg.csrc h.csrc[i] (List.getElem_mem hi)
      have m4 : ref01_Must none (IntKind.u64.wrap h.csrc[i]) 4 = some (beN 4 h.csrc[i]) := by rw [w_u64 (by omega) (by omega)]; exact rmust_eq (n := 4) hc.1 (by omega) (by omega) (by omega) (by omega)
      unfold ref05_Write_s4
      rw [if_pos (by rw [cm_lss]; simpa using hi), bnd (ix_some (n := i) rfl hi), bnd m4, bnd (app_some (by simp [beN_len, csB_len]; omega)), ar_add, w_i64 (by omega) (by omega), csB_take _ _ hi]
      simp) (by
      show ref05_Write_s4 none h _ _ = _
      unfold ref05_Write_s4
      rw [if_neg (by rw [cm_lss]; simp)]
      simp [encH])
    simpa [csB] using this
  have a1 : ar .add .i64 h.type 128 = h.type + 128 := by rw [ar_add, w_i64 (by omega) (by omega)]
  have a2 : ar .add .i64 128 (h.csrc.length : Int) = 128 + h.csrc.length := by rw [ar_add, w_i64 (by omega) (by omega)]
  have a3 : ∀ x y : Int, 0 ≤ x → x ≤ 1000 → 0 ≤ y → y ≤ 1000 → ar .add .i64 x y = x + y := fun x y _ _ _ _ => by rw [ar_add, w_i64 (by omega) (by omega)]
  unfold ref05_Write ref05_Write_j1 ref05_Write_j2
  rw [a1, a2, a3 _ 32 (by omega) (by omega) (by omega) (by omega), a3 _ 16 (by omega) (by omega) (by omega) (by omega), a3 _ 16 (by omega) (by omega) (by omega) (by omega)]
  unfold hN hT at tail
  cases hp : h.hasPad <;> cases hx : h.hasExt <;> cases hm : h.marker <;> simp only [if_true, if_false, Bool.false_eq_true, hp, hx, hm] at tail ⊢ <;> exact tail _ _ (by omega) (by omega)

theorem numbers_eq (a b : List Int) (hl : a.length ≤ 1000000) : ref05_Numbers none a b = some (decide (a = b)) := by
  unfold ref05_Numbers
  by_cases h : a.length = b.length
  · rw [if_neg (by rw [cm_neq]; simp; omega)]
    unfold ref05_Numbers_l1
    refine same_loop h (step := fun s => ref05_Numbers_s1 none a b s) ?_ fun i hi hi' => ?_
    · show ref05_Numbers_s1 none a b _ = _
      unfold ref05_Numbers_s1
      rw [if_neg (by rw [cm_lss]; simp)]
      rfl
    · show ref05_Numbers_s1 none a b _ = _
      unfold ref05_Numbers_s1
      rw [if_pos (by rw [cm_lss]; simpa using hi), bnd (ix_some (n := i) rfl hi), bnd (ix_some (n := i) rfl hi'), cm_neq]
      by_cases he : a[i] ≠ b[i]
      · rw [if_pos (by simpa using he), if_pos he]; rfl
      · rw [if_neg (by simpa using he), if_neg he, ar_add, w_i64 (by omega) (by omega)]
        rfl
  · rw [if_pos (by rw [cm_neq]; simp; omega)]
    have : a ≠ b := fun e => h (by rw [e])
    simp [this]

theorem bq_eql (a b : Bool) : bq .eql a b = decide (a = b) := by cases a <;> cases b <;> rfl
theorem sameH_eq (a b : Head) (hl : a.csrc.length ≤ 1000000) : ref05_Same none a b = some (decide (a = b)) := by
  unfold ref05_Same
  rw [numbers_eq _ _ hl]
  simp only [bq_eql, cm_eql]
  obtain ⟨a1, a2, a3, a4, a5, a6, a7, a8⟩ := a
  obtain ⟨c1, c2, c3, c4, c5, c6, c7, c8⟩ := b
  simp only [Head.mk.injEq]
  by_cases hc : decide (a1 = c1) && decide (a2 = c2) && decide (a3 = c3) && decide (a4 = c4) && decide (a5 = c5) && decide (a6 = c6) && decide (a7 = c7)
  · rw [hc, gTT, Option.bind_some]
    congr 1
    simp only [Bool.and_eq_true, decide_eq_true_eq] at hc
    simp [hc]
  · simp only [Bool.not_eq_true] at hc
    rw [hc, gTF, Option.bind_some, Bool.false_and]
    congr 1
    symm
    rw [decide_eq_false_iff_not]
    rintro ⟨e1, e2, e3, e4, e5, e6, e7, _⟩
    simp [e1, e2, e3, e4, e5, e6, e7] at hc

structure GoodP (p : Packet) : Prop where
  h : GoodH p.head
  pr : 0 ≤ p.profile ∧ p.profile ≤ 65535
  ext : oct p.ext
  pay : oct p.payload
theorem goodP_of {p : Packet} (w : wf_Packet p) : GoodP p := ⟨goodH_of w.1, in_u16.1 w.2.1, fun x hx => in_u8.1 (w.2.2.1.2 x hx), fun x hx => in_u8.1 (w.2.2.2.1.2 x hx)⟩

theorem sameP_eq {a b : Packet} (ha : GoodP a) (hb : GoodP b) (hl : a.head.csrc.length ≤ 1000000) : ref06_Same none a b = some (decide (a = b)) := by
  unfold ref06_Same
  rw [bnd (sameH_eq _ _ hl), sc_b2s ha.ext hb.ext, sc_b2s ha.pay hb.pay, cm_eql, cm_eql]
  congr 1
  obtain ⟨a1, a2, a3, a4, a5⟩ := a
  obtain ⟨c1, c2, c3, c4, c5⟩ := b
  rw [Bool.eq_iff_iff]
  simp only [Bool.and_eq_true, decide_eq_true_eq, Packet.mk.injEq]
  constructor
  · rintro ⟨⟨⟨⟨e1, e2⟩, e3⟩, e4⟩, e5⟩; exact ⟨e1, e2, e3, e4, e5⟩
  · rintro ⟨e1, e2, e3, e4, e5⟩; exact ⟨⟨⟨⟨e1, e2⟩, e3⟩, e4⟩, e5⟩
end Xb
