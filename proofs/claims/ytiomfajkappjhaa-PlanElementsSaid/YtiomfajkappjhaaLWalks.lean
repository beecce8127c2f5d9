/- Own text: LWalks. -/
import Derived.Test.YtiomfajkappjhaaLFacts
import Derived.Test.YtiomfajkappjhaaLRaw
import Derived.Test.YtiomfajkappjhaaLIter
set_option linter.all false
set_option linter.unusedVariables false
set_option linter.unusedSimpArgs false
set_option linter.unnecessarySimpa false
set_option linter.deprecated false
namespace Xb
open Go Go.Proofs
set_option linter.unusedVariables false
set_option maxRecDepth 20000

theorem head_Right_c (p_h : Head) :
    AC Try.prog 36 [.ro (enc_Head p_h)] (.ro (.bool (head_Right p_h))) [] := by
  obtain ⟨r, h⟩ : ∃ r, head_Right p_h = r := ⟨_, rfl⟩
  rw [h]
  refine AC.of Try.func36 rfl rfl fun w M0 hM => ?_
  unfold head_Right at h
  refine .sq ?_
  refine .rg (bx 1 (.t rfl) rfl rfl <| u (asg .b) <| .nil _) rfl ?_
  refine .sq ?_
  refine .rg (u (fa ff31_3 (.t rfl)) <| u (ld tf3 (.t rfl) rfl rfl) <| u (bc (.t rfl) (.i rfl) rfl rfl) <| u (mv (.t rfl)) <| gd rfl rfl (fun hB => fa ff31_3 (.t rfl)) <| gd rfl rfl (fun hB => ld tf3 (.m rfl hB) rfl rfl) <| gd rfl rfl (fun hB => bc (.m rfl hB) (.i rfl) rfl rfl) <| u (pka (.t rfl) (.t rfl)) <| u (mv (.t rfl)) <| gd rfl rfl (fun hB => fa ff31_7 (.t rfl)) <| gd rfl rfl (fun hB => ld tf29 (.m rfl hB) rfl rfl) <| gd rfl rfl (fun hB => lnm sf29 (.m rfl hB)) <| gd rfl rfl (fun hB => bc (.m rfl hB) (.i rfl) rfl rfl) <| u (pka (.t rfl) (.t rfl)) <| u (asg (.t rfl)) <| .nil _) rfl ?_
  subst h
  exact .rt Try.func36 (.t rfl <| .n) .n rfl rfl

theorem packet_extended_c (p : Packet) :
    AC Try.prog 37 [.ro (enc_Packet p)] (.ro (.bool (packet_extended p))) [] := by
  obtain ⟨r, h⟩ : ∃ r, packet_extended p = r := ⟨_, rfl⟩
  rw [h]
  refine AC.of Try.func37 rfl rfl fun w M0 hM => ?_
  unfold packet_extended at h
  refine .sq ?_
  refine .rg (bx 1 (.t rfl) rfl rfl <| u (asg .b) <| .nil _) rfl ?_
  refine .sq ?_
  refine .sq ?_
  refine .rg (u (fa ff34_0 (.t rfl)) <| u (fa ff31_1 (.t rfl)) <| u (ld tf4 (.t rfl) rfl rfl) <| u (no (.t rfl)) <| .nil _) rfl ?_
  refine .bq h (.t rfl) (fun h => ?_) (fun h => ?_)
  · refine .sq ?_
    refine .rg (u (fa ff34_1 (.t rfl)) <| u (ld tf22 (.t rfl) rfl rfl) <| u (bc (.t rfl) (.i rfl) rfl rfl) <| u (mv (.t rfl)) <| gd rfl rfl (fun hB => fa ff34_2 (.t rfl)) <| gd rfl rfl (fun hB => ld tf32 (.m rfl hB) rfl rfl) <| gd rfl rfl (fun hB => lnm sf32 (.m rfl hB)) <| gd rfl rfl (fun hB => bc (.m rfl hB) (.i rfl) rfl rfl) <| u (pka (.t rfl) (.t rfl)) <| u (asg (.t rfl)) <| .nil _) rfl ?_
    subst h
    exact .rt Try.func37 (.t rfl <| .n) .n rfl rfl
  · refine .skp ?_
    refine .sq ?_
    refine .rg (u (fa ff34_2 (.t rfl)) <| u (ld tf32 (.t rfl) rfl rfl) <| u (lnm sf32 (.t rfl)) <| u (di (.t rfl) (.i rfl) rfl (by decide)) <| u (bc (.t rfl) (.i rfl) rfl rfl) <| u (mv (.t rfl)) <| gd rfl rfl (fun hB => fa ff34_2 (.t rfl)) <| gd rfl rfl (fun hB => ld tf32 (.m rfl hB) rfl rfl) <| gd rfl rfl (fun hB => lnm sf32 (.m rfl hB)) <| gd rfl rfl (fun hB => di (.m rfl hB) (.i rfl) rfl (by decide)) <| gd rfl rfl (fun hB => bc (.m rfl hB) (.i rfl) rfl rfl) <| u (pka (.t rfl) (.t rfl)) <| u (asg (.t rfl)) <| .nil _) rfl ?_
    subst h
    exact .rt Try.func37 (.t rfl <| .n) .n rfl rfl

theorem packet_padded_c (p : Packet) :
    AC Try.prog 38 [.ro (enc_Packet p)] (.ro (.bool (packet_padded p))) [] := by
  obtain ⟨r, h⟩ : ∃ r, packet_padded p = r := ⟨_, rfl⟩
  rw [h]
  refine AC.of Try.func38 rfl rfl fun w M0 hM => ?_
  unfold packet_padded at h
  refine .sq ?_
  refine .rg (bx 1 (.t rfl) rfl rfl <| u (asg .b) <| .nil _) rfl ?_
  refine .sq ?_
  refine .sq ?_
  refine .rg (u (fa ff34_0 (.t rfl)) <| u (fa ff31_0 (.t rfl)) <| u (ld tf4 (.t rfl) rfl rfl) <| u (no (.t rfl)) <| .nil _) rfl ?_
  refine .bq h (.t rfl) (fun h => ?_) (fun h => ?_)
  · refine .sq ?_
    refine .rg (u (fa ff34_4 (.t rfl)) <| u (ld tf3 (.t rfl) rfl rfl) <| u (bc (.t rfl) (.i rfl) rfl rfl) <| u (asg (.t rfl)) <| .nil _) rfl ?_
    subst h
    exact .rt Try.func38 (.t rfl <| .n) .n rfl rfl
  · refine .skp ?_
    refine .sq ?_
    refine .rg (u (fa ff34_4 (.t rfl)) <| u (ld tf3 (.t rfl) rfl rfl) <| u (bc (.t rfl) (.i rfl) rfl rfl) <| u (mv (.t rfl)) <| gd rfl rfl (fun hB => fa ff34_4 (.t rfl)) <| gd rfl rfl (fun hB => ld tf3 (.m rfl hB) rfl rfl) <| gd rfl rfl (fun hB => bc (.m rfl hB) (.i rfl) rfl rfl) <| u (pka (.t rfl) (.t rfl)) <| u (asg (.t rfl)) <| .nil _) rfl ?_
    subst h
    exact .rt Try.func38 (.t rfl <| .n) .n rfl rfl

theorem head_Size_c (p_h : Head) :
    AC Try.prog 51 [.ro (enc_Head p_h)] (.ro (.int .i64 (head_Size p_h))) [] := by
  obtain ⟨r, h⟩ : ∃ r, head_Size p_h = r := ⟨_, rfl⟩
  rw [h]
  refine AC.of Try.func51 rfl rfl fun w M0 hM => ?_
  unfold head_Size at h
  refine .sq ?_
  refine .rg (bx 1 (.t rfl) rfl rfl <| u (asg (.i rfl)) <| .nil _) rfl ?_
  refine .sq ?_
  refine .sq ?_
  refine .rg (u (ld tf31 (.t rfl) rfl rfl) <| cl [] cf36 (head_Right_c p_h) (.c (.t rfl) <| .n) (.inl rfl) <| u (no (.t rfl)) <| .nil _) rfl ?_
  refine .bq h (.t rfl) (fun h => ?_) (fun h => ?_)
  · refine .sq ?_
    refine .rg (u (asg (.i rfl)) <| .nil _) rfl ?_
    subst h
    exact .rt Try.func51 (.t rfl <| .n) .n rfl rfl
  · refine .skp ?_
    refine .sq ?_
    refine .rg (u (fa ff31_7 (.t rfl)) <| u (ld tf29 (.t rfl) rfl rfl) <| u (lnm sf29 (.t rfl)) <| u (bi (.i rfl) (.t rfl) rfl) <| u (bi (.i rfl) (.t rfl) rfl) <| u (asg (.t rfl)) <| .nil _) rfl ?_
    subst h
    exact .rt Try.func51 (.t rfl <| .n) .n rfl rfl

theorem packet_total_c (p : Packet) :
    AC Try.prog 39 [.ro (enc_Packet p)] (.ro (.int .i64 (packet_total p))) [] := by
  obtain ⟨r, h⟩ : ∃ r, packet_total p = r := ⟨_, rfl⟩
  rw [h]
  refine AC.of Try.func39 rfl rfl fun w M0 hM => ?_
  unfold packet_total at h
  refine .sq ?_
  refine .rg (bx 1 (.t rfl) rfl rfl <| u (asg (.i rfl)) <| .nil _) rfl ?_
  refine .sq ?_
  refine .rd mixed (u (fa ff34_0 (.t rfl)) <| u (ld tf31 (.t rfl) rfl rfl) <| cl [] cf51 (head_Size_c p.head) (.c (.t rfl) <| .n) (.inl rfl) <| u (fa ff34_2 (.t rfl)) <| u (ld tf32 (.t rfl) rfl rfl) <| u (lnm sf32 (.t rfl)) <| u (bi (.t rfl) (.t rfl) rfl) <| u (fa ff34_3 (.t rfl)) <| u (ld tf32 (.t rfl) rfl rfl) <| u (lnm sf32 (.t rfl)) <| u (bi (.t rfl) (.t rfl) rfl) <| u (fa ff34_4 (.t rfl)) <| u (ld tf3 (.t rfl) rfl rfl) <| u (bi (.t rfl) (.t rfl) rfl) <| u (asg (.t rfl)) <| .nil _) (by kernel_rfl) rfl ?_
  refine .sq ?_
  refine .sq ?_
  refine .rg (u (fa ff34_0 (.t rfl)) <| u (fa ff31_1 (.t rfl)) <| u (ld tf4 (.t rfl) rfl rfl) <| .nil _) rfl ?_
  refine .jq (t := r) (fun (a : Int) => ⟨[(3, .ro (.int .i64 a))], []⟩) (fun (a : Int) => packet_total_j1 a) ?_ (fun J1 => ?_)
  · intro v1 h
    replace h : packet_total_j1 v1 = _ := h
    unfold packet_total_j1 at h
    refine .sq ?_
    refine .rg (u (mv (.t rfl)) <| u (asg (.t rfl)) <| .nil _) rfl ?_
    subst h
    exact .rt Try.func39 (.t rfl <| .n) .n rfl rfl
  refine .bq h (.t rfl) (fun h => ?_) (fun h => ?_)
  · refine .rg (u (mv (.t rfl)) <| u (bi (.t rfl) (.i rfl) rfl) <| u (asg (.t rfl)) <| .nil _) rfl ?_
    exact .kq (J1 (ar .add .i64 (ar .add .i64 (ar .add .i64 (ar .add .i64 (head_Size p.head) (p.ext.length : Int)) (p.payload.length : Int)) p.pad) 4) h) (.c rfl .n) .n
  · refine .skp ?_
    exact .kq (J1 (ar .add .i64 (ar .add .i64 (ar .add .i64 (head_Size p.head) (p.ext.length : Int)) (p.payload.length : Int)) p.pad) h) (.c rfl .n) .n

theorem packet_Right_c (p : Packet) :
    AC Try.prog 19 [.ro (enc_Packet p)] (.ro (.bool (packet_Right p))) [] := by
  obtain ⟨r, h⟩ : ∃ r, packet_Right p = r := ⟨_, rfl⟩
  rw [h]
  refine AC.of Try.func19 rfl rfl fun w M0 hM => ?_
  unfold packet_Right at h
  refine .sq ?_
  refine .rg (bx 1 (.t rfl) rfl rfl <| u (asg .b) <| .nil _) rfl ?_
  refine .sq ?_
  refine .rg (u (fa ff34_0 (.t rfl)) <| u (ld tf31 (.t rfl) rfl rfl) <| cl [] cf36 (head_Right_c p.head) (.c (.t rfl) <| .n) (.inl rfl) <| u (mv (.t rfl)) <| gd rfl rfl (fun hB => ld tf34 (.t rfl) rfl rfl) <| cg rfl rfl cf37 (fun hB => (packet_extended_c p)) (fun hB => .c (.m rfl hB) <| .n) (.inl rfl) <| u (pka (.t rfl) (.t rfl)) <| u (mv (.t rfl)) <| gd rfl rfl (fun hB => ld tf34 (.t rfl) rfl rfl) <| cg rfl rfl cf38 (fun hB => (packet_padded_c p)) (fun hB => .c (.m rfl hB) <| .n) (.inl rfl) <| u (pka (.t rfl) (.t rfl)) <| u (mv (.t rfl)) <| gd rfl rfl (fun hB => fa ff34_3 (.t rfl)) <| gd rfl rfl (fun hB => ld tf32 (.m rfl hB) rfl rfl) <| gd rfl rfl (fun hB => lnm sf32 (.m rfl hB)) <| gd rfl rfl (fun hB => bc (.m rfl hB) (.i rfl) rfl rfl) <| u (pka (.t rfl) (.t rfl)) <| u (mv (.t rfl)) <| gd rfl rfl (fun hB => ld tf34 (.t rfl) rfl rfl) <| cg rfl rfl cf39 (fun hB => (packet_total_c p)) (fun hB => .c (.m rfl hB) <| .n) (.inl rfl) <| gd rfl rfl (fun hB => bc (.m rfl hB) (.i rfl) rfl rfl) <| u (pka (.t rfl) (.t rfl)) <| u (asg (.t rfl)) <| .nil _) rfl ?_
  subst h
  exact .rt Try.func19 (.t rfl <| .n) .n rfl rfl

theorem plan_single_c (p : Plan) :
    AC Try.prog 24 [.ro (enc_Plan p)] (.ro (.bool (plan_single p))) [] := by
  obtain ⟨r, h⟩ : ∃ r, plan_single p = r := ⟨_, rfl⟩
  rw [h]
  refine AC.of Try.func24 rfl rfl fun w M0 hM => ?_
  unfold plan_single at h
  refine .sq ?_
  refine .rg (bx 1 (.t rfl) rfl rfl <| u (asg .b) <| .nil _) rfl ?_
  refine .sq ?_
  refine .bl ?_
  refine .sq ?_
  refine .sq ?_
  refine .rg (u (fa ff28_0 (.t rfl)) <| u (ld tf4 (.t rfl) rfl rfl) <| u (no (.t rfl)) <| u (mv (.t rfl)) <| gd rfl rfl (fun hB => fa ff28_1 (.t rfl)) <| gd rfl rfl (fun hB => ld tf4 (.m rfl hB) rfl rfl) <| u (pka (.t rfl) (.t rfl)) <| u (asg (.t rfl)) <| .nil _) rfl ?_
  refine .jq (t := r) (fun (a : Bool) => ⟨[(1, .ptr 1 0), (3, .ro (.bool a))], [(1, some (.box [.ro (.bool p.setMarker), .ro (.bool p.marker), .ro (.bool p.setType), .ro (.int .i64 p.type), .ro (.bool p.setSeq), .ro (.int .u16 p.seq), .ro (.bool p.setTime), .ro (.int .u32 p.time), .ro (.bool p.setSsrc), .ro (.int .u32 p.ssrc), .ro (.list 2 (List.map cells_GMap p.maps)), .ro (.list 2 (List.map cells_Elem p.over)), .ro (.list 1 (List.map (ei .i64) p.drops)), .ro (.list 2 (List.map cells_Elem p.adds)), .ro (.bool p.noPad)]))]⟩) (fun (a : Bool) => plan_single_j1 p a) ?_ (fun J1 => ?_)
  · intro v1 h
    replace h : plan_single_j1 p v1 = _ := h
    unfold plan_single_j1 at h
    refine .bq h (.t rfl) (fun h => ?_) (fun h => ?_)
    · refine .sq ?_
      refine .rg (u (asg .b) <| .nil _) rfl ?_
      subst h
      exact .rt Try.func24 (.t rfl <| .n) .n rfl rfl
    · refine .skp ?_
      refine .ib ?_
      refine .sq ?_
      refine .rg (u (fa ff28_3 (.t rfl)) <| u (ld tf3 (.t rfl) rfl rfl) <| u (bc (.t rfl) (.i rfl) rfl rfl) <| u (mv (.t rfl)) <| gd rfl rfl (fun hB => fa ff28_3 (.t rfl)) <| gd rfl rfl (fun hB => ld tf3 (.m rfl hB) rfl rfl) <| gd rfl rfl (fun hB => bc (.m rfl hB) (.i rfl) rfl rfl) <| u (pka (.t rfl) (.t rfl)) <| u (asg (.t rfl)) <| .nil _) rfl ?_
      subst h
      exact .rt Try.func24 (.t rfl <| .n) .n rfl rfl
  refine .bq h (.t rfl) (fun h => ?_) (fun h => ?_)
  · refine .skp ?_
    exact .kq (J1 ((!p.setMarker) && p.marker) h) (.c rfl (.c rfl .n)) (.c rfl .n)
  · refine .sq ?_
    refine .rg (u (fa ff28_2 (.t rfl)) <| u (ld tf4 (.t rfl) rfl rfl) <| u (no (.t rfl)) <| u (mv (.t rfl)) <| gd rfl rfl (fun hB => fa ff28_3 (.t rfl)) <| gd rfl rfl (fun hB => ld tf3 (.m rfl hB) rfl rfl) <| gd rfl rfl (fun hB => bc (.m rfl hB) (.i rfl) rfl rfl) <| u (pka (.t rfl) (.t rfl)) <| u (asg (.t rfl)) <| .nil _) rfl ?_
    refine .bq h (.t rfl) (fun h => ?_) (fun h => ?_)
    · refine .skp ?_
      exact .kq (J1 ((!p.setType) && (cm .neq p.type 0)) h) (.c rfl (.c rfl .n)) (.c rfl .n)
    · refine .sq ?_
      refine .rg (u (fa ff28_4 (.t rfl)) <| u (ld tf4 (.t rfl) rfl rfl) <| u (no (.t rfl)) <| u (mv (.t rfl)) <| gd rfl rfl (fun hB => fa ff28_5 (.t rfl)) <| gd rfl rfl (fun hB => ld tf22 (.m rfl hB) rfl rfl) <| gd rfl rfl (fun hB => bc (.m rfl hB) (.i rfl) rfl rfl) <| u (pka (.t rfl) (.t rfl)) <| u (asg (.t rfl)) <| .nil _) rfl ?_
      refine .bq h (.t rfl) (fun h => ?_) (fun h => ?_)
      · refine .skp ?_
        exact .kq (J1 ((!p.setSeq) && (cm .neq p.seq 0)) h) (.c rfl (.c rfl .n)) (.c rfl .n)
      · refine .sq ?_
        refine .rg (u (fa ff28_6 (.t rfl)) <| u (ld tf4 (.t rfl) rfl rfl) <| u (no (.t rfl)) <| u (mv (.t rfl)) <| gd rfl rfl (fun hB => fa ff28_7 (.t rfl)) <| gd rfl rfl (fun hB => ld tf23 (.m rfl hB) rfl rfl) <| gd rfl rfl (fun hB => bc (.m rfl hB) (.i rfl) rfl rfl) <| u (pka (.t rfl) (.t rfl)) <| u (asg (.t rfl)) <| .nil _) rfl ?_
        refine .bq h (.t rfl) (fun h => ?_) (fun h => ?_)
        · refine .skp ?_
          exact .kq (J1 ((!p.setTime) && (cm .neq p.time 0)) h) (.c rfl (.c rfl .n)) (.c rfl .n)
        · refine .rg (u (fa ff28_8 (.t rfl)) <| u (ld tf4 (.t rfl) rfl rfl) <| u (no (.t rfl)) <| u (mv (.t rfl)) <| gd rfl rfl (fun hB => fa ff28_9 (.t rfl)) <| gd rfl rfl (fun hB => ld tf23 (.m rfl hB) rfl rfl) <| gd rfl rfl (fun hB => bc (.m rfl hB) (.i rfl) rfl rfl) <| u (pka (.t rfl) (.t rfl)) <| u (asg (.t rfl)) <| .nil _) rfl ?_
          exact .kq (J1 ((!p.setSsrc) && (cm .neq p.ssrc 0)) h) (.c rfl (.c rfl .n)) (.c rfl .n)

theorem plan_from_c (m : GMap) :
    AC Try.prog 27 [.ro (enc_GMap m)] (.ro (.int .i64 (plan_from m))) [] := by
  obtain ⟨r, h⟩ : ∃ r, plan_from m = r := ⟨_, rfl⟩
  rw [h]
  refine AC.of Try.func27 rfl rfl fun w M0 hM => ?_
  unfold plan_from at h
  refine .sq ?_
  refine .rg (bx 1 (.t rfl) rfl rfl <| u (asg (.i rfl)) <| .nil _) rfl ?_
  refine .sq ?_
  refine .rg (u (fa ff45_0 (.t rfl)) <| u (ld tf3 (.t rfl) rfl rfl) <| u (asg (.t rfl)) <| .nil _) rfl ?_
  subst h
  exact .rt Try.func27 (.t rfl <| .n) .n rfl rfl

theorem plan_apart_c {z : Option Nat} {l : List Int} {r : Bool} (h : plan_apart z l = some r) :
    AC Try.prog 25 [.ro (.list 1 (List.map (ei .i64) l))] (.ro (.bool r)) [] := by
  refine AC.of Try.func25 rfl rfl fun w M0 hM => ?_
  unfold plan_apart at h
  refine .sq ?_
  refine .rg (u (asg .b) <| .nil _) rfl ?_
  refine .sq ?_
  refine .rg (mkm (A.int .i64) 6 mf77 rfl <| u (asg (.t rfl)) <| .nil _) rfl ?_
  refine .sq ?_
  refine .sq ?_
  refine .rg (u (mv (.t rfl)) <| u (lnm sf26 (.t rfl)) <| u (mv (.i rfl)) <| .nil _) rfl ?_
  refine .bl ?_
  unfold plan_apart_l1 at h
  refine .ks (fun i => bif Nat.beq i 3 then 6 else i) (.lo (fun (s : (List (Int × Int)) × Int) => ⟨[(3, .own 3), (7, .ro (.list 1 (List.map (ei .i64) l))), (8, .ro (.int .i64 (l.length : Int))), (9, .ro (.int .i64 s.2))], [(3, some (.map Try.prog 3 3 .i64 (mpA (A.int .i64) s.1)))]⟩) h ?_) (.c rfl (.c rfl (.c rfl (.c rfl .n)))) (.c rfl .n) rfl
  rintro ⟨v1, v2⟩ u1 h ih1 hx1
  replace h : plan_apart_s1 z l v1 v2 = _ := h
  unfold plan_apart_s1 at h
  refine .sq ?_
  refine .rg (u (bc (.t rfl) (.t rfl) rfl rfl) <| .nil _) rfl ?_
  refine .sq ?_
  refine .bq h (.t rfl) (fun h => ?_) (fun h => ?_)
  · refine .skp ?_
    refine .sq ?_
    refine .bl ?_
    refine .sq ?_
    refine be h fun x3 hx3 h => ?_
    refine .rg (u (ia sf26 (.t rfl) (.t rfl) (ix_map (ei .i64) hx3)) <| u (lr tf3 (.t rfl) rfl) <| u (asg (.t rfl)) <| .nil _) rfl ?_
    refine .sq ?_
    refine be h fun x4 hx4 h => ?_
    refine .rg (u (mv (.t rfl)) <| u (mv (.t rfl)) <| u (mlv (F := (A.int .i64)) mf77 eo77 mz77 (.t rfl) rfl (.t rfl)) <| u (bi (.t rfl) (.i rfl) rfl) <| mpu (F := (A.int .i64)) mf77 eo77 (.t rfl) rfl (.t rfl) (.t rfl) hx4 <| .nil _) rfl ?_
    refine .sq ?_
    refine .rg (u (mv (.t rfl)) <| u (bc (.t rfl) (.i rfl) rfl rfl) <| u (mv (.t rfl)) <| gd rfl rfl (fun hB => mv (.t rfl)) <| gd rfl rfl (fun hB => bc (.m rfl hB) (.i rfl) rfl rfl) <| u (pko (.t rfl) (.t rfl)) <| u (mv (.t rfl)) <| gd rfl rfl (fun hB => mv (.t rfl)) <| gd rfl rfl (fun hB => mv (.t rfl)) <| gd rfl rfl (fun hB => mlv (F := (A.int .i64)) mf77 eo77 mz77 (.m rfl hB) rfl (.m rfl hB)) <| gd rfl rfl (fun hB => bc (.m rfl hB) (.i rfl) rfl rfl) <| u (pko (.t rfl) (.t rfl)) <| .nil _) rfl ?_
    refine .bq h (.t rfl) (fun h => ?_) (fun h => ?_)
    · refine .sq ?_
      refine .rg (u (asg .b) <| .nil _) rfl ?_
      replace h := mpR h hx1
      obtain rfl := Option.some.inj h
      exact .rt Try.func25 (.t rfl <| .n) .n rfl rfl
    · refine .skp ?_
      refine .ib ?_
      refine .rg (u (bi (.t rfl) (.i rfl) rfl) <| u (mv (.t rfl)) <| .nil _) rfl ?_
      exact .kq (.il (ih1 (x4, (ar .add .i64 v2 1)) (nxi h))) (.c rfl (.c rfl (.c rfl (.c rfl .n)))) (.c rfl .n)
  · refine .xt rfl ?_
    replace h := mpR h hx1
    refine .sq ?_
    refine .rg (u (asg .b) <| .nil _) rfl ?_
    obtain rfl := Option.some.inj h
    exact .rt Try.func25 (.t rfl <| .n) .n rfl rfl

theorem plan_to_c (m : GMap) :
    AC Try.prog 28 [.ro (enc_GMap m)] (.ro (.int .i64 (plan_to m))) [] := by
  obtain ⟨r, h⟩ : ∃ r, plan_to m = r := ⟨_, rfl⟩
  rw [h]
  refine AC.of Try.func28 rfl rfl fun w M0 hM => ?_
  unfold plan_to at h
  refine .sq ?_
  refine .rg (bx 1 (.t rfl) rfl rfl <| u (asg (.i rfl)) <| .nil _) rfl ?_
  refine .sq ?_
  refine .rg (u (fa ff45_1 (.t rfl)) <| u (ld tf3 (.t rfl) rfl rfl) <| u (asg (.t rfl)) <| .nil _) rfl ?_
  subst h
  exact .rt Try.func28 (.t rfl <| .n) .n rfl rfl

theorem elem_Right_c {z : Option Nat} {l : List Elem} {r : Bool} (h : elem_Right z l = some r) :
    AC Try.prog 12 [.ro (.list 2 (List.map cells_Elem l))] (.ro (.bool r)) [] := by
  refine AC.of Try.func12 rfl rfl fun w M0 hM => ?_
  unfold elem_Right at h
  refine .sq ?_
  refine .rg (u (asg .b) <| .nil _) rfl ?_
  refine .sq ?_
  refine .rg (mkm A.bool 6 mf56 rfl <| u (asg (.t rfl)) <| .nil _) rfl ?_
  refine .sq ?_
  refine .sq ?_
  refine .rg (u (mv (.t rfl)) <| u (lnm sf25 (.t rfl)) <| u (mv (.i rfl)) <| .nil _) rfl ?_
  refine .bl ?_
  unfold elem_Right_l1 at h
  refine .ks (fun i => bif Nat.beq i 3 then 6 else i) (.lo (fun (s : (List (Int × Bool)) × Int) => ⟨[(3, .own 3), (7, .ro (.list 2 (List.map cells_Elem l))), (8, .ro (.int .i64 (l.length : Int))), (9, .ro (.int .i64 s.2))], [(3, some (.map Try.prog 3 4 .i64 (mpA A.bool s.1)))]⟩) h ?_) (.c rfl (.c rfl (.c rfl (.c rfl .n)))) (.c rfl .n) rfl
  rintro ⟨v1, v2⟩ u1 h ih1 hx1
  replace h : elem_Right_s1 z l v1 v2 = _ := h
  unfold elem_Right_s1 at h
  refine .sq ?_
  refine .rg (u (bc (.t rfl) (.t rfl) rfl rfl) <| .nil _) rfl ?_
  refine .sq ?_
  refine .bq h (.t rfl) (fun h => ?_) (fun h => ?_)
  · refine .skp ?_
    refine .sq ?_
    refine .bl ?_
    refine .sq ?_
    refine be h fun x3 hx3 h => ?_
    refine .rg (u (ia sf25 (.t rfl) (.t rfl) (ix_map cells_Elem hx3)) <| u (lr tf43 (.t rfl) rfl) <| al 5 zf43 rfl <| st tf43 (.t rfl) rfl (.t rfl) rfl rfl rfl <| .nil _) rfl ?_
    refine .sq ?_
    refine .sq ?_
    refine .rg (u (fa ff43_0 (.t rfl)) <| u (ld tf3 (.t rfl) rfl rfl) <| u (bc (.t rfl) (.i rfl) rfl rfl) <| u (mv (.t rfl)) <| gd rfl rfl (fun hB => fa ff43_0 (.t rfl)) <| gd rfl rfl (fun hB => ld tf3 (.m rfl hB) rfl rfl) <| gd rfl rfl (fun hB => bc (.m rfl hB) (.i rfl) rfl rfl) <| u (pko (.t rfl) (.t rfl)) <| u (mv (.t rfl)) <| gd rfl rfl (fun hB => fa ff43_1 (.t rfl)) <| gd rfl rfl (fun hB => ld tf32 (.m rfl hB) rfl rfl) <| gd rfl rfl (fun hB => lnm sf32 (.m rfl hB)) <| gd rfl rfl (fun hB => bc (.m rfl hB) (.i rfl) rfl rfl) <| u (pko (.t rfl) (.t rfl)) <| u (mv (.t rfl)) <| gd rfl rfl (fun hB => mv (.t rfl)) <| gd rfl rfl (fun hB => fa ff43_0 (.t rfl)) <| gd rfl rfl (fun hB => ld tf3 (.m rfl hB) rfl rfl) <| gd rfl rfl (fun hB => mlv (F := A.bool) mf56 eo56 mz56 (.m rfl hB) rfl (.m rfl hB)) <| u (pko (.t rfl) (.t rfl)) <| .nil _) rfl ?_
    refine .bq h (.t rfl) (fun h => ?_) (fun h => ?_)
    · refine .sq ?_
      refine .rg (u (asg .b) <| .nil _) rfl ?_
      replace h := mpR h hx1
      obtain rfl := Option.some.inj h
      exact .rt Try.func12 (.t rfl <| .n) .n rfl rfl
    · refine .skp ?_
      refine be h fun x4 hx4 h => ?_
      refine .rg (u (mv (.t rfl)) <| u (fa ff43_0 (.t rfl)) <| u (ld tf3 (.t rfl) rfl rfl) <| mpu (F := A.bool) mf56 eo56 (.t rfl) rfl (.t rfl) .b hx4 <| .nil _) rfl ?_
      refine .ib ?_
      refine .rg (u (bi (.t rfl) (.i rfl) rfl) <| u (mv (.t rfl)) <| .nil _) rfl ?_
      exact .kq (.il (ih1 (x4, (ar .add .i64 v2 1)) (nxi h))) (.c rfl (.c rfl (.c rfl (.c rfl .n)))) (.c rfl .n)
  · refine .xt rfl ?_
    replace h := mpR h hx1
    refine .sq ?_
    refine .rg (u (asg .b) <| .nil _) rfl ?_
    obtain rfl := Option.some.inj h
    exact .rt Try.func12 (.t rfl <| .n) .n rfl rfl

theorem plan_ident_c (x : Elem) :
    AC Try.prog 30 [.ro (enc_Elem x)] (.ro (.int .i64 (plan_ident x))) [] := by
  obtain ⟨r, h⟩ : ∃ r, plan_ident x = r := ⟨_, rfl⟩
  rw [h]
  refine AC.of Try.func30 rfl rfl fun w M0 hM => ?_
  unfold plan_ident at h
  refine .sq ?_
  refine .rg (bx 1 (.t rfl) rfl rfl <| u (asg (.i rfl)) <| .nil _) rfl ?_
  refine .sq ?_
  refine .rg (u (fa ff43_0 (.t rfl)) <| u (ld tf3 (.t rfl) rfl rfl) <| u (asg (.t rfl)) <| .nil _) rfl ?_
  subst h
  exact .rt Try.func30 (.t rfl <| .n) .n rfl rfl

theorem slices_Index_c {z : Option Nat} {p_s : List Int} {v : Int} {r : Int} (h : slices_Index z p_s v = some r) :
    AC Try.prog 45 [.ro (.list 1 (List.map (ei .i64) p_s)), .ro (.int .i64 v)] (.ro (.int .i64 r)) [] := by
  refine AC.of Try.func45 rfl rfl fun w M0 hM => ?_
  unfold slices_Index at h
  refine .sq ?_
  refine .rg (u (asg (.i rfl)) <| .nil _) rfl ?_
  refine .sq ?_
  refine .sq ?_
  refine .rg (u (mv (.t rfl)) <| u (lnm sf26 (.t rfl)) <| u (mv (.i rfl)) <| .nil _) rfl ?_
  refine .bl ?_
  unfold slices_Index_l1 at h
  refine .kq (.lo (fun (s : Int) => ⟨[(0, .ro (.list 1 (List.map (ei .i64) p_s))), (1, .ro (.int .i64 v)), (7, .ro (.int .i64 (p_s.length : Int))), (8, .ro (.int .i64 s))], []⟩) h ?_) (.c rfl (.c rfl (.c rfl (.c rfl .n)))) .n
  intro v1 u1 h ih1 hx1
  replace h : slices_Index_s1 z p_s v v1 = _ := h
  unfold slices_Index_s1 at h
  refine .sq ?_
  refine .rg (u (bc (.t rfl) (.t rfl) rfl rfl) <| .nil _) rfl ?_
  refine .sq ?_
  refine .bq h (.t rfl) (fun h => ?_) (fun h => ?_)
  · refine .skp ?_
    refine .sq ?_
    refine .bl ?_
    refine .sq ?_
    refine .rg (u (mv (.t rfl)) <| u (asg (.t rfl)) <| .nil _) rfl ?_
    refine .sq ?_
    refine be h fun x2 hx2 h => ?_
    refine .rg (u (mv (.t rfl)) <| u (mv (.t rfl)) <| u (mv (.t rfl)) <| u (ia sf26 (.t rfl) (.t rfl) (ix_map (ei .i64) hx2)) <| u (lr tf3 (.t rfl) rfl) <| u (bc (.t rfl) (.t rfl) rfl rfl) <| .nil _) rfl ?_
    refine .bq h (.t rfl) (fun h => ?_) (fun h => ?_)
    · refine .sq ?_
      refine .rg (u (mv (.t rfl)) <| u (asg (.t rfl)) <| .nil _) rfl ?_
      replace h := mpR h hx1
      obtain rfl := Option.some.inj h
      exact .rt Try.func45 (.t rfl <| .n) .n rfl rfl
    · refine .skp ?_
      refine .ib ?_
      refine .rg (u (bi (.t rfl) (.i rfl) rfl) <| u (mv (.t rfl)) <| .nil _) rfl ?_
      exact .kq (.il (ih1 (ar .add .i64 v1 1) (nxi h))) (.c rfl (.c rfl (.c rfl (.c rfl .n)))) .n
  · refine .xt rfl ?_
    replace h := mpR h hx1
    refine .sq ?_
    refine .rg (u (asg (.i rfl)) <| .nil _) rfl ?_
    obtain rfl := Option.some.inj h
    exact .rt Try.func45 (.t rfl <| .n) .n rfl rfl

theorem slices_Contains_c {z : Option Nat} {p_s : List Int} {v : Int} {r : Bool} (h : slices_Contains z p_s v = some r) :
    AC Try.prog 33 [.ro (.list 1 (List.map (ei .i64) p_s)), .ro (.int .i64 v)] (.ro (.bool r)) [] := by
  refine AC.of Try.func33 rfl rfl fun w M0 hM => ?_
  unfold slices_Contains at h
  refine .sq ?_
  refine .rg (u (asg .b) <| .nil _) rfl ?_
  refine .sq ?_
  refine be h fun x1 hx1 h => ?_
  refine .rg (u (mv (.t rfl)) <| u (mv (.t rfl)) <| cl [] cf45 (slices_Index_c hx1) (.c (.t rfl) <| .c (.t rfl) <| .n) (.inl rfl) <| u (bc (.t rfl) (.i rfl) rfl rfl) <| u (asg (.t rfl)) <| .nil _) rfl ?_
  obtain rfl := Option.some.inj h
  exact .rt Try.func33 (.t rfl <| .n) .n rfl rfl

theorem plan_Right_1_c {z : Option Nat} {id_ : Int} {cap0 : List Int} {r : Bool} (h : plan_Right_1 z id_ cap0 = some r) :
    AC Try.prog 32 [.ro (.int .i64 id_), .rptr [.list 1 (List.map (ei .i64) cap0)]] (.ro (.bool r)) [] := by
  refine AC.of Try.func32 rfl rfl fun w M0 hM => ?_
  unfold plan_Right_1 at h
  refine .sq ?_
  refine .rg (u (asg .b) <| .nil _) rfl ?_
  refine .sq ?_
  refine be h fun x1 hx1 h => ?_
  refine .rg (u (lr tf26 (.t rfl) rfl) <| u (mv (.t rfl)) <| cl [] cf33 (slices_Contains_c hx1) (.c (.t rfl) <| .c (.t rfl) <| .n) (.inl rfl) <| u (asg (.t rfl)) <| .nil _) rfl ?_
  obtain rfl := Option.some.inj h
  exact .rt Try.func32 (.t rfl <| .n) .n rfl rfl

theorem slices_IndexFunc_int_c {z : Option Nat} {p_s : List Int} {f : (Int → Option Bool)} {g_f : FuncId} {c_f : List V} (hF_f : CF Try.prog g_f) (h_f : ∀ (a0 : Int) (q : Bool), f a0 = some q → AC Try.prog g_f ([.ro (.int .i64 a0)] ++ c_f) (.ro (.bool q)) []) {r : Int} (h : slices_IndexFunc_int z p_s f = some r) :
    AC Try.prog 44 [.ro (.list 1 (List.map (ei .i64) p_s)), .fn (.func g_f) [] c_f] (.ro (.int .i64 r)) [] := by
  refine AC.of Try.func44 rfl rfl fun w M0 hM => ?_
  unfold slices_IndexFunc_int at h
  refine .sq ?_
  refine .rg (u (asg (.i rfl)) <| .nil _) rfl ?_
  refine .sq ?_
  refine .sq ?_
  refine .rg (u (mv (.t rfl)) <| u (lnm sf26 (.t rfl)) <| u (mv (.i rfl)) <| .nil _) rfl ?_
  refine .bl ?_
  unfold slices_IndexFunc_int_l1 at h
  refine .kq (.lo (fun (s : Int) => ⟨[(0, .ro (.list 1 (List.map (ei .i64) p_s))), (1, .fn (.func g_f) [] c_f), (7, .ro (.int .i64 (p_s.length : Int))), (8, .ro (.int .i64 s))], []⟩) h ?_) (.c rfl (.c rfl (.c rfl (.c rfl .n)))) .n
  intro v1 u1 h ih1 hx1
  replace h : slices_IndexFunc_int_s1 z p_s f v1 = _ := h
  unfold slices_IndexFunc_int_s1 at h
  refine .sq ?_
  refine .rg (u (bc (.t rfl) (.t rfl) rfl rfl) <| .nil _) rfl ?_
  refine .sq ?_
  refine .bq h (.t rfl) (fun h => ?_) (fun h => ?_)
  · refine .skp ?_
    refine .sq ?_
    refine .bl ?_
    refine .sq ?_
    refine .rg (u (mv (.t rfl)) <| u (asg (.t rfl)) <| .nil _) rfl ?_
    refine .sq ?_
    refine be h fun x2 hx2 h => ?_
    refine be h fun x3 hx3 h => ?_
    refine .rg (u (mv (.t rfl)) <| u (mv (.t rfl)) <| u (mv (.t rfl)) <| u (ia sf26 (.t rfl) (.t rfl) (ix_map (ei .i64) hx2)) <| u (lr tf3 (.t rfl) rfl) <| clv [] hF_f (.t rfl) (h_f _ _ hx3) (.c (.t rfl) <| .n) (.inl rfl) <| .nil _) rfl ?_
    refine .bq h (.t rfl) (fun h => ?_) (fun h => ?_)
    · refine .sq ?_
      refine .rg (u (mv (.t rfl)) <| u (asg (.t rfl)) <| .nil _) rfl ?_
      replace h := mpR h hx1
      obtain rfl := Option.some.inj h
      exact .rt Try.func44 (.t rfl <| .n) .n rfl rfl
    · refine .skp ?_
      refine .ib ?_
      refine .rg (u (bi (.t rfl) (.i rfl) rfl) <| u (mv (.t rfl)) <| .nil _) rfl ?_
      exact .kq (.il (ih1 (ar .add .i64 v1 1) (nxi h))) (.c rfl (.c rfl (.c rfl (.c rfl .n)))) .n
  · refine .xt rfl ?_
    replace h := mpR h hx1
    refine .sq ?_
    refine .rg (u (asg (.i rfl)) <| .nil _) rfl ?_
    obtain rfl := Option.some.inj h
    exact .rt Try.func44 (.t rfl <| .n) .n rfl rfl

theorem slices_ContainsFunc_int_c {z : Option Nat} {p_s : List Int} {f : (Int → Option Bool)} {g_f : FuncId} {c_f : List V} (hF_f : CF Try.prog g_f) (h_f : ∀ (a0 : Int) (q : Bool), f a0 = some q → AC Try.prog g_f ([.ro (.int .i64 a0)] ++ c_f) (.ro (.bool q)) []) {r : Bool} (h : slices_ContainsFunc_int z p_s f = some r) :
    AC Try.prog 31 [.ro (.list 1 (List.map (ei .i64) p_s)), .fn (.func g_f) [] c_f] (.ro (.bool r)) [] := by
  refine AC.of Try.func31 rfl rfl fun w M0 hM => ?_
  unfold slices_ContainsFunc_int at h
  refine .sq ?_
  refine .rg (u (asg .b) <| .nil _) rfl ?_
  refine .sq ?_
  refine be h fun x1 hx1 h => ?_
  refine .rg (u (mv (.t rfl)) <| u (mv (.t rfl)) <| cl [] cf44 (slices_IndexFunc_int_c hF_f h_f hx1) (.c (.t rfl) <| .c (.t rfl) <| .n) (.inl rfl) <| u (bc (.t rfl) (.i rfl) rfl rfl) <| u (asg (.t rfl)) <| .nil _) rfl ?_
  obtain rfl := Option.some.inj h
  exact .rt Try.func31 (.t rfl <| .n) .n rfl rfl

theorem plan_ids_Map_f0_c {z : Option Nat} {l : List GMap} {r : List Int} (h : plan_ids_Map_f0 z l = some r) :
    AC Try.prog 26 [.ro (.list 2 (List.map cells_GMap l)), .fn (.func 27) [] []] (.own 0) [(0, .arr 3 1 (List.map (ei .i64) r))] := by
  refine AC.of Try.func26 rfl rfl fun w M0 hM => ?_
  unfold plan_ids_Map_f0 at h
  refine .sq ?_
  refine .rg (anm (ei .i64) 4 3 1 rfl rfl <| .nil _) rfl ?_
  refine .sq ?_
  refine .rg (anm (ei .i64) 5 3 1 rfl rfl <| .nil _) rfl ?_
  refine .sq ?_
  refine .sq ?_
  refine .rg (u (mv (.t rfl)) <| u (lnm sf24 (.t rfl)) <| u (mv (.i rfl)) <| .nil _) rfl ?_
  refine .bl ?_
  unfold plan_ids_Map_f0_l1 at h
  refine .kq (.lo (fun (s : List Int × Int) => ⟨[(1, .fn (.func 27) [] []), (5, .own 5), (8, .ro (.list 2 (List.map cells_GMap l))), (9, .ro (.int .i64 (l.length : Int))), (10, .ro (.int .i64 s.2))], [(5, some (.arr 3 1 (List.map (ei .i64) s.1)))]⟩) h ?_) (.c rfl (.c rfl (.c rfl (.c rfl (.c rfl .n))))) (.c rfl .n)
  rintro ⟨v1, v2⟩ u1 h ih1 hx1
  replace h : plan_ids_Map_f0_s1 z l v1 v2 = _ := h
  unfold plan_ids_Map_f0_s1 at h
  refine .sq ?_
  refine .rg (u (bc (.t rfl) (.t rfl) rfl rfl) <| .nil _) rfl ?_
  refine .sq ?_
  refine .bq h (.t rfl) (fun h => ?_) (fun h => ?_)
  · refine .skp ?_
    refine .sq ?_
    refine .bl ?_
    refine .sq ?_
    refine be h fun x3 hx3 h => ?_
    refine .rg (u (ia sf24 (.t rfl) (.t rfl) (ix_map cells_GMap hx3)) <| u (lr tf45 (.t rfl) rfl) <| al 7 zf45 rfl <| st tf45 (.t rfl) rfl (.t rfl) rfl rfl rfl <| .nil _) rfl ?_
    refine be h fun x4 hx4 h => ?_
    refine .rg (u (mv (.t rfl)) <| u (mv (.t rfl)) <| u (ld tf45 (.t rfl) rfl rfl) <| clv [] cf27 (.t rfl) (plan_from_c x3 ) (.c (.t rfl) <| .n) (.inl rfl) <| bs (F := (ei .i64)) (l := [(plan_from x3 )]) 18 pf26 (.c (.t rfl) rfl <| .n) rfl (fun _ _ => rfl) rfl rfl <| apo 19 pf26 (.t rfl) rfl (.t rfl) rfl hx4 rfl <| u (asg (.t rfl)) <| .nil _) rfl ?_
    refine .ib ?_
    refine .rg (u (bi (.t rfl) (.i rfl) rfl) <| u (mv (.t rfl)) <| .nil _) rfl ?_
    exact .ks (fun i => bif Nat.beq i 5 then 19 else i) (.il (ih1 (x4, (ar .add .i64 v2 1)) (nxi h))) (.c rfl (.c rfl (.c rfl (.c rfl (.c rfl .n))))) (.c rfl .n) rfl
  · refine .xt rfl ?_
    replace h := mpR h hx1
    refine .sq ?_
    refine .rg (u (mv (.t rfl)) <| u (asg (.t rfl)) <| .nil _) rfl ?_
    obtain rfl := Option.some.inj h
    refine .ks (l := [(4, .own 0)]) (o := [(0, some (.arr 3 1 (List.map (ei .i64) v1)))]) (fun i => bif Nat.beq i 0 then 5 else i) ?_ (.c rfl .n) (.c rfl .n) rfl
    exact .rt Try.func26 (.t rfl <| .n) (.c rfl .n) rfl rfl

theorem plan_ids_Map_f0_r {z : Option Nat} {l : List GMap} {r : List Int} (h : plan_ids_Map_f0 z l = some r) :
    AC Try.prog 26 [.ro (.list 2 (List.map cells_GMap l)), .fn (.func 27) [] []] (.ro (.list 1 (List.map (ei .i64) r))) [] := AC.fz (plan_ids_Map_f0_c h) rfl

theorem plan_ids_Map_f1_c {z : Option Nat} {l : List GMap} {r : List Int} (h : plan_ids_Map_f1 z l = some r) :
    AC Try.prog 26 [.ro (.list 2 (List.map cells_GMap l)), .fn (.func 28) [] []] (.own 0) [(0, .arr 3 1 (List.map (ei .i64) r))] := by
  refine AC.of Try.func26 rfl rfl fun w M0 hM => ?_
  unfold plan_ids_Map_f1 at h
  refine .sq ?_
  refine .rg (anm (ei .i64) 4 3 1 rfl rfl <| .nil _) rfl ?_
  refine .sq ?_
  refine .rg (anm (ei .i64) 5 3 1 rfl rfl <| .nil _) rfl ?_
  refine .sq ?_
  refine .sq ?_
  refine .rg (u (mv (.t rfl)) <| u (lnm sf24 (.t rfl)) <| u (mv (.i rfl)) <| .nil _) rfl ?_
  refine .bl ?_
  unfold plan_ids_Map_f1_l1 at h
  refine .kq (.lo (fun (s : List Int × Int) => ⟨[(1, .fn (.func 28) [] []), (5, .own 5), (8, .ro (.list 2 (List.map cells_GMap l))), (9, .ro (.int .i64 (l.length : Int))), (10, .ro (.int .i64 s.2))], [(5, some (.arr 3 1 (List.map (ei .i64) s.1)))]⟩) h ?_) (.c rfl (.c rfl (.c rfl (.c rfl (.c rfl .n))))) (.c rfl .n)
  rintro ⟨v1, v2⟩ u1 h ih1 hx1
  replace h : plan_ids_Map_f1_s1 z l v1 v2 = _ := h
  unfold plan_ids_Map_f1_s1 at h
  refine .sq ?_
  refine .rg (u (bc (.t rfl) (.t rfl) rfl rfl) <| .nil _) rfl ?_
  refine .sq ?_
  refine .bq h (.t rfl) (fun h => ?_) (fun h => ?_)
  · refine .skp ?_
    refine .sq ?_
    refine .bl ?_
    refine .sq ?_
    refine be h fun x3 hx3 h => ?_
    refine .rg (u (ia sf24 (.t rfl) (.t rfl) (ix_map cells_GMap hx3)) <| u (lr tf45 (.t rfl) rfl) <| al 7 zf45 rfl <| st tf45 (.t rfl) rfl (.t rfl) rfl rfl rfl <| .nil _) rfl ?_
    refine be h fun x4 hx4 h => ?_
    refine .rg (u (mv (.t rfl)) <| u (mv (.t rfl)) <| u (ld tf45 (.t rfl) rfl rfl) <| clv [] cf28 (.t rfl) (plan_to_c x3 ) (.c (.t rfl) <| .n) (.inl rfl) <| bs (F := (ei .i64)) (l := [(plan_to x3 )]) 18 pf26 (.c (.t rfl) rfl <| .n) rfl (fun _ _ => rfl) rfl rfl <| apo 19 pf26 (.t rfl) rfl (.t rfl) rfl hx4 rfl <| u (asg (.t rfl)) <| .nil _) rfl ?_
    refine .ib ?_
    refine .rg (u (bi (.t rfl) (.i rfl) rfl) <| u (mv (.t rfl)) <| .nil _) rfl ?_
    exact .ks (fun i => bif Nat.beq i 5 then 19 else i) (.il (ih1 (x4, (ar .add .i64 v2 1)) (nxi h))) (.c rfl (.c rfl (.c rfl (.c rfl (.c rfl .n))))) (.c rfl .n) rfl
  · refine .xt rfl ?_
    replace h := mpR h hx1
    refine .sq ?_
    refine .rg (u (mv (.t rfl)) <| u (asg (.t rfl)) <| .nil _) rfl ?_
    obtain rfl := Option.some.inj h
    refine .ks (l := [(4, .own 0)]) (o := [(0, some (.arr 3 1 (List.map (ei .i64) v1)))]) (fun i => bif Nat.beq i 0 then 5 else i) ?_ (.c rfl .n) (.c rfl .n) rfl
    exact .rt Try.func26 (.t rfl <| .n) (.c rfl .n) rfl rfl

theorem plan_ids_Map_f1_r {z : Option Nat} {l : List GMap} {r : List Int} (h : plan_ids_Map_f1 z l = some r) :
    AC Try.prog 26 [.ro (.list 2 (List.map cells_GMap l)), .fn (.func 28) [] []] (.ro (.list 1 (List.map (ei .i64) r))) [] := AC.fz (plan_ids_Map_f1_c h) rfl

theorem plan_ids_Elem_f0_c {z : Option Nat} {l : List Elem} {r : List Int} (h : plan_ids_Elem_f0 z l = some r) :
    AC Try.prog 29 [.ro (.list 2 (List.map cells_Elem l)), .fn (.func 30) [] []] (.own 0) [(0, .arr 3 1 (List.map (ei .i64) r))] := by
  refine AC.of Try.func29 rfl rfl fun w M0 hM => ?_
  unfold plan_ids_Elem_f0 at h
  refine .sq ?_
  refine .rg (anm (ei .i64) 4 3 1 rfl rfl <| .nil _) rfl ?_
  refine .sq ?_
  refine .rg (anm (ei .i64) 5 3 1 rfl rfl <| .nil _) rfl ?_
  refine .sq ?_
  refine .sq ?_
  refine .rg (u (mv (.t rfl)) <| u (lnm sf25 (.t rfl)) <| u (mv (.i rfl)) <| .nil _) rfl ?_
  refine .bl ?_
  unfold plan_ids_Elem_f0_l1 at h
  refine .kq (.lo (fun (s : List Int × Int) => ⟨[(1, .fn (.func 30) [] []), (5, .own 5), (8, .ro (.list 2 (List.map cells_Elem l))), (9, .ro (.int .i64 (l.length : Int))), (10, .ro (.int .i64 s.2))], [(5, some (.arr 3 1 (List.map (ei .i64) s.1)))]⟩) h ?_) (.c rfl (.c rfl (.c rfl (.c rfl (.c rfl .n))))) (.c rfl .n)
  rintro ⟨v1, v2⟩ u1 h ih1 hx1
  replace h : plan_ids_Elem_f0_s1 z l v1 v2 = _ := h
  unfold plan_ids_Elem_f0_s1 at h
  refine .sq ?_
  refine .rg (u (bc (.t rfl) (.t rfl) rfl rfl) <| .nil _) rfl ?_
  refine .sq ?_
  refine .bq h (.t rfl) (fun h => ?_) (fun h => ?_)
  · refine .skp ?_
    refine .sq ?_
    refine .bl ?_
    refine .sq ?_
    refine be h fun x3 hx3 h => ?_
    refine .rg (u (ia sf25 (.t rfl) (.t rfl) (ix_map cells_Elem hx3)) <| u (lr tf43 (.t rfl) rfl) <| al 7 zf43 rfl <| st tf43 (.t rfl) rfl (.t rfl) rfl rfl rfl <| .nil _) rfl ?_
    refine be h fun x4 hx4 h => ?_
    refine .rg (u (mv (.t rfl)) <| u (mv (.t rfl)) <| u (ld tf43 (.t rfl) rfl rfl) <| clv [] cf30 (.t rfl) (plan_ident_c x3 ) (.c (.t rfl) <| .n) (.inl rfl) <| bs (F := (ei .i64)) (l := [(plan_ident x3 )]) 18 pf26 (.c (.t rfl) rfl <| .n) rfl (fun _ _ => rfl) rfl rfl <| apo 19 pf26 (.t rfl) rfl (.t rfl) rfl hx4 rfl <| u (asg (.t rfl)) <| .nil _) rfl ?_
    refine .ib ?_
    refine .rg (u (bi (.t rfl) (.i rfl) rfl) <| u (mv (.t rfl)) <| .nil _) rfl ?_
    exact .ks (fun i => bif Nat.beq i 5 then 19 else i) (.il (ih1 (x4, (ar .add .i64 v2 1)) (nxi h))) (.c rfl (.c rfl (.c rfl (.c rfl (.c rfl .n))))) (.c rfl .n) rfl
  · refine .xt rfl ?_
    replace h := mpR h hx1
    refine .sq ?_
    refine .rg (u (mv (.t rfl)) <| u (asg (.t rfl)) <| .nil _) rfl ?_
    obtain rfl := Option.some.inj h
    refine .ks (l := [(4, .own 0)]) (o := [(0, some (.arr 3 1 (List.map (ei .i64) v1)))]) (fun i => bif Nat.beq i 0 then 5 else i) ?_ (.c rfl .n) (.c rfl .n) rfl
    exact .rt Try.func29 (.t rfl <| .n) (.c rfl .n) rfl rfl

theorem plan_ids_Elem_f0_r {z : Option Nat} {l : List Elem} {r : List Int} (h : plan_ids_Elem_f0 z l = some r) :
    AC Try.prog 29 [.ro (.list 2 (List.map cells_Elem l)), .fn (.func 30) [] []] (.ro (.list 1 (List.map (ei .i64) r))) [] := AC.fz (plan_ids_Elem_f0_c h) rfl

theorem plan_Right_c {z : Option Nat} {p : Plan} {r : Bool} (h : plan_Right z p = some r) :
    AC Try.prog 16 [.ro (enc_Plan p)] (.ro (.bool r)) [] := by
  refine AC.of Try.func16 rfl rfl fun w M0 hM => ?_
  unfold plan_Right at h
  refine .sq ?_
  refine .rg (bx 1 (.t rfl) rfl rfl <| u (asg .b) <| .nil _) rfl ?_
  refine .sq ?_
  refine .sq ?_
  refine be h fun x1 hx1 h => ?_
  refine be h fun x2 hx2 h => ?_
  refine be h fun x3 hx3 h => ?_
  refine be h fun x4 hx4 h => ?_
  refine be h fun x5 hx5 h => ?_
  refine be h fun x6 hx6 h => ?_
  refine be h fun x7 hx7 h => ?_
  refine .rg (u (ld tf28 (.t rfl) rfl rfl) <| cl [] cf24 (plan_single_c p) (.c (.t rfl) <| .n) (.inl rfl) <| u (no (.t rfl)) <| u (mv (.t rfl)) <| gd rfl rfl (fun hB => fa ff28_10 (.t rfl)) <| gd rfl rfl (fun hB => ld tf24 (.m rfl hB) rfl rfl) <| cg rfl rfl cf26 (fun hB => (plan_ids_Map_f0_r (gTt hx1 (nt hB)))) (fun hB => .c (.m rfl hB) <| .c .f <| .n) (.inl rfl) <| cg rfl rfl cf25 (fun hB => (plan_apart_c (gTt hx2 (nt hB)))) (fun hB => .c (.m rfl hB) <| .n) (.inl rfl) <| gd rfl rfl (fun hB => no (.m rfl hB)) <| u (pko (.t rfl) (.t rfl)) <| u (mv (.t rfl)) <| gd rfl rfl (fun hB => fa ff28_10 (.t rfl)) <| gd rfl rfl (fun hB => ld tf24 (.m rfl hB) rfl rfl) <| cg rfl rfl cf26 (fun hB => (plan_ids_Map_f1_r (gTt hx3 (nt hB)))) (fun hB => .c (.m rfl hB) <| .c .f <| .n) (.inl rfl) <| cg rfl rfl cf25 (fun hB => (plan_apart_c (gTt hx4 (nt hB)))) (fun hB => .c (.m rfl hB) <| .n) (.inl rfl) <| gd rfl rfl (fun hB => no (.m rfl hB)) <| u (pko (.t rfl) (.t rfl)) <| u (mv (.t rfl)) <| gd rfl rfl (fun hB => fa ff28_11 (.t rfl)) <| gd rfl rfl (fun hB => ld tf25 (.m rfl hB) rfl rfl) <| cg rfl rfl cf12 (fun hB => (elem_Right_c (gTt hx5 (nt hB)))) (fun hB => .c (.m rfl hB) <| .n) (.inl rfl) <| gd rfl rfl (fun hB => no (.m rfl hB)) <| u (pko (.t rfl) (.t rfl)) <| u (mv (.t rfl)) <| gd rfl rfl (fun hB => fa ff28_13 (.t rfl)) <| gd rfl rfl (fun hB => ld tf25 (.m rfl hB) rfl rfl) <| cg rfl rfl cf12 (fun hB => (elem_Right_c (gTt hx6 (nt hB)))) (fun hB => .c (.m rfl hB) <| .n) (.inl rfl) <| gd rfl rfl (fun hB => no (.m rfl hB)) <| u (pko (.t rfl) (.t rfl)) <| u (mv (.t rfl)) <| gd rfl rfl (fun hB => fa ff28_12 (.t rfl)) <| gd rfl rfl (fun hB => ld tf26 (.m rfl hB) rfl rfl) <| cg rfl rfl cf25 (fun hB => (plan_apart_c (gTt hx7 (nt hB)))) (fun hB => .c (.m rfl hB) <| .n) (.inl rfl) <| gd rfl rfl (fun hB => no (.m rfl hB)) <| u (pko (.t rfl) (.t rfl)) <| .nil _) rfl ?_
  refine .bq h (.t rfl) (fun h => ?_) (fun h => ?_)
  · refine .sq ?_
    refine .rg (u (asg .b) <| .nil _) rfl ?_
    obtain rfl := Option.some.inj h
    exact .rt Try.func16 (.t rfl <| .n) .n rfl rfl
  · refine .skp ?_
    refine .sq ?_
    refine be h fun x8 hx8 h => ?_
    refine be h fun x9 hx9 h => ?_
    refine be h fun x10 hx10 h => ?_
    refine .rd mixed (u (fa ff28_10 (.t rfl)) <| u (ld tf24 (.t rfl) rfl rfl) <| cnf 42000 cf26 (plan_ids_Map_f0_c hx8) (.c (.t rfl) <| .c .f <| .n) rfl rfl rfl <| u (fa ff28_11 (.t rfl)) <| u (ld tf25 (.t rfl) rfl rfl) <| cnf 45000 cf29 (plan_ids_Elem_f0_c hx9) (.c (.t rfl) <| .c .f <| .n) rfl rfl rfl <| apo 45 pf26 (.t rfl) rfl (.t rfl) rfl hx10 rfl <| al 3 zf26 rfl <| st tf26 (.t rfl) rfl (.t rfl) rfl rfl rfl <| .nil _) (by kernel_rfl) rfl ?_
    refine .sq ?_
    refine .fz 45 rfl ?_
    refine .fb 3 rfl rfl ?_
    refine be h fun x11 hx11 h => ?_
    refine .rg (u (fa ff28_12 (.t rfl)) <| u (ld tf26 (.t rfl) rfl rfl) <| u (mfn (.c (.t rfl) <| .n)) <| cl [] cf31 (slices_ContainsFunc_int_c cf32 (fun y0 q h => plan_Right_1_c h) hx11) (.c (.t rfl) <| .c (.t rfl) <| .n) (.inl rfl) <| u (no (.t rfl)) <| u (asg (.t rfl)) <| .nil _) rfl ?_
    obtain rfl := Option.some.inj h
    exact .rt Try.func16 (.t rfl <| .n) .n rfl rfl

theorem plan_turns_c (p : Plan) :
    AC Try.prog 21 [.ro (enc_Plan p)] (.ro (.bool (plan_turns p))) [] := by
  obtain ⟨r, h⟩ : ∃ r, plan_turns p = r := ⟨_, rfl⟩
  rw [h]
  refine AC.of Try.func21 rfl rfl fun w M0 hM => ?_
  unfold plan_turns at h
  refine .sq ?_
  refine .rg (bx 1 (.t rfl) rfl rfl <| u (asg .b) <| .nil _) rfl ?_
  refine .sq ?_
  refine .rg (u (fa ff28_12 (.t rfl)) <| u (ld tf26 (.t rfl) rfl rfl) <| u (lnm sf26 (.t rfl)) <| u (fa ff28_13 (.t rfl)) <| u (ld tf25 (.t rfl) rfl rfl) <| u (lnm sf25 (.t rfl)) <| u (bi (.t rfl) (.t rfl) rfl) <| u (bc (.t rfl) (.i rfl) rfl rfl) <| u (asg (.t rfl)) <| .nil _) rfl ?_
  subst h
  exact .rt Try.func21 (.t rfl <| .n) .n rfl rfl

theorem plan_Elements_c (p : Plan) :
    AC Try.prog 9 [.ro (enc_Plan p)] (.ro (.bool (plan_Elements p))) [] := by
  obtain ⟨r, h⟩ : ∃ r, plan_Elements p = r := ⟨_, rfl⟩
  rw [h]
  refine AC.of Try.func9 rfl rfl fun w M0 hM => ?_
  unfold plan_Elements at h
  refine .sq ?_
  refine .rg (bx 1 (.t rfl) rfl rfl <| u (asg .b) <| .nil _) rfl ?_
  refine .sq ?_
  refine .rg (u (fa ff28_10 (.t rfl)) <| u (ld tf24 (.t rfl) rfl rfl) <| u (lnm sf24 (.t rfl)) <| u (fa ff28_11 (.t rfl)) <| u (ld tf25 (.t rfl) rfl rfl) <| u (lnm sf25 (.t rfl)) <| u (bi (.t rfl) (.t rfl) rfl) <| u (bc (.t rfl) (.i rfl) rfl rfl) <| u (mv (.t rfl)) <| gd rfl rfl (fun hB => ld tf28 (.t rfl) rfl rfl) <| cg rfl rfl cf21 (fun hB => (plan_turns_c p)) (fun hB => .c (.m rfl hB) <| .n) (.inl rfl) <| u (pko (.t rfl) (.t rfl)) <| u (asg (.t rfl)) <| .nil _) rfl ?_
  subst h
  exact .rt Try.func9 (.t rfl <| .n) .n rfl rfl

theorem elem_walk_c (profile : Int) :
    AC Try.prog 52 [.ro (.int .u16 profile)] (.ro (enc_I_elem_walker (elem_walk profile))) [] := by
  obtain ⟨r, h⟩ : ∃ r, elem_walk profile = r := ⟨_, rfl⟩
  rw [h]
  refine AC.of Try.func52 rfl rfl fun w M0 hM => ?_
  unfold elem_walk at h
  refine .sq ?_
  refine .rg (u (asg (.r rfl)) <| .nil _) rfl ?_
  refine .sq ?_
  refine .bl ?_
  refine .sq ?_
  refine .rg (u (mv (.t rfl)) <| u (bc (.t rfl) (.i rfl) rfl rfl) <| u (asg (.t rfl)) <| .nil _) rfl ?_
  refine .bq h (.t rfl) (fun h => ?_) (fun h => ?_)
  · refine .sq ?_
    refine .rg (u (bd bf102 zf102 (.n) rfl) <| u (mki pc102 (.t rfl)) <| u (asg (.t rfl)) <| .nil _) rfl ?_
    subst h
    exact .rt Try.func52 (.t rfl <| .n) .n rfl rfl
  · refine .sq ?_
    refine .rg (u (mv (.t rfl)) <| u (bi (.t rfl) (.i rfl) rfl) <| u (bc (.t rfl) (.i rfl) rfl rfl) <| u (asg (.t rfl)) <| .nil _) rfl ?_
    refine .bq h (.t rfl) (fun h => ?_) (fun h => ?_)
    · refine .sq ?_
      refine .rg (u (bd bf103 zf103 (.n) rfl) <| u (mki pc103 (.t rfl)) <| u (asg (.t rfl)) <| .nil _) rfl ?_
      subst h
      exact .rt Try.func52 (.t rfl <| .n) .n rfl rfl
    · refine .skp ?_
      refine .ib ?_
      refine .sq ?_
      refine .rg (u (asg (.r rfl)) <| .nil _) rfl ?_
      subst h
      exact .rt Try.func52 (.t rfl <| .n) .n rfl rfl

theorem elem_low_next_c {p0 : elem_low} {b : List Int} {at_ : Int} {r : Spot × Bool} (h : elem_low_next p0 b at_ = some r) :
    AC Try.prog 84 [.ro (enc_elem_low p0), .ro (.list 1 (List.map e8 b)), .ro (.int .i64 at_)] (.ro (.tup [enc_Spot r.1, .bool r.2])) [] := by
  refine AC.of Try.func84 rfl rfl fun w M0 hM => ?_
  unfold elem_low_next at h
  refine .sq ?_
  refine .rg (bx 3 (.t rfl) rfl rfl <| al 6 zf75 rfl <| u (asg .b) <| .nil _) rfl ?_
  refine .sq ?_
  refine be h fun x1 hx1 h => ?_
  refine be h fun x2 hx2 h => ?_
  refine .rd mixed (u (mv (.t rfl)) <| u (mv (.t rfl)) <| u (ia sf32 (.t rfl) (.t rfl) (ix_map e8 hx1)) <| u (lr tf5 (.t rfl) rfl) <| u (sh (.t rfl) (.i rfl) rfl (by decide)) <| u (cv cv5_3 (.t rfl)) <| u (mv (.t rfl)) <| u (bi (.t rfl) (.i rfl) rfl) <| u (mv (.t rfl)) <| u (mv (.t rfl)) <| u (ia sf32 (.t rfl) (.t rfl) (ix_map e8 hx2)) <| u (lr tf5 (.t rfl) rfl) <| u (bi (.t rfl) (.i rfl) rfl) <| u (cv cv5_3 (.t rfl)) <| u (bi (.t rfl) (.i rfl) rfl) <| u (bd bf75 zf75 (.c rfl (.t rfl) rfl rfl rfl <| .c rfl (.t rfl) rfl rfl rfl <| .c rfl (.t rfl) rfl rfl rfl <| .n) rfl) <| al 8 zf75 rfl <| st tf75 (.t rfl) rfl (.t rfl) rfl rfl rfl <| .nil _) (by kernel_rfl) rfl ?_
  refine .sq ?_
  refine .rd mixed (u (ld tf75 (.t rfl) rfl rfl) <| u (fa ff75_0 (.t rfl)) <| u (ld tf3 (.t rfl) rfl rfl) <| u (bc (.t rfl) (.i rfl) rfl rfl) <| u (mv (.t rfl)) <| gd rfl rfl (fun hB => fa ff75_0 (.t rfl)) <| gd rfl rfl (fun hB => ld tf3 (.m rfl hB) rfl rfl) <| gd rfl rfl (fun hB => bc (.m rfl hB) (.i rfl) rfl rfl) <| u (pka (.t rfl) (.t rfl)) <| st tf75 (.t rfl) rfl (.t rfl) rfl rfl rfl <| u (asg (.t rfl)) <| .nil _) (by kernel_rfl) rfl ?_
  obtain rfl := Option.some.inj h
  exact .rt Try.func84 (.c tf75 rfl rfl rfl <| .t rfl <| .n) .n rfl rfl

theorem elem_high_next_c {p0 : elem_high} {b : List Int} {at_ : Int} {r : Spot × Bool} (h : elem_high_next p0 b at_ = some r) :
    AC Try.prog 85 [.ro (enc_elem_high p0), .ro (.list 1 (List.map e8 b)), .ro (.int .i64 at_)] (.ro (.tup [enc_Spot r.1, .bool r.2])) [] := by
  refine AC.of Try.func85 rfl rfl fun w M0 hM => ?_
  unfold elem_high_next at h
  refine .sq ?_
  refine .rg (bx 3 (.t rfl) rfl rfl <| al 6 zf75 rfl <| u (asg .b) <| .nil _) rfl ?_
  refine .sq ?_
  refine be h fun x1 hx1 h => ?_
  refine .rg (u (mv (.t rfl)) <| u (mv (.t rfl)) <| u (ia sf32 (.t rfl) (.t rfl) (ix_map e8 hx1)) <| u (lr tf5 (.t rfl) rfl) <| u (cv cv5_3 (.t rfl)) <| u (mv (.t rfl)) <| u (bi (.t rfl) (.i rfl) rfl) <| u (bd bf75 zf75 (.c rfl (.t rfl) rfl rfl rfl <| .c rfl (.t rfl) rfl rfl rfl <| .c rfl (.i rfl) rfl rfl rfl <| .n) rfl) <| al 8 zf75 rfl <| st tf75 (.t rfl) rfl (.t rfl) rfl rfl rfl <| .nil _) rfl ?_
  refine .sq ?_
  refine .sq ?_
  refine .rg (u (mv (.t rfl)) <| u (bi (.t rfl) (.i rfl) rfl) <| u (mv (.t rfl)) <| u (lnm sf32 (.t rfl)) <| u (bc (.t rfl) (.t rfl) rfl rfl) <| .nil _) rfl ?_
  refine .jq (t := some r) (fun (a : Spot) => ⟨[(6, .ptr 6 0), (8, .ptr 8 0)], [(6, some (.box [.ro (.int .i64 0), .ro (.int .i64 0), .ro (.int .i64 0)])), (8, some (.box [.ro (.int .i64 a.id_), .ro (.int .i64 a.at_), .ro (.int .i64 a.size)]))]⟩) (fun (a : Spot) => elem_high_next_j1 a) ?_ (fun J1 => ?_)
  · intro v2 h
    replace h : elem_high_next_j1 v2 = _ := h
    unfold elem_high_next_j1 at h
    refine .sq ?_
    refine .rg (u (ld tf75 (.t rfl) rfl rfl) <| st tf75 (.t rfl) rfl (.t rfl) rfl rfl rfl <| u (asg .b) <| .nil _) rfl ?_
    obtain rfl := Option.some.inj h
    exact .rt Try.func85 (.c tf75 rfl rfl rfl <| .t rfl <| .n) .n rfl rfl
  refine .bq h (.t rfl) (fun h => ?_) (fun h => ?_)
  · refine be h fun x3 hx3 h => ?_
    refine .rg (u (mv (.t rfl)) <| u (mv (.t rfl)) <| u (bi (.t rfl) (.i rfl) rfl) <| u (ia sf32 (.t rfl) (.t rfl) (ix_map e8 hx3)) <| u (lr tf5 (.t rfl) rfl) <| u (cv cv5_3 (.t rfl)) <| u (fa ff75_2 (.t rfl)) <| st tf3 (.t rfl) rfl (.t rfl) rfl rfl rfl <| .nil _) rfl ?_
    exact .kq (J1 (Spot.mk (IntKind.i64.wrap x1) (ar .add .i64 at_ 2) (IntKind.i64.wrap x3)) h) (.c rfl (.c rfl .n)) (.c rfl (.c rfl .n))
  · refine .skp ?_
    exact .kq (J1 (Spot.mk (IntKind.i64.wrap x1) (ar .add .i64 at_ 2) 256) h) (.c rfl (.c rfl .n)) (.c rfl (.c rfl .n))

theorem elem_Spots_1_c (x : Spot) (cap0 : Spot) :
    AC Try.prog 54 [.ro (enc_Spot x), .rptr [.int .i64 cap0.id_, .int .i64 cap0.at_, .int .i64 cap0.size]] (.ro (.bool (elem_Spots_1 x cap0))) [] := by
  obtain ⟨r, h⟩ : ∃ r, elem_Spots_1 x cap0 = r := ⟨_, rfl⟩
  rw [h]
  refine AC.of Try.func54 rfl rfl fun w M0 hM => ?_
  unfold elem_Spots_1 at h
  refine .sq ?_
  refine .rg (bx 2 (.t rfl) rfl rfl <| u (asg .b) <| .nil _) rfl ?_
  refine .sq ?_
  refine .rg (u (fa ff75_0 (.t rfl)) <| u (ld tf3 (.t rfl) rfl rfl) <| u (fr ff75_0 (.t rfl) rfl) <| u (lr tf3 (.t rfl) rfl) <| u (bc (.t rfl) (.t rfl) rfl rfl) <| u (asg (.t rfl)) <| .nil _) rfl ?_
  subst h
  exact .rt Try.func54 (.t rfl <| .n) .n rfl rfl

theorem slices_IndexFunc_Spot_c {z : Option Nat} {p_s : List Spot} {f : (Spot → Option Bool)} {g_f : FuncId} {c_f : List V} (hF_f : CF Try.prog g_f) (h_f : ∀ (a0 : Spot) (q : Bool), f a0 = some q → AC Try.prog g_f ([.ro (enc_Spot a0)] ++ c_f) (.ro (.bool q)) []) {r : Int} (h : slices_IndexFunc_Spot z p_s f = some r) :
    AC Try.prog 60 [.ro (.list 3 (List.map cells_Spot p_s)), .fn (.func g_f) [] c_f] (.ro (.int .i64 r)) [] := by
  refine AC.of Try.func60 rfl rfl fun w M0 hM => ?_
  unfold slices_IndexFunc_Spot at h
  refine .sq ?_
  refine .rg (u (asg (.i rfl)) <| .nil _) rfl ?_
  refine .sq ?_
  refine .sq ?_
  refine .rg (u (mv (.t rfl)) <| u (lnm sf71 (.t rfl)) <| u (mv (.i rfl)) <| .nil _) rfl ?_
  refine .bl ?_
  unfold slices_IndexFunc_Spot_l1 at h
  refine .kq (.lo (fun (s : Int) => ⟨[(0, .ro (.list 3 (List.map cells_Spot p_s))), (1, .fn (.func g_f) [] c_f), (7, .ro (.int .i64 (p_s.length : Int))), (8, .ro (.int .i64 s))], []⟩) h ?_) (.c rfl (.c rfl (.c rfl (.c rfl .n)))) .n
  intro v1 u1 h ih1 hx1
  replace h : slices_IndexFunc_Spot_s1 z p_s f v1 = _ := h
  unfold slices_IndexFunc_Spot_s1 at h
  refine .sq ?_
  refine .rg (u (bc (.t rfl) (.t rfl) rfl rfl) <| .nil _) rfl ?_
  refine .sq ?_
  refine .bq h (.t rfl) (fun h => ?_) (fun h => ?_)
  · refine .skp ?_
    refine .sq ?_
    refine .bl ?_
    refine .sq ?_
    refine .rg (u (mv (.t rfl)) <| u (asg (.t rfl)) <| .nil _) rfl ?_
    refine .sq ?_
    refine be h fun x2 hx2 h => ?_
    refine be h fun x3 hx3 h => ?_
    refine .rg (u (mv (.t rfl)) <| u (mv (.t rfl)) <| u (mv (.t rfl)) <| u (ia sf71 (.t rfl) (.t rfl) (ix_map cells_Spot hx2)) <| u (lr tf75 (.t rfl) rfl) <| clv [] hF_f (.t rfl) (h_f _ _ hx3) (.c (.t rfl) <| .n) (.inl rfl) <| .nil _) rfl ?_
    refine .bq h (.t rfl) (fun h => ?_) (fun h => ?_)
    · refine .sq ?_
      refine .rg (u (mv (.t rfl)) <| u (asg (.t rfl)) <| .nil _) rfl ?_
      replace h := mpR h hx1
      obtain rfl := Option.some.inj h
      exact .rt Try.func60 (.t rfl <| .n) .n rfl rfl
    · refine .skp ?_
      refine .ib ?_
      refine .rg (u (bi (.t rfl) (.i rfl) rfl) <| u (mv (.t rfl)) <| .nil _) rfl ?_
      exact .kq (.il (ih1 (ar .add .i64 v1 1) (nxi h))) (.c rfl (.c rfl (.c rfl (.c rfl .n)))) .n
  · refine .xt rfl ?_
    replace h := mpR h hx1
    refine .sq ?_
    refine .rg (u (asg (.i rfl)) <| .nil _) rfl ?_
    obtain rfl := Option.some.inj h
    exact .rt Try.func60 (.t rfl <| .n) .n rfl rfl

theorem slices_ContainsFunc_Spot_c {z : Option Nat} {p_s : List Spot} {f : (Spot → Option Bool)} {g_f : FuncId} {c_f : List V} (hF_f : CF Try.prog g_f) (h_f : ∀ (a0 : Spot) (q : Bool), f a0 = some q → AC Try.prog g_f ([.ro (enc_Spot a0)] ++ c_f) (.ro (.bool q)) []) {r : Bool} (h : slices_ContainsFunc_Spot z p_s f = some r) :
    AC Try.prog 53 [.ro (.list 3 (List.map cells_Spot p_s)), .fn (.func g_f) [] c_f] (.ro (.bool r)) [] := by
  refine AC.of Try.func53 rfl rfl fun w M0 hM => ?_
  unfold slices_ContainsFunc_Spot at h
  refine .sq ?_
  refine .rg (u (asg .b) <| .nil _) rfl ?_
  refine .sq ?_
  refine be h fun x1 hx1 h => ?_
  refine .rg (u (mv (.t rfl)) <| u (mv (.t rfl)) <| cl [] cf60 (slices_IndexFunc_Spot_c hF_f h_f hx1) (.c (.t rfl) <| .c (.t rfl) <| .n) (.inl rfl) <| u (bc (.t rfl) (.i rfl) rfl rfl) <| u (asg (.t rfl)) <| .nil _) rfl ?_
  obtain rfl := Option.some.inj h
  exact .rt Try.func53 (.t rfl <| .n) .n rfl rfl

theorem I_elem_walker_next_c {w : I_elem_walker} {a0 : List Int} {a1 : Int} {r : Spot × Bool} (h : I_elem_walker_next w a0 a1 = some r) : MC Try.prog "crossbar/elem.next" (enc_I_elem_walker w) [.ro (.list 1 (List.map e8 a0)), .ro (.int .i64 a1)] (.tup [enc_Spot r.1, .bool r.2]) := by
  cases w
  · cases h
  · exact ⟨_, _, _, rfl, cm102_84, elem_low_next_c h⟩
  · exact ⟨_, _, _, rfl, cm103_85, elem_high_next_c h⟩

theorem elem_Spots_c {z : Option Nat} {profile : Int} {data : List Int} {r : List Spot × Int} (h : elem_Spots z profile data = some r) :
    AC Try.prog 42 [.ro (.int .u16 profile), .ro (.list 1 (List.map e8 data))] (.tup [.own 0, .ro (.int .i64 r.2)]) [(0, .arr 75 3 (List.map cells_Spot r.1))] := by
  refine AC.of Try.func42 rfl rfl fun w M0 hM => ?_
  unfold elem_Spots at h
  refine .sq ?_
  refine .rg (anm cells_Spot 4 75 3 rfl rfl <| u (asg (.i rfl)) <| .nil _) rfl ?_
  refine .sq ?_
  refine .rg (u (mv (.t rfl)) <| cl [] cf52 (elem_walk_c profile) (.c (.t rfl) <| .n) (.inl rfl) <| u (asg (.t rfl)) <| .nil _) rfl ?_
  refine .sq ?_
  refine .sq ?_
  refine .rg (u (mv (.t rfl)) <| u (ifn if90 (.t rfl) (nil_I_elem_walker _) rfl rfl) <| .nil _) rfl ?_
  refine .bq h (.t rfl) (fun h => ?_) (fun h => ?_)
  · refine .sq ?_
    refine .rg (anm cells_Spot 100004 75 3 rfl rfl <| u (asg (.i rfl)) <| .nil _) rfl ?_
    obtain rfl := Option.some.inj h
    refine .ks (l := [(4, .own 0), (5, .ro (.int .i64 6))]) (o := [(0, some (.arr 75 3 (List.map cells_Spot [])))]) (fun i => bif Nat.beq i 0 then 100004 else i) ?_ (.c rfl (.c rfl .n)) (.c rfl .n) rfl
    exact .rt Try.func42 (.t rfl <| .t rfl <| .n) (.c rfl .n) rfl rfl
  · refine .skp ?_
    refine .sq ?_
    refine .rg (anm cells_Spot 7 75 3 rfl rfl <| .nil _) rfl ?_
    refine .sq ?_
    refine .sq ?_
    refine .rg (u (asg (.i rfl)) <| .nil _) rfl ?_
    refine .jq (t := some r) (fun (a : List Spot) => ⟨[(7, .own 7)], [(7, some (.arr 75 3 (List.map cells_Spot a)))]⟩) (fun (a : List Spot) => elem_Spots_j1 z a) ?_ (fun J1 => ?_)
    · intro v1 h
      replace h : elem_Spots_j1 z v1 = _ := h
      unfold elem_Spots_j1 at h
      refine .sq ?_
      refine .rg (u (mv (.t rfl)) <| u (asg (.t rfl)) <| u (asg (.i rfl)) <| .nil _) rfl ?_
      obtain rfl := Option.some.inj h
      refine .ks (l := [(4, .own 0), (5, .ro (.int .i64 0))]) (o := [(0, some (.arr 75 3 (List.map cells_Spot v1)))]) (fun i => bif Nat.beq i 0 then 7 else i) ?_ (.c rfl (.c rfl .n)) (.c rfl .n) rfl
      exact .rt Try.func42 (.t rfl <| .t rfl <| .n) (.c rfl .n) rfl rfl
    refine .bl ?_
    unfold elem_Spots_l2 at h
    refine .kq (.lo (fun (s : List Spot × Int) => ⟨[(1, .ro (.list 1 (List.map e8 data))), (6, .ro (enc_I_elem_walker (elem_walk profile))), (7, .own 7), (8, .ro (.int .i64 s.2))], [(7, some (.arr 75 3 (List.map cells_Spot s.1)))]⟩) h ?_) (.c rfl (.c rfl (.c rfl (.c rfl .n)))) (.c rfl .n)
    rintro ⟨v2, v3⟩ u2 h ih2 hx2
    replace h : elem_Spots_s2 z profile data v2 v3 = _ := h
    unfold elem_Spots_s2 at h
    refine .sq ?_
    refine .sq ?_
    refine .rg (u (mv (.t rfl)) <| u (mv (.t rfl)) <| u (lnm sf32 (.t rfl)) <| u (bc (.t rfl) (.t rfl) rfl rfl) <| .nil _) rfl ?_
    refine .bq h (.t rfl) (fun h => ?_) (fun h => ?_)
    · refine .skp ?_
      refine .bl ?_
      refine .sq ?_
      refine .sq ?_
      refine be h fun x4 hx4 h => ?_
      refine .rg (u (mv (.t rfl)) <| u (mv (.t rfl)) <| u (ia sf32 (.t rfl) (.t rfl) (ix_map e8 hx4)) <| u (lr tf5 (.t rfl) rfl) <| u (bc (.t rfl) (.i rfl) rfl rfl) <| .nil _) rfl ?_
      refine .bq h (.t rfl) (fun h => ?_) (fun h => ?_)
      · refine .sq ?_
        refine .rg (u (mv (.t rfl)) <| u (bi (.t rfl) (.i rfl) rfl) <| u (asg (.t rfl)) <| .nil _) rfl ?_
        refine .xt rfl ?_
        exact .kq (.il (ih2 (v2, (ar .add .i64 v3 1)) (nxi h))) (.c rfl (.c rfl (.c rfl (.c rfl .n)))) (.c rfl .n)
      · refine .skp ?_
        refine .sq ?_
        refine be h fun x5 hx5 h => ?_
        refine .rg (u (mv (.t rfl)) <| u (mv (.t rfl)) <| u (mv (.t rfl)) <| cms [] (.t rfl) (I_elem_walker_next_c hx5) (.c (.t rfl) <| .c (.t rfl) <| .n) (.inl rfl) <| u (mv (.t rfl)) <| u (ex (.t rfl) rfl rfl) <| u (ex (.t rfl) rfl rfl) <| al 9 zf75 rfl <| st tf75 (.t rfl) rfl (.t rfl) rfl rfl rfl <| u (asg (.t rfl)) <| .nil _) rfl ?_
        refine .fb 9 rfl rfl ?_
        refine .sq ?_
        refine .sq ?_
        refine .rg (u (mv (.t rfl)) <| u (no (.t rfl)) <| .nil _) rfl ?_
        refine .bq h (.t rfl) (fun h => ?_) (fun h => ?_)
        · refine .xt rfl ?_
          replace h := mpR h hx2
          exact .kq (J1 v2 h) (.c rfl .n) (.c rfl .n)
        · refine .skp ?_
          refine .sq ?_
          refine .sq ?_
          refine .rg (u (fr ff75_1 (.t rfl) rfl) <| u (lr tf3 (.t rfl) rfl) <| u (mv (.t rfl)) <| u (lnm sf32 (.t rfl)) <| u (bc (.t rfl) (.t rfl) rfl rfl) <| u (mv (.t rfl)) <| gd rfl rfl (fun hB => fr ff75_2 (.t rfl) rfl) <| gd rfl rfl (fun hB => lr tf3 (.m rfl hB) rfl) <| gd rfl rfl (fun hB => mv (.t rfl)) <| gd rfl rfl (fun hB => lnm sf32 (.m rfl hB)) <| gd rfl rfl (fun hB => fr ff75_1 (.t rfl) rfl) <| gd rfl rfl (fun hB => lr tf3 (.m rfl hB) rfl) <| gd rfl rfl (fun hB => bi (.m rfl hB) (.m rfl hB) rfl) <| gd rfl rfl (fun hB => bc (.m rfl hB) (.m rfl hB) rfl rfl) <| u (pko (.t rfl) (.t rfl)) <| .nil _) rfl ?_
          refine .bq h (.t rfl) (fun h => ?_) (fun h => ?_)
          · refine .sq ?_
            refine .rg (anm cells_Spot 4 75 3 rfl rfl <| u (asg (.i rfl)) <| .nil _) rfl ?_
            replace h := mpR h hx2
            obtain rfl := Option.some.inj h
            refine .ks (l := [(4, .own 0), (5, .ro (.int .i64 4))]) (o := [(0, some (.arr 75 3 (List.map cells_Spot [])))]) (fun i => bif Nat.beq i 0 then 4 else i) ?_ (.c rfl (.c rfl .n)) (.c rfl .n) rfl
            exact .rt Try.func42 (.t rfl <| .t rfl <| .n) (.c rfl .n) rfl rfl
          · refine .skp ?_
            refine .sq ?_
            refine .sq ?_
            refine be h fun x6 hx6 h => ?_
            refine .rg (u (mv (.t rfl)) <| u (mfn (.c (.t rfl) <| .n)) <| cl [] cf53 (slices_ContainsFunc_Spot_c cf54 (fun y0 q h => by obtain rfl := Option.some.inj h; exact elem_Spots_1_c y0 x5.1) hx6) (.b (.t rfl) rfl <| .c (.t rfl) <| .n) (.inr rfl) <| .nil _) rfl ?_
            refine .bq h (.t rfl) (fun h => ?_) (fun h => ?_)
            · refine .sq ?_
              refine .rg (anm cells_Spot 4 75 3 rfl rfl <| u (asg (.i rfl)) <| .nil _) rfl ?_
              replace h := mpR h hx2
              obtain rfl := Option.some.inj h
              refine .ks (l := [(4, .own 0), (5, .ro (.int .i64 6))]) (o := [(0, some (.arr 75 3 (List.map cells_Spot [])))]) (fun i => bif Nat.beq i 0 then 4 else i) ?_ (.c rfl (.c rfl .n)) (.c rfl .n) rfl
              exact .rt Try.func42 (.t rfl <| .t rfl <| .n) (.c rfl .n) rfl rfl
            · refine .skp ?_
              refine be h fun x7 hx7 h => ?_
              refine .rd mixed (u (mv (.t rfl)) <| u (lr tf75 (.t rfl) rfl) <| bs (F := cells_Spot) (l := [x5.1]) 55 pf71 (.c (.t rfl) rfl <| .n) rfl (fun _ _ => rfl) rfl rfl <| apo 56 pf71 (.t rfl) rfl (.t rfl) rfl hx7 rfl <| u (fr ff75_1 (.t rfl) rfl) <| u (lr tf3 (.t rfl) rfl) <| u (fr ff75_2 (.t rfl) rfl) <| u (lr tf3 (.t rfl) rfl) <| u (bi (.t rfl) (.t rfl) rfl) <| u (asg (.t rfl)) <| u (asg (.t rfl)) <| .nil _) (by kernel_rfl) rfl ?_
              refine .ib ?_
              exact .ks (fun i => bif Nat.beq i 7 then 56 else i) (.il (ih2 (x7, (ar .add .i64 x5.1.at_ x5.1.size)) (nxi h))) (.c rfl (.c rfl (.c rfl (.c rfl .n)))) (.c rfl .n) rfl
    · refine .xt rfl ?_
      replace h := mpR h hx2
      exact .kq (J1 v2 h) (.c rfl .n) (.c rfl .n)

theorem elem_Spots_r {z : Option Nat} {profile : Int} {data : List Int} {r : List Spot × Int} (h : elem_Spots z profile data = some r) :
    AC Try.prog 42 [.ro (.int .u16 profile), .ro (.list 1 (List.map e8 data))] (.ro (.tup [.list 3 (List.map cells_Spot r.1), .int .i64 r.2])) [] := AC.fz (elem_Spots_c h) rfl

theorem slices_Clone_c {l r : List Int} (h : slices_Clone l = some r) : AC Try.prog 41 [.ro (.list 1 (List.map e8 l))] (.own 0) [(0, .arr 5 1 (List.map e8 r))] := by
  unfold slices_Clone at h
  obtain rfl := app_nil h
  refine AC.of Try.func41 rfl rfl fun w M0 hM => ?_
  refine .sq ?_
  refine .rg (anm e8 0 5 1 rfl rfl <| .nil _) rfl ?_
  refine .sq ?_
  refine .sq ?_
  refine .nq rfl sf32 rfl rfl fun b hb => ?_
  refine .cd (.t rfl) (fun hh => ?_) (fun _ => ?_)
  · have hl := hb hh
    obtain rfl := List.map_eq_nil_iff.1 hl
    refine .sq ?_
    refine .rg (anm e8 10 5 1 rfl rfl <| .nil _) rfl ?_
    refine .ks (l := [(2, .own 0)]) (o := [(0, some (.arr 5 1 (List.map e8 [])))]) (fun i => bif Nat.beq i 0 then 10 else i) ?_ (.c rfl .n) (.c rfl .n) rfl
    exact .rt Try.func41 (.t rfl <| .n) (.c rfl .n) rfl rfl
  · refine .skp ?_
    refine .sq ?_
    refine .rg (bs (F := e8) (l := ([] : List Int)) 5 pf32 .n rfl (fun _ _ => rfl) rfl rfl <| u (mv (.t rfl)) <| ap 7 pf32 (.t rfl) rfl (.t rfl) h rfl <| u (asg (.t rfl)) <| .nil _) rfl ?_
    refine .ks (l := [(2, .own 0)]) (o := [(0, some (.arr 5 1 (List.map e8 l)))]) (fun i => bif Nat.beq i 0 then 7 else i) ?_ (.c rfl .n) (.c rfl .n) rfl
    exact .rt Try.func41 (.t rfl <| .n) (.c rfl .n) rfl rfl

theorem slices_Clone_r {l r : List Int} (h : slices_Clone l = some r) : AC Try.prog 41 [.ro (.list 1 (List.map e8 l))] (.ro (.list 1 (List.map e8 r))) [] := AC.fz (slices_Clone_c h) rfl

theorem elem_Read_c {z : Option Nat} {profile : Int} {data : List Int} {r : List Elem × Int} (h : elem_Read z profile data = some r) :
    AC Try.prog 22 [.ro (.int .u16 profile), .ro (.list 1 (List.map e8 data))] (.tup [.own 0, .ro (.int .i64 r.2)]) [(0, .arr 43 2 (List.map cells_Elem r.1))] := by
  refine AC.of Try.func22 rfl rfl fun w M0 hM => ?_
  unfold elem_Read at h
  refine .sq ?_
  refine .rg (anm cells_Elem 4 43 2 rfl rfl <| u (asg (.i rfl)) <| .nil _) rfl ?_
  refine .sq ?_
  refine be h fun x1 hx1 h => ?_
  refine .rg (u (mv (.t rfl)) <| u (mv (.t rfl)) <| cnf 15000 cf42 (elem_Spots_c hx1) (.c (.t rfl) <| .c (.t rfl) <| .n) rfl rfl rfl <| u (mv (.t rfl)) <| u (ex (.t rfl) rfl rfl) <| u (ex (.t rfl) rfl rfl) <| u (asg (.t rfl)) <| u (asg (.t rfl)) <| .nil _) rfl ?_
  refine .sq ?_
  refine .sq ?_
  refine .rg (u (mv (.t rfl)) <| u (bc (.t rfl) (.i rfl) rfl rfl) <| .nil _) rfl ?_
  refine .bq h (.t rfl) (fun h => ?_) (fun h => ?_)
  · refine .sq ?_
    refine .rg (u (mv (.t rfl)) <| anm cells_Elem 100004 43 2 rfl rfl <| u (asg (.t rfl)) <| .nil _) rfl ?_
    obtain rfl := Option.some.inj h
    refine .ks (l := [(4, .own 0), (5, .ro (.int .i64 x1.2))]) (o := [(0, some (.arr 43 2 (List.map cells_Elem [])))]) (fun i => bif Nat.beq i 0 then 100004 else i) ?_ (.c rfl (.c rfl .n)) (.c rfl .n) rfl
    exact .rt Try.func22 (.t rfl <| .t rfl <| .n) (.c rfl .n) rfl rfl
  · refine .skp ?_
    refine .sq ?_
    refine .rg (anm cells_Elem 8 43 2 rfl rfl <| .nil _) rfl ?_
    refine .sq ?_
    refine .sq ?_
    refine .rg (u (mv (.t rfl)) <| u (lom sf71 (.t rfl) rfl) <| u (mv (.i rfl)) <| .nil _) rfl ?_
    refine .bl ?_
    unfold elem_Read_l1 at h
    refine .kq (.lo (fun (s : List Elem × Int) => ⟨[(1, .ro (.list 1 (List.map e8 data))), (8, .own 8), (20, .own 15000), (21, .ro (.int .i64 (x1.1.length : Int))), (22, .ro (.int .i64 s.2))], [(8, some (.arr 43 2 (List.map cells_Elem s.1))), (15000, some (.arr 75 3 (List.map cells_Spot x1.1)))]⟩) h ?_) (.c rfl (.c rfl (.c rfl (.c rfl (.c rfl .n))))) (.c rfl (.c rfl .n))
    rintro ⟨v2, v3⟩ u1 h ih1 hx1
    replace h : elem_Read_s1 z data x1 v2 v3 = _ := h
    unfold elem_Read_s1 at h
    refine .sq ?_
    refine .rg (u (bc (.t rfl) (.t rfl) rfl rfl) <| .nil _) rfl ?_
    refine .sq ?_
    refine .bq h (.t rfl) (fun h => ?_) (fun h => ?_)
    · refine .skp ?_
      refine .sq ?_
      refine .bl ?_
      refine .sq ?_
      refine be h fun x4 hx4 h => ?_
      refine .rg (u (io sf71 (.t rfl) rfl (.t rfl) (ix_map cells_Spot hx4)) <| u (le tf75 (.t rfl) rfl (ix_lt (ix_map _ hx4)).2.2 rfl) <| al 10 zf75 rfl <| st tf75 (.t rfl) rfl (.t rfl) rfl rfl rfl <| .nil _) rfl ?_
      refine be h fun x5 hx5 h => ?_
      refine be h fun x6 hx6 h => ?_
      refine be h fun x7 hx7 h => ?_
      refine .rd mixed (u (mv (.t rfl)) <| u (fa ff75_0 (.t rfl)) <| u (ld tf3 (.t rfl) rfl rfl) <| u (mv (.t rfl)) <| u (fa ff75_1 (.t rfl)) <| u (ld tf3 (.t rfl) rfl rfl) <| u (fa ff75_1 (.t rfl)) <| u (ld tf3 (.t rfl) rfl rfl) <| u (fa ff75_2 (.t rfl)) <| u (ld tf3 (.t rfl) rfl rfl) <| u (bi (.t rfl) (.t rfl) rfl) <| u (sl sf32 (.t rfl) (.s (.t rfl)) (.s (.t rfl)) hx5) <| cl [] cf41 (slices_Clone_r hx6) (.c (.t rfl) <| .n) (.inl rfl) <| u (bd bf43 zf43 (.c rfl (.t rfl) rfl rfl rfl <| .c rfl (.t rfl) rfl rfl rfl <| .n) rfl) <| bs (F := cells_Elem) (l := [(Elem.mk x4.id_ x6)]) 40 pf25 (.c (.t rfl) rfl <| .n) rfl (fun _ _ => rfl) rfl rfl <| apo 41 pf25 (.t rfl) rfl (.t rfl) rfl hx7 rfl <| u (asg (.t rfl)) <| .nil _) (by kernel_rfl) rfl ?_
      refine .ib ?_
      refine .rg (u (bi (.t rfl) (.i rfl) rfl) <| u (mv (.t rfl)) <| .nil _) rfl ?_
      exact .ks (fun i => bif Nat.beq i 8 then 41 else i) (.il (ih1 (x7, (ar .add .i64 v3 1)) (nxi h))) (.c rfl (.c rfl (.c rfl (.c rfl (.c rfl .n))))) (.c rfl (.c rfl .n)) rfl
    · refine .xt rfl ?_
      replace h := mpR h hx1
      refine .sq ?_
      refine .rg (u (mv (.t rfl)) <| u (asg (.t rfl)) <| u (asg (.i rfl)) <| .nil _) rfl ?_
      obtain rfl := Option.some.inj h
      refine .ks (l := [(4, .own 0), (5, .ro (.int .i64 0))]) (o := [(0, some (.arr 43 2 (List.map cells_Elem v2)))]) (fun i => bif Nat.beq i 0 then 8 else i) ?_ (.c rfl (.c rfl .n)) (.c rfl .n) rfl
      exact .rt Try.func22 (.t rfl <| .t rfl <| .n) (.c rfl .n) rfl rfl

theorem elem_Read_r {z : Option Nat} {profile : Int} {data : List Int} {r : List Elem × Int} (h : elem_Read z profile data = some r) :
    AC Try.prog 22 [.ro (.int .u16 profile), .ro (.list 1 (List.map e8 data))] (.ro (.tup [.list 2 (List.map cells_Elem r.1), .int .i64 r.2])) [] := AC.fz (elem_Read_c h) rfl

theorem plan_elements_c {z : Option Nat} {k : Packet} {r : List Elem × Bool} (h : plan_elements z k = some r) :
    AC Try.prog 46 [.ro (enc_Packet k)] (.tup [.own 0, .ro (.bool r.2)]) [(0, .arr 43 2 (List.map cells_Elem r.1))] := by
  refine AC.of Try.func46 rfl rfl fun w M0 hM => ?_
  unfold plan_elements at h
  refine .sq ?_
  refine .rg (bx 1 (.t rfl) rfl rfl <| anm cells_Elem 2 43 2 rfl rfl <| u (asg .b) <| .nil _) rfl ?_
  refine .sq ?_
  refine .sq ?_
  refine .rg (u (fa ff34_0 (.t rfl)) <| u (fa ff31_1 (.t rfl)) <| u (ld tf4 (.t rfl) rfl rfl) <| u (no (.t rfl)) <| .nil _) rfl ?_
  refine .bq h (.t rfl) (fun h => ?_) (fun h => ?_)
  · refine .sq ?_
    refine .rg (anm cells_Elem 100002 43 2 rfl rfl <| u (asg .b) <| .nil _) rfl ?_
    obtain rfl := Option.some.inj h
    refine .ks (l := [(2, .own 0), (3, .ro (.bool true))]) (o := [(0, some (.arr 43 2 (List.map cells_Elem [])))]) (fun i => bif Nat.beq i 0 then 100002 else i) ?_ (.c rfl (.c rfl .n)) (.c rfl .n) rfl
    exact .rt Try.func46 (.t rfl <| .t rfl <| .n) (.c rfl .n) rfl rfl
  · refine .skp ?_
    refine .sq ?_
    refine be h fun x1 hx1 h => ?_
    refine .rg (u (fa ff34_1 (.t rfl)) <| u (ld tf22 (.t rfl) rfl rfl) <| u (fa ff34_2 (.t rfl)) <| u (ld tf32 (.t rfl) rfl rfl) <| cnf 16000 cf22 (elem_Read_c hx1) (.c (.t rfl) <| .c (.t rfl) <| .n) rfl rfl rfl <| u (mv (.t rfl)) <| u (ex (.t rfl) rfl rfl) <| u (ex (.t rfl) rfl rfl) <| u (asg (.t rfl)) <| u (asg (.t rfl)) <| .nil _) rfl ?_
    refine .sq ?_
    refine .rg (u (mv (.t rfl)) <| u (mv (.t rfl)) <| u (bc (.t rfl) (.i rfl) rfl rfl) <| u (asg (.t rfl)) <| u (asg (.t rfl)) <| .nil _) rfl ?_
    obtain rfl := Option.some.inj h
    refine .ks (l := [(2, .own 0), (3, .ro (.bool (cm .eql x1.2 0)))]) (o := [(0, some (.arr 43 2 (List.map cells_Elem x1.1)))]) (fun i => bif Nat.beq i 0 then 16000 else i) ?_ (.c rfl (.c rfl .n)) (.c rfl .n) rfl
    exact .rt Try.func46 (.t rfl <| .t rfl <| .n) (.c rfl .n) rfl rfl

theorem plan_elements_r {z : Option Nat} {k : Packet} {r : List Elem × Bool} (h : plan_elements z k = some r) :
    AC Try.prog 46 [.ro (enc_Packet k)] (.ro (.tup [.list 2 (List.map cells_Elem r.1), .bool r.2])) [] := AC.fz (plan_elements_c h) rfl

theorem slices_Grow_c {n : Int} (hn : growL n = some ()) : AC Try.prog 61 [.ro (.raw (.slice none 0 0)), .ro (.int .i64 n)] (.own 0) [(0, .arr 3 1 (([] : List Int).map (ei .i64)))] := by
  obtain ⟨i, z, hi, hz, hsz, hzs, hpos, hby⟩ := pf26.i
  refine AC.grow (fun n w h1 h2 => ?_) (fun w => slices_Grow_nil w) hn
  refine (slices_Grow_new n w h1 h2 i z hi hz (by omega) hby).mono fun e w' hp => ?_
  obtain ⟨rfl, rfl⟩ := hp
  have hG : n ≤ grownCap w n 0 3 := grownCap_ge w _ _ _
  refine ⟨_, _, rfl, ?_, grownCap_le_maxLen w n 0 3 (by unfold maxLen; omega), rfl⟩
  simp only [Array.size_append, size_zeroCells, hzs]
  have h0 : (#[] : Array Value).size = 0 := rfl
  omega

theorem slices_Concat_int_c {z : Option Nat} {slices : List (List Int)} {r : List Int} (h : slices_Concat_int z slices = some r) :
    AC Try.prog 55 [.ro (.list 1 (List.map (el 1 (ei .i64)) slices))] (.own 0) [(0, .arr 3 1 (List.map (ei .i64) r))] := by
  refine AC.of Try.func55 rfl rfl fun w M0 hM => ?_
  unfold slices_Concat_int at h
  refine .sq ?_
  refine .rg (anm (ei .i64) 2 3 1 rfl rfl <| .nil _) rfl ?_
  refine .sq ?_
  refine .rg (u (asg (.i rfl)) <| .nil _) rfl ?_
  refine .sq ?_
  refine .sq ?_
  refine .rg (u (mv (.t rfl)) <| u (lnm sf105 (.t rfl)) <| u (mv (.i rfl)) <| .nil _) rfl ?_
  refine .bl ?_
  unfold slices_Concat_int_l1 at h
  refine .kq (.lo (fun (s : Int × Int) => ⟨[(0, .ro (.list 1 (List.map (el 1 (ei .i64)) slices))), (3, .ro (.int .i64 s.1)), (9, .ro (.list 1 (List.map (el 1 (ei .i64)) slices))), (10, .ro (.int .i64 (slices.length : Int))), (11, .ro (.int .i64 s.2))], []⟩) h ?_) (.c rfl (.c rfl (.c rfl (.c rfl (.c rfl .n))))) .n
  rintro ⟨v1, v2⟩ u1 h ih1 hx1
  replace h : slices_Concat_int_s1 z slices v1 v2 = _ := h
  unfold slices_Concat_int_s1 at h
  refine .sq ?_
  refine .rg (u (bc (.t rfl) (.t rfl) rfl rfl) <| .nil _) rfl ?_
  refine .sq ?_
  refine .bq h (.t rfl) (fun h => ?_) (fun h => ?_)
  · refine .skp ?_
    refine .sq ?_
    refine .bl ?_
    refine .sq ?_
    refine be h fun x3 hx3 h => ?_
    refine .rg (u (ia sf105 (.t rfl) (.t rfl) (ix_map (el 1 (ei .i64)) hx3)) <| u (lr tf26 (.t rfl) rfl) <| u (asg (.t rfl)) <| .nil _) rfl ?_
    refine .sq ?_
    refine .rg (u (mv (.t rfl)) <| u (mv (.t rfl)) <| u (lnm sf26 (.t rfl)) <| u (bi (.t rfl) (.t rfl) rfl) <| u (asg (.t rfl)) <| .nil _) rfl ?_
    refine .sq ?_
    refine .rg (u (mv (.t rfl)) <| u (bc (.t rfl) (.i rfl) rfl rfl) <| .nil _) rfl ?_
    refine .jq (t := some u1) (fun (a : Unit) => ⟨[(0, .ro (.list 1 (List.map (el 1 (ei .i64)) slices))), (3, .ro (.int .i64 (ar .add .i64 v1 (x3.length : Int)))), (9, .ro (.list 1 (List.map (el 1 (ei .i64)) slices))), (10, .ro (.int .i64 (slices.length : Int))), (11, .ro (.int .i64 v2))], []⟩) (fun (a : Unit) => slices_Concat_int_j2 z v1 v2 x3) ?_ (fun J2 => ?_)
    · intro _ h
      replace h : slices_Concat_int_j2 z v1 v2 x3 = _ := h
      unfold slices_Concat_int_j2 at h
      refine .ib ?_
      refine .rg (u (bi (.t rfl) (.i rfl) rfl) <| u (mv (.t rfl)) <| .nil _) rfl ?_
      exact .kq (.il (ih1 ((ar .add .i64 v1 (x3.length : Int)), (ar .add .i64 v2 1)) (nxi h))) (.c rfl (.c rfl (.c rfl (.c rfl (.c rfl .n))))) .n
    refine .bq h (.t rfl) (fun h => ?_) (fun h => ?_)
    · cases h
    · refine .skp ?_
      exact .kq (J2 () h) (.c rfl (.c rfl (.c rfl (.c rfl (.c rfl .n))))) .n
  · refine .xt rfl ?_
    replace h := mpR h hx1
    refine .sq ?_
    refine be h fun x4 hx4 h => ?_
    refine .rg (u (mv (.t rfl)) <| cnl 24 cf61 (slices_Grow_c hx4) (.c (.r rfl) <| .c (.t rfl) <| .n) rfl <| u (asg (.t rfl)) <| .nil _) rfl ?_
    refine .sq ?_
    refine .sq ?_
    refine .rg (u (mv (.t rfl)) <| u (lnm sf105 (.t rfl)) <| u (mv (.i rfl)) <| .nil _) rfl ?_
    refine .bl ?_
    unfold slices_Concat_int_l3 at h
    refine .ks (fun i => bif Nat.beq i 6 then 24 else i) (.lo (fun (s : List Int × Int) => ⟨[(6, .own 6), (25, .ro (.list 1 (List.map (el 1 (ei .i64)) slices))), (26, .ro (.int .i64 (slices.length : Int))), (27, .ro (.int .i64 s.2))], [(6, some (.arr 3 1 (List.map (ei .i64) s.1)))]⟩) h ?_) (.c rfl (.c rfl (.c rfl (.c rfl .n)))) (.c rfl .n) rfl
    rintro ⟨v5, v6⟩ u3 h ih3 hx3
    replace h : slices_Concat_int_s3 z slices v5 v6 = _ := h
    unfold slices_Concat_int_s3 at h
    refine .sq ?_
    refine .rg (u (bc (.t rfl) (.t rfl) rfl rfl) <| .nil _) rfl ?_
    refine .sq ?_
    refine .bq h (.t rfl) (fun h => ?_) (fun h => ?_)
    · refine .skp ?_
      refine .sq ?_
      refine .bl ?_
      refine .sq ?_
      refine be h fun x7 hx7 h => ?_
      refine .rg (u (ia sf105 (.t rfl) (.t rfl) (ix_map (el 1 (ei .i64)) hx7)) <| u (lr tf26 (.t rfl) rfl) <| u (asg (.t rfl)) <| .nil _) rfl ?_
      refine be h fun x8 hx8 h => ?_
      refine .rg (u (mv (.t rfl)) <| u (mv (.t rfl)) <| ap 33 pf26 (.t rfl) rfl (.t rfl) hx8 rfl <| u (asg (.t rfl)) <| .nil _) rfl ?_
      refine .ib ?_
      refine .rg (u (bi (.t rfl) (.i rfl) rfl) <| u (mv (.t rfl)) <| .nil _) rfl ?_
      exact .ks (fun i => bif Nat.beq i 6 then 33 else i) (.il (ih3 (x8, (ar .add .i64 v6 1)) (nxi h))) (.c rfl (.c rfl (.c rfl (.c rfl .n)))) (.c rfl .n) rfl
    · refine .xt rfl ?_
      replace h := mpR h hx3
      refine .sq ?_
      refine .rg (u (mv (.t rfl)) <| u (asg (.t rfl)) <| .nil _) rfl ?_
      obtain rfl := Option.some.inj h
      refine .ks (l := [(2, .own 0)]) (o := [(0, some (.arr 3 1 (List.map (ei .i64) v5)))]) (fun i => bif Nat.beq i 0 then 6 else i) ?_ (.c rfl .n) (.c rfl .n) rfl
      exact .rt Try.func55 (.t rfl <| .n) (.c rfl .n) rfl rfl

theorem slices_Concat_int_r {z : Option Nat} {slices : List (List Int)} {r : List Int} (h : slices_Concat_int z slices = some r) :
    AC Try.prog 55 [.ro (.list 1 (List.map (el 1 (ei .i64)) slices))] (.ro (.list 1 (List.map (ei .i64) r))) [] := AC.fz (slices_Concat_int_c h) rfl

theorem plan_known_c {z : Option Nat} {p : Plan} {l : List Elem} {r : Bool} (h : plan_known z p l = some r) :
    AC Try.prog 47 [.ro (enc_Plan p), .ro (.list 2 (List.map cells_Elem l))] (.ro (.bool r)) [] := by
  refine AC.of Try.func47 rfl rfl fun w M0 hM => ?_
  unfold plan_known at h
  refine .sq ?_
  refine .rg (bx 2 (.t rfl) rfl rfl <| u (asg .b) <| .nil _) rfl ?_
  refine .sq ?_
  refine be h fun x1 hx1 h => ?_
  refine .rg (u (mv (.t rfl)) <| cnf 10000 cf29 (plan_ids_Elem_f0_c hx1) (.c (.t rfl) <| .c .f <| .n) rfl rfl rfl <| u (asg (.t rfl)) <| .nil _) rfl ?_
  refine .sq ?_
  refine .sq ?_
  refine be h fun x2 hx2 h => ?_
  refine be h fun x3 hx3 h => ?_
  refine be h fun x4 hx4 h => ?_
  refine .rd mixed (u (fa ff28_10 (.t rfl)) <| u (ld tf24 (.t rfl) rfl rfl) <| cl [] cf26 (plan_ids_Map_f0_r hx2) (.c (.t rfl) <| .c .f <| .n) (.inl rfl) <| u (fa ff28_11 (.t rfl)) <| u (ld tf25 (.t rfl) rfl rfl) <| cl [] cf29 (plan_ids_Elem_f0_r hx3) (.c (.t rfl) <| .c .f <| .n) (.inl rfl) <| u (fa ff28_12 (.t rfl)) <| u (ld tf26 (.t rfl) rfl rfl) <| nu (bsn (F := (el 1 (ei .i64))) (l := [x2, x3, p.drops]) pf105 (.c (.t rfl) rfl <| .c (.t rfl) rfl <| .c (.t rfl) rfl <| .n) rfl (fun _ _ => rfl) rfl) <| cnf 20000 cf55 (slices_Concat_int_c hx4) (.c (.t rfl) <| .n) rfl rfl rfl <| u (lom sf26 (.t rfl) rfl) <| u (mv (.i rfl)) <| .nil _) (by kernel_rfl) rfl ?_
  refine .bl ?_
  unfold plan_known_l1 at h
  refine .kq (.lo (fun (s : Int) => ⟨[(5, .own 10000), (19, .own 20000), (20, .ro (.int .i64 (x4.length : Int))), (21, .ro (.int .i64 s))], [(10000, some (.arr 3 1 (List.map (ei .i64) x1))), (20000, some (.arr 3 1 (List.map (ei .i64) x4)))]⟩) h ?_) (.c rfl (.c rfl (.c rfl (.c rfl .n)))) (.c rfl (.c rfl .n))
  intro v5 u1 h ih1 hx1
  replace h : plan_known_s1 z x1 x4 v5 = _ := h
  unfold plan_known_s1 at h
  refine .sq ?_
  refine .rg (u (bc (.t rfl) (.t rfl) rfl rfl) <| .nil _) rfl ?_
  refine .sq ?_
  refine .bq h (.t rfl) (fun h => ?_) (fun h => ?_)
  · refine .skp ?_
    refine .sq ?_
    refine .bl ?_
    refine .sq ?_
    refine be h fun x6 hx6 h => ?_
    refine .rg (u (io sf26 (.t rfl) rfl (.t rfl) (ix_map (ei .i64) hx6)) <| u (le tf3 (.t rfl) rfl (ix_lt (ix_map _ hx6)).2.2 rfl) <| u (asg (.t rfl)) <| .nil _) rfl ?_
    refine .sq ?_
    refine be h fun x7 hx7 h => ?_
    refine .rg (u (mv (.t rfl)) <| u (mv (.t rfl)) <| cl [] cf33 (slices_Contains_c hx7) (.b (.t rfl) rfl <| .c (.t rfl) <| .n) (.inr rfl) <| u (no (.t rfl)) <| .nil _) rfl ?_
    refine .bq h (.t rfl) (fun h => ?_) (fun h => ?_)
    · refine .sq ?_
      refine .rg (u (asg .b) <| .nil _) rfl ?_
      replace h := mpR h hx1
      obtain rfl := Option.some.inj h
      exact .rt Try.func47 (.t rfl <| .n) .n rfl rfl
    · refine .skp ?_
      refine .ib ?_
      refine .rg (u (bi (.t rfl) (.i rfl) rfl) <| u (mv (.t rfl)) <| .nil _) rfl ?_
      exact .kq (.il (ih1 (ar .add .i64 v5 1) (nxi h))) (.c rfl (.c rfl (.c rfl (.c rfl .n)))) (.c rfl (.c rfl .n))
  · refine .xt rfl ?_
    replace h := mpR h hx1
    refine .sq ?_
    refine .rg (u (asg .b) <| .nil _) rfl ?_
    obtain rfl := Option.some.inj h
    exact .rt Try.func47 (.t rfl <| .n) .n rfl rfl

theorem plan_data_c {z : Option Nat} {p : Plan} {x : Elem} {r : List Int × Bool} (h : plan_data z p x = some r) :
    AC Try.prog 56 [.ro (enc_Plan p), .ro (enc_Elem x)] (.ro (.tup [.list 1 (List.map e8 r.1), .bool r.2])) [] := by
  refine AC.of Try.func56 rfl rfl fun w M0 hM => ?_
  unfold plan_data at h
  refine .sq ?_
  refine .rg (bx 2 (.t rfl) rfl rfl <| bx 3 (.t rfl) rfl rfl <| u (asg (.n (sz := 1) (F := e8))) <| u (asg .b) <| .nil _) rfl ?_
  refine .sq ?_
  refine .sq ?_
  refine .rg (u (fa ff28_11 (.t rfl)) <| u (ld tf25 (.t rfl) rfl rfl) <| u (lnm sf25 (.t rfl)) <| u (mv (.i rfl)) <| .nil _) rfl ?_
  refine .bl ?_
  unfold plan_data_l1 at h
  refine .kq (.lo (fun (s : Int) => ⟨[(3, .ptr 3 0), (9, .ro (.list 2 (List.map cells_Elem p.over))), (10, .ro (.int .i64 (p.over.length : Int))), (11, .ro (.int .i64 s))], [(3, some (.box [.ro (.int .i64 x.id_), .ro (.list 1 (List.map e8 x.data))]))]⟩) h ?_) (.c rfl (.c rfl (.c rfl (.c rfl .n)))) (.c rfl .n)
  intro v1 u1 h ih1 hx1
  replace h : plan_data_s1 z p x v1 = _ := h
  unfold plan_data_s1 at h
  refine .sq ?_
  refine .rg (u (bc (.t rfl) (.t rfl) rfl rfl) <| .nil _) rfl ?_
  refine .sq ?_
  refine .bq h (.t rfl) (fun h => ?_) (fun h => ?_)
  · refine .skp ?_
    refine .sq ?_
    refine .bl ?_
    refine .sq ?_
    refine be h fun x2 hx2 h => ?_
    refine .rg (u (ia sf25 (.t rfl) (.t rfl) (ix_map cells_Elem hx2)) <| u (lr tf43 (.t rfl) rfl) <| al 7 zf43 rfl <| st tf43 (.t rfl) rfl (.t rfl) rfl rfl rfl <| .nil _) rfl ?_
    refine .sq ?_
    refine .rg (u (fa ff43_0 (.t rfl)) <| u (ld tf3 (.t rfl) rfl rfl) <| u (fa ff43_0 (.t rfl)) <| u (ld tf3 (.t rfl) rfl rfl) <| u (bc (.t rfl) (.t rfl) rfl rfl) <| .nil _) rfl ?_
    refine .bq h (.t rfl) (fun h => ?_) (fun h => ?_)
    · refine .sq ?_
      refine .rd mixed (u (fa ff43_1 (.t rfl)) <| u (ld tf32 (.t rfl) rfl rfl) <| u (fa ff43_1 (.t rfl)) <| u (ld tf32 (.t rfl) rfl rfl) <| u (lnm sf32 (.t rfl)) <| u (fa ff43_1 (.t rfl)) <| u (ld tf32 (.t rfl) rfl rfl) <| u (lnm sf32 (.t rfl)) <| u (bc (.t rfl) (.t rfl) rfl rfl) <| u (asg (.t rfl)) <| u (asg (.t rfl)) <| .nil _) (by kernel_rfl) rfl ?_
      replace h := mpR h hx1
      obtain rfl := Option.some.inj h
      exact .rt Try.func56 (.t rfl <| .t rfl <| .n) .n rfl rfl
    · refine .skp ?_
      refine .ib ?_
      refine .rg (u (bi (.t rfl) (.i rfl) rfl) <| u (mv (.t rfl)) <| .nil _) rfl ?_
      exact .kq (.il (ih1 (ar .add .i64 v1 1) (nxi h))) (.c rfl (.c rfl (.c rfl (.c rfl .n)))) (.c rfl .n)
  · refine .xt rfl ?_
    replace h := mpR h hx1
    refine .sq ?_
    refine .rg (u (fa ff43_1 (.t rfl)) <| u (ld tf32 (.t rfl) rfl rfl) <| u (asg (.t rfl)) <| u (asg .b) <| .nil _) rfl ?_
    obtain rfl := Option.some.inj h
    exact .rt Try.func56 (.t rfl <| .t rfl <| .n) .n rfl rfl

theorem plan_renamed_c {z : Option Nat} {p : Plan} {id_ : Int} {r : Int} (h : plan_renamed z p id_ = some r) :
    AC Try.prog 57 [.ro (enc_Plan p), .ro (.int .i64 id_)] (.ro (.int .i64 r)) [] := by
  refine AC.of Try.func57 rfl rfl fun w M0 hM => ?_
  unfold plan_renamed at h
  refine .sq ?_
  refine .rg (bx 2 (.t rfl) rfl rfl <| u (asg (.i rfl)) <| .nil _) rfl ?_
  refine .sq ?_
  refine .sq ?_
  refine .rg (u (fa ff28_10 (.t rfl)) <| u (ld tf24 (.t rfl) rfl rfl) <| u (lnm sf24 (.t rfl)) <| u (mv (.i rfl)) <| .nil _) rfl ?_
  refine .bl ?_
  unfold plan_renamed_l1 at h
  refine .kq (.lo (fun (s : Int) => ⟨[(1, .ro (.int .i64 id_)), (8, .ro (.list 2 (List.map cells_GMap p.maps))), (9, .ro (.int .i64 (p.maps.length : Int))), (10, .ro (.int .i64 s))], []⟩) h ?_) (.c rfl (.c rfl (.c rfl (.c rfl .n)))) .n
  intro v1 u1 h ih1 hx1
  replace h : plan_renamed_s1 z p id_ v1 = _ := h
  unfold plan_renamed_s1 at h
  refine .sq ?_
  refine .rg (u (bc (.t rfl) (.t rfl) rfl rfl) <| .nil _) rfl ?_
  refine .sq ?_
  refine .bq h (.t rfl) (fun h => ?_) (fun h => ?_)
  · refine .skp ?_
    refine .sq ?_
    refine .bl ?_
    refine .sq ?_
    refine be h fun x2 hx2 h => ?_
    refine .rg (u (ia sf24 (.t rfl) (.t rfl) (ix_map cells_GMap hx2)) <| u (lr tf45 (.t rfl) rfl) <| al 6 zf45 rfl <| st tf45 (.t rfl) rfl (.t rfl) rfl rfl rfl <| .nil _) rfl ?_
    refine .sq ?_
    refine .rg (u (fa ff45_0 (.t rfl)) <| u (ld tf3 (.t rfl) rfl rfl) <| u (mv (.t rfl)) <| u (bc (.t rfl) (.t rfl) rfl rfl) <| .nil _) rfl ?_
    refine .bq h (.t rfl) (fun h => ?_) (fun h => ?_)
    · refine .sq ?_
      refine .rg (u (fa ff45_1 (.t rfl)) <| u (ld tf3 (.t rfl) rfl rfl) <| u (asg (.t rfl)) <| .nil _) rfl ?_
      replace h := mpR h hx1
      obtain rfl := Option.some.inj h
      exact .rt Try.func57 (.t rfl <| .n) .n rfl rfl
    · refine .skp ?_
      refine .ib ?_
      refine .rg (u (bi (.t rfl) (.i rfl) rfl) <| u (mv (.t rfl)) <| .nil _) rfl ?_
      exact .kq (.il (ih1 (ar .add .i64 v1 1) (nxi h))) (.c rfl (.c rfl (.c rfl (.c rfl .n)))) .n
  · refine .xt rfl ?_
    replace h := mpR h hx1
    refine .sq ?_
    refine .rg (u (mv (.t rfl)) <| u (asg (.t rfl)) <| .nil _) rfl ?_
    obtain rfl := Option.some.inj h
    exact .rt Try.func57 (.t rfl <| .n) .n rfl rfl

theorem plan_left_c {z : Option Nat} {p : Plan} {l : List Elem} {r : List Elem × Bool} (h : plan_left z p l = some r) :
    AC Try.prog 48 [.ro (enc_Plan p), .ro (.list 2 (List.map cells_Elem l))] (.ro (.tup [.list 2 (List.map cells_Elem r.1), .bool r.2])) [] := by
  refine AC.of Try.func48 rfl rfl fun w M0 hM => ?_
  unfold plan_left at h
  refine .sq ?_
  refine .rg (bx 2 (.t rfl) rfl rfl <| u (asg (.n (sz := 2) (F := cells_Elem))) <| u (asg .b) <| .nil _) rfl ?_
  refine .sq ?_
  refine .rg (anm cells_Elem 6 43 2 rfl rfl <| .nil _) rfl ?_
  refine .sq ?_
  refine .sq ?_
  refine .rg (u (mv (.t rfl)) <| u (lnm sf25 (.t rfl)) <| u (mv (.i rfl)) <| .nil _) rfl ?_
  refine .bl ?_
  unfold plan_left_l1 at h
  refine .kq (.lo (fun (s : List Elem × Int × Plan) => ⟨[(2, .ptr 2 0), (6, .own 6), (11, .ro (.list 2 (List.map cells_Elem l))), (12, .ro (.int .i64 (l.length : Int))), (13, .ro (.int .i64 s.2.1))], [(2, some (.box [.ro (.bool s.2.2.setMarker), .ro (.bool s.2.2.marker), .ro (.bool s.2.2.setType), .ro (.int .i64 s.2.2.type), .ro (.bool s.2.2.setSeq), .ro (.int .u16 s.2.2.seq), .ro (.bool s.2.2.setTime), .ro (.int .u32 s.2.2.time), .ro (.bool s.2.2.setSsrc), .ro (.int .u32 s.2.2.ssrc), .ro (.list 2 (List.map cells_GMap s.2.2.maps)), .ro (.list 2 (List.map cells_Elem s.2.2.over)), .ro (.list 1 (List.map (ei .i64) s.2.2.drops)), .ro (.list 2 (List.map cells_Elem s.2.2.adds)), .ro (.bool s.2.2.noPad)])), (6, some (.arr 43 2 (List.map cells_Elem s.1)))]⟩) h ?_) (.c rfl (.c rfl (.c rfl (.c rfl (.c rfl .n))))) (.c rfl (.c rfl .n))
  rintro ⟨v1, v2, v3⟩ u1 h ih1 hx1
  replace h : plan_left_s1 z l v1 v2 v3 = _ := h
  unfold plan_left_s1 at h
  refine .sq ?_
  refine .rg (u (bc (.t rfl) (.t rfl) rfl rfl) <| .nil _) rfl ?_
  refine .sq ?_
  refine .bq h (.t rfl) (fun h => ?_) (fun h => ?_)
  · refine .skp ?_
    refine .sq ?_
    refine .jq (t := some u1) (fun (a : List Elem × Plan) => ⟨[(2, .ptr 2 0), (6, .own 6), (11, .ro (.list 2 (List.map cells_Elem l))), (12, .ro (.int .i64 (l.length : Int))), (13, .ro (.int .i64 v2))], [(2, some (.box [.ro (.bool a.2.setMarker), .ro (.bool a.2.marker), .ro (.bool a.2.setType), .ro (.int .i64 a.2.type), .ro (.bool a.2.setSeq), .ro (.int .u16 a.2.seq), .ro (.bool a.2.setTime), .ro (.int .u32 a.2.time), .ro (.bool a.2.setSsrc), .ro (.int .u32 a.2.ssrc), .ro (.list 2 (List.map cells_GMap a.2.maps)), .ro (.list 2 (List.map cells_Elem a.2.over)), .ro (.list 1 (List.map (ei .i64) a.2.drops)), .ro (.list 2 (List.map cells_Elem a.2.adds)), .ro (.bool a.2.noPad)])), (6, some (.arr 43 2 (List.map cells_Elem a.1)))]⟩) (fun (a : List Elem × Plan) => plan_left_j2 z v2 a.1 a.2) ?_ (fun J2 => ?_)
    · rintro ⟨v4, v5⟩ h
      replace h : plan_left_j2 z v2 v4 v5 = _ := h
      unfold plan_left_j2 at h
      refine .rg (u (bi (.t rfl) (.i rfl) rfl) <| u (mv (.t rfl)) <| .nil _) rfl ?_
      exact .kq (.il (ih1 (v4, (ar .add .i64 v2 1), v5) (nxi h))) (.c rfl (.c rfl (.c rfl (.c rfl (.c rfl .n))))) (.c rfl (.c rfl .n))
    refine .bl ?_
    refine .sq ?_
    refine be h fun x6 hx6 h => ?_
    refine .rg (u (ia sf25 (.t rfl) (.t rfl) (ix_map cells_Elem hx6)) <| u (lr tf43 (.t rfl) rfl) <| al 8 zf43 rfl <| st tf43 (.t rfl) rfl (.t rfl) rfl rfl rfl <| .nil _) rfl ?_
    refine .sq ?_
    refine .sq ?_
    refine be h fun x7 hx7 h => ?_
    refine .rg (u (fa ff28_12 (.t rfl)) <| u (ld tf26 (.t rfl) rfl rfl) <| u (fa ff43_0 (.t rfl)) <| u (ld tf3 (.t rfl) rfl rfl) <| cl [] cf33 (slices_Contains_c hx7) (.c (.t rfl) <| .c (.t rfl) <| .n) (.inl rfl) <| .nil _) rfl ?_
    refine .bq h (.t rfl) (fun h => ?_) (fun h => ?_)
    · refine .xt rfl ?_
      exact .kq (J2 (v1, v3) h) (.c rfl (.c rfl (.c rfl (.c rfl (.c rfl .n))))) (.c rfl (.c rfl .n))
    · refine .skp ?_
      refine .sq ?_
      refine be h fun x8 hx8 h => ?_
      refine .rg (u (ld tf28 (.t rfl) rfl rfl) <| u (ld tf43 (.t rfl) rfl rfl) <| cl [] cf56 (plan_data_c hx8) (.c (.t rfl) <| .c (.t rfl) <| .n) (.inl rfl) <| u (mv (.t rfl)) <| u (ex (.t rfl) rfl rfl) <| u (ex (.t rfl) rfl rfl) <| u (asg (.t rfl)) <| u (asg (.t rfl)) <| .nil _) rfl ?_
      refine .sq ?_
      refine .sq ?_
      refine .rg (u (mv (.t rfl)) <| u (no (.t rfl)) <| .nil _) rfl ?_
      refine .bq h (.t rfl) (fun h => ?_) (fun h => ?_)
      · refine .sq ?_
        refine .rg (u (asg (.n (sz := 2) (F := cells_Elem))) <| u (asg .b) <| .nil _) rfl ?_
        replace h := mpR h hx1
        obtain rfl := Option.some.inj h
        exact .rt Try.func48 (.t rfl <| .t rfl <| .n) .n rfl rfl
      · refine .skp ?_
        refine be h fun x9 hx9 h => ?_
        refine be h fun x10 hx10 h => ?_
        refine .rg (u (mv (.t rfl)) <| u (ld tf28 (.t rfl) rfl rfl) <| u (fa ff43_0 (.t rfl)) <| u (ld tf3 (.t rfl) rfl rfl) <| cl [] cf57 (plan_renamed_c hx9) (.c (.t rfl) <| .c (.t rfl) <| .n) (.inl rfl) <| u (mv (.t rfl)) <| u (bd bf43 zf43 (.c rfl (.t rfl) rfl rfl rfl <| .c rfl (.t rfl) rfl rfl rfl <| .n) rfl) <| bs (F := cells_Elem) (l := [(Elem.mk x9 x8.1)]) 37 pf25 (.c (.t rfl) rfl <| .n) rfl (fun _ _ => rfl) rfl rfl <| apo 38 pf25 (.t rfl) rfl (.t rfl) rfl hx10 rfl <| u (asg (.t rfl)) <| .nil _) rfl ?_
        refine .ib ?_
        exact .ks (fun i => bif Nat.beq i 6 then 38 else i) (J2 (x10, v3) h) (.c rfl (.c rfl (.c rfl (.c rfl (.c rfl .n))))) (.c rfl (.c rfl .n)) rfl
  · refine .xt rfl ?_
    replace h := mpR h hx1
    refine .sq ?_
    refine be h fun x11 hx11 h => ?_
    refine .rg (u (mv (.t rfl)) <| u (fa ff28_13 (.t rfl)) <| u (ld tf25 (.t rfl) rfl rfl) <| ap 43 pf25 (.t rfl) rfl (.t rfl) hx11 rfl <| u (asg (.t rfl)) <| .nil _) rfl ?_
    refine .sq ?_
    refine .fz 43 rfl ?_
    refine be h fun x12 hx12 h => ?_
    refine be h fun x13 hx13 h => ?_
    refine .rg (u (mv (.t rfl)) <| u (mv (.t rfl)) <| cnf 47000 cf29 (plan_ids_Elem_f0_c hx12) (.c (.t rfl) <| .c .f <| .n) rfl rfl rfl <| cl [] cf25 (plan_apart_c hx13) (.b (.t rfl) rfl <| .n) (.inr rfl) <| u (asg (.t rfl)) <| u (asg (.t rfl)) <| .nil _) rfl ?_
    obtain rfl := Option.some.inj h
    exact .rt Try.func48 (.t rfl <| .t rfl <| .n) .n rfl rfl

theorem plan_data_y1_c {z : Option Nat} {p : Plan} {p_x0 : Int} {x1a : Int} {x1b : Int} {r : Option (List Int) × Bool} (h : plan_data_y1 z p p_x0 x1a x1b = some r) :
    AY Try.prog 56 [.ro (enc_Plan p), .agg [.ro (.int .i64 p_x0), .view 7000 1 (x1a : Int).toNat ((x1b : Int).toNat - (x1a : Int).toNat)]] [] [1] (match r.1 with | some l => .ro (.tup [.list 1 (List.map e8 l), .bool r.2]) | none => .tup [.view 7000 1 (x1a : Int).toNat ((x1b : Int).toNat - (x1a : Int).toNat), .ro (.bool r.2)]) [] [(1, .agg [.ro (.int .i64 p_x0), .view 7000 1 (x1a : Int).toNat ((x1b : Int).toNat - (x1a : Int).toNat)])] [] := by
  refine AY.of Try.func56 rfl rfl fun w X M0 hM pv => ?_
  refine .kq (l := [(0, .ro (enc_Plan p)), (1, .agg [.ro (.int .i64 p_x0), .view 7000 1 (x1a : Int).toNat ((x1b : Int).toNat - (x1a : Int).toNat)])]) (o := []) ?_ (.c rfl (.c rfl .n)) .n
  unfold plan_data_y1 at h
  refine .sq ?_
  refine .rg (bx 2 (.t rfl) rfl rfl <| bx 3 (.t rfl) rfl rfl <| u (asg (.n (sz := 1) (F := e8))) <| u (asg .b) <| .nil _) rfl ?_
  refine .sq ?_
  refine .sq ?_
  refine .rg (u (fa ff28_11 (.t rfl)) <| u (ld tf25 (.t rfl) rfl rfl) <| u (lnm sf25 (.t rfl)) <| u (mv (.i rfl)) <| .nil _) rfl ?_
  refine .bl ?_
  unfold plan_data_y1_l1 at h
  refine .kq (.lo (fun (s : Int) => ⟨[(1, .agg [.ro (.int .i64 p_x0), .view 7000 1 (x1a : Int).toNat ((x1b : Int).toNat - (x1a : Int).toNat)]), (3, .ptr 3 0), (9, .ro (.list 2 (List.map cells_Elem p.over))), (10, .ro (.int .i64 (p.over.length : Int))), (11, .ro (.int .i64 s))], [(3, some (.box [.ro (.int .i64 p_x0), .view 7000 1 (x1a : Int).toNat ((x1b : Int).toNat - (x1a : Int).toNat)]))]⟩) h ?_) (.c rfl (.c rfl (.c rfl (.c rfl (.c rfl .n))))) (.c rfl .n)
  intro v1 u1 h ih1 hx1
  replace h : plan_data_y1_s1 z p p_x0 x1a x1b v1 = _ := h
  unfold plan_data_y1_s1 at h
  refine .sq ?_
  refine .rg (u (bc (.t rfl) (.t rfl) rfl rfl) <| .nil _) rfl ?_
  refine .sq ?_
  refine .bq h (.t rfl) (fun h => ?_) (fun h => ?_)
  · refine .skp ?_
    refine .sq ?_
    refine .bl ?_
    refine .sq ?_
    refine be h fun x2 hx2 h => ?_
    refine .rg (u (ia sf25 (.t rfl) (.t rfl) (ix_map cells_Elem hx2)) <| u (lr tf43 (.t rfl) rfl) <| al 7 zf43 rfl <| st tf43 (.t rfl) rfl (.t rfl) rfl rfl rfl <| .nil _) rfl ?_
    refine .sq ?_
    refine .rg (u (fa ff43_0 (.t rfl)) <| u (ld tf3 (.t rfl) rfl rfl) <| u (fa ff43_0 (.t rfl)) <| u (ld tf3 (.t rfl) rfl rfl) <| u (bc (.t rfl) (.t rfl) rfl rfl) <| .nil _) rfl ?_
    refine .bq h (.t rfl) (fun h => ?_) (fun h => ?_)
    · refine .sq ?_
      refine .rd mixed (u (fa ff43_1 (.t rfl)) <| u (ld tf32 (.t rfl) rfl rfl) <| u (fa ff43_1 (.t rfl)) <| u (ld tf32 (.t rfl) rfl rfl) <| u (lnm sf32 (.t rfl)) <| u (fa ff43_1 (.t rfl)) <| u (ld tf32 (.t rfl) rfl rfl) <| u (lnv sf32 (.t rfl)) <| u (bc (.t rfl) (.t rfl) rfl rfl) <| u (asg (.t rfl)) <| u (asg (.t rfl)) <| .nil _) (by kernel_rfl) rfl ?_
      replace h := mpR h hx1
      obtain rfl := Option.some.inj h
      exact .rtx (o := []) Try.func56 (.t rfl <| .t rfl <| .n) .n rfl rfl (.c rfl .n) rfl
    · refine .skp ?_
      refine .ib ?_
      refine .rg (u (bi (.t rfl) (.i rfl) rfl) <| u (mv (.t rfl)) <| .nil _) rfl ?_
      exact .kq (.il (ih1 (ar .add .i64 v1 1) (nxi h))) (.c rfl (.c rfl (.c rfl (.c rfl (.c rfl .n))))) (.c rfl .n)
  · refine .xt rfl ?_
    replace h := mpR h hx1
    refine .sq ?_
    refine .rg (u (fa ff43_1 (.t rfl)) <| u (ld tf32 (.t rfl) rfl rfl) <| u (asg (.t rfl)) <| u (asg .b) <| .nil _) rfl ?_
    obtain rfl := Option.some.inj h
    exact .rtx (o := []) Try.func56 (.t rfl <| .t rfl <| .n) .n rfl rfl (.c rfl .n) rfl

theorem plan_inside_c {z : Option Nat} {p : Plan} {k : Packet} {r : List Int × Bool} (h : plan_inside z p k = some r) :
    AC Try.prog 49 [.ro (enc_Plan p), .ro (enc_Packet k)] (.tup [.own 0, .ro (.bool r.2)]) [(0, .arr 5 1 (List.map e8 r.1))] := by
  refine AC.of Try.func49 rfl rfl fun w M0 hM => ?_
  unfold plan_inside at h
  refine .sq ?_
  refine .rg (bx 2 (.t rfl) rfl rfl <| bx 3 (.t rfl) rfl rfl <| anm e8 4 5 1 rfl rfl <| u (asg .b) <| .nil _) rfl ?_
  refine .sq ?_
  refine be h fun x1 hx1 h => ?_
  refine .rg (u (fa ff34_1 (.t rfl)) <| u (ld tf22 (.t rfl) rfl rfl) <| u (fa ff34_2 (.t rfl)) <| u (ld tf32 (.t rfl) rfl rfl) <| cnf 20000 cf42 (elem_Spots_c hx1) (.c (.t rfl) <| .c (.t rfl) <| .n) rfl rfl rfl <| u (mv (.t rfl)) <| u (ex (.t rfl) rfl rfl) <| u (ex (.t rfl) rfl rfl) <| u (asg (.t rfl)) <| u (asg (.t rfl)) <| .nil _) rfl ?_
  refine .sq ?_
  refine be h fun x2 hx2 h => ?_
  refine .rg (u (fa ff34_2 (.t rfl)) <| u (ld tf32 (.t rfl) rfl rfl) <| cnl 24 cf41 (slices_Clone_c hx2) (.c (.t rfl) <| .n) rfl <| u (asg (.t rfl)) <| .nil _) rfl ?_
  refine .sq ?_
  refine .sq ?_
  refine .rg (u (mv (.t rfl)) <| u (lom sf71 (.t rfl) rfl) <| u (mv (.i rfl)) <| .nil _) rfl ?_
  refine .bl ?_
  unfold plan_inside_l1 at h
  refine .ks (fun i => bif Nat.beq i 8 then 24 else i) (.lo (fun (s : List Int × Int × Plan) => ⟨[(2, .ptr 2 0), (3, .ptr 3 0), (8, .own 8), (25, .own 20000), (26, .ro (.int .i64 (x1.1.length : Int))), (27, .ro (.int .i64 s.2.1))], [(2, some (.box [.ro (.bool s.2.2.setMarker), .ro (.bool s.2.2.marker), .ro (.bool s.2.2.setType), .ro (.int .i64 s.2.2.type), .ro (.bool s.2.2.setSeq), .ro (.int .u16 s.2.2.seq), .ro (.bool s.2.2.setTime), .ro (.int .u32 s.2.2.time), .ro (.bool s.2.2.setSsrc), .ro (.int .u32 s.2.2.ssrc), .ro (.list 2 (List.map cells_GMap s.2.2.maps)), .ro (.list 2 (List.map cells_Elem s.2.2.over)), .ro (.list 1 (List.map (ei .i64) s.2.2.drops)), .ro (.list 2 (List.map cells_Elem s.2.2.adds)), .ro (.bool s.2.2.noPad)])), (3, some (.box [.ro (.bool k.head.hasPad), .ro (.bool k.head.hasExt), .ro (.bool k.head.marker), .ro (.int .i64 k.head.type), .ro (.int .u16 k.head.seq), .ro (.int .u32 k.head.time), .ro (.int .u32 k.head.ssrc), .ro (.list 1 (List.map (ei .u32) k.head.csrc)), .ro (.int .u16 k.profile), .ro (.list 1 (List.map e8 k.ext)), .ro (.list 1 (List.map e8 k.payload)), .ro (.int .i64 k.pad)])), (8, some (.arr 5 1 (List.map e8 s.1))), (20000, some (.arr 75 3 (List.map cells_Spot x1.1)))]⟩) h ?_) (.c rfl (.c rfl (.c rfl (.c rfl (.c rfl (.c rfl .n)))))) (.c rfl (.c rfl (.c rfl (.c rfl .n)))) rfl
  rintro ⟨v3, v4, v5⟩ u1 h ih1 hx1
  replace h : plan_inside_s1 z k x1 v3 v4 v5 = _ := h
  unfold plan_inside_s1 at h
  refine .sq ?_
  refine .rg (u (bc (.t rfl) (.t rfl) rfl rfl) <| .nil _) rfl ?_
  refine .sq ?_
  refine .bq h (.t rfl) (fun h => ?_) (fun h => ?_)
  · refine .skp ?_
    refine .sq ?_
    refine .bl ?_
    refine .sq ?_
    refine be h fun x6 hx6 h => ?_
    refine .rg (u (io sf71 (.t rfl) rfl (.t rfl) (ix_map cells_Spot hx6)) <| u (le tf75 (.t rfl) rfl (ix_lt (ix_map _ hx6)).2.2 rfl) <| al 10 zf75 rfl <| st tf75 (.t rfl) rfl (.t rfl) rfl rfl rfl <| .nil _) rfl ?_
    refine .sq ?_
    refine be h fun x7 hx7 h => ?_
    refine .rg (u (ld tf28 (.t rfl) rfl rfl) <| u (fa ff75_0 (.t rfl)) <| u (ld tf3 (.t rfl) rfl rfl) <| cl [] cf57 (plan_renamed_c hx7) (.c (.t rfl) <| .c (.t rfl) <| .n) (.inl rfl) <| u (asg (.t rfl)) <| .nil _) rfl ?_
    refine .sq ?_
    refine .sq ?_
    refine .rg (u (fa ff34_1 (.t rfl)) <| u (ld tf22 (.t rfl) rfl rfl) <| u (bc (.t rfl) (.i rfl) rfl rfl) <| .nil _) rfl ?_
    refine .jq (t := some u1) (fun (a : List Int) => ⟨[(2, .ptr 2 0), (3, .ptr 3 0), (8, .own 8), (10, .ptr 10 0), (25, .own 20000), (26, .ro (.int .i64 (x1.1.length : Int))), (27, .ro (.int .i64 v4))], [(2, some (.box [.ro (.bool v5.setMarker), .ro (.bool v5.marker), .ro (.bool v5.setType), .ro (.int .i64 v5.type), .ro (.bool v5.setSeq), .ro (.int .u16 v5.seq), .ro (.bool v5.setTime), .ro (.int .u32 v5.time), .ro (.bool v5.setSsrc), .ro (.int .u32 v5.ssrc), .ro (.list 2 (List.map cells_GMap v5.maps)), .ro (.list 2 (List.map cells_Elem v5.over)), .ro (.list 1 (List.map (ei .i64) v5.drops)), .ro (.list 2 (List.map cells_Elem v5.adds)), .ro (.bool v5.noPad)])), (3, some (.box [.ro (.bool k.head.hasPad), .ro (.bool k.head.hasExt), .ro (.bool k.head.marker), .ro (.int .i64 k.head.type), .ro (.int .u16 k.head.seq), .ro (.int .u32 k.head.time), .ro (.int .u32 k.head.ssrc), .ro (.list 1 (List.map (ei .u32) k.head.csrc)), .ro (.int .u16 k.profile), .ro (.list 1 (List.map e8 k.ext)), .ro (.list 1 (List.map e8 k.payload)), .ro (.int .i64 k.pad)])), (8, some (.arr 5 1 (List.map e8 a))), (10, some (.box [.ro (.int .i64 x6.id_), .ro (.int .i64 x6.at_), .ro (.int .i64 x6.size)])), (20000, some (.arr 75 3 (List.map cells_Spot x1.1)))]⟩) (fun (a : List Int) => plan_inside_j2 z v4 v5 x6 a) ?_ (fun J2 => ?_)
    · intro v8 h
      replace h : plan_inside_j2 z v4 v5 x6 v8 = _ := h
      unfold plan_inside_j2 at h
      refine .sq ?_
      refine be h fun x9 hx9 h => ?_
      refine be h fun x10 hx10 h => ?_
      rcases x10 with ⟨_ | x10q, x10b⟩
      · dsimp only at h
        refine .rd mixed (u (ld tf28 (.t rfl) rfl rfl) <| u (fa ff75_0 (.t rfl)) <| u (ld tf3 (.t rfl) rfl rfl) <| u (mv (.t rfl)) <| u (fa ff75_1 (.t rfl)) <| u (ld tf3 (.t rfl) rfl rfl) <| u (fa ff75_1 (.t rfl)) <| u (ld tf3 (.t rfl) rfl rfl) <| u (fa ff75_2 (.t rfl)) <| u (ld tf3 (.t rfl) rfl rfl) <| u (bi (.t rfl) (.t rfl) rfl) <| u (slv (F := e8) sf32 (.t rfl) rfl (.s (.t rfl)) (.s (.t rfl)) hx9) <| u (bd bf43 zf43 (.c rfl (.t rfl) rfl rfl rfl <| .c rfl (.t rfl) rfl rfl rfl <| .n) rfl) <| clw (fun i => bif Nat.beq i 7000 then 8 else i) 1 1 cf56 (plan_data_y1_c hx10) (.c (.t rfl) <| .c (.t rfl) <| .n) rfl rfl rfl (.tup (.c .vw <| .c .ro <| .n)) <| u (mv (.t rfl)) <| u (ex (.t rfl) rfl rfl) <| u (ex (.t rfl) rfl rfl) <| u (asg (.t rfl)) <| u (asg (.t rfl)) <| .nil _) (by kernel_rfl) rfl ?_
        refine be h fun x11 hx11 h => ?_
        refine .rg (u (mv (.t rfl)) <| u (fa ff75_1 (.t rfl)) <| u (ld tf3 (.t rfl) rfl rfl) <| u (fa ff75_1 (.t rfl)) <| u (ld tf3 (.t rfl) rfl rfl) <| u (fa ff75_2 (.t rfl)) <| u (ld tf3 (.t rfl) rfl rfl) <| u (bi (.t rfl) (.t rfl) rfl) <| u (slv (F := e8) sf32 (.t rfl) rfl (.s (.t rfl)) (.s (.t rfl)) hx11) <| u (mv (.t rfl)) <| cpc (F := e8) (l := v8) (m := x9) (a := x6.at_) (b := (ar .add .i64 x6.at_ x6.size)) sf32 (.t rfl) (.inl rfl) (sub_bd hx11) rfl (.v (F := e8) (.t rfl) rfl hx9) <| .nil _) rfl ?_
        refine .ib ?_
        refine .rg (u (bi (.t rfl) (.i rfl) rfl) <| u (mv (.t rfl)) <| .nil _) rfl ?_
        exact .kq (.il (ih1 ((cpy v8 x6.at_ (ar .add .i64 x6.at_ x6.size) x9), (ar .add .i64 v4 1), v5) (nxi h))) (.c rfl (.c rfl (.c rfl (.c rfl (.c rfl (.c rfl .n)))))) (.c rfl (.c rfl (.c rfl (.c rfl .n))))
      · dsimp only at h
        refine .rd mixed (u (ld tf28 (.t rfl) rfl rfl) <| u (fa ff75_0 (.t rfl)) <| u (ld tf3 (.t rfl) rfl rfl) <| u (mv (.t rfl)) <| u (fa ff75_1 (.t rfl)) <| u (ld tf3 (.t rfl) rfl rfl) <| u (fa ff75_1 (.t rfl)) <| u (ld tf3 (.t rfl) rfl rfl) <| u (fa ff75_2 (.t rfl)) <| u (ld tf3 (.t rfl) rfl rfl) <| u (bi (.t rfl) (.t rfl) rfl) <| u (slv (F := e8) sf32 (.t rfl) rfl (.s (.t rfl)) (.s (.t rfl)) hx9) <| u (bd bf43 zf43 (.c rfl (.t rfl) rfl rfl rfl <| .c rfl (.t rfl) rfl rfl rfl <| .n) rfl) <| clw (fun i => bif Nat.beq i 7000 then 8 else i) 1 1 cf56 (plan_data_y1_c hx10) (.c (.t rfl) <| .c (.t rfl) <| .n) rfl rfl rfl .ro <| u (mv (.t rfl)) <| u (ex (.t rfl) rfl rfl) <| u (ex (.t rfl) rfl rfl) <| u (asg (.t rfl)) <| u (asg (.t rfl)) <| .nil _) (by kernel_rfl) rfl ?_
        refine be h fun x12 hx12 h => ?_
        refine .rg (u (mv (.t rfl)) <| u (fa ff75_1 (.t rfl)) <| u (ld tf3 (.t rfl) rfl rfl) <| u (fa ff75_1 (.t rfl)) <| u (ld tf3 (.t rfl) rfl rfl) <| u (fa ff75_2 (.t rfl)) <| u (ld tf3 (.t rfl) rfl rfl) <| u (bi (.t rfl) (.t rfl) rfl) <| u (slv (F := e8) sf32 (.t rfl) rfl (.s (.t rfl)) (.s (.t rfl)) hx12) <| u (mv (.t rfl)) <| cpc (F := e8) (l := v8) (m := x10q) (a := x6.at_) (b := (ar .add .i64 x6.at_ x6.size)) sf32 (.t rfl) (.inl rfl) (sub_bd hx12) rfl (.r (.t rfl)) <| .nil _) rfl ?_
        refine .ib ?_
        refine .rg (u (bi (.t rfl) (.i rfl) rfl) <| u (mv (.t rfl)) <| .nil _) rfl ?_
        exact .kq (.il (ih1 ((cpy v8 x6.at_ (ar .add .i64 x6.at_ x6.size) x10q), (ar .add .i64 v4 1), v5) (nxi h))) (.c rfl (.c rfl (.c rfl (.c rfl (.c rfl (.c rfl .n)))))) (.c rfl (.c rfl (.c rfl (.c rfl .n))))
    refine .bq h (.t rfl) (fun h => ?_) (fun h => ?_)
    · refine be h fun x13 hx13 h => ?_
      refine .rg (u (mv (.t rfl)) <| u (fa ff75_1 (.t rfl)) <| u (ld tf3 (.t rfl) rfl rfl) <| u (bi (.t rfl) (.i rfl) rfl) <| u (mv (.t rfl)) <| u (cv cv3_5 (.t rfl)) <| u (io sf32 (.t rfl) rfl (.t rfl) (ix_map e8 hx13)) <| se (q := (IntKind.u8.wrap x7)) tf5 (.t rfl) rfl (.t rfl) rfl rfl rfl (ixn hx13) <| .nil _) rfl ?_
      exact .kq (J2 (List.set v3 ((ar .sub .i64 x6.at_ 2) : Int).toNat (IntKind.u8.wrap x7)) h) (.c rfl (.c rfl (.c rfl (.c rfl (.c rfl (.c rfl (.c rfl .n))))))) (.c rfl (.c rfl (.c rfl (.c rfl (.c rfl .n)))))
    · refine .sq ?_
      refine .sq ?_
      refine .rg (u (mv (.t rfl)) <| u (bc (.t rfl) (.i rfl) rfl rfl) <| .nil _) rfl ?_
      refine .bq h (.t rfl) (fun h => ?_) (fun h => ?_)
      · refine .sq ?_
        refine .rg (anm e8 4 5 1 rfl rfl <| u (asg .b) <| .nil _) rfl ?_
        replace h := mpR h hx1
        obtain rfl := Option.some.inj h
        refine .ks (l := [(4, .own 0), (5, .ro (.bool false))]) (o := [(0, some (.arr 5 1 (List.map e8 [])))]) (fun i => bif Nat.beq i 0 then 4 else i) ?_ (.c rfl (.c rfl .n)) (.c rfl .n) rfl
        exact .rt Try.func49 (.t rfl <| .t rfl <| .n) (.c rfl .n) rfl rfl
      · refine .skp ?_
        refine be h fun x14 hx14 h => ?_
        refine be h fun x15 hx15 h => ?_
        refine .rd mixed (u (mv (.t rfl)) <| u (fa ff75_1 (.t rfl)) <| u (ld tf3 (.t rfl) rfl rfl) <| u (bi (.t rfl) (.i rfl) rfl) <| u (mv (.t rfl)) <| u (sh (.t rfl) (.i rfl) rfl (by decide)) <| u (cv cv3_5 (.t rfl)) <| u (mv (.t rfl)) <| u (fa ff75_1 (.t rfl)) <| u (ld tf3 (.t rfl) rfl rfl) <| u (bi (.t rfl) (.i rfl) rfl) <| u (io sf32 (.t rfl) rfl (.t rfl) (ix_map e8 hx14)) <| u (le tf5 (.t rfl) rfl (ix_lt (ix_map _ hx14)).2.2 rfl) <| u (bi (.t rfl) (.i rfl) rfl) <| u (bi (.t rfl) (.t rfl) rfl) <| u (io sf32 (.t rfl) rfl (.t rfl) (ix_map e8 hx15)) <| se (q := (ar .or .u8 (IntKind.u8.wrap (sf .shl .i64 x7 4)) (ar .and .u8 x14 15))) tf5 (.t rfl) rfl (.t rfl) rfl rfl rfl (ixn hx15) <| .nil _) (by kernel_rfl) rfl ?_
        exact .kq (J2 (List.set v3 ((ar .sub .i64 x6.at_ 1) : Int).toNat (ar .or .u8 (IntKind.u8.wrap (sf .shl .i64 x7 4)) (ar .and .u8 x14 15))) h) (.c rfl (.c rfl (.c rfl (.c rfl (.c rfl (.c rfl (.c rfl .n))))))) (.c rfl (.c rfl (.c rfl (.c rfl (.c rfl .n)))))
  · refine .xt rfl ?_
    replace h := mpR h hx1
    refine .sq ?_
    refine .rg (u (mv (.t rfl)) <| u (asg (.t rfl)) <| u (asg .b) <| .nil _) rfl ?_
    obtain rfl := Option.some.inj h
    refine .ks (l := [(4, .own 0), (5, .ro (.bool true))]) (o := [(0, some (.arr 5 1 (List.map e8 v3)))]) (fun i => bif Nat.beq i 0 then 8 else i) ?_ (.c rfl (.c rfl .n)) (.c rfl .n) rfl
    exact .rt Try.func49 (.t rfl <| .t rfl <| .n) (.c rfl .n) rfl rfl

theorem plan_inside_r {z : Option Nat} {p : Plan} {k : Packet} {r : List Int × Bool} (h : plan_inside z p k = some r) :
    AC Try.prog 49 [.ro (enc_Plan p), .ro (enc_Packet k)] (.ro (.tup [.list 1 (List.map e8 r.1), .bool r.2])) [] := AC.fz (plan_inside_c h) rfl

theorem elem_narrow_1_c (x : Elem) :
    AC Try.prog 65 [.ro (enc_Elem x)] (.ro (.bool (elem_narrow_1 x))) [] := by
  obtain ⟨r, h⟩ : ∃ r, elem_narrow_1 x = r := ⟨_, rfl⟩
  rw [h]
  refine AC.of Try.func65 rfl rfl fun w M0 hM => ?_
  unfold elem_narrow_1 at h
  refine .sq ?_
  refine .rg (bx 1 (.t rfl) rfl rfl <| u (asg .b) <| .nil _) rfl ?_
  refine .sq ?_
  refine .rg (u (fa ff43_0 (.t rfl)) <| u (ld tf3 (.t rfl) rfl rfl) <| u (bc (.t rfl) (.i rfl) rfl rfl) <| u (mv (.t rfl)) <| gd rfl rfl (fun hB => fa ff43_1 (.t rfl)) <| gd rfl rfl (fun hB => ld tf32 (.m rfl hB) rfl rfl) <| gd rfl rfl (fun hB => lnm sf32 (.m rfl hB)) <| gd rfl rfl (fun hB => bc (.m rfl hB) (.i rfl) rfl rfl) <| u (pko (.t rfl) (.t rfl)) <| u (mv (.t rfl)) <| gd rfl rfl (fun hB => fa ff43_1 (.t rfl)) <| gd rfl rfl (fun hB => ld tf32 (.m rfl hB) rfl rfl) <| gd rfl rfl (fun hB => lnm sf32 (.m rfl hB)) <| gd rfl rfl (fun hB => bc (.m rfl hB) (.i rfl) rfl rfl) <| u (pko (.t rfl) (.t rfl)) <| u (asg (.t rfl)) <| .nil _) rfl ?_
  subst h
  exact .rt Try.func65 (.t rfl <| .n) .n rfl rfl

theorem slices_IndexFunc_Elem_c {z : Option Nat} {p_s : List Elem} {f : (Elem → Option Bool)} {g_f : FuncId} {c_f : List V} (hF_f : CF Try.prog g_f) (h_f : ∀ (a0 : Elem) (q : Bool), f a0 = some q → AC Try.prog g_f ([.ro (enc_Elem a0)] ++ c_f) (.ro (.bool q)) []) {r : Int} (h : slices_IndexFunc_Elem z p_s f = some r) :
    AC Try.prog 68 [.ro (.list 2 (List.map cells_Elem p_s)), .fn (.func g_f) [] c_f] (.ro (.int .i64 r)) [] := by
  refine AC.of Try.func68 rfl rfl fun w M0 hM => ?_
  unfold slices_IndexFunc_Elem at h
  refine .sq ?_
  refine .rg (u (asg (.i rfl)) <| .nil _) rfl ?_
  refine .sq ?_
  refine .sq ?_
  refine .rg (u (mv (.t rfl)) <| u (lnm sf25 (.t rfl)) <| u (mv (.i rfl)) <| .nil _) rfl ?_
  refine .bl ?_
  unfold slices_IndexFunc_Elem_l1 at h
  refine .kq (.lo (fun (s : Int) => ⟨[(0, .ro (.list 2 (List.map cells_Elem p_s))), (1, .fn (.func g_f) [] c_f), (7, .ro (.int .i64 (p_s.length : Int))), (8, .ro (.int .i64 s))], []⟩) h ?_) (.c rfl (.c rfl (.c rfl (.c rfl .n)))) .n
  intro v1 u1 h ih1 hx1
  replace h : slices_IndexFunc_Elem_s1 z p_s f v1 = _ := h
  unfold slices_IndexFunc_Elem_s1 at h
  refine .sq ?_
  refine .rg (u (bc (.t rfl) (.t rfl) rfl rfl) <| .nil _) rfl ?_
  refine .sq ?_
  refine .bq h (.t rfl) (fun h => ?_) (fun h => ?_)
  · refine .skp ?_
    refine .sq ?_
    refine .bl ?_
    refine .sq ?_
    refine .rg (u (mv (.t rfl)) <| u (asg (.t rfl)) <| .nil _) rfl ?_
    refine .sq ?_
    refine be h fun x2 hx2 h => ?_
    refine be h fun x3 hx3 h => ?_
    refine .rg (u (mv (.t rfl)) <| u (mv (.t rfl)) <| u (mv (.t rfl)) <| u (ia sf25 (.t rfl) (.t rfl) (ix_map cells_Elem hx2)) <| u (lr tf43 (.t rfl) rfl) <| clv [] hF_f (.t rfl) (h_f _ _ hx3) (.c (.t rfl) <| .n) (.inl rfl) <| .nil _) rfl ?_
    refine .bq h (.t rfl) (fun h => ?_) (fun h => ?_)
    · refine .sq ?_
      refine .rg (u (mv (.t rfl)) <| u (asg (.t rfl)) <| .nil _) rfl ?_
      replace h := mpR h hx1
      obtain rfl := Option.some.inj h
      exact .rt Try.func68 (.t rfl <| .n) .n rfl rfl
    · refine .skp ?_
      refine .ib ?_
      refine .rg (u (bi (.t rfl) (.i rfl) rfl) <| u (mv (.t rfl)) <| .nil _) rfl ?_
      exact .kq (.il (ih1 (ar .add .i64 v1 1) (nxi h))) (.c rfl (.c rfl (.c rfl (.c rfl .n)))) .n
  · refine .xt rfl ?_
    replace h := mpR h hx1
    refine .sq ?_
    refine .rg (u (asg (.i rfl)) <| .nil _) rfl ?_
    obtain rfl := Option.some.inj h
    exact .rt Try.func68 (.t rfl <| .n) .n rfl rfl

theorem slices_ContainsFunc_Elem_c {z : Option Nat} {p_s : List Elem} {f : (Elem → Option Bool)} {g_f : FuncId} {c_f : List V} (hF_f : CF Try.prog g_f) (h_f : ∀ (a0 : Elem) (q : Bool), f a0 = some q → AC Try.prog g_f ([.ro (enc_Elem a0)] ++ c_f) (.ro (.bool q)) []) {r : Bool} (h : slices_ContainsFunc_Elem z p_s f = some r) :
    AC Try.prog 66 [.ro (.list 2 (List.map cells_Elem p_s)), .fn (.func g_f) [] c_f] (.ro (.bool r)) [] := by
  refine AC.of Try.func66 rfl rfl fun w M0 hM => ?_
  unfold slices_ContainsFunc_Elem at h
  refine .sq ?_
  refine .rg (u (asg .b) <| .nil _) rfl ?_
  refine .sq ?_
  refine be h fun x1 hx1 h => ?_
  refine .rg (u (mv (.t rfl)) <| u (mv (.t rfl)) <| cl [] cf68 (slices_IndexFunc_Elem_c hF_f h_f hx1) (.c (.t rfl) <| .c (.t rfl) <| .n) (.inl rfl) <| u (bc (.t rfl) (.i rfl) rfl rfl) <| u (asg (.t rfl)) <| .nil _) rfl ?_
  obtain rfl := Option.some.inj h
  exact .rt Try.func66 (.t rfl <| .n) .n rfl rfl

theorem elem_narrow_c {z : Option Nat} {l : List Elem} {r : Bool} (h : elem_narrow z l = some r) :
    AC Try.prog 62 [.ro (.list 2 (List.map cells_Elem l))] (.ro (.bool r)) [] := by
  refine AC.of Try.func62 rfl rfl fun w M0 hM => ?_
  unfold elem_narrow at h
  refine .sq ?_
  refine .rg (u (asg .b) <| .nil _) rfl ?_
  refine .sq ?_
  refine .rg (u (asg .f) <| .nil _) rfl ?_
  refine .sq ?_
  refine be h fun x1 hx1 h => ?_
  refine .rg (u (mv (.t rfl)) <| u (mv (.t rfl)) <| cl [] cf66 (slices_ContainsFunc_Elem_c cf65 (fun y0 q h => by obtain rfl := Option.some.inj h; exact elem_narrow_1_c y0) hx1) (.c (.t rfl) <| .c (.t rfl) <| .n) (.inl rfl) <| u (no (.t rfl)) <| u (asg (.t rfl)) <| .nil _) rfl ?_
  obtain rfl := Option.some.inj h
  exact .rt Try.func62 (.t rfl <| .n) .n rfl rfl

theorem elem_Profile_c {z : Option Nat} {l : List Elem} {r : Int} (h : elem_Profile z l = some r) :
    AC Try.prog 58 [.ro (.list 2 (List.map cells_Elem l))] (.ro (.int .u16 r)) [] := by
  refine AC.of Try.func58 rfl rfl fun w M0 hM => ?_
  unfold elem_Profile at h
  refine .sq ?_
  refine .rg (u (asg (.i rfl)) <| .nil _) rfl ?_
  refine .sq ?_
  refine .bl ?_
  refine .sq ?_
  refine be h fun x1 hx1 h => ?_
  refine .rg (u (mv (.t rfl)) <| cl [] cf12 (elem_Right_c hx1) (.c (.t rfl) <| .n) (.inl rfl) <| u (no (.t rfl)) <| u (asg (.t rfl)) <| .nil _) rfl ?_
  refine .bq h (.t rfl) (fun h => ?_) (fun h => ?_)
  · refine .sq ?_
    refine .rg (u (asg (.i rfl)) <| .nil _) rfl ?_
    obtain rfl := Option.some.inj h
    exact .rt Try.func58 (.t rfl <| .n) .n rfl rfl
  · refine .sq ?_
    refine be h fun x2 hx2 h => ?_
    refine .rg (u (mv (.t rfl)) <| cl [] cf62 (elem_narrow_c hx2) (.c (.t rfl) <| .n) (.inl rfl) <| u (asg (.t rfl)) <| .nil _) rfl ?_
    refine .bq h (.t rfl) (fun h => ?_) (fun h => ?_)
    · refine .sq ?_
      refine .rg (u (asg (.i rfl)) <| .nil _) rfl ?_
      obtain rfl := Option.some.inj h
      exact .rt Try.func58 (.t rfl <| .n) .n rfl rfl
    · refine .skp ?_
      refine .ib ?_
      refine .sq ?_
      refine .rg (u (asg (.i rfl)) <| .nil _) rfl ?_
      obtain rfl := Option.some.inj h
      exact .rt Try.func58 (.t rfl <| .n) .n rfl rfl

theorem pad_zeros_c {n : Int} {r : List Int} (h : pad_zeros n = some r) :
    AC Try.prog 64 [.ro (.int .i64 n)] (.own 0) [(0, .arr 5 1 (List.map e8 r))] := by
  refine AC.of Try.func64 rfl rfl fun w M0 hM => ?_
  unfold pad_zeros at h
  refine .sq ?_
  refine .rg (anm e8 2 5 1 rfl rfl <| .nil _) rfl ?_
  refine .sq ?_
  refine be h fun x1 hx1 h => ?_
  refine .rg (u (mv (.t rfl)) <| mks (F := e8) (z0 := 0) 4 pf32 zf5 (.t rfl) (.t rfl) hx1 rfl <| u (asg (.t rfl)) <| .nil _) rfl ?_
  obtain rfl := Option.some.inj h
  refine .ks (l := [(2, .own 0)]) (o := [(0, some (.arr 5 1 (List.map e8 x1)))]) (fun i => bif Nat.beq i 0 then 4 else i) ?_ (.c rfl .n) (.c rfl .n) rfl
  exact .rt Try.func64 (.t rfl <| .n) (.c rfl .n) rfl rfl

theorem pad_zeros_r {n : Int} {r : List Int} (h : pad_zeros n = some r) :
    AC Try.prog 64 [.ro (.int .i64 n)] (.ro (.list 1 (List.map e8 r))) [] := AC.fz (pad_zeros_c h) rfl

theorem slices_Grow2_c {n : Int} (hn : growL n = some ()) : AC Try.prog 67 [.ro (.raw (.slice none 0 0)), .ro (.int .i64 n)] (.own 0) [(0, .arr 5 1 (([] : List Int).map e8))] := by
  obtain ⟨i, z, hi, hz, hsz, hzs, hpos, hby⟩ := pf32.i
  refine AC.grow (fun n w h1 h2 => ?_) (fun w => slices_Grow2_nil w) hn
  refine (slices_Grow2_new n w h1 h2 i z hi hz (by omega) hby).mono fun e w' hp => ?_
  obtain ⟨rfl, rfl⟩ := hp
  have hG : n ≤ grownCap w n 0 5 := grownCap_ge w _ _ _
  refine ⟨_, _, rfl, ?_, grownCap_le_maxLen w n 0 5 (by unfold maxLen; omega), rfl⟩
  simp only [Array.size_append, size_zeroCells, hzs]
  have h0 : (#[] : Array Value).size = 0 := rfl
  omega

theorem slices_Concat_byte_c {z : Option Nat} {slices : List (List Int)} {r : List Int} (h : slices_Concat_byte z slices = some r) :
    AC Try.prog 63 [.ro (.list 1 (List.map (el 1 e8) slices))] (.own 0) [(0, .arr 5 1 (List.map e8 r))] := by
  refine AC.of Try.func63 rfl rfl fun w M0 hM => ?_
  unfold slices_Concat_byte at h
  refine .sq ?_
  refine .rg (anm e8 2 5 1 rfl rfl <| .nil _) rfl ?_
  refine .sq ?_
  refine .rg (u (asg (.i rfl)) <| .nil _) rfl ?_
  refine .sq ?_
  refine .sq ?_
  refine .rg (u (mv (.t rfl)) <| u (lnm sf111 (.t rfl)) <| u (mv (.i rfl)) <| .nil _) rfl ?_
  refine .bl ?_
  unfold slices_Concat_byte_l1 at h
  refine .kq (.lo (fun (s : Int × Int) => ⟨[(0, .ro (.list 1 (List.map (el 1 e8) slices))), (3, .ro (.int .i64 s.1)), (9, .ro (.list 1 (List.map (el 1 e8) slices))), (10, .ro (.int .i64 (slices.length : Int))), (11, .ro (.int .i64 s.2))], []⟩) h ?_) (.c rfl (.c rfl (.c rfl (.c rfl (.c rfl .n))))) .n
  rintro ⟨v1, v2⟩ u1 h ih1 hx1
  replace h : slices_Concat_byte_s1 z slices v1 v2 = _ := h
  unfold slices_Concat_byte_s1 at h
  refine .sq ?_
  refine .rg (u (bc (.t rfl) (.t rfl) rfl rfl) <| .nil _) rfl ?_
  refine .sq ?_
  refine .bq h (.t rfl) (fun h => ?_) (fun h => ?_)
  · refine .skp ?_
    refine .sq ?_
    refine .bl ?_
    refine .sq ?_
    refine be h fun x3 hx3 h => ?_
    refine .rg (u (ia sf111 (.t rfl) (.t rfl) (ix_map (el 1 e8) hx3)) <| u (lr tf32 (.t rfl) rfl) <| u (asg (.t rfl)) <| .nil _) rfl ?_
    refine .sq ?_
    refine .rg (u (mv (.t rfl)) <| u (mv (.t rfl)) <| u (lnm sf32 (.t rfl)) <| u (bi (.t rfl) (.t rfl) rfl) <| u (asg (.t rfl)) <| .nil _) rfl ?_
    refine .sq ?_
    refine .rg (u (mv (.t rfl)) <| u (bc (.t rfl) (.i rfl) rfl rfl) <| .nil _) rfl ?_
    refine .jq (t := some u1) (fun (a : Unit) => ⟨[(0, .ro (.list 1 (List.map (el 1 e8) slices))), (3, .ro (.int .i64 (ar .add .i64 v1 (x3.length : Int)))), (9, .ro (.list 1 (List.map (el 1 e8) slices))), (10, .ro (.int .i64 (slices.length : Int))), (11, .ro (.int .i64 v2))], []⟩) (fun (a : Unit) => slices_Concat_byte_j2 z v1 v2 x3) ?_ (fun J2 => ?_)
    · intro _ h
      replace h : slices_Concat_byte_j2 z v1 v2 x3 = _ := h
      unfold slices_Concat_byte_j2 at h
      refine .ib ?_
      refine .rg (u (bi (.t rfl) (.i rfl) rfl) <| u (mv (.t rfl)) <| .nil _) rfl ?_
      exact .kq (.il (ih1 ((ar .add .i64 v1 (x3.length : Int)), (ar .add .i64 v2 1)) (nxi h))) (.c rfl (.c rfl (.c rfl (.c rfl (.c rfl .n))))) .n
    refine .bq h (.t rfl) (fun h => ?_) (fun h => ?_)
    · cases h
    · refine .skp ?_
      exact .kq (J2 () h) (.c rfl (.c rfl (.c rfl (.c rfl (.c rfl .n))))) .n
  · refine .xt rfl ?_
    replace h := mpR h hx1
    refine .sq ?_
    refine be h fun x4 hx4 h => ?_
    refine .rg (u (mv (.t rfl)) <| cnl 24 cf67 (slices_Grow2_c hx4) (.c (.r rfl) <| .c (.t rfl) <| .n) rfl <| u (asg (.t rfl)) <| .nil _) rfl ?_
    refine .sq ?_
    refine .sq ?_
    refine .rg (u (mv (.t rfl)) <| u (lnm sf111 (.t rfl)) <| u (mv (.i rfl)) <| .nil _) rfl ?_
    refine .bl ?_
    unfold slices_Concat_byte_l3 at h
    refine .ks (fun i => bif Nat.beq i 6 then 24 else i) (.lo (fun (s : List Int × Int) => ⟨[(6, .own 6), (25, .ro (.list 1 (List.map (el 1 e8) slices))), (26, .ro (.int .i64 (slices.length : Int))), (27, .ro (.int .i64 s.2))], [(6, some (.arr 5 1 (List.map e8 s.1)))]⟩) h ?_) (.c rfl (.c rfl (.c rfl (.c rfl .n)))) (.c rfl .n) rfl
    rintro ⟨v5, v6⟩ u3 h ih3 hx3
    replace h : slices_Concat_byte_s3 z slices v5 v6 = _ := h
    unfold slices_Concat_byte_s3 at h
    refine .sq ?_
    refine .rg (u (bc (.t rfl) (.t rfl) rfl rfl) <| .nil _) rfl ?_
    refine .sq ?_
    refine .bq h (.t rfl) (fun h => ?_) (fun h => ?_)
    · refine .skp ?_
      refine .sq ?_
      refine .bl ?_
      refine .sq ?_
      refine be h fun x7 hx7 h => ?_
      refine .rg (u (ia sf111 (.t rfl) (.t rfl) (ix_map (el 1 e8) hx7)) <| u (lr tf32 (.t rfl) rfl) <| u (asg (.t rfl)) <| .nil _) rfl ?_
      refine be h fun x8 hx8 h => ?_
      refine .rg (u (mv (.t rfl)) <| u (mv (.t rfl)) <| ap 33 pf32 (.t rfl) rfl (.t rfl) hx8 rfl <| u (asg (.t rfl)) <| .nil _) rfl ?_
      refine .ib ?_
      refine .rg (u (bi (.t rfl) (.i rfl) rfl) <| u (mv (.t rfl)) <| .nil _) rfl ?_
      exact .ks (fun i => bif Nat.beq i 6 then 33 else i) (.il (ih3 (x8, (ar .add .i64 v6 1)) (nxi h))) (.c rfl (.c rfl (.c rfl (.c rfl .n)))) (.c rfl .n) rfl
    · refine .xt rfl ?_
      replace h := mpR h hx3
      refine .sq ?_
      refine .rg (u (mv (.t rfl)) <| u (asg (.t rfl)) <| .nil _) rfl ?_
      obtain rfl := Option.some.inj h
      refine .ks (l := [(2, .own 0)]) (o := [(0, some (.arr 5 1 (List.map e8 v5)))]) (fun i => bif Nat.beq i 0 then 6 else i) ?_ (.c rfl .n) (.c rfl .n) rfl
      exact .rt Try.func63 (.t rfl <| .n) (.c rfl .n) rfl rfl

theorem slices_Concat_byte_r {z : Option Nat} {slices : List (List Int)} {r : List Int} (h : slices_Concat_byte z slices = some r) :
    AC Try.prog 63 [.ro (.list 1 (List.map (el 1 e8) slices))] (.ro (.list 1 (List.map e8 r))) [] := AC.fz (slices_Concat_byte_c h) rfl

theorem pad_Fill_c {z : Option Nat} {b : List Int} {r : List Int} (h : pad_Fill z b = some r) :
    AC Try.prog 59 [.ro (.list 1 (List.map e8 b))] (.own 0) [(0, .arr 5 1 (List.map e8 r))] := by
  refine AC.of Try.func59 rfl rfl fun w M0 hM => ?_
  unfold pad_Fill at h
  refine .sq ?_
  refine .rg (anm e8 2 5 1 rfl rfl <| .nil _) rfl ?_
  refine .sq ?_
  refine be h fun x1 hx1 h => ?_
  refine be h fun x2 hx2 h => ?_
  refine .rg (u (mv (.t rfl)) <| u (mv (.t rfl)) <| u (lnm sf32 (.t rfl)) <| u (di (.t rfl) (.i rfl) rfl (by decide)) <| u (bi (.i rfl) (.t rfl) rfl) <| u (di (.t rfl) (.i rfl) rfl (by decide)) <| cl [] cf64 (pad_zeros_r hx1) (.c (.t rfl) <| .n) (.inl rfl) <| nu (bsn (F := (el 1 e8)) (l := [b, x1]) pf111 (.c (.t rfl) rfl <| .c (.t rfl) rfl <| .n) rfl (fun _ _ => rfl) rfl) <| cnf 12000 cf63 (slices_Concat_byte_c hx2) (.c (.t rfl) <| .n) rfl rfl rfl <| u (asg (.t rfl)) <| .nil _) rfl ?_
  obtain rfl := Option.some.inj h
  refine .ks (l := [(2, .own 0)]) (o := [(0, some (.arr 5 1 (List.map e8 x2)))]) (fun i => bif Nat.beq i 0 then 12000 else i) ?_ (.c rfl .n) (.c rfl .n) rfl
  exact .rt Try.func59 (.t rfl <| .n) (.c rfl .n) rfl rfl

theorem pad_Fill_r {z : Option Nat} {b : List Int} {r : List Int} (h : pad_Fill z b = some r) :
    AC Try.prog 59 [.ro (.list 1 (List.map e8 b))] (.ro (.list 1 (List.map e8 r))) [] := AC.fz (pad_Fill_c h) rfl

theorem elem_Write_c {z : Option Nat} {l : List Elem} {r : Int × List Int × Int} (h : elem_Write z l = some r) :
    AC Try.prog 50 [.ro (.list 2 (List.map cells_Elem l))] (.tup [.ro (.int .u16 r.1), .own 0, .ro (.int .i64 r.2.2)]) [(0, .arr 5 1 (List.map e8 r.2.1))] := by
  refine AC.of Try.func50 rfl rfl fun w M0 hM => ?_
  unfold elem_Write at h
  refine .sq ?_
  refine .rg (u (asg (.i rfl)) <| anm e8 3 5 1 rfl rfl <| u (asg (.i rfl)) <| .nil _) rfl ?_
  refine .sq ?_
  refine be h fun x1 hx1 h => ?_
  refine .rg (u (mv (.t rfl)) <| cl [] cf58 (elem_Profile_c hx1) (.c (.t rfl) <| .n) (.inl rfl) <| u (asg (.t rfl)) <| .nil _) rfl ?_
  refine .sq ?_
  refine .sq ?_
  refine .rg (u (mv (.t rfl)) <| u (bc (.t rfl) (.i rfl) rfl rfl) <| .nil _) rfl ?_
  refine .bq h (.t rfl) (fun h => ?_) (fun h => ?_)
  · refine .sq ?_
    refine .rg (u (asg (.i rfl)) <| anm e8 100003 5 1 rfl rfl <| u (asg (.i rfl)) <| .nil _) rfl ?_
    obtain rfl := Option.some.inj h
    refine .ks (l := [(2, .ro (.int .u16 0)), (3, .own 0), (4, .ro (.int .i64 1))]) (o := [(0, some (.arr 5 1 (List.map e8 [])))]) (fun i => bif Nat.beq i 0 then 100003 else i) ?_ (.c rfl (.c rfl (.c rfl .n))) (.c rfl .n) rfl
    exact .rt Try.func50 (.t rfl <| .t rfl <| .t rfl <| .n) (.c rfl .n) rfl rfl
  · refine .skp ?_
    refine .sq ?_
    refine .rg (anm e8 6 5 1 rfl rfl <| .nil _) rfl ?_
    refine .sq ?_
    refine .sq ?_
    refine .rg (u (mv (.t rfl)) <| u (lnm sf25 (.t rfl)) <| u (mv (.i rfl)) <| .nil _) rfl ?_
    refine .bl ?_
    unfold elem_Write_l1 at h
    refine .kq (.lo (fun (s : List Int × Int) => ⟨[(5, .ro (.int .u16 x1)), (6, .own 6), (13, .ro (.list 2 (List.map cells_Elem l))), (14, .ro (.int .i64 (l.length : Int))), (15, .ro (.int .i64 s.2))], [(6, some (.arr 5 1 (List.map e8 s.1)))]⟩) h ?_) (.c rfl (.c rfl (.c rfl (.c rfl (.c rfl .n))))) (.c rfl .n)
    rintro ⟨v2, v3⟩ u1 h ih1 hx1
    replace h : elem_Write_s1 z l x1 v2 v3 = _ := h
    unfold elem_Write_s1 at h
    refine .sq ?_
    refine .rg (u (bc (.t rfl) (.t rfl) rfl rfl) <| .nil _) rfl ?_
    refine .sq ?_
    refine .bq h (.t rfl) (fun h => ?_) (fun h => ?_)
    · refine .skp ?_
      refine .sq ?_
      refine .bl ?_
      refine .sq ?_
      refine be h fun x4 hx4 h => ?_
      refine .rg (u (ia sf25 (.t rfl) (.t rfl) (ix_map cells_Elem hx4)) <| u (lr tf43 (.t rfl) rfl) <| al 8 zf43 rfl <| st tf43 (.t rfl) rfl (.t rfl) rfl rfl rfl <| .nil _) rfl ?_
      refine .sq ?_
      refine .sq ?_
      refine .rg (u (mv (.t rfl)) <| u (bc (.t rfl) (.i rfl) rfl rfl) <| .nil _) rfl ?_
      refine .jq (t := some u1) (fun (a : List Int) => ⟨[(5, .ro (.int .u16 x1)), (6, .own 6), (8, .ptr 8 0), (13, .ro (.list 2 (List.map cells_Elem l))), (14, .ro (.int .i64 (l.length : Int))), (15, .ro (.int .i64 v3))], [(6, some (.arr 5 1 (List.map e8 a))), (8, some (.box [.ro (.int .i64 x4.id_), .ro (.list 1 (List.map e8 x4.data))]))]⟩) (fun (a : List Int) => elem_Write_j2 z v3 x4 a) ?_ (fun J2 => ?_)
      · intro v5 h
        replace h : elem_Write_j2 z v3 x4 v5 = _ := h
        unfold elem_Write_j2 at h
        refine be h fun x6 hx6 h => ?_
        refine .rg (u (mv (.t rfl)) <| u (fa ff43_1 (.t rfl)) <| u (ld tf32 (.t rfl) rfl rfl) <| ap 46 pf32 (.t rfl) rfl (.t rfl) hx6 rfl <| u (asg (.t rfl)) <| .nil _) rfl ?_
        refine .ib ?_
        refine .rg (u (bi (.t rfl) (.i rfl) rfl) <| u (mv (.t rfl)) <| .nil _) rfl ?_
        exact .ks (fun i => bif Nat.beq i 6 then 46 else i) (.il (ih1 (x6, (ar .add .i64 v3 1)) (nxi h))) (.c rfl (.c rfl (.c rfl (.c rfl (.c rfl .n))))) (.c rfl .n) rfl
      refine .bq h (.t rfl) (fun h => ?_) (fun h => ?_)
      · refine be h fun x7 hx7 h => ?_
        refine .rg (u (mv (.t rfl)) <| u (fa ff43_0 (.t rfl)) <| u (ld tf3 (.t rfl) rfl rfl) <| u (sh (.t rfl) (.i rfl) rfl (by decide)) <| u (fa ff43_1 (.t rfl)) <| u (ld tf32 (.t rfl) rfl rfl) <| u (lnm sf32 (.t rfl)) <| u (bi (.t rfl) (.i rfl) rfl) <| u (bi (.t rfl) (.t rfl) rfl) <| u (cv cv3_5 (.t rfl)) <| bs (F := e8) (l := [(IntKind.u8.wrap (ar .or .i64 (sf .shl .i64 x4.id_ 4) (ar .sub .i64 (x4.data.length : Int) 1)))]) 31 pf32 (.c (.t rfl) rfl <| .n) rfl (fun _ _ => rfl) rfl rfl <| apo 32 pf32 (.t rfl) rfl (.t rfl) rfl hx7 rfl <| u (asg (.t rfl)) <| .nil _) rfl ?_
        exact .ks (fun i => bif Nat.beq i 6 then 32 else i) (J2 x7 h) (.c rfl (.c rfl (.c rfl (.c rfl (.c rfl (.c rfl .n)))))) (.c rfl (.c rfl .n)) rfl
      · refine be h fun x8 hx8 h => ?_
        refine .rg (u (mv (.t rfl)) <| u (fa ff43_0 (.t rfl)) <| u (ld tf3 (.t rfl) rfl rfl) <| u (cv cv3_5 (.t rfl)) <| u (fa ff43_1 (.t rfl)) <| u (ld tf32 (.t rfl) rfl rfl) <| u (lnm sf32 (.t rfl)) <| u (cv cv3_5 (.t rfl)) <| bs (F := e8) (l := [(IntKind.u8.wrap x4.id_), (IntKind.u8.wrap (x4.data.length : Int))]) 41 pf32 (.c (.t rfl) rfl <| .c (.t rfl) rfl <| .n) rfl (fun _ _ => rfl) rfl rfl <| apo 42 pf32 (.t rfl) rfl (.t rfl) rfl hx8 rfl <| u (asg (.t rfl)) <| .nil _) rfl ?_
        exact .ks (fun i => bif Nat.beq i 6 then 42 else i) (J2 x8 h) (.c rfl (.c rfl (.c rfl (.c rfl (.c rfl (.c rfl .n)))))) (.c rfl (.c rfl .n)) rfl
    · refine .xt rfl ?_
      replace h := mpR h hx1
      refine .sq ?_
      refine .fz 6 rfl ?_
      refine be h fun x9 hx9 h => ?_
      refine .rg (u (mv (.t rfl)) <| u (mv (.t rfl)) <| cnf 51000 cf59 (pad_Fill_c hx9) (.c (.t rfl) <| .n) rfl rfl rfl <| u (asg (.t rfl)) <| u (asg (.t rfl)) <| u (asg (.i rfl)) <| .nil _) rfl ?_
      obtain rfl := Option.some.inj h
      refine .ks (l := [(2, .ro (.int .u16 x1)), (3, .own 0), (4, .ro (.int .i64 0))]) (o := [(0, some (.arr 5 1 (List.map e8 x9)))]) (fun i => bif Nat.beq i 0 then 51000 else i) ?_ (.c rfl (.c rfl (.c rfl .n))) (.c rfl .n) rfl
      exact .rt Try.func50 (.t rfl <| .t rfl <| .t rfl <| .n) (.c rfl .n) rfl rfl

theorem elem_Write_r {z : Option Nat} {l : List Elem} {r : Int × List Int × Int} (h : elem_Write z l = some r) :
    AC Try.prog 50 [.ro (.list 2 (List.map cells_Elem l))] (.ro (.tup [.int .u16 r.1, .list 1 (List.map e8 r.2.1), .int .i64 r.2.2])) [] := AC.fz (elem_Write_c h) rfl

theorem plan_extend_c {z : Option Nat} {p : Plan} {k : Packet} {r : Packet × Bool} (h : plan_extend z p k = some r) :
    AC Try.prog 34 [.ro (enc_Plan p), .ro (enc_Packet k)] (.ro (.tup [enc_Packet r.1, .bool r.2])) [] := by
  refine AC.of Try.func34 rfl rfl fun w M0 hM => ?_
  unfold plan_extend at h
  refine .sq ?_
  refine .rg (bx 2 (.t rfl) rfl rfl <| bx 3 (.t rfl) rfl rfl <| al 4 zf34 rfl <| u (asg .b) <| .nil _) rfl ?_
  refine .sq ?_
  refine be h fun x1 hx1 h => ?_
  refine .rg (u (ld tf34 (.t rfl) rfl rfl) <| cnf 11000 cf46 (plan_elements_c hx1) (.c (.t rfl) <| .n) rfl rfl rfl <| u (mv (.t rfl)) <| u (ex (.t rfl) rfl rfl) <| u (ex (.t rfl) rfl rfl) <| u (asg (.t rfl)) <| u (asg (.t rfl)) <| .nil _) rfl ?_
  refine .sq ?_
  refine .sq ?_
  refine be h fun x2 hx2 h => ?_
  refine .rg (u (mv (.t rfl)) <| u (no (.t rfl)) <| u (mv (.t rfl)) <| gd rfl rfl (fun hB => ld tf28 (.t rfl) rfl rfl) <| gd rfl rfl (fun hB => mv (.t rfl)) <| cg rfl rfl cf47 (fun hB => (plan_known_c (gTt hx2 (nt hB)))) (fun hB => .c (.m rfl hB) <| .b (.m rfl hB) rfl <| .n) (.inr rfl) <| gd rfl rfl (fun hB => no (.m rfl hB)) <| u (pko (.t rfl) (.t rfl)) <| .nil _) rfl ?_
  refine .bq h (.t rfl) (fun h => ?_) (fun h => ?_)
  · refine .sq ?_
    refine .rg (u (ld tf34 (.t rfl) rfl rfl) <| st tf34 (.t rfl) rfl (.t rfl) rfl rfl rfl <| u (asg .b) <| .nil _) rfl ?_
    obtain rfl := Option.some.inj h
    exact .rt Try.func34 (.c tf34 rfl rfl rfl <| .t rfl <| .n) .n rfl rfl
  · refine .skp ?_
    refine .sq ?_
    refine .fz 11000 rfl ?_
    refine be h fun x3 hx3 h => ?_
    refine .rg (u (ld tf28 (.t rfl) rfl rfl) <| u (mv (.t rfl)) <| cl [] cf48 (plan_left_c hx3) (.c (.t rfl) <| .c (.t rfl) <| .n) (.inl rfl) <| u (mv (.t rfl)) <| u (ex (.t rfl) rfl rfl) <| u (ex (.t rfl) rfl rfl) <| u (asg (.t rfl)) <| u (asg (.t rfl)) <| .nil _) rfl ?_
    refine .sq ?_
    refine .sq ?_
    refine .rg (u (mv (.t rfl)) <| u (no (.t rfl)) <| .nil _) rfl ?_
    refine .bq h (.t rfl) (fun h => ?_) (fun h => ?_)
    · refine .sq ?_
      refine .rg (u (ld tf34 (.t rfl) rfl rfl) <| st tf34 (.t rfl) rfl (.t rfl) rfl rfl rfl <| u (asg .b) <| .nil _) rfl ?_
      obtain rfl := Option.some.inj h
      exact .rt Try.func34 (.c tf34 rfl rfl rfl <| .t rfl <| .n) .n rfl rfl
    · refine .skp ?_
      refine .sq ?_
      refine .sq ?_
      refine .rg (u (ld tf28 (.t rfl) rfl rfl) <| cl [] cf21 (plan_turns_c p) (.c (.t rfl) <| .n) (.inl rfl) <| u (no (.t rfl)) <| .nil _) rfl ?_
      refine .bq h (.t rfl) (fun h => ?_) (fun h => ?_)
      · refine .sq ?_
        refine be h fun x4 hx4 h => ?_
        refine .rg (u (ld tf28 (.t rfl) rfl rfl) <| u (ld tf34 (.t rfl) rfl rfl) <| cnf 38000 cf49 (plan_inside_c hx4) (.c (.t rfl) <| .c (.t rfl) <| .n) rfl rfl rfl <| u (mv (.t rfl)) <| u (ex (.t rfl) rfl rfl) <| u (ex (.t rfl) rfl rfl) <| u (fa ff34_2 (.t rfl)) <| st tf32 (.t rfl) rfl (.t rfl) rfl rfl rfl <| u (asg (.t rfl)) <| .nil _) rfl ?_
        refine .sq ?_
        refine .rg (u (ld tf34 (.t rfl) rfl rfl) <| u (mv (.t rfl)) <| st tf34 (.t rfl) rfl (.t rfl) rfl rfl rfl <| u (asg (.t rfl)) <| .nil _) rfl ?_
        refine .fz 38000 rfl ?_
        obtain rfl := Option.some.inj h
        exact .rt Try.func34 (.c tf34 rfl rfl rfl <| .t rfl <| .n) .n rfl rfl
      · refine .skp ?_
        refine .sq ?_
        refine .rg (u (mv (.t rfl)) <| u (lnm sf25 (.t rfl)) <| u (bc (.t rfl) (.i rfl) rfl rfl) <| u (fa ff34_0 (.t rfl)) <| u (fa ff31_1 (.t rfl)) <| st tf4 (.t rfl) rfl (.t rfl) rfl rfl rfl <| u (fa ff34_1 (.t rfl)) <| st tf22 (.t rfl) rfl (.i rfl) rfl rfl rfl <| u (fa ff34_2 (.t rfl)) <| st tf32 (.t rfl) rfl (.n (sz := 1)) rfl rfl rfl <| .nil _) rfl ?_
        refine .sq ?_
        refine .sq ?_
        refine .rg (u (mv (.t rfl)) <| u (lnm sf25 (.t rfl)) <| u (bc (.t rfl) (.i rfl) rfl rfl) <| .nil _) rfl ?_
        refine .jq (t := some r) (fun (a : Packet) => ⟨[(3, .ptr 3 0), (4, .ptr 4 0)], [(3, some (.box [.ro (.bool a.head.hasPad), .ro (.bool a.head.hasExt), .ro (.bool a.head.marker), .ro (.int .i64 a.head.type), .ro (.int .u16 a.head.seq), .ro (.int .u32 a.head.time), .ro (.int .u32 a.head.ssrc), .ro (.list 1 (List.map (ei .u32) a.head.csrc)), .ro (.int .u16 a.profile), .ro (.list 1 (List.map e8 a.ext)), .ro (.list 1 (List.map e8 a.payload)), .ro (.int .i64 a.pad)])), (4, some (.box [.ro (.bool false), .ro (.bool false), .ro (.bool false), .ro (.int .i64 0), .ro (.int .u16 0), .ro (.int .u32 0), .ro (.int .u32 0), .ro (.list 1 (List.map (ei .u32) [])), .ro (.int .u16 0), .ro (.list 1 (List.map e8 [])), .ro (.list 1 (List.map e8 [])), .ro (.int .i64 0)]))]⟩) (fun (a : Packet) => plan_extend_j1 z a) ?_ (fun J1 => ?_)
        · intro v5 h
          replace h : plan_extend_j1 z v5 = _ := h
          unfold plan_extend_j1 at h
          refine .sq ?_
          refine .rg (u (ld tf34 (.t rfl) rfl rfl) <| st tf34 (.t rfl) rfl (.t rfl) rfl rfl rfl <| u (asg .b) <| .nil _) rfl ?_
          obtain rfl := Option.some.inj h
          exact .rt Try.func34 (.c tf34 rfl rfl rfl <| .t rfl <| .n) .n rfl rfl
        refine .bq h (.t rfl) (fun h => ?_) (fun h => ?_)
        · refine be h fun x6 hx6 h => ?_
          refine .rg (u (mv (.t rfl)) <| cnf 56000 cf50 (elem_Write_c hx6) (.c (.t rfl) <| .n) rfl rfl rfl <| u (mv (.t rfl)) <| u (ex (.t rfl) rfl rfl) <| u (ex (.t rfl) rfl rfl) <| u (ex (.t rfl) rfl rfl) <| u (fa ff34_1 (.t rfl)) <| st tf22 (.t rfl) rfl (.t rfl) rfl rfl rfl <| u (fa ff34_2 (.t rfl)) <| st tf32 (.t rfl) rfl (.t rfl) rfl rfl rfl <| .nil _) rfl ?_
          refine .fz 56000 rfl ?_
          exact .kq (J1 (Packet.mk ({ k.head with hasExt := (cm .gtr (x3.1.length : Int) 0) }) x6.1 x6.2.1 k.payload k.pad) h) (.c rfl (.c rfl .n)) (.c rfl (.c rfl .n))
        · refine .skp ?_
          exact .kq (J1 (Packet.mk ({ k.head with hasExt := (cm .gtr (x3.1.length : Int) 0) }) 0 ([] : List Int) k.payload k.pad) h) (.c rfl (.c rfl .n)) (.c rfl (.c rfl .n))

theorem plan_set_c (p : Plan) (p_h : Head) :
    AC Try.prog 35 [.ro (enc_Plan p), .ro (enc_Head p_h)] (.ro (enc_Head (plan_set p p_h))) [] := by
  obtain ⟨r, h⟩ : ∃ r, plan_set p p_h = r := ⟨_, rfl⟩
  rw [h]
  refine AC.of Try.func35 rfl rfl fun w M0 hM => ?_
  unfold plan_set at h
  refine .sq ?_
  refine .rg (bx 2 (.t rfl) rfl rfl <| bx 3 (.t rfl) rfl rfl <| al 4 zf31 rfl <| .nil _) rfl ?_
  refine .sq ?_
  refine .sq ?_
  refine .rg (u (fa ff28_0 (.t rfl)) <| u (ld tf4 (.t rfl) rfl rfl) <| .nil _) rfl ?_
  refine .jq (t := r) (fun (a : Head) => ⟨[(2, .ptr 2 0), (3, .ptr 3 0), (4, .ptr 4 0)], [(2, some (.box [.ro (.bool p.setMarker), .ro (.bool p.marker), .ro (.bool p.setType), .ro (.int .i64 p.type), .ro (.bool p.setSeq), .ro (.int .u16 p.seq), .ro (.bool p.setTime), .ro (.int .u32 p.time), .ro (.bool p.setSsrc), .ro (.int .u32 p.ssrc), .ro (.list 2 (List.map cells_GMap p.maps)), .ro (.list 2 (List.map cells_Elem p.over)), .ro (.list 1 (List.map (ei .i64) p.drops)), .ro (.list 2 (List.map cells_Elem p.adds)), .ro (.bool p.noPad)])), (3, some (.box [.ro (.bool a.hasPad), .ro (.bool a.hasExt), .ro (.bool a.marker), .ro (.int .i64 a.type), .ro (.int .u16 a.seq), .ro (.int .u32 a.time), .ro (.int .u32 a.ssrc), .ro (.list 1 (List.map (ei .u32) a.csrc))])), (4, some (.box [.ro (.bool false), .ro (.bool false), .ro (.bool false), .ro (.int .i64 0), .ro (.int .u16 0), .ro (.int .u32 0), .ro (.int .u32 0), .ro (.list 1 (List.map (ei .u32) []))]))]⟩) (fun (a : Head) => plan_set_j1 p a) ?_ (fun J1 => ?_)
  · intro v1 h
    replace h : plan_set_j1 p v1 = _ := h
    unfold plan_set_j1 at h
    refine .sq ?_
    refine .sq ?_
    refine .rg (u (fa ff28_2 (.t rfl)) <| u (ld tf4 (.t rfl) rfl rfl) <| .nil _) rfl ?_
    refine .jq (t := r) (fun (a : Head) => ⟨[(2, .ptr 2 0), (3, .ptr 3 0), (4, .ptr 4 0)], [(2, some (.box [.ro (.bool p.setMarker), .ro (.bool p.marker), .ro (.bool p.setType), .ro (.int .i64 p.type), .ro (.bool p.setSeq), .ro (.int .u16 p.seq), .ro (.bool p.setTime), .ro (.int .u32 p.time), .ro (.bool p.setSsrc), .ro (.int .u32 p.ssrc), .ro (.list 2 (List.map cells_GMap p.maps)), .ro (.list 2 (List.map cells_Elem p.over)), .ro (.list 1 (List.map (ei .i64) p.drops)), .ro (.list 2 (List.map cells_Elem p.adds)), .ro (.bool p.noPad)])), (3, some (.box [.ro (.bool a.hasPad), .ro (.bool a.hasExt), .ro (.bool a.marker), .ro (.int .i64 a.type), .ro (.int .u16 a.seq), .ro (.int .u32 a.time), .ro (.int .u32 a.ssrc), .ro (.list 1 (List.map (ei .u32) a.csrc))])), (4, some (.box [.ro (.bool false), .ro (.bool false), .ro (.bool false), .ro (.int .i64 0), .ro (.int .u16 0), .ro (.int .u32 0), .ro (.int .u32 0), .ro (.list 1 (List.map (ei .u32) []))]))]⟩) (fun (a : Head) => plan_set_j2 p a) ?_ (fun J2 => ?_)
    · intro v2 h
      replace h : plan_set_j2 p v2 = _ := h
      unfold plan_set_j2 at h
      refine .sq ?_
      refine .sq ?_
      refine .rg (u (fa ff28_4 (.t rfl)) <| u (ld tf4 (.t rfl) rfl rfl) <| .nil _) rfl ?_
      refine .jq (t := r) (fun (a : Head) => ⟨[(2, .ptr 2 0), (3, .ptr 3 0), (4, .ptr 4 0)], [(2, some (.box [.ro (.bool p.setMarker), .ro (.bool p.marker), .ro (.bool p.setType), .ro (.int .i64 p.type), .ro (.bool p.setSeq), .ro (.int .u16 p.seq), .ro (.bool p.setTime), .ro (.int .u32 p.time), .ro (.bool p.setSsrc), .ro (.int .u32 p.ssrc), .ro (.list 2 (List.map cells_GMap p.maps)), .ro (.list 2 (List.map cells_Elem p.over)), .ro (.list 1 (List.map (ei .i64) p.drops)), .ro (.list 2 (List.map cells_Elem p.adds)), .ro (.bool p.noPad)])), (3, some (.box [.ro (.bool a.hasPad), .ro (.bool a.hasExt), .ro (.bool a.marker), .ro (.int .i64 a.type), .ro (.int .u16 a.seq), .ro (.int .u32 a.time), .ro (.int .u32 a.ssrc), .ro (.list 1 (List.map (ei .u32) a.csrc))])), (4, some (.box [.ro (.bool false), .ro (.bool false), .ro (.bool false), .ro (.int .i64 0), .ro (.int .u16 0), .ro (.int .u32 0), .ro (.int .u32 0), .ro (.list 1 (List.map (ei .u32) []))]))]⟩) (fun (a : Head) => plan_set_j3 p a) ?_ (fun J3 => ?_)
      · intro v3 h
        replace h : plan_set_j3 p v3 = _ := h
        unfold plan_set_j3 at h
        refine .sq ?_
        refine .sq ?_
        refine .rg (u (fa ff28_6 (.t rfl)) <| u (ld tf4 (.t rfl) rfl rfl) <| .nil _) rfl ?_
        refine .jq (t := r) (fun (a : Head) => ⟨[(2, .ptr 2 0), (3, .ptr 3 0), (4, .ptr 4 0)], [(2, some (.box [.ro (.bool p.setMarker), .ro (.bool p.marker), .ro (.bool p.setType), .ro (.int .i64 p.type), .ro (.bool p.setSeq), .ro (.int .u16 p.seq), .ro (.bool p.setTime), .ro (.int .u32 p.time), .ro (.bool p.setSsrc), .ro (.int .u32 p.ssrc), .ro (.list 2 (List.map cells_GMap p.maps)), .ro (.list 2 (List.map cells_Elem p.over)), .ro (.list 1 (List.map (ei .i64) p.drops)), .ro (.list 2 (List.map cells_Elem p.adds)), .ro (.bool p.noPad)])), (3, some (.box [.ro (.bool a.hasPad), .ro (.bool a.hasExt), .ro (.bool a.marker), .ro (.int .i64 a.type), .ro (.int .u16 a.seq), .ro (.int .u32 a.time), .ro (.int .u32 a.ssrc), .ro (.list 1 (List.map (ei .u32) a.csrc))])), (4, some (.box [.ro (.bool false), .ro (.bool false), .ro (.bool false), .ro (.int .i64 0), .ro (.int .u16 0), .ro (.int .u32 0), .ro (.int .u32 0), .ro (.list 1 (List.map (ei .u32) []))]))]⟩) (fun (a : Head) => plan_set_j4 p a) ?_ (fun J4 => ?_)
        · intro v4 h
          replace h : plan_set_j4 p v4 = _ := h
          unfold plan_set_j4 at h
          refine .sq ?_
          refine .sq ?_
          refine .rg (u (fa ff28_8 (.t rfl)) <| u (ld tf4 (.t rfl) rfl rfl) <| .nil _) rfl ?_
          refine .jq (t := r) (fun (a : Head) => ⟨[(3, .ptr 3 0), (4, .ptr 4 0)], [(3, some (.box [.ro (.bool a.hasPad), .ro (.bool a.hasExt), .ro (.bool a.marker), .ro (.int .i64 a.type), .ro (.int .u16 a.seq), .ro (.int .u32 a.time), .ro (.int .u32 a.ssrc), .ro (.list 1 (List.map (ei .u32) a.csrc))])), (4, some (.box [.ro (.bool false), .ro (.bool false), .ro (.bool false), .ro (.int .i64 0), .ro (.int .u16 0), .ro (.int .u32 0), .ro (.int .u32 0), .ro (.list 1 (List.map (ei .u32) []))]))]⟩) (fun (a : Head) => plan_set_j5 a) ?_ (fun J5 => ?_)
          · intro v5 h
            replace h : plan_set_j5 v5 = _ := h
            unfold plan_set_j5 at h
            refine .sq ?_
            refine .rg (u (ld tf31 (.t rfl) rfl rfl) <| st tf31 (.t rfl) rfl (.t rfl) rfl rfl rfl <| .nil _) rfl ?_
            subst h
            exact .rt Try.func35 (.c tf31 rfl rfl rfl <| .n) .n rfl rfl
          refine .bq h (.t rfl) (fun h => ?_) (fun h => ?_)
          · refine .rg (u (fa ff28_9 (.t rfl)) <| u (ld tf23 (.t rfl) rfl rfl) <| u (fa ff31_6 (.t rfl)) <| st tf23 (.t rfl) rfl (.t rfl) rfl rfl rfl <| .nil _) rfl ?_
            exact .kq (J5 ({ v4 with ssrc := p.ssrc }) h) (.c rfl (.c rfl .n)) (.c rfl (.c rfl .n))
          · refine .skp ?_
            exact .kq (J5 v4 h) (.c rfl (.c rfl .n)) (.c rfl (.c rfl .n))
        refine .bq h (.t rfl) (fun h => ?_) (fun h => ?_)
        · refine .rg (u (fa ff28_7 (.t rfl)) <| u (ld tf23 (.t rfl) rfl rfl) <| u (fa ff31_5 (.t rfl)) <| st tf23 (.t rfl) rfl (.t rfl) rfl rfl rfl <| .nil _) rfl ?_
          exact .kq (J4 ({ v3 with time := p.time }) h) (.c rfl (.c rfl (.c rfl .n))) (.c rfl (.c rfl (.c rfl .n)))
        · refine .skp ?_
          exact .kq (J4 v3 h) (.c rfl (.c rfl (.c rfl .n))) (.c rfl (.c rfl (.c rfl .n)))
      refine .bq h (.t rfl) (fun h => ?_) (fun h => ?_)
      · refine .rg (u (fa ff28_5 (.t rfl)) <| u (ld tf22 (.t rfl) rfl rfl) <| u (fa ff31_4 (.t rfl)) <| st tf22 (.t rfl) rfl (.t rfl) rfl rfl rfl <| .nil _) rfl ?_
        exact .kq (J3 ({ v2 with seq := p.seq }) h) (.c rfl (.c rfl (.c rfl .n))) (.c rfl (.c rfl (.c rfl .n)))
      · refine .skp ?_
        exact .kq (J3 v2 h) (.c rfl (.c rfl (.c rfl .n))) (.c rfl (.c rfl (.c rfl .n)))
    refine .bq h (.t rfl) (fun h => ?_) (fun h => ?_)
    · refine .rg (u (fa ff28_3 (.t rfl)) <| u (ld tf3 (.t rfl) rfl rfl) <| u (fa ff31_3 (.t rfl)) <| st tf3 (.t rfl) rfl (.t rfl) rfl rfl rfl <| .nil _) rfl ?_
      exact .kq (J2 ({ v1 with type := p.type }) h) (.c rfl (.c rfl (.c rfl .n))) (.c rfl (.c rfl (.c rfl .n)))
    · refine .skp ?_
      exact .kq (J2 v1 h) (.c rfl (.c rfl (.c rfl .n))) (.c rfl (.c rfl (.c rfl .n)))
  refine .bq h (.t rfl) (fun h => ?_) (fun h => ?_)
  · refine .rg (u (fa ff28_1 (.t rfl)) <| u (ld tf4 (.t rfl) rfl rfl) <| u (fa ff31_2 (.t rfl)) <| st tf4 (.t rfl) rfl (.t rfl) rfl rfl rfl <| .nil _) rfl ?_
    exact .kq (J1 ({ p_h with marker := p.marker }) h) (.c rfl (.c rfl (.c rfl .n))) (.c rfl (.c rfl (.c rfl .n)))
  · refine .skp ?_
    exact .kq (J1 p_h h) (.c rfl (.c rfl (.c rfl .n))) (.c rfl (.c rfl (.c rfl .n)))

theorem plan_behind_c {z : Option Nat} {p : Plan} {k : Packet} {r : Packet × Bool} (h : plan_behind z p k = some r) :
    AC Try.prog 18 [.ro (enc_Plan p), .ro (enc_Packet k)] (.ro (.tup [enc_Packet r.1, .bool r.2])) [] := by
  refine AC.of Try.func18 rfl rfl fun w M0 hM => ?_
  unfold plan_behind at h
  refine .sq ?_
  refine .rg (bx 2 (.t rfl) rfl rfl <| bx 3 (.t rfl) rfl rfl <| al 4 zf34 rfl <| u (asg .b) <| .nil _) rfl ?_
  refine .sq ?_
  refine .sq ?_
  refine be h fun x1 hx1 h => ?_
  refine .rg (u (ld tf34 (.t rfl) rfl rfl) <| cl [] cf19 (packet_Right_c k) (.c (.t rfl) <| .n) (.inl rfl) <| u (no (.t rfl)) <| u (mv (.t rfl)) <| gd rfl rfl (fun hB => ld tf28 (.t rfl) rfl rfl) <| cg rfl rfl cf16 (fun hB => (plan_Right_c (gTt hx1 (nt hB)))) (fun hB => .c (.m rfl hB) <| .n) (.inl rfl) <| gd rfl rfl (fun hB => no (.m rfl hB)) <| u (pko (.t rfl) (.t rfl)) <| .nil _) rfl ?_
  refine .bq h (.t rfl) (fun h => ?_) (fun h => ?_)
  · refine .sq ?_
    refine .rg (u (ld tf34 (.t rfl) rfl rfl) <| st tf34 (.t rfl) rfl (.t rfl) rfl rfl rfl <| u (asg .b) <| .nil _) rfl ?_
    obtain rfl := Option.some.inj h
    exact .rt Try.func18 (.c tf34 rfl rfl rfl <| .t rfl <| .n) .n rfl rfl
  · refine .skp ?_
    refine .sq ?_
    refine .rg (u (asg .b) <| .nil _) rfl ?_
    refine .sq ?_
    refine .sq ?_
    refine .rg (u (ld tf28 (.t rfl) rfl rfl) <| cl [] cf9 (plan_Elements_c p) (.c (.t rfl) <| .n) (.inl rfl) <| .nil _) rfl ?_
    refine .jq (t := some r) (fun (a : Bool × Plan × Packet) => ⟨[(2, .ptr 2 0), (3, .ptr 3 0), (4, .ptr 4 0), (6, .ro (.bool a.1))], [(2, some (.box [.ro (.bool a.2.1.setMarker), .ro (.bool a.2.1.marker), .ro (.bool a.2.1.setType), .ro (.int .i64 a.2.1.type), .ro (.bool a.2.1.setSeq), .ro (.int .u16 a.2.1.seq), .ro (.bool a.2.1.setTime), .ro (.int .u32 a.2.1.time), .ro (.bool a.2.1.setSsrc), .ro (.int .u32 a.2.1.ssrc), .ro (.list 2 (List.map cells_GMap a.2.1.maps)), .ro (.list 2 (List.map cells_Elem a.2.1.over)), .ro (.list 1 (List.map (ei .i64) a.2.1.drops)), .ro (.list 2 (List.map cells_Elem a.2.1.adds)), .ro (.bool a.2.1.noPad)])), (3, some (.box [.ro (.bool a.2.2.head.hasPad), .ro (.bool a.2.2.head.hasExt), .ro (.bool a.2.2.head.marker), .ro (.int .i64 a.2.2.head.type), .ro (.int .u16 a.2.2.head.seq), .ro (.int .u32 a.2.2.head.time), .ro (.int .u32 a.2.2.head.ssrc), .ro (.list 1 (List.map (ei .u32) a.2.2.head.csrc)), .ro (.int .u16 a.2.2.profile), .ro (.list 1 (List.map e8 a.2.2.ext)), .ro (.list 1 (List.map e8 a.2.2.payload)), .ro (.int .i64 a.2.2.pad)])), (4, some (.box [.ro (.bool false), .ro (.bool false), .ro (.bool false), .ro (.int .i64 0), .ro (.int .u16 0), .ro (.int .u32 0), .ro (.int .u32 0), .ro (.list 1 (List.map (ei .u32) [])), .ro (.int .u16 0), .ro (.list 1 (List.map e8 [])), .ro (.list 1 (List.map e8 [])), .ro (.int .i64 0)]))]⟩) (fun (a : Bool × Plan × Packet) => plan_behind_j1 z a.1 a.2.1 a.2.2) ?_ (fun J1 => ?_)
    · rintro ⟨v2, v3, v4⟩ h
      replace h : plan_behind_j1 z v2 v3 v4 = _ := h
      unfold plan_behind_j1 at h
      refine .sq ?_
      refine .rg (u (ld tf28 (.t rfl) rfl rfl) <| u (fa ff34_0 (.t rfl)) <| u (ld tf31 (.t rfl) rfl rfl) <| cl [] cf35 (plan_set_c v3 v4.head) (.c (.t rfl) <| .c (.t rfl) <| .n) (.inl rfl) <| u (fa ff34_0 (.t rfl)) <| st tf31 (.t rfl) rfl (.t rfl) rfl rfl rfl <| .nil _) rfl ?_
      refine .sq ?_
      refine .sq ?_
      refine .rg (u (fa ff28_14 (.t rfl)) <| u (ld tf4 (.t rfl) rfl rfl) <| .nil _) rfl ?_
      refine .jq (t := some r) (fun (a : Packet) => ⟨[(3, .ptr 3 0), (4, .ptr 4 0), (6, .ro (.bool v2))], [(3, some (.box [.ro (.bool a.head.hasPad), .ro (.bool a.head.hasExt), .ro (.bool a.head.marker), .ro (.int .i64 a.head.type), .ro (.int .u16 a.head.seq), .ro (.int .u32 a.head.time), .ro (.int .u32 a.head.ssrc), .ro (.list 1 (List.map (ei .u32) a.head.csrc)), .ro (.int .u16 a.profile), .ro (.list 1 (List.map e8 a.ext)), .ro (.list 1 (List.map e8 a.payload)), .ro (.int .i64 a.pad)])), (4, some (.box [.ro (.bool false), .ro (.bool false), .ro (.bool false), .ro (.int .i64 0), .ro (.int .u16 0), .ro (.int .u32 0), .ro (.int .u32 0), .ro (.list 1 (List.map (ei .u32) [])), .ro (.int .u16 0), .ro (.list 1 (List.map e8 [])), .ro (.list 1 (List.map e8 [])), .ro (.int .i64 0)]))]⟩) (fun (a : Packet) => plan_behind_j2 z v2 a) ?_ (fun J2 => ?_)
      · intro v5 h
        replace h : plan_behind_j2 z v2 v5 = _ := h
        unfold plan_behind_j2 at h
        refine .sq ?_
        refine .rd mixed (u (ld tf34 (.t rfl) rfl rfl) <| u (mv (.t rfl)) <| u (mv (.t rfl)) <| gd rfl rfl (fun hB => ld tf34 (.t rfl) rfl rfl) <| cg rfl rfl cf19 (fun hB => (packet_Right_c v5)) (fun hB => .c (.m rfl hB) <| .n) (.inl rfl) <| u (pka (.t rfl) (.t rfl)) <| st tf34 (.t rfl) rfl (.t rfl) rfl rfl rfl <| u (asg (.t rfl)) <| .nil _) (by kernel_rfl) rfl ?_
        obtain rfl := Option.some.inj h
        exact .rt Try.func18 (.c tf34 rfl rfl rfl <| .t rfl <| .n) .n rfl rfl
      refine .bq h (.t rfl) (fun h => ?_) (fun h => ?_)
      · refine .rg (u (fa ff34_0 (.t rfl)) <| u (fa ff31_0 (.t rfl)) <| st tf4 (.t rfl) rfl .b rfl rfl rfl <| u (fa ff34_4 (.t rfl)) <| st tf3 (.t rfl) rfl (.i rfl) rfl rfl rfl <| .nil _) rfl ?_
        exact .kq (J2 ({ v4 with head := (Head.mk false ((plan_set v3 v4.head).hasExt) ((plan_set v3 v4.head).marker) ((plan_set v3 v4.head).type) ((plan_set v3 v4.head).seq) ((plan_set v3 v4.head).time) ((plan_set v3 v4.head).ssrc) ((plan_set v3 v4.head).csrc)), pad := 0 }) h) (.c rfl (.c rfl (.c rfl .n))) (.c rfl (.c rfl .n))
      · refine .skp ?_
        exact .kq (J2 ({ v4 with head := (plan_set v3 v4.head) }) h) (.c rfl (.c rfl (.c rfl .n))) (.c rfl (.c rfl .n))
    refine .bq h (.t rfl) (fun h => ?_) (fun h => ?_)
    · refine be h fun x6 hx6 h => ?_
      refine .rg (u (ld tf28 (.t rfl) rfl rfl) <| u (ld tf34 (.t rfl) rfl rfl) <| cl [] cf34 (plan_extend_c hx6) (.c (.t rfl) <| .c (.t rfl) <| .n) (.inl rfl) <| u (mv (.t rfl)) <| u (ex (.t rfl) rfl rfl) <| u (ex (.t rfl) rfl rfl) <| st tf34 (.t rfl) rfl (.t rfl) rfl rfl rfl <| u (asg (.t rfl)) <| .nil _) rfl ?_
      exact .kq (J1 (x6.2, p, x6.1) h) (.c rfl (.c rfl (.c rfl (.c rfl .n)))) (.c rfl (.c rfl (.c rfl .n)))
    · refine .skp ?_
      exact .kq (J1 (true, p, k) h) (.c rfl (.c rfl (.c rfl (.c rfl .n)))) (.c rfl (.c rfl (.c rfl .n)))

theorem slices_Clone2_c {l r : List Int} (h : slices_Clone2 l = some r) : AC Try.prog 40 [.ro (.list 1 (List.map (ei .u32) l))] (.own 0) [(0, .arr 23 1 (List.map (ei .u32) r))] := by
  unfold slices_Clone2 at h
  obtain rfl := app_nil h
  refine AC.of Try.func40 rfl rfl fun w M0 hM => ?_
  refine .sq ?_
  refine .rg (anm (ei .u32) 0 23 1 rfl rfl <| .nil _) rfl ?_
  refine .sq ?_
  refine .sq ?_
  refine .nq rfl sf29 rfl rfl fun b hb => ?_
  refine .cd (.t rfl) (fun hh => ?_) (fun _ => ?_)
  · have hl := hb hh
    obtain rfl := List.map_eq_nil_iff.1 hl
    refine .sq ?_
    refine .rg (anm (ei .u32) 10 23 1 rfl rfl <| .nil _) rfl ?_
    refine .ks (l := [(2, .own 0)]) (o := [(0, some (.arr 23 1 (List.map (ei .u32) [])))]) (fun i => bif Nat.beq i 0 then 10 else i) ?_ (.c rfl .n) (.c rfl .n) rfl
    exact .rt Try.func40 (.t rfl <| .n) (.c rfl .n) rfl rfl
  · refine .skp ?_
    refine .sq ?_
    refine .rg (bs (F := (ei .u32)) (l := ([] : List Int)) 5 pf29 .n rfl (fun _ _ => rfl) rfl rfl <| u (mv (.t rfl)) <| ap 7 pf29 (.t rfl) rfl (.t rfl) h rfl <| u (asg (.t rfl)) <| .nil _) rfl ?_
    refine .ks (l := [(2, .own 0)]) (o := [(0, some (.arr 23 1 (List.map (ei .u32) l)))]) (fun i => bif Nat.beq i 0 then 7 else i) ?_ (.c rfl .n) (.c rfl .n) rfl
    exact .rt Try.func40 (.t rfl <| .n) (.c rfl .n) rfl rfl

theorem slices_Clone2_r {l r : List Int} (h : slices_Clone2 l = some r) : AC Try.prog 40 [.ro (.list 1 (List.map (ei .u32) l))] (.ro (.list 1 (List.map (ei .u32) r))) [] := AC.fz (slices_Clone2_c h) rfl

theorem plan_own_c {k : Packet} {r : Packet} (h : plan_own k = some r) :
    AC Try.prog 20 [.ro (enc_Packet k)] (.ro (enc_Packet r)) [] := by
  refine AC.of Try.func20 rfl rfl fun w M0 hM => ?_
  unfold plan_own at h
  refine .sq ?_
  refine .rg (bx 1 (.t rfl) rfl rfl <| al 2 zf34 rfl <| .nil _) rfl ?_
  refine .sq ?_
  refine be h fun x1 hx1 h => ?_
  refine be h fun x2 hx2 h => ?_
  refine be h fun x3 hx3 h => ?_
  refine .rd mixed (u (fa ff34_0 (.t rfl)) <| u (fa ff31_7 (.t rfl)) <| u (ld tf29 (.t rfl) rfl rfl) <| cnl 6 cf40 (slices_Clone2_c hx1) (.c (.t rfl) <| .n) rfl <| u (fa ff34_2 (.t rfl)) <| u (ld tf32 (.t rfl) rfl rfl) <| cnl 9 cf41 (slices_Clone_c hx2) (.c (.t rfl) <| .n) rfl <| u (fa ff34_3 (.t rfl)) <| u (ld tf32 (.t rfl) rfl rfl) <| cnl 12 cf41 (slices_Clone_c hx3) (.c (.t rfl) <| .n) rfl <| u (fa ff34_0 (.t rfl)) <| u (fa ff31_7 (.t rfl)) <| st tf29 (.t rfl) rfl (.t rfl) rfl rfl rfl <| u (fa ff34_2 (.t rfl)) <| st tf32 (.t rfl) rfl (.t rfl) rfl rfl rfl <| u (fa ff34_3 (.t rfl)) <| st tf32 (.t rfl) rfl (.t rfl) rfl rfl rfl <| .nil _) (by kernel_rfl) rfl ?_
  refine .sq ?_
  refine .rg (u (ld tf34 (.t rfl) rfl rfl) <| st tf34 (.t rfl) rfl (.t rfl) rfl rfl rfl <| .nil _) rfl ?_
  refine .fz 6 rfl ?_
  refine .fz 9 rfl ?_
  refine .fz 12 rfl ?_
  obtain rfl := Option.some.inj h
  exact .rt Try.func20 (.c tf34 rfl rfl rfl <| .n) .n rfl rfl

theorem plan_Apply_c {z : Option Nat} {p : Plan} {k : Packet} {r : Packet × Int} (h : plan_Apply z p k = some r) :
    AC Try.prog 8 [.ro (enc_Plan p), .ro (enc_Packet k)] (.ro (.tup [enc_Packet r.1, .int .i64 r.2])) [] := by
  refine AC.of Try.func8 rfl rfl fun w M0 hM => ?_
  unfold plan_Apply at h
  refine .sq ?_
  refine .rg (bx 2 (.t rfl) rfl rfl <| bx 3 (.t rfl) rfl rfl <| al 4 zf34 rfl <| u (asg (.i rfl)) <| .nil _) rfl ?_
  refine .sq ?_
  refine be h fun x1 hx1 h => ?_
  refine .rg (u (ld tf28 (.t rfl) rfl rfl) <| u (ld tf34 (.t rfl) rfl rfl) <| cl [] cf18 (plan_behind_c hx1) (.c (.t rfl) <| .c (.t rfl) <| .n) (.inl rfl) <| u (mv (.t rfl)) <| u (ex (.t rfl) rfl rfl) <| u (ex (.t rfl) rfl rfl) <| al 6 zf34 rfl <| st tf34 (.t rfl) rfl (.t rfl) rfl rfl rfl <| u (asg (.t rfl)) <| .nil _) rfl ?_
  refine .sq ?_
  refine .bl ?_
  refine .sq ?_
  refine .rg (u (ld tf34 (.t rfl) rfl rfl) <| cl [] cf19 (packet_Right_c k) (.c (.t rfl) <| .n) (.inl rfl) <| u (no (.t rfl)) <| u (asg (.t rfl)) <| .nil _) rfl ?_
  refine .bq h (.t rfl) (fun h => ?_) (fun h => ?_)
  · refine .sq ?_
    refine .rg (u (bd bf34 zf34 (.n) rfl) <| st tf34 (.t rfl) rfl (.t rfl) rfl rfl rfl <| u (asg (.i rfl)) <| .nil _) rfl ?_
    obtain rfl := Option.some.inj h
    exact .rt Try.func8 (.c tf34 rfl rfl rfl <| .t rfl <| .n) .n rfl rfl
  · refine .sq ?_
    refine .rg (u (mv (.t rfl)) <| u (no (.t rfl)) <| u (asg (.t rfl)) <| .nil _) rfl ?_
    refine .bq h (.t rfl) (fun h => ?_) (fun h => ?_)
    · refine .sq ?_
      refine .rg (u (bd bf34 zf34 (.n) rfl) <| st tf34 (.t rfl) rfl (.t rfl) rfl rfl rfl <| u (asg (.i rfl)) <| .nil _) rfl ?_
      obtain rfl := Option.some.inj h
      exact .rt Try.func8 (.c tf34 rfl rfl rfl <| .t rfl <| .n) .n rfl rfl
    · refine .skp ?_
      refine .ib ?_
      refine .sq ?_
      refine be h fun x2 hx2 h => ?_
      refine .rg (u (ld tf34 (.t rfl) rfl rfl) <| cl [] cf20 (plan_own_c hx2) (.c (.t rfl) <| .n) (.inl rfl) <| st tf34 (.t rfl) rfl (.t rfl) rfl rfl rfl <| u (asg (.i rfl)) <| .nil _) rfl ?_
      obtain rfl := Option.some.inj h
      exact .rt Try.func8 (.c tf34 rfl rfl rfl <| .t rfl <| .n) .n rfl rfl

theorem plan_Keeps_c (p : Plan) :
    AC Try.prog 13 [.ro (enc_Plan p)] (.ro (.bool (plan_Keeps p))) [] := by
  obtain ⟨r, h⟩ : ∃ r, plan_Keeps p = r := ⟨_, rfl⟩
  rw [h]
  refine AC.of Try.func13 rfl rfl fun w M0 hM => ?_
  unfold plan_Keeps at h
  refine .sq ?_
  refine .rg (bx 1 (.t rfl) rfl rfl <| u (asg .b) <| .nil _) rfl ?_
  refine .sq ?_
  refine .rg (u (ld tf28 (.t rfl) rfl rfl) <| cl [] cf21 (plan_turns_c p) (.c (.t rfl) <| .n) (.inl rfl) <| u (no (.t rfl)) <| u (mv (.t rfl)) <| gd rfl rfl (fun hB => fa ff28_14 (.t rfl)) <| gd rfl rfl (fun hB => ld tf4 (.m rfl hB) rfl rfl) <| gd rfl rfl (fun hB => no (.m rfl hB)) <| u (pka (.t rfl) (.t rfl)) <| u (asg (.t rfl)) <| .nil _) rfl ?_
  subst h
  exact .rt Try.func13 (.t rfl <| .n) .n rfl rfl

theorem plan_Empty_c (p : Plan) :
    AC Try.prog 15 [.ro (enc_Plan p)] (.ro (.bool (plan_Empty p))) [] := by
  obtain ⟨r, h⟩ : ∃ r, plan_Empty p = r := ⟨_, rfl⟩
  rw [h]
  refine AC.of Try.func15 rfl rfl fun w M0 hM => ?_
  unfold plan_Empty at h
  refine .sq ?_
  refine .rg (bx 1 (.t rfl) rfl rfl <| u (asg .b) <| .nil _) rfl ?_
  refine .sq ?_
  refine .rg (u (fa ff28_0 (.t rfl)) <| u (ld tf4 (.t rfl) rfl rfl) <| u (mv (.t rfl)) <| gd rfl rfl (fun hB => fa ff28_2 (.t rfl)) <| gd rfl rfl (fun hB => ld tf4 (.m rfl hB) rfl rfl) <| u (pko (.t rfl) (.t rfl)) <| u (mv (.t rfl)) <| gd rfl rfl (fun hB => fa ff28_4 (.t rfl)) <| gd rfl rfl (fun hB => ld tf4 (.m rfl hB) rfl rfl) <| u (pko (.t rfl) (.t rfl)) <| u (mv (.t rfl)) <| gd rfl rfl (fun hB => fa ff28_6 (.t rfl)) <| gd rfl rfl (fun hB => ld tf4 (.m rfl hB) rfl rfl) <| u (pko (.t rfl) (.t rfl)) <| u (mv (.t rfl)) <| gd rfl rfl (fun hB => fa ff28_8 (.t rfl)) <| gd rfl rfl (fun hB => ld tf4 (.m rfl hB) rfl rfl) <| u (pko (.t rfl) (.t rfl)) <| u (mv (.t rfl)) <| gd rfl rfl (fun hB => fa ff28_14 (.t rfl)) <| gd rfl rfl (fun hB => ld tf4 (.m rfl hB) rfl rfl) <| u (pko (.t rfl) (.t rfl)) <| u (asg (.t rfl)) <| .nil _) rfl ?_
  refine .sq ?_
  refine .rg (u (fa ff28_1 (.t rfl)) <| u (ld tf4 (.t rfl) rfl rfl) <| u (mv (.t rfl)) <| gd rfl rfl (fun hB => fa ff28_3 (.t rfl)) <| gd rfl rfl (fun hB => ld tf3 (.m rfl hB) rfl rfl) <| gd rfl rfl (fun hB => bc (.m rfl hB) (.i rfl) rfl rfl) <| u (pko (.t rfl) (.t rfl)) <| u (mv (.t rfl)) <| gd rfl rfl (fun hB => fa ff28_5 (.t rfl)) <| gd rfl rfl (fun hB => ld tf22 (.m rfl hB) rfl rfl) <| gd rfl rfl (fun hB => bc (.m rfl hB) (.i rfl) rfl rfl) <| u (pko (.t rfl) (.t rfl)) <| u (mv (.t rfl)) <| gd rfl rfl (fun hB => fa ff28_7 (.t rfl)) <| gd rfl rfl (fun hB => ld tf23 (.m rfl hB) rfl rfl) <| gd rfl rfl (fun hB => bc (.m rfl hB) (.i rfl) rfl rfl) <| u (pko (.t rfl) (.t rfl)) <| u (mv (.t rfl)) <| gd rfl rfl (fun hB => fa ff28_9 (.t rfl)) <| gd rfl rfl (fun hB => ld tf23 (.m rfl hB) rfl rfl) <| gd rfl rfl (fun hB => bc (.m rfl hB) (.i rfl) rfl rfl) <| u (pko (.t rfl) (.t rfl)) <| u (asg (.t rfl)) <| .nil _) rfl ?_
  refine .sq ?_
  refine .rg (u (mv (.t rfl)) <| u (no (.t rfl)) <| u (mv (.t rfl)) <| gd rfl rfl (fun hB => mv (.t rfl)) <| gd rfl rfl (fun hB => no (.m rfl hB)) <| u (pka (.t rfl) (.t rfl)) <| u (mv (.t rfl)) <| gd rfl rfl (fun hB => ld tf28 (.t rfl) rfl rfl) <| cg rfl rfl cf9 (fun hB => (plan_Elements_c p)) (fun hB => .c (.m rfl hB) <| .n) (.inl rfl) <| gd rfl rfl (fun hB => no (.m rfl hB)) <| u (pka (.t rfl) (.t rfl)) <| u (asg (.t rfl)) <| .nil _) rfl ?_
  subst h
  exact .rt Try.func15 (.t rfl <| .n) .n rfl rfl

theorem law29_awake_c {z : Option Nat}  {r : Bool} (h : law29_awake z = some r) :
    AC Try.prog 5 [] (.ro (.bool r)) [] := by
  refine AC.of Try.func5 rfl rfl fun w M0 hM => ?_
  unfold law29_awake at h
  refine .sq ?_
  refine .rg (u (asg .b) <| .nil _) rfl ?_
  refine .sq ?_
  refine .rg (u (bd bf31 zf31 (.c rfl .b rfl rfl rfl <| .c rfl (.i rfl) rfl rfl rfl <| .n) rfl) <| bs (F := e8) (l := [48, 7, 64, 8]) 9 pf32 (.c (.i rfl) rfl <| .c (.i rfl) rfl <| .c (.i rfl) rfl <| .c (.i rfl) rfl <| .n) rfl (fun _ _ => rfl) rfl rfl <| u (bd bf34 zf34 (.c rfl (.t rfl) rfl rfl rfl <| .c rfl (.i rfl) rfl rfl rfl <| .c rfl (.t rfl) rfl rfl rfl <| .n) rfl) <| al 1 zf34 rfl <| st tf34 (.t rfl) rfl (.t rfl) rfl rfl rfl <| .nil _) rfl ?_
  refine .sq ?_
  refine .fz 9 rfl ?_
  refine be h fun x1 hx1 h => ?_
  refine .rg (u (bd bf45 zf45 (.c rfl (.i rfl) rfl rfl rfl <| .c rfl (.i rfl) rfl rfl rfl <| .n) rfl) <| u (bd bf45 zf45 (.c rfl (.i rfl) rfl rfl rfl <| .c rfl (.i rfl) rfl rfl rfl <| .n) rfl) <| nu (bsn (F := cells_GMap) (l := [(GMap.mk 3 4), (GMap.mk 4 3)]) pf24 (.c (.t rfl) rfl <| .c (.t rfl) rfl <| .n) rfl (fun _ _ => rfl) rfl) <| nu (bsn (F := e8) (l := [9]) pf32 (.c (.i rfl) rfl <| .n) rfl (fun _ _ => rfl) rfl) <| u (bd bf43 zf43 (.c rfl (.i rfl) rfl rfl rfl <| .c rfl (.t rfl) rfl rfl rfl <| .n) rfl) <| nu (bsn (F := cells_Elem) (l := [(Elem.mk 3 [9])]) pf25 (.c (.t rfl) rfl <| .n) rfl (fun _ _ => rfl) rfl) <| u (bd bf28 zf28 (.c rfl .b rfl rfl rfl <| .c rfl (.i rfl) rfl rfl rfl <| .c rfl (.t rfl) rfl rfl rfl <| .c rfl (.t rfl) rfl rfl rfl <| .n) rfl) <| u (ld tf34 (.t rfl) rfl rfl) <| cl [] cf8 (plan_Apply_c hx1) (.c (.t rfl) <| .c (.t rfl) <| .n) (.inl rfl) <| u (mv (.t rfl)) <| u (ex (.t rfl) rfl rfl) <| u (ex (.t rfl) rfl rfl) <| al 2 zf34 rfl <| st tf34 (.t rfl) rfl (.t rfl) rfl rfl rfl <| u (asg (.t rfl)) <| .nil _) rfl ?_
  refine .sq ?_
  refine be h fun x2 hx2 h => ?_
  refine .rg (u (bd bf45 zf45 (.c rfl (.i rfl) rfl rfl rfl <| .c rfl (.i rfl) rfl rfl rfl <| .n) rfl) <| nu (bsn (F := cells_GMap) (l := [(GMap.mk 3 4)]) pf24 (.c (.t rfl) rfl <| .n) rfl (fun _ _ => rfl) rfl) <| u (bd bf28 zf28 (.c rfl (.t rfl) rfl rfl rfl <| .n) rfl) <| u (ld tf34 (.t rfl) rfl rfl) <| cl [] cf8 (plan_Apply_c hx2) (.c (.t rfl) <| .c (.t rfl) <| .n) (.inl rfl) <| u (mv (.t rfl)) <| u (ex (.t rfl) rfl rfl) <| u (ex (.t rfl) rfl rfl) <| al 4 zf34 rfl <| st tf34 (.t rfl) rfl (.t rfl) rfl rfl rfl <| u (asg (.t rfl)) <| .nil _) rfl ?_
  refine .sq ?_
  refine be h fun x3 hx3 h => ?_
  refine .rg (nu (bsn (F := (ei .i64)) (l := [3]) pf26 (.c (.i rfl) rfl <| .n) rfl (fun _ _ => rfl) rfl) <| nu (bsn (F := e8) (l := [1]) pf32 (.c (.i rfl) rfl <| .n) rfl (fun _ _ => rfl) rfl) <| u (bd bf43 zf43 (.c rfl (.i rfl) rfl rfl rfl <| .c rfl (.t rfl) rfl rfl rfl <| .n) rfl) <| nu (bsn (F := cells_Elem) (l := [(Elem.mk 15 [1])]) pf25 (.c (.t rfl) rfl <| .n) rfl (fun _ _ => rfl) rfl) <| u (bd bf28 zf28 (.c rfl (.t rfl) rfl rfl rfl <| .c rfl (.t rfl) rfl rfl rfl <| .n) rfl) <| u (ld tf34 (.t rfl) rfl rfl) <| cl [] cf8 (plan_Apply_c hx3) (.c (.t rfl) <| .c (.t rfl) <| .n) (.inl rfl) <| u (mv (.t rfl)) <| u (ex (.t rfl) rfl rfl) <| u (ex (.t rfl) rfl rfl) <| al 6 zf34 rfl <| st tf34 (.t rfl) rfl (.t rfl) rfl rfl rfl <| u (asg (.t rfl)) <| .nil _) rfl ?_
  refine .sq ?_
  refine be h fun x4 hx4 h => ?_
  refine .rg (u (mv (.t rfl)) <| u (bc (.t rfl) (.i rfl) rfl rfl) <| u (mv (.t rfl)) <| gd rfl rfl (fun hB => mv (.t rfl)) <| gd rfl rfl (fun hB => bc (.m rfl hB) (.i rfl) rfl rfl) <| u (pka (.t rfl) (.t rfl)) <| u (mv (.t rfl)) <| gd rfl rfl (fun hB => mv (.t rfl)) <| gd rfl rfl (fun hB => bc (.m rfl hB) (.i rfl) rfl rfl) <| u (pka (.t rfl) (.t rfl)) <| u (mv (.t rfl)) <| gd rfl rfl (fun hB => fa ff34_0 (.t rfl)) <| gd rfl rfl (fun hB => fa ff31_6 (.m rfl hB)) <| gd rfl rfl (fun hB => ld tf23 (.m rfl hB) rfl rfl) <| gd rfl rfl (fun hB => bc (.m rfl hB) (.i rfl) rfl rfl) <| u (pka (.t rfl) (.t rfl)) <| u (mv (.t rfl)) <| gd rfl rfl (fun hB => fa ff34_2 (.t rfl)) <| gd rfl rfl (fun hB => ld tf32 (.m rfl hB) rfl rfl) <| gd rfl rfl (fun hB => bt bt32_9 (.m rfl hB)) <| gd rfl rfl (fun hB => sq (.m rfl hB) (.s rfl) rfl rfl) <| u (pka (.t rfl) (.t rfl)) <| u (mv (.t rfl)) <| gd rfl rfl (fun hB => fa ff34_1 (.t rfl)) <| gd rfl rfl (fun hB => ld tf22 (.m rfl hB) rfl rfl) <| gd rfl rfl (fun hB => bc (.m rfl hB) (.i rfl) rfl rfl) <| u (pka (.t rfl) (.t rfl)) <| u (mv (.t rfl)) <| gd rfl rfl (fun hB => fa ff34_2 (.t rfl)) <| gd rfl rfl (fun hB => ld tf32 (.m rfl hB) rfl rfl) <| gd rfl rfl (fun hB => bt bt32_9 (.m rfl hB)) <| gd rfl rfl (fun hB => sq (.m rfl hB) (.s rfl) rfl rfl) <| u (pka (.t rfl) (.t rfl)) <| u (mv (.t rfl)) <| gd rfl rfl (fun hB => bd bf28 zf28 (.c rfl .b rfl rfl rfl <| .n) rfl) <| cg rfl rfl cf13 (fun hB => (plan_Keeps_c (Plan.mk false false false 0 true 0 false 0 false 0 [] [] [] [] false))) (fun hB => .c (.m rfl hB) <| .n) (.inl rfl) <| u (pka (.t rfl) (.t rfl)) <| u (mv (.t rfl)) <| gd rfl rfl (fun hB => bd bf28 zf28 (.n) rfl) <| cg rfl rfl cf15 (fun hB => (plan_Empty_c (Plan.mk false false false 0 false 0 false 0 false 0 [] [] [] [] false))) (fun hB => .c (.m rfl hB) <| .n) (.inl rfl) <| u (pka (.t rfl) (.t rfl)) <| u (mv (.t rfl)) <| gd rfl rfl (fun hB => bd bf28 zf28 (.n) rfl) <| cg rfl rfl cf9 (fun hB => (plan_Elements_c (Plan.mk false false false 0 false 0 false 0 false 0 [] [] [] [] false))) (fun hB => .c (.m rfl hB) <| .n) (.inl rfl) <| gd rfl rfl (fun hB => no (.m rfl hB)) <| u (pka (.t rfl) (.t rfl)) <| u (mv (.t rfl)) <| gd rfl rfl (fun hB => bd bf28 zf28 (.n) rfl) <| cg rfl rfl cf16 (fun hB => (plan_Right_c (gTt hx4 hB))) (fun hB => .c (.m rfl hB) <| .n) (.inl rfl) <| u (pka (.t rfl) (.t rfl)) <| u (asg (.t rfl)) <| .nil _) rfl ?_
  obtain rfl := Option.some.inj h
  exact .rt Try.func5 (.t rfl <| .n) .n rfl rfl

theorem law29_awake_t : law29_awake (some 1000) = some true := by decide +kernel
theorem law29_awake_k : AC Try.prog 5 [] (.ro (.bool true)) [] := law29_awake_c law29_awake_t

theorem ref08_Short_c {z : Option Nat} {l : List Elem} {r : Bool} (h : ref08_Short z l = some r) :
    AC Try.prog 17 [.ro (.list 2 (List.map cells_Elem l))] (.ro (.bool r)) [] := by
  refine AC.of Try.func17 rfl rfl fun w M0 hM => ?_
  unfold ref08_Short at h
  refine .sq ?_
  refine .rg (u (asg .b) <| .nil _) rfl ?_
  refine .sq ?_
  refine .sq ?_
  refine .rg (u (asg (.i rfl)) <| .nil _) rfl ?_
  refine .bl ?_
  unfold ref08_Short_l1 at h
  refine .kq (.lo (fun (s : Int) => ⟨[(0, .ro (.list 2 (List.map cells_Elem l))), (3, .ro (.int .i64 s))], []⟩) h ?_) (.c rfl (.c rfl .n)) .n
  intro v1 u1 h ih1 hx1
  replace h : ref08_Short_s1 z l v1 = _ := h
  unfold ref08_Short_s1 at h
  refine .sq ?_
  refine .sq ?_
  refine .rg (u (mv (.t rfl)) <| u (mv (.t rfl)) <| u (lnm sf25 (.t rfl)) <| u (bc (.t rfl) (.t rfl) rfl rfl) <| .nil _) rfl ?_
  refine .bq h (.t rfl) (fun h => ?_) (fun h => ?_)
  · refine .skp ?_
    refine .sq ?_
    refine .bl ?_
    refine .sq ?_
    refine be h fun x2 hx2 h => ?_
    refine .rg (u (mv (.t rfl)) <| u (mv (.t rfl)) <| u (ia sf25 (.t rfl) (.t rfl) (ix_map cells_Elem hx2)) <| u (fr ff43_1 (.t rfl) rfl) <| u (lr tf32 (.t rfl) rfl) <| u (lnm sf32 (.t rfl)) <| u (bc (.t rfl) (.i rfl) rfl rfl) <| .nil _) rfl ?_
    refine .bq h (.t rfl) (fun h => ?_) (fun h => ?_)
    · refine .sq ?_
      refine .rg (u (asg .b) <| .nil _) rfl ?_
      replace h := mpR h hx1
      obtain rfl := Option.some.inj h
      exact .rt Try.func17 (.t rfl <| .n) .n rfl rfl
    · refine .skp ?_
      refine .ib ?_
      refine .rg (u (mv (.t rfl)) <| u (bi (.t rfl) (.i rfl) rfl) <| u (asg (.t rfl)) <| .nil _) rfl ?_
      exact .kq (.il (ih1 (ar .add .i64 v1 1) (nxi h))) (.c rfl (.c rfl .n)) .n
  · refine .xt rfl ?_
    replace h := mpR h hx1
    refine .sq ?_
    refine .rg (u (mv (.t rfl)) <| u (lnm sf25 (.t rfl)) <| u (bc (.t rfl) (.i rfl) rfl rfl) <| u (asg (.t rfl)) <| .nil _) rfl ?_
    obtain rfl := Option.some.inj h
    exact .rt Try.func17 (.t rfl <| .n) .n rfl rfl

theorem ref29_Short_c {z : Option Nat} {p : Plan} {r : Bool} (h : ref29_Short z p = some r) :
    AC Try.prog 6 [.ro (enc_Plan p)] (.ro (.bool r)) [] := by
  refine AC.of Try.func6 rfl rfl fun w M0 hM => ?_
  unfold ref29_Short at h
  refine .sq ?_
  refine .rg (bx 1 (.t rfl) rfl rfl <| u (asg .b) <| .nil _) rfl ?_
  refine .sq ?_
  refine be h fun x1 hx1 h => ?_
  refine be h fun x2 hx2 h => ?_
  refine .rg (u (fa ff28_10 (.t rfl)) <| u (ld tf24 (.t rfl) rfl rfl) <| u (lnm sf24 (.t rfl)) <| u (bc (.t rfl) (.i rfl) rfl rfl) <| u (mv (.t rfl)) <| gd rfl rfl (fun hB => fa ff28_12 (.t rfl)) <| gd rfl rfl (fun hB => ld tf26 (.m rfl hB) rfl rfl) <| gd rfl rfl (fun hB => lnm sf26 (.m rfl hB)) <| gd rfl rfl (fun hB => bc (.m rfl hB) (.i rfl) rfl rfl) <| u (pka (.t rfl) (.t rfl)) <| u (mv (.t rfl)) <| gd rfl rfl (fun hB => fa ff28_11 (.t rfl)) <| gd rfl rfl (fun hB => ld tf25 (.m rfl hB) rfl rfl) <| cg rfl rfl cf17 (fun hB => (ref08_Short_c (gTt hx1 hB))) (fun hB => .c (.m rfl hB) <| .n) (.inl rfl) <| u (pka (.t rfl) (.t rfl)) <| u (mv (.t rfl)) <| gd rfl rfl (fun hB => fa ff28_13 (.t rfl)) <| gd rfl rfl (fun hB => ld tf25 (.m rfl hB) rfl rfl) <| cg rfl rfl cf17 (fun hB => (ref08_Short_c (gTt hx2 hB))) (fun hB => .c (.m rfl hB) <| .n) (.inl rfl) <| u (pka (.t rfl) (.t rfl)) <| u (asg (.t rfl)) <| .nil _) rfl ?_
  obtain rfl := Option.some.inj h
  exact .rt Try.func6 (.t rfl <| .n) .n rfl rfl

theorem ref06_Short_c (p : Packet) :
    AC Try.prog 7 [.ro (enc_Packet p)] (.ro (.bool (ref06_Short p))) [] := by
  obtain ⟨r, h⟩ : ∃ r, ref06_Short p = r := ⟨_, rfl⟩
  rw [h]
  refine AC.of Try.func7 rfl rfl fun w M0 hM => ?_
  unfold ref06_Short at h
  refine .sq ?_
  refine .rg (bx 1 (.t rfl) rfl rfl <| u (asg .b) <| .nil _) rfl ?_
  refine .sq ?_
  refine .rg (u (fa ff34_0 (.t rfl)) <| u (fa ff31_7 (.t rfl)) <| u (ld tf29 (.t rfl) rfl rfl) <| u (lnm sf29 (.t rfl)) <| u (bc (.t rfl) (.i rfl) rfl rfl) <| u (mv (.t rfl)) <| gd rfl rfl (fun hB => fa ff34_2 (.t rfl)) <| gd rfl rfl (fun hB => ld tf32 (.m rfl hB) rfl rfl) <| gd rfl rfl (fun hB => lnm sf32 (.m rfl hB)) <| gd rfl rfl (fun hB => bc (.m rfl hB) (.i rfl) rfl rfl) <| u (pka (.t rfl) (.t rfl)) <| u (mv (.t rfl)) <| gd rfl rfl (fun hB => fa ff34_3 (.t rfl)) <| gd rfl rfl (fun hB => ld tf32 (.m rfl hB) rfl rfl) <| gd rfl rfl (fun hB => lnm sf32 (.m rfl hB)) <| gd rfl rfl (fun hB => bc (.m rfl hB) (.i rfl) rfl rfl) <| u (pka (.t rfl) (.t rfl)) <| u (asg (.t rfl)) <| .nil _) rfl ?_
  subst h
  exact .rt Try.func7 (.t rfl <| .n) .n rfl rfl

theorem law29_read_c {z : Option Nat} {k : Packet} {r : List Elem} (h : law29_read z k = some r) :
    AC Try.prog 10 [.ro (enc_Packet k)] (.own 0) [(0, .arr 43 2 (List.map cells_Elem r))] := by
  refine AC.of Try.func10 rfl rfl fun w M0 hM => ?_
  unfold law29_read at h
  refine .sq ?_
  refine .rg (bx 1 (.t rfl) rfl rfl <| anm cells_Elem 2 43 2 rfl rfl <| .nil _) rfl ?_
  refine .sq ?_
  refine .sq ?_
  refine .rg (u (fa ff34_0 (.t rfl)) <| u (fa ff31_1 (.t rfl)) <| u (ld tf4 (.t rfl) rfl rfl) <| u (no (.t rfl)) <| .nil _) rfl ?_
  refine .bq h (.t rfl) (fun h => ?_) (fun h => ?_)
  · refine .sq ?_
    refine .rg (anm cells_Elem 100002 43 2 rfl rfl <| .nil _) rfl ?_
    obtain rfl := Option.some.inj h
    refine .ks (l := [(2, .own 0)]) (o := [(0, some (.arr 43 2 (List.map cells_Elem [])))]) (fun i => bif Nat.beq i 0 then 100002 else i) ?_ (.c rfl .n) (.c rfl .n) rfl
    exact .rt Try.func10 (.t rfl <| .n) (.c rfl .n) rfl rfl
  · refine .skp ?_
    refine .sq ?_
    refine be h fun x1 hx1 h => ?_
    refine .rg (u (fa ff34_1 (.t rfl)) <| u (ld tf22 (.t rfl) rfl rfl) <| u (fa ff34_2 (.t rfl)) <| u (ld tf32 (.t rfl) rfl rfl) <| cnf 15000 cf22 (elem_Read_c hx1) (.c (.t rfl) <| .c (.t rfl) <| .n) rfl rfl rfl <| u (mv (.t rfl)) <| u (ex (.t rfl) rfl rfl) <| u (ex (.t rfl) rfl rfl) <| u (asg (.t rfl)) <| u (asg (.t rfl)) <| .nil _) rfl ?_
    refine .sq ?_
    refine .rg (u (mv (.t rfl)) <| u (asg (.t rfl)) <| .nil _) rfl ?_
    obtain rfl := Option.some.inj h
    refine .ks (l := [(2, .own 0)]) (o := [(0, some (.arr 43 2 (List.map cells_Elem x1.1)))]) (fun i => bif Nat.beq i 0 then 15000 else i) ?_ (.c rfl .n) (.c rfl .n) rfl
    exact .rt Try.func10 (.t rfl <| .n) (.c rfl .n) rfl rfl

theorem law29_read_r {z : Option Nat} {k : Packet} {r : List Elem} (h : law29_read z k = some r) :
    AC Try.prog 10 [.ro (enc_Packet k)] (.ro (.list 2 (List.map cells_Elem r))) [] := AC.fz (law29_read_c h) rfl

theorem ref08_Same_c {z : Option Nat} {p_a : List Elem} {b : List Elem} {r : Bool} (h : ref08_Same z p_a b = some r) :
    AC Try.prog 11 [.ro (.list 2 (List.map cells_Elem p_a)), .ro (.list 2 (List.map cells_Elem b))] (.ro (.bool r)) [] := by
  refine AC.of Try.func11 rfl rfl fun w M0 hM => ?_
  unfold ref08_Same at h
  refine .sq ?_
  refine .rg (u (asg .b) <| .nil _) rfl ?_
  refine .sq ?_
  refine .sq ?_
  refine .rg (u (mv (.t rfl)) <| u (lnm sf25 (.t rfl)) <| u (mv (.t rfl)) <| u (lnm sf25 (.t rfl)) <| u (bc (.t rfl) (.t rfl) rfl rfl) <| .nil _) rfl ?_
  refine .bq h (.t rfl) (fun h => ?_) (fun h => ?_)
  · refine .sq ?_
    refine .rg (u (asg .b) <| .nil _) rfl ?_
    obtain rfl := Option.some.inj h
    exact .rt Try.func11 (.t rfl <| .n) .n rfl rfl
  · refine .skp ?_
    refine .sq ?_
    refine .sq ?_
    refine .rg (u (asg (.i rfl)) <| .nil _) rfl ?_
    refine .bl ?_
    unfold ref08_Same_l1 at h
    refine .kq (.lo (fun (s : Int) => ⟨[(0, .ro (.list 2 (List.map cells_Elem p_a))), (1, .ro (.list 2 (List.map cells_Elem b))), (5, .ro (.int .i64 s))], []⟩) h ?_) (.c rfl (.c rfl (.c rfl .n))) .n
    intro v1 u1 h ih1 hx1
    replace h : ref08_Same_s1 z p_a b v1 = _ := h
    unfold ref08_Same_s1 at h
    refine .sq ?_
    refine .sq ?_
    refine .rg (u (mv (.t rfl)) <| u (mv (.t rfl)) <| u (lnm sf25 (.t rfl)) <| u (bc (.t rfl) (.t rfl) rfl rfl) <| .nil _) rfl ?_
    refine .bq h (.t rfl) (fun h => ?_) (fun h => ?_)
    · refine .skp ?_
      refine .sq ?_
      refine .bl ?_
      refine .sq ?_
      refine be h fun x2 hx2 h => ?_
      refine be h fun x3 hx3 h => ?_
      refine be h fun x4 hx4 h => ?_
      refine be h fun x5 hx5 h => ?_
      refine .rd mixed (u (mv (.t rfl)) <| u (mv (.t rfl)) <| u (ia sf25 (.t rfl) (.t rfl) (ix_map cells_Elem hx2)) <| u (fr ff43_0 (.t rfl) rfl) <| u (lr tf3 (.t rfl) rfl) <| u (mv (.t rfl)) <| u (mv (.t rfl)) <| u (ia sf25 (.t rfl) (.t rfl) (ix_map cells_Elem hx3)) <| u (fr ff43_0 (.t rfl) rfl) <| u (lr tf3 (.t rfl) rfl) <| u (bc (.t rfl) (.t rfl) rfl rfl) <| u (mv (.t rfl)) <| gd rfl rfl (fun hB => mv (.t rfl)) <| gd rfl rfl (fun hB => mv (.t rfl)) <| gd rfl rfl (fun hB => ia sf25 (.m rfl hB) (.m rfl hB) (ix_map cells_Elem (gTt hx4 (nt hB)))) <| gd rfl rfl (fun hB => fr ff43_1 (.m rfl hB) rfl) <| gd rfl rfl (fun hB => lr tf32 (.m rfl hB) rfl) <| gd rfl rfl (fun hB => bt bt32_9 (.m rfl hB)) <| gd rfl rfl (fun hB => mv (.t rfl)) <| gd rfl rfl (fun hB => mv (.t rfl)) <| gd rfl rfl (fun hB => ia sf25 (.m rfl hB) (.m rfl hB) (ix_map cells_Elem (gTt hx5 (nt hB)))) <| gd rfl rfl (fun hB => fr ff43_1 (.m rfl hB) rfl) <| gd rfl rfl (fun hB => lr tf32 (.m rfl hB) rfl) <| gd rfl rfl (fun hB => bt bt32_9 (.m rfl hB)) <| gd rfl rfl (fun hB => sq (.m rfl hB) (.m rfl hB) rfl rfl) <| u (pko (.t rfl) (.t rfl)) <| .nil _) (by kernel_rfl) rfl ?_
      refine .bq h (.t rfl) (fun h => ?_) (fun h => ?_)
      · refine .sq ?_
        refine .rg (u (asg .b) <| .nil _) rfl ?_
        replace h := mpR h hx1
        obtain rfl := Option.some.inj h
        exact .rt Try.func11 (.t rfl <| .n) .n rfl rfl
      · refine .skp ?_
        refine .ib ?_
        refine .rg (u (mv (.t rfl)) <| u (bi (.t rfl) (.i rfl) rfl) <| u (asg (.t rfl)) <| .nil _) rfl ?_
        exact .kq (.il (ih1 (ar .add .i64 v1 1) (nxi h))) (.c rfl (.c rfl (.c rfl .n))) .n
    · refine .xt rfl ?_
      replace h := mpR h hx1
      refine .sq ?_
      refine .rg (u (asg .b) <| .nil _) rfl ?_
      obtain rfl := Option.some.inj h
      exact .rt Try.func11 (.t rfl <| .n) .n rfl rfl

theorem law29_PlanElements_c {z : Option Nat} {p : Plan} {k : Packet} {r : Bool} (h : law29_PlanElements z p k = some r) :
    AC Try.prog 3 [.ro (enc_Plan p), .ro (enc_Packet k)] (.ro (.bool r)) [] := by
  refine AC.of Try.func3 rfl rfl fun w M0 hM => ?_
  unfold law29_PlanElements at h
  refine .sq ?_
  refine .rg (bx 2 (.t rfl) rfl rfl <| bx 3 (.t rfl) rfl rfl <| u (asg .b) <| .nil _) rfl ?_
  refine .sq ?_
  refine .sq ?_
  refine .rg (cl [] cf5 law29_awake_k (.n) (.inl rfl) <| u (no (.t rfl)) <| .nil _) rfl ?_
  refine .cf (.t rfl) rfl ?_
  refine .skp ?_
  refine .sq ?_
  refine .sq ?_
  refine be h fun x1 hx1 h => ?_
  refine .rg (u (ld tf28 (.t rfl) rfl rfl) <| cl [] cf6 (ref29_Short_c hx1) (.c (.t rfl) <| .n) (.inl rfl) <| u (no (.t rfl)) <| u (mv (.t rfl)) <| gd rfl rfl (fun hB => ld tf34 (.t rfl) rfl rfl) <| cg rfl rfl cf7 (fun hB => (ref06_Short_c k)) (fun hB => .c (.m rfl hB) <| .n) (.inl rfl) <| gd rfl rfl (fun hB => no (.m rfl hB)) <| u (pko (.t rfl) (.t rfl)) <| .nil _) rfl ?_
  refine .bq h (.t rfl) (fun h => ?_) (fun h => ?_)
  · refine .sq ?_
    refine .rg (u (asg .b) <| .nil _) rfl ?_
    obtain rfl := Option.some.inj h
    exact .rt Try.func3 (.t rfl <| .n) .n rfl rfl
  · refine .skp ?_
    refine .sq ?_
    refine be h fun x2 hx2 h => ?_
    refine .rg (u (ld tf28 (.t rfl) rfl rfl) <| u (ld tf34 (.t rfl) rfl rfl) <| cl [] cf8 (plan_Apply_c hx2) (.c (.t rfl) <| .c (.t rfl) <| .n) (.inl rfl) <| u (mv (.t rfl)) <| u (ex (.t rfl) rfl rfl) <| u (ex (.t rfl) rfl rfl) <| al 5 zf34 rfl <| st tf34 (.t rfl) rfl (.t rfl) rfl rfl rfl <| u (asg (.t rfl)) <| .nil _) rfl ?_
    refine .sq ?_
    refine .sq ?_
    refine .rg (u (mv (.t rfl)) <| u (bc (.t rfl) (.i rfl) rfl rfl) <| u (mv (.t rfl)) <| gd rfl rfl (fun hB => ld tf28 (.t rfl) rfl rfl) <| cg rfl rfl cf9 (fun hB => (plan_Elements_c p)) (fun hB => .c (.m rfl hB) <| .n) (.inl rfl) <| gd rfl rfl (fun hB => no (.m rfl hB)) <| u (pko (.t rfl) (.t rfl)) <| .nil _) rfl ?_
    refine .bq h (.t rfl) (fun h => ?_) (fun h => ?_)
    · refine .sq ?_
      refine .rg (u (asg .b) <| .nil _) rfl ?_
      obtain rfl := Option.some.inj h
      exact .rt Try.func3 (.t rfl <| .n) .n rfl rfl
    · refine .skp ?_
      refine .sq ?_
      refine be h fun x3 hx3 h => ?_
      refine be h fun x4 hx4 h => ?_
      refine .rd mixed (u (ld tf34 (.t rfl) rfl rfl) <| cnf 41000 cf10 (law29_read_c hx3) (.c (.t rfl) <| .n) rfl rfl rfl <| u (ld tf34 (.t rfl) rfl rfl) <| cnf 43000 cf10 (law29_read_c hx4) (.c (.t rfl) <| .n) rfl rfl rfl <| u (asg (.t rfl)) <| u (asg (.t rfl)) <| .nil _) (by kernel_rfl) rfl ?_
      refine .sq ?_
      refine .rg (anm cells_Elem 9 43 2 rfl rfl <| .nil _) rfl ?_
      refine .sq ?_
      refine .sq ?_
      refine .rg (u (asg (.i rfl)) <| .nil _) rfl ?_
      refine .bl ?_
      unfold law29_PlanElements_l1 at h
      refine .kq (.lo (fun (s : List Elem × Int) => ⟨[(2, .ptr 2 0), (3, .ptr 3 0), (5, .ptr 5 0), (7, .own 41000), (8, .own 43000), (9, .own 9), (10, .ro (.int .i64 s.2))], [(2, some (.box [.ro (.bool p.setMarker), .ro (.bool p.marker), .ro (.bool p.setType), .ro (.int .i64 p.type), .ro (.bool p.setSeq), .ro (.int .u16 p.seq), .ro (.bool p.setTime), .ro (.int .u32 p.time), .ro (.bool p.setSsrc), .ro (.int .u32 p.ssrc), .ro (.list 2 (List.map cells_GMap p.maps)), .ro (.list 2 (List.map cells_Elem p.over)), .ro (.list 1 (List.map (ei .i64) p.drops)), .ro (.list 2 (List.map cells_Elem p.adds)), .ro (.bool p.noPad)])), (3, some (.box [.ro (.bool k.head.hasPad), .ro (.bool k.head.hasExt), .ro (.bool k.head.marker), .ro (.int .i64 k.head.type), .ro (.int .u16 k.head.seq), .ro (.int .u32 k.head.time), .ro (.int .u32 k.head.ssrc), .ro (.list 1 (List.map (ei .u32) k.head.csrc)), .ro (.int .u16 k.profile), .ro (.list 1 (List.map e8 k.ext)), .ro (.list 1 (List.map e8 k.payload)), .ro (.int .i64 k.pad)])), (5, some (.box [.ro (.bool x2.1.head.hasPad), .ro (.bool x2.1.head.hasExt), .ro (.bool x2.1.head.marker), .ro (.int .i64 x2.1.head.type), .ro (.int .u16 x2.1.head.seq), .ro (.int .u32 x2.1.head.time), .ro (.int .u32 x2.1.head.ssrc), .ro (.list 1 (List.map (ei .u32) x2.1.head.csrc)), .ro (.int .u16 x2.1.profile), .ro (.list 1 (List.map e8 x2.1.ext)), .ro (.list 1 (List.map e8 x2.1.payload)), .ro (.int .i64 x2.1.pad)])), (9, some (.arr 43 2 (List.map cells_Elem s.1))), (41000, some (.arr 43 2 (List.map cells_Elem x3))), (43000, some (.arr 43 2 (List.map cells_Elem x4)))]⟩) h ?_) (.c rfl (.c rfl (.c rfl (.c rfl (.c rfl (.c rfl (.c rfl .n))))))) (.c rfl (.c rfl (.c rfl (.c rfl (.c rfl (.c rfl .n))))))
      rintro ⟨v5, v6⟩ u1 h ih1 hx1
      replace h : law29_PlanElements_s1 z p k x2 x3 x4 v5 v6 = _ := h
      unfold law29_PlanElements_s1 at h
      refine .sq ?_
      refine .sq ?_
      refine .rg (u (mv (.t rfl)) <| u (mv (.t rfl)) <| u (lom sf25 (.t rfl) rfl) <| u (bc (.t rfl) (.t rfl) rfl rfl) <| .nil _) rfl ?_
      refine .bq h (.t rfl) (fun h => ?_) (fun h => ?_)
      · refine .skp ?_
        refine .sq ?_
        refine .bl ?_
        refine .sq ?_
        refine be h fun x7 hx7 h => ?_
        refine .rg (u (mv (.t rfl)) <| u (mv (.t rfl)) <| u (io sf25 (.t rfl) rfl (.t rfl) (ix_map cells_Elem hx7)) <| u (le tf43 (.t rfl) rfl (ix_lt (ix_map _ hx7)).2.2 rfl) <| al 11 zf43 rfl <| st tf43 (.t rfl) rfl (.t rfl) rfl rfl rfl <| .nil _) rfl ?_
        refine .sq ?_
        refine .rg (u (asg .b) <| .nil _) rfl ?_
        refine .sq ?_
        refine .sq ?_
        refine .rg (u (asg (.i rfl)) <| .nil _) rfl ?_
        refine .bl ?_
        unfold law29_PlanElements_l2 at h
        refine .kq (.lo (fun (s : Bool × Int) => ⟨[(2, .ptr 2 0), (3, .ptr 3 0), (5, .ptr 5 0), (7, .own 41000), (8, .own 43000), (9, .own 9), (10, .ro (.int .i64 v6)), (11, .ptr 11 0), (12, .ro (.bool s.1)), (13, .ro (.int .i64 s.2))], [(2, some (.box [.ro (.bool p.setMarker), .ro (.bool p.marker), .ro (.bool p.setType), .ro (.int .i64 p.type), .ro (.bool p.setSeq), .ro (.int .u16 p.seq), .ro (.bool p.setTime), .ro (.int .u32 p.time), .ro (.bool p.setSsrc), .ro (.int .u32 p.ssrc), .ro (.list 2 (List.map cells_GMap p.maps)), .ro (.list 2 (List.map cells_Elem p.over)), .ro (.list 1 (List.map (ei .i64) p.drops)), .ro (.list 2 (List.map cells_Elem p.adds)), .ro (.bool p.noPad)])), (3, some (.box [.ro (.bool k.head.hasPad), .ro (.bool k.head.hasExt), .ro (.bool k.head.marker), .ro (.int .i64 k.head.type), .ro (.int .u16 k.head.seq), .ro (.int .u32 k.head.time), .ro (.int .u32 k.head.ssrc), .ro (.list 1 (List.map (ei .u32) k.head.csrc)), .ro (.int .u16 k.profile), .ro (.list 1 (List.map e8 k.ext)), .ro (.list 1 (List.map e8 k.payload)), .ro (.int .i64 k.pad)])), (5, some (.box [.ro (.bool x2.1.head.hasPad), .ro (.bool x2.1.head.hasExt), .ro (.bool x2.1.head.marker), .ro (.int .i64 x2.1.head.type), .ro (.int .u16 x2.1.head.seq), .ro (.int .u32 x2.1.head.time), .ro (.int .u32 x2.1.head.ssrc), .ro (.list 1 (List.map (ei .u32) x2.1.head.csrc)), .ro (.int .u16 x2.1.profile), .ro (.list 1 (List.map e8 x2.1.ext)), .ro (.list 1 (List.map e8 x2.1.payload)), .ro (.int .i64 x2.1.pad)])), (9, some (.arr 43 2 (List.map cells_Elem v5))), (11, some (.box [.ro (.int .i64 x7.id_), .ro (.list 1 (List.map e8 x7.data))])), (41000, some (.arr 43 2 (List.map cells_Elem x3))), (43000, some (.arr 43 2 (List.map cells_Elem x4)))]⟩) h ?_) (.c rfl (.c rfl (.c rfl (.c rfl (.c rfl (.c rfl (.c rfl (.c rfl (.c rfl (.c rfl .n)))))))))) (.c rfl (.c rfl (.c rfl (.c rfl (.c rfl (.c rfl (.c rfl .n)))))))
        rintro ⟨v8, v9⟩ u2 h ih2 hx2
        replace h : law29_PlanElements_s2 z p x3 v5 v6 x7 v8 v9 = _ := h
        unfold law29_PlanElements_s2 at h
        refine .sq ?_
        refine .sq ?_
        refine .rg (u (mv (.t rfl)) <| u (fa ff28_12 (.t rfl)) <| u (ld tf26 (.t rfl) rfl rfl) <| u (lnm sf26 (.t rfl)) <| u (bc (.t rfl) (.t rfl) rfl rfl) <| .nil _) rfl ?_
        refine .bq h (.t rfl) (fun h => ?_) (fun h => ?_)
        · refine .skp ?_
          refine .sq ?_
          refine .bl ?_
          refine be h fun x10 hx10 h => ?_
          refine be h fun x11 hx11 h => ?_
          refine .rd mixed (u (mv (.t rfl)) <| u (mv (.t rfl)) <| gd rfl rfl (fun hB => fa ff28_12 (.t rfl)) <| gd rfl rfl (fun hB => ld tf26 (.m rfl hB) rfl rfl) <| gd rfl rfl (fun hB => mv (.t rfl)) <| gd rfl rfl (fun hB => ia sf26 (.m rfl hB) (.m rfl hB) (ix_map (ei .i64) (gTt hx10 (nt hB)))) <| gd rfl rfl (fun hB => lr tf3 (.m rfl hB) rfl) <| gd rfl rfl (fun hB => mv (.t rfl)) <| gd rfl rfl (fun hB => mv (.t rfl)) <| gd rfl rfl (fun hB => io sf25 (.m rfl hB) rfl (.m rfl hB) (ix_map cells_Elem (gTt hx11 (nt hB)))) <| gd rfl rfl (fun hB => fa ff43_0 (.m rfl hB)) <| gd rfl rfl (fun hB => lef tf3 (.m rfl hB) rfl (ix_lt (ix_map cells_Elem (gTt hx11 (nt hB)))).2.2 rfl rfl) <| gd rfl rfl (fun hB => bc (.m rfl hB) (.m rfl hB) rfl rfl) <| u (pko (.t rfl) (.t rfl)) <| u (asg (.t rfl)) <| .nil _) (by kernel_rfl) rfl ?_
          refine .ib ?_
          refine .rg (u (mv (.t rfl)) <| u (bi (.t rfl) (.i rfl) rfl) <| u (asg (.t rfl)) <| .nil _) rfl ?_
          exact .kq (.il (ih2 ((v8 || (cm .eql x10 x11.id_)), (ar .add .i64 v9 1)) (nxi h))) (.c rfl (.c rfl (.c rfl (.c rfl (.c rfl (.c rfl (.c rfl (.c rfl (.c rfl (.c rfl .n)))))))))) (.c rfl (.c rfl (.c rfl (.c rfl (.c rfl (.c rfl (.c rfl .n)))))))
        · refine .xt rfl ?_
          replace h := mpR h hx2
          refine .sq ?_
          refine .sq ?_
          refine .rg (u (asg (.i rfl)) <| .nil _) rfl ?_
          refine .bl ?_
          unfold law29_PlanElements_l3 at h
          refine .kq (.lo (fun (s : Int × Elem) => ⟨[(2, .ptr 2 0), (3, .ptr 3 0), (5, .ptr 5 0), (7, .own 41000), (8, .own 43000), (9, .own 9), (10, .ro (.int .i64 v6)), (11, .ptr 11 0), (12, .ro (.bool v8)), (14, .ro (.int .i64 s.1))], [(2, some (.box [.ro (.bool p.setMarker), .ro (.bool p.marker), .ro (.bool p.setType), .ro (.int .i64 p.type), .ro (.bool p.setSeq), .ro (.int .u16 p.seq), .ro (.bool p.setTime), .ro (.int .u32 p.time), .ro (.bool p.setSsrc), .ro (.int .u32 p.ssrc), .ro (.list 2 (List.map cells_GMap p.maps)), .ro (.list 2 (List.map cells_Elem p.over)), .ro (.list 1 (List.map (ei .i64) p.drops)), .ro (.list 2 (List.map cells_Elem p.adds)), .ro (.bool p.noPad)])), (3, some (.box [.ro (.bool k.head.hasPad), .ro (.bool k.head.hasExt), .ro (.bool k.head.marker), .ro (.int .i64 k.head.type), .ro (.int .u16 k.head.seq), .ro (.int .u32 k.head.time), .ro (.int .u32 k.head.ssrc), .ro (.list 1 (List.map (ei .u32) k.head.csrc)), .ro (.int .u16 k.profile), .ro (.list 1 (List.map e8 k.ext)), .ro (.list 1 (List.map e8 k.payload)), .ro (.int .i64 k.pad)])), (5, some (.box [.ro (.bool x2.1.head.hasPad), .ro (.bool x2.1.head.hasExt), .ro (.bool x2.1.head.marker), .ro (.int .i64 x2.1.head.type), .ro (.int .u16 x2.1.head.seq), .ro (.int .u32 x2.1.head.time), .ro (.int .u32 x2.1.head.ssrc), .ro (.list 1 (List.map (ei .u32) x2.1.head.csrc)), .ro (.int .u16 x2.1.profile), .ro (.list 1 (List.map e8 x2.1.ext)), .ro (.list 1 (List.map e8 x2.1.payload)), .ro (.int .i64 x2.1.pad)])), (9, some (.arr 43 2 (List.map cells_Elem v5))), (11, some (.box [.ro (.int .i64 s.2.id_), .ro (.list 1 (List.map e8 s.2.data))])), (41000, some (.arr 43 2 (List.map cells_Elem x3))), (43000, some (.arr 43 2 (List.map cells_Elem x4)))]⟩) h ?_) (.c rfl (.c rfl (.c rfl (.c rfl (.c rfl (.c rfl (.c rfl (.c rfl (.c rfl (.c rfl .n)))))))))) (.c rfl (.c rfl (.c rfl (.c rfl (.c rfl (.c rfl (.c rfl .n)))))))
          rintro ⟨v12, v13⟩ u3 h ih3 hx3
          replace h : law29_PlanElements_s3 z p x3 v5 v6 v8 v12 v13 = _ := h
          unfold law29_PlanElements_s3 at h
          refine .sq ?_
          refine .sq ?_
          refine .rg (u (mv (.t rfl)) <| u (fa ff28_11 (.t rfl)) <| u (ld tf25 (.t rfl) rfl rfl) <| u (lnm sf25 (.t rfl)) <| u (bc (.t rfl) (.t rfl) rfl rfl) <| .nil _) rfl ?_
          refine .bq h (.t rfl) (fun h => ?_) (fun h => ?_)
          · refine .skp ?_
            refine .sq ?_
            refine .bl ?_
            refine .sq ?_
            refine be h fun x14 hx14 h => ?_
            refine be h fun x15 hx15 h => ?_
            refine .rd mixed (u (fa ff28_11 (.t rfl)) <| u (ld tf25 (.t rfl) rfl rfl) <| u (mv (.t rfl)) <| u (ia sf25 (.t rfl) (.t rfl) (ix_map cells_Elem hx14)) <| u (fr ff43_0 (.t rfl) rfl) <| u (lr tf3 (.t rfl) rfl) <| u (mv (.t rfl)) <| u (mv (.t rfl)) <| u (io sf25 (.t rfl) rfl (.t rfl) (ix_map cells_Elem hx15)) <| u (fa ff43_0 (.t rfl)) <| u (lef tf3 (.t rfl) rfl (ix_lt (ix_map cells_Elem hx15)).2.2 rfl rfl) <| u (bc (.t rfl) (.t rfl) rfl rfl) <| .nil _) (by kernel_rfl) rfl ?_
            refine .jq (t := some u3) (fun (a : Elem) => ⟨[(2, .ptr 2 0), (3, .ptr 3 0), (5, .ptr 5 0), (7, .own 41000), (8, .own 43000), (9, .own 9), (10, .ro (.int .i64 v6)), (11, .ptr 11 0), (12, .ro (.bool v8)), (14, .ro (.int .i64 v12))], [(2, some (.box [.ro (.bool p.setMarker), .ro (.bool p.marker), .ro (.bool p.setType), .ro (.int .i64 p.type), .ro (.bool p.setSeq), .ro (.int .u16 p.seq), .ro (.bool p.setTime), .ro (.int .u32 p.time), .ro (.bool p.setSsrc), .ro (.int .u32 p.ssrc), .ro (.list 2 (List.map cells_GMap p.maps)), .ro (.list 2 (List.map cells_Elem p.over)), .ro (.list 1 (List.map (ei .i64) p.drops)), .ro (.list 2 (List.map cells_Elem p.adds)), .ro (.bool p.noPad)])), (3, some (.box [.ro (.bool k.head.hasPad), .ro (.bool k.head.hasExt), .ro (.bool k.head.marker), .ro (.int .i64 k.head.type), .ro (.int .u16 k.head.seq), .ro (.int .u32 k.head.time), .ro (.int .u32 k.head.ssrc), .ro (.list 1 (List.map (ei .u32) k.head.csrc)), .ro (.int .u16 k.profile), .ro (.list 1 (List.map e8 k.ext)), .ro (.list 1 (List.map e8 k.payload)), .ro (.int .i64 k.pad)])), (5, some (.box [.ro (.bool x2.1.head.hasPad), .ro (.bool x2.1.head.hasExt), .ro (.bool x2.1.head.marker), .ro (.int .i64 x2.1.head.type), .ro (.int .u16 x2.1.head.seq), .ro (.int .u32 x2.1.head.time), .ro (.int .u32 x2.1.head.ssrc), .ro (.list 1 (List.map (ei .u32) x2.1.head.csrc)), .ro (.int .u16 x2.1.profile), .ro (.list 1 (List.map e8 x2.1.ext)), .ro (.list 1 (List.map e8 x2.1.payload)), .ro (.int .i64 x2.1.pad)])), (9, some (.arr 43 2 (List.map cells_Elem v5))), (11, some (.box [.ro (.int .i64 a.id_), .ro (.list 1 (List.map e8 a.data))])), (41000, some (.arr 43 2 (List.map cells_Elem x3))), (43000, some (.arr 43 2 (List.map cells_Elem x4)))]⟩) (fun (a : Elem) => law29_PlanElements_j4 z v12 a) ?_ (fun J4 => ?_)
            · intro v16 h
              replace h : law29_PlanElements_j4 z v12 v16 = _ := h
              unfold law29_PlanElements_j4 at h
              refine .ib ?_
              refine .rg (u (mv (.t rfl)) <| u (bi (.t rfl) (.i rfl) rfl) <| u (asg (.t rfl)) <| .nil _) rfl ?_
              exact .kq (.il (ih3 ((ar .add .i64 v12 1), v16) (nxi h))) (.c rfl (.c rfl (.c rfl (.c rfl (.c rfl (.c rfl (.c rfl (.c rfl (.c rfl (.c rfl .n)))))))))) (.c rfl (.c rfl (.c rfl (.c rfl (.c rfl (.c rfl (.c rfl .n)))))))
            refine .bq h (.t rfl) (fun h => ?_) (fun h => ?_)
            · refine be h fun x17 hx17 h => ?_
              refine .rg (u (fa ff28_11 (.t rfl)) <| u (ld tf25 (.t rfl) rfl rfl) <| u (mv (.t rfl)) <| u (ia sf25 (.t rfl) (.t rfl) (ix_map cells_Elem hx17)) <| u (fr ff43_1 (.t rfl) rfl) <| u (lr tf32 (.t rfl) rfl) <| u (fa ff43_1 (.t rfl)) <| st tf32 (.t rfl) rfl (.t rfl) rfl rfl rfl <| .nil _) rfl ?_
              exact .kq (J4 ({ v13 with data := x17.data }) h) (.c rfl (.c rfl (.c rfl (.c rfl (.c rfl (.c rfl (.c rfl (.c rfl (.c rfl (.c rfl .n)))))))))) (.c rfl (.c rfl (.c rfl (.c rfl (.c rfl (.c rfl (.c rfl .n)))))))
            · refine .skp ?_
              exact .kq (J4 v13 h) (.c rfl (.c rfl (.c rfl (.c rfl (.c rfl (.c rfl (.c rfl (.c rfl (.c rfl (.c rfl .n)))))))))) (.c rfl (.c rfl (.c rfl (.c rfl (.c rfl (.c rfl (.c rfl .n)))))))
          · refine .xt rfl ?_
            replace h := mpR h hx3
            refine .sq ?_
            refine .sq ?_
            refine .rg (u (asg (.i rfl)) <| .nil _) rfl ?_
            refine .bl ?_
            unfold law29_PlanElements_l5 at h
            refine .kq (.lo (fun (s : Int × Elem) => ⟨[(2, .ptr 2 0), (3, .ptr 3 0), (5, .ptr 5 0), (7, .own 41000), (8, .own 43000), (9, .own 9), (10, .ro (.int .i64 v6)), (11, .ptr 11 0), (12, .ro (.bool v8)), (15, .ro (.int .i64 s.1))], [(2, some (.box [.ro (.bool p.setMarker), .ro (.bool p.marker), .ro (.bool p.setType), .ro (.int .i64 p.type), .ro (.bool p.setSeq), .ro (.int .u16 p.seq), .ro (.bool p.setTime), .ro (.int .u32 p.time), .ro (.bool p.setSsrc), .ro (.int .u32 p.ssrc), .ro (.list 2 (List.map cells_GMap p.maps)), .ro (.list 2 (List.map cells_Elem p.over)), .ro (.list 1 (List.map (ei .i64) p.drops)), .ro (.list 2 (List.map cells_Elem p.adds)), .ro (.bool p.noPad)])), (3, some (.box [.ro (.bool k.head.hasPad), .ro (.bool k.head.hasExt), .ro (.bool k.head.marker), .ro (.int .i64 k.head.type), .ro (.int .u16 k.head.seq), .ro (.int .u32 k.head.time), .ro (.int .u32 k.head.ssrc), .ro (.list 1 (List.map (ei .u32) k.head.csrc)), .ro (.int .u16 k.profile), .ro (.list 1 (List.map e8 k.ext)), .ro (.list 1 (List.map e8 k.payload)), .ro (.int .i64 k.pad)])), (5, some (.box [.ro (.bool x2.1.head.hasPad), .ro (.bool x2.1.head.hasExt), .ro (.bool x2.1.head.marker), .ro (.int .i64 x2.1.head.type), .ro (.int .u16 x2.1.head.seq), .ro (.int .u32 x2.1.head.time), .ro (.int .u32 x2.1.head.ssrc), .ro (.list 1 (List.map (ei .u32) x2.1.head.csrc)), .ro (.int .u16 x2.1.profile), .ro (.list 1 (List.map e8 x2.1.ext)), .ro (.list 1 (List.map e8 x2.1.payload)), .ro (.int .i64 x2.1.pad)])), (9, some (.arr 43 2 (List.map cells_Elem v5))), (11, some (.box [.ro (.int .i64 s.2.id_), .ro (.list 1 (List.map e8 s.2.data))])), (41000, some (.arr 43 2 (List.map cells_Elem x3))), (43000, some (.arr 43 2 (List.map cells_Elem x4)))]⟩) h ?_) (.c rfl (.c rfl (.c rfl (.c rfl (.c rfl (.c rfl (.c rfl (.c rfl (.c rfl (.c rfl .n)))))))))) (.c rfl (.c rfl (.c rfl (.c rfl (.c rfl (.c rfl (.c rfl .n)))))))
            rintro ⟨v18, v19⟩ u5 h ih5 hx5
            replace h : law29_PlanElements_s5 z p x3 v5 v6 v8 v18 v19 = _ := h
            unfold law29_PlanElements_s5 at h
            refine .sq ?_
            refine .sq ?_
            refine .rg (u (mv (.t rfl)) <| u (fa ff28_10 (.t rfl)) <| u (ld tf24 (.t rfl) rfl rfl) <| u (lnm sf24 (.t rfl)) <| u (bc (.t rfl) (.t rfl) rfl rfl) <| .nil _) rfl ?_
            refine .bq h (.t rfl) (fun h => ?_) (fun h => ?_)
            · refine .skp ?_
              refine .sq ?_
              refine .bl ?_
              refine .sq ?_
              refine be h fun x20 hx20 h => ?_
              refine be h fun x21 hx21 h => ?_
              refine .rd mixed (u (fa ff28_10 (.t rfl)) <| u (ld tf24 (.t rfl) rfl rfl) <| u (mv (.t rfl)) <| u (ia sf24 (.t rfl) (.t rfl) (ix_map cells_GMap hx20)) <| u (fr ff45_0 (.t rfl) rfl) <| u (lr tf3 (.t rfl) rfl) <| u (mv (.t rfl)) <| u (mv (.t rfl)) <| u (io sf25 (.t rfl) rfl (.t rfl) (ix_map cells_Elem hx21)) <| u (fa ff43_0 (.t rfl)) <| u (lef tf3 (.t rfl) rfl (ix_lt (ix_map cells_Elem hx21)).2.2 rfl rfl) <| u (bc (.t rfl) (.t rfl) rfl rfl) <| .nil _) (by kernel_rfl) rfl ?_
              refine .jq (t := some u5) (fun (a : Elem) => ⟨[(2, .ptr 2 0), (3, .ptr 3 0), (5, .ptr 5 0), (7, .own 41000), (8, .own 43000), (9, .own 9), (10, .ro (.int .i64 v6)), (11, .ptr 11 0), (12, .ro (.bool v8)), (15, .ro (.int .i64 v18))], [(2, some (.box [.ro (.bool p.setMarker), .ro (.bool p.marker), .ro (.bool p.setType), .ro (.int .i64 p.type), .ro (.bool p.setSeq), .ro (.int .u16 p.seq), .ro (.bool p.setTime), .ro (.int .u32 p.time), .ro (.bool p.setSsrc), .ro (.int .u32 p.ssrc), .ro (.list 2 (List.map cells_GMap p.maps)), .ro (.list 2 (List.map cells_Elem p.over)), .ro (.list 1 (List.map (ei .i64) p.drops)), .ro (.list 2 (List.map cells_Elem p.adds)), .ro (.bool p.noPad)])), (3, some (.box [.ro (.bool k.head.hasPad), .ro (.bool k.head.hasExt), .ro (.bool k.head.marker), .ro (.int .i64 k.head.type), .ro (.int .u16 k.head.seq), .ro (.int .u32 k.head.time), .ro (.int .u32 k.head.ssrc), .ro (.list 1 (List.map (ei .u32) k.head.csrc)), .ro (.int .u16 k.profile), .ro (.list 1 (List.map e8 k.ext)), .ro (.list 1 (List.map e8 k.payload)), .ro (.int .i64 k.pad)])), (5, some (.box [.ro (.bool x2.1.head.hasPad), .ro (.bool x2.1.head.hasExt), .ro (.bool x2.1.head.marker), .ro (.int .i64 x2.1.head.type), .ro (.int .u16 x2.1.head.seq), .ro (.int .u32 x2.1.head.time), .ro (.int .u32 x2.1.head.ssrc), .ro (.list 1 (List.map (ei .u32) x2.1.head.csrc)), .ro (.int .u16 x2.1.profile), .ro (.list 1 (List.map e8 x2.1.ext)), .ro (.list 1 (List.map e8 x2.1.payload)), .ro (.int .i64 x2.1.pad)])), (9, some (.arr 43 2 (List.map cells_Elem v5))), (11, some (.box [.ro (.int .i64 a.id_), .ro (.list 1 (List.map e8 a.data))])), (41000, some (.arr 43 2 (List.map cells_Elem x3))), (43000, some (.arr 43 2 (List.map cells_Elem x4)))]⟩) (fun (a : Elem) => law29_PlanElements_j6 z v18 a) ?_ (fun J6 => ?_)
              · intro v22 h
                replace h : law29_PlanElements_j6 z v18 v22 = _ := h
                unfold law29_PlanElements_j6 at h
                refine .ib ?_
                refine .rg (u (mv (.t rfl)) <| u (bi (.t rfl) (.i rfl) rfl) <| u (asg (.t rfl)) <| .nil _) rfl ?_
                exact .kq (.il (ih5 ((ar .add .i64 v18 1), v22) (nxi h))) (.c rfl (.c rfl (.c rfl (.c rfl (.c rfl (.c rfl (.c rfl (.c rfl (.c rfl (.c rfl .n)))))))))) (.c rfl (.c rfl (.c rfl (.c rfl (.c rfl (.c rfl (.c rfl .n)))))))
              refine .bq h (.t rfl) (fun h => ?_) (fun h => ?_)
              · refine be h fun x23 hx23 h => ?_
                refine .rg (u (fa ff28_10 (.t rfl)) <| u (ld tf24 (.t rfl) rfl rfl) <| u (mv (.t rfl)) <| u (ia sf24 (.t rfl) (.t rfl) (ix_map cells_GMap hx23)) <| u (fr ff45_1 (.t rfl) rfl) <| u (lr tf3 (.t rfl) rfl) <| u (fa ff43_0 (.t rfl)) <| st tf3 (.t rfl) rfl (.t rfl) rfl rfl rfl <| .nil _) rfl ?_
                exact .kq (J6 ({ v19 with id_ := x23.to }) h) (.c rfl (.c rfl (.c rfl (.c rfl (.c rfl (.c rfl (.c rfl (.c rfl (.c rfl (.c rfl .n)))))))))) (.c rfl (.c rfl (.c rfl (.c rfl (.c rfl (.c rfl (.c rfl .n)))))))
              · refine .skp ?_
                exact .kq (J6 v19 h) (.c rfl (.c rfl (.c rfl (.c rfl (.c rfl (.c rfl (.c rfl (.c rfl (.c rfl (.c rfl .n)))))))))) (.c rfl (.c rfl (.c rfl (.c rfl (.c rfl (.c rfl (.c rfl .n)))))))
            · refine .xt rfl ?_
              replace h := mpR h hx5
              refine .sq ?_
              refine .rg (u (mv (.t rfl)) <| u (no (.t rfl)) <| .nil _) rfl ?_
              refine .jq (t := some u1) (fun (a : List Elem) => ⟨[(2, .ptr 2 0), (3, .ptr 3 0), (5, .ptr 5 0), (7, .own 41000), (8, .own 43000), (9, .own 9), (10, .ro (.int .i64 v6))], [(2, some (.box [.ro (.bool p.setMarker), .ro (.bool p.marker), .ro (.bool p.setType), .ro (.int .i64 p.type), .ro (.bool p.setSeq), .ro (.int .u16 p.seq), .ro (.bool p.setTime), .ro (.int .u32 p.time), .ro (.bool p.setSsrc), .ro (.int .u32 p.ssrc), .ro (.list 2 (List.map cells_GMap p.maps)), .ro (.list 2 (List.map cells_Elem p.over)), .ro (.list 1 (List.map (ei .i64) p.drops)), .ro (.list 2 (List.map cells_Elem p.adds)), .ro (.bool p.noPad)])), (3, some (.box [.ro (.bool k.head.hasPad), .ro (.bool k.head.hasExt), .ro (.bool k.head.marker), .ro (.int .i64 k.head.type), .ro (.int .u16 k.head.seq), .ro (.int .u32 k.head.time), .ro (.int .u32 k.head.ssrc), .ro (.list 1 (List.map (ei .u32) k.head.csrc)), .ro (.int .u16 k.profile), .ro (.list 1 (List.map e8 k.ext)), .ro (.list 1 (List.map e8 k.payload)), .ro (.int .i64 k.pad)])), (5, some (.box [.ro (.bool x2.1.head.hasPad), .ro (.bool x2.1.head.hasExt), .ro (.bool x2.1.head.marker), .ro (.int .i64 x2.1.head.type), .ro (.int .u16 x2.1.head.seq), .ro (.int .u32 x2.1.head.time), .ro (.int .u32 x2.1.head.ssrc), .ro (.list 1 (List.map (ei .u32) x2.1.head.csrc)), .ro (.int .u16 x2.1.profile), .ro (.list 1 (List.map e8 x2.1.ext)), .ro (.list 1 (List.map e8 x2.1.payload)), .ro (.int .i64 x2.1.pad)])), (9, some (.arr 43 2 (List.map cells_Elem a))), (41000, some (.arr 43 2 (List.map cells_Elem x3))), (43000, some (.arr 43 2 (List.map cells_Elem x4)))]⟩) (fun (a : List Elem) => law29_PlanElements_j7 z v6 a) ?_ (fun J7 => ?_)
              · intro v24 h
                replace h : law29_PlanElements_j7 z v6 v24 = _ := h
                unfold law29_PlanElements_j7 at h
                refine .ib ?_
                refine .rg (u (mv (.t rfl)) <| u (bi (.t rfl) (.i rfl) rfl) <| u (asg (.t rfl)) <| .nil _) rfl ?_
                exact .kq (.il (ih1 (v24, (ar .add .i64 v6 1)) (nxi h))) (.c rfl (.c rfl (.c rfl (.c rfl (.c rfl (.c rfl (.c rfl .n))))))) (.c rfl (.c rfl (.c rfl (.c rfl (.c rfl (.c rfl .n))))))
              refine .bq h (.t rfl) (fun h => ?_) (fun h => ?_)
              · refine be h fun x25 hx25 h => ?_
                refine .rg (u (mv (.t rfl)) <| u (ld tf43 (.t rfl) rfl rfl) <| bs (F := cells_Elem) (l := [v19]) 130 pf25 (.c (.t rfl) rfl <| .n) rfl (fun _ _ => rfl) rfl rfl <| apo 131 pf25 (.t rfl) rfl (.t rfl) rfl hx25 rfl <| u (asg (.t rfl)) <| .nil _) rfl ?_
                exact .ks (fun i => bif Nat.beq i 9 then 131 else i) (J7 x25 h) (.c rfl (.c rfl (.c rfl (.c rfl (.c rfl (.c rfl (.c rfl .n))))))) (.c rfl (.c rfl (.c rfl (.c rfl (.c rfl (.c rfl .n)))))) rfl
              · refine .skp ?_
                exact .kq (J7 v5 h) (.c rfl (.c rfl (.c rfl (.c rfl (.c rfl (.c rfl (.c rfl .n))))))) (.c rfl (.c rfl (.c rfl (.c rfl (.c rfl (.c rfl .n))))))
      · refine .xt rfl ?_
        replace h := mpR h hx1
        refine .sq ?_
        refine be h fun x26 hx26 h => ?_
        refine .rg (u (mv (.t rfl)) <| u (fa ff28_13 (.t rfl)) <| u (ld tf25 (.t rfl) rfl rfl) <| ap 135 pf25 (.t rfl) rfl (.t rfl) hx26 rfl <| u (asg (.t rfl)) <| .nil _) rfl ?_
        refine .sq ?_
        refine be h fun x27 hx27 h => ?_
        refine be h fun x28 hx28 h => ?_
        refine .rd mixed (u (mv (.t rfl)) <| u (mv (.t rfl)) <| cl [] cf11 (ref08_Same_c hx27) (.b (.t rfl) rfl <| .b (.t rfl) rfl <| .n) (.inr rfl) <| u (mv (.t rfl)) <| gd rfl rfl (fun hB => mv (.t rfl)) <| cg rfl rfl cf12 (fun hB => (elem_Right_c (gTt hx28 hB))) (fun hB => .b (.m rfl hB) rfl <| .n) (.inr rfl) <| u (pka (.t rfl) (.t rfl)) <| u (mv (.t rfl)) <| gd rfl rfl (fun hB => fa ff34_0 (.t rfl)) <| gd rfl rfl (fun hB => fa ff31_1 (.m rfl hB)) <| gd rfl rfl (fun hB => ld tf4 (.m rfl hB) rfl rfl) <| gd rfl rfl (fun hB => mv (.t rfl)) <| gd rfl rfl (fun hB => lom sf25 (.m rfl hB) rfl) <| gd rfl rfl (fun hB => bc (.m rfl hB) (.i rfl) rfl rfl) <| gd rfl rfl (fun hB => mv (.m rfl hB)) <| gm rfl rfl (fun hB => fa ff28_12 (.t rfl)) <| gm rfl rfl (fun hB => ld tf26 (.m rfl hB) rfl rfl) <| gm rfl rfl (fun hB => fa ff28_13 (.t rfl)) <| gm rfl rfl (fun hB => ld tf25 (.m rfl hB) rfl rfl) <| gm rfl rfl (fun hB => bd bf28 zf28 (.c rfl (.m rfl hB) rfl rfl rfl <| .c rfl (.m rfl hB) rfl rfl rfl <| .n) rfl) <| cgm rfl rfl cf13 (fun hB => (plan_Keeps_c (Plan.mk false false false 0 false 0 false 0 false 0 [] [] p.drops p.adds false))) (fun hB => .c (.m rfl hB) <| .n) (.inl rfl) <| gm rfl rfl (fun hB => mv (.m rfl hB)) <| gm rfl rfl (fun hB => fa ff34_0 (.t rfl)) <| gm rfl rfl (fun hB => fa ff31_1 (.m rfl hB)) <| gm rfl rfl (fun hB => ld tf4 (.m rfl hB) rfl rfl) <| gm rfl rfl (fun hB => pkam (.m rfl hB) (.t rfl) hB) <| gd rfl rfl (fun hB => pkom (.m rfl hB) (.t rfl) hB) <| gd rfl rfl (fun hB => be2 ub4 (.m rfl hB) (.m rfl hB) rfl) <| u (pka (.t rfl) (.t rfl)) <| u (asg (.t rfl)) <| .nil _) (by kernel_rfl) rfl ?_
        obtain rfl := Option.some.inj h
        exact .rt Try.func3 (.t rfl <| .n) .n rfl rfl

theorem ref05_Numbers_c {z : Option Nat} {p_a : List Int} {b : List Int} {r : Bool} (h : ref05_Numbers z p_a b = some r) :
    AC Try.prog 43 [.ro (.list 1 (List.map (ei .u32) p_a)), .ro (.list 1 (List.map (ei .u32) b))] (.ro (.bool r)) [] := by
  refine AC.of Try.func43 rfl rfl fun w M0 hM => ?_
  unfold ref05_Numbers at h
  refine .sq ?_
  refine .rg (u (asg .b) <| .nil _) rfl ?_
  refine .sq ?_
  refine .sq ?_
  refine .rg (u (mv (.t rfl)) <| u (lnm sf29 (.t rfl)) <| u (mv (.t rfl)) <| u (lnm sf29 (.t rfl)) <| u (bc (.t rfl) (.t rfl) rfl rfl) <| .nil _) rfl ?_
  refine .bq h (.t rfl) (fun h => ?_) (fun h => ?_)
  · refine .sq ?_
    refine .rg (u (asg .b) <| .nil _) rfl ?_
    obtain rfl := Option.some.inj h
    exact .rt Try.func43 (.t rfl <| .n) .n rfl rfl
  · refine .skp ?_
    refine .sq ?_
    refine .sq ?_
    refine .rg (u (asg (.i rfl)) <| .nil _) rfl ?_
    refine .bl ?_
    unfold ref05_Numbers_l1 at h
    refine .kq (.lo (fun (s : Int) => ⟨[(0, .ro (.list 1 (List.map (ei .u32) p_a))), (1, .ro (.list 1 (List.map (ei .u32) b))), (5, .ro (.int .i64 s))], []⟩) h ?_) (.c rfl (.c rfl (.c rfl .n))) .n
    intro v1 u1 h ih1 hx1
    replace h : ref05_Numbers_s1 z p_a b v1 = _ := h
    unfold ref05_Numbers_s1 at h
    refine .sq ?_
    refine .sq ?_
    refine .rg (u (mv (.t rfl)) <| u (mv (.t rfl)) <| u (lnm sf29 (.t rfl)) <| u (bc (.t rfl) (.t rfl) rfl rfl) <| .nil _) rfl ?_
    refine .bq h (.t rfl) (fun h => ?_) (fun h => ?_)
    · refine .skp ?_
      refine .sq ?_
      refine .bl ?_
      refine .sq ?_
      refine be h fun x2 hx2 h => ?_
      refine be h fun x3 hx3 h => ?_
      refine .rd mixed (u (mv (.t rfl)) <| u (mv (.t rfl)) <| u (ia sf29 (.t rfl) (.t rfl) (ix_map (ei .u32) hx2)) <| u (lr tf23 (.t rfl) rfl) <| u (mv (.t rfl)) <| u (mv (.t rfl)) <| u (ia sf29 (.t rfl) (.t rfl) (ix_map (ei .u32) hx3)) <| u (lr tf23 (.t rfl) rfl) <| u (bc (.t rfl) (.t rfl) rfl rfl) <| .nil _) (by kernel_rfl) rfl ?_
      refine .bq h (.t rfl) (fun h => ?_) (fun h => ?_)
      · refine .sq ?_
        refine .rg (u (asg .b) <| .nil _) rfl ?_
        replace h := mpR h hx1
        obtain rfl := Option.some.inj h
        exact .rt Try.func43 (.t rfl <| .n) .n rfl rfl
      · refine .skp ?_
        refine .ib ?_
        refine .rg (u (mv (.t rfl)) <| u (bi (.t rfl) (.i rfl) rfl) <| u (asg (.t rfl)) <| .nil _) rfl ?_
        exact .kq (.il (ih1 (ar .add .i64 v1 1) (nxi h))) (.c rfl (.c rfl (.c rfl .n))) .n
    · refine .xt rfl ?_
      replace h := mpR h hx1
      refine .sq ?_
      refine .rg (u (asg .b) <| .nil _) rfl ?_
      obtain rfl := Option.some.inj h
      exact .rt Try.func43 (.t rfl <| .n) .n rfl rfl

theorem ref05_Same_c {z : Option Nat} {p_a : Head} {b : Head} {r : Bool} (h : ref05_Same z p_a b = some r) :
    AC Try.prog 23 [.ro (enc_Head p_a), .ro (enc_Head b)] (.ro (.bool r)) [] := by
  refine AC.of Try.func23 rfl rfl fun w M0 hM => ?_
  unfold ref05_Same at h
  refine .sq ?_
  refine .rg (bx 2 (.t rfl) rfl rfl <| bx 3 (.t rfl) rfl rfl <| u (asg .b) <| .nil _) rfl ?_
  refine .sq ?_
  refine be h fun x1 hx1 h => ?_
  refine .rg (u (fa ff31_0 (.t rfl)) <| u (ld tf4 (.t rfl) rfl rfl) <| u (fa ff31_0 (.t rfl)) <| u (ld tf4 (.t rfl) rfl rfl) <| u (be2 ub4 (.t rfl) (.t rfl) rfl) <| u (mv (.t rfl)) <| gd rfl rfl (fun hB => fa ff31_1 (.t rfl)) <| gd rfl rfl (fun hB => ld tf4 (.m rfl hB) rfl rfl) <| gd rfl rfl (fun hB => fa ff31_1 (.t rfl)) <| gd rfl rfl (fun hB => ld tf4 (.m rfl hB) rfl rfl) <| gd rfl rfl (fun hB => be2 ub4 (.m rfl hB) (.m rfl hB) rfl) <| u (pka (.t rfl) (.t rfl)) <| u (mv (.t rfl)) <| gd rfl rfl (fun hB => fa ff31_2 (.t rfl)) <| gd rfl rfl (fun hB => ld tf4 (.m rfl hB) rfl rfl) <| gd rfl rfl (fun hB => fa ff31_2 (.t rfl)) <| gd rfl rfl (fun hB => ld tf4 (.m rfl hB) rfl rfl) <| gd rfl rfl (fun hB => be2 ub4 (.m rfl hB) (.m rfl hB) rfl) <| u (pka (.t rfl) (.t rfl)) <| u (mv (.t rfl)) <| gd rfl rfl (fun hB => fa ff31_3 (.t rfl)) <| gd rfl rfl (fun hB => ld tf3 (.m rfl hB) rfl rfl) <| gd rfl rfl (fun hB => fa ff31_3 (.t rfl)) <| gd rfl rfl (fun hB => ld tf3 (.m rfl hB) rfl rfl) <| gd rfl rfl (fun hB => bc (.m rfl hB) (.m rfl hB) rfl rfl) <| u (pka (.t rfl) (.t rfl)) <| u (mv (.t rfl)) <| gd rfl rfl (fun hB => fa ff31_4 (.t rfl)) <| gd rfl rfl (fun hB => ld tf22 (.m rfl hB) rfl rfl) <| gd rfl rfl (fun hB => fa ff31_4 (.t rfl)) <| gd rfl rfl (fun hB => ld tf22 (.m rfl hB) rfl rfl) <| gd rfl rfl (fun hB => bc (.m rfl hB) (.m rfl hB) rfl rfl) <| u (pka (.t rfl) (.t rfl)) <| u (mv (.t rfl)) <| gd rfl rfl (fun hB => fa ff31_5 (.t rfl)) <| gd rfl rfl (fun hB => ld tf23 (.m rfl hB) rfl rfl) <| gd rfl rfl (fun hB => fa ff31_5 (.t rfl)) <| gd rfl rfl (fun hB => ld tf23 (.m rfl hB) rfl rfl) <| gd rfl rfl (fun hB => bc (.m rfl hB) (.m rfl hB) rfl rfl) <| u (pka (.t rfl) (.t rfl)) <| u (mv (.t rfl)) <| gd rfl rfl (fun hB => fa ff31_6 (.t rfl)) <| gd rfl rfl (fun hB => ld tf23 (.m rfl hB) rfl rfl) <| gd rfl rfl (fun hB => fa ff31_6 (.t rfl)) <| gd rfl rfl (fun hB => ld tf23 (.m rfl hB) rfl rfl) <| gd rfl rfl (fun hB => bc (.m rfl hB) (.m rfl hB) rfl rfl) <| u (pka (.t rfl) (.t rfl)) <| u (mv (.t rfl)) <| gd rfl rfl (fun hB => fa ff31_7 (.t rfl)) <| gd rfl rfl (fun hB => ld tf29 (.m rfl hB) rfl rfl) <| gd rfl rfl (fun hB => fa ff31_7 (.t rfl)) <| gd rfl rfl (fun hB => ld tf29 (.m rfl hB) rfl rfl) <| cg rfl rfl cf43 (fun hB => (ref05_Numbers_c (gTt hx1 hB))) (fun hB => .c (.m rfl hB) <| .c (.m rfl hB) <| .n) (.inl rfl) <| u (pka (.t rfl) (.t rfl)) <| u (asg (.t rfl)) <| .nil _) rfl ?_
  obtain rfl := Option.some.inj h
  exact .rt Try.func23 (.t rfl <| .n) .n rfl rfl

theorem ref06_Same_c {z : Option Nat} {p_a : Packet} {b : Packet} {r : Bool} (h : ref06_Same z p_a b = some r) :
    AC Try.prog 14 [.ro (enc_Packet p_a), .ro (enc_Packet b)] (.ro (.bool r)) [] := by
  refine AC.of Try.func14 rfl rfl fun w M0 hM => ?_
  unfold ref06_Same at h
  refine .sq ?_
  refine .rg (bx 2 (.t rfl) rfl rfl <| bx 3 (.t rfl) rfl rfl <| u (asg .b) <| .nil _) rfl ?_
  refine .sq ?_
  refine be h fun x1 hx1 h => ?_
  refine .rg (u (fa ff34_0 (.t rfl)) <| u (ld tf31 (.t rfl) rfl rfl) <| u (fa ff34_0 (.t rfl)) <| u (ld tf31 (.t rfl) rfl rfl) <| cl [] cf23 (ref05_Same_c hx1) (.c (.t rfl) <| .c (.t rfl) <| .n) (.inl rfl) <| u (mv (.t rfl)) <| gd rfl rfl (fun hB => fa ff34_1 (.t rfl)) <| gd rfl rfl (fun hB => ld tf22 (.m rfl hB) rfl rfl) <| gd rfl rfl (fun hB => fa ff34_1 (.t rfl)) <| gd rfl rfl (fun hB => ld tf22 (.m rfl hB) rfl rfl) <| gd rfl rfl (fun hB => bc (.m rfl hB) (.m rfl hB) rfl rfl) <| u (pka (.t rfl) (.t rfl)) <| u (mv (.t rfl)) <| gd rfl rfl (fun hB => fa ff34_2 (.t rfl)) <| gd rfl rfl (fun hB => ld tf32 (.m rfl hB) rfl rfl) <| gd rfl rfl (fun hB => bt bt32_9 (.m rfl hB)) <| gd rfl rfl (fun hB => fa ff34_2 (.t rfl)) <| gd rfl rfl (fun hB => ld tf32 (.m rfl hB) rfl rfl) <| gd rfl rfl (fun hB => bt bt32_9 (.m rfl hB)) <| gd rfl rfl (fun hB => sq (.m rfl hB) (.m rfl hB) rfl rfl) <| u (pka (.t rfl) (.t rfl)) <| u (mv (.t rfl)) <| gd rfl rfl (fun hB => fa ff34_3 (.t rfl)) <| gd rfl rfl (fun hB => ld tf32 (.m rfl hB) rfl rfl) <| gd rfl rfl (fun hB => bt bt32_9 (.m rfl hB)) <| gd rfl rfl (fun hB => fa ff34_3 (.t rfl)) <| gd rfl rfl (fun hB => ld tf32 (.m rfl hB) rfl rfl) <| gd rfl rfl (fun hB => bt bt32_9 (.m rfl hB)) <| gd rfl rfl (fun hB => sq (.m rfl hB) (.m rfl hB) rfl rfl) <| u (pka (.t rfl) (.t rfl)) <| u (mv (.t rfl)) <| gd rfl rfl (fun hB => fa ff34_4 (.t rfl)) <| gd rfl rfl (fun hB => ld tf3 (.m rfl hB) rfl rfl) <| gd rfl rfl (fun hB => fa ff34_4 (.t rfl)) <| gd rfl rfl (fun hB => ld tf3 (.m rfl hB) rfl rfl) <| gd rfl rfl (fun hB => bc (.m rfl hB) (.m rfl hB) rfl rfl) <| u (pka (.t rfl) (.t rfl)) <| u (asg (.t rfl)) <| .nil _) rfl ?_
  obtain rfl := Option.some.inj h
  exact .rt Try.func14 (.t rfl <| .n) .n rfl rfl

theorem law29_PlanTwice_c {z : Option Nat} {k : Packet} {p : Plan} {split : Int} {r : Bool} (h : law29_PlanTwice z k p split = some r) :
    AC Try.prog 4 [.ro (enc_Packet k), .ro (enc_Plan p), .ro (.int .u8 split)] (.ro (.bool r)) [] := by
  refine AC.of Try.func4 rfl rfl fun w M0 hM => ?_
  unfold law29_PlanTwice at h
  refine .sq ?_
  refine .rg (bx 3 (.t rfl) rfl rfl <| bx 4 (.t rfl) rfl rfl <| u (asg .b) <| .nil _) rfl ?_
  refine .sq ?_
  refine .sq ?_
  refine .rg (cl [] cf5 law29_awake_k (.n) (.inl rfl) <| u (no (.t rfl)) <| .nil _) rfl ?_
  refine .cf (.t rfl) rfl ?_
  refine .skp ?_
  refine .sq ?_
  refine .sq ?_
  refine .rg (u (ld tf34 (.t rfl) rfl rfl) <| cl [] cf7 (ref06_Short_c k) (.c (.t rfl) <| .n) (.inl rfl) <| u (no (.t rfl)) <| .nil _) rfl ?_
  refine .bq h (.t rfl) (fun h => ?_) (fun h => ?_)
  · refine .sq ?_
    refine .rg (u (asg .b) <| .nil _) rfl ?_
    obtain rfl := Option.some.inj h
    exact .rt Try.func4 (.t rfl <| .n) .n rfl rfl
  · refine .skp ?_
    refine .sq ?_
    refine .rg (u (fa ff28_0 (.t rfl)) <| u (ld tf4 (.t rfl) rfl rfl) <| u (fa ff28_1 (.t rfl)) <| u (ld tf4 (.t rfl) rfl rfl) <| u (fa ff28_2 (.t rfl)) <| u (ld tf4 (.t rfl) rfl rfl) <| u (fa ff28_3 (.t rfl)) <| u (ld tf3 (.t rfl) rfl rfl) <| u (fa ff28_4 (.t rfl)) <| u (ld tf4 (.t rfl) rfl rfl) <| u (fa ff28_5 (.t rfl)) <| u (ld tf22 (.t rfl) rfl rfl) <| u (fa ff28_6 (.t rfl)) <| u (ld tf4 (.t rfl) rfl rfl) <| u (fa ff28_7 (.t rfl)) <| u (ld tf23 (.t rfl) rfl rfl) <| u (fa ff28_8 (.t rfl)) <| u (ld tf4 (.t rfl) rfl rfl) <| u (fa ff28_9 (.t rfl)) <| u (ld tf23 (.t rfl) rfl rfl) <| u (fa ff28_14 (.t rfl)) <| u (ld tf4 (.t rfl) rfl rfl) <| u (bd bf28 zf28 (.c rfl (.t rfl) rfl rfl rfl <| .c rfl (.t rfl) rfl rfl rfl <| .c rfl (.t rfl) rfl rfl rfl <| .c rfl (.t rfl) rfl rfl rfl <| .c rfl (.t rfl) rfl rfl rfl <| .c rfl (.t rfl) rfl rfl rfl <| .c rfl (.t rfl) rfl rfl rfl <| .c rfl (.t rfl) rfl rfl rfl <| .c rfl (.t rfl) rfl rfl rfl <| .c rfl (.t rfl) rfl rfl rfl <| .c rfl (.t rfl) rfl rfl rfl <| .n) rfl) <| al 7 zf28 rfl <| st tf28 (.t rfl) rfl (.t rfl) rfl rfl rfl <| .nil _) rfl ?_
    refine .sq ?_
    refine be h fun x1 hx1 h => ?_
    refine .rg (u (ld tf28 (.t rfl) rfl rfl) <| u (ld tf34 (.t rfl) rfl rfl) <| cl [] cf8 (plan_Apply_c hx1) (.c (.t rfl) <| .c (.t rfl) <| .n) (.inl rfl) <| u (mv (.t rfl)) <| u (ex (.t rfl) rfl rfl) <| u (ex (.t rfl) rfl rfl) <| al 8 zf34 rfl <| st tf34 (.t rfl) rfl (.t rfl) rfl rfl rfl <| u (asg (.t rfl)) <| .nil _) rfl ?_
    refine .sq ?_
    refine .sq ?_
    refine .rg (u (mv (.t rfl)) <| u (bc (.t rfl) (.i rfl) rfl rfl) <| .nil _) rfl ?_
    refine .bq h (.t rfl) (fun h => ?_) (fun h => ?_)
    · refine .sq ?_
      refine .rg (u (asg .b) <| .nil _) rfl ?_
      obtain rfl := Option.some.inj h
      exact .rt Try.func4 (.t rfl <| .n) .n rfl rfl
    · refine .skp ?_
      refine .sq ?_
      refine be h fun x2 hx2 h => ?_
      refine .rg (u (ld tf28 (.t rfl) rfl rfl) <| u (ld tf34 (.t rfl) rfl rfl) <| cl [] cf8 (plan_Apply_c hx2) (.c (.t rfl) <| .c (.t rfl) <| .n) (.inl rfl) <| u (mv (.t rfl)) <| u (ex (.t rfl) rfl rfl) <| u (ex (.t rfl) rfl rfl) <| al 10 zf34 rfl <| st tf34 (.t rfl) rfl (.t rfl) rfl rfl rfl <| u (asg (.t rfl)) <| .nil _) rfl ?_
      refine .sq ?_
      refine .sq ?_
      refine be h fun x3 hx3 h => ?_
      refine .rg (u (mv (.t rfl)) <| u (bc (.t rfl) (.i rfl) rfl rfl) <| u (mv (.t rfl)) <| gd rfl rfl (fun hB => ld tf34 (.t rfl) rfl rfl) <| gd rfl rfl (fun hB => ld tf34 (.t rfl) rfl rfl) <| cg rfl rfl cf14 (fun hB => (ref06_Same_c (gTt hx3 (nt hB)))) (fun hB => .c (.m rfl hB) <| .c (.m rfl hB) <| .n) (.inl rfl) <| gd rfl rfl (fun hB => no (.m rfl hB)) <| u (pko (.t rfl) (.t rfl)) <| .nil _) rfl ?_
      refine .bq h (.t rfl) (fun h => ?_) (fun h => ?_)
      · refine .sq ?_
        refine .rg (u (asg .b) <| .nil _) rfl ?_
        obtain rfl := Option.some.inj h
        exact .rt Try.func4 (.t rfl <| .n) .n rfl rfl
      · refine .skp ?_
        refine .sq ?_
        refine .rd mixed (u (ld tf28 (.t rfl) rfl rfl) <| u (ld tf28 (.t rfl) rfl rfl) <| al 12 zf28 rfl <| al 13 zf28 rfl <| st tf28 (.t rfl) rfl (.t rfl) rfl rfl rfl <| st tf28 (.t rfl) rfl (.t rfl) rfl rfl rfl <| .nil _) (by kernel_rfl) rfl ?_
        refine .sq ?_
        refine .sq ?_
        refine .rg (u (mv (.t rfl)) <| u (di (.t rfl) (.i rfl) rfl (by decide)) <| u (bc (.t rfl) (.i rfl) rfl rfl) <| .nil _) rfl ?_
        refine .jq (t := some r) (fun (a : Plan × Plan) => ⟨[(3, .ptr 3 0), (8, .ptr 8 0), (12, .ptr 12 0), (13, .ptr 13 0)], [(3, some (.box [.ro (.bool k.head.hasPad), .ro (.bool k.head.hasExt), .ro (.bool k.head.marker), .ro (.int .i64 k.head.type), .ro (.int .u16 k.head.seq), .ro (.int .u32 k.head.time), .ro (.int .u32 k.head.ssrc), .ro (.list 1 (List.map (ei .u32) k.head.csrc)), .ro (.int .u16 k.profile), .ro (.list 1 (List.map e8 k.ext)), .ro (.list 1 (List.map e8 k.payload)), .ro (.int .i64 k.pad)])), (8, some (.box [.ro (.bool x1.1.head.hasPad), .ro (.bool x1.1.head.hasExt), .ro (.bool x1.1.head.marker), .ro (.int .i64 x1.1.head.type), .ro (.int .u16 x1.1.head.seq), .ro (.int .u32 x1.1.head.time), .ro (.int .u32 x1.1.head.ssrc), .ro (.list 1 (List.map (ei .u32) x1.1.head.csrc)), .ro (.int .u16 x1.1.profile), .ro (.list 1 (List.map e8 x1.1.ext)), .ro (.list 1 (List.map e8 x1.1.payload)), .ro (.int .i64 x1.1.pad)])), (12, some (.box [.ro (.bool a.1.setMarker), .ro (.bool a.1.marker), .ro (.bool a.1.setType), .ro (.int .i64 a.1.type), .ro (.bool a.1.setSeq), .ro (.int .u16 a.1.seq), .ro (.bool a.1.setTime), .ro (.int .u32 a.1.time), .ro (.bool a.1.setSsrc), .ro (.int .u32 a.1.ssrc), .ro (.list 2 (List.map cells_GMap a.1.maps)), .ro (.list 2 (List.map cells_Elem a.1.over)), .ro (.list 1 (List.map (ei .i64) a.1.drops)), .ro (.list 2 (List.map cells_Elem a.1.adds)), .ro (.bool a.1.noPad)])), (13, some (.box [.ro (.bool a.2.setMarker), .ro (.bool a.2.marker), .ro (.bool a.2.setType), .ro (.int .i64 a.2.type), .ro (.bool a.2.setSeq), .ro (.int .u16 a.2.seq), .ro (.bool a.2.setTime), .ro (.int .u32 a.2.time), .ro (.bool a.2.setSsrc), .ro (.int .u32 a.2.ssrc), .ro (.list 2 (List.map cells_GMap a.2.maps)), .ro (.list 2 (List.map cells_Elem a.2.over)), .ro (.list 1 (List.map (ei .i64) a.2.drops)), .ro (.list 2 (List.map cells_Elem a.2.adds)), .ro (.bool a.2.noPad)]))]⟩) (fun (a : Plan × Plan) => law29_PlanTwice_j1 z k x1 a.1 a.2) ?_ (fun J1 => ?_)
        · rintro ⟨v4, v5⟩ h
          replace h : law29_PlanTwice_j1 z k x1 v4 v5 = _ := h
          unfold law29_PlanTwice_j1 at h
          refine .sq ?_
          refine be h fun x6 hx6 h => ?_
          refine .rg (u (ld tf28 (.t rfl) rfl rfl) <| u (ld tf34 (.t rfl) rfl rfl) <| cl [] cf8 (plan_Apply_c hx6) (.c (.t rfl) <| .c (.t rfl) <| .n) (.inl rfl) <| u (mv (.t rfl)) <| u (ex (.t rfl) rfl rfl) <| u (ex (.t rfl) rfl rfl) <| al 14 zf34 rfl <| st tf34 (.t rfl) rfl (.t rfl) rfl rfl rfl <| u (asg (.t rfl)) <| .nil _) rfl ?_
          refine .sq ?_
          refine be h fun x7 hx7 h => ?_
          refine .rg (u (ld tf28 (.t rfl) rfl rfl) <| u (ld tf34 (.t rfl) rfl rfl) <| cl [] cf8 (plan_Apply_c hx7) (.c (.t rfl) <| .c (.t rfl) <| .n) (.inl rfl) <| u (mv (.t rfl)) <| u (ex (.t rfl) rfl rfl) <| u (ex (.t rfl) rfl rfl) <| al 16 zf34 rfl <| st tf34 (.t rfl) rfl (.t rfl) rfl rfl rfl <| u (asg (.t rfl)) <| .nil _) rfl ?_
          refine .sq ?_
          refine be h fun x8 hx8 h => ?_
          refine .rg (u (ld tf28 (.t rfl) rfl rfl) <| u (ld tf34 (.t rfl) rfl rfl) <| cl [] cf8 (plan_Apply_c hx8) (.c (.t rfl) <| .c (.t rfl) <| .n) (.inl rfl) <| u (mv (.t rfl)) <| u (ex (.t rfl) rfl rfl) <| u (ex (.t rfl) rfl rfl) <| al 18 zf34 rfl <| st tf34 (.t rfl) rfl (.t rfl) rfl rfl rfl <| u (asg (.t rfl)) <| .nil _) rfl ?_
          refine .sq ?_
          refine be h fun x9 hx9 h => ?_
          refine .rg (u (ld tf28 (.t rfl) rfl rfl) <| u (ld tf34 (.t rfl) rfl rfl) <| cl [] cf8 (plan_Apply_c hx9) (.c (.t rfl) <| .c (.t rfl) <| .n) (.inl rfl) <| u (mv (.t rfl)) <| u (ex (.t rfl) rfl rfl) <| u (ex (.t rfl) rfl rfl) <| al 20 zf34 rfl <| st tf34 (.t rfl) rfl (.t rfl) rfl rfl rfl <| u (asg (.t rfl)) <| .nil _) rfl ?_
          refine .sq ?_
          refine be h fun x10 hx10 h => ?_
          refine be h fun x11 hx11 h => ?_
          refine .rg (u (mv (.t rfl)) <| u (bc (.t rfl) (.i rfl) rfl rfl) <| u (mv (.t rfl)) <| gd rfl rfl (fun hB => mv (.t rfl)) <| gd rfl rfl (fun hB => bc (.m rfl hB) (.i rfl) rfl rfl) <| u (pka (.t rfl) (.t rfl)) <| u (mv (.t rfl)) <| gd rfl rfl (fun hB => mv (.t rfl)) <| gd rfl rfl (fun hB => bc (.m rfl hB) (.i rfl) rfl rfl) <| u (pka (.t rfl) (.t rfl)) <| u (mv (.t rfl)) <| gd rfl rfl (fun hB => mv (.t rfl)) <| gd rfl rfl (fun hB => bc (.m rfl hB) (.i rfl) rfl rfl) <| u (pka (.t rfl) (.t rfl)) <| u (mv (.t rfl)) <| gd rfl rfl (fun hB => ld tf34 (.t rfl) rfl rfl) <| gd rfl rfl (fun hB => ld tf34 (.t rfl) rfl rfl) <| cg rfl rfl cf14 (fun hB => (ref06_Same_c (gTt hx10 hB))) (fun hB => .c (.m rfl hB) <| .c (.m rfl hB) <| .n) (.inl rfl) <| u (pka (.t rfl) (.t rfl)) <| u (mv (.t rfl)) <| gd rfl rfl (fun hB => ld tf34 (.t rfl) rfl rfl) <| gd rfl rfl (fun hB => ld tf34 (.t rfl) rfl rfl) <| cg rfl rfl cf14 (fun hB => (ref06_Same_c (gTt hx11 hB))) (fun hB => .c (.m rfl hB) <| .c (.m rfl hB) <| .n) (.inl rfl) <| u (pka (.t rfl) (.t rfl)) <| u (asg (.t rfl)) <| .nil _) rfl ?_
          obtain rfl := Option.some.inj h
          exact .rt Try.func4 (.t rfl <| .n) .n rfl rfl
        refine .bq h (.t rfl) (fun h => ?_) (fun h => ?_)
        · refine .sq ?_
          refine .rg (u (fa ff28_0 (.t rfl)) <| st tf4 (.t rfl) rfl .b rfl rfl rfl <| u (fa ff28_1 (.t rfl)) <| st tf4 (.t rfl) rfl .b rfl rfl rfl <| u (fa ff28_4 (.t rfl)) <| st tf4 (.t rfl) rfl .b rfl rfl rfl <| u (fa ff28_5 (.t rfl)) <| st tf22 (.t rfl) rfl (.i rfl) rfl rfl rfl <| .nil _) rfl ?_
          refine .rg (u (fa ff28_2 (.t rfl)) <| st tf4 (.t rfl) rfl .b rfl rfl rfl <| u (fa ff28_3 (.t rfl)) <| st tf3 (.t rfl) rfl (.i rfl) rfl rfl rfl <| u (fa ff28_6 (.t rfl)) <| st tf4 (.t rfl) rfl .b rfl rfl rfl <| u (fa ff28_7 (.t rfl)) <| st tf23 (.t rfl) rfl (.i rfl) rfl rfl rfl <| u (fa ff28_8 (.t rfl)) <| st tf4 (.t rfl) rfl .b rfl rfl rfl <| u (fa ff28_9 (.t rfl)) <| st tf23 (.t rfl) rfl (.i rfl) rfl rfl rfl <| u (fa ff28_14 (.t rfl)) <| st tf4 (.t rfl) rfl .b rfl rfl rfl <| .nil _) rfl ?_
          exact .kq (J1 ((Plan.mk false false p.setType p.type false 0 p.setTime p.time p.setSsrc p.ssrc [] [] [] [] p.noPad), (Plan.mk p.setMarker p.marker false 0 p.setSeq p.seq false 0 false 0 [] [] [] [] false)) h) (.c rfl (.c rfl (.c rfl (.c rfl .n)))) (.c rfl (.c rfl (.c rfl (.c rfl .n))))
        · refine .sq ?_
          refine .rg (u (fa ff28_2 (.t rfl)) <| st tf4 (.t rfl) rfl .b rfl rfl rfl <| u (fa ff28_3 (.t rfl)) <| st tf3 (.t rfl) rfl (.i rfl) rfl rfl rfl <| u (fa ff28_8 (.t rfl)) <| st tf4 (.t rfl) rfl .b rfl rfl rfl <| u (fa ff28_9 (.t rfl)) <| st tf23 (.t rfl) rfl (.i rfl) rfl rfl rfl <| .nil _) rfl ?_
          refine .rg (u (fa ff28_0 (.t rfl)) <| st tf4 (.t rfl) rfl .b rfl rfl rfl <| u (fa ff28_1 (.t rfl)) <| st tf4 (.t rfl) rfl .b rfl rfl rfl <| u (fa ff28_4 (.t rfl)) <| st tf4 (.t rfl) rfl .b rfl rfl rfl <| u (fa ff28_5 (.t rfl)) <| st tf22 (.t rfl) rfl (.i rfl) rfl rfl rfl <| u (fa ff28_6 (.t rfl)) <| st tf4 (.t rfl) rfl .b rfl rfl rfl <| u (fa ff28_7 (.t rfl)) <| st tf23 (.t rfl) rfl (.i rfl) rfl rfl rfl <| u (fa ff28_14 (.t rfl)) <| st tf4 (.t rfl) rfl .b rfl rfl rfl <| .nil _) rfl ?_
          exact .kq (J1 ((Plan.mk p.setMarker p.marker false 0 p.setSeq p.seq p.setTime p.time false 0 [] [] [] [] p.noPad), (Plan.mk false false p.setType p.type false 0 false 0 p.setSsrc p.ssrc [] [] [] [] false)) h) (.c rfl (.c rfl (.c rfl (.c rfl .n)))) (.c rfl (.c rfl (.c rfl (.c rfl .n))))

end Xb
