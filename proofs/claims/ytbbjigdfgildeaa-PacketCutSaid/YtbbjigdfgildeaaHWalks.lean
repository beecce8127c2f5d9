/- Own text: HWalks. -/
import Derived.Test.YtbbjigdfgildeaaHFacts
import Derived.Test.YtbbjigdfgildeaaHRaw
import Derived.Test.YtbbjigdfgildeaaHIter
set_option linter.all false
set_option linter.unusedVariables false
set_option linter.unusedSimpArgs false
set_option linter.unnecessarySimpa false
set_option linter.deprecated false
namespace Xb
open Go Go.Proofs
set_option linter.unusedVariables false
set_option maxRecDepth 20000

theorem head_Right_c (p_h : Head) :
    AC Try.prog 32 [.ro (enc_Head p_h)] (.ro (.bool (head_Right p_h))) [] := by
  obtain ⟨r, h⟩ : ∃ r, head_Right p_h = r := ⟨_, rfl⟩
  rw [h]
  refine AC.of Try.func32 rfl rfl fun w M0 hM => ?_
  unfold head_Right at h
  refine .sq ?_
  refine .rg (bx 1 (.t rfl) rfl rfl <| u (asg .b) <| .nil _) rfl ?_
  refine .sq ?_
  refine .rg (u (fa ff26_3 (.t rfl)) <| u (ld tf3 (.t rfl) rfl rfl) <| u (bc (.t rfl) (.i rfl) rfl rfl) <| u (mv (.t rfl)) <| gd rfl rfl (fun hB => fa ff26_3 (.t rfl)) <| gd rfl rfl (fun hB => ld tf3 (.m rfl hB) rfl rfl) <| gd rfl rfl (fun hB => bc (.m rfl hB) (.i rfl) rfl rfl) <| u (pka (.t rfl) (.t rfl)) <| u (mv (.t rfl)) <| gd rfl rfl (fun hB => fa ff26_7 (.t rfl)) <| gd rfl rfl (fun hB => ld tf24 (.m rfl hB) rfl rfl) <| gd rfl rfl (fun hB => lnm sf24 (.m rfl hB)) <| gd rfl rfl (fun hB => bc (.m rfl hB) (.i rfl) rfl rfl) <| u (pka (.t rfl) (.t rfl)) <| u (asg (.t rfl)) <| .nil _) rfl ?_
  subst h
  exact .rt Try.func32 (.t rfl <| .n) .n rfl rfl

theorem packet_extended_c (p : Packet) :
    AC Try.prog 33 [.ro (enc_Packet p)] (.ro (.bool (packet_extended p))) [] := by
  obtain ⟨r, h⟩ : ∃ r, packet_extended p = r := ⟨_, rfl⟩
  rw [h]
  refine AC.of Try.func33 rfl rfl fun w M0 hM => ?_
  unfold packet_extended at h
  refine .sq ?_
  refine .rg (bx 1 (.t rfl) rfl rfl <| u (asg .b) <| .nil _) rfl ?_
  refine .sq ?_
  refine .sq ?_
  refine .rg (u (fa ff29_0 (.t rfl)) <| u (fa ff26_1 (.t rfl)) <| u (ld tf4 (.t rfl) rfl rfl) <| u (no (.t rfl)) <| .nil _) rfl ?_
  refine .bq h (.t rfl) (fun h => ?_) (fun h => ?_)
  · refine .sq ?_
    refine .rg (u (fa ff29_1 (.t rfl)) <| u (ld tf22 (.t rfl) rfl rfl) <| u (bc (.t rfl) (.i rfl) rfl rfl) <| u (mv (.t rfl)) <| gd rfl rfl (fun hB => fa ff29_2 (.t rfl)) <| gd rfl rfl (fun hB => ld tf27 (.m rfl hB) rfl rfl) <| gd rfl rfl (fun hB => lnm sf27 (.m rfl hB)) <| gd rfl rfl (fun hB => bc (.m rfl hB) (.i rfl) rfl rfl) <| u (pka (.t rfl) (.t rfl)) <| u (asg (.t rfl)) <| .nil _) rfl ?_
    subst h
    exact .rt Try.func33 (.t rfl <| .n) .n rfl rfl
  · refine .skp ?_
    refine .sq ?_
    refine .rg (u (fa ff29_2 (.t rfl)) <| u (ld tf27 (.t rfl) rfl rfl) <| u (lnm sf27 (.t rfl)) <| u (di (.t rfl) (.i rfl) rfl (by decide)) <| u (bc (.t rfl) (.i rfl) rfl rfl) <| u (mv (.t rfl)) <| gd rfl rfl (fun hB => fa ff29_2 (.t rfl)) <| gd rfl rfl (fun hB => ld tf27 (.m rfl hB) rfl rfl) <| gd rfl rfl (fun hB => lnm sf27 (.m rfl hB)) <| gd rfl rfl (fun hB => di (.m rfl hB) (.i rfl) rfl (by decide)) <| gd rfl rfl (fun hB => bc (.m rfl hB) (.i rfl) rfl rfl) <| u (pka (.t rfl) (.t rfl)) <| u (asg (.t rfl)) <| .nil _) rfl ?_
    subst h
    exact .rt Try.func33 (.t rfl <| .n) .n rfl rfl

theorem packet_padded_c (p : Packet) :
    AC Try.prog 34 [.ro (enc_Packet p)] (.ro (.bool (packet_padded p))) [] := by
  obtain ⟨r, h⟩ : ∃ r, packet_padded p = r := ⟨_, rfl⟩
  rw [h]
  refine AC.of Try.func34 rfl rfl fun w M0 hM => ?_
  unfold packet_padded at h
  refine .sq ?_
  refine .rg (bx 1 (.t rfl) rfl rfl <| u (asg .b) <| .nil _) rfl ?_
  refine .sq ?_
  refine .sq ?_
  refine .rg (u (fa ff29_0 (.t rfl)) <| u (fa ff26_0 (.t rfl)) <| u (ld tf4 (.t rfl) rfl rfl) <| u (no (.t rfl)) <| .nil _) rfl ?_
  refine .bq h (.t rfl) (fun h => ?_) (fun h => ?_)
  · refine .sq ?_
    refine .rg (u (fa ff29_4 (.t rfl)) <| u (ld tf3 (.t rfl) rfl rfl) <| u (bc (.t rfl) (.i rfl) rfl rfl) <| u (asg (.t rfl)) <| .nil _) rfl ?_
    subst h
    exact .rt Try.func34 (.t rfl <| .n) .n rfl rfl
  · refine .skp ?_
    refine .sq ?_
    refine .rg (u (fa ff29_4 (.t rfl)) <| u (ld tf3 (.t rfl) rfl rfl) <| u (bc (.t rfl) (.i rfl) rfl rfl) <| u (mv (.t rfl)) <| gd rfl rfl (fun hB => fa ff29_4 (.t rfl)) <| gd rfl rfl (fun hB => ld tf3 (.m rfl hB) rfl rfl) <| gd rfl rfl (fun hB => bc (.m rfl hB) (.i rfl) rfl rfl) <| u (pka (.t rfl) (.t rfl)) <| u (asg (.t rfl)) <| .nil _) rfl ?_
    subst h
    exact .rt Try.func34 (.t rfl <| .n) .n rfl rfl

theorem head_Size_c (p_h : Head) :
    AC Try.prog 37 [.ro (enc_Head p_h)] (.ro (.int .i64 (head_Size p_h))) [] := by
  obtain ⟨r, h⟩ : ∃ r, head_Size p_h = r := ⟨_, rfl⟩
  rw [h]
  refine AC.of Try.func37 rfl rfl fun w M0 hM => ?_
  unfold head_Size at h
  refine .sq ?_
  refine .rg (bx 1 (.t rfl) rfl rfl <| u (asg (.i rfl)) <| .nil _) rfl ?_
  refine .sq ?_
  refine .sq ?_
  refine .rg (u (ld tf26 (.t rfl) rfl rfl) <| cl [] cf32 (head_Right_c p_h) (.c (.t rfl) <| .n) (.inl rfl) <| u (no (.t rfl)) <| .nil _) rfl ?_
  refine .bq h (.t rfl) (fun h => ?_) (fun h => ?_)
  · refine .sq ?_
    refine .rg (u (asg (.i rfl)) <| .nil _) rfl ?_
    subst h
    exact .rt Try.func37 (.t rfl <| .n) .n rfl rfl
  · refine .skp ?_
    refine .sq ?_
    refine .rg (u (fa ff26_7 (.t rfl)) <| u (ld tf24 (.t rfl) rfl rfl) <| u (lnm sf24 (.t rfl)) <| u (bi (.i rfl) (.t rfl) rfl) <| u (bi (.i rfl) (.t rfl) rfl) <| u (asg (.t rfl)) <| .nil _) rfl ?_
    subst h
    exact .rt Try.func37 (.t rfl <| .n) .n rfl rfl

theorem packet_total_c (p : Packet) :
    AC Try.prog 20 [.ro (enc_Packet p)] (.ro (.int .i64 (packet_total p))) [] := by
  obtain ⟨r, h⟩ : ∃ r, packet_total p = r := ⟨_, rfl⟩
  rw [h]
  refine AC.of Try.func20 rfl rfl fun w M0 hM => ?_
  unfold packet_total at h
  refine .sq ?_
  refine .rg (bx 1 (.t rfl) rfl rfl <| u (asg (.i rfl)) <| .nil _) rfl ?_
  refine .sq ?_
  refine .rd mixed (u (fa ff29_0 (.t rfl)) <| u (ld tf26 (.t rfl) rfl rfl) <| cl [] cf37 (head_Size_c p.head) (.c (.t rfl) <| .n) (.inl rfl) <| u (fa ff29_2 (.t rfl)) <| u (ld tf27 (.t rfl) rfl rfl) <| u (lnm sf27 (.t rfl)) <| u (bi (.t rfl) (.t rfl) rfl) <| u (fa ff29_3 (.t rfl)) <| u (ld tf27 (.t rfl) rfl rfl) <| u (lnm sf27 (.t rfl)) <| u (bi (.t rfl) (.t rfl) rfl) <| u (fa ff29_4 (.t rfl)) <| u (ld tf3 (.t rfl) rfl rfl) <| u (bi (.t rfl) (.t rfl) rfl) <| u (asg (.t rfl)) <| .nil _) (by kernel_rfl) rfl ?_
  refine .sq ?_
  refine .sq ?_
  refine .rg (u (fa ff29_0 (.t rfl)) <| u (fa ff26_1 (.t rfl)) <| u (ld tf4 (.t rfl) rfl rfl) <| .nil _) rfl ?_
  refine .jq (t := r) (fun (a : Int) => ⟨[(3, .ro (.int .i64 a))], []⟩) (fun (a : Int) => packet_total_j1 a) ?_ (fun J1 => ?_)
  · intro v1 h
    replace h : packet_total_j1 v1 = _ := h
    unfold packet_total_j1 at h
    refine .sq ?_
    refine .rg (u (mv (.t rfl)) <| u (asg (.t rfl)) <| .nil _) rfl ?_
    subst h
    exact .rt Try.func20 (.t rfl <| .n) .n rfl rfl
  refine .bq h (.t rfl) (fun h => ?_) (fun h => ?_)
  · refine .rg (u (mv (.t rfl)) <| u (bi (.t rfl) (.i rfl) rfl) <| u (asg (.t rfl)) <| .nil _) rfl ?_
    exact .kq (J1 (ar .add .i64 (ar .add .i64 (ar .add .i64 (ar .add .i64 (head_Size p.head) (p.ext.length : Int)) (p.payload.length : Int)) p.pad) 4) h) (.c rfl .n) .n
  · refine .skp ?_
    exact .kq (J1 (ar .add .i64 (ar .add .i64 (ar .add .i64 (head_Size p.head) (p.ext.length : Int)) (p.payload.length : Int)) p.pad) h) (.c rfl .n) .n

theorem packet_Right_c (p : Packet) :
    AC Try.prog 15 [.ro (enc_Packet p)] (.ro (.bool (packet_Right p))) [] := by
  obtain ⟨r, h⟩ : ∃ r, packet_Right p = r := ⟨_, rfl⟩
  rw [h]
  refine AC.of Try.func15 rfl rfl fun w M0 hM => ?_
  unfold packet_Right at h
  refine .sq ?_
  refine .rg (bx 1 (.t rfl) rfl rfl <| u (asg .b) <| .nil _) rfl ?_
  refine .sq ?_
  refine .rg (u (fa ff29_0 (.t rfl)) <| u (ld tf26 (.t rfl) rfl rfl) <| cl [] cf32 (head_Right_c p.head) (.c (.t rfl) <| .n) (.inl rfl) <| u (mv (.t rfl)) <| gd rfl rfl (fun hB => ld tf29 (.t rfl) rfl rfl) <| cg rfl rfl cf33 (fun hB => (packet_extended_c p)) (fun hB => .c (.m rfl hB) <| .n) (.inl rfl) <| u (pka (.t rfl) (.t rfl)) <| u (mv (.t rfl)) <| gd rfl rfl (fun hB => ld tf29 (.t rfl) rfl rfl) <| cg rfl rfl cf34 (fun hB => (packet_padded_c p)) (fun hB => .c (.m rfl hB) <| .n) (.inl rfl) <| u (pka (.t rfl) (.t rfl)) <| u (mv (.t rfl)) <| gd rfl rfl (fun hB => fa ff29_3 (.t rfl)) <| gd rfl rfl (fun hB => ld tf27 (.m rfl hB) rfl rfl) <| gd rfl rfl (fun hB => lnm sf27 (.m rfl hB)) <| gd rfl rfl (fun hB => bc (.m rfl hB) (.i rfl) rfl rfl) <| u (pka (.t rfl) (.t rfl)) <| u (mv (.t rfl)) <| gd rfl rfl (fun hB => ld tf29 (.t rfl) rfl rfl) <| cg rfl rfl cf20 (fun hB => (packet_total_c p)) (fun hB => .c (.m rfl hB) <| .n) (.inl rfl) <| gd rfl rfl (fun hB => bc (.m rfl hB) (.i rfl) rfl rfl) <| u (pka (.t rfl) (.t rfl)) <| u (asg (.t rfl)) <| .nil _) rfl ?_
  subst h
  exact .rt Try.func15 (.t rfl <| .n) .n rfl rfl

theorem head_flag_c (is_ : Bool) (bit : Int) :
    AC Try.prog 38 [.ro (.bool is_), .ro (.int .u8 bit)] (.ro (.int .u8 (head_flag is_ bit))) [] := by
  obtain ⟨r, h⟩ : ∃ r, head_flag is_ bit = r := ⟨_, rfl⟩
  rw [h]
  refine AC.of Try.func38 rfl rfl fun w M0 hM => ?_
  unfold head_flag at h
  refine .sq ?_
  refine .rg (u (asg (.i rfl)) <| .nil _) rfl ?_
  refine .sq ?_
  refine .sq ?_
  refine .rg (u (mv (.t rfl)) <| .nil _) rfl ?_
  refine .bq h (.t rfl) (fun h => ?_) (fun h => ?_)
  · refine .sq ?_
    refine .rg (u (mv (.t rfl)) <| u (asg (.t rfl)) <| .nil _) rfl ?_
    subst h
    exact .rt Try.func38 (.t rfl <| .n) .n rfl rfl
  · refine .skp ?_
    refine .sq ?_
    refine .rg (u (asg (.i rfl)) <| .nil _) rfl ?_
    subst h
    exact .rt Try.func38 (.t rfl <| .n) .n rfl rfl

theorem octet_sized_c (n : Int) :
    AC Try.prog 40 [.ro (.int .i64 n)] (.ro (.bool (octet_sized n))) [] := by
  obtain ⟨r, h⟩ : ∃ r, octet_sized n = r := ⟨_, rfl⟩
  rw [h]
  refine AC.of Try.func40 rfl rfl fun w M0 hM => ?_
  unfold octet_sized at h
  refine .sq ?_
  refine .rg (u (asg .b) <| .nil _) rfl ?_
  refine .sq ?_
  refine .rg (u (mv (.t rfl)) <| u (bc (.t rfl) (.i rfl) rfl rfl) <| u (mv (.t rfl)) <| gd rfl rfl (fun hB => mv (.t rfl)) <| gd rfl rfl (fun hB => bc (.m rfl hB) (.i rfl) rfl rfl) <| u (pka (.t rfl) (.t rfl)) <| u (asg (.t rfl)) <| .nil _) rfl ?_
  subst h
  exact .rt Try.func40 (.t rfl <| .n) .n rfl rfl

theorem octet_Put_c {v : Int} {n : Int} {r : List Int × Int} (h : octet_Put v n = some r) :
    AC Try.prog 22 [.ro (.int .u64 v), .ro (.int .i64 n)] (.tup [.own 0, .ro (.int .i64 r.2)]) [(0, .arr 5 1 (List.map e8 r.1))] := by
  refine AC.of Try.func22 rfl rfl fun w M0 hM => ?_
  unfold octet_Put at h
  refine .sq ?_
  refine .rg (bx 2 (.t rfl) rfl rfl <| anm e8 4 5 1 rfl rfl <| u (asg (.i rfl)) <| .nil _) rfl ?_
  refine .sq ?_
  refine .bl ?_
  refine .sq ?_
  refine .rg (u (mv (.t rfl)) <| cl [] cf40 (octet_sized_c n) (.c (.t rfl) <| .n) (.inl rfl) <| u (no (.t rfl)) <| u (asg (.t rfl)) <| .nil _) rfl ?_
  refine .bq h (.t rfl) (fun h => ?_) (fun h => ?_)
  · refine .sq ?_
    refine .rg (anm e8 100004 5 1 rfl rfl <| u (asg (.i rfl)) <| .nil _) rfl ?_
    obtain rfl := Option.some.inj h
    refine .ks (l := [(4, .own 0), (5, .ro (.int .i64 1))]) (o := [(0, some (.arr 5 1 (List.map e8 [])))]) (fun i => bif Nat.beq i 0 then 100004 else i) ?_ (.c rfl (.c rfl .n)) (.c rfl .n) rfl
    exact .rt Try.func22 (.t rfl <| .t rfl <| .n) (.c rfl .n) rfl rfl
  · refine .sq ?_
    refine be h fun x1 hx1 h => ?_
    refine .rg (u (mv (.t rfl)) <| u (bc (.t rfl) (.i rfl) rfl rfl) <| u (mv (.t rfl)) <| gd rfl rfl (fun hB => ld tf49 (.t rfl) rfl rfl) <| gd rfl rfl (fun hB => mv (.t rfl)) <| gd rfl rfl (fun hB => bi (.i rfl) (.m rfl hB) rfl) <| gd rfl rfl (fun hB => sho (.m rfl hB) (.m rfl hB) rfl (gTt hx1 hB)) <| gd rfl rfl (fun hB => bc (.m rfl hB) (.i rfl) rfl rfl) <| u (pka (.t rfl) (.t rfl)) <| u (asg (.t rfl)) <| .nil _) rfl ?_
    refine .bq h (.t rfl) (fun h => ?_) (fun h => ?_)
    · refine .sq ?_
      refine .rg (anm e8 100004 5 1 rfl rfl <| u (asg (.i rfl)) <| .nil _) rfl ?_
      obtain rfl := Option.some.inj h
      refine .ks (l := [(4, .own 0), (5, .ro (.int .i64 6))]) (o := [(0, some (.arr 5 1 (List.map e8 [])))]) (fun i => bif Nat.beq i 0 then 100004 else i) ?_ (.c rfl (.c rfl .n)) (.c rfl .n) rfl
      exact .rt Try.func22 (.t rfl <| .t rfl <| .n) (.c rfl .n) rfl rfl
    · refine .skp ?_
      refine .ib ?_
      refine .sq ?_
      refine be h fun x2 hx2 h => ?_
      refine .rg (u (mv (.t rfl)) <| mks (F := e8) (z0 := 0) 23 pf27 zf5 (.t rfl) (.t rfl) hx2 rfl <| al 6 zf27_0 rfl <| st tf27 (.t rfl) rfl (.t rfl) rfl rfl rfl <| .nil _) rfl ?_
      refine .sq ?_
      refine .sq ?_
      refine .rg (u (ld tf27 (.t rfl) rfl rfl) <| bwk 25 cf41 back41_in (.t rfl) rfl rfl rfl <| .nil _) rfl ?_
      refine .bl ?_
      refine be h fun x3 hx3 h => ?_
      unfold octet_Put_l1 at h
      refine .kq (.rgb (fun (s : Int × List Int) => ⟨[(2, .ptr 2 0), (6, .ptr 6 0), (25, .fn (.func 51) [] [.ptr 25 0])], [(2, some (.box [.ro (.int .u64 s.1)])), (6, some (.box [.own 23])), (23, some (.arr 5 1 (List.map e8 s.2))), (25, some (.box [.own 23]))]⟩) (fun (s : Int × List Int) => s.2) [2, 6, 25] back51_in cf51 h rfl (Nat.le_trans (lnO_le hx3) (by decide)) (by rintro y1 ⟨v4, v5⟩ s2 h; replace h : octet_Put_s1 y1 v4 v5 = _ := h; unfold octet_Put_s1 at h; refine be h fun _ _ h => ?_; cases h; simp) (fun _ => rfl) (fun _ => rfl) (fun _ => rfl) (fun _ => rfl) rfl ⟨rfl, rfl⟩ ?_ ?_) (.c rfl (.c rfl (.c rfl .n))) (.c rfl (.c rfl (.c rfl (.c rfl .n))))
      · rintro D1 l1 r1 pv1 R1 y1 ⟨v4, v5⟩ u1 h hin ih1 hx1 jr1 jx1 bg1
        replace h : octet_Put_s1 y1 v4 v5 = _ := h
        unfold octet_Put_s1 at h
        refine .rg (u (asg (.t rfl)) <| .nil _) rfl ?_
        refine bg1 _ _ ?_
        refine .bl ?_
        refine .sq ?_
        refine be h fun x6 hx6 h => ?_
        refine .rg (u (ld tf27 (.t rfl) rfl rfl) <| u (mv (.t rfl)) <| u (ld tf49 (.t rfl) rfl rfl) <| u (cv cv49_5 (.t rfl)) <| u (io sf27 (.t rfl) rfl (.t rfl) (ix_map e8 hx6)) <| se (q := (IntKind.u8.wrap v4)) tf5 (.t rfl) rfl (.t rfl) rfl rfl rfl (ixn hx6) <| .nil _) rfl ?_
        refine .rg (u (ld tf49 (.t rfl) rfl rfl) <| u (sh (.t rfl) (.i rfl) rfl (by decide)) <| st tf49 (.t rfl) rfl (.t rfl) rfl rfl rfl <| .nil _) rfl ?_
        refine .ib ?_
        exact .kq (ih1 ((sf .shr .u64 v4 8), (List.set v5 ((y1 : Int) : Int).toNat (IntKind.u8.wrap v4))) (nxi h)) (.c rfl (.c rfl (.c rfl .n))) (.c rfl (.c rfl (.c rfl (.c rfl .n))))
      · rintro D1 ⟨v4, v5⟩ h
        replace h : octet_Put_d1 v4 v5 = _ := h
        unfold octet_Put_d1 at h
        refine .ib ?_
        refine .sq ?_
        refine .rg (u (ld tf27 (.t rfl) rfl rfl) <| u (asg (.t rfl)) <| u (asg (.i rfl)) <| .nil _) rfl ?_
        obtain rfl := Option.some.inj h
        refine .ks (l := [(4, .own 0), (5, .ro (.int .i64 0))]) (o := [(0, some (.arr 5 1 (List.map e8 v5)))]) (fun i => bif Nat.beq i 0 then 23 else i) ?_ (.c rfl (.c rfl .n)) (.c rfl .n) rfl
        exact .rt Try.func22 (.t rfl <| .t rfl <| .n) (.c rfl .n) rfl rfl

theorem octet_Put_r {v : Int} {n : Int} {r : List Int × Int} (h : octet_Put v n = some r) :
    AC Try.prog 22 [.ro (.int .u64 v), .ro (.int .i64 n)] (.ro (.tup [.list 1 (List.map e8 r.1), .int .i64 r.2])) [] := AC.fz (octet_Put_c h) rfl

theorem head_four_c {n : Int} {r : List Int} (h : head_four n = some r) :
    AC Try.prog 39 [.ro (.int .u32 n)] (.own 0) [(0, .arr 5 1 (List.map e8 r))] := by
  refine AC.of Try.func39 rfl rfl fun w M0 hM => ?_
  unfold head_four at h
  refine .sq ?_
  refine .rg (anm e8 2 5 1 rfl rfl <| .nil _) rfl ?_
  refine .sq ?_
  refine be h fun x1 hx1 h => ?_
  refine .rg (u (mv (.t rfl)) <| u (cv cv23_49 (.t rfl)) <| cnf 9000 cf22 (octet_Put_c hx1) (.c (.t rfl) <| .c (.i rfl) <| .n) rfl rfl rfl <| u (mv (.t rfl)) <| u (ex (.t rfl) rfl rfl) <| u (ex (.t rfl) rfl rfl) <| u (asg (.t rfl)) <| u (asg (.t rfl)) <| .nil _) rfl ?_
  refine .sq ?_
  refine .rg (u (mv (.t rfl)) <| u (asg (.t rfl)) <| .nil _) rfl ?_
  obtain rfl := Option.some.inj h
  refine .ks (l := [(2, .own 0)]) (o := [(0, some (.arr 5 1 (List.map e8 x1.1)))]) (fun i => bif Nat.beq i 0 then 9000 else i) ?_ (.c rfl .n) (.c rfl .n) rfl
  exact .rt Try.func39 (.t rfl <| .n) (.c rfl .n) rfl rfl

theorem head_four_r {n : Int} {r : List Int} (h : head_four n = some r) :
    AC Try.prog 39 [.ro (.int .u32 n)] (.ro (.list 1 (List.map e8 r))) [] := AC.fz (head_four_c h) rfl

theorem slices_Grow_c {n : Int} (hn : growL n = some ()) : AC Try.prog 52 [.ro (.raw (.slice none 0 0)), .ro (.int .i64 n)] (.own 0) [(0, .arr 5 1 (([] : List Int).map e8))] := by
  obtain ⟨i, z, hi, hz, hsz, hzs, hpos, hby⟩ := pf27.i
  refine AC.grow (fun n w h1 h2 => ?_) (fun w => slices_Grow_nil w) hn
  refine (slices_Grow_new n w h1 h2 i z hi hz (by omega) hby).mono fun e w' hp => ?_
  obtain ⟨rfl, rfl⟩ := hp
  have hG : n ≤ grownCap w n 0 5 := grownCap_ge w _ _ _
  refine ⟨_, _, rfl, ?_, grownCap_le_maxLen w n 0 5 (by unfold maxLen; omega), rfl⟩
  simp only [Array.size_append, size_zeroCells, hzs]
  have h0 : (#[] : Array Value).size = 0 := rfl
  omega

theorem slices_Concat_c {z : Option Nat} {slices : List (List Int)} {r : List Int} (h : slices_Concat z slices = some r) :
    AC Try.prog 42 [.ro (.list 1 (List.map (el 1 e8) slices))] (.own 0) [(0, .arr 5 1 (List.map e8 r))] := by
  refine AC.of Try.func42 rfl rfl fun w M0 hM => ?_
  unfold slices_Concat at h
  refine .sq ?_
  refine .rg (anm e8 2 5 1 rfl rfl <| .nil _) rfl ?_
  refine .sq ?_
  refine .rg (u (asg (.i rfl)) <| .nil _) rfl ?_
  refine .sq ?_
  refine .sq ?_
  refine .rg (u (mv (.t rfl)) <| u (lnm sf70 (.t rfl)) <| u (mv (.i rfl)) <| .nil _) rfl ?_
  refine .bl ?_
  unfold slices_Concat_l1 at h
  refine .kq (.lo (fun (s : Int × Int) => ⟨[(0, .ro (.list 1 (List.map (el 1 e8) slices))), (3, .ro (.int .i64 s.1)), (9, .ro (.list 1 (List.map (el 1 e8) slices))), (10, .ro (.int .i64 (slices.length : Int))), (11, .ro (.int .i64 s.2))], []⟩) h ?_) (.c rfl (.c rfl (.c rfl (.c rfl (.c rfl .n))))) .n
  rintro ⟨v1, v2⟩ u1 h ih1 hx1
  replace h : slices_Concat_s1 z slices v1 v2 = _ := h
  unfold slices_Concat_s1 at h
  refine .sq ?_
  refine .rg (u (bc (.t rfl) (.t rfl) rfl rfl) <| .nil _) rfl ?_
  refine .sq ?_
  refine .bq h (.t rfl) (fun h => ?_) (fun h => ?_)
  · refine .skp ?_
    refine .sq ?_
    refine .bl ?_
    refine .sq ?_
    refine be h fun x3 hx3 h => ?_
    refine .rg (u (ia sf70 (.t rfl) (.t rfl) (ix_map (el 1 e8) hx3)) <| u (lr tf27 (.t rfl) rfl) <| u (asg (.t rfl)) <| .nil _) rfl ?_
    refine .sq ?_
    refine .rg (u (mv (.t rfl)) <| u (mv (.t rfl)) <| u (lnm sf27 (.t rfl)) <| u (bi (.t rfl) (.t rfl) rfl) <| u (asg (.t rfl)) <| .nil _) rfl ?_
    refine .sq ?_
    refine .rg (u (mv (.t rfl)) <| u (bc (.t rfl) (.i rfl) rfl rfl) <| .nil _) rfl ?_
    refine .jq (t := some u1) (fun (a : Unit) => ⟨[(0, .ro (.list 1 (List.map (el 1 e8) slices))), (3, .ro (.int .i64 (ar .add .i64 v1 (x3.length : Int)))), (9, .ro (.list 1 (List.map (el 1 e8) slices))), (10, .ro (.int .i64 (slices.length : Int))), (11, .ro (.int .i64 v2))], []⟩) (fun (a : Unit) => slices_Concat_j2 z v1 v2 x3) ?_ (fun J2 => ?_)
    · intro _ h
      replace h : slices_Concat_j2 z v1 v2 x3 = _ := h
      unfold slices_Concat_j2 at h
      refine .ib ?_
      refine .rg (u (bi (.t rfl) (.i rfl) rfl) <| u (mv (.t rfl)) <| .nil _) rfl ?_
      exact .kq (.il (ih1 ((ar .add .i64 v1 (x3.length : Int)), (ar .add .i64 v2 1)) (nxi h))) (.c rfl (.c rfl (.c rfl (.c rfl (.c rfl .n))))) .n
    refine .bq h (.t rfl) (fun h => ?_) (fun h => ?_)
    · cases h
    · refine .skp ?_
      exact .kq (J2 () h) (.c rfl (.c rfl (.c rfl (.c rfl (.c rfl .n))))) .n
  · refine .xt rfl ?_
    replace h := mpR h hx1
    refine .sq ?_
    refine be h fun x4 hx4 h => ?_
    refine .rg (u (mv (.t rfl)) <| cnl 24 cf52 (slices_Grow_c hx4) (.c (.r rfl) <| .c (.t rfl) <| .n) rfl <| u (asg (.t rfl)) <| .nil _) rfl ?_
    refine .sq ?_
    refine .sq ?_
    refine .rg (u (mv (.t rfl)) <| u (lnm sf70 (.t rfl)) <| u (mv (.i rfl)) <| .nil _) rfl ?_
    refine .bl ?_
    unfold slices_Concat_l3 at h
    refine .ks (fun i => bif Nat.beq i 6 then 24 else i) (.lo (fun (s : List Int × Int) => ⟨[(6, .own 6), (25, .ro (.list 1 (List.map (el 1 e8) slices))), (26, .ro (.int .i64 (slices.length : Int))), (27, .ro (.int .i64 s.2))], [(6, some (.arr 5 1 (List.map e8 s.1)))]⟩) h ?_) (.c rfl (.c rfl (.c rfl (.c rfl .n)))) (.c rfl .n) rfl
    rintro ⟨v5, v6⟩ u3 h ih3 hx3
    replace h : slices_Concat_s3 z slices v5 v6 = _ := h
    unfold slices_Concat_s3 at h
    refine .sq ?_
    refine .rg (u (bc (.t rfl) (.t rfl) rfl rfl) <| .nil _) rfl ?_
    refine .sq ?_
    refine .bq h (.t rfl) (fun h => ?_) (fun h => ?_)
    · refine .skp ?_
      refine .sq ?_
      refine .bl ?_
      refine .sq ?_
      refine be h fun x7 hx7 h => ?_
      refine .rg (u (ia sf70 (.t rfl) (.t rfl) (ix_map (el 1 e8) hx7)) <| u (lr tf27 (.t rfl) rfl) <| u (asg (.t rfl)) <| .nil _) rfl ?_
      refine be h fun x8 hx8 h => ?_
      refine .rg (u (mv (.t rfl)) <| u (mv (.t rfl)) <| ap 33 pf27 (.t rfl) rfl (.t rfl) hx8 rfl <| u (asg (.t rfl)) <| .nil _) rfl ?_
      refine .ib ?_
      refine .rg (u (bi (.t rfl) (.i rfl) rfl) <| u (mv (.t rfl)) <| .nil _) rfl ?_
      exact .ks (fun i => bif Nat.beq i 6 then 33 else i) (.il (ih3 (x8, (ar .add .i64 v6 1)) (nxi h))) (.c rfl (.c rfl (.c rfl (.c rfl .n)))) (.c rfl .n) rfl
    · refine .xt rfl ?_
      replace h := mpR h hx3
      refine .sq ?_
      refine .rg (u (mv (.t rfl)) <| u (asg (.t rfl)) <| .nil _) rfl ?_
      obtain rfl := Option.some.inj h
      refine .ks (l := [(2, .own 0)]) (o := [(0, some (.arr 5 1 (List.map e8 v5)))]) (fun i => bif Nat.beq i 0 then 6 else i) ?_ (.c rfl .n) (.c rfl .n) rfl
      exact .rt Try.func42 (.t rfl <| .n) (.c rfl .n) rfl rfl

theorem slices_Concat_r {z : Option Nat} {slices : List (List Int)} {r : List Int} (h : slices_Concat z slices = some r) :
    AC Try.prog 42 [.ro (.list 1 (List.map (el 1 e8) slices))] (.ro (.list 1 (List.map e8 r))) [] := AC.fz (slices_Concat_c h) rfl

theorem octet_Join_c {z : Option Nat} {l : List (List Int)} {r : List Int} (h : octet_Join z l = some r) :
    AC Try.prog 23 [.ro (.list 1 (List.map (el 1 e8) l))] (.own 0) [(0, .arr 5 1 (List.map e8 r))] := by
  refine AC.of Try.func23 rfl rfl fun w M0 hM => ?_
  unfold octet_Join at h
  refine .sq ?_
  refine .rg (anm e8 2 5 1 rfl rfl <| .nil _) rfl ?_
  refine .sq ?_
  refine be h fun x1 hx1 h => ?_
  refine .rg (u (mv (.t rfl)) <| cnf 5000 cf42 (slices_Concat_c hx1) (.c (.t rfl) <| .n) rfl rfl rfl <| u (asg (.t rfl)) <| .nil _) rfl ?_
  obtain rfl := Option.some.inj h
  refine .ks (l := [(2, .own 0)]) (o := [(0, some (.arr 5 1 (List.map e8 x1)))]) (fun i => bif Nat.beq i 0 then 5000 else i) ?_ (.c rfl .n) (.c rfl .n) rfl
  exact .rt Try.func23 (.t rfl <| .n) (.c rfl .n) rfl rfl

theorem octet_Join_r {z : Option Nat} {l : List (List Int)} {r : List Int} (h : octet_Join z l = some r) :
    AC Try.prog 23 [.ro (.list 1 (List.map (el 1 e8) l))] (.ro (.list 1 (List.map e8 r))) [] := AC.fz (octet_Join_c h) rfl

theorem head_Write_c {z : Option Nat} {p_h : Head} {r : List Int × Int} (h : head_Write z p_h = some r) :
    AC Try.prog 21 [.ro (enc_Head p_h)] (.tup [.own 0, .ro (.int .i64 r.2)]) [(0, .arr 5 1 (List.map e8 r.1))] := by
  refine AC.of Try.func21 rfl rfl fun w M0 hM => ?_
  unfold head_Write at h
  refine .sq ?_
  refine .rg (bx 1 (.t rfl) rfl rfl <| anm e8 2 5 1 rfl rfl <| u (asg (.i rfl)) <| .nil _) rfl ?_
  refine .sq ?_
  refine .sq ?_
  refine .rg (u (ld tf26 (.t rfl) rfl rfl) <| cl [] cf32 (head_Right_c p_h) (.c (.t rfl) <| .n) (.inl rfl) <| u (no (.t rfl)) <| .nil _) rfl ?_
  refine .bq h (.t rfl) (fun h => ?_) (fun h => ?_)
  · refine .sq ?_
    refine .rg (anm e8 100002 5 1 rfl rfl <| u (asg (.i rfl)) <| .nil _) rfl ?_
    obtain rfl := Option.some.inj h
    refine .ks (l := [(2, .own 0), (3, .ro (.int .i64 1))]) (o := [(0, some (.arr 5 1 (List.map e8 [])))]) (fun i => bif Nat.beq i 0 then 100002 else i) ?_ (.c rfl (.c rfl .n)) (.c rfl .n) rfl
    exact .rt Try.func21 (.t rfl <| .t rfl <| .n) (.c rfl .n) rfl rfl
  · refine .skp ?_
    refine .sq ?_
    refine .rd mixed (u (fa ff26_0 (.t rfl)) <| u (ld tf4 (.t rfl) rfl rfl) <| cl [] cf38 (head_flag_c p_h.hasPad 32) (.c (.t rfl) <| .c (.i rfl) <| .n) (.inl rfl) <| u (bi (.i rfl) (.t rfl) rfl) <| u (fa ff26_1 (.t rfl)) <| u (ld tf4 (.t rfl) rfl rfl) <| cl [] cf38 (head_flag_c p_h.hasExt 16) (.c (.t rfl) <| .c (.i rfl) <| .n) (.inl rfl) <| u (bi (.t rfl) (.t rfl) rfl) <| u (fa ff26_7 (.t rfl)) <| u (ld tf24 (.t rfl) rfl rfl) <| u (lnm sf24 (.t rfl)) <| u (cv cv3_5 (.t rfl)) <| u (bi (.t rfl) (.t rfl) rfl) <| u (asg (.t rfl)) <| .nil _) (by kernel_rfl) rfl ?_
    refine .sq ?_
    refine be h fun x1 hx1 h => ?_
    refine .rg (u (fa ff26_4 (.t rfl)) <| u (ld tf22 (.t rfl) rfl rfl) <| u (cv cv22_49 (.t rfl)) <| cnf 31000 cf22 (octet_Put_c hx1) (.c (.t rfl) <| .c (.i rfl) <| .n) rfl rfl rfl <| u (mv (.t rfl)) <| u (ex (.t rfl) rfl rfl) <| u (ex (.t rfl) rfl rfl) <| u (asg (.t rfl)) <| u (asg (.t rfl)) <| .nil _) rfl ?_
    refine .sq ?_
    refine .fz 31000 rfl ?_
    refine be h fun x2 hx2 h => ?_
    refine be h fun x3 hx3 h => ?_
    refine be h fun x4 hx4 h => ?_
    refine .rd mixed (u (mv (.t rfl)) <| u (fa ff26_2 (.t rfl)) <| u (ld tf4 (.t rfl) rfl rfl) <| cl [] cf38 (head_flag_c p_h.marker 128) (.c (.t rfl) <| .c (.i rfl) <| .n) (.inl rfl) <| u (fa ff26_3 (.t rfl)) <| u (ld tf3 (.t rfl) rfl rfl) <| u (cv cv3_5 (.t rfl)) <| u (bi (.t rfl) (.t rfl) rfl) <| nu (bsn (F := e8) (l := [(ar .or .u8 (ar .or .u8 (ar .or .u8 128 (head_flag p_h.hasPad 32)) (head_flag p_h.hasExt 16)) (IntKind.u8.wrap (p_h.csrc.length : Int))), (ar .or .u8 (head_flag p_h.marker 128) (IntKind.u8.wrap p_h.type))]) pf27 (.c (.t rfl) rfl <| .c (.t rfl) rfl <| .n) rfl (fun _ _ => rfl) rfl) <| u (mv (.t rfl)) <| u (fa ff26_5 (.t rfl)) <| u (ld tf23 (.t rfl) rfl rfl) <| cl [] cf39 (head_four_r hx2) (.c (.t rfl) <| .n) (.inl rfl) <| u (fa ff26_6 (.t rfl)) <| u (ld tf23 (.t rfl) rfl rfl) <| cl [] cf39 (head_four_r hx3) (.c (.t rfl) <| .n) (.inl rfl) <| nu (bsn (F := (el 1 e8)) (l := [[(ar .or .u8 (ar .or .u8 (ar .or .u8 128 (head_flag p_h.hasPad 32)) (head_flag p_h.hasExt 16)) (IntKind.u8.wrap (p_h.csrc.length : Int))), (ar .or .u8 (head_flag p_h.marker 128) (IntKind.u8.wrap p_h.type))], x1.1, x2, x3]) pf70 (.c (.t rfl) rfl <| .c (.t rfl) rfl <| .c (.t rfl) rfl <| .c (.t rfl) rfl <| .n) rfl (fun _ _ => rfl) rfl) <| cnf 51000 cf23 (octet_Join_c hx4) (.c (.t rfl) <| .n) rfl rfl rfl <| u (asg (.t rfl)) <| .nil _) (by kernel_rfl) rfl ?_
    refine .sq ?_
    refine .sq ?_
    refine .rg (u (fa ff26_7 (.t rfl)) <| u (ld tf24 (.t rfl) rfl rfl) <| u (lnm sf24 (.t rfl)) <| u (mv (.i rfl)) <| .nil _) rfl ?_
    refine .bl ?_
    unfold head_Write_l1 at h
    refine .ks (fun i => bif Nat.beq i 7 then 51000 else i) (.lo (fun (s : List Int × Int) => ⟨[(7, .own 7), (52, .ro (.list 1 (List.map (ei .u32) p_h.csrc))), (53, .ro (.int .i64 (p_h.csrc.length : Int))), (54, .ro (.int .i64 s.2))], [(7, some (.arr 5 1 (List.map e8 s.1)))]⟩) h ?_) (.c rfl (.c rfl (.c rfl (.c rfl .n)))) (.c rfl .n) rfl
    rintro ⟨v5, v6⟩ u1 h ih1 hx1
    replace h : head_Write_s1 z p_h v5 v6 = _ := h
    unfold head_Write_s1 at h
    refine .sq ?_
    refine .rg (u (bc (.t rfl) (.t rfl) rfl rfl) <| .nil _) rfl ?_
    refine .sq ?_
    refine .bq h (.t rfl) (fun h => ?_) (fun h => ?_)
    · refine .skp ?_
      refine .sq ?_
      refine .bl ?_
      refine .sq ?_
      refine be h fun x7 hx7 h => ?_
      refine .rg (u (ia sf24 (.t rfl) (.t rfl) (ix_map (ei .u32) hx7)) <| u (lr tf23 (.t rfl) rfl) <| u (asg (.t rfl)) <| .nil _) rfl ?_
      refine be h fun x8 hx8 h => ?_
      refine be h fun x9 hx9 h => ?_
      refine .rg (u (mv (.t rfl)) <| u (mv (.t rfl)) <| cnf 61000 cf39 (head_four_c hx8) (.c (.t rfl) <| .n) rfl rfl rfl <| apo 61 pf27 (.t rfl) rfl (.t rfl) rfl hx9 rfl <| u (asg (.t rfl)) <| .nil _) rfl ?_
      refine .ib ?_
      refine .rg (u (bi (.t rfl) (.i rfl) rfl) <| u (mv (.t rfl)) <| .nil _) rfl ?_
      exact .ks (fun i => bif Nat.beq i 7 then 61 else i) (.il (ih1 (x9, (ar .add .i64 v6 1)) (nxi h))) (.c rfl (.c rfl (.c rfl (.c rfl .n)))) (.c rfl .n) rfl
    · refine .xt rfl ?_
      replace h := mpR h hx1
      refine .sq ?_
      refine .rg (u (mv (.t rfl)) <| u (asg (.t rfl)) <| u (asg (.i rfl)) <| .nil _) rfl ?_
      obtain rfl := Option.some.inj h
      refine .ks (l := [(2, .own 0), (3, .ro (.int .i64 0))]) (o := [(0, some (.arr 5 1 (List.map e8 v5)))]) (fun i => bif Nat.beq i 0 then 7 else i) ?_ (.c rfl (.c rfl .n)) (.c rfl .n) rfl
      exact .rt Try.func21 (.t rfl <| .t rfl <| .n) (.c rfl .n) rfl rfl

theorem head_Write_r {z : Option Nat} {p_h : Head} {r : List Int × Int} (h : head_Write z p_h = some r) :
    AC Try.prog 21 [.ro (enc_Head p_h)] (.ro (.tup [.list 1 (List.map e8 r.1), .int .i64 r.2])) [] := AC.fz (head_Write_c h) rfl

theorem pad_zeros_c {n : Int} {r : List Int} (h : pad_zeros n = some r) :
    AC Try.prog 43 [.ro (.int .i64 n)] (.own 0) [(0, .arr 5 1 (List.map e8 r))] := by
  refine AC.of Try.func43 rfl rfl fun w M0 hM => ?_
  unfold pad_zeros at h
  refine .sq ?_
  refine .rg (anm e8 2 5 1 rfl rfl <| .nil _) rfl ?_
  refine .sq ?_
  refine be h fun x1 hx1 h => ?_
  refine .rg (u (mv (.t rfl)) <| mks (F := e8) (z0 := 0) 4 pf27 zf5 (.t rfl) (.t rfl) hx1 rfl <| u (asg (.t rfl)) <| .nil _) rfl ?_
  obtain rfl := Option.some.inj h
  refine .ks (l := [(2, .own 0)]) (o := [(0, some (.arr 5 1 (List.map e8 x1)))]) (fun i => bif Nat.beq i 0 then 4 else i) ?_ (.c rfl .n) (.c rfl .n) rfl
  exact .rt Try.func43 (.t rfl <| .n) (.c rfl .n) rfl rfl

theorem pad_zeros_r {n : Int} {r : List Int} (h : pad_zeros n = some r) :
    AC Try.prog 43 [.ro (.int .i64 n)] (.ro (.list 1 (List.map e8 r))) [] := AC.fz (pad_zeros_c h) rfl

theorem pad_Add_c {z : Option Nat} {b : List Int} {n : Int} {r : List Int × Int} (h : pad_Add z b n = some r) :
    AC Try.prog 24 [.ro (.list 1 (List.map e8 b)), .ro (.int .i64 n)] (.tup [.own 0, .ro (.int .i64 r.2)]) [(0, .arr 5 1 (List.map e8 r.1))] := by
  refine AC.of Try.func24 rfl rfl fun w M0 hM => ?_
  unfold pad_Add at h
  refine .sq ?_
  refine .rg (anm e8 4 5 1 rfl rfl <| u (asg (.i rfl)) <| .nil _) rfl ?_
  refine .sq ?_
  refine .sq ?_
  refine .rg (u (mv (.t rfl)) <| u (bc (.t rfl) (.i rfl) rfl rfl) <| u (mv (.t rfl)) <| gd rfl rfl (fun hB => mv (.t rfl)) <| gd rfl rfl (fun hB => bc (.m rfl hB) (.i rfl) rfl rfl) <| u (pko (.t rfl) (.t rfl)) <| .nil _) rfl ?_
  refine .bq h (.t rfl) (fun h => ?_) (fun h => ?_)
  · refine .sq ?_
    refine .rg (anm e8 100004 5 1 rfl rfl <| u (asg (.i rfl)) <| .nil _) rfl ?_
    obtain rfl := Option.some.inj h
    refine .ks (l := [(4, .own 0), (5, .ro (.int .i64 1))]) (o := [(0, some (.arr 5 1 (List.map e8 [])))]) (fun i => bif Nat.beq i 0 then 100004 else i) ?_ (.c rfl (.c rfl .n)) (.c rfl .n) rfl
    exact .rt Try.func24 (.t rfl <| .t rfl <| .n) (.c rfl .n) rfl rfl
  · refine .skp ?_
    refine .sq ?_
    refine be h fun x1 hx1 h => ?_
    refine be h fun x2 hx2 h => ?_
    refine .rg (u (mv (.t rfl)) <| u (mv (.t rfl)) <| u (bi (.t rfl) (.i rfl) rfl) <| cl [] cf43 (pad_zeros_r hx1) (.c (.t rfl) <| .n) (.inl rfl) <| u (mv (.t rfl)) <| u (cv cv3_5 (.t rfl)) <| nu (bsn (F := e8) (l := [(IntKind.u8.wrap n)]) pf27 (.c (.t rfl) rfl <| .n) rfl (fun _ _ => rfl) rfl) <| nu (bsn (F := (el 1 e8)) (l := [b, x1, [(IntKind.u8.wrap n)]]) pf70 (.c (.t rfl) rfl <| .c (.t rfl) rfl <| .c (.t rfl) rfl <| .n) rfl (fun _ _ => rfl) rfl) <| cnf 21000 cf42 (slices_Concat_c hx2) (.c (.t rfl) <| .n) rfl rfl rfl <| u (asg (.t rfl)) <| u (asg (.i rfl)) <| .nil _) rfl ?_
    obtain rfl := Option.some.inj h
    refine .ks (l := [(4, .own 0), (5, .ro (.int .i64 0))]) (o := [(0, some (.arr 5 1 (List.map e8 x2)))]) (fun i => bif Nat.beq i 0 then 21000 else i) ?_ (.c rfl (.c rfl .n)) (.c rfl .n) rfl
    exact .rt Try.func24 (.t rfl <| .t rfl <| .n) (.c rfl .n) rfl rfl

theorem pad_Add_r {z : Option Nat} {b : List Int} {n : Int} {r : List Int × Int} (h : pad_Add z b n = some r) :
    AC Try.prog 24 [.ro (.list 1 (List.map e8 b)), .ro (.int .i64 n)] (.ro (.tup [.list 1 (List.map e8 r.1), .int .i64 r.2])) [] := AC.fz (pad_Add_c h) rfl

theorem packet_Write_c {z : Option Nat} {p : Packet} {room : Int} {r : List Int × Int} (h : packet_Write z p room = some r) :
    AC Try.prog 9 [.ro (enc_Packet p), .ro (.int .i64 room)] (.tup [.own 0, .ro (.int .i64 r.2)]) [(0, .arr 5 1 (List.map e8 r.1))] := by
  refine AC.of Try.func9 rfl rfl fun w M0 hM => ?_
  unfold packet_Write at h
  refine .sq ?_
  refine .rg (bx 2 (.t rfl) rfl rfl <| anm e8 4 5 1 rfl rfl <| u (asg (.i rfl)) <| .nil _) rfl ?_
  refine .sq ?_
  refine .bl ?_
  refine .sq ?_
  refine .rg (u (ld tf29 (.t rfl) rfl rfl) <| cl [] cf15 (packet_Right_c p) (.c (.t rfl) <| .n) (.inl rfl) <| u (no (.t rfl)) <| u (asg (.t rfl)) <| .nil _) rfl ?_
  refine .bq h (.t rfl) (fun h => ?_) (fun h => ?_)
  · refine .sq ?_
    refine .rg (anm e8 100004 5 1 rfl rfl <| u (asg (.i rfl)) <| .nil _) rfl ?_
    obtain rfl := Option.some.inj h
    refine .ks (l := [(4, .own 0), (5, .ro (.int .i64 1))]) (o := [(0, some (.arr 5 1 (List.map e8 [])))]) (fun i => bif Nat.beq i 0 then 100004 else i) ?_ (.c rfl (.c rfl .n)) (.c rfl .n) rfl
    exact .rt Try.func9 (.t rfl <| .t rfl <| .n) (.c rfl .n) rfl rfl
  · refine .sq ?_
    refine .rg (u (ld tf29 (.t rfl) rfl rfl) <| cl [] cf20 (packet_total_c p) (.c (.t rfl) <| .n) (.inl rfl) <| u (mv (.t rfl)) <| u (bc (.t rfl) (.t rfl) rfl rfl) <| u (asg (.t rfl)) <| .nil _) rfl ?_
    refine .bq h (.t rfl) (fun h => ?_) (fun h => ?_)
    · refine .sq ?_
      refine .rg (anm e8 100004 5 1 rfl rfl <| u (asg (.i rfl)) <| .nil _) rfl ?_
      obtain rfl := Option.some.inj h
      refine .ks (l := [(4, .own 0), (5, .ro (.int .i64 7))]) (o := [(0, some (.arr 5 1 (List.map e8 [])))]) (fun i => bif Nat.beq i 0 then 100004 else i) ?_ (.c rfl (.c rfl .n)) (.c rfl .n) rfl
      exact .rt Try.func9 (.t rfl <| .t rfl <| .n) (.c rfl .n) rfl rfl
    · refine .skp ?_
      refine .ib ?_
      refine .sq ?_
      refine be h fun x1 hx1 h => ?_
      refine .rg (u (fa ff29_0 (.t rfl)) <| u (ld tf26 (.t rfl) rfl rfl) <| cnf 25000 cf21 (head_Write_c hx1) (.c (.t rfl) <| .n) rfl rfl rfl <| u (mv (.t rfl)) <| u (ex (.t rfl) rfl rfl) <| u (ex (.t rfl) rfl rfl) <| u (asg (.t rfl)) <| u (asg (.t rfl)) <| .nil _) rfl ?_
      refine .sq ?_
      refine .sq ?_
      refine .rg (u (fa ff29_0 (.t rfl)) <| u (fa ff26_1 (.t rfl)) <| u (ld tf4 (.t rfl) rfl rfl) <| .nil _) rfl ?_
      refine .jq (t := some r) (fun (a : List Int) => ⟨[(2, .ptr 2 0), (6, .own 6)], [(2, some (.box [.ro (.bool p.head.hasPad), .ro (.bool p.head.hasExt), .ro (.bool p.head.marker), .ro (.int .i64 p.head.type), .ro (.int .u16 p.head.seq), .ro (.int .u32 p.head.time), .ro (.int .u32 p.head.ssrc), .ro (.list 1 (List.map (ei .u32) p.head.csrc)), .ro (.int .u16 p.profile), .ro (.list 1 (List.map e8 p.ext)), .ro (.list 1 (List.map e8 p.payload)), .ro (.int .i64 p.pad)])), (6, some (.arr 5 1 (List.map e8 a)))]⟩) (fun (a : List Int) => packet_Write_j1 z p a) ?_ (fun J1 => ?_)
      · intro v2 h
        replace h : packet_Write_j1 z p v2 = _ := h
        unfold packet_Write_j1 at h
        refine .sq ?_
        refine be h fun x3 hx3 h => ?_
        refine .rg (u (mv (.t rfl)) <| u (fa ff29_3 (.t rfl)) <| u (ld tf27 (.t rfl) rfl rfl) <| ap 56 pf27 (.t rfl) rfl (.t rfl) hx3 rfl <| u (asg (.t rfl)) <| .nil _) rfl ?_
        refine .sq ?_
        refine .sq ?_
        refine .rg (u (fa ff29_0 (.t rfl)) <| u (fa ff26_0 (.t rfl)) <| u (ld tf4 (.t rfl) rfl rfl) <| .nil _) rfl ?_
        refine .jq (t := some r) (fun (a : List Int) => ⟨[(6, .own 6)], [(6, some (.arr 5 1 (List.map e8 a)))]⟩) (fun (a : List Int) => packet_Write_j2 z a) ?_ (fun J2 => ?_)
        · intro v4 h
          replace h : packet_Write_j2 z v4 = _ := h
          unfold packet_Write_j2 at h
          refine .sq ?_
          refine .rg (u (mv (.t rfl)) <| u (asg (.t rfl)) <| u (asg (.i rfl)) <| .nil _) rfl ?_
          obtain rfl := Option.some.inj h
          refine .ks (l := [(4, .own 0), (5, .ro (.int .i64 0))]) (o := [(0, some (.arr 5 1 (List.map e8 v4)))]) (fun i => bif Nat.beq i 0 then 6 else i) ?_ (.c rfl (.c rfl .n)) (.c rfl .n) rfl
          exact .rt Try.func9 (.t rfl <| .t rfl <| .n) (.c rfl .n) rfl rfl
        refine .bq h (.t rfl) (fun h => ?_) (fun h => ?_)
        · refine .fz 56 rfl ?_
          refine be h fun x5 hx5 h => ?_
          refine .rg (u (mv (.t rfl)) <| u (fa ff29_4 (.t rfl)) <| u (ld tf3 (.t rfl) rfl rfl) <| cnf 65000 cf24 (pad_Add_c hx5) (.c (.t rfl) <| .c (.t rfl) <| .n) rfl rfl rfl <| u (mv (.t rfl)) <| u (ex (.t rfl) rfl rfl) <| u (ex (.t rfl) rfl rfl) <| u (asg (.t rfl)) <| .nil _) rfl ?_
          exact .ks (fun i => bif Nat.beq i 6 then 65000 else i) (J2 x5.1 h) (.c rfl .n) (.c rfl .n) rfl
        · refine .skp ?_
          exact .ks (fun i => bif Nat.beq i 6 then 56 else i) (J2 x3 h) (.c rfl .n) (.c rfl .n) rfl
      refine .bq h (.t rfl) (fun h => ?_) (fun h => ?_)
      · refine .sq ?_
        refine be h fun x6 hx6 h => ?_
        refine .rg (u (fa ff29_1 (.t rfl)) <| u (ld tf22 (.t rfl) rfl rfl) <| u (cv cv22_49 (.t rfl)) <| cnf 35000 cf22 (octet_Put_c hx6) (.c (.t rfl) <| .c (.i rfl) <| .n) rfl rfl rfl <| u (mv (.t rfl)) <| u (ex (.t rfl) rfl rfl) <| u (ex (.t rfl) rfl rfl) <| u (asg (.t rfl)) <| u (asg (.t rfl)) <| .nil _) rfl ?_
        refine .sq ?_
        refine be h fun x7 hx7 h => ?_
        refine .rg (u (fa ff29_2 (.t rfl)) <| u (ld tf27 (.t rfl) rfl rfl) <| u (lnm sf27 (.t rfl)) <| u (di (.t rfl) (.i rfl) rfl (by decide)) <| u (cv cv3_49 (.t rfl)) <| cnf 44000 cf22 (octet_Put_c hx7) (.c (.t rfl) <| .c (.i rfl) <| .n) rfl rfl rfl <| u (mv (.t rfl)) <| u (ex (.t rfl) rfl rfl) <| u (ex (.t rfl) rfl rfl) <| u (asg (.t rfl)) <| u (asg (.t rfl)) <| .nil _) rfl ?_
        refine .fz 25000 rfl ?_
        refine .fz 35000 rfl ?_
        refine .fz 44000 rfl ?_
        refine be h fun x8 hx8 h => ?_
        refine .rg (u (mv (.t rfl)) <| u (mv (.t rfl)) <| u (mv (.t rfl)) <| u (fa ff29_2 (.t rfl)) <| u (ld tf27 (.t rfl) rfl rfl) <| nu (bsn (F := (el 1 e8)) (l := [x1.1, x6.1, x7.1, p.ext]) pf70 (.c (.t rfl) rfl <| .c (.t rfl) rfl <| .c (.t rfl) rfl <| .c (.t rfl) rfl <| .n) rfl (fun _ _ => rfl) rfl) <| cnf 53000 cf23 (octet_Join_c hx8) (.c (.t rfl) <| .n) rfl rfl rfl <| u (asg (.t rfl)) <| .nil _) rfl ?_
        exact .ks (fun i => bif Nat.beq i 6 then 53000 else i) (J1 x8 h) (.c rfl (.c rfl .n)) (.c rfl (.c rfl .n)) rfl
      · refine .skp ?_
        exact .ks (fun i => bif Nat.beq i 6 then 25000 else i) (J1 x1.1 h) (.c rfl (.c rfl .n)) (.c rfl (.c rfl .n)) rfl

theorem packet_Write_r {z : Option Nat} {p : Packet} {room : Int} {r : List Int × Int} (h : packet_Write z p room = some r) :
    AC Try.prog 9 [.ro (enc_Packet p), .ro (.int .i64 room)] (.ro (.tup [.list 1 (List.map e8 r.1), .int .i64 r.2])) [] := AC.fz (packet_Write_c h) rfl

theorem octet_there_c (b : List Int) (at_ : Int) (n : Int) :
    AC Try.prog 59 [.ro (.list 1 (List.map e8 b)), .ro (.int .i64 at_), .ro (.int .i64 n)] (.ro (.bool (octet_there b at_ n))) [] := by
  obtain ⟨r, h⟩ : ∃ r, octet_there b at_ n = r := ⟨_, rfl⟩
  rw [h]
  refine AC.of Try.func59 rfl rfl fun w M0 hM => ?_
  unfold octet_there at h
  refine .sq ?_
  refine .rg (u (asg .b) <| .nil _) rfl ?_
  refine .sq ?_
  refine .rg (u (mv (.t rfl)) <| u (mv (.t rfl)) <| u (lnm sf27 (.t rfl)) <| u (bc (.t rfl) (.t rfl) rfl rfl) <| u (mv (.t rfl)) <| gd rfl rfl (fun hB => mv (.t rfl)) <| gd rfl rfl (fun hB => mv (.t rfl)) <| gd rfl rfl (fun hB => lnm sf27 (.m rfl hB)) <| gd rfl rfl (fun hB => mv (.t rfl)) <| gd rfl rfl (fun hB => bi (.m rfl hB) (.m rfl hB) rfl) <| gd rfl rfl (fun hB => bc (.m rfl hB) (.m rfl hB) rfl rfl) <| u (pka (.t rfl) (.t rfl)) <| u (asg (.t rfl)) <| .nil _) rfl ?_
  subst h
  exact .rt Try.func59 (.t rfl <| .n) .n rfl rfl

theorem octet_Get_c {z : Option Nat} {b : List Int} {at_ : Int} {n : Int} {r : Int × Int} (h : octet_Get z b at_ n = some r) :
    AC Try.prog 55 [.ro (.list 1 (List.map e8 b)), .ro (.int .i64 at_), .ro (.int .i64 n)] (.ro (.tup [.int .u64 r.1, .int .i64 r.2])) [] := by
  refine AC.of Try.func55 rfl rfl fun w M0 hM => ?_
  unfold octet_Get at h
  refine .sq ?_
  refine .rg (u (asg (.i rfl)) <| u (asg (.i rfl)) <| .nil _) rfl ?_
  refine .sq ?_
  refine .bl ?_
  refine .sq ?_
  refine .sq ?_
  refine .rg (u (mv (.t rfl)) <| cl [] cf40 (octet_sized_c n) (.c (.t rfl) <| .n) (.inl rfl) <| u (no (.t rfl)) <| u (asg (.t rfl)) <| .nil _) rfl ?_
  refine .jq (t := some r) (fun (a : Bool) => ⟨[(0, .ro (.list 1 (List.map e8 b))), (1, .ro (.int .i64 at_)), (2, .ro (.int .i64 n)), (11, .ro (.bool a))], []⟩) (fun (a : Bool) => octet_Get_j1 z b at_ n a) ?_ (fun J1 => ?_)
  · intro v1 h
    replace h : octet_Get_j1 z b at_ n v1 = _ := h
    unfold octet_Get_j1 at h
    refine .bq h (.t rfl) (fun h => ?_) (fun h => ?_)
    · refine .sq ?_
      refine .rg (u (asg (.i rfl)) <| u (asg (.i rfl)) <| .nil _) rfl ?_
      obtain rfl := Option.some.inj h
      exact .rt Try.func55 (.t rfl <| .t rfl <| .n) .n rfl rfl
    · refine .sq ?_
      refine .rg (u (mv (.t rfl)) <| u (mv (.t rfl)) <| u (mv (.t rfl)) <| cl [] cf59 (octet_there_c b at_ n) (.c (.t rfl) <| .c (.t rfl) <| .c (.t rfl) <| .n) (.inl rfl) <| u (no (.t rfl)) <| u (asg (.t rfl)) <| .nil _) rfl ?_
      refine .bq h (.t rfl) (fun h => ?_) (fun h => ?_)
      · refine .sq ?_
        refine .rg (u (asg (.i rfl)) <| u (asg (.i rfl)) <| .nil _) rfl ?_
        obtain rfl := Option.some.inj h
        exact .rt Try.func55 (.t rfl <| .t rfl <| .n) .n rfl rfl
      · refine .skp ?_
        refine .ib ?_
        refine .sq ?_
        refine .rg (u (asg (.i rfl)) <| .nil _) rfl ?_
        refine .sq ?_
        refine .sq ?_
        refine be h fun x2 hx2 h => ?_
        refine .rg (u (mv (.t rfl)) <| u (mv (.t rfl)) <| u (mv (.t rfl)) <| u (mv (.t rfl)) <| u (bi (.t rfl) (.t rfl) rfl) <| u (sl sf27 (.t rfl) (.s (.t rfl)) (.s (.t rfl)) hx2) <| u (lnm sf27 (.t rfl)) <| u (mv (.i rfl)) <| .nil _) rfl ?_
        refine .bl ?_
        unfold octet_Get_l2 at h
        refine .kq (.lo (fun (s : Int × Int) => ⟨[(8, .ro (.int .u64 s.1)), (28, .ro (.list 1 (List.map e8 x2))), (29, .ro (.int .i64 (x2.length : Int))), (30, .ro (.int .i64 s.2))], []⟩) h ?_) (.c rfl (.c rfl (.c rfl (.c rfl .n)))) .n
        rintro ⟨v3, v4⟩ u2 h ih2 hx2
        replace h : octet_Get_s2 z x2 v3 v4 = _ := h
        unfold octet_Get_s2 at h
        refine .sq ?_
        refine .rg (u (bc (.t rfl) (.t rfl) rfl rfl) <| .nil _) rfl ?_
        refine .sq ?_
        refine .bq h (.t rfl) (fun h => ?_) (fun h => ?_)
        · refine .skp ?_
          refine .sq ?_
          refine .bl ?_
          refine .sq ?_
          refine be h fun x5 hx5 h => ?_
          refine .rg (u (ia sf27 (.t rfl) (.t rfl) (ix_map e8 hx5)) <| u (lr tf5 (.t rfl) rfl) <| u (asg (.t rfl)) <| .nil _) rfl ?_
          refine .rg (u (mv (.t rfl)) <| u (sh (.t rfl) (.i rfl) rfl (by decide)) <| u (mv (.t rfl)) <| u (cv cv5_49 (.t rfl)) <| u (bi (.t rfl) (.t rfl) rfl) <| u (asg (.t rfl)) <| .nil _) rfl ?_
          refine .ib ?_
          refine .rg (u (bi (.t rfl) (.i rfl) rfl) <| u (mv (.t rfl)) <| .nil _) rfl ?_
          exact .kq (.il (ih2 ((ar .or .u64 (sf .shl .u64 v3 8) (IntKind.u64.wrap x5)), (ar .add .i64 v4 1)) (nxi h))) (.c rfl (.c rfl (.c rfl (.c rfl .n)))) .n
        · refine .xt rfl ?_
          replace h := mpR h hx2
          refine .sq ?_
          refine .rg (u (mv (.t rfl)) <| u (asg (.t rfl)) <| u (asg (.i rfl)) <| .nil _) rfl ?_
          obtain rfl := Option.some.inj h
          exact .rt Try.func55 (.t rfl <| .t rfl <| .n) .n rfl rfl
  refine .bq h (.t rfl) (fun h => ?_) (fun h => ?_)
  · refine .skp ?_
    exact .kq (J1 (!(octet_sized n)) h) (.c rfl (.c rfl (.c rfl (.c rfl .n)))) .n
  · refine .rg (u (mv (.t rfl)) <| u (bc (.t rfl) (.i rfl) rfl rfl) <| u (asg (.t rfl)) <| .nil _) rfl ?_
    exact .kq (J1 (cm .lss at_ 0) h) (.c rfl (.c rfl (.c rfl (.c rfl .n)))) .n

theorem head_number_c {z : Option Nat} {b : List Int} {r : Int} (h : head_number z b = some r) :
    AC Try.prog 53 [.ro (.list 1 (List.map e8 b))] (.ro (.int .u32 r)) [] := by
  refine AC.of Try.func53 rfl rfl fun w M0 hM => ?_
  unfold head_number at h
  refine .sq ?_
  refine .rg (u (asg (.i rfl)) <| .nil _) rfl ?_
  refine .sq ?_
  refine be h fun x1 hx1 h => ?_
  refine .rg (u (mv (.t rfl)) <| u (mv (.t rfl)) <| u (lnm sf27 (.t rfl)) <| cl [] cf55 (octet_Get_c hx1) (.c (.t rfl) <| .c (.i rfl) <| .c (.t rfl) <| .n) (.inl rfl) <| u (mv (.t rfl)) <| u (ex (.t rfl) rfl rfl) <| u (ex (.t rfl) rfl rfl) <| u (asg (.t rfl)) <| u (asg (.t rfl)) <| .nil _) rfl ?_
  refine .sq ?_
  refine .rg (u (mv (.t rfl)) <| u (cv cv49_23 (.t rfl)) <| u (asg (.t rfl)) <| .nil _) rfl ?_
  obtain rfl := Option.some.inj h
  exact .rt Try.func53 (.t rfl <| .n) .n rfl rfl

theorem slices_Chunk54_c {l : List Int} {n : Int} (hn : cm .lss n 1 = false) : AC Try.prog 54 [.ro (.list 1 (List.map e8 l)), .ro (.int .i64 n)] (.fn (.func 58) [] [.rptr [.list 1 (List.map e8 l)], .rptr [.int .i64 n]]) [] := by
  refine AC.of Try.func54 rfl rfl fun w M0 hM => ?_
  refine .sq ?_
  refine .rg (bx 2 (.t rfl) rfl rfl <| bx 3 (.t rfl) rfl rfl <| u (asg (.r rfl)) <| .nil _) rfl ?_
  refine .sq ?_
  refine .sq ?_
  refine .rg (u (ld tf3 (.t rfl) rfl rfl) <| u (bc (.t rfl) (.i rfl) rfl rfl) <| .nil _) rfl ?_
  refine .cf (.t rfl) hn ?_
  refine .skp ?_
  refine .sq ?_
  refine .fb 2 rfl rfl ?_
  refine .fb 3 rfl rfl ?_
  refine .rg (u (mfn (.c (.t rfl) <| .c (.t rfl) <| .n)) <| u (asg (.t rfl)) <| .nil _) rfl ?_
  exact .rt Try.func54 (.t rfl <| .n) .n rfl rfl

theorem head_Read_c {z : Option Nat} {b : List Int} {r : Head × Int × Int} (h : head_Read z b = some r) :
    AC Try.prog 45 [.ro (.list 1 (List.map e8 b))] (.ro (.tup [enc_Head r.1, .int .i64 r.2.1, .int .i64 r.2.2])) [] := by
  refine AC.of Try.func45 rfl rfl fun w M0 hM => ?_
  unfold head_Read at h
  refine .sq ?_
  refine .rg (al 2 zf26 rfl <| u (asg (.i rfl)) <| u (asg (.i rfl)) <| .nil _) rfl ?_
  refine .sq ?_
  refine .bl ?_
  refine .sq ?_
  refine .rg (u (mv (.t rfl)) <| u (lnm sf27 (.t rfl)) <| u (bc (.t rfl) (.i rfl) rfl rfl) <| u (asg (.t rfl)) <| .nil _) rfl ?_
  refine .bq h (.t rfl) (fun h => ?_) (fun h => ?_)
  · refine .sq ?_
    refine .rg (u (bd bf26 zf26 (.n) rfl) <| st tf26 (.t rfl) rfl (.t rfl) rfl rfl rfl <| u (asg (.i rfl)) <| u (asg (.i rfl)) <| .nil _) rfl ?_
    obtain rfl := Option.some.inj h
    exact .rt Try.func45 (.c tf26 rfl rfl rfl <| .t rfl <| .t rfl <| .n) .n rfl rfl
  · refine .sq ?_
    refine be h fun x1 hx1 h => ?_
    refine .rg (u (mv (.t rfl)) <| u (ia sf27 (.t rfl) (.i rfl) (ix_map e8 hx1)) <| u (lr tf5 (.t rfl) rfl) <| u (sh (.t rfl) (.i rfl) rfl (by decide)) <| u (bc (.t rfl) (.i rfl) rfl rfl) <| u (asg (.t rfl)) <| .nil _) rfl ?_
    refine .bq h (.t rfl) (fun h => ?_) (fun h => ?_)
    · refine .sq ?_
      refine .rg (u (bd bf26 zf26 (.n) rfl) <| st tf26 (.t rfl) rfl (.t rfl) rfl rfl rfl <| u (asg (.i rfl)) <| u (asg (.i rfl)) <| .nil _) rfl ?_
      obtain rfl := Option.some.inj h
      exact .rt Try.func45 (.c tf26 rfl rfl rfl <| .t rfl <| .t rfl <| .n) .n rfl rfl
    · refine .skp ?_
      refine .ib ?_
      refine .sq ?_
      refine be h fun x2 hx2 h => ?_
      refine .rg (u (mv (.t rfl)) <| u (ia sf27 (.t rfl) (.i rfl) (ix_map e8 hx2)) <| u (lr tf5 (.t rfl) rfl) <| u (bi (.t rfl) (.i rfl) rfl) <| u (cv cv5_3 (.t rfl)) <| u (asg (.t rfl)) <| .nil _) rfl ?_
      refine .sq ?_
      refine .rg (u (mv (.t rfl)) <| u (bi (.i rfl) (.t rfl) rfl) <| u (bi (.i rfl) (.t rfl) rfl) <| u (asg (.t rfl)) <| .nil _) rfl ?_
      refine .sq ?_
      refine .sq ?_
      refine .rg (u (mv (.t rfl)) <| u (lnm sf27 (.t rfl)) <| u (mv (.t rfl)) <| u (bc (.t rfl) (.t rfl) rfl rfl) <| .nil _) rfl ?_
      refine .bq h (.t rfl) (fun h => ?_) (fun h => ?_)
      · refine .sq ?_
        refine .rg (u (bd bf26 zf26 (.n) rfl) <| st tf26 (.t rfl) rfl (.t rfl) rfl rfl rfl <| u (asg (.i rfl)) <| u (asg (.i rfl)) <| .nil _) rfl ?_
        obtain rfl := Option.some.inj h
        exact .rt Try.func45 (.c tf26 rfl rfl rfl <| .t rfl <| .t rfl <| .n) .n rfl rfl
      · refine .skp ?_
        refine .sq ?_
        refine be h fun x3 hx3 h => ?_
        refine be h fun x4 hx4 h => ?_
        refine be h fun x5 hx5 h => ?_
        refine be h fun x6 hx6 h => ?_
        refine .rd mixed (u (mv (.t rfl)) <| u (ia sf27 (.t rfl) (.i rfl) (ix_map e8 hx3)) <| u (lr tf5 (.t rfl) rfl) <| u (bi (.t rfl) (.i rfl) rfl) <| u (bc (.t rfl) (.i rfl) rfl rfl) <| u (mv (.t rfl)) <| u (ia sf27 (.t rfl) (.i rfl) (ix_map e8 hx4)) <| u (lr tf5 (.t rfl) rfl) <| u (bi (.t rfl) (.i rfl) rfl) <| u (bc (.t rfl) (.i rfl) rfl rfl) <| u (mv (.t rfl)) <| u (ia sf27 (.t rfl) (.i rfl) (ix_map e8 hx5)) <| u (lr tf5 (.t rfl) rfl) <| u (bi (.t rfl) (.i rfl) rfl) <| u (bc (.t rfl) (.i rfl) rfl rfl) <| u (mv (.t rfl)) <| u (ia sf27 (.t rfl) (.i rfl) (ix_map e8 hx6)) <| u (lr tf5 (.t rfl) rfl) <| u (bi (.t rfl) (.i rfl) rfl) <| u (cv cv5_3 (.t rfl)) <| u (bd bf26 zf26_7 (.c rfl (.t rfl) rfl rfl rfl <| .c rfl (.t rfl) rfl rfl rfl <| .c rfl (.t rfl) rfl rfl rfl <| .c rfl (.t rfl) rfl rfl rfl <| .n) rfl) <| al 7 zf26_7 rfl <| st tf26 (.t rfl) rfl (.t rfl) rfl rfl rfl <| .nil _) (by kernel_rfl) rfl ?_
        refine .th (F := (ei .u32)) 7 7 700707 23 1 rfl rfl rfl ?_
        refine .sq ?_
        refine be h fun x7 hx7 h => ?_
        refine be h fun x8 hx8 h => ?_
        refine be h fun x9 hx9 h => ?_
        refine be h fun x10 hx10 h => ?_
        refine be h fun x11 hx11 h => ?_
        refine be h fun x12 hx12 h => ?_
        refine .rd mixed (u (mv (.t rfl)) <| u (sl sf27 (.t rfl) (.s (.i rfl)) (.s (.i rfl)) hx7) <| cl [] cf53 (head_number_c hx8) (.c (.t rfl) <| .n) (.inl rfl) <| u (cv cv23_22 (.t rfl)) <| u (mv (.t rfl)) <| u (sl sf27 (.t rfl) (.s (.i rfl)) (.s (.i rfl)) hx9) <| cl [] cf53 (head_number_c hx10) (.c (.t rfl) <| .n) (.inl rfl) <| u (mv (.t rfl)) <| u (sl sf27 (.t rfl) (.s (.i rfl)) (.s (.i rfl)) hx11) <| cl [] cf53 (head_number_c hx12) (.c (.t rfl) <| .n) (.inl rfl) <| u (fa ff26_4 (.t rfl)) <| st tf22 (.t rfl) rfl (.t rfl) rfl rfl rfl <| u (fa ff26_5 (.t rfl)) <| st tf23 (.t rfl) rfl (.t rfl) rfl rfl rfl <| u (fa ff26_6 (.t rfl)) <| st tf23 (.t rfl) rfl (.t rfl) rfl rfl rfl <| .nil _) (by kernel_rfl) rfl ?_
        refine .sq ?_
        refine .sq ?_
        refine be h fun x13 hx13 h => ?_
        refine .rg (u (mv (.t rfl)) <| u (mv (.t rfl)) <| u (sl sf27 (.t rfl) (.s (.i rfl)) (.s (.t rfl)) hx13) <| cnf 0 cf54 (slices_Chunk54_c (l := x13) (n := 4) rfl) (.c (.t rfl) <| .c (.i rfl) <| .n) rfl rfl rfl <| .nil _) rfl ?_
        refine .bl ?_
        refine be h fun x14 hx14 h => ?_
        unfold head_Read_l1 at h
        refine .kq (.rgc (n := 4) (F := e8) (fun (s : Head) => ⟨[(2, .ptr 2 0), (6, .ro (.int .i64 (ar .add .i64 12 (ar .mul .i64 4 (IntKind.i64.wrap (ar .and .u8 x2 15)))))), (7, .ptr 7 0), (71, .fn (.func 58) [] [.rptr [.list 1 (List.map e8 x13)], .rptr [.int .i64 4]])], [(2, some (.box [.ro (.bool false), .ro (.bool false), .ro (.bool false), .ro (.int .i64 0), .ro (.int .u16 0), .ro (.int .u32 0), .ro (.int .u32 0), .ro (.list 1 (List.map (ei .u32) []))])), (7, some (.box [.ro (.bool s.hasPad), .ro (.bool s.hasExt), .ro (.bool s.marker), .ro (.int .i64 s.type), .ro (.int .u16 s.seq), .ro (.int .u32 s.time), .ro (.int .u32 s.ssrc), .own 700707])), (700707, some (.arr 23 1 (List.map (ei .u32) s.csrc)))]⟩) [2, 6, 7, 71] chunk58_in cf58 h (lnO_le hx14) rfl (fun _ => rfl) (fun _ => rfl) rfl ⟨rfl, rfl⟩ ?_ ?_) (.c rfl (.c rfl (.c rfl (.c rfl .n)))) (.c rfl (.c rfl (.c rfl .n)))
        · rintro D1 l1 r1 pv1 R1 y1 v15 u1 h ih1 hx1 jr1 jx1 bg1
          replace h : head_Read_s1 z y1 v15 = _ := h
          unfold head_Read_s1 at h
          refine .rg (u (asg (.t rfl)) <| .nil _) rfl ?_
          refine bg1 _ _ ?_
          refine .bl ?_
          refine be h fun x16 hx16 h => ?_
          refine be h fun x17 hx17 h => ?_
          refine .rd mixed (u (fa ff26_7 (.t rfl)) <| u (ld tf24 (.t rfl) rfl rfl) <| u (mv (.t rfl)) <| cl [] cf53 (head_number_c hx16) (.c (.t rfl) <| .n) (.inl rfl) <| bs (F := (ei .u32)) (l := [x16]) 77 pf24 (.c (.t rfl) rfl <| .n) rfl (fun _ _ => rfl) rfl rfl <| apo 78 pf24 (.t rfl) rfl (.t rfl) rfl hx17 rfl <| u (fa ff26_7 (.t rfl)) <| st tf24 (.t rfl) rfl (.t rfl) rfl rfl rfl <| .nil _) (by kernel_rfl) rfl ?_
          refine .ib ?_
          exact .ks (fun i => bif Nat.beq i 700707 then 78 else i) (ih1 ({ v15 with csrc := x17 }) (nxi h)) (.c rfl (.c rfl (.c rfl (.c rfl .n)))) (.c rfl (.c rfl (.c rfl .n))) rfl
        · rintro D1 v15 h
          replace h : head_Read_d1 z x2 v15 = _ := h
          unfold head_Read_d1 at h
          refine .ib ?_
          refine .sq ?_
          refine .rg (u (ld tf26 (.t rfl) rfl rfl) <| u (mv (.t rfl)) <| st tf26 (.t rfl) rfl (.t rfl) rfl rfl rfl <| u (asg (.t rfl)) <| u (asg (.i rfl)) <| .nil _) rfl ?_
          refine .fz 700707 rfl ?_
          obtain rfl := Option.some.inj h
          exact .rt Try.func45 (.c tf26 rfl rfl rfl <| .t rfl <| .t rfl <| .n) .n rfl rfl

theorem slices_Clone_c {l r : List Int} (h : slices_Clone l = some r) : AC Try.prog 60 [.ro (.list 1 (List.map e8 l))] (.own 0) [(0, .arr 5 1 (List.map e8 r))] := by
  unfold slices_Clone at h
  obtain rfl := app_nil h
  refine AC.of Try.func60 rfl rfl fun w M0 hM => ?_
  refine .sq ?_
  refine .rg (anm e8 0 5 1 rfl rfl <| .nil _) rfl ?_
  refine .sq ?_
  refine .sq ?_
  refine .nq rfl sf27 rfl rfl fun b hb => ?_
  refine .cd (.t rfl) (fun hh => ?_) (fun _ => ?_)
  · have hl := hb hh
    obtain rfl := List.map_eq_nil_iff.1 hl
    refine .sq ?_
    refine .rg (anm e8 10 5 1 rfl rfl <| .nil _) rfl ?_
    refine .ks (l := [(2, .own 0)]) (o := [(0, some (.arr 5 1 (List.map e8 [])))]) (fun i => bif Nat.beq i 0 then 10 else i) ?_ (.c rfl .n) (.c rfl .n) rfl
    exact .rt Try.func60 (.t rfl <| .n) (.c rfl .n) rfl rfl
  · refine .skp ?_
    refine .sq ?_
    refine .rg (bs (F := e8) (l := ([] : List Int)) 5 pf27 .n rfl (fun _ _ => rfl) rfl rfl <| u (mv (.t rfl)) <| ap 7 pf27 (.t rfl) rfl (.t rfl) h rfl <| u (asg (.t rfl)) <| .nil _) rfl ?_
    refine .ks (l := [(2, .own 0)]) (o := [(0, some (.arr 5 1 (List.map e8 l)))]) (fun i => bif Nat.beq i 0 then 7 else i) ?_ (.c rfl .n) (.c rfl .n) rfl
    exact .rt Try.func60 (.t rfl <| .n) (.c rfl .n) rfl rfl

theorem octet_Part_c {b : List Int} {at_ : Int} {n : Int} {r : List Int × Int} (h : octet_Part b at_ n = some r) :
    AC Try.prog 56 [.ro (.list 1 (List.map e8 b)), .ro (.int .i64 at_), .ro (.int .i64 n)] (.tup [.own 0, .ro (.int .i64 r.2)]) [(0, .arr 5 1 (List.map e8 r.1))] := by
  refine AC.of Try.func56 rfl rfl fun w M0 hM => ?_
  unfold octet_Part at h
  refine .sq ?_
  refine .rg (anm e8 6 5 1 rfl rfl <| u (asg (.i rfl)) <| .nil _) rfl ?_
  refine .sq ?_
  refine .bl ?_
  refine .sq ?_
  refine .sq ?_
  refine .rg (u (mv (.t rfl)) <| u (bc (.t rfl) (.i rfl) rfl rfl) <| u (asg (.t rfl)) <| .nil _) rfl ?_
  refine .jq (t := some r) (fun (a : Bool) => ⟨[(0, .ro (.list 1 (List.map e8 b))), (1, .ro (.int .i64 at_)), (2, .ro (.int .i64 n)), (8, .ro (.bool a))], []⟩) (fun (a : Bool) => octet_Part_j1 b at_ n a) ?_ (fun J1 => ?_)
  · intro v1 h
    replace h : octet_Part_j1 b at_ n v1 = _ := h
    unfold octet_Part_j1 at h
    refine .bq h (.t rfl) (fun h => ?_) (fun h => ?_)
    · refine .sq ?_
      refine .rg (anm e8 6 5 1 rfl rfl <| u (asg (.i rfl)) <| .nil _) rfl ?_
      obtain rfl := Option.some.inj h
      refine .ks (l := [(6, .own 0), (7, .ro (.int .i64 1))]) (o := [(0, some (.arr 5 1 (List.map e8 [])))]) (fun i => bif Nat.beq i 0 then 6 else i) ?_ (.c rfl (.c rfl .n)) (.c rfl .n) rfl
      exact .rt Try.func56 (.t rfl <| .t rfl <| .n) (.c rfl .n) rfl rfl
    · refine .sq ?_
      refine .rg (u (mv (.t rfl)) <| u (mv (.t rfl)) <| u (mv (.t rfl)) <| cl [] cf59 (octet_there_c b at_ n) (.c (.t rfl) <| .c (.t rfl) <| .c (.t rfl) <| .n) (.inl rfl) <| u (no (.t rfl)) <| u (asg (.t rfl)) <| .nil _) rfl ?_
      refine .bq h (.t rfl) (fun h => ?_) (fun h => ?_)
      · refine .sq ?_
        refine .rg (anm e8 6 5 1 rfl rfl <| u (asg (.i rfl)) <| .nil _) rfl ?_
        obtain rfl := Option.some.inj h
        refine .ks (l := [(6, .own 0), (7, .ro (.int .i64 2))]) (o := [(0, some (.arr 5 1 (List.map e8 [])))]) (fun i => bif Nat.beq i 0 then 6 else i) ?_ (.c rfl (.c rfl .n)) (.c rfl .n) rfl
        exact .rt Try.func56 (.t rfl <| .t rfl <| .n) (.c rfl .n) rfl rfl
      · refine .skp ?_
        refine .ib ?_
        refine .sq ?_
        refine be h fun x2 hx2 h => ?_
        refine be h fun x3 hx3 h => ?_
        refine .rg (u (mv (.t rfl)) <| u (mv (.t rfl)) <| u (mv (.t rfl)) <| u (mv (.t rfl)) <| u (bi (.t rfl) (.t rfl) rfl) <| u (sl sf27 (.t rfl) (.s (.t rfl)) (.s (.t rfl)) hx2) <| cnl 25 cf60 (slices_Clone_c hx3) (.c (.t rfl) <| .n) rfl <| u (asg (.t rfl)) <| u (asg (.i rfl)) <| .nil _) rfl ?_
        obtain rfl := Option.some.inj h
        refine .ks (l := [(6, .own 0), (7, .ro (.int .i64 0))]) (o := [(0, some (.arr 5 1 (List.map e8 x3)))]) (fun i => bif Nat.beq i 0 then 25 else i) ?_ (.c rfl (.c rfl .n)) (.c rfl .n) rfl
        exact .rt Try.func56 (.t rfl <| .t rfl <| .n) (.c rfl .n) rfl rfl
  refine .bq h (.t rfl) (fun h => ?_) (fun h => ?_)
  · refine .skp ?_
    exact .kq (J1 (cm .lss n 0) h) (.c rfl (.c rfl (.c rfl (.c rfl .n)))) .n
  · refine .rg (u (mv (.t rfl)) <| u (bc (.t rfl) (.i rfl) rfl rfl) <| u (asg (.t rfl)) <| .nil _) rfl ?_
    exact .kq (J1 (cm .lss at_ 0) h) (.c rfl (.c rfl (.c rfl (.c rfl .n)))) .n

theorem octet_Part_r {b : List Int} {at_ : Int} {n : Int} {r : List Int × Int} (h : octet_Part b at_ n = some r) :
    AC Try.prog 56 [.ro (.list 1 (List.map e8 b)), .ro (.int .i64 at_), .ro (.int .i64 n)] (.ro (.tup [.list 1 (List.map e8 r.1), .int .i64 r.2])) [] := AC.fz (octet_Part_c h) rfl

theorem packet_extension_c {z : Option Nat} {b : List Int} {r : Int × List Int × List Int × Int} (h : packet_extension z b = some r) :
    AC Try.prog 46 [.ro (.list 1 (List.map e8 b))] (.ro (.tup [.int .u16 r.1, .list 1 (List.map e8 r.2.1), .list 1 (List.map e8 r.2.2.1), .int .i64 r.2.2.2])) [] := by
  refine AC.of Try.func46 rfl rfl fun w M0 hM => ?_
  unfold packet_extension at h
  refine .sq ?_
  refine .rg (u (asg (.i rfl)) <| u (asg (.n (sz := 1) (F := e8))) <| u (asg (.n (sz := 1) (F := e8))) <| u (asg (.i rfl)) <| .nil _) rfl ?_
  refine .sq ?_
  refine be h fun x1 hx1 h => ?_
  refine .rg (u (mv (.t rfl)) <| cl [] cf55 (octet_Get_c hx1) (.c (.t rfl) <| .c (.i rfl) <| .c (.i rfl) <| .n) (.inl rfl) <| u (mv (.t rfl)) <| u (ex (.t rfl) rfl rfl) <| u (ex (.t rfl) rfl rfl) <| u (asg (.t rfl)) <| u (asg (.t rfl)) <| .nil _) rfl ?_
  refine .sq ?_
  refine be h fun x2 hx2 h => ?_
  refine .rg (u (mv (.t rfl)) <| cl [] cf55 (octet_Get_c hx2) (.c (.t rfl) <| .c (.i rfl) <| .c (.i rfl) <| .n) (.inl rfl) <| u (mv (.t rfl)) <| u (ex (.t rfl) rfl rfl) <| u (ex (.t rfl) rfl rfl) <| u (asg (.t rfl)) <| u (asg (.t rfl)) <| .nil _) rfl ?_
  refine .sq ?_
  refine .sq ?_
  refine .rg (u (mv (.t rfl)) <| u (bc (.t rfl) (.i rfl) rfl rfl) <| .nil _) rfl ?_
  refine .bq h (.t rfl) (fun h => ?_) (fun h => ?_)
  · refine .sq ?_
    refine .rg (u (mv (.t rfl)) <| u (asg (.i rfl)) <| u (asg (.n (sz := 1) (F := e8))) <| u (asg (.n (sz := 1) (F := e8))) <| u (asg (.t rfl)) <| .nil _) rfl ?_
    obtain rfl := Option.some.inj h
    exact .rt Try.func46 (.t rfl <| .t rfl <| .t rfl <| .t rfl <| .n) .n rfl rfl
  · refine .skp ?_
    refine .sq ?_
    refine be h fun x3 hx3 h => ?_
    refine .rg (u (mv (.t rfl)) <| u (mv (.t rfl)) <| u (cv cv49_3 (.t rfl)) <| u (bi (.i rfl) (.t rfl) rfl) <| cnf 30000 cf56 (octet_Part_c hx3) (.c (.t rfl) <| .c (.i rfl) <| .c (.t rfl) <| .n) rfl rfl rfl <| u (mv (.t rfl)) <| u (ex (.t rfl) rfl rfl) <| u (ex (.t rfl) rfl rfl) <| u (asg (.t rfl)) <| u (asg (.t rfl)) <| .nil _) rfl ?_
    refine .sq ?_
    refine .sq ?_
    refine .rg (u (mv (.t rfl)) <| u (bc (.t rfl) (.i rfl) rfl rfl) <| .nil _) rfl ?_
    refine .bq h (.t rfl) (fun h => ?_) (fun h => ?_)
    · refine .sq ?_
      refine .rg (u (mv (.t rfl)) <| u (asg (.i rfl)) <| u (asg (.n (sz := 1) (F := e8))) <| u (asg (.n (sz := 1) (F := e8))) <| u (asg (.t rfl)) <| .nil _) rfl ?_
      obtain rfl := Option.some.inj h
      exact .rt Try.func46 (.t rfl <| .t rfl <| .t rfl <| .t rfl <| .n) .n rfl rfl
    · refine .skp ?_
      refine .sq ?_
      refine be h fun x4 hx4 h => ?_
      refine .rd mixed (u (mv (.t rfl)) <| u (cv cv49_22 (.t rfl)) <| u (mv (.t rfl)) <| u (mv (.t rfl)) <| u (mv (.t rfl)) <| u (lom sf27 (.t rfl) rfl) <| u (bi (.i rfl) (.t rfl) rfl) <| u (sl sf27 (.t rfl) (.s (.t rfl)) .n hx4) <| u (asg (.t rfl)) <| u (asg (.t rfl)) <| u (asg (.t rfl)) <| u (asg (.i rfl)) <| .nil _) (by kernel_rfl) rfl ?_
      refine .fz 30000 rfl ?_
      obtain rfl := Option.some.inj h
      exact .rt Try.func46 (.t rfl <| .t rfl <| .t rfl <| .t rfl <| .n) .n rfl rfl

theorem pad_Trail_c {b : List Int} {r : Int × Int} (h : pad_Trail b = some r) :
    AC Try.prog 47 [.ro (.list 1 (List.map e8 b))] (.ro (.tup [.int .i64 r.1, .int .i64 r.2])) [] := by
  refine AC.of Try.func47 rfl rfl fun w M0 hM => ?_
  unfold pad_Trail at h
  refine .sq ?_
  refine .rg (u (asg (.i rfl)) <| u (asg (.i rfl)) <| .nil _) rfl ?_
  refine .sq ?_
  refine .sq ?_
  refine .rg (u (mv (.t rfl)) <| u (lnm sf27 (.t rfl)) <| u (bc (.t rfl) (.i rfl) rfl rfl) <| .nil _) rfl ?_
  refine .bq h (.t rfl) (fun h => ?_) (fun h => ?_)
  · refine .sq ?_
    refine .rg (u (asg (.i rfl)) <| u (asg (.i rfl)) <| .nil _) rfl ?_
    obtain rfl := Option.some.inj h
    exact .rt Try.func47 (.t rfl <| .t rfl <| .n) .n rfl rfl
  · refine .skp ?_
    refine .sq ?_
    refine be h fun x1 hx1 h => ?_
    refine .rg (u (mv (.t rfl)) <| u (mv (.t rfl)) <| u (lnm sf27 (.t rfl)) <| u (bi (.t rfl) (.i rfl) rfl) <| u (ia sf27 (.t rfl) (.t rfl) (ix_map e8 hx1)) <| u (lr tf5 (.t rfl) rfl) <| u (cv cv5_3 (.t rfl)) <| u (asg (.t rfl)) <| .nil _) rfl ?_
    refine .sq ?_
    refine .sq ?_
    refine .rg (u (mv (.t rfl)) <| u (bc (.t rfl) (.i rfl) rfl rfl) <| u (mv (.t rfl)) <| gd rfl rfl (fun hB => mv (.t rfl)) <| gd rfl rfl (fun hB => mv (.t rfl)) <| gd rfl rfl (fun hB => lnm sf27 (.m rfl hB)) <| gd rfl rfl (fun hB => bc (.m rfl hB) (.m rfl hB) rfl rfl) <| u (pko (.t rfl) (.t rfl)) <| .nil _) rfl ?_
    refine .bq h (.t rfl) (fun h => ?_) (fun h => ?_)
    · refine .sq ?_
      refine .rg (u (asg (.i rfl)) <| u (asg (.i rfl)) <| .nil _) rfl ?_
      obtain rfl := Option.some.inj h
      exact .rt Try.func47 (.t rfl <| .t rfl <| .n) .n rfl rfl
    · refine .skp ?_
      refine .sq ?_
      refine .rg (u (mv (.t rfl)) <| u (asg (.t rfl)) <| u (asg (.i rfl)) <| .nil _) rfl ?_
      obtain rfl := Option.some.inj h
      exact .rt Try.func47 (.t rfl <| .t rfl <| .n) .n rfl rfl

theorem packet_read_c {z : Option Nat} {b : List Int} {r : Packet × List Int × Int} (h : packet_read z b = some r) :
    AC Try.prog 28 [.ro (.list 1 (List.map e8 b))] (.ro (.tup [enc_Packet r.1, .list 1 (List.map e8 r.2.1), .int .i64 r.2.2])) [] := by
  refine AC.of Try.func28 rfl rfl fun w M0 hM => ?_
  unfold packet_read at h
  refine .sq ?_
  refine .rg (al 2 zf29 rfl <| u (asg (.n (sz := 1) (F := e8))) <| u (asg (.i rfl)) <| .nil _) rfl ?_
  refine .sq ?_
  refine .rg (al 5 zf29 rfl <| .nil _) rfl ?_
  refine .sq ?_
  refine .sq ?_
  refine .rg (u (mv (.t rfl)) <| u (lnm sf27 (.t rfl)) <| u (bc (.t rfl) (.i rfl) rfl rfl) <| .nil _) rfl ?_
  refine .bq h (.t rfl) (fun h => ?_) (fun h => ?_)
  · refine .sq ?_
    refine .rg (u (ld tf29 (.t rfl) rfl rfl) <| st tf29 (.t rfl) rfl (.t rfl) rfl rfl rfl <| u (asg (.n (sz := 1) (F := e8))) <| u (asg (.i rfl)) <| .nil _) rfl ?_
    obtain rfl := Option.some.inj h
    exact .rt Try.func28 (.c tf29 rfl rfl rfl <| .t rfl <| .t rfl <| .n) .n rfl rfl
  · refine .skp ?_
    refine .sq ?_
    refine be h fun x1 hx1 h => ?_
    refine .rg (u (mv (.t rfl)) <| cl [] cf45 (head_Read_c hx1) (.c (.t rfl) <| .n) (.inl rfl) <| u (mv (.t rfl)) <| u (ex (.t rfl) rfl rfl) <| u (ex (.t rfl) rfl rfl) <| u (ex (.t rfl) rfl rfl) <| al 6 zf26 rfl <| st tf26 (.t rfl) rfl (.t rfl) rfl rfl rfl <| u (asg (.t rfl)) <| u (asg (.t rfl)) <| .nil _) rfl ?_
    refine .sq ?_
    refine .sq ?_
    refine .rg (u (mv (.t rfl)) <| u (bc (.t rfl) (.i rfl) rfl rfl) <| .nil _) rfl ?_
    refine .bq h (.t rfl) (fun h => ?_) (fun h => ?_)
    · refine .sq ?_
      refine .rg (u (ld tf29 (.t rfl) rfl rfl) <| u (mv (.t rfl)) <| st tf29 (.t rfl) rfl (.t rfl) rfl rfl rfl <| u (asg (.n (sz := 1) (F := e8))) <| u (asg (.t rfl)) <| .nil _) rfl ?_
      obtain rfl := Option.some.inj h
      exact .rt Try.func28 (.c tf29 rfl rfl rfl <| .t rfl <| .t rfl <| .n) .n rfl rfl
    · refine .skp ?_
      refine .sq ?_
      refine .rg (u (ld tf26 (.t rfl) rfl rfl) <| u (fa ff29_0 (.t rfl)) <| st tf26 (.t rfl) rfl (.t rfl) rfl rfl rfl <| .nil _) rfl ?_
      refine .sq ?_
      refine be h fun x2 hx2 h => ?_
      refine .rg (u (mv (.t rfl)) <| u (mv (.t rfl)) <| u (sl sf27 (.t rfl) (.s (.t rfl)) .n hx2) <| u (asg (.t rfl)) <| .nil _) rfl ?_
      refine .sq ?_
      refine .sq ?_
      refine .rg (u (fa ff26_1 (.t rfl)) <| u (ld tf4 (.t rfl) rfl rfl) <| .nil _) rfl ?_
      refine .jq (t := some r) (fun (a : List Int × Packet × Packet) => ⟨[(2, .ptr 2 0), (5, .ptr 5 0), (6, .ptr 6 0), (9, .ro (.list 1 (List.map e8 a.1)))], [(2, some (.box [.ro (.bool a.2.1.head.hasPad), .ro (.bool a.2.1.head.hasExt), .ro (.bool a.2.1.head.marker), .ro (.int .i64 a.2.1.head.type), .ro (.int .u16 a.2.1.head.seq), .ro (.int .u32 a.2.1.head.time), .ro (.int .u32 a.2.1.head.ssrc), .ro (.list 1 (List.map (ei .u32) a.2.1.head.csrc)), .ro (.int .u16 a.2.1.profile), .ro (.list 1 (List.map e8 a.2.1.ext)), .ro (.list 1 (List.map e8 a.2.1.payload)), .ro (.int .i64 a.2.1.pad)])), (5, some (.box [.ro (.bool a.2.2.head.hasPad), .ro (.bool a.2.2.head.hasExt), .ro (.bool a.2.2.head.marker), .ro (.int .i64 a.2.2.head.type), .ro (.int .u16 a.2.2.head.seq), .ro (.int .u32 a.2.2.head.time), .ro (.int .u32 a.2.2.head.ssrc), .ro (.list 1 (List.map (ei .u32) a.2.2.head.csrc)), .ro (.int .u16 a.2.2.profile), .ro (.list 1 (List.map e8 a.2.2.ext)), .ro (.list 1 (List.map e8 a.2.2.payload)), .ro (.int .i64 a.2.2.pad)])), (6, some (.box [.ro (.bool x1.1.hasPad), .ro (.bool x1.1.hasExt), .ro (.bool x1.1.marker), .ro (.int .i64 x1.1.type), .ro (.int .u16 x1.1.seq), .ro (.int .u32 x1.1.time), .ro (.int .u32 x1.1.ssrc), .ro (.list 1 (List.map (ei .u32) x1.1.csrc))]))]⟩) (fun (a : List Int × Packet × Packet) => packet_read_j1 z x1 a.1 a.2.1 a.2.2) ?_ (fun J1 => ?_)
      · rintro ⟨v3, v4, v5⟩ h
        replace h : packet_read_j1 z x1 v3 v4 v5 = _ := h
        unfold packet_read_j1 at h
        refine .sq ?_
        refine .sq ?_
        refine .rg (u (fa ff26_0 (.t rfl)) <| u (ld tf4 (.t rfl) rfl rfl) <| .nil _) rfl ?_
        refine .jq (t := some r) (fun (a : Packet × Packet) => ⟨[(2, .ptr 2 0), (5, .ptr 5 0), (9, .ro (.list 1 (List.map e8 v3)))], [(2, some (.box [.ro (.bool a.1.head.hasPad), .ro (.bool a.1.head.hasExt), .ro (.bool a.1.head.marker), .ro (.int .i64 a.1.head.type), .ro (.int .u16 a.1.head.seq), .ro (.int .u32 a.1.head.time), .ro (.int .u32 a.1.head.ssrc), .ro (.list 1 (List.map (ei .u32) a.1.head.csrc)), .ro (.int .u16 a.1.profile), .ro (.list 1 (List.map e8 a.1.ext)), .ro (.list 1 (List.map e8 a.1.payload)), .ro (.int .i64 a.1.pad)])), (5, some (.box [.ro (.bool a.2.head.hasPad), .ro (.bool a.2.head.hasExt), .ro (.bool a.2.head.marker), .ro (.int .i64 a.2.head.type), .ro (.int .u16 a.2.head.seq), .ro (.int .u32 a.2.head.time), .ro (.int .u32 a.2.head.ssrc), .ro (.list 1 (List.map (ei .u32) a.2.head.csrc)), .ro (.int .u16 a.2.profile), .ro (.list 1 (List.map e8 a.2.ext)), .ro (.list 1 (List.map e8 a.2.payload)), .ro (.int .i64 a.2.pad)]))]⟩) (fun (a : Packet × Packet) => packet_read_j2 z v3 a.1 a.2) ?_ (fun J2 => ?_)
        · rintro ⟨v6, v7⟩ h
          replace h : packet_read_j2 z v3 v6 v7 = _ := h
          unfold packet_read_j2 at h
          refine .sq ?_
          refine be h fun x8 hx8 h => ?_
          refine be h fun x9 hx9 h => ?_
          refine .rg (u (mv (.t rfl)) <| u (mv (.t rfl)) <| u (lnm sf27 (.t rfl)) <| u (fa ff29_4 (.t rfl)) <| u (ld tf3 (.t rfl) rfl rfl) <| u (bi (.t rfl) (.t rfl) rfl) <| u (sl sf27 (.t rfl) .n (.s (.t rfl)) hx8) <| apn 63 pf27 (.t rfl) hx9 rfl <| u (fa ff29_3 (.t rfl)) <| st tf27 (.t rfl) rfl (.t rfl) rfl rfl rfl <| .nil _) rfl ?_
          refine .sq ?_
          refine .rg (u (ld tf29 (.t rfl) rfl rfl) <| u (mv (.t rfl)) <| st tf29 (.t rfl) rfl (.t rfl) rfl rfl rfl <| u (asg (.t rfl)) <| u (asg (.i rfl)) <| .nil _) rfl ?_
          refine .fz 63 rfl ?_
          obtain rfl := Option.some.inj h
          exact .rt Try.func28 (.c tf29 rfl rfl rfl <| .t rfl <| .t rfl <| .n) .n rfl rfl
        refine .bq h (.t rfl) (fun h => ?_) (fun h => ?_)
        · refine .sq ?_
          refine be h fun x10 hx10 h => ?_
          refine .rg (u (mv (.t rfl)) <| cl [] cf47 (pad_Trail_c hx10) (.c (.t rfl) <| .n) (.inl rfl) <| u (mv (.t rfl)) <| u (ex (.t rfl) rfl rfl) <| u (ex (.t rfl) rfl rfl) <| u (fa ff29_4 (.t rfl)) <| st tf3 (.t rfl) rfl (.t rfl) rfl rfl rfl <| u (asg (.t rfl)) <| .nil _) rfl ?_
          refine .sq ?_
          refine .rg (u (mv (.t rfl)) <| u (bc (.t rfl) (.i rfl) rfl rfl) <| .nil _) rfl ?_
          refine .bq h (.t rfl) (fun h => ?_) (fun h => ?_)
          · refine .sq ?_
            refine .rg (u (ld tf29 (.t rfl) rfl rfl) <| u (mv (.t rfl)) <| st tf29 (.t rfl) rfl (.t rfl) rfl rfl rfl <| u (asg (.n (sz := 1) (F := e8))) <| u (asg (.t rfl)) <| .nil _) rfl ?_
            obtain rfl := Option.some.inj h
            exact .rt Try.func28 (.c tf29 rfl rfl rfl <| .t rfl <| .t rfl <| .n) .n rfl rfl
          · refine .skp ?_
            exact .kq (J2 (v4, { v5 with pad := x10.1 }) h) (.c rfl (.c rfl (.c rfl .n))) (.c rfl (.c rfl .n))
        · refine .skp ?_
          exact .kq (J2 (v4, v5) h) (.c rfl (.c rfl (.c rfl .n))) (.c rfl (.c rfl .n))
      refine .bq h (.t rfl) (fun h => ?_) (fun h => ?_)
      · refine .sq ?_
        refine be h fun x11 hx11 h => ?_
        refine .rg (u (mv (.t rfl)) <| cl [] cf46 (packet_extension_c hx11) (.c (.t rfl) <| .n) (.inl rfl) <| u (mv (.t rfl)) <| u (ex (.t rfl) rfl rfl) <| u (ex (.t rfl) rfl rfl) <| u (ex (.t rfl) rfl rfl) <| u (ex (.t rfl) rfl rfl) <| u (fa ff29_1 (.t rfl)) <| st tf22 (.t rfl) rfl (.t rfl) rfl rfl rfl <| u (fa ff29_2 (.t rfl)) <| st tf27 (.t rfl) rfl (.t rfl) rfl rfl rfl <| u (asg (.t rfl)) <| u (asg (.t rfl)) <| .nil _) rfl ?_
        refine .sq ?_
        refine .rg (u (mv (.t rfl)) <| u (bc (.t rfl) (.i rfl) rfl rfl) <| .nil _) rfl ?_
        refine .bq h (.t rfl) (fun h => ?_) (fun h => ?_)
        · refine .sq ?_
          refine .rg (u (ld tf29 (.t rfl) rfl rfl) <| u (mv (.t rfl)) <| st tf29 (.t rfl) rfl (.t rfl) rfl rfl rfl <| u (asg (.n (sz := 1) (F := e8))) <| u (asg (.t rfl)) <| .nil _) rfl ?_
          obtain rfl := Option.some.inj h
          exact .rt Try.func28 (.c tf29 rfl rfl rfl <| .t rfl <| .t rfl <| .n) .n rfl rfl
        · refine .skp ?_
          exact .kq (J1 (x11.2.2.1, (Packet.mk (Head.mk false false false 0 0 0 0 []) 0 [] [] 0), (Packet.mk x1.1 x11.1 x11.2.1 [] 0)) h) (.c rfl (.c rfl (.c rfl (.c rfl .n)))) (.c rfl (.c rfl (.c rfl .n)))
      · refine .skp ?_
        exact .kq (J1 (x2, (Packet.mk (Head.mk false false false 0 0 0 0 []) 0 [] [] 0), (Packet.mk x1.1 0 [] [] 0)) h) (.c rfl (.c rfl (.c rfl (.c rfl .n)))) (.c rfl (.c rfl (.c rfl .n)))

theorem packet_Read_c {z : Option Nat} {b : List Int} {r : Packet × Int} (h : packet_Read z b = some r) :
    AC Try.prog 13 [.ro (.list 1 (List.map e8 b))] (.ro (.tup [enc_Packet r.1, .int .i64 r.2])) [] := by
  refine AC.of Try.func13 rfl rfl fun w M0 hM => ?_
  unfold packet_Read at h
  refine .sq ?_
  refine .rg (al 2 zf29 rfl <| u (asg (.i rfl)) <| .nil _) rfl ?_
  refine .sq ?_
  refine be h fun x1 hx1 h => ?_
  refine .rg (u (mv (.t rfl)) <| cl [] cf28 (packet_read_c hx1) (.c (.t rfl) <| .n) (.inl rfl) <| u (mv (.t rfl)) <| u (ex (.t rfl) rfl rfl) <| u (ex (.t rfl) rfl rfl) <| u (ex (.t rfl) rfl rfl) <| al 4 zf29 rfl <| st tf29 (.t rfl) rfl (.t rfl) rfl rfl rfl <| u (asg (.t rfl)) <| u (asg (.t rfl)) <| .nil _) rfl ?_
  refine .sq ?_
  refine .sq ?_
  refine .rg (u (mv (.t rfl)) <| u (bc (.t rfl) (.i rfl) rfl rfl) <| .nil _) rfl ?_
  refine .bq h (.t rfl) (fun h => ?_) (fun h => ?_)
  · refine .sq ?_
    refine .rg (u (bd bf29 zf29 (.n) rfl) <| u (mv (.t rfl)) <| st tf29 (.t rfl) rfl (.t rfl) rfl rfl rfl <| u (asg (.t rfl)) <| .nil _) rfl ?_
    obtain rfl := Option.some.inj h
    exact .rt Try.func13 (.c tf29 rfl rfl rfl <| .t rfl <| .n) .n rfl rfl
  · refine .skp ?_
    refine .sq ?_
    refine .rg (u (ld tf29 (.t rfl) rfl rfl) <| st tf29 (.t rfl) rfl (.t rfl) rfl rfl rfl <| u (asg (.i rfl)) <| .nil _) rfl ?_
    obtain rfl := Option.some.inj h
    exact .rt Try.func13 (.c tf29 rfl rfl rfl <| .t rfl <| .n) .n rfl rfl

theorem packet_Size_c (p : Packet) :
    AC Try.prog 10 [.ro (enc_Packet p)] (.ro (.int .i64 (packet_Size p))) [] := by
  obtain ⟨r, h⟩ : ∃ r, packet_Size p = r := ⟨_, rfl⟩
  rw [h]
  refine AC.of Try.func10 rfl rfl fun w M0 hM => ?_
  unfold packet_Size at h
  refine .sq ?_
  refine .rg (bx 1 (.t rfl) rfl rfl <| u (asg (.i rfl)) <| .nil _) rfl ?_
  refine .sq ?_
  refine .sq ?_
  refine .rg (u (ld tf29 (.t rfl) rfl rfl) <| cl [] cf15 (packet_Right_c p) (.c (.t rfl) <| .n) (.inl rfl) <| u (no (.t rfl)) <| .nil _) rfl ?_
  refine .bq h (.t rfl) (fun h => ?_) (fun h => ?_)
  · refine .sq ?_
    refine .rg (u (asg (.i rfl)) <| .nil _) rfl ?_
    subst h
    exact .rt Try.func10 (.t rfl <| .n) .n rfl rfl
  · refine .skp ?_
    refine .sq ?_
    refine .rg (u (ld tf29 (.t rfl) rfl rfl) <| cl [] cf20 (packet_total_c p) (.c (.t rfl) <| .n) (.inl rfl) <| u (asg (.t rfl)) <| .nil _) rfl ?_
    subst h
    exact .rt Try.func10 (.t rfl <| .n) .n rfl rfl

theorem ref05_Numbers_c {z : Option Nat} {p_a : List Int} {b : List Int} {r : Bool} (h : ref05_Numbers z p_a b = some r) :
    AC Try.prog 49 [.ro (.list 1 (List.map (ei .u32) p_a)), .ro (.list 1 (List.map (ei .u32) b))] (.ro (.bool r)) [] := by
  refine AC.of Try.func49 rfl rfl fun w M0 hM => ?_
  unfold ref05_Numbers at h
  refine .sq ?_
  refine .rg (u (asg .b) <| .nil _) rfl ?_
  refine .sq ?_
  refine .sq ?_
  refine .rg (u (mv (.t rfl)) <| u (lnm sf24 (.t rfl)) <| u (mv (.t rfl)) <| u (lnm sf24 (.t rfl)) <| u (bc (.t rfl) (.t rfl) rfl rfl) <| .nil _) rfl ?_
  refine .bq h (.t rfl) (fun h => ?_) (fun h => ?_)
  · refine .sq ?_
    refine .rg (u (asg .b) <| .nil _) rfl ?_
    obtain rfl := Option.some.inj h
    exact .rt Try.func49 (.t rfl <| .n) .n rfl rfl
  · refine .skp ?_
    refine .sq ?_
    refine .sq ?_
    refine .rg (u (asg (.i rfl)) <| .nil _) rfl ?_
    refine .bl ?_
    unfold ref05_Numbers_l1 at h
    refine .kq (.lo (fun (s : Int) => ⟨[(0, .ro (.list 1 (List.map (ei .u32) p_a))), (1, .ro (.list 1 (List.map (ei .u32) b))), (5, .ro (.int .i64 s))], []⟩) h ?_) (.c rfl (.c rfl (.c rfl .n))) .n
    intro v1 u1 h ih1 hx1
    replace h : ref05_Numbers_s1 z p_a b v1 = _ := h
    unfold ref05_Numbers_s1 at h
    refine .sq ?_
    refine .sq ?_
    refine .rg (u (mv (.t rfl)) <| u (mv (.t rfl)) <| u (lnm sf24 (.t rfl)) <| u (bc (.t rfl) (.t rfl) rfl rfl) <| .nil _) rfl ?_
    refine .bq h (.t rfl) (fun h => ?_) (fun h => ?_)
    · refine .skp ?_
      refine .sq ?_
      refine .bl ?_
      refine .sq ?_
      refine be h fun x2 hx2 h => ?_
      refine be h fun x3 hx3 h => ?_
      refine .rd mixed (u (mv (.t rfl)) <| u (mv (.t rfl)) <| u (ia sf24 (.t rfl) (.t rfl) (ix_map (ei .u32) hx2)) <| u (lr tf23 (.t rfl) rfl) <| u (mv (.t rfl)) <| u (mv (.t rfl)) <| u (ia sf24 (.t rfl) (.t rfl) (ix_map (ei .u32) hx3)) <| u (lr tf23 (.t rfl) rfl) <| u (bc (.t rfl) (.t rfl) rfl rfl) <| .nil _) (by kernel_rfl) rfl ?_
      refine .bq h (.t rfl) (fun h => ?_) (fun h => ?_)
      · refine .sq ?_
        refine .rg (u (asg .b) <| .nil _) rfl ?_
        replace h := mpR h hx1
        obtain rfl := Option.some.inj h
        exact .rt Try.func49 (.t rfl <| .n) .n rfl rfl
      · refine .skp ?_
        refine .ib ?_
        refine .rg (u (mv (.t rfl)) <| u (bi (.t rfl) (.i rfl) rfl) <| u (asg (.t rfl)) <| .nil _) rfl ?_
        exact .kq (.il (ih1 (ar .add .i64 v1 1) (nxi h))) (.c rfl (.c rfl (.c rfl .n))) .n
    · refine .xt rfl ?_
      replace h := mpR h hx1
      refine .sq ?_
      refine .rg (u (asg .b) <| .nil _) rfl ?_
      obtain rfl := Option.some.inj h
      exact .rt Try.func49 (.t rfl <| .n) .n rfl rfl

theorem ref05_Same_c {z : Option Nat} {p_a : Head} {b : Head} {r : Bool} (h : ref05_Same z p_a b = some r) :
    AC Try.prog 35 [.ro (enc_Head p_a), .ro (enc_Head b)] (.ro (.bool r)) [] := by
  refine AC.of Try.func35 rfl rfl fun w M0 hM => ?_
  unfold ref05_Same at h
  refine .sq ?_
  refine .rg (bx 2 (.t rfl) rfl rfl <| bx 3 (.t rfl) rfl rfl <| u (asg .b) <| .nil _) rfl ?_
  refine .sq ?_
  refine be h fun x1 hx1 h => ?_
  refine .rg (u (fa ff26_0 (.t rfl)) <| u (ld tf4 (.t rfl) rfl rfl) <| u (fa ff26_0 (.t rfl)) <| u (ld tf4 (.t rfl) rfl rfl) <| u (be2 ub4 (.t rfl) (.t rfl) rfl) <| u (mv (.t rfl)) <| gd rfl rfl (fun hB => fa ff26_1 (.t rfl)) <| gd rfl rfl (fun hB => ld tf4 (.m rfl hB) rfl rfl) <| gd rfl rfl (fun hB => fa ff26_1 (.t rfl)) <| gd rfl rfl (fun hB => ld tf4 (.m rfl hB) rfl rfl) <| gd rfl rfl (fun hB => be2 ub4 (.m rfl hB) (.m rfl hB) rfl) <| u (pka (.t rfl) (.t rfl)) <| u (mv (.t rfl)) <| gd rfl rfl (fun hB => fa ff26_2 (.t rfl)) <| gd rfl rfl (fun hB => ld tf4 (.m rfl hB) rfl rfl) <| gd rfl rfl (fun hB => fa ff26_2 (.t rfl)) <| gd rfl rfl (fun hB => ld tf4 (.m rfl hB) rfl rfl) <| gd rfl rfl (fun hB => be2 ub4 (.m rfl hB) (.m rfl hB) rfl) <| u (pka (.t rfl) (.t rfl)) <| u (mv (.t rfl)) <| gd rfl rfl (fun hB => fa ff26_3 (.t rfl)) <| gd rfl rfl (fun hB => ld tf3 (.m rfl hB) rfl rfl) <| gd rfl rfl (fun hB => fa ff26_3 (.t rfl)) <| gd rfl rfl (fun hB => ld tf3 (.m rfl hB) rfl rfl) <| gd rfl rfl (fun hB => bc (.m rfl hB) (.m rfl hB) rfl rfl) <| u (pka (.t rfl) (.t rfl)) <| u (mv (.t rfl)) <| gd rfl rfl (fun hB => fa ff26_4 (.t rfl)) <| gd rfl rfl (fun hB => ld tf22 (.m rfl hB) rfl rfl) <| gd rfl rfl (fun hB => fa ff26_4 (.t rfl)) <| gd rfl rfl (fun hB => ld tf22 (.m rfl hB) rfl rfl) <| gd rfl rfl (fun hB => bc (.m rfl hB) (.m rfl hB) rfl rfl) <| u (pka (.t rfl) (.t rfl)) <| u (mv (.t rfl)) <| gd rfl rfl (fun hB => fa ff26_5 (.t rfl)) <| gd rfl rfl (fun hB => ld tf23 (.m rfl hB) rfl rfl) <| gd rfl rfl (fun hB => fa ff26_5 (.t rfl)) <| gd rfl rfl (fun hB => ld tf23 (.m rfl hB) rfl rfl) <| gd rfl rfl (fun hB => bc (.m rfl hB) (.m rfl hB) rfl rfl) <| u (pka (.t rfl) (.t rfl)) <| u (mv (.t rfl)) <| gd rfl rfl (fun hB => fa ff26_6 (.t rfl)) <| gd rfl rfl (fun hB => ld tf23 (.m rfl hB) rfl rfl) <| gd rfl rfl (fun hB => fa ff26_6 (.t rfl)) <| gd rfl rfl (fun hB => ld tf23 (.m rfl hB) rfl rfl) <| gd rfl rfl (fun hB => bc (.m rfl hB) (.m rfl hB) rfl rfl) <| u (pka (.t rfl) (.t rfl)) <| u (mv (.t rfl)) <| gd rfl rfl (fun hB => fa ff26_7 (.t rfl)) <| gd rfl rfl (fun hB => ld tf24 (.m rfl hB) rfl rfl) <| gd rfl rfl (fun hB => fa ff26_7 (.t rfl)) <| gd rfl rfl (fun hB => ld tf24 (.m rfl hB) rfl rfl) <| cg rfl rfl cf49 (fun hB => (ref05_Numbers_c (gTt hx1 hB))) (fun hB => .c (.m rfl hB) <| .c (.m rfl hB) <| .n) (.inl rfl) <| u (pka (.t rfl) (.t rfl)) <| u (asg (.t rfl)) <| .nil _) rfl ?_
  obtain rfl := Option.some.inj h
  exact .rt Try.func35 (.t rfl <| .n) .n rfl rfl

theorem ref06_Same_c {z : Option Nat} {p_a : Packet} {b : Packet} {r : Bool} (h : ref06_Same z p_a b = some r) :
    AC Try.prog 16 [.ro (enc_Packet p_a), .ro (enc_Packet b)] (.ro (.bool r)) [] := by
  refine AC.of Try.func16 rfl rfl fun w M0 hM => ?_
  unfold ref06_Same at h
  refine .sq ?_
  refine .rg (bx 2 (.t rfl) rfl rfl <| bx 3 (.t rfl) rfl rfl <| u (asg .b) <| .nil _) rfl ?_
  refine .sq ?_
  refine be h fun x1 hx1 h => ?_
  refine .rg (u (fa ff29_0 (.t rfl)) <| u (ld tf26 (.t rfl) rfl rfl) <| u (fa ff29_0 (.t rfl)) <| u (ld tf26 (.t rfl) rfl rfl) <| cl [] cf35 (ref05_Same_c hx1) (.c (.t rfl) <| .c (.t rfl) <| .n) (.inl rfl) <| u (mv (.t rfl)) <| gd rfl rfl (fun hB => fa ff29_1 (.t rfl)) <| gd rfl rfl (fun hB => ld tf22 (.m rfl hB) rfl rfl) <| gd rfl rfl (fun hB => fa ff29_1 (.t rfl)) <| gd rfl rfl (fun hB => ld tf22 (.m rfl hB) rfl rfl) <| gd rfl rfl (fun hB => bc (.m rfl hB) (.m rfl hB) rfl rfl) <| u (pka (.t rfl) (.t rfl)) <| u (mv (.t rfl)) <| gd rfl rfl (fun hB => fa ff29_2 (.t rfl)) <| gd rfl rfl (fun hB => ld tf27 (.m rfl hB) rfl rfl) <| gd rfl rfl (fun hB => bt bt27_9 (.m rfl hB)) <| gd rfl rfl (fun hB => fa ff29_2 (.t rfl)) <| gd rfl rfl (fun hB => ld tf27 (.m rfl hB) rfl rfl) <| gd rfl rfl (fun hB => bt bt27_9 (.m rfl hB)) <| gd rfl rfl (fun hB => sq (.m rfl hB) (.m rfl hB) rfl rfl) <| u (pka (.t rfl) (.t rfl)) <| u (mv (.t rfl)) <| gd rfl rfl (fun hB => fa ff29_3 (.t rfl)) <| gd rfl rfl (fun hB => ld tf27 (.m rfl hB) rfl rfl) <| gd rfl rfl (fun hB => bt bt27_9 (.m rfl hB)) <| gd rfl rfl (fun hB => fa ff29_3 (.t rfl)) <| gd rfl rfl (fun hB => ld tf27 (.m rfl hB) rfl rfl) <| gd rfl rfl (fun hB => bt bt27_9 (.m rfl hB)) <| gd rfl rfl (fun hB => sq (.m rfl hB) (.m rfl hB) rfl rfl) <| u (pka (.t rfl) (.t rfl)) <| u (mv (.t rfl)) <| gd rfl rfl (fun hB => fa ff29_4 (.t rfl)) <| gd rfl rfl (fun hB => ld tf3 (.m rfl hB) rfl rfl) <| gd rfl rfl (fun hB => fa ff29_4 (.t rfl)) <| gd rfl rfl (fun hB => ld tf3 (.m rfl hB) rfl rfl) <| gd rfl rfl (fun hB => bc (.m rfl hB) (.m rfl hB) rfl rfl) <| u (pka (.t rfl) (.t rfl)) <| u (asg (.t rfl)) <| .nil _) rfl ?_
  obtain rfl := Option.some.inj h
  exact .rt Try.func16 (.t rfl <| .n) .n rfl rfl

theorem bytes_Equal_c (p_a : List Int) (b : List Int) :
    AC Try.prog 66 [.ro (.list 1 (List.map e8 p_a)), .ro (.list 1 (List.map e8 b))] (.ro (.bool (bytes_Equal p_a b))) [] := by
  obtain ⟨r, h⟩ : ∃ r, bytes_Equal p_a b = r := ⟨_, rfl⟩
  rw [h]
  refine AC.of Try.func66 rfl rfl fun w M0 hM => ?_
  unfold bytes_Equal at h
  refine .sq ?_
  refine .rg (u (asg .b) <| .nil _) rfl ?_
  refine .sq ?_
  refine .rg (u (mv (.t rfl)) <| u (bt bt27_9 (.t rfl)) <| u (mv (.t rfl)) <| u (bt bt27_9 (.t rfl)) <| u (sq (.t rfl) (.t rfl) rfl rfl) <| u (asg (.t rfl)) <| .nil _) rfl ?_
  subst h
  exact .rt Try.func66 (.t rfl <| .n) .n rfl rfl

theorem internal_bytealg_Cutover_c (n : Int) :
    AC Try.prog 68 [.ro (.int .i64 n)] (.ro (.int .i64 (internal_bytealg_Cutover n))) [] := by
  obtain ⟨r, h⟩ : ∃ r, internal_bytealg_Cutover n = r := ⟨_, rfl⟩
  rw [h]
  refine AC.of Try.func68 rfl rfl fun w M0 hM => ?_
  unfold internal_bytealg_Cutover at h
  refine .sq ?_
  refine .rg (u (asg (.i rfl)) <| .nil _) rfl ?_
  refine .sq ?_
  refine .rg (u (mv (.t rfl)) <| u (bi (.t rfl) (.i rfl) rfl) <| u (di (.t rfl) (.i rfl) rfl (by decide)) <| u (asg (.t rfl)) <| .nil _) rfl ?_
  subst h
  exact .rt Try.func68 (.t rfl <| .n) .n rfl rfl

theorem internal_bytealg_hashStr_c {z : Option Nat} {sep : List Int} {r : Int × Int} (h : internal_bytealg_hashStr z sep = some r) :
    AC Try.prog 71 [.ro (.list 1 (List.map e8 sep))] (.ro (.tup [.int .u32 r.1, .int .u32 r.2])) [] := by
  refine AC.of Try.func71 rfl rfl fun w M0 hM => ?_
  unfold internal_bytealg_hashStr at h
  refine .sq ?_
  refine .rg (u (asg (.i rfl)) <| u (asg (.i rfl)) <| .nil _) rfl ?_
  refine .sq ?_
  refine .rg (u (asg (.i rfl)) <| .nil _) rfl ?_
  refine .sq ?_
  refine .sq ?_
  refine .rg (u (asg (.i rfl)) <| .nil _) rfl ?_
  refine .bl ?_
  unfold internal_bytealg_hashStr_l1 at h
  refine .kq (.lo (fun (s : Int × Int) => ⟨[(0, .ro (.list 1 (List.map e8 sep))), (4, .ro (.int .u32 s.1)), (5, .ro (.int .i64 s.2))], []⟩) h ?_) (.c rfl (.c rfl (.c rfl .n))) .n
  rintro ⟨v1, v2⟩ u1 h ih1 hx1
  replace h : internal_bytealg_hashStr_s1 z sep v1 v2 = _ := h
  unfold internal_bytealg_hashStr_s1 at h
  refine .sq ?_
  refine .sq ?_
  refine .rg (u (mv (.t rfl)) <| u (mv (.t rfl)) <| u (lnm sf27 (.t rfl)) <| u (bc (.t rfl) (.t rfl) rfl rfl) <| .nil _) rfl ?_
  refine .bq h (.t rfl) (fun h => ?_) (fun h => ?_)
  · refine .skp ?_
    refine .sq ?_
    refine .bl ?_
    refine be h fun x3 hx3 h => ?_
    refine .rg (u (mv (.t rfl)) <| u (bi (.t rfl) (.i rfl) rfl) <| u (mv (.t rfl)) <| u (mv (.t rfl)) <| u (ia sf27 (.t rfl) (.t rfl) (ix_map e8 hx3)) <| u (lr tf5 (.t rfl) rfl) <| u (cv cv5_23 (.t rfl)) <| u (bi (.t rfl) (.t rfl) rfl) <| u (asg (.t rfl)) <| .nil _) rfl ?_
    refine .ib ?_
    refine .rg (u (mv (.t rfl)) <| u (bi (.t rfl) (.i rfl) rfl) <| u (asg (.t rfl)) <| .nil _) rfl ?_
    exact .kq (.il (ih1 ((ar .add .u32 (ar .mul .u32 v1 16777619) (IntKind.u32.wrap x3)), (ar .add .i64 v2 1)) (nxi h))) (.c rfl (.c rfl (.c rfl .n))) .n
  · refine .xt rfl ?_
    replace h := mpR h hx1
    refine .sq ?_
    refine .rg (u (asg (.i rfl)) <| u (asg (.i rfl)) <| .nil _) rfl ?_
    refine .sq ?_
    refine .sq ?_
    refine .rg (u (mv (.t rfl)) <| u (lnm sf27 (.t rfl)) <| u (asg (.t rfl)) <| .nil _) rfl ?_
    refine .bl ?_
    unfold internal_bytealg_hashStr_l2 at h
    refine .kq (.lo (fun (s : Int × Int × Int) => ⟨[(4, .ro (.int .u32 v1)), (6, .ro (.int .u32 s.1)), (7, .ro (.int .u32 s.2.1)), (8, .ro (.int .i64 s.2.2))], []⟩) h ?_) (.c rfl (.c rfl (.c rfl (.c rfl .n)))) .n
    rintro ⟨v4, v5, v6⟩ u2 h ih2 hx2
    replace h : internal_bytealg_hashStr_s2 z v1 v4 v5 v6 = _ := h
    unfold internal_bytealg_hashStr_s2 at h
    refine .sq ?_
    refine .sq ?_
    refine .rg (u (mv (.t rfl)) <| u (bc (.t rfl) (.i rfl) rfl rfl) <| .nil _) rfl ?_
    refine .bq h (.t rfl) (fun h => ?_) (fun h => ?_)
    · refine .skp ?_
      refine .sq ?_
      refine .bl ?_
      refine .sq ?_
      refine .sq ?_
      refine .rg (u (mv (.t rfl)) <| u (bi (.t rfl) (.i rfl) rfl) <| u (bc (.t rfl) (.i rfl) rfl rfl) <| .nil _) rfl ?_
      refine .jq (t := some u2) (fun (a : Int) => ⟨[(4, .ro (.int .u32 v1)), (6, .ro (.int .u32 a)), (7, .ro (.int .u32 v5)), (8, .ro (.int .i64 v6))], []⟩) (fun (a : Int) => internal_bytealg_hashStr_j3 z v5 v6 a) ?_ (fun J3 => ?_)
      · intro v7 h
        replace h : internal_bytealg_hashStr_j3 z v5 v6 v7 = _ := h
        unfold internal_bytealg_hashStr_j3 at h
        refine .rg (u (mv (.t rfl)) <| u (mv (.t rfl)) <| u (bi (.t rfl) (.t rfl) rfl) <| u (asg (.t rfl)) <| .nil _) rfl ?_
        refine .ib ?_
        refine .rg (u (mv (.t rfl)) <| u (sh (.t rfl) (.i rfl) rfl (by decide)) <| u (asg (.t rfl)) <| .nil _) rfl ?_
        exact .kq (.il (ih2 (v7, (ar .mul .u32 v5 v5), (sf .shr .i64 v6 1)) (nxi h))) (.c rfl (.c rfl (.c rfl (.c rfl .n)))) .n
      refine .bq h (.t rfl) (fun h => ?_) (fun h => ?_)
      · refine .rg (u (mv (.t rfl)) <| u (mv (.t rfl)) <| u (bi (.t rfl) (.t rfl) rfl) <| u (asg (.t rfl)) <| .nil _) rfl ?_
        exact .kq (J3 (ar .mul .u32 v4 v5) h) (.c rfl (.c rfl (.c rfl (.c rfl .n)))) .n
      · refine .skp ?_
        exact .kq (J3 v4 h) (.c rfl (.c rfl (.c rfl (.c rfl .n)))) .n
    · refine .xt rfl ?_
      replace h := mpR h hx2
      refine .sq ?_
      refine .rg (u (mv (.t rfl)) <| u (mv (.t rfl)) <| u (asg (.t rfl)) <| u (asg (.t rfl)) <| .nil _) rfl ?_
      obtain rfl := Option.some.inj h
      exact .rt Try.func71 (.t rfl <| .t rfl <| .n) .n rfl rfl

theorem internal_bytealg_IndexRabinKarp_c {z : Option Nat} {p_s : List Int} {sep : List Int} {r : Int} (h : internal_bytealg_IndexRabinKarp z p_s sep = some r) :
    AC Try.prog 69 [.ro (.list 1 (List.map e8 p_s)), .ro (.list 1 (List.map e8 sep))] (.ro (.int .i64 r)) [] := by
  refine AC.of Try.func69 rfl rfl fun w M0 hM => ?_
  unfold internal_bytealg_IndexRabinKarp at h
  refine .sq ?_
  refine .rg (u (asg (.i rfl)) <| .nil _) rfl ?_
  refine .sq ?_
  refine be h fun x1 hx1 h => ?_
  refine .rg (u (mv (.t rfl)) <| cl [] cf71 (internal_bytealg_hashStr_c hx1) (.c (.t rfl) <| .n) (.inl rfl) <| u (mv (.t rfl)) <| u (ex (.t rfl) rfl rfl) <| u (ex (.t rfl) rfl rfl) <| u (asg (.t rfl)) <| u (asg (.t rfl)) <| .nil _) rfl ?_
  refine .sq ?_
  refine .rg (u (mv (.t rfl)) <| u (lnm sf27 (.t rfl)) <| u (asg (.t rfl)) <| .nil _) rfl ?_
  refine .sq ?_
  refine .rg (u (asg (.i rfl)) <| .nil _) rfl ?_
  refine .sq ?_
  refine .sq ?_
  refine .rg (u (asg (.i rfl)) <| .nil _) rfl ?_
  refine .bl ?_
  unfold internal_bytealg_IndexRabinKarp_l1 at h
  refine .kq (.lo (fun (s : Int × Int) => ⟨[(0, .ro (.list 1 (List.map e8 p_s))), (1, .ro (.list 1 (List.map e8 sep))), (5, .ro (.int .u32 x1.1)), (6, .ro (.int .u32 x1.2)), (7, .ro (.int .i64 (sep.length : Int))), (8, .ro (.int .u32 s.1)), (9, .ro (.int .i64 s.2))], []⟩) h ?_) (.c rfl (.c rfl (.c rfl (.c rfl (.c rfl (.c rfl (.c rfl .n))))))) .n
  rintro ⟨v2, v3⟩ u1 h ih1 hx1
  replace h : internal_bytealg_IndexRabinKarp_s1 z p_s sep x1 v2 v3 = _ := h
  unfold internal_bytealg_IndexRabinKarp_s1 at h
  refine .sq ?_
  refine .sq ?_
  refine .rg (u (mv (.t rfl)) <| u (mv (.t rfl)) <| u (bc (.t rfl) (.t rfl) rfl rfl) <| .nil _) rfl ?_
  refine .bq h (.t rfl) (fun h => ?_) (fun h => ?_)
  · refine .skp ?_
    refine .sq ?_
    refine .bl ?_
    refine be h fun x4 hx4 h => ?_
    refine .rg (u (mv (.t rfl)) <| u (bi (.t rfl) (.i rfl) rfl) <| u (mv (.t rfl)) <| u (mv (.t rfl)) <| u (ia sf27 (.t rfl) (.t rfl) (ix_map e8 hx4)) <| u (lr tf5 (.t rfl) rfl) <| u (cv cv5_23 (.t rfl)) <| u (bi (.t rfl) (.t rfl) rfl) <| u (asg (.t rfl)) <| .nil _) rfl ?_
    refine .ib ?_
    refine .rg (u (mv (.t rfl)) <| u (bi (.t rfl) (.i rfl) rfl) <| u (asg (.t rfl)) <| .nil _) rfl ?_
    exact .kq (.il (ih1 ((ar .add .u32 (ar .mul .u32 v2 16777619) (IntKind.u32.wrap x4)), (ar .add .i64 v3 1)) (nxi h))) (.c rfl (.c rfl (.c rfl (.c rfl (.c rfl (.c rfl (.c rfl .n))))))) .n
  · refine .xt rfl ?_
    replace h := mpR h hx1
    refine .sq ?_
    refine .sq ?_
    refine be h fun x5 hx5 h => ?_
    refine .rd mixed (u (mv (.t rfl)) <| u (mv (.t rfl)) <| u (bc (.t rfl) (.t rfl) rfl rfl) <| u (mv (.t rfl)) <| gd rfl rfl (fun hB => mv (.t rfl)) <| gd rfl rfl (fun hB => mv (.t rfl)) <| gd rfl rfl (fun hB => sl sf27 (.m rfl hB) .n (.s (.m rfl hB)) (gTt hx5 hB)) <| gd rfl rfl (fun hB => bt bt27_9 (.m rfl hB)) <| gd rfl rfl (fun hB => mv (.t rfl)) <| gd rfl rfl (fun hB => bt bt27_9 (.m rfl hB)) <| gd rfl rfl (fun hB => sq (.m rfl hB) (.m rfl hB) rfl rfl) <| u (pka (.t rfl) (.t rfl)) <| .nil _) (by kernel_rfl) rfl ?_
    refine .bq h (.t rfl) (fun h => ?_) (fun h => ?_)
    · refine .sq ?_
      refine .rg (u (asg (.i rfl)) <| .nil _) rfl ?_
      obtain rfl := Option.some.inj h
      exact .rt Try.func69 (.t rfl <| .n) .n rfl rfl
    · refine .skp ?_
      refine .sq ?_
      refine .sq ?_
      refine .rg (u (mv (.t rfl)) <| u (asg (.t rfl)) <| .nil _) rfl ?_
      refine .bl ?_
      unfold internal_bytealg_IndexRabinKarp_l2 at h
      refine .kq (.lo (fun (s : Int × Int) => ⟨[(0, .ro (.list 1 (List.map e8 p_s))), (1, .ro (.list 1 (List.map e8 sep))), (5, .ro (.int .u32 x1.1)), (6, .ro (.int .u32 x1.2)), (7, .ro (.int .i64 (sep.length : Int))), (8, .ro (.int .u32 s.1)), (10, .ro (.int .i64 s.2))], []⟩) h ?_) (.c rfl (.c rfl (.c rfl (.c rfl (.c rfl (.c rfl (.c rfl .n))))))) .n
      rintro ⟨v6, v7⟩ u2 h ih2 hx2
      replace h : internal_bytealg_IndexRabinKarp_s2 z p_s sep x1 v6 v7 = _ := h
      unfold internal_bytealg_IndexRabinKarp_s2 at h
      refine .sq ?_
      refine .sq ?_
      refine .rg (u (mv (.t rfl)) <| u (mv (.t rfl)) <| u (lnm sf27 (.t rfl)) <| u (bc (.t rfl) (.t rfl) rfl rfl) <| .nil _) rfl ?_
      refine .bq h (.t rfl) (fun h => ?_) (fun h => ?_)
      · refine .skp ?_
        refine .bl ?_
        refine .sq ?_
        refine .rg (u (mv (.t rfl)) <| u (bi (.t rfl) (.i rfl) rfl) <| u (asg (.t rfl)) <| .nil _) rfl ?_
        refine .sq ?_
        refine be h fun x8 hx8 h => ?_
        refine .rg (u (mv (.t rfl)) <| u (mv (.t rfl)) <| u (mv (.t rfl)) <| u (ia sf27 (.t rfl) (.t rfl) (ix_map e8 hx8)) <| u (lr tf5 (.t rfl) rfl) <| u (cv cv5_23 (.t rfl)) <| u (bi (.t rfl) (.t rfl) rfl) <| u (asg (.t rfl)) <| .nil _) rfl ?_
        refine .sq ?_
        refine be h fun x9 hx9 h => ?_
        refine .rg (u (mv (.t rfl)) <| u (mv (.t rfl)) <| u (mv (.t rfl)) <| u (mv (.t rfl)) <| u (mv (.t rfl)) <| u (bi (.t rfl) (.t rfl) rfl) <| u (ia sf27 (.t rfl) (.t rfl) (ix_map e8 hx9)) <| u (lr tf5 (.t rfl) rfl) <| u (cv cv5_23 (.t rfl)) <| u (bi (.t rfl) (.t rfl) rfl) <| u (bi (.t rfl) (.t rfl) rfl) <| u (asg (.t rfl)) <| .nil _) rfl ?_
        refine .sq ?_
        refine .rg (u (mv (.t rfl)) <| u (bi (.t rfl) (.i rfl) rfl) <| u (asg (.t rfl)) <| .nil _) rfl ?_
        refine .sq ?_
        refine be h fun x10 hx10 h => ?_
        refine .rd mixed (u (mv (.t rfl)) <| u (mv (.t rfl)) <| u (bc (.t rfl) (.t rfl) rfl rfl) <| u (mv (.t rfl)) <| gd rfl rfl (fun hB => mv (.t rfl)) <| gd rfl rfl (fun hB => mv (.t rfl)) <| gd rfl rfl (fun hB => mv (.t rfl)) <| gd rfl rfl (fun hB => bi (.m rfl hB) (.m rfl hB) rfl) <| gd rfl rfl (fun hB => mv (.t rfl)) <| gd rfl rfl (fun hB => sl sf27 (.m rfl hB) (.s (.m rfl hB)) (.s (.m rfl hB)) (gTt hx10 hB)) <| gd rfl rfl (fun hB => bt bt27_9 (.m rfl hB)) <| gd rfl rfl (fun hB => mv (.t rfl)) <| gd rfl rfl (fun hB => bt bt27_9 (.m rfl hB)) <| gd rfl rfl (fun hB => sq (.m rfl hB) (.m rfl hB) rfl rfl) <| u (pka (.t rfl) (.t rfl)) <| .nil _) (by kernel_rfl) rfl ?_
        refine .bq h (.t rfl) (fun h => ?_) (fun h => ?_)
        · refine .sq ?_
          refine .rg (u (mv (.t rfl)) <| u (mv (.t rfl)) <| u (bi (.t rfl) (.t rfl) rfl) <| u (asg (.t rfl)) <| .nil _) rfl ?_
          replace h := mpR h hx2
          obtain rfl := Option.some.inj h
          exact .rt Try.func69 (.t rfl <| .n) .n rfl rfl
        · refine .skp ?_
          refine .ib ?_
          exact .kq (.il (ih2 ((ar .sub .u32 (ar .add .u32 (ar .mul .u32 v6 16777619) (IntKind.u32.wrap x8)) (ar .mul .u32 x1.2 (IntKind.u32.wrap x9))), (ar .add .i64 v7 1)) (nxi h))) (.c rfl (.c rfl (.c rfl (.c rfl (.c rfl (.c rfl (.c rfl .n))))))) .n
      · refine .xt rfl ?_
        replace h := mpR h hx2
        refine .sq ?_
        refine .rg (u (asg (.i rfl)) <| .nil _) rfl ?_
        obtain rfl := Option.some.inj h
        exact .rt Try.func69 (.t rfl <| .n) .n rfl rfl

theorem bytes_Count_c {z : Option Nat} {p_s : List Int} {sep : List Int} {r : Int} (h : bytes_Count z p_s sep = some r) :
    AC Try.prog 57 [.ro (.list 1 (List.map e8 p_s)), .ro (.list 1 (List.map e8 sep))] (.ro (.int .i64 r)) [] := by
  refine AC.of Try.func57 rfl rfl fun w M0 hM => ?_
  unfold bytes_Count at h
  refine .sq ?_
  refine .rg (u (asg (.i rfl)) <| .nil _) rfl ?_
  refine .sq ?_
  refine .sq ?_
  refine .rg (u (mv (.t rfl)) <| u (lnm sf27 (.t rfl)) <| u (bc (.t rfl) (.i rfl) rfl rfl) <| .nil _) rfl ?_
  refine .bq h (.t rfl) (fun h => ?_) (fun h => ?_)
  · refine .sq ?_
    cases h
  · refine .skp ?_
    refine .sq ?_
    refine .sq ?_
    refine .rg (u (mv (.t rfl)) <| u (lnm sf27 (.t rfl)) <| u (bc (.t rfl) (.i rfl) rfl rfl) <| .nil _) rfl ?_
    refine .bq h (.t rfl) (fun h => ?_) (fun h => ?_)
    · refine .sq ?_
      refine be h fun x1 hx1 h => ?_
      refine .rg (u (mv (.t rfl)) <| u (mv (.t rfl)) <| u (ia sf27 (.t rfl) (.i rfl) (ix_map e8 hx1)) <| u (lr tf5 (.t rfl) rfl) <| u (ctb xf62 (.t rfl) (.t rfl)) <| u (asg (.t rfl)) <| .nil _) rfl ?_
      obtain rfl := Option.some.inj h
      exact .rt Try.func57 (.t rfl <| .n) .n rfl rfl
    · refine .skp ?_
      refine .sq ?_
      refine .rg (u (asg (.i rfl)) <| .nil _) rfl ?_
      refine .bl ?_
      unfold bytes_Count_l1 at h
      refine .kq (.lo (fun (s : List Int × Int) => ⟨[(0, .ro (.list 1 (List.map e8 s.1))), (1, .ro (.list 1 (List.map e8 sep))), (5, .ro (.int .i64 s.2))], []⟩) h ?_) (.c rfl (.c rfl (.c rfl .n))) .n
      rintro ⟨v2, v3⟩ u1 h ih1 hx1
      replace h : bytes_Count_s1 z v2 v3 = _ := h
      unfold bytes_Count_s1 at h
      refine .bl ?_
      refine .sq ?_
      cases h

theorem pad_Zero_c {z : Option Nat} {b : List Int} {r : Bool} (h : pad_Zero z b = some r) :
    AC Try.prog 50 [.ro (.list 1 (List.map e8 b))] (.ro (.bool r)) [] := by
  refine AC.of Try.func50 rfl rfl fun w M0 hM => ?_
  unfold pad_Zero at h
  refine .sq ?_
  refine .rg (u (asg .b) <| .nil _) rfl ?_
  refine .sq ?_
  refine be h fun x1 hx1 h => ?_
  refine .rg (u (mv (.t rfl)) <| bs (F := e8) (l := [0]) 4 pf27 (.c (.i rfl) rfl <| .n) rfl (fun _ _ => rfl) rfl rfl <| cl [] cf57 (bytes_Count_c hx1) (.c (.t rfl) <| .b (.t rfl) rfl <| .n) (.inr rfl) <| u (mv (.t rfl)) <| u (lnm sf27 (.t rfl)) <| u (bc (.t rfl) (.t rfl) rfl rfl) <| u (asg (.t rfl)) <| .nil _) rfl ?_
  obtain rfl := Option.some.inj h
  exact .rt Try.func50 (.t rfl <| .n) .n rfl rfl

theorem pad_Clean_c {z : Option Nat} {b : List Int} {r : Bool} (h : pad_Clean z b = some r) :
    AC Try.prog 36 [.ro (.list 1 (List.map e8 b))] (.ro (.bool r)) [] := by
  refine AC.of Try.func36 rfl rfl fun w M0 hM => ?_
  unfold pad_Clean at h
  refine .sq ?_
  refine .rg (u (asg .b) <| .nil _) rfl ?_
  refine .sq ?_
  refine be h fun x1 hx1 h => ?_
  refine .rg (u (mv (.t rfl)) <| cl [] cf47 (pad_Trail_c hx1) (.c (.t rfl) <| .n) (.inl rfl) <| u (mv (.t rfl)) <| u (ex (.t rfl) rfl rfl) <| u (ex (.t rfl) rfl rfl) <| u (asg (.t rfl)) <| u (asg (.t rfl)) <| .nil _) rfl ?_
  refine .sq ?_
  refine be h fun x2 hx2 h => ?_
  refine be h fun x3 hx3 h => ?_
  refine .rg (u (mv (.t rfl)) <| u (bc (.t rfl) (.i rfl) rfl rfl) <| u (mv (.t rfl)) <| gd rfl rfl (fun hB => mv (.t rfl)) <| gd rfl rfl (fun hB => mv (.t rfl)) <| gd rfl rfl (fun hB => lnm sf27 (.m rfl hB)) <| gd rfl rfl (fun hB => mv (.t rfl)) <| gd rfl rfl (fun hB => bi (.m rfl hB) (.m rfl hB) rfl) <| gd rfl rfl (fun hB => mv (.t rfl)) <| gd rfl rfl (fun hB => lnm sf27 (.m rfl hB)) <| gd rfl rfl (fun hB => bi (.m rfl hB) (.i rfl) rfl) <| gd rfl rfl (fun hB => sl sf27 (.m rfl hB) (.s (.m rfl hB)) (.s (.m rfl hB)) (gTt hx2 hB)) <| cg rfl rfl cf50 (fun hB => (pad_Zero_c (gTt hx3 hB))) (fun hB => .c (.m rfl hB) <| .n) (.inl rfl) <| u (pka (.t rfl) (.t rfl)) <| u (asg (.t rfl)) <| .nil _) rfl ?_
  obtain rfl := Option.some.inj h
  exact .rt Try.func36 (.t rfl <| .n) .n rfl rfl

theorem packet_Canon_c {z : Option Nat} {b : List Int} {r : Bool} (h : packet_Canon z b = some r) :
    AC Try.prog 17 [.ro (.list 1 (List.map e8 b))] (.ro (.bool r)) [] := by
  refine AC.of Try.func17 rfl rfl fun w M0 hM => ?_
  unfold packet_Canon at h
  refine .sq ?_
  refine .rg (u (asg .b) <| .nil _) rfl ?_
  refine .sq ?_
  refine be h fun x1 hx1 h => ?_
  refine .rg (u (mv (.t rfl)) <| cl [] cf28 (packet_read_c hx1) (.c (.t rfl) <| .n) (.inl rfl) <| u (mv (.t rfl)) <| u (ex (.t rfl) rfl rfl) <| u (ex (.t rfl) rfl rfl) <| u (ex (.t rfl) rfl rfl) <| al 3 zf29 rfl <| st tf29 (.t rfl) rfl (.t rfl) rfl rfl rfl <| u (asg (.t rfl)) <| u (asg (.t rfl)) <| .nil _) rfl ?_
  refine .sq ?_
  refine be h fun x2 hx2 h => ?_
  refine .rg (u (mv (.t rfl)) <| u (bc (.t rfl) (.i rfl) rfl rfl) <| u (mv (.t rfl)) <| gd rfl rfl (fun hB => fa ff29_4 (.t rfl)) <| gd rfl rfl (fun hB => ld tf3 (.m rfl hB) rfl rfl) <| gd rfl rfl (fun hB => bc (.m rfl hB) (.i rfl) rfl rfl) <| gd rfl rfl (fun hB => mv (.m rfl hB)) <| gm rfl rfl (fun hB => mv (.t rfl)) <| cgm rfl rfl cf36 (fun hB => (pad_Clean_c (gTt hx2 (an2 hB.1 (nt hB.2))))) (fun hB => .c (.m rfl hB) <| .n) (.inl rfl) <| gd rfl rfl (fun hB => pkom (.m rfl hB) (.t rfl) hB) <| u (pka (.t rfl) (.t rfl)) <| u (asg (.t rfl)) <| .nil _) rfl ?_
  obtain rfl := Option.some.inj h
  exact .rt Try.func17 (.t rfl <| .n) .n rfl rfl

theorem law06_awake_c {z : Option Nat}  {r : Bool} (h : law06_awake z = some r) :
    AC Try.prog 6 [] (.ro (.bool r)) [] := by
  refine AC.of Try.func6 rfl rfl fun w M0 hM => ?_
  unfold law06_awake at h
  refine .sq ?_
  refine .rg (u (asg .b) <| .nil _) rfl ?_
  refine .sq ?_
  refine .rg (u (bd bf26 zf26 (.c rfl .b rfl rfl rfl <| .c rfl .b rfl rfl rfl <| .c rfl (.i rfl) rfl rfl rfl <| .n) rfl) <| bs (F := e8) (l := [1, 2, 3, 4]) 10 pf27 (.c (.i rfl) rfl <| .c (.i rfl) rfl <| .c (.i rfl) rfl <| .c (.i rfl) rfl <| .n) rfl (fun _ _ => rfl) rfl rfl <| bs (F := e8) (l := [7]) 11 pf27 (.c (.i rfl) rfl <| .n) rfl (fun _ _ => rfl) rfl rfl <| u (bd bf29 zf29 (.c rfl (.t rfl) rfl rfl rfl <| .c rfl (.i rfl) rfl rfl rfl <| .c rfl (.t rfl) rfl rfl rfl <| .c rfl (.t rfl) rfl rfl rfl <| .c rfl (.i rfl) rfl rfl rfl <| .n) rfl) <| al 1 zf29 rfl <| st tf29 (.t rfl) rfl (.t rfl) rfl rfl rfl <| .nil _) rfl ?_
  refine .sq ?_
  refine .fz 10 rfl ?_
  refine .fz 11 rfl ?_
  refine be h fun x1 hx1 h => ?_
  refine .rg (u (ld tf29 (.t rfl) rfl rfl) <| cnf 16000 cf9 (packet_Write_c hx1) (.c (.t rfl) <| .c (.i rfl) <| .n) rfl rfl rfl <| u (mv (.t rfl)) <| u (ex (.t rfl) rfl rfl) <| u (ex (.t rfl) rfl rfl) <| u (asg (.t rfl)) <| u (asg (.t rfl)) <| .nil _) rfl ?_
  refine .sq ?_
  refine .sq ?_
  refine .rg (u (mv (.t rfl)) <| u (lom sf27 (.t rfl) rfl) <| u (bc (.t rfl) (.i rfl) rfl rfl) <| .nil _) rfl ?_
  refine .bq h (.t rfl) (fun h => ?_) (fun h => ?_)
  · refine .sq ?_
    refine .rg (u (asg .b) <| .nil _) rfl ?_
    obtain rfl := Option.some.inj h
    exact .rt Try.func6 (.t rfl <| .n) .n rfl rfl
  · refine .skp ?_
    refine .sq ?_
    refine .fz 16000 rfl ?_
    refine be h fun x2 hx2 h => ?_
    refine .rg (u (mv (.t rfl)) <| cl [] cf13 (packet_Read_c hx2) (.c (.t rfl) <| .n) (.inl rfl) <| u (mv (.t rfl)) <| u (ex (.t rfl) rfl rfl) <| u (ex (.t rfl) rfl rfl) <| al 4 zf29 rfl <| st tf29 (.t rfl) rfl (.t rfl) rfl rfl rfl <| u (asg (.t rfl)) <| .nil _) rfl ?_
    refine .sq ?_
    refine be h fun x3 hx3 h => ?_
    refine .rg (u (ld tf29 (.t rfl) rfl rfl) <| cnf 29000 cf9 (packet_Write_c hx3) (.c (.t rfl) <| .c (.i rfl) <| .n) rfl rfl rfl <| u (mv (.t rfl)) <| u (ex (.t rfl) rfl rfl) <| u (ex (.t rfl) rfl rfl) <| u (asg (.t rfl)) <| u (asg (.t rfl)) <| .nil _) rfl ?_
    refine .sq ?_
    refine be h fun x4 hx4 h => ?_
    refine .rg (bs (F := e8) (l := ([] : List Int)) 31 pf27 (.n) rfl (fun _ _ => rfl) rfl rfl <| u (mv (.t rfl)) <| ap 33 pf27 (.t rfl) rfl (.t rfl) hx4 rfl <| u (asg (.t rfl)) <| .nil _) rfl ?_
    refine .sq ?_
    refine be h fun x5 hx5 h => ?_
    refine .rg (u (mv (.t rfl)) <| u (io sf27 (.t rfl) rfl (.i rfl) (ix_map e8 hx5)) <| se (q := 1) tf5 (.t rfl) rfl (.i rfl) rfl rfl rfl (ixn hx5) <| .nil _) rfl ?_
    refine .sq ?_
    refine be h fun x6 hx6 h => ?_
    refine be h fun x7 hx7 h => ?_
    refine be h fun x8 hx8 h => ?_
    refine .rg (u (mv (.t rfl)) <| u (bc (.t rfl) (.i rfl) rfl rfl) <| u (mv (.t rfl)) <| gd rfl rfl (fun hB => mv (.t rfl)) <| gd rfl rfl (fun hB => bc (.m rfl hB) (.i rfl) rfl rfl) <| u (pka (.t rfl) (.t rfl)) <| u (mv (.t rfl)) <| gd rfl rfl (fun hB => mv (.t rfl)) <| gd rfl rfl (fun hB => bc (.m rfl hB) (.i rfl) rfl rfl) <| u (pka (.t rfl) (.t rfl)) <| u (mv (.t rfl)) <| gd rfl rfl (fun hB => ld tf29 (.t rfl) rfl rfl) <| cg rfl rfl cf10 (fun hB => (packet_Size_c (Packet.mk (Head.mk true true false 96 0 0 0 []) 48862 [1, 2, 3, 4] [7] 2))) (fun hB => .c (.m rfl hB) <| .n) (.inl rfl) <| gd rfl rfl (fun hB => bc (.m rfl hB) (.i rfl) rfl rfl) <| u (pka (.t rfl) (.t rfl)) <| u (mv (.t rfl)) <| gd rfl rfl (fun hB => ld tf29 (.t rfl) rfl rfl) <| gd rfl rfl (fun hB => ld tf29 (.t rfl) rfl rfl) <| cg rfl rfl cf16 (fun hB => (ref06_Same_c (gTt hx6 hB))) (fun hB => .c (.m rfl hB) <| .c (.m rfl hB) <| .n) (.inl rfl) <| u (pka (.t rfl) (.t rfl)) <| u (mv (.t rfl)) <| gd rfl rfl (fun hB => mv (.t rfl)) <| cg rfl rfl cf17 (fun hB => (packet_Canon_c (gTt hx7 hB))) (fun hB => .c (.m rfl hB) <| .n) (.inl rfl) <| u (pka (.t rfl) (.t rfl)) <| u (mv (.t rfl)) <| gd rfl rfl (fun hB => mv (.t rfl)) <| cg rfl rfl cf17 (fun hB => (packet_Canon_c (gTt hx8 hB))) (fun hB => .b (.m rfl hB) rfl <| .n) (.inr rfl) <| gd rfl rfl (fun hB => no (.m rfl hB)) <| u (pka (.t rfl) (.t rfl)) <| u (mv (.t rfl)) <| gd rfl rfl (fun hB => ld tf29 (.t rfl) rfl rfl) <| cg rfl rfl cf15 (fun hB => (packet_Right_c (Packet.mk (Head.mk true true false 96 0 0 0 []) 48862 [1, 2, 3, 4] [7] 2))) (fun hB => .c (.m rfl hB) <| .n) (.inl rfl) <| u (pka (.t rfl) (.t rfl)) <| u (asg (.t rfl)) <| .nil _) rfl ?_
    obtain rfl := Option.some.inj h
    exact .rt Try.func6 (.t rfl <| .n) .n rfl rfl

theorem law06_awake_t : law06_awake (some 1000) = some true := by decide +kernel
theorem law06_awake_k : AC Try.prog 6 [] (.ro (.bool true)) [] := law06_awake_c law06_awake_t

theorem ref06_Short_c (p : Packet) :
    AC Try.prog 7 [.ro (enc_Packet p)] (.ro (.bool (ref06_Short p))) [] := by
  obtain ⟨r, h⟩ : ∃ r, ref06_Short p = r := ⟨_, rfl⟩
  rw [h]
  refine AC.of Try.func7 rfl rfl fun w M0 hM => ?_
  unfold ref06_Short at h
  refine .sq ?_
  refine .rg (bx 1 (.t rfl) rfl rfl <| u (asg .b) <| .nil _) rfl ?_
  refine .sq ?_
  refine .rg (u (fa ff29_0 (.t rfl)) <| u (fa ff26_7 (.t rfl)) <| u (ld tf24 (.t rfl) rfl rfl) <| u (lnm sf24 (.t rfl)) <| u (bc (.t rfl) (.i rfl) rfl rfl) <| u (mv (.t rfl)) <| gd rfl rfl (fun hB => fa ff29_2 (.t rfl)) <| gd rfl rfl (fun hB => ld tf27 (.m rfl hB) rfl rfl) <| gd rfl rfl (fun hB => lnm sf27 (.m rfl hB)) <| gd rfl rfl (fun hB => bc (.m rfl hB) (.i rfl) rfl rfl) <| u (pka (.t rfl) (.t rfl)) <| u (mv (.t rfl)) <| gd rfl rfl (fun hB => fa ff29_3 (.t rfl)) <| gd rfl rfl (fun hB => ld tf27 (.m rfl hB) rfl rfl) <| gd rfl rfl (fun hB => lnm sf27 (.m rfl hB)) <| gd rfl rfl (fun hB => bc (.m rfl hB) (.i rfl) rfl rfl) <| u (pka (.t rfl) (.t rfl)) <| u (asg (.t rfl)) <| .nil _) rfl ?_
  subst h
  exact .rt Try.func7 (.t rfl <| .n) .n rfl rfl

theorem ref05_Right_c (p_h : Head) :
    AC Try.prog 19 [.ro (enc_Head p_h)] (.ro (.bool (ref05_Right p_h))) [] := by
  obtain ⟨r, h⟩ : ∃ r, ref05_Right p_h = r := ⟨_, rfl⟩
  rw [h]
  refine AC.of Try.func19 rfl rfl fun w M0 hM => ?_
  unfold ref05_Right at h
  refine .sq ?_
  refine .rg (bx 1 (.t rfl) rfl rfl <| u (asg .b) <| .nil _) rfl ?_
  refine .sq ?_
  refine .rg (u (fa ff26_3 (.t rfl)) <| u (ld tf3 (.t rfl) rfl rfl) <| u (bc (.t rfl) (.i rfl) rfl rfl) <| u (mv (.t rfl)) <| gd rfl rfl (fun hB => fa ff26_3 (.t rfl)) <| gd rfl rfl (fun hB => ld tf3 (.m rfl hB) rfl rfl) <| gd rfl rfl (fun hB => bc (.m rfl hB) (.i rfl) rfl rfl) <| u (pka (.t rfl) (.t rfl)) <| u (mv (.t rfl)) <| gd rfl rfl (fun hB => fa ff26_7 (.t rfl)) <| gd rfl rfl (fun hB => ld tf24 (.m rfl hB) rfl rfl) <| gd rfl rfl (fun hB => lnm sf24 (.m rfl hB)) <| gd rfl rfl (fun hB => bc (.m rfl hB) (.i rfl) rfl rfl) <| u (pka (.t rfl) (.t rfl)) <| u (asg (.t rfl)) <| .nil _) rfl ?_
  subst h
  exact .rt Try.func19 (.t rfl <| .n) .n rfl rfl

theorem ref06_Size_c (p : Packet) :
    AC Try.prog 11 [.ro (enc_Packet p)] (.ro (.int .i64 (ref06_Size p))) [] := by
  obtain ⟨r, h⟩ : ∃ r, ref06_Size p = r := ⟨_, rfl⟩
  rw [h]
  refine AC.of Try.func11 rfl rfl fun w M0 hM => ?_
  unfold ref06_Size at h
  refine .sq ?_
  refine .rg (bx 1 (.t rfl) rfl rfl <| u (asg (.i rfl)) <| .nil _) rfl ?_
  refine .sq ?_
  refine .rg (u (fa ff29_0 (.t rfl)) <| u (fa ff26_7 (.t rfl)) <| u (ld tf24 (.t rfl) rfl rfl) <| u (lnm sf24 (.t rfl)) <| u (bi (.i rfl) (.t rfl) rfl) <| u (bi (.i rfl) (.t rfl) rfl) <| u (fa ff29_3 (.t rfl)) <| u (ld tf27 (.t rfl) rfl rfl) <| u (lnm sf27 (.t rfl)) <| u (bi (.t rfl) (.t rfl) rfl) <| u (asg (.t rfl)) <| .nil _) rfl ?_
  refine .sq ?_
  refine .sq ?_
  refine .rg (u (fa ff29_0 (.t rfl)) <| u (fa ff26_1 (.t rfl)) <| u (ld tf4 (.t rfl) rfl rfl) <| .nil _) rfl ?_
  refine .jq (t := r) (fun (a : Int) => ⟨[(1, .ptr 1 0), (3, .ro (.int .i64 a))], [(1, some (.box [.ro (.bool p.head.hasPad), .ro (.bool p.head.hasExt), .ro (.bool p.head.marker), .ro (.int .i64 p.head.type), .ro (.int .u16 p.head.seq), .ro (.int .u32 p.head.time), .ro (.int .u32 p.head.ssrc), .ro (.list 1 (List.map (ei .u32) p.head.csrc)), .ro (.int .u16 p.profile), .ro (.list 1 (List.map e8 p.ext)), .ro (.list 1 (List.map e8 p.payload)), .ro (.int .i64 p.pad)]))]⟩) (fun (a : Int) => ref06_Size_j1 p a) ?_ (fun J1 => ?_)
  · intro v1 h
    replace h : ref06_Size_j1 p v1 = _ := h
    unfold ref06_Size_j1 at h
    refine .sq ?_
    refine .sq ?_
    refine .rg (u (fa ff29_0 (.t rfl)) <| u (fa ff26_0 (.t rfl)) <| u (ld tf4 (.t rfl) rfl rfl) <| .nil _) rfl ?_
    refine .jq (t := r) (fun (a : Int) => ⟨[(3, .ro (.int .i64 a))], []⟩) (fun (a : Int) => ref06_Size_j2 a) ?_ (fun J2 => ?_)
    · intro v2 h
      replace h : ref06_Size_j2 v2 = _ := h
      unfold ref06_Size_j2 at h
      refine .sq ?_
      refine .rg (u (mv (.t rfl)) <| u (asg (.t rfl)) <| .nil _) rfl ?_
      subst h
      exact .rt Try.func11 (.t rfl <| .n) .n rfl rfl
    refine .bq h (.t rfl) (fun h => ?_) (fun h => ?_)
    · refine .rg (u (mv (.t rfl)) <| u (fa ff29_4 (.t rfl)) <| u (ld tf3 (.t rfl) rfl rfl) <| u (bi (.t rfl) (.t rfl) rfl) <| u (asg (.t rfl)) <| .nil _) rfl ?_
      exact .kq (J2 (ar .add .i64 v1 p.pad) h) (.c rfl .n) .n
    · refine .skp ?_
      exact .kq (J2 v1 h) (.c rfl .n) .n
  refine .bq h (.t rfl) (fun h => ?_) (fun h => ?_)
  · refine .rg (u (mv (.t rfl)) <| u (bi (.t rfl) (.i rfl) rfl) <| u (fa ff29_2 (.t rfl)) <| u (ld tf27 (.t rfl) rfl rfl) <| u (lnm sf27 (.t rfl)) <| u (bi (.t rfl) (.t rfl) rfl) <| u (asg (.t rfl)) <| .nil _) rfl ?_
    exact .kq (J1 (ar .add .i64 (ar .add .i64 (ar .add .i64 (ar .add .i64 12 (ar .mul .i64 4 (p.head.csrc.length : Int))) (p.payload.length : Int)) 4) (p.ext.length : Int)) h) (.c rfl (.c rfl .n)) (.c rfl .n)
  · refine .skp ?_
    exact .kq (J1 (ar .add .i64 (ar .add .i64 12 (ar .mul .i64 4 (p.head.csrc.length : Int))) (p.payload.length : Int)) h) (.c rfl (.c rfl .n)) (.c rfl .n)

theorem ref06_Right_c (p : Packet) :
    AC Try.prog 8 [.ro (enc_Packet p)] (.ro (.bool (ref06_Right p))) [] := by
  obtain ⟨r, h⟩ : ∃ r, ref06_Right p = r := ⟨_, rfl⟩
  rw [h]
  refine AC.of Try.func8 rfl rfl fun w M0 hM => ?_
  unfold ref06_Right at h
  refine .sq ?_
  refine .rg (bx 1 (.t rfl) rfl rfl <| u (asg .b) <| .nil _) rfl ?_
  refine .sq ?_
  refine .sq ?_
  refine .rg (u (fa ff29_0 (.t rfl)) <| u (ld tf26 (.t rfl) rfl rfl) <| cl [] cf19 (ref05_Right_c p.head) (.c (.t rfl) <| .n) (.inl rfl) <| u (no (.t rfl)) <| u (mv (.t rfl)) <| gd rfl rfl (fun hB => fa ff29_3 (.t rfl)) <| gd rfl rfl (fun hB => ld tf27 (.m rfl hB) rfl rfl) <| gd rfl rfl (fun hB => lnm sf27 (.m rfl hB)) <| gd rfl rfl (fun hB => bc (.m rfl hB) (.i rfl) rfl rfl) <| u (pko (.t rfl) (.t rfl)) <| u (mv (.t rfl)) <| gd rfl rfl (fun hB => fa ff29_2 (.t rfl)) <| gd rfl rfl (fun hB => ld tf27 (.m rfl hB) rfl rfl) <| gd rfl rfl (fun hB => lnm sf27 (.m rfl hB)) <| gd rfl rfl (fun hB => bc (.m rfl hB) (.i rfl) rfl rfl) <| u (pko (.t rfl) (.t rfl)) <| u (mv (.t rfl)) <| gd rfl rfl (fun hB => fa ff29_2 (.t rfl)) <| gd rfl rfl (fun hB => ld tf27 (.m rfl hB) rfl rfl) <| gd rfl rfl (fun hB => lnm sf27 (.m rfl hB)) <| gd rfl rfl (fun hB => di (.m rfl hB) (.i rfl) rfl (by decide)) <| gd rfl rfl (fun hB => bc (.m rfl hB) (.i rfl) rfl rfl) <| u (pko (.t rfl) (.t rfl)) <| .nil _) rfl ?_
  refine .bq h (.t rfl) (fun h => ?_) (fun h => ?_)
  · refine .sq ?_
    refine .rg (u (asg .b) <| .nil _) rfl ?_
    subst h
    exact .rt Try.func8 (.t rfl <| .n) .n rfl rfl
  · refine .skp ?_
    refine .sq ?_
    refine .sq ?_
    refine .rg (u (fa ff29_0 (.t rfl)) <| u (fa ff26_1 (.t rfl)) <| u (ld tf4 (.t rfl) rfl rfl) <| u (no (.t rfl)) <| u (mv (.t rfl)) <| gd rfl rfl (fun hB => fa ff29_1 (.t rfl)) <| gd rfl rfl (fun hB => ld tf22 (.m rfl hB) rfl rfl) <| gd rfl rfl (fun hB => bc (.m rfl hB) (.i rfl) rfl rfl) <| gd rfl rfl (fun hB => mv (.m rfl hB)) <| gm rfl rfl (fun hB => fa ff29_2 (.t rfl)) <| gm rfl rfl (fun hB => ld tf27 (.m rfl hB) rfl rfl) <| gm rfl rfl (fun hB => lnm sf27 (.m rfl hB)) <| gm rfl rfl (fun hB => bc (.m rfl hB) (.i rfl) rfl rfl) <| gd rfl rfl (fun hB => pkom (.m rfl hB) (.t rfl) hB) <| u (pka (.t rfl) (.t rfl)) <| .nil _) rfl ?_
    refine .bq h (.t rfl) (fun h => ?_) (fun h => ?_)
    · refine .sq ?_
      refine .rg (u (asg .b) <| .nil _) rfl ?_
      subst h
      exact .rt Try.func8 (.t rfl <| .n) .n rfl rfl
    · refine .skp ?_
      refine .sq ?_
      refine .sq ?_
      refine .rg (u (fa ff29_0 (.t rfl)) <| u (fa ff26_0 (.t rfl)) <| u (ld tf4 (.t rfl) rfl rfl) <| u (mv (.t rfl)) <| gd rfl rfl (fun hB => fa ff29_4 (.t rfl)) <| gd rfl rfl (fun hB => ld tf3 (.m rfl hB) rfl rfl) <| gd rfl rfl (fun hB => bc (.m rfl hB) (.i rfl) rfl rfl) <| gd rfl rfl (fun hB => mv (.m rfl hB)) <| gm rfl rfl (fun hB => fa ff29_4 (.t rfl)) <| gm rfl rfl (fun hB => ld tf3 (.m rfl hB) rfl rfl) <| gm rfl rfl (fun hB => bc (.m rfl hB) (.i rfl) rfl rfl) <| gd rfl rfl (fun hB => pkom (.m rfl hB) (.t rfl) hB) <| u (pka (.t rfl) (.t rfl)) <| u (mv (.t rfl)) <| gd rfl rfl (fun hB => fa ff29_0 (.t rfl)) <| gd rfl rfl (fun hB => fa ff26_0 (.m rfl hB)) <| gd rfl rfl (fun hB => ld tf4 (.m rfl hB) rfl rfl) <| gd rfl rfl (fun hB => no (.m rfl hB)) <| gd rfl rfl (fun hB => mv (.m rfl hB)) <| gm rfl rfl (fun hB => fa ff29_4 (.t rfl)) <| gm rfl rfl (fun hB => ld tf3 (.m rfl hB) rfl rfl) <| gm rfl rfl (fun hB => bc (.m rfl hB) (.i rfl) rfl rfl) <| gd rfl rfl (fun hB => pkam (.m rfl hB) (.t rfl) hB) <| u (pko (.t rfl) (.t rfl)) <| .nil _) rfl ?_
      refine .bq h (.t rfl) (fun h => ?_) (fun h => ?_)
      · refine .sq ?_
        refine .rg (u (asg .b) <| .nil _) rfl ?_
        subst h
        exact .rt Try.func8 (.t rfl <| .n) .n rfl rfl
      · refine .skp ?_
        refine .sq ?_
        refine .rg (u (ld tf29 (.t rfl) rfl rfl) <| cl [] cf11 (ref06_Size_c p) (.c (.t rfl) <| .n) (.inl rfl) <| u (bc (.t rfl) (.i rfl) rfl rfl) <| u (asg (.t rfl)) <| .nil _) rfl ?_
        subst h
        exact .rt Try.func8 (.t rfl <| .n) .n rfl rfl

theorem ref01_Put_c {z : Option Nat} {v : Int} {n : Int} {r : List Int × Int} (h : ref01_Put z v n = some r) :
    AC Try.prog 44 [.ro (.int .u64 v), .ro (.int .i64 n)] (.tup [.own 0, .ro (.int .i64 r.2)]) [(0, .arr 5 1 (List.map e8 r.1))] := by
  refine AC.of Try.func44 rfl rfl fun w M0 hM => ?_
  unfold ref01_Put at h
  refine .sq ?_
  refine .rg (anm e8 4 5 1 rfl rfl <| u (asg (.i rfl)) <| .nil _) rfl ?_
  refine .sq ?_
  refine .sq ?_
  refine .rg (u (mv (.t rfl)) <| u (bc (.t rfl) (.i rfl) rfl rfl) <| u (mv (.t rfl)) <| gd rfl rfl (fun hB => mv (.t rfl)) <| gd rfl rfl (fun hB => bc (.m rfl hB) (.i rfl) rfl rfl) <| u (pko (.t rfl) (.t rfl)) <| .nil _) rfl ?_
  refine .bq h (.t rfl) (fun h => ?_) (fun h => ?_)
  · refine .sq ?_
    refine .rg (anm e8 100004 5 1 rfl rfl <| u (asg (.i rfl)) <| .nil _) rfl ?_
    obtain rfl := Option.some.inj h
    refine .ks (l := [(4, .own 0), (5, .ro (.int .i64 1))]) (o := [(0, some (.arr 5 1 (List.map e8 [])))]) (fun i => bif Nat.beq i 0 then 100004 else i) ?_ (.c rfl (.c rfl .n)) (.c rfl .n) rfl
    exact .rt Try.func44 (.t rfl <| .t rfl <| .n) (.c rfl .n) rfl rfl
  · refine .skp ?_
    refine .sq ?_
    refine be h fun x1 hx1 h => ?_
    refine .rg (u (mv (.t rfl)) <| mks (F := e8) (z0 := 0) 15 pf27 zf5 (.t rfl) (.t rfl) hx1 rfl <| u (asg (.t rfl)) <| .nil _) rfl ?_
    refine .sq ?_
    refine .sq ?_
    refine .rg (u (asg (.i rfl)) <| .nil _) rfl ?_
    refine .bl ?_
    unfold ref01_Put_l1 at h
    refine .ks (fun i => bif Nat.beq i 6 then 15 else i) (.lo (fun (s : Int × List Int × Int) => ⟨[(0, .ro (.int .u64 s.1)), (1, .ro (.int .i64 n)), (6, .own 6), (7, .ro (.int .i64 s.2.2))], [(6, some (.arr 5 1 (List.map e8 s.2.1)))]⟩) h ?_) (.c rfl (.c rfl (.c rfl (.c rfl .n)))) (.c rfl .n) rfl
    rintro ⟨v2, v3, v4⟩ u1 h ih1 hx1
    replace h : ref01_Put_s1 z n v2 v3 v4 = _ := h
    unfold ref01_Put_s1 at h
    refine .sq ?_
    refine .sq ?_
    refine .rg (u (mv (.t rfl)) <| u (mv (.t rfl)) <| u (bc (.t rfl) (.t rfl) rfl rfl) <| .nil _) rfl ?_
    refine .bq h (.t rfl) (fun h => ?_) (fun h => ?_)
    · refine .skp ?_
      refine .sq ?_
      refine .bl ?_
      refine .sq ?_
      refine be h fun x5 hx5 h => ?_
      refine .rg (u (mv (.t rfl)) <| u (mv (.t rfl)) <| u (bi (.t rfl) (.i rfl) rfl) <| u (mv (.t rfl)) <| u (bi (.t rfl) (.t rfl) rfl) <| u (mv (.t rfl)) <| u (di (.t rfl) (.i rfl) rfl (by decide)) <| u (cv cv49_5 (.t rfl)) <| u (io sf27 (.t rfl) rfl (.t rfl) (ix_map e8 hx5)) <| se (q := (IntKind.u8.wrap (dv .rem .u64 v2 256))) tf5 (.t rfl) rfl (.t rfl) rfl rfl rfl (ixn hx5) <| .nil _) rfl ?_
      refine .rg (u (mv (.t rfl)) <| u (di (.t rfl) (.i rfl) rfl (by decide)) <| u (asg (.t rfl)) <| .nil _) rfl ?_
      refine .ib ?_
      refine .rg (u (mv (.t rfl)) <| u (bi (.t rfl) (.i rfl) rfl) <| u (asg (.t rfl)) <| .nil _) rfl ?_
      exact .kq (.il (ih1 ((dv .quo .u64 v2 256), (List.set v3 ((ar .sub .i64 (ar .sub .i64 n 1) v4) : Int).toNat (IntKind.u8.wrap (dv .rem .u64 v2 256))), (ar .add .i64 v4 1)) (nxi h))) (.c rfl (.c rfl (.c rfl (.c rfl .n)))) (.c rfl .n)
    · refine .xt rfl ?_
      replace h := mpR h hx1
      refine .sq ?_
      refine .sq ?_
      refine .rg (u (mv (.t rfl)) <| u (bc (.t rfl) (.i rfl) rfl rfl) <| .nil _) rfl ?_
      refine .bq h (.t rfl) (fun h => ?_) (fun h => ?_)
      · refine .sq ?_
        refine .rg (anm e8 4 5 1 rfl rfl <| u (asg (.i rfl)) <| .nil _) rfl ?_
        obtain rfl := Option.some.inj h
        refine .ks (l := [(4, .own 0), (5, .ro (.int .i64 6))]) (o := [(0, some (.arr 5 1 (List.map e8 [])))]) (fun i => bif Nat.beq i 0 then 4 else i) ?_ (.c rfl (.c rfl .n)) (.c rfl .n) rfl
        exact .rt Try.func44 (.t rfl <| .t rfl <| .n) (.c rfl .n) rfl rfl
      · refine .skp ?_
        refine .sq ?_
        refine .rg (u (mv (.t rfl)) <| u (asg (.t rfl)) <| u (asg (.i rfl)) <| .nil _) rfl ?_
        obtain rfl := Option.some.inj h
        refine .ks (l := [(4, .own 0), (5, .ro (.int .i64 0))]) (o := [(0, some (.arr 5 1 (List.map e8 v3)))]) (fun i => bif Nat.beq i 0 then 6 else i) ?_ (.c rfl (.c rfl .n)) (.c rfl .n) rfl
        exact .rt Try.func44 (.t rfl <| .t rfl <| .n) (.c rfl .n) rfl rfl

theorem ref01_Put_r {z : Option Nat} {v : Int} {n : Int} {r : List Int × Int} (h : ref01_Put z v n = some r) :
    AC Try.prog 44 [.ro (.int .u64 v), .ro (.int .i64 n)] (.ro (.tup [.list 1 (List.map e8 r.1), .int .i64 r.2])) [] := AC.fz (ref01_Put_c h) rfl

theorem ref01_Must_c {z : Option Nat} {v : Int} {n : Int} {r : List Int} (h : ref01_Must z v n = some r) :
    AC Try.prog 26 [.ro (.int .u64 v), .ro (.int .i64 n)] (.own 0) [(0, .arr 5 1 (List.map e8 r))] := by
  refine AC.of Try.func26 rfl rfl fun w M0 hM => ?_
  unfold ref01_Must at h
  refine .sq ?_
  refine .rg (anm e8 4 5 1 rfl rfl <| .nil _) rfl ?_
  refine .sq ?_
  refine be h fun x1 hx1 h => ?_
  refine .rg (u (mv (.t rfl)) <| u (mv (.t rfl)) <| cnf 11000 cf44 (ref01_Put_c hx1) (.c (.t rfl) <| .c (.t rfl) <| .n) rfl rfl rfl <| u (mv (.t rfl)) <| u (ex (.t rfl) rfl rfl) <| u (ex (.t rfl) rfl rfl) <| u (asg (.t rfl)) <| u (asg (.t rfl)) <| .nil _) rfl ?_
  refine .sq ?_
  refine .rg (u (mv (.t rfl)) <| u (asg (.t rfl)) <| .nil _) rfl ?_
  obtain rfl := Option.some.inj h
  refine .ks (l := [(4, .own 0)]) (o := [(0, some (.arr 5 1 (List.map e8 x1.1)))]) (fun i => bif Nat.beq i 0 then 11000 else i) ?_ (.c rfl .n) (.c rfl .n) rfl
  exact .rt Try.func26 (.t rfl <| .n) (.c rfl .n) rfl rfl

theorem ref01_Must_r {z : Option Nat} {v : Int} {n : Int} {r : List Int} (h : ref01_Must z v n = some r) :
    AC Try.prog 26 [.ro (.int .u64 v), .ro (.int .i64 n)] (.ro (.list 1 (List.map e8 r))) [] := AC.fz (ref01_Must_c h) rfl

theorem ref05_Write_c {z : Option Nat} {p_h : Head} {r : List Int} (h : ref05_Write z p_h = some r) :
    AC Try.prog 25 [.ro (enc_Head p_h)] (.own 0) [(0, .arr 5 1 (List.map e8 r))] := by
  refine AC.of Try.func25 rfl rfl fun w M0 hM => ?_
  unfold ref05_Write at h
  refine .sq ?_
  refine .rg (bx 1 (.t rfl) rfl rfl <| anm e8 2 5 1 rfl rfl <| .nil _) rfl ?_
  refine .sq ?_
  refine .rg (u (fa ff26_7 (.t rfl)) <| u (ld tf24 (.t rfl) rfl rfl) <| u (lnm sf24 (.t rfl)) <| u (bi (.i rfl) (.t rfl) rfl) <| u (asg (.t rfl)) <| .nil _) rfl ?_
  refine .sq ?_
  refine .sq ?_
  refine .rg (u (fa ff26_0 (.t rfl)) <| u (ld tf4 (.t rfl) rfl rfl) <| .nil _) rfl ?_
  refine .jq (t := some r) (fun (a : Int) => ⟨[(1, .ptr 1 0), (3, .ro (.int .i64 a))], [(1, some (.box [.ro (.bool p_h.hasPad), .ro (.bool p_h.hasExt), .ro (.bool p_h.marker), .ro (.int .i64 p_h.type), .ro (.int .u16 p_h.seq), .ro (.int .u32 p_h.time), .ro (.int .u32 p_h.ssrc), .ro (.list 1 (List.map (ei .u32) p_h.csrc))]))]⟩) (fun (a : Int) => ref05_Write_j1 z p_h a) ?_ (fun J1 => ?_)
  · intro v1 h
    replace h : ref05_Write_j1 z p_h v1 = _ := h
    unfold ref05_Write_j1 at h
    refine .sq ?_
    refine .sq ?_
    refine .rg (u (fa ff26_1 (.t rfl)) <| u (ld tf4 (.t rfl) rfl rfl) <| .nil _) rfl ?_
    refine .jq (t := some r) (fun (a : Int) => ⟨[(1, .ptr 1 0), (3, .ro (.int .i64 a))], [(1, some (.box [.ro (.bool p_h.hasPad), .ro (.bool p_h.hasExt), .ro (.bool p_h.marker), .ro (.int .i64 p_h.type), .ro (.int .u16 p_h.seq), .ro (.int .u32 p_h.time), .ro (.int .u32 p_h.ssrc), .ro (.list 1 (List.map (ei .u32) p_h.csrc))]))]⟩) (fun (a : Int) => ref05_Write_j2 z p_h a) ?_ (fun J2 => ?_)
    · intro v2 h
      replace h : ref05_Write_j2 z p_h v2 = _ := h
      unfold ref05_Write_j2 at h
      refine .sq ?_
      refine .rg (u (fa ff26_3 (.t rfl)) <| u (ld tf3 (.t rfl) rfl rfl) <| u (asg (.t rfl)) <| .nil _) rfl ?_
      refine .sq ?_
      refine .sq ?_
      refine .rg (u (fa ff26_2 (.t rfl)) <| u (ld tf4 (.t rfl) rfl rfl) <| .nil _) rfl ?_
      refine .jq (t := some r) (fun (a : Int) => ⟨[(1, .ptr 1 0), (3, .ro (.int .i64 v2)), (4, .ro (.int .i64 a))], [(1, some (.box [.ro (.bool p_h.hasPad), .ro (.bool p_h.hasExt), .ro (.bool p_h.marker), .ro (.int .i64 p_h.type), .ro (.int .u16 p_h.seq), .ro (.int .u32 p_h.time), .ro (.int .u32 p_h.ssrc), .ro (.list 1 (List.map (ei .u32) p_h.csrc))]))]⟩) (fun (a : Int) => ref05_Write_j3 z p_h v2 a) ?_ (fun J3 => ?_)
      · intro v3 h
        replace h : ref05_Write_j3 z p_h v2 v3 = _ := h
        unfold ref05_Write_j3 at h
        refine .sq ?_
        refine .rg (u (mv (.t rfl)) <| u (cv cv3_5 (.t rfl)) <| u (mv (.t rfl)) <| u (cv cv3_5 (.t rfl)) <| bs (F := e8) (l := [(IntKind.u8.wrap v2), (IntKind.u8.wrap v3)]) 29 pf27 (.c (.t rfl) rfl <| .c (.t rfl) rfl <| .n) rfl (fun _ _ => rfl) rfl rfl <| u (asg (.t rfl)) <| .nil _) rfl ?_
        refine .sq ?_
        refine be h fun x4 hx4 h => ?_
        refine be h fun x5 hx5 h => ?_
        refine .rg (u (mv (.t rfl)) <| u (fa ff26_4 (.t rfl)) <| u (ld tf22 (.t rfl) rfl rfl) <| u (cv cv22_49 (.t rfl)) <| cnf 35000 cf26 (ref01_Must_c hx4) (.c (.t rfl) <| .c (.i rfl) <| .n) rfl rfl rfl <| apo 35 pf27 (.t rfl) rfl (.t rfl) rfl hx5 rfl <| u (asg (.t rfl)) <| .nil _) rfl ?_
        refine .sq ?_
        refine be h fun x6 hx6 h => ?_
        refine be h fun x7 hx7 h => ?_
        refine .rg (u (mv (.t rfl)) <| u (fa ff26_5 (.t rfl)) <| u (ld tf23 (.t rfl) rfl rfl) <| u (cv cv23_49 (.t rfl)) <| cnf 41000 cf26 (ref01_Must_c hx6) (.c (.t rfl) <| .c (.i rfl) <| .n) rfl rfl rfl <| apo 41 pf27 (.t rfl) rfl (.t rfl) rfl hx7 rfl <| u (asg (.t rfl)) <| .nil _) rfl ?_
        refine .sq ?_
        refine be h fun x8 hx8 h => ?_
        refine be h fun x9 hx9 h => ?_
        refine .rg (u (mv (.t rfl)) <| u (fa ff26_6 (.t rfl)) <| u (ld tf23 (.t rfl) rfl rfl) <| u (cv cv23_49 (.t rfl)) <| cnf 47000 cf26 (ref01_Must_c hx8) (.c (.t rfl) <| .c (.i rfl) <| .n) rfl rfl rfl <| apo 47 pf27 (.t rfl) rfl (.t rfl) rfl hx9 rfl <| u (asg (.t rfl)) <| .nil _) rfl ?_
        refine .sq ?_
        refine .sq ?_
        refine .rg (u (asg (.i rfl)) <| .nil _) rfl ?_
        refine .bl ?_
        unfold ref05_Write_l4 at h
        refine .ks (fun i => bif Nat.beq i 5 then 47 else i) (.lo (fun (s : List Int × Int) => ⟨[(1, .ptr 1 0), (5, .own 5), (6, .ro (.int .i64 s.2))], [(1, some (.box [.ro (.bool p_h.hasPad), .ro (.bool p_h.hasExt), .ro (.bool p_h.marker), .ro (.int .i64 p_h.type), .ro (.int .u16 p_h.seq), .ro (.int .u32 p_h.time), .ro (.int .u32 p_h.ssrc), .ro (.list 1 (List.map (ei .u32) p_h.csrc))])), (5, some (.arr 5 1 (List.map e8 s.1)))]⟩) h ?_) (.c rfl (.c rfl (.c rfl .n))) (.c rfl (.c rfl .n)) rfl
        rintro ⟨v10, v11⟩ u4 h ih4 hx4
        replace h : ref05_Write_s4 z p_h v10 v11 = _ := h
        unfold ref05_Write_s4 at h
        refine .sq ?_
        refine .sq ?_
        refine .rg (u (mv (.t rfl)) <| u (fa ff26_7 (.t rfl)) <| u (ld tf24 (.t rfl) rfl rfl) <| u (lnm sf24 (.t rfl)) <| u (bc (.t rfl) (.t rfl) rfl rfl) <| .nil _) rfl ?_
        refine .bq h (.t rfl) (fun h => ?_) (fun h => ?_)
        · refine .skp ?_
          refine .sq ?_
          refine .bl ?_
          refine be h fun x12 hx12 h => ?_
          refine be h fun x13 hx13 h => ?_
          refine be h fun x14 hx14 h => ?_
          refine .rg (u (mv (.t rfl)) <| u (fa ff26_7 (.t rfl)) <| u (ld tf24 (.t rfl) rfl rfl) <| u (mv (.t rfl)) <| u (ia sf24 (.t rfl) (.t rfl) (ix_map (ei .u32) hx12)) <| u (lr tf23 (.t rfl) rfl) <| u (cv cv23_49 (.t rfl)) <| cnf 63000 cf26 (ref01_Must_c hx13) (.c (.t rfl) <| .c (.i rfl) <| .n) rfl rfl rfl <| apo 63 pf27 (.t rfl) rfl (.t rfl) rfl hx14 rfl <| u (asg (.t rfl)) <| .nil _) rfl ?_
          refine .ib ?_
          refine .rg (u (mv (.t rfl)) <| u (bi (.t rfl) (.i rfl) rfl) <| u (asg (.t rfl)) <| .nil _) rfl ?_
          exact .ks (fun i => bif Nat.beq i 5 then 63 else i) (.il (ih4 (x14, (ar .add .i64 v11 1)) (nxi h))) (.c rfl (.c rfl (.c rfl .n))) (.c rfl (.c rfl .n)) rfl
        · refine .xt rfl ?_
          replace h := mpR h hx4
          refine .sq ?_
          refine .rg (u (mv (.t rfl)) <| u (asg (.t rfl)) <| .nil _) rfl ?_
          obtain rfl := Option.some.inj h
          refine .ks (l := [(2, .own 0)]) (o := [(0, some (.arr 5 1 (List.map e8 v10)))]) (fun i => bif Nat.beq i 0 then 5 else i) ?_ (.c rfl .n) (.c rfl .n) rfl
          exact .rt Try.func25 (.t rfl <| .n) (.c rfl .n) rfl rfl
      refine .bq h (.t rfl) (fun h => ?_) (fun h => ?_)
      · refine .rg (u (mv (.t rfl)) <| u (bi (.t rfl) (.i rfl) rfl) <| u (asg (.t rfl)) <| .nil _) rfl ?_
        exact .kq (J3 (ar .add .i64 p_h.type 128) h) (.c rfl (.c rfl (.c rfl .n))) (.c rfl .n)
      · refine .skp ?_
        exact .kq (J3 p_h.type h) (.c rfl (.c rfl (.c rfl .n))) (.c rfl .n)
    refine .bq h (.t rfl) (fun h => ?_) (fun h => ?_)
    · refine .rg (u (mv (.t rfl)) <| u (bi (.t rfl) (.i rfl) rfl) <| u (asg (.t rfl)) <| .nil _) rfl ?_
      exact .kq (J2 (ar .add .i64 v1 16) h) (.c rfl (.c rfl .n)) (.c rfl .n)
    · refine .skp ?_
      exact .kq (J2 v1 h) (.c rfl (.c rfl .n)) (.c rfl .n)
  refine .bq h (.t rfl) (fun h => ?_) (fun h => ?_)
  · refine .rg (u (mv (.t rfl)) <| u (bi (.t rfl) (.i rfl) rfl) <| u (asg (.t rfl)) <| .nil _) rfl ?_
    exact .kq (J1 (ar .add .i64 (ar .add .i64 128 (p_h.csrc.length : Int)) 32) h) (.c rfl (.c rfl .n)) (.c rfl .n)
  · refine .skp ?_
    exact .kq (J1 (ar .add .i64 128 (p_h.csrc.length : Int)) h) (.c rfl (.c rfl .n)) (.c rfl .n)

theorem ref05_Write_r {z : Option Nat} {p_h : Head} {r : List Int} (h : ref05_Write z p_h = some r) :
    AC Try.prog 25 [.ro (enc_Head p_h)] (.ro (.list 1 (List.map e8 r))) [] := AC.fz (ref05_Write_c h) rfl

theorem ref03_Add_c {z : Option Nat} {b : List Int} {n : Int} {r : List Int} (h : ref03_Add z b n = some r) :
    AC Try.prog 27 [.ro (.list 1 (List.map e8 b)), .ro (.int .i64 n)] (.own 0) [(0, .arr 5 1 (List.map e8 r))] := by
  refine AC.of Try.func27 rfl rfl fun w M0 hM => ?_
  unfold ref03_Add at h
  refine .sq ?_
  refine .rg (anm e8 4 5 1 rfl rfl <| .nil _) rfl ?_
  refine .sq ?_
  refine be h fun x1 hx1 h => ?_
  refine .rg (bs (F := e8) (l := ([] : List Int)) 7 pf27 (.n) rfl (fun _ _ => rfl) rfl rfl <| u (mv (.t rfl)) <| ap 9 pf27 (.t rfl) rfl (.t rfl) hx1 rfl <| u (asg (.t rfl)) <| .nil _) rfl ?_
  refine .sq ?_
  refine .sq ?_
  refine .rg (u (asg (.i rfl)) <| .nil _) rfl ?_
  refine .bl ?_
  unfold ref03_Add_l1 at h
  refine .ks (fun i => bif Nat.beq i 5 then 9 else i) (.lo (fun (s : List Int × Int) => ⟨[(1, .ro (.int .i64 n)), (5, .own 5), (6, .ro (.int .i64 s.2))], [(5, some (.arr 5 1 (List.map e8 s.1)))]⟩) h ?_) (.c rfl (.c rfl (.c rfl .n))) (.c rfl .n) rfl
  rintro ⟨v2, v3⟩ u1 h ih1 hx1
  replace h : ref03_Add_s1 z n v2 v3 = _ := h
  unfold ref03_Add_s1 at h
  refine .sq ?_
  refine .sq ?_
  refine .rg (u (mv (.t rfl)) <| u (mv (.t rfl)) <| u (bc (.t rfl) (.t rfl) rfl rfl) <| .nil _) rfl ?_
  refine .bq h (.t rfl) (fun h => ?_) (fun h => ?_)
  · refine .skp ?_
    refine .sq ?_
    refine .bl ?_
    refine be h fun x4 hx4 h => ?_
    refine .rg (u (mv (.t rfl)) <| bs (F := e8) (l := [0]) 16 pf27 (.c (.i rfl) rfl <| .n) rfl (fun _ _ => rfl) rfl rfl <| apo 17 pf27 (.t rfl) rfl (.t rfl) rfl hx4 rfl <| u (asg (.t rfl)) <| .nil _) rfl ?_
    refine .ib ?_
    refine .rg (u (mv (.t rfl)) <| u (bi (.t rfl) (.i rfl) rfl) <| u (asg (.t rfl)) <| .nil _) rfl ?_
    exact .ks (fun i => bif Nat.beq i 5 then 17 else i) (.il (ih1 (x4, (ar .add .i64 v3 1)) (nxi h))) (.c rfl (.c rfl (.c rfl .n))) (.c rfl .n) rfl
  · refine .xt rfl ?_
    replace h := mpR h hx1
    refine .sq ?_
    refine be h fun x5 hx5 h => ?_
    refine .rg (u (mv (.t rfl)) <| u (mv (.t rfl)) <| u (cv cv3_5 (.t rfl)) <| bs (F := e8) (l := [(IntKind.u8.wrap n)]) 21 pf27 (.c (.t rfl) rfl <| .n) rfl (fun _ _ => rfl) rfl rfl <| apo 22 pf27 (.t rfl) rfl (.t rfl) rfl hx5 rfl <| u (asg (.t rfl)) <| .nil _) rfl ?_
    obtain rfl := Option.some.inj h
    refine .ks (l := [(4, .own 0)]) (o := [(0, some (.arr 5 1 (List.map e8 x5)))]) (fun i => bif Nat.beq i 0 then 22 else i) ?_ (.c rfl .n) (.c rfl .n) rfl
    exact .rt Try.func27 (.t rfl <| .n) (.c rfl .n) rfl rfl

theorem ref03_Add_r {z : Option Nat} {b : List Int} {n : Int} {r : List Int} (h : ref03_Add z b n = some r) :
    AC Try.prog 27 [.ro (.list 1 (List.map e8 b)), .ro (.int .i64 n)] (.ro (.list 1 (List.map e8 r))) [] := AC.fz (ref03_Add_c h) rfl

theorem ref06_Write_c {z : Option Nat} {p : Packet} {r : List Int} (h : ref06_Write z p = some r) :
    AC Try.prog 12 [.ro (enc_Packet p)] (.own 0) [(0, .arr 5 1 (List.map e8 r))] := by
  refine AC.of Try.func12 rfl rfl fun w M0 hM => ?_
  unfold ref06_Write at h
  refine .sq ?_
  refine .rg (bx 1 (.t rfl) rfl rfl <| anm e8 2 5 1 rfl rfl <| .nil _) rfl ?_
  refine .sq ?_
  refine be h fun x1 hx1 h => ?_
  refine .rg (u (fa ff29_0 (.t rfl)) <| u (ld tf26 (.t rfl) rfl rfl) <| cnf 7000 cf25 (ref05_Write_c hx1) (.c (.t rfl) <| .n) rfl rfl rfl <| u (asg (.t rfl)) <| .nil _) rfl ?_
  refine .sq ?_
  refine .sq ?_
  refine .rg (u (fa ff29_0 (.t rfl)) <| u (fa ff26_1 (.t rfl)) <| u (ld tf4 (.t rfl) rfl rfl) <| .nil _) rfl ?_
  refine .jq (t := some r) (fun (a : List Int) => ⟨[(1, .ptr 1 0), (3, .own 3)], [(1, some (.box [.ro (.bool p.head.hasPad), .ro (.bool p.head.hasExt), .ro (.bool p.head.marker), .ro (.int .i64 p.head.type), .ro (.int .u16 p.head.seq), .ro (.int .u32 p.head.time), .ro (.int .u32 p.head.ssrc), .ro (.list 1 (List.map (ei .u32) p.head.csrc)), .ro (.int .u16 p.profile), .ro (.list 1 (List.map e8 p.ext)), .ro (.list 1 (List.map e8 p.payload)), .ro (.int .i64 p.pad)])), (3, some (.arr 5 1 (List.map e8 a)))]⟩) (fun (a : List Int) => ref06_Write_j1 z p a) ?_ (fun J1 => ?_)
  · intro v2 h
    replace h : ref06_Write_j1 z p v2 = _ := h
    unfold ref06_Write_j1 at h
    refine .sq ?_
    refine be h fun x3 hx3 h => ?_
    refine .rg (u (mv (.t rfl)) <| u (fa ff29_3 (.t rfl)) <| u (ld tf27 (.t rfl) rfl rfl) <| ap 31 pf27 (.t rfl) rfl (.t rfl) hx3 rfl <| u (asg (.t rfl)) <| .nil _) rfl ?_
    refine .sq ?_
    refine .sq ?_
    refine .rg (u (fa ff29_0 (.t rfl)) <| u (fa ff26_0 (.t rfl)) <| u (ld tf4 (.t rfl) rfl rfl) <| .nil _) rfl ?_
    refine .jq (t := some r) (fun (a : List Int) => ⟨[(3, .own 3)], [(3, some (.arr 5 1 (List.map e8 a)))]⟩) (fun (a : List Int) => ref06_Write_j2 z a) ?_ (fun J2 => ?_)
    · intro v4 h
      replace h : ref06_Write_j2 z v4 = _ := h
      unfold ref06_Write_j2 at h
      refine .sq ?_
      refine .rg (u (mv (.t rfl)) <| u (asg (.t rfl)) <| .nil _) rfl ?_
      obtain rfl := Option.some.inj h
      refine .ks (l := [(2, .own 0)]) (o := [(0, some (.arr 5 1 (List.map e8 v4)))]) (fun i => bif Nat.beq i 0 then 3 else i) ?_ (.c rfl .n) (.c rfl .n) rfl
      exact .rt Try.func12 (.t rfl <| .n) (.c rfl .n) rfl rfl
    refine .bq h (.t rfl) (fun h => ?_) (fun h => ?_)
    · refine .fz 31 rfl ?_
      refine be h fun x5 hx5 h => ?_
      refine .rg (u (mv (.t rfl)) <| u (fa ff29_4 (.t rfl)) <| u (ld tf3 (.t rfl) rfl rfl) <| cnf 39000 cf27 (ref03_Add_c hx5) (.c (.t rfl) <| .c (.t rfl) <| .n) rfl rfl rfl <| u (asg (.t rfl)) <| .nil _) rfl ?_
      exact .ks (fun i => bif Nat.beq i 3 then 39000 else i) (J2 x5 h) (.c rfl .n) (.c rfl .n) rfl
    · refine .skp ?_
      exact .ks (fun i => bif Nat.beq i 3 then 31 else i) (J2 x3 h) (.c rfl .n) (.c rfl .n) rfl
  refine .bq h (.t rfl) (fun h => ?_) (fun h => ?_)
  · refine .sq ?_
    refine be h fun x6 hx6 h => ?_
    refine be h fun x7 hx7 h => ?_
    refine .rg (u (mv (.t rfl)) <| u (fa ff29_1 (.t rfl)) <| u (ld tf22 (.t rfl) rfl rfl) <| u (cv cv22_49 (.t rfl)) <| cnf 15000 cf26 (ref01_Must_c hx6) (.c (.t rfl) <| .c (.i rfl) <| .n) rfl rfl rfl <| apo 15 pf27 (.t rfl) rfl (.t rfl) rfl hx7 rfl <| u (asg (.t rfl)) <| .nil _) rfl ?_
    refine .sq ?_
    refine be h fun x8 hx8 h => ?_
    refine be h fun x9 hx9 h => ?_
    refine .rg (u (mv (.t rfl)) <| u (fa ff29_2 (.t rfl)) <| u (ld tf27 (.t rfl) rfl rfl) <| u (lnm sf27 (.t rfl)) <| u (di (.t rfl) (.i rfl) rfl (by decide)) <| u (cv cv3_49 (.t rfl)) <| cnf 23000 cf26 (ref01_Must_c hx8) (.c (.t rfl) <| .c (.i rfl) <| .n) rfl rfl rfl <| apo 23 pf27 (.t rfl) rfl (.t rfl) rfl hx9 rfl <| u (asg (.t rfl)) <| .nil _) rfl ?_
    refine be h fun x10 hx10 h => ?_
    refine .rg (u (mv (.t rfl)) <| u (fa ff29_2 (.t rfl)) <| u (ld tf27 (.t rfl) rfl rfl) <| ap 27 pf27 (.t rfl) rfl (.t rfl) hx10 rfl <| u (asg (.t rfl)) <| .nil _) rfl ?_
    exact .ks (fun i => bif Nat.beq i 3 then 27 else i) (J1 x10 h) (.c rfl (.c rfl .n)) (.c rfl (.c rfl .n)) rfl
  · refine .skp ?_
    exact .ks (fun i => bif Nat.beq i 3 then 7000 else i) (J1 x1 h) (.c rfl (.c rfl .n)) (.c rfl (.c rfl .n)) rfl

theorem ref06_Write_r {z : Option Nat} {p : Packet} {r : List Int} (h : ref06_Write z p = some r) :
    AC Try.prog 12 [.ro (enc_Packet p)] (.ro (.list 1 (List.map e8 r))) [] := AC.fz (ref06_Write_c h) rfl

theorem ref01_Get_c {z : Option Nat} {b : List Int} {at_ : Int} {n : Int} {r : Int × Int} (h : ref01_Get z b at_ n = some r) :
    AC Try.prog 48 [.ro (.list 1 (List.map e8 b)), .ro (.int .i64 at_), .ro (.int .i64 n)] (.ro (.tup [.int .u64 r.1, .int .i64 r.2])) [] := by
  refine AC.of Try.func48 rfl rfl fun w M0 hM => ?_
  unfold ref01_Get at h
  refine .sq ?_
  refine .rg (u (asg (.i rfl)) <| u (asg (.i rfl)) <| .nil _) rfl ?_
  refine .sq ?_
  refine .sq ?_
  refine .rg (u (mv (.t rfl)) <| u (bc (.t rfl) (.i rfl) rfl rfl) <| u (mv (.t rfl)) <| gd rfl rfl (fun hB => mv (.t rfl)) <| gd rfl rfl (fun hB => bc (.m rfl hB) (.i rfl) rfl rfl) <| u (pko (.t rfl) (.t rfl)) <| u (mv (.t rfl)) <| gd rfl rfl (fun hB => mv (.t rfl)) <| gd rfl rfl (fun hB => bc (.m rfl hB) (.i rfl) rfl rfl) <| u (pko (.t rfl) (.t rfl)) <| .nil _) rfl ?_
  refine .bq h (.t rfl) (fun h => ?_) (fun h => ?_)
  · refine .sq ?_
    refine .rg (u (asg (.i rfl)) <| u (asg (.i rfl)) <| .nil _) rfl ?_
    obtain rfl := Option.some.inj h
    exact .rt Try.func48 (.t rfl <| .t rfl <| .n) .n rfl rfl
  · refine .skp ?_
    refine .sq ?_
    refine .sq ?_
    refine .rg (u (mv (.t rfl)) <| u (mv (.t rfl)) <| u (lnm sf27 (.t rfl)) <| u (bc (.t rfl) (.t rfl) rfl rfl) <| u (mv (.t rfl)) <| gd rfl rfl (fun hB => mv (.t rfl)) <| gd rfl rfl (fun hB => lnm sf27 (.m rfl hB)) <| gd rfl rfl (fun hB => mv (.t rfl)) <| gd rfl rfl (fun hB => bi (.m rfl hB) (.m rfl hB) rfl) <| gd rfl rfl (fun hB => mv (.t rfl)) <| gd rfl rfl (fun hB => bc (.m rfl hB) (.m rfl hB) rfl rfl) <| u (pko (.t rfl) (.t rfl)) <| .nil _) rfl ?_
    refine .bq h (.t rfl) (fun h => ?_) (fun h => ?_)
    · refine .sq ?_
      refine .rg (u (asg (.i rfl)) <| u (asg (.i rfl)) <| .nil _) rfl ?_
      obtain rfl := Option.some.inj h
      exact .rt Try.func48 (.t rfl <| .t rfl <| .n) .n rfl rfl
    · refine .skp ?_
      refine .sq ?_
      refine .rg (u (asg (.i rfl)) <| .nil _) rfl ?_
      refine .sq ?_
      refine .sq ?_
      refine .rg (u (asg (.i rfl)) <| .nil _) rfl ?_
      refine .bl ?_
      unfold ref01_Get_l1 at h
      refine .kq (.lo (fun (s : Int × Int) => ⟨[(0, .ro (.list 1 (List.map e8 b))), (1, .ro (.int .i64 at_)), (2, .ro (.int .i64 n)), (8, .ro (.int .u64 s.1)), (9, .ro (.int .i64 s.2))], []⟩) h ?_) (.c rfl (.c rfl (.c rfl (.c rfl (.c rfl .n))))) .n
      rintro ⟨v1, v2⟩ u1 h ih1 hx1
      replace h : ref01_Get_s1 z b at_ n v1 v2 = _ := h
      unfold ref01_Get_s1 at h
      refine .sq ?_
      refine .sq ?_
      refine .rg (u (mv (.t rfl)) <| u (mv (.t rfl)) <| u (bc (.t rfl) (.t rfl) rfl rfl) <| .nil _) rfl ?_
      refine .bq h (.t rfl) (fun h => ?_) (fun h => ?_)
      · refine .skp ?_
        refine .sq ?_
        refine .bl ?_
        refine be h fun x3 hx3 h => ?_
        refine .rg (u (mv (.t rfl)) <| u (bi (.i rfl) (.t rfl) rfl) <| u (mv (.t rfl)) <| u (mv (.t rfl)) <| u (mv (.t rfl)) <| u (bi (.t rfl) (.t rfl) rfl) <| u (ia sf27 (.t rfl) (.t rfl) (ix_map e8 hx3)) <| u (lr tf5 (.t rfl) rfl) <| u (cv cv5_49 (.t rfl)) <| u (bi (.t rfl) (.t rfl) rfl) <| u (asg (.t rfl)) <| .nil _) rfl ?_
        refine .ib ?_
        refine .rg (u (mv (.t rfl)) <| u (bi (.t rfl) (.i rfl) rfl) <| u (asg (.t rfl)) <| .nil _) rfl ?_
        exact .kq (.il (ih1 ((ar .add .u64 (ar .mul .u64 256 v1) (IntKind.u64.wrap x3)), (ar .add .i64 v2 1)) (nxi h))) (.c rfl (.c rfl (.c rfl (.c rfl (.c rfl .n))))) .n
      · refine .xt rfl ?_
        replace h := mpR h hx1
        refine .sq ?_
        refine .rg (u (mv (.t rfl)) <| u (asg (.t rfl)) <| u (asg (.i rfl)) <| .nil _) rfl ?_
        obtain rfl := Option.some.inj h
        exact .rt Try.func48 (.t rfl <| .t rfl <| .n) .n rfl rfl

theorem ref05_Num_c {z : Option Nat} {b : List Int} {at_ : Int} {n : Int} {r : Int} (h : ref05_Num z b at_ n = some r) :
    AC Try.prog 30 [.ro (.list 1 (List.map e8 b)), .ro (.int .i64 at_), .ro (.int .i64 n)] (.ro (.int .u32 r)) [] := by
  refine AC.of Try.func30 rfl rfl fun w M0 hM => ?_
  unfold ref05_Num at h
  refine .sq ?_
  refine .rg (u (asg (.i rfl)) <| .nil _) rfl ?_
  refine .sq ?_
  refine be h fun x1 hx1 h => ?_
  refine .rg (u (mv (.t rfl)) <| u (mv (.t rfl)) <| u (mv (.t rfl)) <| cl [] cf48 (ref01_Get_c hx1) (.c (.t rfl) <| .c (.t rfl) <| .c (.t rfl) <| .n) (.inl rfl) <| u (mv (.t rfl)) <| u (ex (.t rfl) rfl rfl) <| u (ex (.t rfl) rfl rfl) <| u (asg (.t rfl)) <| u (asg (.t rfl)) <| .nil _) rfl ?_
  refine .sq ?_
  refine .rg (u (mv (.t rfl)) <| u (cv cv49_23 (.t rfl)) <| u (asg (.t rfl)) <| .nil _) rfl ?_
  obtain rfl := Option.some.inj h
  exact .rt Try.func30 (.t rfl <| .n) .n rfl rfl

theorem ref05_Read_c {z : Option Nat} {b : List Int} {r : Head × Int × Int} (h : ref05_Read z b = some r) :
    AC Try.prog 29 [.ro (.list 1 (List.map e8 b))] (.ro (.tup [enc_Head r.1, .int .i64 r.2.1, .int .i64 r.2.2])) [] := by
  refine AC.of Try.func29 rfl rfl fun w M0 hM => ?_
  unfold ref05_Read at h
  refine .sq ?_
  refine .rg (al 2 zf26 rfl <| u (asg (.i rfl)) <| u (asg (.i rfl)) <| .nil _) rfl ?_
  refine .sq ?_
  refine .sq ?_
  refine .rg (u (mv (.t rfl)) <| u (lnm sf27 (.t rfl)) <| u (bc (.t rfl) (.i rfl) rfl rfl) <| .nil _) rfl ?_
  refine .bq h (.t rfl) (fun h => ?_) (fun h => ?_)
  · refine .sq ?_
    refine .rg (u (bd bf26 zf26 (.n) rfl) <| st tf26 (.t rfl) rfl (.t rfl) rfl rfl rfl <| u (asg (.i rfl)) <| u (asg (.i rfl)) <| .nil _) rfl ?_
    obtain rfl := Option.some.inj h
    exact .rt Try.func29 (.c tf26 rfl rfl rfl <| .t rfl <| .t rfl <| .n) .n rfl rfl
  · refine .skp ?_
    refine .sq ?_
    refine .sq ?_
    refine be h fun x1 hx1 h => ?_
    refine .rg (u (mv (.t rfl)) <| u (ia sf27 (.t rfl) (.i rfl) (ix_map e8 hx1)) <| u (lr tf5 (.t rfl) rfl) <| u (di (.t rfl) (.i rfl) rfl (by decide)) <| u (bc (.t rfl) (.i rfl) rfl rfl) <| .nil _) rfl ?_
    refine .bq h (.t rfl) (fun h => ?_) (fun h => ?_)
    · refine .sq ?_
      refine .rg (u (bd bf26 zf26 (.n) rfl) <| st tf26 (.t rfl) rfl (.t rfl) rfl rfl rfl <| u (asg (.i rfl)) <| u (asg (.i rfl)) <| .nil _) rfl ?_
      obtain rfl := Option.some.inj h
      exact .rt Try.func29 (.c tf26 rfl rfl rfl <| .t rfl <| .t rfl <| .n) .n rfl rfl
    · refine .skp ?_
      refine .sq ?_
      refine be h fun x2 hx2 h => ?_
      refine .rg (u (mv (.t rfl)) <| u (ia sf27 (.t rfl) (.i rfl) (ix_map e8 hx2)) <| u (lr tf5 (.t rfl) rfl) <| u (di (.t rfl) (.i rfl) rfl (by decide)) <| u (cv cv5_3 (.t rfl)) <| u (asg (.t rfl)) <| .nil _) rfl ?_
      refine .sq ?_
      refine .sq ?_
      refine .rg (u (mv (.t rfl)) <| u (lnm sf27 (.t rfl)) <| u (mv (.t rfl)) <| u (bi (.i rfl) (.t rfl) rfl) <| u (bi (.i rfl) (.t rfl) rfl) <| u (bc (.t rfl) (.t rfl) rfl rfl) <| .nil _) rfl ?_
      refine .bq h (.t rfl) (fun h => ?_) (fun h => ?_)
      · refine .sq ?_
        refine .rg (u (bd bf26 zf26 (.n) rfl) <| st tf26 (.t rfl) rfl (.t rfl) rfl rfl rfl <| u (asg (.i rfl)) <| u (asg (.i rfl)) <| .nil _) rfl ?_
        obtain rfl := Option.some.inj h
        exact .rt Try.func29 (.c tf26 rfl rfl rfl <| .t rfl <| .t rfl <| .n) .n rfl rfl
      · refine .skp ?_
        refine .sq ?_
        refine be h fun x3 hx3 h => ?_
        refine be h fun x4 hx4 h => ?_
        refine .rd mixed (u (mv (.t rfl)) <| u (ia sf27 (.t rfl) (.i rfl) (ix_map e8 hx3)) <| u (lr tf5 (.t rfl) rfl) <| u (di (.t rfl) (.i rfl) rfl (by decide)) <| u (cv cv5_3 (.t rfl)) <| u (mv (.t rfl)) <| u (ia sf27 (.t rfl) (.i rfl) (ix_map e8 hx4)) <| u (lr tf5 (.t rfl) rfl) <| u (bc (.t rfl) (.i rfl) rfl rfl) <| u (bd bf26 zf26_7 (.c rfl (.t rfl) rfl rfl rfl <| .c rfl (.t rfl) rfl rfl rfl <| .n) rfl) <| al 6 zf26_7 rfl <| st tf26 (.t rfl) rfl (.t rfl) rfl rfl rfl <| .nil _) (by kernel_rfl) rfl ?_
        refine .th (F := (ei .u32)) 6 7 700607 23 1 rfl rfl rfl ?_
        refine .sq ?_
        refine be h fun x5 hx5 h => ?_
        refine .rg (u (mv (.t rfl)) <| u (ia sf27 (.t rfl) (.i rfl) (ix_map e8 hx5)) <| u (lr tf5 (.t rfl) rfl) <| u (di (.t rfl) (.i rfl) rfl (by decide)) <| u (di (.t rfl) (.i rfl) rfl (by decide)) <| u (bc (.t rfl) (.i rfl) rfl rfl) <| u (fa ff26_0 (.t rfl)) <| st tf4 (.t rfl) rfl (.t rfl) rfl rfl rfl <| .nil _) rfl ?_
        refine .sq ?_
        refine be h fun x6 hx6 h => ?_
        refine .rg (u (mv (.t rfl)) <| u (ia sf27 (.t rfl) (.i rfl) (ix_map e8 hx6)) <| u (lr tf5 (.t rfl) rfl) <| u (di (.t rfl) (.i rfl) rfl (by decide)) <| u (di (.t rfl) (.i rfl) rfl (by decide)) <| u (bc (.t rfl) (.i rfl) rfl rfl) <| u (fa ff26_1 (.t rfl)) <| st tf4 (.t rfl) rfl (.t rfl) rfl rfl rfl <| .nil _) rfl ?_
        refine .sq ?_
        refine be h fun x7 hx7 h => ?_
        refine .rg (u (mv (.t rfl)) <| cl [] cf30 (ref05_Num_c hx7) (.c (.t rfl) <| .c (.i rfl) <| .c (.i rfl) <| .n) (.inl rfl) <| u (cv cv23_22 (.t rfl)) <| u (fa ff26_4 (.t rfl)) <| st tf22 (.t rfl) rfl (.t rfl) rfl rfl rfl <| .nil _) rfl ?_
        refine .sq ?_
        refine be h fun x8 hx8 h => ?_
        refine .rg (u (mv (.t rfl)) <| cl [] cf30 (ref05_Num_c hx8) (.c (.t rfl) <| .c (.i rfl) <| .c (.i rfl) <| .n) (.inl rfl) <| u (fa ff26_5 (.t rfl)) <| st tf23 (.t rfl) rfl (.t rfl) rfl rfl rfl <| .nil _) rfl ?_
        refine .sq ?_
        refine be h fun x9 hx9 h => ?_
        refine .rg (u (mv (.t rfl)) <| cl [] cf30 (ref05_Num_c hx9) (.c (.t rfl) <| .c (.i rfl) <| .c (.i rfl) <| .n) (.inl rfl) <| u (fa ff26_6 (.t rfl)) <| st tf23 (.t rfl) rfl (.t rfl) rfl rfl rfl <| .nil _) rfl ?_
        refine .sq ?_
        refine .sq ?_
        refine .rg (u (asg (.i rfl)) <| .nil _) rfl ?_
        refine .bl ?_
        unfold ref05_Read_l1 at h
        refine .ks (fun i => bif Nat.beq i 10160007 then 700607 else i) (.lo (fun (s : Int × Head) => ⟨[(0, .ro (.list 1 (List.map e8 b))), (2, .ptr 2 0), (5, .ro (.int .i64 (IntKind.i64.wrap (dv .rem .u8 x2 16)))), (6, .ptr 6 0), (7, .ro (.int .i64 s.1))], [(2, some (.box [.ro (.bool false), .ro (.bool false), .ro (.bool false), .ro (.int .i64 0), .ro (.int .u16 0), .ro (.int .u32 0), .ro (.int .u32 0), .ro (.list 1 (List.map (ei .u32) []))])), (6, some (.box [.ro (.bool s.2.hasPad), .ro (.bool s.2.hasExt), .ro (.bool s.2.marker), .ro (.int .i64 s.2.type), .ro (.int .u16 s.2.seq), .ro (.int .u32 s.2.time), .ro (.int .u32 s.2.ssrc), .own 10160007])), (10160007, some (.arr 23 1 (List.map (ei .u32) s.2.csrc)))]⟩) h ?_) (.c rfl (.c rfl (.c rfl (.c rfl (.c rfl .n))))) (.c rfl (.c rfl (.c rfl .n))) rfl
        rintro ⟨v10, v11⟩ u1 h ih1 hx1
        replace h : ref05_Read_s1 z b x2 v10 v11 = _ := h
        unfold ref05_Read_s1 at h
        refine .sq ?_
        refine .sq ?_
        refine .rg (u (mv (.t rfl)) <| u (mv (.t rfl)) <| u (bc (.t rfl) (.t rfl) rfl rfl) <| .nil _) rfl ?_
        refine .bq h (.t rfl) (fun h => ?_) (fun h => ?_)
        · refine .skp ?_
          refine .sq ?_
          refine .bl ?_
          refine be h fun x12 hx12 h => ?_
          refine be h fun x13 hx13 h => ?_
          refine .rd mixed (u (fa ff26_7 (.t rfl)) <| u (ld tf24 (.t rfl) rfl rfl) <| u (mv (.t rfl)) <| u (mv (.t rfl)) <| u (bi (.i rfl) (.t rfl) rfl) <| u (bi (.i rfl) (.t rfl) rfl) <| cl [] cf30 (ref05_Num_c hx12) (.c (.t rfl) <| .c (.t rfl) <| .c (.i rfl) <| .n) (.inl rfl) <| bs (F := (ei .u32)) (l := [x12]) 76 pf24 (.c (.t rfl) rfl <| .n) rfl (fun _ _ => rfl) rfl rfl <| apo 77 pf24 (.t rfl) rfl (.t rfl) rfl hx13 rfl <| u (fa ff26_7 (.t rfl)) <| st tf24 (.t rfl) rfl (.t rfl) rfl rfl rfl <| .nil _) (by kernel_rfl) rfl ?_
          refine .ib ?_
          refine .rg (u (mv (.t rfl)) <| u (bi (.t rfl) (.i rfl) rfl) <| u (asg (.t rfl)) <| .nil _) rfl ?_
          exact .ks (fun i => bif Nat.beq i 10160007 then 77 else i) (.il (ih1 ((ar .add .i64 v10 1), { v11 with csrc := x13 }) (nxi h))) (.c rfl (.c rfl (.c rfl (.c rfl (.c rfl .n))))) (.c rfl (.c rfl (.c rfl .n))) rfl
        · refine .xt rfl ?_
          replace h := mpR h hx1
          refine .sq ?_
          refine .rg (u (ld tf26 (.t rfl) rfl rfl) <| u (mv (.t rfl)) <| u (bi (.i rfl) (.t rfl) rfl) <| u (bi (.i rfl) (.t rfl) rfl) <| st tf26 (.t rfl) rfl (.t rfl) rfl rfl rfl <| u (asg (.t rfl)) <| u (asg (.i rfl)) <| .nil _) rfl ?_
          refine .fz 10160007 rfl ?_
          obtain rfl := Option.some.inj h
          exact .rt Try.func29 (.c tf26 rfl rfl rfl <| .t rfl <| .t rfl <| .n) .n rfl rfl

theorem ref03_Trail_c {b : List Int} {r : Int} (h : ref03_Trail b = some r) :
    AC Try.prog 31 [.ro (.list 1 (List.map e8 b))] (.ro (.int .i64 r)) [] := by
  refine AC.of Try.func31 rfl rfl fun w M0 hM => ?_
  unfold ref03_Trail at h
  refine .sq ?_
  refine .rg (u (asg (.i rfl)) <| .nil _) rfl ?_
  refine .sq ?_
  refine .sq ?_
  refine .rg (u (mv (.t rfl)) <| u (lnm sf27 (.t rfl)) <| u (bc (.t rfl) (.i rfl) rfl rfl) <| .nil _) rfl ?_
  refine .bq h (.t rfl) (fun h => ?_) (fun h => ?_)
  · refine .sq ?_
    refine .rg (u (asg (.i rfl)) <| .nil _) rfl ?_
    obtain rfl := Option.some.inj h
    exact .rt Try.func31 (.t rfl <| .n) .n rfl rfl
  · refine .skp ?_
    refine .sq ?_
    refine be h fun x1 hx1 h => ?_
    refine .rg (u (mv (.t rfl)) <| u (mv (.t rfl)) <| u (lnm sf27 (.t rfl)) <| u (bi (.t rfl) (.i rfl) rfl) <| u (ia sf27 (.t rfl) (.t rfl) (ix_map e8 hx1)) <| u (lr tf5 (.t rfl) rfl) <| u (cv cv5_3 (.t rfl)) <| u (asg (.t rfl)) <| .nil _) rfl ?_
    refine .sq ?_
    refine .sq ?_
    refine .rg (u (mv (.t rfl)) <| u (mv (.t rfl)) <| u (lnm sf27 (.t rfl)) <| u (bc (.t rfl) (.t rfl) rfl rfl) <| .nil _) rfl ?_
    refine .bq h (.t rfl) (fun h => ?_) (fun h => ?_)
    · refine .sq ?_
      refine .rg (u (asg (.i rfl)) <| .nil _) rfl ?_
      obtain rfl := Option.some.inj h
      exact .rt Try.func31 (.t rfl <| .n) .n rfl rfl
    · refine .skp ?_
      refine .sq ?_
      refine .rg (u (mv (.t rfl)) <| u (asg (.t rfl)) <| .nil _) rfl ?_
      obtain rfl := Option.some.inj h
      exact .rt Try.func31 (.t rfl <| .n) .n rfl rfl

theorem ref06_Read_c {z : Option Nat} {b : List Int} {r : Packet × Int} (h : ref06_Read z b = some r) :
    AC Try.prog 14 [.ro (.list 1 (List.map e8 b))] (.ro (.tup [enc_Packet r.1, .int .i64 r.2])) [] := by
  refine AC.of Try.func14 rfl rfl fun w M0 hM => ?_
  unfold ref06_Read at h
  refine .sq ?_
  refine .rg (al 2 zf29 rfl <| u (asg (.i rfl)) <| .nil _) rfl ?_
  refine .sq ?_
  refine .sq ?_
  refine .rg (u (mv (.t rfl)) <| u (lnm sf27 (.t rfl)) <| u (bc (.t rfl) (.i rfl) rfl rfl) <| .nil _) rfl ?_
  refine .bq h (.t rfl) (fun h => ?_) (fun h => ?_)
  · refine .sq ?_
    refine .rg (u (bd bf29 zf29 (.n) rfl) <| st tf29 (.t rfl) rfl (.t rfl) rfl rfl rfl <| u (asg (.i rfl)) <| .nil _) rfl ?_
    obtain rfl := Option.some.inj h
    exact .rt Try.func14 (.c tf29 rfl rfl rfl <| .t rfl <| .n) .n rfl rfl
  · refine .skp ?_
    refine .sq ?_
    refine be h fun x1 hx1 h => ?_
    refine .rg (u (mv (.t rfl)) <| cl [] cf29 (ref05_Read_c hx1) (.c (.t rfl) <| .n) (.inl rfl) <| u (mv (.t rfl)) <| u (ex (.t rfl) rfl rfl) <| u (ex (.t rfl) rfl rfl) <| u (ex (.t rfl) rfl rfl) <| al 4 zf26 rfl <| st tf26 (.t rfl) rfl (.t rfl) rfl rfl rfl <| u (asg (.t rfl)) <| u (asg (.t rfl)) <| .nil _) rfl ?_
    refine .sq ?_
    refine .sq ?_
    refine .rg (u (mv (.t rfl)) <| u (bc (.t rfl) (.i rfl) rfl rfl) <| .nil _) rfl ?_
    refine .bq h (.t rfl) (fun h => ?_) (fun h => ?_)
    · refine .sq ?_
      refine .rg (u (bd bf29 zf29 (.n) rfl) <| u (mv (.t rfl)) <| st tf29 (.t rfl) rfl (.t rfl) rfl rfl rfl <| u (asg (.t rfl)) <| .nil _) rfl ?_
      obtain rfl := Option.some.inj h
      exact .rt Try.func14 (.c tf29 rfl rfl rfl <| .t rfl <| .n) .n rfl rfl
    · refine .skp ?_
      refine .sq ?_
      refine .rg (u (ld tf26 (.t rfl) rfl rfl) <| u (bd bf29 zf29 (.c rfl (.t rfl) rfl rfl rfl <| .n) rfl) <| al 7 zf29 rfl <| st tf29 (.t rfl) rfl (.t rfl) rfl rfl rfl <| .nil _) rfl ?_
      refine .sq ?_
      refine .sq ?_
      refine .rg (u (fa ff26_1 (.t rfl)) <| u (ld tf4 (.t rfl) rfl rfl) <| .nil _) rfl ?_
      refine .jq (t := some r) (fun (a : Int × Packet × Packet) => ⟨[(0, .ro (.list 1 (List.map e8 b))), (2, .ptr 2 0), (4, .ptr 4 0), (5, .ro (.int .i64 a.1)), (7, .ptr 7 0)], [(2, some (.box [.ro (.bool a.2.1.head.hasPad), .ro (.bool a.2.1.head.hasExt), .ro (.bool a.2.1.head.marker), .ro (.int .i64 a.2.1.head.type), .ro (.int .u16 a.2.1.head.seq), .ro (.int .u32 a.2.1.head.time), .ro (.int .u32 a.2.1.head.ssrc), .ro (.list 1 (List.map (ei .u32) a.2.1.head.csrc)), .ro (.int .u16 a.2.1.profile), .ro (.list 1 (List.map e8 a.2.1.ext)), .ro (.list 1 (List.map e8 a.2.1.payload)), .ro (.int .i64 a.2.1.pad)])), (4, some (.box [.ro (.bool x1.1.hasPad), .ro (.bool x1.1.hasExt), .ro (.bool x1.1.marker), .ro (.int .i64 x1.1.type), .ro (.int .u16 x1.1.seq), .ro (.int .u32 x1.1.time), .ro (.int .u32 x1.1.ssrc), .ro (.list 1 (List.map (ei .u32) x1.1.csrc))])), (7, some (.box [.ro (.bool a.2.2.head.hasPad), .ro (.bool a.2.2.head.hasExt), .ro (.bool a.2.2.head.marker), .ro (.int .i64 a.2.2.head.type), .ro (.int .u16 a.2.2.head.seq), .ro (.int .u32 a.2.2.head.time), .ro (.int .u32 a.2.2.head.ssrc), .ro (.list 1 (List.map (ei .u32) a.2.2.head.csrc)), .ro (.int .u16 a.2.2.profile), .ro (.list 1 (List.map e8 a.2.2.ext)), .ro (.list 1 (List.map e8 a.2.2.payload)), .ro (.int .i64 a.2.2.pad)]))]⟩) (fun (a : Int × Packet × Packet) => ref06_Read_j1 z b x1 a.1 a.2.1 a.2.2) ?_ (fun J1 => ?_)
      · rintro ⟨v2, v3, v4⟩ h
        replace h : ref06_Read_j1 z b x1 v2 v3 v4 = _ := h
        unfold ref06_Read_j1 at h
        refine .sq ?_
        refine .sq ?_
        refine .rg (u (fa ff26_0 (.t rfl)) <| u (ld tf4 (.t rfl) rfl rfl) <| .nil _) rfl ?_
        refine .jq (t := some r) (fun (a : Packet × Packet) => ⟨[(0, .ro (.list 1 (List.map e8 b))), (2, .ptr 2 0), (5, .ro (.int .i64 v2)), (7, .ptr 7 0)], [(2, some (.box [.ro (.bool a.1.head.hasPad), .ro (.bool a.1.head.hasExt), .ro (.bool a.1.head.marker), .ro (.int .i64 a.1.head.type), .ro (.int .u16 a.1.head.seq), .ro (.int .u32 a.1.head.time), .ro (.int .u32 a.1.head.ssrc), .ro (.list 1 (List.map (ei .u32) a.1.head.csrc)), .ro (.int .u16 a.1.profile), .ro (.list 1 (List.map e8 a.1.ext)), .ro (.list 1 (List.map e8 a.1.payload)), .ro (.int .i64 a.1.pad)])), (7, some (.box [.ro (.bool a.2.head.hasPad), .ro (.bool a.2.head.hasExt), .ro (.bool a.2.head.marker), .ro (.int .i64 a.2.head.type), .ro (.int .u16 a.2.head.seq), .ro (.int .u32 a.2.head.time), .ro (.int .u32 a.2.head.ssrc), .ro (.list 1 (List.map (ei .u32) a.2.head.csrc)), .ro (.int .u16 a.2.profile), .ro (.list 1 (List.map e8 a.2.ext)), .ro (.list 1 (List.map e8 a.2.payload)), .ro (.int .i64 a.2.pad)]))]⟩) (fun (a : Packet × Packet) => ref06_Read_j2 z b v2 a.1 a.2) ?_ (fun J2 => ?_)
        · rintro ⟨v5, v6⟩ h
          replace h : ref06_Read_j2 z b v2 v5 v6 = _ := h
          unfold ref06_Read_j2 at h
          refine .sq ?_
          refine be h fun x7 hx7 h => ?_
          refine be h fun x8 hx8 h => ?_
          refine .rg (bs (F := e8) (l := ([] : List Int)) 78 pf27 (.n) rfl (fun _ _ => rfl) rfl rfl <| u (mv (.t rfl)) <| u (mv (.t rfl)) <| u (mv (.t rfl)) <| u (lnm sf27 (.t rfl)) <| u (fa ff29_4 (.t rfl)) <| u (ld tf3 (.t rfl) rfl rfl) <| u (bi (.t rfl) (.t rfl) rfl) <| u (sl sf27 (.t rfl) (.s (.t rfl)) (.s (.t rfl)) hx7) <| ap 87 pf27 (.t rfl) rfl (.t rfl) hx8 rfl <| u (fa ff29_3 (.t rfl)) <| st tf27 (.t rfl) rfl (.t rfl) rfl rfl rfl <| .nil _) rfl ?_
          refine .sq ?_
          refine .rg (u (ld tf29 (.t rfl) rfl rfl) <| st tf29 (.t rfl) rfl (.t rfl) rfl rfl rfl <| u (asg (.i rfl)) <| .nil _) rfl ?_
          refine .fz 87 rfl ?_
          obtain rfl := Option.some.inj h
          exact .rt Try.func14 (.c tf29 rfl rfl rfl <| .t rfl <| .n) .n rfl rfl
        refine .bq h (.t rfl) (fun h => ?_) (fun h => ?_)
        · refine .sq ?_
          refine be h fun x9 hx9 h => ?_
          refine be h fun x10 hx10 h => ?_
          refine .rg (u (mv (.t rfl)) <| u (mv (.t rfl)) <| u (sl sf27 (.t rfl) (.s (.t rfl)) .n hx9) <| cl [] cf31 (ref03_Trail_c hx10) (.c (.t rfl) <| .n) (.inl rfl) <| u (fa ff29_4 (.t rfl)) <| st tf3 (.t rfl) rfl (.t rfl) rfl rfl rfl <| .nil _) rfl ?_
          refine .sq ?_
          refine .rg (u (fa ff29_4 (.t rfl)) <| u (ld tf3 (.t rfl) rfl rfl) <| u (bc (.t rfl) (.i rfl) rfl rfl) <| .nil _) rfl ?_
          refine .bq h (.t rfl) (fun h => ?_) (fun h => ?_)
          · refine .sq ?_
            refine .rg (u (bd bf29 zf29 (.n) rfl) <| st tf29 (.t rfl) rfl (.t rfl) rfl rfl rfl <| u (asg (.i rfl)) <| .nil _) rfl ?_
            obtain rfl := Option.some.inj h
            exact .rt Try.func14 (.c tf29 rfl rfl rfl <| .t rfl <| .n) .n rfl rfl
          · refine .skp ?_
            exact .kq (J2 (v3, { v4 with pad := x10 }) h) (.c rfl (.c rfl (.c rfl (.c rfl .n)))) (.c rfl (.c rfl .n))
        · refine .skp ?_
          exact .kq (J2 (v3, v4) h) (.c rfl (.c rfl (.c rfl (.c rfl .n)))) (.c rfl (.c rfl .n))
      refine .bq h (.t rfl) (fun h => ?_) (fun h => ?_)
      · refine .sq ?_
        refine .sq ?_
        refine .rg (u (mv (.t rfl)) <| u (lnm sf27 (.t rfl)) <| u (mv (.t rfl)) <| u (bi (.t rfl) (.t rfl) rfl) <| u (bc (.t rfl) (.i rfl) rfl rfl) <| .nil _) rfl ?_
        refine .bq h (.t rfl) (fun h => ?_) (fun h => ?_)
        · refine .sq ?_
          refine .rg (u (bd bf29 zf29 (.n) rfl) <| st tf29 (.t rfl) rfl (.t rfl) rfl rfl rfl <| u (asg (.i rfl)) <| .nil _) rfl ?_
          obtain rfl := Option.some.inj h
          exact .rt Try.func14 (.c tf29 rfl rfl rfl <| .t rfl <| .n) .n rfl rfl
        · refine .skp ?_
          refine .sq ?_
          refine be h fun x11 hx11 h => ?_
          refine .rg (u (mv (.t rfl)) <| u (mv (.t rfl)) <| u (bi (.t rfl) (.i rfl) rfl) <| cl [] cf30 (ref05_Num_c hx11) (.c (.t rfl) <| .c (.t rfl) <| .c (.i rfl) <| .n) (.inl rfl) <| u (cv cv23_3 (.t rfl)) <| u (bi (.i rfl) (.t rfl) rfl) <| u (asg (.t rfl)) <| .nil _) rfl ?_
          refine .sq ?_
          refine .sq ?_
          refine .rg (u (mv (.t rfl)) <| u (lnm sf27 (.t rfl)) <| u (mv (.t rfl)) <| u (bi (.t rfl) (.t rfl) rfl) <| u (bi (.t rfl) (.i rfl) rfl) <| u (mv (.t rfl)) <| u (bc (.t rfl) (.t rfl) rfl rfl) <| .nil _) rfl ?_
          refine .bq h (.t rfl) (fun h => ?_) (fun h => ?_)
          · refine .sq ?_
            refine .rg (u (bd bf29 zf29 (.n) rfl) <| st tf29 (.t rfl) rfl (.t rfl) rfl rfl rfl <| u (asg (.i rfl)) <| .nil _) rfl ?_
            obtain rfl := Option.some.inj h
            exact .rt Try.func14 (.c tf29 rfl rfl rfl <| .t rfl <| .n) .n rfl rfl
          · refine .skp ?_
            refine .sq ?_
            refine be h fun x12 hx12 h => ?_
            refine .rg (u (mv (.t rfl)) <| u (mv (.t rfl)) <| cl [] cf30 (ref05_Num_c hx12) (.c (.t rfl) <| .c (.t rfl) <| .c (.i rfl) <| .n) (.inl rfl) <| u (cv cv23_22 (.t rfl)) <| u (fa ff29_1 (.t rfl)) <| st tf22 (.t rfl) rfl (.t rfl) rfl rfl rfl <| .nil _) rfl ?_
            refine .sq ?_
            refine be h fun x13 hx13 h => ?_
            refine be h fun x14 hx14 h => ?_
            refine .rg (bs (F := e8) (l := ([] : List Int)) 52 pf27 (.n) rfl (fun _ _ => rfl) rfl rfl <| u (mv (.t rfl)) <| u (mv (.t rfl)) <| u (bi (.t rfl) (.i rfl) rfl) <| u (mv (.t rfl)) <| u (bi (.t rfl) (.i rfl) rfl) <| u (mv (.t rfl)) <| u (bi (.t rfl) (.t rfl) rfl) <| u (sl sf27 (.t rfl) (.s (.t rfl)) (.s (.t rfl)) hx13) <| ap 61 pf27 (.t rfl) rfl (.t rfl) hx14 rfl <| u (fa ff29_2 (.t rfl)) <| st tf27 (.t rfl) rfl (.t rfl) rfl rfl rfl <| .nil _) rfl ?_
            refine .rg (u (mv (.t rfl)) <| u (bi (.t rfl) (.i rfl) rfl) <| u (mv (.t rfl)) <| u (bi (.t rfl) (.t rfl) rfl) <| u (asg (.t rfl)) <| .nil _) rfl ?_
            refine .fz 61 rfl ?_
            exact .kq (J1 ((ar .add .i64 (ar .add .i64 x1.2.1 4) (ar .mul .i64 4 (IntKind.i64.wrap x11))), (Packet.mk (Head.mk false false false 0 0 0 0 []) 0 [] [] 0), (Packet.mk x1.1 (IntKind.u16.wrap x12) x14 [] 0)) h) (.c rfl (.c rfl (.c rfl (.c rfl (.c rfl .n))))) (.c rfl (.c rfl (.c rfl .n)))
      · refine .skp ?_
        exact .kq (J1 (x1.2.1, (Packet.mk (Head.mk false false false 0 0 0 0 []) 0 [] [] 0), (Packet.mk x1.1 0 [] [] 0)) h) (.c rfl (.c rfl (.c rfl (.c rfl (.c rfl .n))))) (.c rfl (.c rfl (.c rfl .n)))

theorem ref06_Canon_c {z : Option Nat} {b : List Int} {r : Bool} (h : ref06_Canon z b = some r) :
    AC Try.prog 18 [.ro (.list 1 (List.map e8 b))] (.ro (.bool r)) [] := by
  refine AC.of Try.func18 rfl rfl fun w M0 hM => ?_
  unfold ref06_Canon at h
  refine .sq ?_
  refine .rg (u (asg .b) <| .nil _) rfl ?_
  refine .sq ?_
  refine be h fun x1 hx1 h => ?_
  refine .rg (u (mv (.t rfl)) <| cl [] cf14 (ref06_Read_c hx1) (.c (.t rfl) <| .n) (.inl rfl) <| u (mv (.t rfl)) <| u (ex (.t rfl) rfl rfl) <| u (ex (.t rfl) rfl rfl) <| al 3 zf29 rfl <| st tf29 (.t rfl) rfl (.t rfl) rfl rfl rfl <| u (asg (.t rfl)) <| .nil _) rfl ?_
  refine .sq ?_
  refine be h fun x2 hx2 h => ?_
  refine .rd mixed (u (mv (.t rfl)) <| u (bc (.t rfl) (.i rfl) rfl rfl) <| u (mv (.t rfl)) <| gd rfl rfl (fun hB => ld tf29 (.t rfl) rfl rfl) <| cg rfl rfl cf12 (fun hB => (ref06_Write_r (gTt hx2 hB))) (fun hB => .c (.m rfl hB) <| .n) (.inl rfl) <| gd rfl rfl (fun hB => bt bt27_9 (.m rfl hB)) <| gd rfl rfl (fun hB => mv (.t rfl)) <| gd rfl rfl (fun hB => bt bt27_9 (.m rfl hB)) <| gd rfl rfl (fun hB => sq (.m rfl hB) (.m rfl hB) rfl rfl) <| u (pka (.t rfl) (.t rfl)) <| u (asg (.t rfl)) <| .nil _) (by kernel_rfl) rfl ?_
  obtain rfl := Option.some.inj h
  exact .rt Try.func18 (.t rfl <| .n) .n rfl rfl

theorem law06_PacketRight_c {z : Option Nat} {p : Packet} {room : Int} {b : List Int} {r : Bool} (h : law06_PacketRight z p room b = some r) :
    AC Try.prog 3 [.ro (enc_Packet p), .ro (.int .i64 room), .ro (.list 1 (List.map e8 b))] (.ro (.bool r)) [] := by
  refine AC.of Try.func3 rfl rfl fun w M0 hM => ?_
  unfold law06_PacketRight at h
  refine .sq ?_
  refine .rg (bx 3 (.t rfl) rfl rfl <| u (asg .b) <| .nil _) rfl ?_
  refine .sq ?_
  refine .sq ?_
  refine .rg (cl [] cf6 law06_awake_k (.n) (.inl rfl) <| u (no (.t rfl)) <| .nil _) rfl ?_
  refine .cf (.t rfl) rfl ?_
  refine .skp ?_
  refine .sq ?_
  refine .sq ?_
  refine .rg (u (ld tf29 (.t rfl) rfl rfl) <| cl [] cf7 (ref06_Short_c p) (.c (.t rfl) <| .n) (.inl rfl) <| u (no (.t rfl)) <| u (mv (.t rfl)) <| gd rfl rfl (fun hB => mv (.t rfl)) <| gd rfl rfl (fun hB => lnm sf27 (.m rfl hB)) <| gd rfl rfl (fun hB => bc (.m rfl hB) (.i rfl) rfl rfl) <| u (pko (.t rfl) (.t rfl)) <| .nil _) rfl ?_
  refine .bq h (.t rfl) (fun h => ?_) (fun h => ?_)
  · refine .sq ?_
    refine .rg (u (asg .b) <| .nil _) rfl ?_
    obtain rfl := Option.some.inj h
    exact .rt Try.func3 (.t rfl <| .n) .n rfl rfl
  · refine .skp ?_
    refine .sq ?_
    refine .rg (u (ld tf29 (.t rfl) rfl rfl) <| cl [] cf8 (ref06_Right_c p) (.c (.t rfl) <| .n) (.inl rfl) <| u (asg (.t rfl)) <| .nil _) rfl ?_
    refine .sq ?_
    refine be h fun x1 hx1 h => ?_
    refine .rg (u (ld tf29 (.t rfl) rfl rfl) <| u (mv (.t rfl)) <| cnf 30000 cf9 (packet_Write_c hx1) (.c (.t rfl) <| .c (.t rfl) <| .n) rfl rfl rfl <| u (mv (.t rfl)) <| u (ex (.t rfl) rfl rfl) <| u (ex (.t rfl) rfl rfl) <| u (asg (.t rfl)) <| u (asg (.t rfl)) <| .nil _) rfl ?_
    refine .sq ?_
    refine .bl ?_
    refine .sq ?_
    refine .rg (u (mv (.t rfl)) <| u (no (.t rfl)) <| u (asg (.t rfl)) <| .nil _) rfl ?_
    refine .jq (t := some r) (fun (a : Unit) => ⟨[(2, .ro (.list 1 (List.map e8 b))), (3, .ptr 3 0), (7, .ro (.bool (ref06_Right p)))], [(3, some (.box [.ro (.bool p.head.hasPad), .ro (.bool p.head.hasExt), .ro (.bool p.head.marker), .ro (.int .i64 p.head.type), .ro (.int .u16 p.head.seq), .ro (.int .u32 p.head.time), .ro (.int .u32 p.head.ssrc), .ro (.list 1 (List.map (ei .u32) p.head.csrc)), .ro (.int .u16 p.profile), .ro (.list 1 (List.map e8 p.ext)), .ro (.list 1 (List.map e8 p.payload)), .ro (.int .i64 p.pad)]))]⟩) (fun (a : Unit) => law06_PacketRight_j1 z p b) ?_ (fun J1 => ?_)
    · intro _ h
      replace h : law06_PacketRight_j1 z p b = _ := h
      unfold law06_PacketRight_j1 at h
      refine .ib ?_
      refine .sq ?_
      refine be h fun x2 hx2 h => ?_
      refine .rg (u (mv (.t rfl)) <| cl [] cf13 (packet_Read_c hx2) (.c (.t rfl) <| .n) (.inl rfl) <| u (mv (.t rfl)) <| u (ex (.t rfl) rfl rfl) <| u (ex (.t rfl) rfl rfl) <| al 10 zf29 rfl <| st tf29 (.t rfl) rfl (.t rfl) rfl rfl rfl <| u (asg (.t rfl)) <| .nil _) rfl ?_
      refine .sq ?_
      refine be h fun x3 hx3 h => ?_
      refine .rg (u (mv (.t rfl)) <| cl [] cf14 (ref06_Read_c hx3) (.c (.t rfl) <| .n) (.inl rfl) <| u (mv (.t rfl)) <| u (ex (.t rfl) rfl rfl) <| u (ex (.t rfl) rfl rfl) <| al 12 zf29 rfl <| st tf29 (.t rfl) rfl (.t rfl) rfl rfl rfl <| u (asg (.t rfl)) <| .nil _) rfl ?_
      refine .sq ?_
      refine be h fun x4 hx4 h => ?_
      refine be h fun x5 hx5 h => ?_
      refine be h fun x6 hx6 h => ?_
      refine .rg (u (ld tf29 (.t rfl) rfl rfl) <| cl [] cf15 (packet_Right_c p) (.c (.t rfl) <| .n) (.inl rfl) <| u (mv (.t rfl)) <| u (be2 ub4 (.t rfl) (.t rfl) rfl) <| u (mv (.t rfl)) <| gd rfl rfl (fun hB => mv (.t rfl)) <| gd rfl rfl (fun hB => mv (.t rfl)) <| gd rfl rfl (fun hB => bc (.m rfl hB) (.m rfl hB) rfl rfl) <| u (pka (.t rfl) (.t rfl)) <| u (mv (.t rfl)) <| gd rfl rfl (fun hB => ld tf29 (.t rfl) rfl rfl) <| gd rfl rfl (fun hB => ld tf29 (.t rfl) rfl rfl) <| cg rfl rfl cf16 (fun hB => (ref06_Same_c (gTt hx4 hB))) (fun hB => .c (.m rfl hB) <| .c (.m rfl hB) <| .n) (.inl rfl) <| u (pka (.t rfl) (.t rfl)) <| u (mv (.t rfl)) <| gd rfl rfl (fun hB => mv (.t rfl)) <| cg rfl rfl cf17 (fun hB => (packet_Canon_c (gTt hx5 hB))) (fun hB => .c (.m rfl hB) <| .n) (.inl rfl) <| gd rfl rfl (fun hB => mv (.t rfl)) <| cg rfl rfl cf18 (fun hB => (ref06_Canon_c (gTt hx6 hB))) (fun hB => .c (.m rfl hB) <| .n) (.inl rfl) <| gd rfl rfl (fun hB => be2 ub4 (.m rfl hB) (.m rfl hB) rfl) <| u (pka (.t rfl) (.t rfl)) <| u (asg (.t rfl)) <| .nil _) rfl ?_
      obtain rfl := Option.some.inj h
      exact .rt Try.func3 (.t rfl <| .n) .n rfl rfl
    refine .bq h (.t rfl) (fun h => ?_) (fun h => ?_)
    · refine .sq ?_
      refine .rg (u (mv (.t rfl)) <| u (bc (.t rfl) (.i rfl) rfl rfl) <| u (mv (.t rfl)) <| gd rfl rfl (fun hB => mv (.t rfl)) <| gd rfl rfl (fun hB => lom sf27 (.m rfl hB) rfl) <| gd rfl rfl (fun hB => bc (.m rfl hB) (.i rfl) rfl rfl) <| u (pko (.t rfl) (.t rfl)) <| u (mv (.t rfl)) <| gd rfl rfl (fun hB => ld tf29 (.t rfl) rfl rfl) <| cg rfl rfl cf10 (fun hB => (packet_Size_c p)) (fun hB => .c (.m rfl hB) <| .n) (.inl rfl) <| gd rfl rfl (fun hB => bc (.m rfl hB) (.i rfl) rfl rfl) <| u (pko (.t rfl) (.t rfl)) <| .nil _) rfl ?_
      refine .bq h (.t rfl) (fun h => ?_) (fun h => ?_)
      · refine .sq ?_
        refine .rg (u (asg .b) <| .nil _) rfl ?_
        obtain rfl := Option.some.inj h
        exact .rt Try.func3 (.t rfl <| .n) .n rfl rfl
      · refine .skp ?_
        exact .kq (J1 () h) (.c rfl (.c rfl (.c rfl .n))) (.c rfl .n)
    · refine .sq ?_
      refine .rg (u (ld tf29 (.t rfl) rfl rfl) <| cl [] cf11 (ref06_Size_c p) (.c (.t rfl) <| .n) (.inl rfl) <| u (mv (.t rfl)) <| u (bc (.t rfl) (.t rfl) rfl rfl) <| u (asg (.t rfl)) <| .nil _) rfl ?_
      refine .bq h (.t rfl) (fun h => ?_) (fun h => ?_)
      · refine .sq ?_
        refine .rd mixed (u (mv (.t rfl)) <| u (bc (.t rfl) (.i rfl) rfl rfl) <| u (mv (.t rfl)) <| gd rfl rfl (fun hB => mv (.t rfl)) <| gd rfl rfl (fun hB => lom sf27 (.m rfl hB) rfl) <| gd rfl rfl (fun hB => bc (.m rfl hB) (.i rfl) rfl rfl) <| u (pko (.t rfl) (.t rfl)) <| u (mv (.t rfl)) <| gd rfl rfl (fun hB => ld tf29 (.t rfl) rfl rfl) <| cg rfl rfl cf10 (fun hB => (packet_Size_c p)) (fun hB => .c (.m rfl hB) <| .n) (.inl rfl) <| gd rfl rfl (fun hB => ld tf29 (.t rfl) rfl rfl) <| cg rfl rfl cf11 (fun hB => (ref06_Size_c p)) (fun hB => .c (.m rfl hB) <| .n) (.inl rfl) <| gd rfl rfl (fun hB => bc (.m rfl hB) (.m rfl hB) rfl rfl) <| u (pko (.t rfl) (.t rfl)) <| .nil _) (by kernel_rfl) rfl ?_
        refine .bq h (.t rfl) (fun h => ?_) (fun h => ?_)
        · refine .sq ?_
          refine .rg (u (asg .b) <| .nil _) rfl ?_
          obtain rfl := Option.some.inj h
          exact .rt Try.func3 (.t rfl <| .n) .n rfl rfl
        · refine .skp ?_
          exact .kq (J1 () h) (.c rfl (.c rfl (.c rfl .n))) (.c rfl .n)
      · refine .sq ?_
        refine be h fun x7 hx7 h => ?_
        refine .rd mixed (u (mv (.t rfl)) <| u (bc (.t rfl) (.i rfl) rfl rfl) <| u (mv (.t rfl)) <| gd rfl rfl (fun hB => mv (.t rfl)) <| gd rfl rfl (fun hB => bto bt27_9 (.m rfl hB) rfl) <| gd rfl rfl (fun hB => ld tf29 (.t rfl) rfl rfl) <| cg rfl rfl cf12 (fun hB => (ref06_Write_r (gTt hx7 (nt hB)))) (fun hB => .c (.m rfl hB) <| .n) (.inl rfl) <| gd rfl rfl (fun hB => bt bt27_9 (.m rfl hB)) <| gd rfl rfl (fun hB => sq (.m rfl hB) (.m rfl hB) rfl rfl) <| u (pko (.t rfl) (.t rfl)) <| u (mv (.t rfl)) <| gd rfl rfl (fun hB => ld tf29 (.t rfl) rfl rfl) <| cg rfl rfl cf10 (fun hB => (packet_Size_c p)) (fun hB => .c (.m rfl hB) <| .n) (.inl rfl) <| gd rfl rfl (fun hB => mv (.t rfl)) <| gd rfl rfl (fun hB => lom sf27 (.m rfl hB) rfl) <| gd rfl rfl (fun hB => bc (.m rfl hB) (.m rfl hB) rfl rfl) <| u (pko (.t rfl) (.t rfl)) <| .nil _) (by kernel_rfl) rfl ?_
        refine .bq h (.t rfl) (fun h => ?_) (fun h => ?_)
        · refine .sq ?_
          refine .rg (u (asg .b) <| .nil _) rfl ?_
          obtain rfl := Option.some.inj h
          exact .rt Try.func3 (.t rfl <| .n) .n rfl rfl
        · refine .skp ?_
          exact .kq (J1 () h) (.c rfl (.c rfl (.c rfl .n))) (.c rfl .n)

theorem law06_PacketBack_c {z : Option Nat} {p : Packet} {b : List Int} {r : Bool} (h : law06_PacketBack z p b = some r) :
    AC Try.prog 4 [.ro (enc_Packet p), .ro (.list 1 (List.map e8 b))] (.ro (.bool r)) [] := by
  refine AC.of Try.func4 rfl rfl fun w M0 hM => ?_
  unfold law06_PacketBack at h
  refine .sq ?_
  refine .rg (bx 2 (.t rfl) rfl rfl <| u (asg .b) <| .nil _) rfl ?_
  refine .sq ?_
  refine .sq ?_
  refine .rg (cl [] cf6 law06_awake_k (.n) (.inl rfl) <| u (no (.t rfl)) <| .nil _) rfl ?_
  refine .cf (.t rfl) rfl ?_
  refine .skp ?_
  refine .sq ?_
  refine .sq ?_
  refine .rg (u (ld tf29 (.t rfl) rfl rfl) <| cl [] cf7 (ref06_Short_c p) (.c (.t rfl) <| .n) (.inl rfl) <| u (no (.t rfl)) <| u (mv (.t rfl)) <| gd rfl rfl (fun hB => mv (.t rfl)) <| gd rfl rfl (fun hB => lnm sf27 (.m rfl hB)) <| gd rfl rfl (fun hB => bc (.m rfl hB) (.i rfl) rfl rfl) <| u (pko (.t rfl) (.t rfl)) <| .nil _) rfl ?_
  refine .bq h (.t rfl) (fun h => ?_) (fun h => ?_)
  · refine .sq ?_
    refine .rg (u (asg .b) <| .nil _) rfl ?_
    obtain rfl := Option.some.inj h
    exact .rt Try.func4 (.t rfl <| .n) .n rfl rfl
  · refine .skp ?_
    refine .sq ?_
    refine be h fun x1 hx1 h => ?_
    refine .rg (u (ld tf29 (.t rfl) rfl rfl) <| cnf 28000 cf9 (packet_Write_c hx1) (.c (.t rfl) <| .c (.i rfl) <| .n) rfl rfl rfl <| u (mv (.t rfl)) <| u (ex (.t rfl) rfl rfl) <| u (ex (.t rfl) rfl rfl) <| u (asg (.t rfl)) <| u (asg (.t rfl)) <| .nil _) rfl ?_
    refine .sq ?_
    refine .sq ?_
    refine .rg (u (mv (.t rfl)) <| u (bc (.t rfl) (.i rfl) rfl rfl) <| .nil _) rfl ?_
    refine .jq (t := some r) (fun (a : Unit) => ⟨[(1, .ro (.list 1 (List.map e8 b)))], []⟩) (fun (a : Unit) => law06_PacketBack_j1 z b) ?_ (fun J1 => ?_)
    · intro _ h
      replace h : law06_PacketBack_j1 z b = _ := h
      unfold law06_PacketBack_j1 at h
      refine .sq ?_
      refine be h fun x2 hx2 h => ?_
      refine .rg (u (mv (.t rfl)) <| cl [] cf13 (packet_Read_c hx2) (.c (.t rfl) <| .n) (.inl rfl) <| u (mv (.t rfl)) <| u (ex (.t rfl) rfl rfl) <| u (ex (.t rfl) rfl rfl) <| al 9 zf29 rfl <| st tf29 (.t rfl) rfl (.t rfl) rfl rfl rfl <| u (asg (.t rfl)) <| .nil _) rfl ?_
      refine .sq ?_
      refine .sq ?_
      refine .rg (u (mv (.t rfl)) <| u (bc (.t rfl) (.i rfl) rfl rfl) <| .nil _) rfl ?_
      refine .bq h (.t rfl) (fun h => ?_) (fun h => ?_)
      · refine .sq ?_
        refine be h fun x3 hx3 h => ?_
        refine be h fun x4 hx4 h => ?_
        refine .rg (u (mv (.t rfl)) <| cl [] cf17 (packet_Canon_c hx3) (.c (.t rfl) <| .n) (.inl rfl) <| u (no (.t rfl)) <| u (mv (.t rfl)) <| gd rfl rfl (fun hB => ld tf29 (.t rfl) rfl rfl) <| gd rfl rfl (fun hB => bd bf29 zf29 (.n) rfl) <| cg rfl rfl cf16 (fun hB => (ref06_Same_c (gTt hx4 hB))) (fun hB => .c (.m rfl hB) <| .c (.m rfl hB) <| .n) (.inl rfl) <| u (pka (.t rfl) (.t rfl)) <| u (asg (.t rfl)) <| .nil _) rfl ?_
        obtain rfl := Option.some.inj h
        exact .rt Try.func4 (.t rfl <| .n) .n rfl rfl
      · refine .skp ?_
        refine .sq ?_
        refine be h fun x5 hx5 h => ?_
        refine .rg (u (ld tf29 (.t rfl) rfl rfl) <| u (mv (.t rfl)) <| u (lnm sf27 (.t rfl)) <| cnf 84000 cf9 (packet_Write_c hx5) (.c (.t rfl) <| .c (.t rfl) <| .n) rfl rfl rfl <| u (mv (.t rfl)) <| u (ex (.t rfl) rfl rfl) <| u (ex (.t rfl) rfl rfl) <| u (asg (.t rfl)) <| u (asg (.t rfl)) <| .nil _) rfl ?_
        refine .sq ?_
        refine .sq ?_
        refine be h fun x6 hx6 h => ?_
        refine .rd mixed (u (mv (.t rfl)) <| u (bc (.t rfl) (.i rfl) rfl rfl) <| u (mv (.t rfl)) <| gd rfl rfl (fun hB => ld tf29 (.t rfl) rfl rfl) <| cg rfl rfl cf15 (fun hB => (packet_Right_c x2.1)) (fun hB => .c (.m rfl hB) <| .n) (.inl rfl) <| gd rfl rfl (fun hB => no (.m rfl hB)) <| u (pko (.t rfl) (.t rfl)) <| u (mv (.t rfl)) <| gd rfl rfl (fun hB => mv (.t rfl)) <| gd rfl rfl (fun hB => lom sf27 (.m rfl hB) rfl) <| gd rfl rfl (fun hB => mv (.t rfl)) <| gd rfl rfl (fun hB => lnm sf27 (.m rfl hB)) <| gd rfl rfl (fun hB => bc (.m rfl hB) (.m rfl hB) rfl rfl) <| u (pko (.t rfl) (.t rfl)) <| u (mv (.t rfl)) <| gd rfl rfl (fun hB => mv (.t rfl)) <| cg rfl rfl cf17 (fun hB => (packet_Canon_c (gTt hx6 (nt hB)))) (fun hB => .c (.m rfl hB) <| .n) (.inl rfl) <| gd rfl rfl (fun hB => mv (.t rfl)) <| gd rfl rfl (fun hB => bto bt27_9 (.m rfl hB) rfl) <| gd rfl rfl (fun hB => mv (.t rfl)) <| gd rfl rfl (fun hB => bt bt27_9 (.m rfl hB)) <| gd rfl rfl (fun hB => sq (.m rfl hB) (.m rfl hB) rfl rfl) <| gd rfl rfl (fun hB => be2 ub4 (.m rfl hB) (.m rfl hB) rfl) <| u (pko (.t rfl) (.t rfl)) <| .nil _) (by kernel_rfl) rfl ?_
        refine .bq h (.t rfl) (fun h => ?_) (fun h => ?_)
        · refine .sq ?_
          refine .rg (u (asg .b) <| .nil _) rfl ?_
          obtain rfl := Option.some.inj h
          exact .rt Try.func4 (.t rfl <| .n) .n rfl rfl
        · refine .skp ?_
          refine .sq ?_
          refine .fz 84000 rfl ?_
          refine be h fun x7 hx7 h => ?_
          refine .rg (u (mv (.t rfl)) <| cl [] cf13 (packet_Read_c hx7) (.c (.t rfl) <| .n) (.inl rfl) <| u (mv (.t rfl)) <| u (ex (.t rfl) rfl rfl) <| u (ex (.t rfl) rfl rfl) <| al 13 zf29 rfl <| st tf29 (.t rfl) rfl (.t rfl) rfl rfl rfl <| u (asg (.t rfl)) <| .nil _) rfl ?_
          refine .sq ?_
          refine be h fun x8 hx8 h => ?_
          refine .rg (u (mv (.t rfl)) <| u (bc (.t rfl) (.i rfl) rfl rfl) <| u (mv (.t rfl)) <| gd rfl rfl (fun hB => ld tf29 (.t rfl) rfl rfl) <| gd rfl rfl (fun hB => ld tf29 (.t rfl) rfl rfl) <| cg rfl rfl cf16 (fun hB => (ref06_Same_c (gTt hx8 hB))) (fun hB => .c (.m rfl hB) <| .c (.m rfl hB) <| .n) (.inl rfl) <| u (pka (.t rfl) (.t rfl)) <| u (asg (.t rfl)) <| .nil _) rfl ?_
          obtain rfl := Option.some.inj h
          exact .rt Try.func4 (.t rfl <| .n) .n rfl rfl
    refine .bq h (.t rfl) (fun h => ?_) (fun h => ?_)
    · refine .sq ?_
      refine .fz 28000 rfl ?_
      refine be h fun x9 hx9 h => ?_
      refine .rg (u (mv (.t rfl)) <| cl [] cf13 (packet_Read_c hx9) (.c (.t rfl) <| .n) (.inl rfl) <| u (mv (.t rfl)) <| u (ex (.t rfl) rfl rfl) <| u (ex (.t rfl) rfl rfl) <| al 7 zf29 rfl <| st tf29 (.t rfl) rfl (.t rfl) rfl rfl rfl <| u (asg (.t rfl)) <| .nil _) rfl ?_
      refine .sq ?_
      refine be h fun x10 hx10 h => ?_
      refine be h fun x11 hx11 h => ?_
      refine .rg (u (mv (.t rfl)) <| u (bc (.t rfl) (.i rfl) rfl rfl) <| u (mv (.t rfl)) <| gd rfl rfl (fun hB => ld tf29 (.t rfl) rfl rfl) <| gd rfl rfl (fun hB => ld tf29 (.t rfl) rfl rfl) <| cg rfl rfl cf16 (fun hB => (ref06_Same_c (gTt hx10 (nt hB)))) (fun hB => .c (.m rfl hB) <| .c (.m rfl hB) <| .n) (.inl rfl) <| gd rfl rfl (fun hB => no (.m rfl hB)) <| u (pko (.t rfl) (.t rfl)) <| u (mv (.t rfl)) <| gd rfl rfl (fun hB => mv (.t rfl)) <| cg rfl rfl cf17 (fun hB => (packet_Canon_c (gTt hx11 (nt hB)))) (fun hB => .c (.m rfl hB) <| .n) (.inl rfl) <| gd rfl rfl (fun hB => no (.m rfl hB)) <| u (pko (.t rfl) (.t rfl)) <| u (mv (.t rfl)) <| gd rfl rfl (fun hB => mv (.t rfl)) <| gd rfl rfl (fun hB => lnm sf27 (.m rfl hB)) <| gd rfl rfl (fun hB => ld tf29 (.t rfl) rfl rfl) <| cg rfl rfl cf10 (fun hB => (packet_Size_c p)) (fun hB => .c (.m rfl hB) <| .n) (.inl rfl) <| gd rfl rfl (fun hB => bc (.m rfl hB) (.m rfl hB) rfl rfl) <| u (pko (.t rfl) (.t rfl)) <| u (mv (.t rfl)) <| gd rfl rfl (fun hB => mv (.t rfl)) <| gd rfl rfl (fun hB => lnm sf27 (.m rfl hB)) <| gd rfl rfl (fun hB => bc (.m rfl hB) (.i rfl) rfl rfl) <| u (pko (.t rfl) (.t rfl)) <| .nil _) rfl ?_
      refine .bq h (.t rfl) (fun h => ?_) (fun h => ?_)
      · refine .sq ?_
        refine .rg (u (asg .b) <| .nil _) rfl ?_
        obtain rfl := Option.some.inj h
        exact .rt Try.func4 (.t rfl <| .n) .n rfl rfl
      · refine .skp ?_
        exact .kq (J1 () h) (.c rfl .n) .n
    · refine .sq ?_
      refine .rg (u (ld tf29 (.t rfl) rfl rfl) <| cl [] cf15 (packet_Right_c p) (.c (.t rfl) <| .n) (.inl rfl) <| .nil _) rfl ?_
      refine .bq h (.t rfl) (fun h => ?_) (fun h => ?_)
      · refine .sq ?_
        refine .rg (u (asg .b) <| .nil _) rfl ?_
        obtain rfl := Option.some.inj h
        exact .rt Try.func4 (.t rfl <| .n) .n rfl rfl
      · refine .skp ?_
        exact .kq (J1 () h) (.c rfl .n) .n

theorem law06_PacketCut_c {z : Option Nat} {p : Packet} {cut : Int} {more : List Int} {r : Bool} (h : law06_PacketCut z p cut more = some r) :
    AC Try.prog 5 [.ro (enc_Packet p), .ro (.int .u16 cut), .ro (.list 1 (List.map e8 more))] (.ro (.bool r)) [] := by
  refine AC.of Try.func5 rfl rfl fun w M0 hM => ?_
  unfold law06_PacketCut at h
  refine .sq ?_
  refine .rg (bx 3 (.t rfl) rfl rfl <| u (asg .b) <| .nil _) rfl ?_
  refine .sq ?_
  refine .sq ?_
  refine .rg (cl [] cf6 law06_awake_k (.n) (.inl rfl) <| u (no (.t rfl)) <| .nil _) rfl ?_
  refine .cf (.t rfl) rfl ?_
  refine .skp ?_
  refine .sq ?_
  refine .sq ?_
  refine .rg (u (ld tf29 (.t rfl) rfl rfl) <| cl [] cf7 (ref06_Short_c p) (.c (.t rfl) <| .n) (.inl rfl) <| u (no (.t rfl)) <| u (mv (.t rfl)) <| gd rfl rfl (fun hB => mv (.t rfl)) <| gd rfl rfl (fun hB => lnm sf27 (.m rfl hB)) <| gd rfl rfl (fun hB => bc (.m rfl hB) (.i rfl) rfl rfl) <| u (pko (.t rfl) (.t rfl)) <| u (mv (.t rfl)) <| gd rfl rfl (fun hB => fa ff29_3 (.t rfl)) <| gd rfl rfl (fun hB => ld tf27 (.m rfl hB) rfl rfl) <| gd rfl rfl (fun hB => lnm sf27 (.m rfl hB)) <| gd rfl rfl (fun hB => bc (.m rfl hB) (.i rfl) rfl rfl) <| u (pko (.t rfl) (.t rfl)) <| u (mv (.t rfl)) <| gd rfl rfl (fun hB => fa ff29_2 (.t rfl)) <| gd rfl rfl (fun hB => ld tf27 (.m rfl hB) rfl rfl) <| gd rfl rfl (fun hB => lnm sf27 (.m rfl hB)) <| gd rfl rfl (fun hB => bc (.m rfl hB) (.i rfl) rfl rfl) <| u (pko (.t rfl) (.t rfl)) <| .nil _) rfl ?_
  refine .bq h (.t rfl) (fun h => ?_) (fun h => ?_)
  · refine .sq ?_
    refine .rg (u (asg .b) <| .nil _) rfl ?_
    obtain rfl := Option.some.inj h
    exact .rt Try.func5 (.t rfl <| .n) .n rfl rfl
  · refine .skp ?_
    refine .sq ?_
    refine be h fun x1 hx1 h => ?_
    refine .rg (u (ld tf29 (.t rfl) rfl rfl) <| cnf 39000 cf9 (packet_Write_c hx1) (.c (.t rfl) <| .c (.i rfl) <| .n) rfl rfl rfl <| u (mv (.t rfl)) <| u (ex (.t rfl) rfl rfl) <| u (ex (.t rfl) rfl rfl) <| u (asg (.t rfl)) <| u (asg (.t rfl)) <| .nil _) rfl ?_
    refine .sq ?_
    refine .sq ?_
    refine .rg (u (mv (.t rfl)) <| u (bc (.t rfl) (.i rfl) rfl rfl) <| u (mv (.t rfl)) <| gd rfl rfl (fun hB => mv (.t rfl)) <| gd rfl rfl (fun hB => lom sf27 (.m rfl hB) rfl) <| gd rfl rfl (fun hB => bc (.m rfl hB) (.i rfl) rfl rfl) <| u (pko (.t rfl) (.t rfl)) <| .nil _) rfl ?_
    refine .bq h (.t rfl) (fun h => ?_) (fun h => ?_)
    · refine .sq ?_
      refine .rg (u (mv (.t rfl)) <| u (bc (.t rfl) (.i rfl) rfl rfl) <| u (asg (.t rfl)) <| .nil _) rfl ?_
      obtain rfl := Option.some.inj h
      exact .rt Try.func5 (.t rfl <| .n) .n rfl rfl
    · refine .skp ?_
      refine .sq ?_
      refine be h fun x2 hx2 h => ?_
      refine .rg (u (mv (.t rfl)) <| u (cv cv22_3 (.t rfl)) <| u (mv (.t rfl)) <| u (lom sf27 (.t rfl) rfl) <| u (dio (.t rfl) (.t rfl) rfl hx2) <| u (asg (.t rfl)) <| .nil _) rfl ?_
      refine .sq ?_
      refine .fz 39000 rfl ?_
      refine be h fun x3 hx3 h => ?_
      refine be h fun x4 hx4 h => ?_
      refine .rg (u (mv (.t rfl)) <| u (mv (.t rfl)) <| u (sl sf27 (.t rfl) .n (.s (.t rfl)) hx3) <| cl [] cf13 (packet_Read_c hx4) (.c (.t rfl) <| .n) (.inl rfl) <| u (mv (.t rfl)) <| u (ex (.t rfl) rfl rfl) <| u (ex (.t rfl) rfl rfl) <| al 10 zf29 rfl <| st tf29 (.t rfl) rfl (.t rfl) rfl rfl rfl <| u (asg (.t rfl)) <| .nil _) rfl ?_
      refine .sq ?_
      refine .sq ?_
      refine be h fun x5 hx5 h => ?_
      refine .rg (u (mv (.t rfl)) <| u (bc (.t rfl) (.i rfl) rfl rfl) <| u (mv (.t rfl)) <| gd rfl rfl (fun hB => ld tf29 (.t rfl) rfl rfl) <| gd rfl rfl (fun hB => ld tf29 (.t rfl) rfl rfl) <| cg rfl rfl cf16 (fun hB => (ref06_Same_c (gTt hx5 hB))) (fun hB => .c (.m rfl hB) <| .c (.m rfl hB) <| .n) (.inl rfl) <| gd rfl rfl (fun hB => mv (.m rfl hB)) <| gm rfl rfl (fun hB => ld tf29 (.t rfl) rfl rfl) <| cgm rfl rfl cf10 (fun hB => (packet_Size_c x4.1)) (fun hB => .c (.m rfl hB) <| .n) (.inl rfl) <| gm rfl rfl (fun hB => mv (.t rfl)) <| gm rfl rfl (fun hB => bc (.m rfl hB) (.m rfl hB) rfl rfl) <| gd rfl rfl (fun hB => pkom (.m rfl hB) (.t rfl) hB) <| u (pka (.t rfl) (.t rfl)) <| u (mv (.t rfl)) <| gd rfl rfl (fun hB => mv (.t rfl)) <| gd rfl rfl (fun hB => bc (.m rfl hB) (.i rfl) rfl rfl) <| gd rfl rfl (fun hB => mv (.m rfl hB)) <| gm rfl rfl (fun hB => mv (.t rfl)) <| gm rfl rfl (fun hB => bc (.m rfl hB) (.i rfl) rfl rfl) <| gd rfl rfl (fun hB => pkam (.m rfl hB) (.t rfl) hB) <| gd rfl rfl (fun hB => mv (.m rfl hB)) <| gm rfl rfl (fun hB => mv (.t rfl)) <| gm rfl rfl (fun hB => bc (.m rfl hB) (.i rfl) rfl rfl) <| gd rfl rfl (fun hB => pkam (.m rfl hB) (.t rfl) hB) <| u (pko (.t rfl) (.t rfl)) <| .nil _) rfl ?_
      refine .bq h (.t rfl) (fun h => ?_) (fun h => ?_)
      · refine .sq ?_
        refine .rg (u (asg .b) <| .nil _) rfl ?_
        obtain rfl := Option.some.inj h
        exact .rt Try.func5 (.t rfl <| .n) .n rfl rfl
      · refine .skp ?_
        refine .sq ?_
        refine .sq ?_
        refine .rg (u (mv (.t rfl)) <| u (bc (.t rfl) (.i rfl) rfl rfl) <| u (mv (.t rfl)) <| gd rfl rfl (fun hB => mv (.t rfl)) <| gd rfl rfl (fun hB => bc (.m rfl hB) (.i rfl) rfl rfl) <| u (pka (.t rfl) (.t rfl)) <| .nil _) rfl ?_
        refine .bq h (.t rfl) (fun h => ?_) (fun h => ?_)
        · refine .sq ?_
          refine .rg (u (asg .b) <| .nil _) rfl ?_
          obtain rfl := Option.some.inj h
          exact .rt Try.func5 (.t rfl <| .n) .n rfl rfl
        · refine .skp ?_
          refine .sq ?_
          refine be h fun x6 hx6 h => ?_
          refine be h fun x7 hx7 h => ?_
          refine be h fun x8 hx8 h => ?_
          refine .rg (bs (F := e8) (l := ([] : List Int)) 94 pf27 (.n) rfl (fun _ _ => rfl) rfl rfl <| u (mv (.t rfl)) <| ap 96 pf27 (.t rfl) rfl (.t rfl) hx6 rfl <| u (mv (.t rfl)) <| ap 98 pf27 (.t rfl) rfl (.t rfl) hx7 rfl <| cl [98] cf13 (packet_Read_c hx8) (.b (.t rfl) rfl <| .n) (.inl rfl) <| u (mv (.t rfl)) <| u (ex (.t rfl) rfl rfl) <| u (ex (.t rfl) rfl rfl) <| al 12 zf29 rfl <| st tf29 (.t rfl) rfl (.t rfl) rfl rfl rfl <| u (asg (.t rfl)) <| .nil _) rfl ?_
          refine .sq ?_
          refine .sq ?_
          refine .rg (u (mv (.t rfl)) <| u (lnm sf27 (.t rfl)) <| u (bc (.t rfl) (.i rfl) rfl rfl) <| .nil _) rfl ?_
          refine .bq h (.t rfl) (fun h => ?_) (fun h => ?_)
          · refine .sq ?_
            refine be h fun x9 hx9 h => ?_
            refine .rg (u (mv (.t rfl)) <| u (bc (.t rfl) (.i rfl) rfl rfl) <| u (mv (.t rfl)) <| gd rfl rfl (fun hB => ld tf29 (.t rfl) rfl rfl) <| gd rfl rfl (fun hB => ld tf29 (.t rfl) rfl rfl) <| cg rfl rfl cf16 (fun hB => (ref06_Same_c (gTt hx9 hB))) (fun hB => .c (.m rfl hB) <| .c (.m rfl hB) <| .n) (.inl rfl) <| u (pka (.t rfl) (.t rfl)) <| u (asg (.t rfl)) <| .nil _) rfl ?_
            obtain rfl := Option.some.inj h
            exact .rt Try.func5 (.t rfl <| .n) .n rfl rfl
          · refine .skp ?_
            refine .sq ?_
            refine be h fun x10 hx10 h => ?_
            refine .rg (u (mv (.t rfl)) <| u (bc (.t rfl) (.i rfl) rfl rfl) <| u (mv (.t rfl)) <| gd rfl rfl (fun hB => ld tf29 (.t rfl) rfl rfl) <| gd rfl rfl (fun hB => ld tf29 (.t rfl) rfl rfl) <| cg rfl rfl cf16 (fun hB => (ref06_Same_c (gTt hx10 hB))) (fun hB => .c (.m rfl hB) <| .c (.m rfl hB) <| .n) (.inl rfl) <| gd rfl rfl (fun hB => no (.m rfl hB)) <| u (pka (.t rfl) (.t rfl)) <| u (mv (.t rfl)) <| gd rfl rfl (fun hB => mv (.t rfl)) <| gd rfl rfl (fun hB => bc (.m rfl hB) (.i rfl) rfl rfl) <| gd rfl rfl (fun hB => mv (.m rfl hB)) <| gm rfl rfl (fun hB => fa ff29_0 (.t rfl)) <| gm rfl rfl (fun hB => fa ff26_0 (.m rfl hB)) <| gm rfl rfl (fun hB => ld tf4 (.m rfl hB) rfl rfl) <| gd rfl rfl (fun hB => pkam (.m rfl hB) (.t rfl) hB) <| u (pko (.t rfl) (.t rfl)) <| u (asg (.t rfl)) <| .nil _) rfl ?_
            obtain rfl := Option.some.inj h
            exact .rt Try.func5 (.t rfl <| .n) .n rfl rfl

end Xb
