/- Own text: JWalks. -/
import Derived.Test.YtjfacnghojgkeaaJFacts
import Derived.Test.YtjfacnghojgkeaaJRaw
import Derived.Test.YtjfacnghojgkeaaJIter
set_option linter.all false
set_option linter.unusedVariables false
set_option linter.unusedSimpArgs false
set_option linter.unnecessarySimpa false
set_option linter.deprecated false
namespace Xb
open Go Go.Proofs
set_option linter.unusedVariables false
set_option maxRecDepth 20000

theorem arrive_fits_c (p_s : Seen) :
    AC Try.prog 34 [.ro (enc_Seen p_s)] (.ro (.bool (arrive_fits p_s))) [] := by
  obtain ⟨r, h⟩ : ∃ r, arrive_fits p_s = r := ⟨_, rfl⟩
  rw [h]
  refine AC.of Try.func34 rfl rfl fun w M0 hM => ?_
  unfold arrive_fits at h
  refine .sq ?_
  refine .rg (bx 1 (.t rfl) rfl rfl <| u (asg .b) <| .nil _) rfl ?_
  refine .sq ?_
  refine .sq ?_
  refine .rg (u (fa ff46_0 (.t rfl)) <| u (ld tf3 (.t rfl) rfl rfl) <| .nil _) rfl ?_
  refine .bl ?_
  refine .sq ?_
  refine .rg (u (bc (.t rfl) (.i rfl) rfl rfl) <| u (asg (.t rfl)) <| .nil _) rfl ?_
  refine .bq h (.t rfl) (fun h => ?_) (fun h => ?_)
  · refine .sq ?_
    refine .rg (u (fa ff46_1 (.t rfl)) <| u (ld tf3 (.t rfl) rfl rfl) <| u (bc (.t rfl) (.i rfl) rfl rfl) <| u (asg (.t rfl)) <| .nil _) rfl ?_
    subst h
    exact .rt Try.func34 (.t rfl <| .n) .n rfl rfl
  · refine .sq ?_
    refine .rg (u (bc (.t rfl) (.i rfl) rfl rfl) <| u (asg (.t rfl)) <| .nil _) rfl ?_
    refine .bq h (.t rfl) (fun h => ?_) (fun h => ?_)
    · refine .sq ?_
      refine .rg (u (fa ff46_1 (.t rfl)) <| u (ld tf3 (.t rfl) rfl rfl) <| u (bc (.t rfl) (.i rfl) rfl rfl) <| u (mv (.t rfl)) <| gd rfl rfl (fun hB => fa ff46_1 (.t rfl)) <| gd rfl rfl (fun hB => ld tf3 (.m rfl hB) rfl rfl) <| gd rfl rfl (fun hB => bc (.m rfl hB) (.i rfl) rfl rfl) <| u (pka (.t rfl) (.t rfl)) <| u (asg (.t rfl)) <| .nil _) rfl ?_
      subst h
      exact .rt Try.func34 (.t rfl <| .n) .n rfl rfl
    · refine .sq ?_
      refine .rg (u (bc (.t rfl) (.i rfl) rfl rfl) <| u (asg (.t rfl)) <| .nil _) rfl ?_
      refine .bq h (.t rfl) (fun h => ?_) (fun h => ?_)
      · refine .sq ?_
        refine .rg (u (fa ff46_1 (.t rfl)) <| u (ld tf3 (.t rfl) rfl rfl) <| u (bc (.t rfl) (.i rfl) rfl rfl) <| u (mv (.t rfl)) <| gd rfl rfl (fun hB => fa ff46_1 (.t rfl)) <| gd rfl rfl (fun hB => ld tf3 (.m rfl hB) rfl rfl) <| gd rfl rfl (fun hB => bc (.m rfl hB) (.i rfl) rfl rfl) <| u (pka (.t rfl) (.t rfl)) <| u (asg (.t rfl)) <| .nil _) rfl ?_
        subst h
        exact .rt Try.func34 (.t rfl <| .n) .n rfl rfl
      · refine .skp ?_
        refine .ib ?_
        refine .sq ?_
        refine .rg (u (asg .b) <| .nil _) rfl ?_
        subst h
        exact .rt Try.func34 (.t rfl <| .n) .n rfl rfl

theorem arrive_Right_1_c (p_s : Seen) :
    AC Try.prog 33 [.ro (enc_Seen p_s)] (.ro (.bool (arrive_Right_1 p_s))) [] := by
  obtain ⟨r, h⟩ : ∃ r, arrive_Right_1 p_s = r := ⟨_, rfl⟩
  rw [h]
  refine AC.of Try.func33 rfl rfl fun w M0 hM => ?_
  unfold arrive_Right_1 at h
  refine .sq ?_
  refine .rg (bx 1 (.t rfl) rfl rfl <| u (asg .b) <| .nil _) rfl ?_
  refine .sq ?_
  refine .rg (u (ld tf46 (.t rfl) rfl rfl) <| cl [] cf34 (arrive_fits_c p_s) (.c (.t rfl) <| .n) (.inl rfl) <| u (no (.t rfl)) <| u (asg (.t rfl)) <| .nil _) rfl ?_
  subst h
  exact .rt Try.func33 (.t rfl <| .n) .n rfl rfl

theorem slices_IndexFunc_Seen_c {z : Option Nat} {p_s : List Seen} {f : (Seen → Option Bool)} {g_f : FuncId} {c_f : List V} (hF_f : CF Try.prog g_f) (h_f : ∀ (a0 : Seen) (q : Bool), f a0 = some q → AC Try.prog g_f ([.ro (enc_Seen a0)] ++ c_f) (.ro (.bool q)) []) {r : Int} (h : slices_IndexFunc_Seen z p_s f = some r) :
    AC Try.prog 54 [.ro (.list 2 (List.map cells_Seen p_s)), .fn (.func g_f) [] c_f] (.ro (.int .i64 r)) [] := by
  refine AC.of Try.func54 rfl rfl fun w M0 hM => ?_
  unfold slices_IndexFunc_Seen at h
  refine .sq ?_
  refine .rg (u (asg (.i rfl)) <| .nil _) rfl ?_
  refine .sq ?_
  refine .sq ?_
  refine .rg (u (mv (.t rfl)) <| u (lnm sf23 (.t rfl)) <| u (mv (.i rfl)) <| .nil _) rfl ?_
  refine .bl ?_
  unfold slices_IndexFunc_Seen_l1 at h
  refine .kq (.lo (fun (s : Int) => ⟨[(0, .ro (.list 2 (List.map cells_Seen p_s))), (1, .fn (.func g_f) [] c_f), (7, .ro (.int .i64 (p_s.length : Int))), (8, .ro (.int .i64 s))], []⟩) h ?_) (.c rfl (.c rfl (.c rfl (.c rfl .n)))) .n
  intro v1 u1 h ih1 hx1
  replace h : slices_IndexFunc_Seen_s1 z p_s f v1 = _ := h
  unfold slices_IndexFunc_Seen_s1 at h
  refine .sq ?_
  refine .rg (u (bc (.t rfl) (.t rfl) rfl rfl) <| .nil _) rfl ?_
  refine .sq ?_
  refine .bq h (.t rfl) (fun h => ?_) (fun h => ?_)
  · refine .skp ?_
    refine .sq ?_
    refine .bl ?_
    refine .sq ?_
    refine .rg (u (mv (.t rfl)) <| u (asg (.t rfl)) <| .nil _) rfl ?_
    refine .sq ?_
    refine be h fun x2 hx2 h => ?_
    refine be h fun x3 hx3 h => ?_
    refine .rg (u (mv (.t rfl)) <| u (mv (.t rfl)) <| u (mv (.t rfl)) <| u (ia sf23 (.t rfl) (.t rfl) (ix_map cells_Seen hx2)) <| u (lr tf46 (.t rfl) rfl) <| clv [] hF_f (.t rfl) (h_f _ _ hx3) (.c (.t rfl) <| .n) (.inl rfl) <| .nil _) rfl ?_
    refine .bq h (.t rfl) (fun h => ?_) (fun h => ?_)
    · refine .sq ?_
      refine .rg (u (mv (.t rfl)) <| u (asg (.t rfl)) <| .nil _) rfl ?_
      replace h := mpR h hx1
      obtain rfl := Option.some.inj h
      exact .rt Try.func54 (.t rfl <| .n) .n rfl rfl
    · refine .skp ?_
      refine .ib ?_
      refine .rg (u (bi (.t rfl) (.i rfl) rfl) <| u (mv (.t rfl)) <| .nil _) rfl ?_
      exact .kq (.il (ih1 (ar .add .i64 v1 1) (nxi h))) (.c rfl (.c rfl (.c rfl (.c rfl .n)))) .n
  · refine .xt rfl ?_
    replace h := mpR h hx1
    refine .sq ?_
    refine .rg (u (asg (.i rfl)) <| .nil _) rfl ?_
    obtain rfl := Option.some.inj h
    exact .rt Try.func54 (.t rfl <| .n) .n rfl rfl

theorem slices_ContainsFunc_Seen_c {z : Option Nat} {p_s : List Seen} {f : (Seen → Option Bool)} {g_f : FuncId} {c_f : List V} (hF_f : CF Try.prog g_f) (h_f : ∀ (a0 : Seen) (q : Bool), f a0 = some q → AC Try.prog g_f ([.ro (enc_Seen a0)] ++ c_f) (.ro (.bool q)) []) {r : Bool} (h : slices_ContainsFunc_Seen z p_s f = some r) :
    AC Try.prog 35 [.ro (.list 2 (List.map cells_Seen p_s)), .fn (.func g_f) [] c_f] (.ro (.bool r)) [] := by
  refine AC.of Try.func35 rfl rfl fun w M0 hM => ?_
  unfold slices_ContainsFunc_Seen at h
  refine .sq ?_
  refine .rg (u (asg .b) <| .nil _) rfl ?_
  refine .sq ?_
  refine be h fun x1 hx1 h => ?_
  refine .rg (u (mv (.t rfl)) <| u (mv (.t rfl)) <| cl [] cf54 (slices_IndexFunc_Seen_c hF_f h_f hx1) (.c (.t rfl) <| .c (.t rfl) <| .n) (.inl rfl) <| u (bc (.t rfl) (.i rfl) rfl rfl) <| u (asg (.t rfl)) <| .nil _) rfl ?_
  obtain rfl := Option.some.inj h
  exact .rt Try.func35 (.t rfl <| .n) .n rfl rfl

theorem arrive_Right_c {z : Option Nat} {p_a : Arrive} {r : Bool} (h : arrive_Right z p_a = some r) :
    AC Try.prog 14 [.ro (enc_Arrive p_a)] (.ro (.bool r)) [] := by
  refine AC.of Try.func14 rfl rfl fun w M0 hM => ?_
  unfold arrive_Right at h
  refine .sq ?_
  refine .rg (bx 1 (.t rfl) rfl rfl <| u (asg .b) <| .nil _) rfl ?_
  refine .sq ?_
  refine .rg (u (asg .f) <| .nil _) rfl ?_
  refine .sq ?_
  refine be h fun x1 hx1 h => ?_
  refine .rg (u (fa ff25_1 (.t rfl)) <| u (ld tf3 (.t rfl) rfl rfl) <| u (bc (.t rfl) (.i rfl) rfl rfl) <| u (mv (.t rfl)) <| gd rfl rfl (fun hB => fa ff25_1 (.t rfl)) <| gd rfl rfl (fun hB => ld tf3 (.m rfl hB) rfl rfl) <| gd rfl rfl (fun hB => bc (.m rfl hB) (.i rfl) rfl rfl) <| u (pka (.t rfl) (.t rfl)) <| u (mv (.t rfl)) <| gd rfl rfl (fun hB => fa ff25_3 (.t rfl)) <| gd rfl rfl (fun hB => ld tf23 (.m rfl hB) rfl rfl) <| gd rfl rfl (fun hB => lnm sf23 (.m rfl hB)) <| gd rfl rfl (fun hB => bc (.m rfl hB) (.i rfl) rfl rfl) <| u (pka (.t rfl) (.t rfl)) <| u (mv (.t rfl)) <| gd rfl rfl (fun hB => fa ff25_3 (.t rfl)) <| gd rfl rfl (fun hB => ld tf23 (.m rfl hB) rfl rfl) <| gd rfl rfl (fun hB => mv (.t rfl)) <| cg rfl rfl cf35 (fun hB => (slices_ContainsFunc_Seen_c cf33 (fun y0 q h => by obtain rfl := Option.some.inj h; exact arrive_Right_1_c y0) (gTt hx1 hB))) (fun hB => .c (.m rfl hB) <| .c (.m rfl hB) <| .n) (.inl rfl) <| gd rfl rfl (fun hB => no (.m rfl hB)) <| u (pka (.t rfl) (.t rfl)) <| u (asg (.t rfl)) <| .nil _) rfl ?_
  obtain rfl := Option.some.inj h
  exact .rt Try.func14 (.t rfl <| .n) .n rfl rfl

theorem octet_sized_c (n : Int) :
    AC Try.prog 38 [.ro (.int .i64 n)] (.ro (.bool (octet_sized n))) [] := by
  obtain ⟨r, h⟩ : ∃ r, octet_sized n = r := ⟨_, rfl⟩
  rw [h]
  refine AC.of Try.func38 rfl rfl fun w M0 hM => ?_
  unfold octet_sized at h
  refine .sq ?_
  refine .rg (u (asg .b) <| .nil _) rfl ?_
  refine .sq ?_
  refine .rg (u (mv (.t rfl)) <| u (bc (.t rfl) (.i rfl) rfl rfl) <| u (mv (.t rfl)) <| gd rfl rfl (fun hB => mv (.t rfl)) <| gd rfl rfl (fun hB => bc (.m rfl hB) (.i rfl) rfl rfl) <| u (pka (.t rfl) (.t rfl)) <| u (asg (.t rfl)) <| .nil _) rfl ?_
  subst h
  exact .rt Try.func38 (.t rfl <| .n) .n rfl rfl

theorem octet_Put_c {v : Int} {n : Int} {r : List Int × Int} (h : octet_Put v n = some r) :
    AC Try.prog 18 [.ro (.int .u64 v), .ro (.int .i64 n)] (.tup [.own 0, .ro (.int .i64 r.2)]) [(0, .arr 5 1 (List.map e8 r.1))] := by
  refine AC.of Try.func18 rfl rfl fun w M0 hM => ?_
  unfold octet_Put at h
  refine .sq ?_
  refine .rg (bx 2 (.t rfl) rfl rfl <| anm e8 4 5 1 rfl rfl <| u (asg (.i rfl)) <| .nil _) rfl ?_
  refine .sq ?_
  refine .bl ?_
  refine .sq ?_
  refine .rg (u (mv (.t rfl)) <| cl [] cf38 (octet_sized_c n) (.c (.t rfl) <| .n) (.inl rfl) <| u (no (.t rfl)) <| u (asg (.t rfl)) <| .nil _) rfl ?_
  refine .bq h (.t rfl) (fun h => ?_) (fun h => ?_)
  · refine .sq ?_
    refine .rg (anm e8 100004 5 1 rfl rfl <| u (asg (.i rfl)) <| .nil _) rfl ?_
    obtain rfl := Option.some.inj h
    refine .ks (l := [(4, .own 0), (5, .ro (.int .i64 1))]) (o := [(0, some (.arr 5 1 (List.map e8 [])))]) (fun i => bif Nat.beq i 0 then 100004 else i) ?_ (.c rfl (.c rfl .n)) (.c rfl .n) rfl
    exact .rt Try.func18 (.t rfl <| .t rfl <| .n) (.c rfl .n) rfl rfl
  · refine .sq ?_
    refine be h fun x1 hx1 h => ?_
    refine .rg (u (mv (.t rfl)) <| u (bc (.t rfl) (.i rfl) rfl rfl) <| u (mv (.t rfl)) <| gd rfl rfl (fun hB => ld tf49 (.t rfl) rfl rfl) <| gd rfl rfl (fun hB => mv (.t rfl)) <| gd rfl rfl (fun hB => bi (.i rfl) (.m rfl hB) rfl) <| gd rfl rfl (fun hB => sho (.m rfl hB) (.m rfl hB) rfl (gTt hx1 hB)) <| gd rfl rfl (fun hB => bc (.m rfl hB) (.i rfl) rfl rfl) <| u (pka (.t rfl) (.t rfl)) <| u (asg (.t rfl)) <| .nil _) rfl ?_
    refine .bq h (.t rfl) (fun h => ?_) (fun h => ?_)
    · refine .sq ?_
      refine .rg (anm e8 100004 5 1 rfl rfl <| u (asg (.i rfl)) <| .nil _) rfl ?_
      obtain rfl := Option.some.inj h
      refine .ks (l := [(4, .own 0), (5, .ro (.int .i64 6))]) (o := [(0, some (.arr 5 1 (List.map e8 [])))]) (fun i => bif Nat.beq i 0 then 100004 else i) ?_ (.c rfl (.c rfl .n)) (.c rfl .n) rfl
      exact .rt Try.func18 (.t rfl <| .t rfl <| .n) (.c rfl .n) rfl rfl
    · refine .skp ?_
      refine .ib ?_
      refine .sq ?_
      refine be h fun x2 hx2 h => ?_
      refine .rg (u (mv (.t rfl)) <| mks (F := e8) (z0 := 0) 23 pf26 zf5 (.t rfl) (.t rfl) hx2 rfl <| al 6 zf26_0 rfl <| st tf26 (.t rfl) rfl (.t rfl) rfl rfl rfl <| .nil _) rfl ?_
      refine .sq ?_
      refine .sq ?_
      refine .rg (u (ld tf26 (.t rfl) rfl rfl) <| bwk 25 cf39 back39_in (.t rfl) rfl rfl rfl <| .nil _) rfl ?_
      refine .bl ?_
      refine be h fun x3 hx3 h => ?_
      unfold octet_Put_l1 at h
      refine .kq (.rgb (fun (s : Int × List Int) => ⟨[(2, .ptr 2 0), (6, .ptr 6 0), (25, .fn (.func 56) [] [.ptr 25 0])], [(2, some (.box [.ro (.int .u64 s.1)])), (6, some (.box [.own 23])), (23, some (.arr 5 1 (List.map e8 s.2))), (25, some (.box [.own 23]))]⟩) (fun (s : Int × List Int) => s.2) [2, 6, 25] back56_in cf56 h rfl (Nat.le_trans (lnO_le hx3) (by decide)) (by rintro y1 ⟨v4, v5⟩ s2 h; replace h : octet_Put_s1 y1 v4 v5 = _ := h; unfold octet_Put_s1 at h; refine be h fun _ _ h => ?_; cases h; simp) (fun _ => rfl) (fun _ => rfl) (fun _ => rfl) (fun _ => rfl) rfl ⟨rfl, rfl⟩ ?_ ?_) (.c rfl (.c rfl (.c rfl .n))) (.c rfl (.c rfl (.c rfl (.c rfl .n))))
      · rintro D1 l1 r1 pv1 R1 y1 ⟨v4, v5⟩ u1 h hin ih1 hx1 jr1 jx1 bg1
        replace h : octet_Put_s1 y1 v4 v5 = _ := h
        unfold octet_Put_s1 at h
        refine .rg (u (asg (.t rfl)) <| .nil _) rfl ?_
        refine bg1 _ _ ?_
        refine .bl ?_
        refine .sq ?_
        refine be h fun x6 hx6 h => ?_
        refine .rg (u (ld tf26 (.t rfl) rfl rfl) <| u (mv (.t rfl)) <| u (ld tf49 (.t rfl) rfl rfl) <| u (cv cv49_5 (.t rfl)) <| u (io sf26 (.t rfl) rfl (.t rfl) (ix_map e8 hx6)) <| se (q := (IntKind.u8.wrap v4)) tf5 (.t rfl) rfl (.t rfl) rfl rfl rfl (ixn hx6) <| .nil _) rfl ?_
        refine .rg (u (ld tf49 (.t rfl) rfl rfl) <| u (sh (.t rfl) (.i rfl) rfl (by decide)) <| st tf49 (.t rfl) rfl (.t rfl) rfl rfl rfl <| .nil _) rfl ?_
        refine .ib ?_
        exact .kq (ih1 ((sf .shr .u64 v4 8), (List.set v5 ((y1 : Int) : Int).toNat (IntKind.u8.wrap v4))) (nxi h)) (.c rfl (.c rfl (.c rfl .n))) (.c rfl (.c rfl (.c rfl (.c rfl .n))))
      · rintro D1 ⟨v4, v5⟩ h
        replace h : octet_Put_d1 v4 v5 = _ := h
        unfold octet_Put_d1 at h
        refine .ib ?_
        refine .sq ?_
        refine .rg (u (ld tf26 (.t rfl) rfl rfl) <| u (asg (.t rfl)) <| u (asg (.i rfl)) <| .nil _) rfl ?_
        obtain rfl := Option.some.inj h
        refine .ks (l := [(4, .own 0), (5, .ro (.int .i64 0))]) (o := [(0, some (.arr 5 1 (List.map e8 v5)))]) (fun i => bif Nat.beq i 0 then 23 else i) ?_ (.c rfl (.c rfl .n)) (.c rfl .n) rfl
        exact .rt Try.func18 (.t rfl <| .t rfl <| .n) (.c rfl .n) rfl rfl

theorem octet_Put_r {v : Int} {n : Int} {r : List Int × Int} (h : octet_Put v n = some r) :
    AC Try.prog 18 [.ro (.int .u64 v), .ro (.int .i64 n)] (.ro (.tup [.list 1 (List.map e8 r.1), .int .i64 r.2])) [] := AC.fz (octet_Put_c h) rfl

theorem octet_PutSigned_c {v : Int} {n : Int} {r : List Int × Int} (h : octet_PutSigned v n = some r) :
    AC Try.prog 19 [.ro (.int .i64 v), .ro (.int .i64 n)] (.tup [.own 0, .ro (.int .i64 r.2)]) [(0, .arr 5 1 (List.map e8 r.1))] := by
  refine AC.of Try.func19 rfl rfl fun w M0 hM => ?_
  unfold octet_PutSigned at h
  refine .sq ?_
  refine .rg (anm e8 4 5 1 rfl rfl <| u (asg (.i rfl)) <| .nil _) rfl ?_
  refine .sq ?_
  refine .sq ?_
  refine .rg (u (mv (.t rfl)) <| cl [] cf38 (octet_sized_c n) (.c (.t rfl) <| .n) (.inl rfl) <| u (no (.t rfl)) <| .nil _) rfl ?_
  refine .bq h (.t rfl) (fun h => ?_) (fun h => ?_)
  · refine .sq ?_
    refine .rg (anm e8 100004 5 1 rfl rfl <| u (asg (.i rfl)) <| .nil _) rfl ?_
    obtain rfl := Option.some.inj h
    refine .ks (l := [(4, .own 0), (5, .ro (.int .i64 1))]) (o := [(0, some (.arr 5 1 (List.map e8 [])))]) (fun i => bif Nat.beq i 0 then 100004 else i) ?_ (.c rfl (.c rfl .n)) (.c rfl .n) rfl
    exact .rt Try.func19 (.t rfl <| .t rfl <| .n) (.c rfl .n) rfl rfl
  · refine .skp ?_
    refine .sq ?_
    refine .rg (u (mv (.t rfl)) <| u (bi (.i rfl) (.t rfl) rfl) <| u (bi (.i rfl) (.t rfl) rfl) <| u (asg (.t rfl)) <| .nil _) rfl ?_
    refine .sq ?_
    refine .sq ?_
    refine be h fun x1 hx1 h => ?_
    refine be h fun x2 hx2 h => ?_
    refine .rg (u (mv (.t rfl)) <| u (mv (.t rfl)) <| u (sho (.t rfl) (.t rfl) rfl hx1) <| u (mv (.t rfl)) <| u (sho (.t rfl) (.t rfl) rfl hx2) <| u (mv (.t rfl)) <| u (bc (.t rfl) (.t rfl) rfl rfl) <| .nil _) rfl ?_
    refine .bq h (.t rfl) (fun h => ?_) (fun h => ?_)
    · refine .sq ?_
      refine .rg (anm e8 100004 5 1 rfl rfl <| u (asg (.i rfl)) <| .nil _) rfl ?_
      obtain rfl := Option.some.inj h
      refine .ks (l := [(4, .own 0), (5, .ro (.int .i64 6))]) (o := [(0, some (.arr 5 1 (List.map e8 [])))]) (fun i => bif Nat.beq i 0 then 100004 else i) ?_ (.c rfl (.c rfl .n)) (.c rfl .n) rfl
      exact .rt Try.func19 (.t rfl <| .t rfl <| .n) (.c rfl .n) rfl rfl
    · refine .skp ?_
      refine .sq ?_
      refine be h fun x3 hx3 h => ?_
      refine be h fun x4 hx4 h => ?_
      refine be h fun x5 hx5 h => ?_
      refine .rg (u (mv (.t rfl)) <| u (cv cv2_49 (.t rfl)) <| u (mv (.t rfl)) <| u (sho (.t rfl) (.t rfl) rfl hx3) <| u (mv (.t rfl)) <| u (sho (.t rfl) (.t rfl) rfl hx4) <| u (mv (.t rfl)) <| cnf 28000 cf18 (octet_Put_c hx5) (.c (.t rfl) <| .c (.t rfl) <| .n) rfl rfl rfl <| u (ex (.t rfl) rfl rfl) <| u (ex (.t rfl) rfl rfl) <| u (asg (.t rfl)) <| u (asg (.t rfl)) <| .nil _) rfl ?_
      obtain rfl := Option.some.inj h
      refine .ks (l := [(4, .own 0), (5, .ro (.int .i64 x5.2))]) (o := [(0, some (.arr 5 1 (List.map e8 x5.1)))]) (fun i => bif Nat.beq i 0 then 28000 else i) ?_ (.c rfl (.c rfl .n)) (.c rfl .n) rfl
      exact .rt Try.func19 (.t rfl <| .t rfl <| .n) (.c rfl .n) rfl rfl

theorem octet_PutSigned_r {v : Int} {n : Int} {r : List Int × Int} (h : octet_PutSigned v n = some r) :
    AC Try.prog 19 [.ro (.int .i64 v), .ro (.int .i64 n)] (.ro (.tup [.list 1 (List.map e8 r.1), .int .i64 r.2])) [] := AC.fz (octet_PutSigned_c h) rfl

theorem slices_Grow_c {n : Int} (hn : growL n = some ()) : AC Try.prog 57 [.ro (.raw (.slice none 0 0)), .ro (.int .i64 n)] (.own 0) [(0, .arr 5 1 (([] : List Int).map e8))] := by
  obtain ⟨i, z, hi, hz, hsz, hzs, hpos, hby⟩ := pf26.i
  refine AC.grow (fun n w h1 h2 => ?_) (fun w => slices_Grow_nil w) hn
  refine (slices_Grow_new n w h1 h2 i z hi hz (by omega) hby).mono fun e w' hp => ?_
  obtain ⟨rfl, rfl⟩ := hp
  have hG : n ≤ grownCap w n 0 5 := grownCap_ge w _ _ _
  refine ⟨_, _, rfl, ?_, grownCap_le_maxLen w n 0 5 (by unfold maxLen; omega), rfl⟩
  simp only [Array.size_append, size_zeroCells, hzs]
  have h0 : (#[] : Array Value).size = 0 := rfl
  omega

theorem slices_Concat_c {z : Option Nat} {slices : List (List Int)} {r : List Int} (h : slices_Concat z slices = some r) :
    AC Try.prog 40 [.ro (.list 1 (List.map (el 1 e8) slices))] (.own 0) [(0, .arr 5 1 (List.map e8 r))] := by
  refine AC.of Try.func40 rfl rfl fun w M0 hM => ?_
  unfold slices_Concat at h
  refine .sq ?_
  refine .rg (anm e8 2 5 1 rfl rfl <| .nil _) rfl ?_
  refine .sq ?_
  refine .rg (u (asg (.i rfl)) <| .nil _) rfl ?_
  refine .sq ?_
  refine .sq ?_
  refine .rg (u (mv (.t rfl)) <| u (lnm sf78 (.t rfl)) <| u (mv (.i rfl)) <| .nil _) rfl ?_
  refine .bl ?_
  unfold slices_Concat_l1 at h
  refine .kq (.lo (fun (s : Int × Int) => ⟨[(0, .ro (.list 1 (List.map (el 1 e8) slices))), (3, .ro (.int .i64 s.1)), (9, .ro (.list 1 (List.map (el 1 e8) slices))), (10, .ro (.int .i64 (slices.length : Int))), (11, .ro (.int .i64 s.2))], []⟩) h ?_) (.c rfl (.c rfl (.c rfl (.c rfl (.c rfl .n))))) .n
  rintro ⟨v1, v2⟩ u1 h ih1 hx1
  replace h : slices_Concat_s1 z slices v1 v2 = _ := h
  unfold slices_Concat_s1 at h
  refine .sq ?_
  refine .rg (u (bc (.t rfl) (.t rfl) rfl rfl) <| .nil _) rfl ?_
  refine .sq ?_
  refine .bq h (.t rfl) (fun h => ?_) (fun h => ?_)
  · refine .skp ?_
    refine .sq ?_
    refine .bl ?_
    refine .sq ?_
    refine be h fun x3 hx3 h => ?_
    refine .rg (u (ia sf78 (.t rfl) (.t rfl) (ix_map (el 1 e8) hx3)) <| u (lr tf26 (.t rfl) rfl) <| u (asg (.t rfl)) <| .nil _) rfl ?_
    refine .sq ?_
    refine .rg (u (mv (.t rfl)) <| u (mv (.t rfl)) <| u (lnm sf26 (.t rfl)) <| u (bi (.t rfl) (.t rfl) rfl) <| u (asg (.t rfl)) <| .nil _) rfl ?_
    refine .sq ?_
    refine .rg (u (mv (.t rfl)) <| u (bc (.t rfl) (.i rfl) rfl rfl) <| .nil _) rfl ?_
    refine .jq (t := some u1) (fun (a : Unit) => ⟨[(0, .ro (.list 1 (List.map (el 1 e8) slices))), (3, .ro (.int .i64 (ar .add .i64 v1 (x3.length : Int)))), (9, .ro (.list 1 (List.map (el 1 e8) slices))), (10, .ro (.int .i64 (slices.length : Int))), (11, .ro (.int .i64 v2))], []⟩) (fun (a : Unit) => slices_Concat_j2 z v1 v2 x3) ?_ (fun J2 => ?_)
    · intro _ h
      replace h : slices_Concat_j2 z v1 v2 x3 = _ := h
      unfold slices_Concat_j2 at h
      refine .ib ?_
      refine .rg (u (bi (.t rfl) (.i rfl) rfl) <| u (mv (.t rfl)) <| .nil _) rfl ?_
      exact .kq (.il (ih1 ((ar .add .i64 v1 (x3.length : Int)), (ar .add .i64 v2 1)) (nxi h))) (.c rfl (.c rfl (.c rfl (.c rfl (.c rfl .n))))) .n
    refine .bq h (.t rfl) (fun h => ?_) (fun h => ?_)
    · cases h
    · refine .skp ?_
      exact .kq (J2 () h) (.c rfl (.c rfl (.c rfl (.c rfl (.c rfl .n))))) .n
  · refine .xt rfl ?_
    replace h := mpR h hx1
    refine .sq ?_
    refine be h fun x4 hx4 h => ?_
    refine .rg (u (mv (.t rfl)) <| cnl 24 cf57 (slices_Grow_c hx4) (.c (.r rfl) <| .c (.t rfl) <| .n) rfl <| u (asg (.t rfl)) <| .nil _) rfl ?_
    refine .sq ?_
    refine .sq ?_
    refine .rg (u (mv (.t rfl)) <| u (lnm sf78 (.t rfl)) <| u (mv (.i rfl)) <| .nil _) rfl ?_
    refine .bl ?_
    unfold slices_Concat_l3 at h
    refine .ks (fun i => bif Nat.beq i 6 then 24 else i) (.lo (fun (s : List Int × Int) => ⟨[(6, .own 6), (25, .ro (.list 1 (List.map (el 1 e8) slices))), (26, .ro (.int .i64 (slices.length : Int))), (27, .ro (.int .i64 s.2))], [(6, some (.arr 5 1 (List.map e8 s.1)))]⟩) h ?_) (.c rfl (.c rfl (.c rfl (.c rfl .n)))) (.c rfl .n) rfl
    rintro ⟨v5, v6⟩ u3 h ih3 hx3
    replace h : slices_Concat_s3 z slices v5 v6 = _ := h
    unfold slices_Concat_s3 at h
    refine .sq ?_
    refine .rg (u (bc (.t rfl) (.t rfl) rfl rfl) <| .nil _) rfl ?_
    refine .sq ?_
    refine .bq h (.t rfl) (fun h => ?_) (fun h => ?_)
    · refine .skp ?_
      refine .sq ?_
      refine .bl ?_
      refine .sq ?_
      refine be h fun x7 hx7 h => ?_
      refine .rg (u (ia sf78 (.t rfl) (.t rfl) (ix_map (el 1 e8) hx7)) <| u (lr tf26 (.t rfl) rfl) <| u (asg (.t rfl)) <| .nil _) rfl ?_
      refine be h fun x8 hx8 h => ?_
      refine .rg (u (mv (.t rfl)) <| u (mv (.t rfl)) <| ap 33 pf26 (.t rfl) rfl (.t rfl) hx8 rfl <| u (asg (.t rfl)) <| .nil _) rfl ?_
      refine .ib ?_
      refine .rg (u (bi (.t rfl) (.i rfl) rfl) <| u (mv (.t rfl)) <| .nil _) rfl ?_
      exact .ks (fun i => bif Nat.beq i 6 then 33 else i) (.il (ih3 (x8, (ar .add .i64 v6 1)) (nxi h))) (.c rfl (.c rfl (.c rfl (.c rfl .n)))) (.c rfl .n) rfl
    · refine .xt rfl ?_
      replace h := mpR h hx3
      refine .sq ?_
      refine .rg (u (mv (.t rfl)) <| u (asg (.t rfl)) <| .nil _) rfl ?_
      obtain rfl := Option.some.inj h
      refine .ks (l := [(2, .own 0)]) (o := [(0, some (.arr 5 1 (List.map e8 v5)))]) (fun i => bif Nat.beq i 0 then 6 else i) ?_ (.c rfl .n) (.c rfl .n) rfl
      exact .rt Try.func40 (.t rfl <| .n) (.c rfl .n) rfl rfl

theorem slices_Concat_r {z : Option Nat} {slices : List (List Int)} {r : List Int} (h : slices_Concat z slices = some r) :
    AC Try.prog 40 [.ro (.list 1 (List.map (el 1 e8) slices))] (.ro (.list 1 (List.map e8 r))) [] := AC.fz (slices_Concat_c h) rfl

theorem octet_Join_c {z : Option Nat} {l : List (List Int)} {r : List Int} (h : octet_Join z l = some r) :
    AC Try.prog 20 [.ro (.list 1 (List.map (el 1 e8) l))] (.own 0) [(0, .arr 5 1 (List.map e8 r))] := by
  refine AC.of Try.func20 rfl rfl fun w M0 hM => ?_
  unfold octet_Join at h
  refine .sq ?_
  refine .rg (anm e8 2 5 1 rfl rfl <| .nil _) rfl ?_
  refine .sq ?_
  refine be h fun x1 hx1 h => ?_
  refine .rg (u (mv (.t rfl)) <| cnf 5000 cf40 (slices_Concat_c hx1) (.c (.t rfl) <| .n) rfl rfl rfl <| u (asg (.t rfl)) <| .nil _) rfl ?_
  obtain rfl := Option.some.inj h
  refine .ks (l := [(2, .own 0)]) (o := [(0, some (.arr 5 1 (List.map e8 x1)))]) (fun i => bif Nat.beq i 0 then 5000 else i) ?_ (.c rfl .n) (.c rfl .n) rfl
  exact .rt Try.func20 (.t rfl <| .n) (.c rfl .n) rfl rfl

theorem octet_Join_r {z : Option Nat} {l : List (List Int)} {r : List Int} (h : octet_Join z l = some r) :
    AC Try.prog 20 [.ro (.list 1 (List.map (el 1 e8) l))] (.ro (.list 1 (List.map e8 r))) [] := AC.fz (octet_Join_c h) rfl

theorem arrive_whats_c {z : Option Nat} {l : List Seen} {r : List Int} (h : arrive_whats z l = some r) :
    AC Try.prog 22 [.ro (.list 2 (List.map cells_Seen l))] (.own 0) [(0, .arr 3 1 (List.map (ei .i64) r))] := by
  refine AC.of Try.func22 rfl rfl fun w M0 hM => ?_
  unfold arrive_whats at h
  refine .sq ?_
  refine .rg (anm (ei .i64) 2 3 1 rfl rfl <| .nil _) rfl ?_
  refine .sq ?_
  refine .rg (anm (ei .i64) 3 3 1 rfl rfl <| .nil _) rfl ?_
  refine .sq ?_
  refine .sq ?_
  refine .rg (u (mv (.t rfl)) <| u (lnm sf23 (.t rfl)) <| u (mv (.i rfl)) <| .nil _) rfl ?_
  refine .bl ?_
  unfold arrive_whats_l1 at h
  refine .kq (.lo (fun (s : List Int × Int) => ⟨[(3, .own 3), (6, .ro (.list 2 (List.map cells_Seen l))), (7, .ro (.int .i64 (l.length : Int))), (8, .ro (.int .i64 s.2))], [(3, some (.arr 3 1 (List.map (ei .i64) s.1)))]⟩) h ?_) (.c rfl (.c rfl (.c rfl (.c rfl .n)))) (.c rfl .n)
  rintro ⟨v1, v2⟩ u1 h ih1 hx1
  replace h : arrive_whats_s1 z l v1 v2 = _ := h
  unfold arrive_whats_s1 at h
  refine .sq ?_
  refine .rg (u (bc (.t rfl) (.t rfl) rfl rfl) <| .nil _) rfl ?_
  refine .sq ?_
  refine .bq h (.t rfl) (fun h => ?_) (fun h => ?_)
  · refine .skp ?_
    refine .sq ?_
    refine .bl ?_
    refine .sq ?_
    refine be h fun x3 hx3 h => ?_
    refine .rg (u (ia sf23 (.t rfl) (.t rfl) (ix_map cells_Seen hx3)) <| u (lr tf46 (.t rfl) rfl) <| al 5 zf46 rfl <| st tf46 (.t rfl) rfl (.t rfl) rfl rfl rfl <| .nil _) rfl ?_
    refine be h fun x4 hx4 h => ?_
    refine .rg (u (mv (.t rfl)) <| u (fa ff46_0 (.t rfl)) <| u (ld tf3 (.t rfl) rfl rfl) <| bs (F := (ei .i64)) (l := [x3.what]) 15 pf55 (.c (.t rfl) rfl <| .n) rfl (fun _ _ => rfl) rfl rfl <| apo 16 pf55 (.t rfl) rfl (.t rfl) rfl hx4 rfl <| u (asg (.t rfl)) <| .nil _) rfl ?_
    refine .ib ?_
    refine .rg (u (bi (.t rfl) (.i rfl) rfl) <| u (mv (.t rfl)) <| .nil _) rfl ?_
    exact .ks (fun i => bif Nat.beq i 3 then 16 else i) (.il (ih1 (x4, (ar .add .i64 v2 1)) (nxi h))) (.c rfl (.c rfl (.c rfl (.c rfl .n)))) (.c rfl .n) rfl
  · refine .xt rfl ?_
    replace h := mpR h hx1
    refine .sq ?_
    refine .rg (u (mv (.t rfl)) <| u (asg (.t rfl)) <| .nil _) rfl ?_
    obtain rfl := Option.some.inj h
    refine .ks (l := [(2, .own 0)]) (o := [(0, some (.arr 3 1 (List.map (ei .i64) v1)))]) (fun i => bif Nat.beq i 0 then 3 else i) ?_ (.c rfl .n) (.c rfl .n) rfl
    exact .rt Try.func22 (.t rfl <| .n) (.c rfl .n) rfl rfl

theorem arrive_whats_r {z : Option Nat} {l : List Seen} {r : List Int} (h : arrive_whats z l = some r) :
    AC Try.prog 22 [.ro (.list 2 (List.map cells_Seen l))] (.ro (.list 1 (List.map (ei .i64) r))) [] := AC.fz (arrive_whats_c h) rfl

theorem slices_IndexFunc_int_c {z : Option Nat} {p_s : List Int} {f : (Int → Option Bool)} {g_f : FuncId} {c_f : List V} (hF_f : CF Try.prog g_f) (h_f : ∀ (a0 : Int) (q : Bool), f a0 = some q → AC Try.prog g_f ([.ro (.int .i64 a0)] ++ c_f) (.ro (.bool q)) []) {r : Int} (h : slices_IndexFunc_int z p_s f = some r) :
    AC Try.prog 58 [.ro (.list 1 (List.map (ei .i64) p_s)), .fn (.func g_f) [] c_f] (.ro (.int .i64 r)) [] := by
  refine AC.of Try.func58 rfl rfl fun w M0 hM => ?_
  unfold slices_IndexFunc_int at h
  refine .sq ?_
  refine .rg (u (asg (.i rfl)) <| .nil _) rfl ?_
  refine .sq ?_
  refine .sq ?_
  refine .rg (u (mv (.t rfl)) <| u (lnm sf55 (.t rfl)) <| u (mv (.i rfl)) <| .nil _) rfl ?_
  refine .bl ?_
  unfold slices_IndexFunc_int_l1 at h
  refine .kq (.lo (fun (s : Int) => ⟨[(0, .ro (.list 1 (List.map (ei .i64) p_s))), (1, .fn (.func g_f) [] c_f), (7, .ro (.int .i64 (p_s.length : Int))), (8, .ro (.int .i64 s))], []⟩) h ?_) (.c rfl (.c rfl (.c rfl (.c rfl .n)))) .n
  intro v1 u1 h ih1 hx1
  replace h : slices_IndexFunc_int_s1 z p_s f v1 = _ := h
  unfold slices_IndexFunc_int_s1 at h
  refine .sq ?_
  refine .rg (u (bc (.t rfl) (.t rfl) rfl rfl) <| .nil _) rfl ?_
  refine .sq ?_
  refine .bq h (.t rfl) (fun h => ?_) (fun h => ?_)
  · refine .skp ?_
    refine .sq ?_
    refine .bl ?_
    refine .sq ?_
    refine .rg (u (mv (.t rfl)) <| u (asg (.t rfl)) <| .nil _) rfl ?_
    refine .sq ?_
    refine be h fun x2 hx2 h => ?_
    refine be h fun x3 hx3 h => ?_
    refine .rg (u (mv (.t rfl)) <| u (mv (.t rfl)) <| u (mv (.t rfl)) <| u (ia sf55 (.t rfl) (.t rfl) (ix_map (ei .i64) hx2)) <| u (lr tf3 (.t rfl) rfl) <| clv [] hF_f (.t rfl) (h_f _ _ hx3) (.c (.t rfl) <| .n) (.inl rfl) <| .nil _) rfl ?_
    refine .bq h (.t rfl) (fun h => ?_) (fun h => ?_)
    · refine .sq ?_
      refine .rg (u (mv (.t rfl)) <| u (asg (.t rfl)) <| .nil _) rfl ?_
      replace h := mpR h hx1
      obtain rfl := Option.some.inj h
      exact .rt Try.func58 (.t rfl <| .n) .n rfl rfl
    · refine .skp ?_
      refine .ib ?_
      refine .rg (u (bi (.t rfl) (.i rfl) rfl) <| u (mv (.t rfl)) <| .nil _) rfl ?_
      exact .kq (.il (ih1 (ar .add .i64 v1 1) (nxi h))) (.c rfl (.c rfl (.c rfl (.c rfl .n)))) .n
  · refine .xt rfl ?_
    replace h := mpR h hx1
    refine .sq ?_
    refine .rg (u (asg (.i rfl)) <| .nil _) rfl ?_
    obtain rfl := Option.some.inj h
    exact .rt Try.func58 (.t rfl <| .n) .n rfl rfl

theorem slices_ContainsFunc_int_c {z : Option Nat} {p_s : List Int} {f : (Int → Option Bool)} {g_f : FuncId} {c_f : List V} (hF_f : CF Try.prog g_f) (h_f : ∀ (a0 : Int) (q : Bool), f a0 = some q → AC Try.prog g_f ([.ro (.int .i64 a0)] ++ c_f) (.ro (.bool q)) []) {r : Bool} (h : slices_ContainsFunc_int z p_s f = some r) :
    AC Try.prog 41 [.ro (.list 1 (List.map (ei .i64) p_s)), .fn (.func g_f) [] c_f] (.ro (.bool r)) [] := by
  refine AC.of Try.func41 rfl rfl fun w M0 hM => ?_
  unfold slices_ContainsFunc_int at h
  refine .sq ?_
  refine .rg (u (asg .b) <| .nil _) rfl ?_
  refine .sq ?_
  refine be h fun x1 hx1 h => ?_
  refine .rg (u (mv (.t rfl)) <| u (mv (.t rfl)) <| cl [] cf58 (slices_IndexFunc_int_c hF_f h_f hx1) (.c (.t rfl) <| .c (.t rfl) <| .n) (.inl rfl) <| u (bc (.t rfl) (.i rfl) rfl rfl) <| u (asg (.t rfl)) <| .nil _) rfl ?_
  obtain rfl := Option.some.inj h
  exact .rt Try.func41 (.t rfl <| .n) .n rfl rfl

theorem chunk_Write_1_c (x : Int) :
    AC Try.prog 42 [.ro (.int .i64 x)] (.ro (.bool (chunk_Write_1 x))) [] := by
  obtain ⟨r, h⟩ : ∃ r, chunk_Write_1 x = r := ⟨_, rfl⟩
  rw [h]
  refine AC.of Try.func42 rfl rfl fun w M0 hM => ?_
  unfold chunk_Write_1 at h
  refine .sq ?_
  refine .rg (u (asg .b) <| .nil _) rfl ?_
  refine .sq ?_
  refine .rg (u (mv (.t rfl)) <| u (bc (.t rfl) (.i rfl) rfl rfl) <| u (mv (.t rfl)) <| gd rfl rfl (fun hB => mv (.t rfl)) <| gd rfl rfl (fun hB => bc (.m rfl hB) (.i rfl) rfl rfl) <| u (pko (.t rfl) (.t rfl)) <| u (asg (.t rfl)) <| .nil _) rfl ?_
  subst h
  exact .rt Try.func42 (.t rfl <| .n) .n rfl rfl

theorem chunk_run_1_c {x : Int} {cap0 : List Int} {r : Bool} (h : chunk_run_1 x cap0 = some r) :
    AC Try.prog 68 [.ro (.int .i64 x), .rptr [.list 1 (List.map (ei .i64) cap0)]] (.ro (.bool r)) [] := by
  refine AC.of Try.func68 rfl rfl fun w M0 hM => ?_
  unfold chunk_run_1 at h
  refine .sq ?_
  refine .rg (u (asg .b) <| .nil _) rfl ?_
  refine .sq ?_
  refine be h fun x1 hx1 h => ?_
  refine .rg (u (mv (.t rfl)) <| u (lr tf55 (.t rfl) rfl) <| u (ia sf55 (.t rfl) (.i rfl) (ix_map (ei .i64) hx1)) <| u (lr tf3 (.t rfl) rfl) <| u (bc (.t rfl) (.t rfl) rfl rfl) <| u (asg (.t rfl)) <| .nil _) rfl ?_
  obtain rfl := Option.some.inj h
  exact .rt Try.func68 (.t rfl <| .n) .n rfl rfl

theorem chunk_run_c {z : Option Nat} {l : List Int} {r : Int} (h : chunk_run z l = some r) :
    AC Try.prog 59 [.ro (.list 1 (List.map (ei .i64) l))] (.ro (.int .i64 r)) [] := by
  refine AC.of Try.func59 rfl rfl fun w M0 hM => ?_
  unfold chunk_run at h
  refine .sq ?_
  refine .rg (bx 1 (.t rfl) rfl rfl <| u (asg (.i rfl)) <| .nil _) rfl ?_
  refine .sq ?_
  refine .fb 1 rfl rfl ?_
  refine .rg (u (mfn (.c (.t rfl) <| .n)) <| u (asg (.t rfl)) <| .nil _) rfl ?_
  refine .sq ?_
  refine .sq ?_
  refine be h fun x1 hx1 h => ?_
  refine .rg (u (lr tf55 (.t rfl) rfl) <| u (mv (.t rfl)) <| cl [] cf58 (slices_IndexFunc_int_c cf68 (fun y0 q h => chunk_run_1_c h) hx1) (.c (.t rfl) <| .c (.t rfl) <| .n) (.inl rfl) <| u (asg (.t rfl)) <| .nil _) rfl ?_
  refine .sq ?_
  refine .rg (u (mv (.t rfl)) <| u (bc (.t rfl) (.i rfl) rfl rfl) <| .nil _) rfl ?_
  refine .bq h (.t rfl) (fun h => ?_) (fun h => ?_)
  · refine .sq ?_
    refine .rg (u (mv (.t rfl)) <| u (asg (.t rfl)) <| .nil _) rfl ?_
    obtain rfl := Option.some.inj h
    exact .rt Try.func59 (.t rfl <| .n) .n rfl rfl
  · refine .skp ?_
    refine .sq ?_
    refine .rg (u (lr tf55 (.t rfl) rfl) <| u (lnm sf55 (.t rfl)) <| u (asg (.t rfl)) <| .nil _) rfl ?_
    obtain rfl := Option.some.inj h
    exact .rt Try.func59 (.t rfl <| .n) .n rfl rfl

theorem slices_Index_c {z : Option Nat} {p_s : List Int} {v : Int} {r : Int} (h : slices_Index z p_s v = some r) :
    AC Try.prog 69 [.ro (.list 1 (List.map (ei .i64) p_s)), .ro (.int .i64 v)] (.ro (.int .i64 r)) [] := by
  refine AC.of Try.func69 rfl rfl fun w M0 hM => ?_
  unfold slices_Index at h
  refine .sq ?_
  refine .rg (u (asg (.i rfl)) <| .nil _) rfl ?_
  refine .sq ?_
  refine .sq ?_
  refine .rg (u (mv (.t rfl)) <| u (lnm sf55 (.t rfl)) <| u (mv (.i rfl)) <| .nil _) rfl ?_
  refine .bl ?_
  unfold slices_Index_l1 at h
  refine .kq (.lo (fun (s : Int) => ⟨[(0, .ro (.list 1 (List.map (ei .i64) p_s))), (1, .ro (.int .i64 v)), (7, .ro (.int .i64 (p_s.length : Int))), (8, .ro (.int .i64 s))], []⟩) h ?_) (.c rfl (.c rfl (.c rfl (.c rfl .n)))) .n
  intro v1 u1 h ih1 hx1
  replace h : slices_Index_s1 z p_s v v1 = _ := h
  unfold slices_Index_s1 at h
  refine .sq ?_
  refine .rg (u (bc (.t rfl) (.t rfl) rfl rfl) <| .nil _) rfl ?_
  refine .sq ?_
  refine .bq h (.t rfl) (fun h => ?_) (fun h => ?_)
  · refine .skp ?_
    refine .sq ?_
    refine .bl ?_
    refine .sq ?_
    refine .rg (u (mv (.t rfl)) <| u (asg (.t rfl)) <| .nil _) rfl ?_
    refine .sq ?_
    refine be h fun x2 hx2 h => ?_
    refine .rg (u (mv (.t rfl)) <| u (mv (.t rfl)) <| u (mv (.t rfl)) <| u (ia sf55 (.t rfl) (.t rfl) (ix_map (ei .i64) hx2)) <| u (lr tf3 (.t rfl) rfl) <| u (bc (.t rfl) (.t rfl) rfl rfl) <| .nil _) rfl ?_
    refine .bq h (.t rfl) (fun h => ?_) (fun h => ?_)
    · refine .sq ?_
      refine .rg (u (mv (.t rfl)) <| u (asg (.t rfl)) <| .nil _) rfl ?_
      replace h := mpR h hx1
      obtain rfl := Option.some.inj h
      exact .rt Try.func69 (.t rfl <| .n) .n rfl rfl
    · refine .skp ?_
      refine .ib ?_
      refine .rg (u (bi (.t rfl) (.i rfl) rfl) <| u (mv (.t rfl)) <| .nil _) rfl ?_
      exact .kq (.il (ih1 (ar .add .i64 v1 1) (nxi h))) (.c rfl (.c rfl (.c rfl (.c rfl .n)))) .n
  · refine .xt rfl ?_
    replace h := mpR h hx1
    refine .sq ?_
    refine .rg (u (asg (.i rfl)) <| .nil _) rfl ?_
    obtain rfl := Option.some.inj h
    exact .rt Try.func69 (.t rfl <| .n) .n rfl rfl

theorem slices_Contains_c {z : Option Nat} {p_s : List Int} {v : Int} {r : Bool} (h : slices_Contains z p_s v = some r) :
    AC Try.prog 60 [.ro (.list 1 (List.map (ei .i64) p_s)), .ro (.int .i64 v)] (.ro (.bool r)) [] := by
  refine AC.of Try.func60 rfl rfl fun w M0 hM => ?_
  unfold slices_Contains at h
  refine .sq ?_
  refine .rg (u (asg .b) <| .nil _) rfl ?_
  refine .sq ?_
  refine be h fun x1 hx1 h => ?_
  refine .rg (u (mv (.t rfl)) <| u (mv (.t rfl)) <| cl [] cf69 (slices_Index_c hx1) (.c (.t rfl) <| .c (.t rfl) <| .n) (.inl rfl) <| u (bc (.t rfl) (.i rfl) rfl rfl) <| u (asg (.t rfl)) <| .nil _) rfl ?_
  obtain rfl := Option.some.inj h
  exact .rt Try.func60 (.t rfl <| .n) .n rfl rfl

theorem chunk_pack_c {z : Option Nat} {l : List Int} {bits : Int} {many : Int} {r : Int} (h : chunk_pack z l bits many = some r) :
    AC Try.prog 61 [.ro (.list 1 (List.map (ei .i64) l)), .ro (.int .i64 bits), .ro (.int .i64 many)] (.ro (.int .u16 r)) [] := by
  refine AC.of Try.func61 rfl rfl fun w M0 hM => ?_
  unfold chunk_pack at h
  refine .sq ?_
  refine .rg (u (asg (.i rfl)) <| .nil _) rfl ?_
  refine .sq ?_
  refine .rg (u (asg (.i rfl)) <| .nil _) rfl ?_
  refine .sq ?_
  refine .sq ?_
  refine .rg (u (mv (.t rfl)) <| u (mv (.i rfl)) <| .nil _) rfl ?_
  refine .bl ?_
  unfold chunk_pack_l1 at h
  refine .kq (.lo (fun (s : Int × Int) => ⟨[(0, .ro (.list 1 (List.map (ei .i64) l))), (1, .ro (.int .i64 bits)), (7, .ro (.int .i64 s.1)), (9, .ro (.int .i64 many)), (10, .ro (.int .i64 s.2))], []⟩) h ?_) (.c rfl (.c rfl (.c rfl (.c rfl (.c rfl .n))))) .n
  rintro ⟨v1, v2⟩ u1 h ih1 hx1
  replace h : chunk_pack_s1 z l bits many v1 v2 = _ := h
  unfold chunk_pack_s1 at h
  refine .sq ?_
  refine .rg (u (bc (.t rfl) (.t rfl) rfl rfl) <| .nil _) rfl ?_
  refine .sq ?_
  refine .bq h (.t rfl) (fun h => ?_) (fun h => ?_)
  · refine .skp ?_
    refine .sq ?_
    refine .bl ?_
    refine .sq ?_
    refine .rg (u (mv (.t rfl)) <| u (asg (.t rfl)) <| .nil _) rfl ?_
    refine .sq ?_
    refine be h fun x3 hx3 h => ?_
    refine .rg (u (mv (.t rfl)) <| u (mv (.t rfl)) <| u (sho (.t rfl) (.t rfl) rfl hx3) <| u (asg (.t rfl)) <| .nil _) rfl ?_
    refine .sq ?_
    refine .rg (u (mv (.t rfl)) <| u (mv (.t rfl)) <| u (lnm sf55 (.t rfl)) <| u (bc (.t rfl) (.t rfl) rfl rfl) <| .nil _) rfl ?_
    refine .jq (t := some u1) (fun (a : Int) => ⟨[(0, .ro (.list 1 (List.map (ei .i64) l))), (1, .ro (.int .i64 bits)), (7, .ro (.int .i64 a)), (9, .ro (.int .i64 many)), (10, .ro (.int .i64 v2))], []⟩) (fun (a : Int) => chunk_pack_j2 z v2 a) ?_ (fun J2 => ?_)
    · intro v4 h
      replace h : chunk_pack_j2 z v2 v4 = _ := h
      unfold chunk_pack_j2 at h
      refine .ib ?_
      refine .rg (u (bi (.t rfl) (.i rfl) rfl) <| u (mv (.t rfl)) <| .nil _) rfl ?_
      exact .kq (.il (ih1 (v4, (ar .add .i64 v2 1)) (nxi h))) (.c rfl (.c rfl (.c rfl (.c rfl (.c rfl .n))))) .n
    refine .bq h (.t rfl) (fun h => ?_) (fun h => ?_)
    · refine be h fun x5 hx5 h => ?_
      refine .rg (u (mv (.t rfl)) <| u (mv (.t rfl)) <| u (mv (.t rfl)) <| u (ia sf55 (.t rfl) (.t rfl) (ix_map (ei .i64) hx5)) <| u (lr tf3 (.t rfl) rfl) <| u (bi (.t rfl) (.t rfl) rfl) <| u (asg (.t rfl)) <| .nil _) rfl ?_
      exact .kq (J2 (ar .or .i64 x3 x5) h) (.c rfl (.c rfl (.c rfl (.c rfl (.c rfl .n))))) .n
    · refine .skp ?_
      exact .kq (J2 x3 h) (.c rfl (.c rfl (.c rfl (.c rfl (.c rfl .n))))) .n
  · refine .xt rfl ?_
    replace h := mpR h hx1
    refine .sq ?_
    refine .rg (u (mv (.t rfl)) <| u (cv cv3_22 (.t rfl)) <| u (asg (.t rfl)) <| .nil _) rfl ?_
    obtain rfl := Option.some.inj h
    exact .rt Try.func61 (.t rfl <| .n) .n rfl rfl

theorem chunk_first_c {z : Option Nat} {l : List Int} {r : Int × Int} (h : chunk_first z l = some r) :
    AC Try.prog 43 [.ro (.list 1 (List.map (ei .i64) l))] (.ro (.tup [.int .u16 r.1, .int .i64 r.2])) [] := by
  refine AC.of Try.func43 rfl rfl fun w M0 hM => ?_
  unfold chunk_first at h
  refine .sq ?_
  refine .rg (u (asg (.i rfl)) <| u (asg (.i rfl)) <| .nil _) rfl ?_
  refine .sq ?_
  refine be h fun x1 hx1 h => ?_
  refine .rg (u (mv (.t rfl)) <| cl [] cf59 (chunk_run_c hx1) (.c (.t rfl) <| .n) (.inl rfl) <| u (asg (.t rfl)) <| .nil _) rfl ?_
  refine .sq ?_
  refine .sq ?_
  refine .rg (u (mv (.t rfl)) <| u (bc (.t rfl) (.i rfl) rfl rfl) <| u (mv (.t rfl)) <| gd rfl rfl (fun hB => mv (.t rfl)) <| gd rfl rfl (fun hB => mv (.t rfl)) <| gd rfl rfl (fun hB => lnm sf55 (.m rfl hB)) <| gd rfl rfl (fun hB => bc (.m rfl hB) (.m rfl hB) rfl rfl) <| u (pko (.t rfl) (.t rfl)) <| .nil _) rfl ?_
  refine .bq h (.t rfl) (fun h => ?_) (fun h => ?_)
  · refine .sq ?_
    refine .rg (u (mv (.t rfl)) <| u (mn (.t rfl) (.i rfl)) <| u (asg (.t rfl)) <| .nil _) rfl ?_
    refine .sq ?_
    refine be h fun x2 hx2 h => ?_
    refine .rg (u (mv (.t rfl)) <| u (ia sf55 (.t rfl) (.i rfl) (ix_map (ei .i64) hx2)) <| u (lr tf3 (.t rfl) rfl) <| u (sh (.t rfl) (.i rfl) rfl (by decide)) <| u (mv (.t rfl)) <| u (bi (.t rfl) (.t rfl) rfl) <| u (cv cv3_22 (.t rfl)) <| u (mv (.t rfl)) <| u (asg (.t rfl)) <| u (asg (.t rfl)) <| .nil _) rfl ?_
    obtain rfl := Option.some.inj h
    exact .rt Try.func43 (.t rfl <| .t rfl <| .n) .n rfl rfl
  · refine .skp ?_
    refine .sq ?_
    refine .rg (u (mv (.t rfl)) <| u (lnm sf55 (.t rfl)) <| u (mn (.t rfl) (.i rfl)) <| u (asg (.t rfl)) <| .nil _) rfl ?_
    refine .sq ?_
    refine .sq ?_
    refine be h fun x3 hx3 h => ?_
    refine be h fun x4 hx4 h => ?_
    refine .rg (u (mv (.t rfl)) <| u (mv (.t rfl)) <| u (sl sf55 (.t rfl) .n (.s (.t rfl)) hx3) <| cl [] cf60 (slices_Contains_c hx4) (.c (.t rfl) <| .c (.i rfl) <| .n) (.inl rfl) <| u (no (.t rfl)) <| .nil _) rfl ?_
    refine .bq h (.t rfl) (fun h => ?_) (fun h => ?_)
    · refine .sq ?_
      refine be h fun x5 hx5 h => ?_
      refine be h fun x6 hx6 h => ?_
      refine .rg (u (mv (.t rfl)) <| u (mv (.t rfl)) <| u (sl sf55 (.t rfl) .n (.s (.t rfl)) hx5) <| cl [] cf61 (chunk_pack_c hx6) (.c (.t rfl) <| .c (.i rfl) <| .c (.i rfl) <| .n) (.inl rfl) <| u (bi (.i rfl) (.t rfl) rfl) <| u (mv (.t rfl)) <| u (asg (.t rfl)) <| u (asg (.t rfl)) <| .nil _) rfl ?_
      obtain rfl := Option.some.inj h
      exact .rt Try.func43 (.t rfl <| .t rfl <| .n) .n rfl rfl
    · refine .skp ?_
      refine .sq ?_
      refine .rg (u (mv (.t rfl)) <| u (lnm sf55 (.t rfl)) <| u (mn (.t rfl) (.i rfl)) <| u (asg (.t rfl)) <| .nil _) rfl ?_
      refine .sq ?_
      refine be h fun x7 hx7 h => ?_
      refine be h fun x8 hx8 h => ?_
      refine .rg (u (mv (.t rfl)) <| u (mv (.t rfl)) <| u (sl sf55 (.t rfl) .n (.s (.t rfl)) hx7) <| cl [] cf61 (chunk_pack_c hx8) (.c (.t rfl) <| .c (.i rfl) <| .c (.i rfl) <| .n) (.inl rfl) <| u (bi (.i rfl) (.t rfl) rfl) <| u (mv (.t rfl)) <| u (asg (.t rfl)) <| u (asg (.t rfl)) <| .nil _) rfl ?_
      obtain rfl := Option.some.inj h
      exact .rt Try.func43 (.t rfl <| .t rfl <| .n) .n rfl rfl

theorem chunk_Write_c {z : Option Nat} {l : List Int} {r : List Int × Int} (h : chunk_Write z l = some r) :
    AC Try.prog 21 [.ro (.list 1 (List.map (ei .i64) l))] (.tup [.own 0, .ro (.int .i64 r.2)]) [(0, .arr 22 1 (List.map (ei .u16) r.1))] := by
  refine AC.of Try.func21 rfl rfl fun w M0 hM => ?_
  unfold chunk_Write at h
  refine .sq ?_
  refine .rg (anm (ei .u16) 2 22 1 rfl rfl <| u (asg (.i rfl)) <| .nil _) rfl ?_
  refine .sq ?_
  refine .sq ?_
  refine be h fun x1 hx1 h => ?_
  refine .rg (u (mv (.t rfl)) <| cl [] cf41 (slices_ContainsFunc_int_c cf42 (fun y0 q h => by obtain rfl := Option.some.inj h; exact chunk_Write_1_c y0) hx1) (.c (.t rfl) <| .c .f <| .n) (.inl rfl) <| .nil _) rfl ?_
  refine .bq h (.t rfl) (fun h => ?_) (fun h => ?_)
  · refine .sq ?_
    refine .rg (anm (ei .u16) 100002 22 1 rfl rfl <| u (asg (.i rfl)) <| .nil _) rfl ?_
    obtain rfl := Option.some.inj h
    refine .ks (l := [(2, .own 0), (3, .ro (.int .i64 1))]) (o := [(0, some (.arr 22 1 (List.map (ei .u16) [])))]) (fun i => bif Nat.beq i 0 then 100002 else i) ?_ (.c rfl (.c rfl .n)) (.c rfl .n) rfl
    exact .rt Try.func21 (.t rfl <| .t rfl <| .n) (.c rfl .n) rfl rfl
  · refine .skp ?_
    refine .sq ?_
    refine .rg (anm (ei .u16) 4 22 1 rfl rfl <| .nil _) rfl ?_
    refine .sq ?_
    refine .bl ?_
    unfold chunk_Write_l1 at h
    refine .kq (.lo (fun (s : List Int × List Int) => ⟨[(0, .ro (.list 1 (List.map (ei .i64) s.1))), (4, .own 4)], [(4, some (.arr 22 1 (List.map (ei .u16) s.2)))]⟩) h ?_) (.c rfl (.c rfl .n)) (.c rfl .n)
    rintro ⟨v2, v3⟩ u1 h ih1 hx1
    replace h : chunk_Write_s1 z v2 v3 = _ := h
    unfold chunk_Write_s1 at h
    refine .sq ?_
    refine .sq ?_
    refine .rg (u (mv (.t rfl)) <| u (lnm sf55 (.t rfl)) <| u (bc (.t rfl) (.i rfl) rfl rfl) <| .nil _) rfl ?_
    refine .bq h (.t rfl) (fun h => ?_) (fun h => ?_)
    · refine .skp ?_
      refine .bl ?_
      refine .sq ?_
      refine be h fun x4 hx4 h => ?_
      refine .rg (u (mv (.t rfl)) <| cl [] cf43 (chunk_first_c hx4) (.c (.t rfl) <| .n) (.inl rfl) <| u (mv (.t rfl)) <| u (ex (.t rfl) rfl rfl) <| u (ex (.t rfl) rfl rfl) <| u (asg (.t rfl)) <| u (asg (.t rfl)) <| .nil _) rfl ?_
      refine be h fun x5 hx5 h => ?_
      refine be h fun x6 hx6 h => ?_
      refine .rd mixed (u (mv (.t rfl)) <| u (mv (.t rfl)) <| bs (F := (ei .u16)) (l := [x4.1]) 19 pf52 (.c (.t rfl) rfl <| .n) rfl (fun _ _ => rfl) rfl rfl <| apo 20 pf52 (.t rfl) rfl (.t rfl) rfl hx5 rfl <| u (mv (.t rfl)) <| u (mv (.t rfl)) <| u (sl sf55 (.t rfl) (.s (.t rfl)) .n hx6) <| u (asg (.t rfl)) <| u (asg (.t rfl)) <| .nil _) (by kernel_rfl) rfl ?_
      refine .ib ?_
      exact .ks (fun i => bif Nat.beq i 4 then 20 else i) (.il (ih1 (x6, x5) (nxi h))) (.c rfl (.c rfl .n)) (.c rfl .n) rfl
    · refine .xt rfl ?_
      replace h := mpR h hx1
      refine .sq ?_
      refine .rg (u (mv (.t rfl)) <| u (asg (.t rfl)) <| u (asg (.i rfl)) <| .nil _) rfl ?_
      obtain rfl := Option.some.inj h
      refine .ks (l := [(2, .own 0), (3, .ro (.int .i64 0))]) (o := [(0, some (.arr 22 1 (List.map (ei .u16) v3)))]) (fun i => bif Nat.beq i 0 then 4 else i) ?_ (.c rfl (.c rfl .n)) (.c rfl .n) rfl
      exact .rt Try.func21 (.t rfl <| .t rfl <| .n) (.c rfl .n) rfl rfl

theorem chunk_Write_r {z : Option Nat} {l : List Int} {r : List Int × Int} (h : chunk_Write z l = some r) :
    AC Try.prog 21 [.ro (.list 1 (List.map (ei .i64) l))] (.ro (.tup [.list 1 (List.map (ei .u16) r.1), .int .i64 r.2])) [] := AC.fz (chunk_Write_c h) rfl

theorem arrive_delta_c {p_s : Seen} {r : List Int} (h : arrive_delta p_s = some r) :
    AC Try.prog 23 [.ro (enc_Seen p_s)] (.ro (.list 1 (List.map e8 r))) [] := by
  refine AC.of Try.func23 rfl rfl fun w M0 hM => ?_
  unfold arrive_delta at h
  refine .sq ?_
  refine .rg (bx 1 (.t rfl) rfl rfl <| u (asg (.n (sz := 1) (F := e8))) <| .nil _) rfl ?_
  refine .sq ?_
  refine .sq ?_
  refine .rg (u (fa ff46_0 (.t rfl)) <| u (ld tf3 (.t rfl) rfl rfl) <| u (bc (.t rfl) (.i rfl) rfl rfl) <| .nil _) rfl ?_
  refine .bq h (.t rfl) (fun h => ?_) (fun h => ?_)
  · refine .sq ?_
    refine be h fun x1 hx1 h => ?_
    refine .rg (u (fa ff46_1 (.t rfl)) <| u (ld tf3 (.t rfl) rfl rfl) <| cnf 12000 cf19 (octet_PutSigned_c hx1) (.c (.t rfl) <| .c (.i rfl) <| .n) rfl rfl rfl <| u (mv (.t rfl)) <| u (ex (.t rfl) rfl rfl) <| u (ex (.t rfl) rfl rfl) <| u (asg (.t rfl)) <| u (asg (.t rfl)) <| .nil _) rfl ?_
    refine .sq ?_
    refine .rg (u (mv (.t rfl)) <| u (asg (.t rfl)) <| .nil _) rfl ?_
    refine .fz 12000 rfl ?_
    obtain rfl := Option.some.inj h
    exact .rt Try.func23 (.t rfl <| .n) .n rfl rfl
  · refine .skp ?_
    refine .sq ?_
    refine be h fun x2 hx2 h => ?_
    refine .rg (u (fa ff46_1 (.t rfl)) <| u (ld tf3 (.t rfl) rfl rfl) <| u (cv cv3_5 (.t rfl)) <| nu (bsn (F := e8) (l := [(IntKind.u8.wrap p_s.delta)]) pf26 (.c (.t rfl) rfl <| .n) rfl (fun _ _ => rfl) rfl) <| u (fa ff46_0 (.t rfl)) <| u (ld tf3 (.t rfl) rfl rfl) <| u (sl sf26 (.t rfl) .n (.s (.t rfl)) hx2) <| u (asg (.t rfl)) <| .nil _) rfl ?_
    obtain rfl := Option.some.inj h
    exact .rt Try.func23 (.t rfl <| .n) .n rfl rfl

theorem pad_zeros_c {n : Int} {r : List Int} (h : pad_zeros n = some r) :
    AC Try.prog 44 [.ro (.int .i64 n)] (.own 0) [(0, .arr 5 1 (List.map e8 r))] := by
  refine AC.of Try.func44 rfl rfl fun w M0 hM => ?_
  unfold pad_zeros at h
  refine .sq ?_
  refine .rg (anm e8 2 5 1 rfl rfl <| .nil _) rfl ?_
  refine .sq ?_
  refine be h fun x1 hx1 h => ?_
  refine .rg (u (mv (.t rfl)) <| mks (F := e8) (z0 := 0) 4 pf26 zf5 (.t rfl) (.t rfl) hx1 rfl <| u (asg (.t rfl)) <| .nil _) rfl ?_
  obtain rfl := Option.some.inj h
  refine .ks (l := [(2, .own 0)]) (o := [(0, some (.arr 5 1 (List.map e8 x1)))]) (fun i => bif Nat.beq i 0 then 4 else i) ?_ (.c rfl .n) (.c rfl .n) rfl
  exact .rt Try.func44 (.t rfl <| .n) (.c rfl .n) rfl rfl

theorem pad_zeros_r {n : Int} {r : List Int} (h : pad_zeros n = some r) :
    AC Try.prog 44 [.ro (.int .i64 n)] (.ro (.list 1 (List.map e8 r))) [] := AC.fz (pad_zeros_c h) rfl

theorem pad_Fill_c {z : Option Nat} {b : List Int} {r : List Int} (h : pad_Fill z b = some r) :
    AC Try.prog 24 [.ro (.list 1 (List.map e8 b))] (.own 0) [(0, .arr 5 1 (List.map e8 r))] := by
  refine AC.of Try.func24 rfl rfl fun w M0 hM => ?_
  unfold pad_Fill at h
  refine .sq ?_
  refine .rg (anm e8 2 5 1 rfl rfl <| .nil _) rfl ?_
  refine .sq ?_
  refine be h fun x1 hx1 h => ?_
  refine be h fun x2 hx2 h => ?_
  refine .rg (u (mv (.t rfl)) <| u (mv (.t rfl)) <| u (lnm sf26 (.t rfl)) <| u (di (.t rfl) (.i rfl) rfl (by decide)) <| u (bi (.i rfl) (.t rfl) rfl) <| u (di (.t rfl) (.i rfl) rfl (by decide)) <| cl [] cf44 (pad_zeros_r hx1) (.c (.t rfl) <| .n) (.inl rfl) <| nu (bsn (F := (el 1 e8)) (l := [b, x1]) pf78 (.c (.t rfl) rfl <| .c (.t rfl) rfl <| .n) rfl (fun _ _ => rfl) rfl) <| cnf 12000 cf40 (slices_Concat_c hx2) (.c (.t rfl) <| .n) rfl rfl rfl <| u (asg (.t rfl)) <| .nil _) rfl ?_
  obtain rfl := Option.some.inj h
  refine .ks (l := [(2, .own 0)]) (o := [(0, some (.arr 5 1 (List.map e8 x2)))]) (fun i => bif Nat.beq i 0 then 12000 else i) ?_ (.c rfl .n) (.c rfl .n) rfl
  exact .rt Try.func24 (.t rfl <| .n) (.c rfl .n) rfl rfl

theorem pad_Fill_r {z : Option Nat} {b : List Int} {r : List Int} (h : pad_Fill z b = some r) :
    AC Try.prog 24 [.ro (.list 1 (List.map e8 b))] (.ro (.list 1 (List.map e8 r))) [] := AC.fz (pad_Fill_c h) rfl

theorem arrive_Write_c {z : Option Nat} {p_a : Arrive} {r : List Int × Int} (h : arrive_Write z p_a = some r) :
    AC Try.prog 8 [.ro (enc_Arrive p_a)] (.tup [.own 0, .ro (.int .i64 r.2)]) [(0, .arr 5 1 (List.map e8 r.1))] := by
  refine AC.of Try.func8 rfl rfl fun w M0 hM => ?_
  unfold arrive_Write at h
  refine .sq ?_
  refine .rg (bx 1 (.t rfl) rfl rfl <| anm e8 2 5 1 rfl rfl <| u (asg (.i rfl)) <| .nil _) rfl ?_
  refine .sq ?_
  refine .sq ?_
  refine be h fun x1 hx1 h => ?_
  refine .rg (u (ld tf25 (.t rfl) rfl rfl) <| cl [] cf14 (arrive_Right_c hx1) (.c (.t rfl) <| .n) (.inl rfl) <| u (no (.t rfl)) <| .nil _) rfl ?_
  refine .bq h (.t rfl) (fun h => ?_) (fun h => ?_)
  · refine .sq ?_
    refine .rg (anm e8 100002 5 1 rfl rfl <| u (asg (.i rfl)) <| .nil _) rfl ?_
    obtain rfl := Option.some.inj h
    refine .ks (l := [(2, .own 0), (3, .ro (.int .i64 1))]) (o := [(0, some (.arr 5 1 (List.map e8 [])))]) (fun i => bif Nat.beq i 0 then 100002 else i) ?_ (.c rfl (.c rfl .n)) (.c rfl .n) rfl
    exact .rt Try.func8 (.t rfl <| .t rfl <| .n) (.c rfl .n) rfl rfl
  · refine .skp ?_
    refine .sq ?_
    refine be h fun x2 hx2 h => ?_
    refine .rg (u (fa ff25_0 (.t rfl)) <| u (ld tf22 (.t rfl) rfl rfl) <| u (cv cv22_49 (.t rfl)) <| cnf 27000 cf18 (octet_Put_c hx2) (.c (.t rfl) <| .c (.i rfl) <| .n) rfl rfl rfl <| u (mv (.t rfl)) <| u (ex (.t rfl) rfl rfl) <| u (ex (.t rfl) rfl rfl) <| u (asg (.t rfl)) <| u (asg (.t rfl)) <| .nil _) rfl ?_
    refine .sq ?_
    refine be h fun x3 hx3 h => ?_
    refine .rg (u (fa ff25_3 (.t rfl)) <| u (ld tf23 (.t rfl) rfl rfl) <| u (lnm sf23 (.t rfl)) <| u (cv cv3_49 (.t rfl)) <| cnf 35000 cf18 (octet_Put_c hx3) (.c (.t rfl) <| .c (.i rfl) <| .n) rfl rfl rfl <| u (mv (.t rfl)) <| u (ex (.t rfl) rfl rfl) <| u (ex (.t rfl) rfl rfl) <| u (asg (.t rfl)) <| u (asg (.t rfl)) <| .nil _) rfl ?_
    refine .sq ?_
    refine be h fun x4 hx4 h => ?_
    refine .rg (u (fa ff25_1 (.t rfl)) <| u (ld tf3 (.t rfl) rfl rfl) <| cnf 41000 cf19 (octet_PutSigned_c hx4) (.c (.t rfl) <| .c (.i rfl) <| .n) rfl rfl rfl <| u (mv (.t rfl)) <| u (ex (.t rfl) rfl rfl) <| u (ex (.t rfl) rfl rfl) <| u (asg (.t rfl)) <| u (asg (.t rfl)) <| .nil _) rfl ?_
    refine .sq ?_
    refine .fz 27000 rfl ?_
    refine .fz 35000 rfl ?_
    refine .fz 41000 rfl ?_
    refine be h fun x5 hx5 h => ?_
    refine .rg (u (mv (.t rfl)) <| u (mv (.t rfl)) <| u (mv (.t rfl)) <| u (fa ff25_2 (.t rfl)) <| u (ld tf5 (.t rfl) rfl rfl) <| nu (bsn (F := e8) (l := [p_a.count]) pf26 (.c (.t rfl) rfl <| .n) rfl (fun _ _ => rfl) rfl) <| nu (bsn (F := (el 1 e8)) (l := [x2.1, x3.1, x4.1, [p_a.count]]) pf78 (.c (.t rfl) rfl <| .c (.t rfl) rfl <| .c (.t rfl) rfl <| .c (.t rfl) rfl <| .n) rfl (fun _ _ => rfl) rfl) <| cnf 51000 cf20 (octet_Join_c hx5) (.c (.t rfl) <| .n) rfl rfl rfl <| u (asg (.t rfl)) <| .nil _) rfl ?_
    refine .sq ?_
    refine be h fun x6 hx6 h => ?_
    refine be h fun x7 hx7 h => ?_
    refine .rg (u (fa ff25_3 (.t rfl)) <| u (ld tf23 (.t rfl) rfl rfl) <| cl [] cf22 (arrive_whats_r hx6) (.c (.t rfl) <| .n) (.inl rfl) <| cnf 56000 cf21 (chunk_Write_c hx7) (.c (.t rfl) <| .n) rfl rfl rfl <| u (mv (.t rfl)) <| u (ex (.t rfl) rfl rfl) <| u (ex (.t rfl) rfl rfl) <| u (asg (.t rfl)) <| u (asg (.t rfl)) <| .nil _) rfl ?_
    refine .sq ?_
    refine .sq ?_
    refine .rg (u (mv (.t rfl)) <| u (lom sf52 (.t rfl) rfl) <| u (mv (.i rfl)) <| .nil _) rfl ?_
    refine .bl ?_
    unfold arrive_Write_l1 at h
    refine .ks (fun i => bif Nat.beq i 10 then 51000 else i) (.lo (fun (s : List Int × Int) => ⟨[(1, .ptr 1 0), (10, .own 10), (58, .own 56000), (59, .ro (.int .i64 (x7.1.length : Int))), (60, .ro (.int .i64 s.2))], [(1, some (.box [.ro (.int .u16 p_a.base), .ro (.int .i64 p_a.time), .ro (.int .u8 p_a.count), .ro (.list 2 (List.map cells_Seen p_a.seen))])), (10, some (.arr 5 1 (List.map e8 s.1))), (56000, some (.arr 22 1 (List.map (ei .u16) x7.1)))]⟩) h ?_) (.c rfl (.c rfl (.c rfl (.c rfl (.c rfl .n))))) (.c rfl (.c rfl (.c rfl .n))) rfl
    rintro ⟨v8, v9⟩ u1 h ih1 hx1
    replace h : arrive_Write_s1 z p_a x7 v8 v9 = _ := h
    unfold arrive_Write_s1 at h
    refine .sq ?_
    refine .rg (u (bc (.t rfl) (.t rfl) rfl rfl) <| .nil _) rfl ?_
    refine .sq ?_
    refine .bq h (.t rfl) (fun h => ?_) (fun h => ?_)
    · refine .skp ?_
      refine .sq ?_
      refine .bl ?_
      refine .sq ?_
      refine be h fun x10 hx10 h => ?_
      refine .rg (u (io sf52 (.t rfl) rfl (.t rfl) (ix_map (ei .u16) hx10)) <| u (le tf22 (.t rfl) rfl (ix_lt (ix_map _ hx10)).2.2 rfl) <| u (asg (.t rfl)) <| .nil _) rfl ?_
      refine .sq ?_
      refine be h fun x11 hx11 h => ?_
      refine .rg (u (mv (.t rfl)) <| u (cv cv22_49 (.t rfl)) <| cnf 68000 cf18 (octet_Put_c hx11) (.c (.t rfl) <| .c (.i rfl) <| .n) rfl rfl rfl <| u (mv (.t rfl)) <| u (ex (.t rfl) rfl rfl) <| u (ex (.t rfl) rfl rfl) <| u (asg (.t rfl)) <| u (asg (.t rfl)) <| .nil _) rfl ?_
      refine be h fun x12 hx12 h => ?_
      refine .rg (u (mv (.t rfl)) <| u (mv (.t rfl)) <| apo 72 pf26 (.t rfl) rfl (.t rfl) rfl hx12 rfl <| u (asg (.t rfl)) <| .nil _) rfl ?_
      refine .ib ?_
      refine .rg (u (bi (.t rfl) (.i rfl) rfl) <| u (mv (.t rfl)) <| .nil _) rfl ?_
      exact .ks (fun i => bif Nat.beq i 10 then 72 else i) (.il (ih1 (x12, (ar .add .i64 v9 1)) (nxi h))) (.c rfl (.c rfl (.c rfl (.c rfl (.c rfl .n))))) (.c rfl (.c rfl (.c rfl .n))) rfl
    · refine .xt rfl ?_
      replace h := mpR h hx1
      refine .sq ?_
      refine .sq ?_
      refine .rg (u (fa ff25_3 (.t rfl)) <| u (ld tf23 (.t rfl) rfl rfl) <| u (lnm sf23 (.t rfl)) <| u (mv (.i rfl)) <| .nil _) rfl ?_
      refine .bl ?_
      unfold arrive_Write_l2 at h
      refine .kq (.lo (fun (s : List Int × Int) => ⟨[(10, .own 10), (75, .ro (.list 2 (List.map cells_Seen p_a.seen))), (76, .ro (.int .i64 (p_a.seen.length : Int))), (77, .ro (.int .i64 s.2))], [(10, some (.arr 5 1 (List.map e8 s.1)))]⟩) h ?_) (.c rfl (.c rfl (.c rfl (.c rfl .n)))) (.c rfl .n)
      rintro ⟨v13, v14⟩ u2 h ih2 hx2
      replace h : arrive_Write_s2 z p_a v13 v14 = _ := h
      unfold arrive_Write_s2 at h
      refine .sq ?_
      refine .rg (u (bc (.t rfl) (.t rfl) rfl rfl) <| .nil _) rfl ?_
      refine .sq ?_
      refine .bq h (.t rfl) (fun h => ?_) (fun h => ?_)
      · refine .skp ?_
        refine .sq ?_
        refine .bl ?_
        refine .sq ?_
        refine be h fun x15 hx15 h => ?_
        refine .rg (u (ia sf23 (.t rfl) (.t rfl) (ix_map cells_Seen hx15)) <| u (lr tf46 (.t rfl) rfl) <| al 18 zf46 rfl <| st tf46 (.t rfl) rfl (.t rfl) rfl rfl rfl <| .nil _) rfl ?_
        refine be h fun x16 hx16 h => ?_
        refine be h fun x17 hx17 h => ?_
        refine .rg (u (mv (.t rfl)) <| u (ld tf46 (.t rfl) rfl rfl) <| cl [] cf23 (arrive_delta_c hx16) (.c (.t rfl) <| .n) (.inl rfl) <| ap 84 pf26 (.t rfl) rfl (.t rfl) hx17 rfl <| u (asg (.t rfl)) <| .nil _) rfl ?_
        refine .ib ?_
        refine .rg (u (bi (.t rfl) (.i rfl) rfl) <| u (mv (.t rfl)) <| .nil _) rfl ?_
        exact .ks (fun i => bif Nat.beq i 10 then 84 else i) (.il (ih2 (x17, (ar .add .i64 v14 1)) (nxi h))) (.c rfl (.c rfl (.c rfl (.c rfl .n)))) (.c rfl .n) rfl
      · refine .xt rfl ?_
        replace h := mpR h hx2
        refine .sq ?_
        refine .fz 10 rfl ?_
        refine be h fun x18 hx18 h => ?_
        refine .rg (u (mv (.t rfl)) <| cnf 88000 cf24 (pad_Fill_c hx18) (.c (.t rfl) <| .n) rfl rfl rfl <| u (asg (.t rfl)) <| u (asg (.i rfl)) <| .nil _) rfl ?_
        obtain rfl := Option.some.inj h
        refine .ks (l := [(2, .own 0), (3, .ro (.int .i64 0))]) (o := [(0, some (.arr 5 1 (List.map e8 x18)))]) (fun i => bif Nat.beq i 0 then 88000 else i) ?_ (.c rfl (.c rfl .n)) (.c rfl .n) rfl
        exact .rt Try.func8 (.t rfl <| .t rfl <| .n) (.c rfl .n) rfl rfl

theorem arrive_Write_r {z : Option Nat} {p_a : Arrive} {r : List Int × Int} (h : arrive_Write z p_a = some r) :
    AC Try.prog 8 [.ro (enc_Arrive p_a)] (.ro (.tup [.list 1 (List.map e8 r.1), .int .i64 r.2])) [] := AC.fz (arrive_Write_c h) rfl

theorem octet_there_c (b : List Int) (at_ : Int) (n : Int) :
    AC Try.prog 62 [.ro (.list 1 (List.map e8 b)), .ro (.int .i64 at_), .ro (.int .i64 n)] (.ro (.bool (octet_there b at_ n))) [] := by
  obtain ⟨r, h⟩ : ∃ r, octet_there b at_ n = r := ⟨_, rfl⟩
  rw [h]
  refine AC.of Try.func62 rfl rfl fun w M0 hM => ?_
  unfold octet_there at h
  refine .sq ?_
  refine .rg (u (asg .b) <| .nil _) rfl ?_
  refine .sq ?_
  refine .rg (u (mv (.t rfl)) <| u (mv (.t rfl)) <| u (lnm sf26 (.t rfl)) <| u (bc (.t rfl) (.t rfl) rfl rfl) <| u (mv (.t rfl)) <| gd rfl rfl (fun hB => mv (.t rfl)) <| gd rfl rfl (fun hB => mv (.t rfl)) <| gd rfl rfl (fun hB => lnm sf26 (.m rfl hB)) <| gd rfl rfl (fun hB => mv (.t rfl)) <| gd rfl rfl (fun hB => bi (.m rfl hB) (.m rfl hB) rfl) <| gd rfl rfl (fun hB => bc (.m rfl hB) (.m rfl hB) rfl rfl) <| u (pka (.t rfl) (.t rfl)) <| u (asg (.t rfl)) <| .nil _) rfl ?_
  subst h
  exact .rt Try.func62 (.t rfl <| .n) .n rfl rfl

theorem octet_Get_c {z : Option Nat} {b : List Int} {at_ : Int} {n : Int} {r : Int × Int} (h : octet_Get z b at_ n = some r) :
    AC Try.prog 46 [.ro (.list 1 (List.map e8 b)), .ro (.int .i64 at_), .ro (.int .i64 n)] (.ro (.tup [.int .u64 r.1, .int .i64 r.2])) [] := by
  refine AC.of Try.func46 rfl rfl fun w M0 hM => ?_
  unfold octet_Get at h
  refine .sq ?_
  refine .rg (u (asg (.i rfl)) <| u (asg (.i rfl)) <| .nil _) rfl ?_
  refine .sq ?_
  refine .bl ?_
  refine .sq ?_
  refine .sq ?_
  refine .rg (u (mv (.t rfl)) <| cl [] cf38 (octet_sized_c n) (.c (.t rfl) <| .n) (.inl rfl) <| u (no (.t rfl)) <| u (asg (.t rfl)) <| .nil _) rfl ?_
  refine .jq (t := some r) (fun (a : Bool) => ⟨[(0, .ro (.list 1 (List.map e8 b))), (1, .ro (.int .i64 at_)), (2, .ro (.int .i64 n)), (11, .ro (.bool a))], []⟩) (fun (a : Bool) => octet_Get_j1 z b at_ n a) ?_ (fun J1 => ?_)
  · intro v1 h
    replace h : octet_Get_j1 z b at_ n v1 = _ := h
    unfold octet_Get_j1 at h
    refine .bq h (.t rfl) (fun h => ?_) (fun h => ?_)
    · refine .sq ?_
      refine .rg (u (asg (.i rfl)) <| u (asg (.i rfl)) <| .nil _) rfl ?_
      obtain rfl := Option.some.inj h
      exact .rt Try.func46 (.t rfl <| .t rfl <| .n) .n rfl rfl
    · refine .sq ?_
      refine .rg (u (mv (.t rfl)) <| u (mv (.t rfl)) <| u (mv (.t rfl)) <| cl [] cf62 (octet_there_c b at_ n) (.c (.t rfl) <| .c (.t rfl) <| .c (.t rfl) <| .n) (.inl rfl) <| u (no (.t rfl)) <| u (asg (.t rfl)) <| .nil _) rfl ?_
      refine .bq h (.t rfl) (fun h => ?_) (fun h => ?_)
      · refine .sq ?_
        refine .rg (u (asg (.i rfl)) <| u (asg (.i rfl)) <| .nil _) rfl ?_
        obtain rfl := Option.some.inj h
        exact .rt Try.func46 (.t rfl <| .t rfl <| .n) .n rfl rfl
      · refine .skp ?_
        refine .ib ?_
        refine .sq ?_
        refine .rg (u (asg (.i rfl)) <| .nil _) rfl ?_
        refine .sq ?_
        refine .sq ?_
        refine be h fun x2 hx2 h => ?_
        refine .rg (u (mv (.t rfl)) <| u (mv (.t rfl)) <| u (mv (.t rfl)) <| u (mv (.t rfl)) <| u (bi (.t rfl) (.t rfl) rfl) <| u (sl sf26 (.t rfl) (.s (.t rfl)) (.s (.t rfl)) hx2) <| u (lnm sf26 (.t rfl)) <| u (mv (.i rfl)) <| .nil _) rfl ?_
        refine .bl ?_
        unfold octet_Get_l2 at h
        refine .kq (.lo (fun (s : Int × Int) => ⟨[(8, .ro (.int .u64 s.1)), (28, .ro (.list 1 (List.map e8 x2))), (29, .ro (.int .i64 (x2.length : Int))), (30, .ro (.int .i64 s.2))], []⟩) h ?_) (.c rfl (.c rfl (.c rfl (.c rfl .n)))) .n
        rintro ⟨v3, v4⟩ u2 h ih2 hx2
        replace h : octet_Get_s2 z x2 v3 v4 = _ := h
        unfold octet_Get_s2 at h
        refine .sq ?_
        refine .rg (u (bc (.t rfl) (.t rfl) rfl rfl) <| .nil _) rfl ?_
        refine .sq ?_
        refine .bq h (.t rfl) (fun h => ?_) (fun h => ?_)
        · refine .skp ?_
          refine .sq ?_
          refine .bl ?_
          refine .sq ?_
          refine be h fun x5 hx5 h => ?_
          refine .rg (u (ia sf26 (.t rfl) (.t rfl) (ix_map e8 hx5)) <| u (lr tf5 (.t rfl) rfl) <| u (asg (.t rfl)) <| .nil _) rfl ?_
          refine .rg (u (mv (.t rfl)) <| u (sh (.t rfl) (.i rfl) rfl (by decide)) <| u (mv (.t rfl)) <| u (cv cv5_49 (.t rfl)) <| u (bi (.t rfl) (.t rfl) rfl) <| u (asg (.t rfl)) <| .nil _) rfl ?_
          refine .ib ?_
          refine .rg (u (bi (.t rfl) (.i rfl) rfl) <| u (mv (.t rfl)) <| .nil _) rfl ?_
          exact .kq (.il (ih2 ((ar .or .u64 (sf .shl .u64 v3 8) (IntKind.u64.wrap x5)), (ar .add .i64 v4 1)) (nxi h))) (.c rfl (.c rfl (.c rfl (.c rfl .n)))) .n
        · refine .xt rfl ?_
          replace h := mpR h hx2
          refine .sq ?_
          refine .rg (u (mv (.t rfl)) <| u (asg (.t rfl)) <| u (asg (.i rfl)) <| .nil _) rfl ?_
          obtain rfl := Option.some.inj h
          exact .rt Try.func46 (.t rfl <| .t rfl <| .n) .n rfl rfl
  refine .bq h (.t rfl) (fun h => ?_) (fun h => ?_)
  · refine .skp ?_
    exact .kq (J1 (!(octet_sized n)) h) (.c rfl (.c rfl (.c rfl (.c rfl .n)))) .n
  · refine .rg (u (mv (.t rfl)) <| u (bc (.t rfl) (.i rfl) rfl rfl) <| u (asg (.t rfl)) <| .nil _) rfl ?_
    exact .kq (J1 (cm .lss at_ 0) h) (.c rfl (.c rfl (.c rfl (.c rfl .n)))) .n

theorem octet_Signed_c {z : Option Nat} {b : List Int} {at_ : Int} {n : Int} {r : Int × Int} (h : octet_Signed z b at_ n = some r) :
    AC Try.prog 47 [.ro (.list 1 (List.map e8 b)), .ro (.int .i64 at_), .ro (.int .i64 n)] (.ro (.tup [.int .i64 r.1, .int .i64 r.2])) [] := by
  refine AC.of Try.func47 rfl rfl fun w M0 hM => ?_
  unfold octet_Signed at h
  refine .sq ?_
  refine .rg (u (asg (.i rfl)) <| u (asg (.i rfl)) <| .nil _) rfl ?_
  refine .sq ?_
  refine be h fun x1 hx1 h => ?_
  refine .rg (u (mv (.t rfl)) <| u (mv (.t rfl)) <| u (mv (.t rfl)) <| cl [] cf46 (octet_Get_c hx1) (.c (.t rfl) <| .c (.t rfl) <| .c (.t rfl) <| .n) (.inl rfl) <| u (mv (.t rfl)) <| u (ex (.t rfl) rfl rfl) <| u (ex (.t rfl) rfl rfl) <| u (asg (.t rfl)) <| u (asg (.t rfl)) <| .nil _) rfl ?_
  refine .sq ?_
  refine .sq ?_
  refine .rg (u (mv (.t rfl)) <| u (bc (.t rfl) (.i rfl) rfl rfl) <| .nil _) rfl ?_
  refine .bq h (.t rfl) (fun h => ?_) (fun h => ?_)
  · refine .sq ?_
    refine .rg (u (mv (.t rfl)) <| u (asg (.i rfl)) <| u (asg (.t rfl)) <| .nil _) rfl ?_
    obtain rfl := Option.some.inj h
    exact .rt Try.func47 (.t rfl <| .t rfl <| .n) .n rfl rfl
  · refine .skp ?_
    refine .sq ?_
    refine .rg (u (mv (.t rfl)) <| u (bi (.i rfl) (.t rfl) rfl) <| u (bi (.i rfl) (.t rfl) rfl) <| u (asg (.t rfl)) <| .nil _) rfl ?_
    refine .sq ?_
    refine be h fun x2 hx2 h => ?_
    refine be h fun x3 hx3 h => ?_
    refine .rg (u (mv (.t rfl)) <| u (mv (.t rfl)) <| u (sho (.t rfl) (.t rfl) rfl hx2) <| u (cv cv49_2 (.t rfl)) <| u (mv (.t rfl)) <| u (sho (.t rfl) (.t rfl) rfl hx3) <| u (asg (.t rfl)) <| u (asg (.i rfl)) <| .nil _) rfl ?_
    obtain rfl := Option.some.inj h
    exact .rt Try.func47 (.t rfl <| .t rfl <| .n) .n rfl rfl

theorem slices_Chunk_byte63_c {l : List Int} {n : Int} (hn : cm .lss n 1 = false) : AC Try.prog 63 [.ro (.list 1 (List.map e8 l)), .ro (.int .i64 n)] (.fn (.func 70) [] [.rptr [.list 1 (List.map e8 l)], .rptr [.int .i64 n]]) [] := by
  refine AC.of Try.func63 rfl rfl fun w M0 hM => ?_
  refine .sq ?_
  refine .rg (bx 2 (.t rfl) rfl rfl <| bx 3 (.t rfl) rfl rfl <| u (asg (.r rfl)) <| .nil _) rfl ?_
  refine .sq ?_
  refine .sq ?_
  refine .rg (u (ld tf3 (.t rfl) rfl rfl) <| u (bc (.t rfl) (.i rfl) rfl rfl) <| .nil _) rfl ?_
  refine .cf (.t rfl) hn ?_
  refine .skp ?_
  refine .sq ?_
  refine .fb 2 rfl rfl ?_
  refine .fb 3 rfl rfl ?_
  refine .rg (u (mfn (.c (.t rfl) <| .c (.t rfl) <| .n)) <| u (asg (.t rfl)) <| .nil _) rfl ?_
  exact .rt Try.func63 (.t rfl <| .n) .n rfl rfl

theorem arrive_numbers_c {z : Option Nat} {b : List Int} {r : List Int} (h : arrive_numbers z b = some r) :
    AC Try.prog 48 [.ro (.list 1 (List.map e8 b))] (.own 0) [(0, .arr 22 1 (List.map (ei .u16) r))] := by
  refine AC.of Try.func48 rfl rfl fun w M0 hM => ?_
  unfold arrive_numbers at h
  refine .sq ?_
  refine .rg (anm (ei .u16) 2 22 1 rfl rfl <| .nil _) rfl ?_
  refine .sq ?_
  refine .rg (al 3 zf52_0 rfl <| .nil _) rfl ?_
  refine .th (F := (ei .u16)) 3 0 700300 22 1 rfl rfl rfl ?_
  refine .sq ?_
  refine .sq ?_
  refine .rg (u (mv (.t rfl)) <| cnf 0 cf63 (slices_Chunk_byte63_c (l := b) (n := 2) rfl) (.c (.t rfl) <| .c (.i rfl) <| .n) rfl rfl rfl <| .nil _) rfl ?_
  refine .bl ?_
  refine be h fun x1 hx1 h => ?_
  unfold arrive_numbers_l1 at h
  refine .kq (.rgc (n := 2) (F := e8) (fun (s : List Int) => ⟨[(3, .ptr 3 0), (8, .fn (.func 70) [] [.rptr [.list 1 (List.map e8 b)], .rptr [.int .i64 2]])], [(3, some (.box [.own 700300])), (700300, some (.arr 22 1 (List.map (ei .u16) s)))]⟩) [3, 8] chunk70_in cf70 h (lnO_le hx1) rfl (fun _ => rfl) (fun _ => rfl) rfl ⟨rfl, rfl⟩ ?_ ?_) (.c rfl (.c rfl .n)) (.c rfl (.c rfl .n))
  · rintro D1 l1 r1 pv1 R1 y1 v2 u1 h ih1 hx1 jr1 jx1 bg1
    replace h : arrive_numbers_s1 z y1 v2 = _ := h
    unfold arrive_numbers_s1 at h
    refine .rg (u (asg (.t rfl)) <| .nil _) rfl ?_
    refine bg1 _ _ ?_
    refine .bl ?_
    refine .sq ?_
    refine be h fun x3 hx3 h => ?_
    refine .rg (u (mv (.t rfl)) <| cl [] cf46 (octet_Get_c hx3) (.c (.t rfl) <| .c (.i rfl) <| .c (.i rfl) <| .n) (.inl rfl) <| u (mv (.t rfl)) <| u (ex (.t rfl) rfl rfl) <| u (ex (.t rfl) rfl rfl) <| u (asg (.t rfl)) <| u (asg (.t rfl)) <| .nil _) rfl ?_
    refine be h fun x4 hx4 h => ?_
    refine .rg (u (ld tf52 (.t rfl) rfl rfl) <| u (mv (.t rfl)) <| u (cv cv49_22 (.t rfl)) <| bs (F := (ei .u16)) (l := [(IntKind.u16.wrap x3.1)]) 18 pf52 (.c (.t rfl) rfl <| .n) rfl (fun _ _ => rfl) rfl rfl <| apo 19 pf52 (.t rfl) rfl (.t rfl) rfl hx4 rfl <| st tf52 (.t rfl) rfl (.t rfl) rfl rfl rfl <| .nil _) rfl ?_
    refine .ib ?_
    exact .ks (fun i => bif Nat.beq i 700300 then 19 else i) (ih1 x4 (nxi h)) (.c rfl (.c rfl .n)) (.c rfl (.c rfl .n)) rfl
  · rintro D1 v2 h
    replace h : arrive_numbers_d1 z v2 = _ := h
    unfold arrive_numbers_d1 at h
    refine .ib ?_
    refine .sq ?_
    refine .rg (u (ld tf52 (.t rfl) rfl rfl) <| u (asg (.t rfl)) <| .nil _) rfl ?_
    obtain rfl := Option.some.inj h
    refine .ks (l := [(2, .own 0)]) (o := [(0, some (.arr 22 1 (List.map (ei .u16) v2)))]) (fun i => bif Nat.beq i 0 then 700300 else i) ?_ (.c rfl .n) (.c rfl .n) rfl
    exact .rt Try.func48 (.t rfl <| .n) (.c rfl .n) rfl rfl

theorem arrive_numbers_r {z : Option Nat} {b : List Int} {r : List Int} (h : arrive_numbers z b = some r) :
    AC Try.prog 48 [.ro (.list 1 (List.map e8 b))] (.ro (.list 1 (List.map (ei .u16) r))) [] := AC.fz (arrive_numbers_c h) rfl

theorem math_bits_Mul32_c (x : Int) (y : Int) :
    AC Try.prog 81 [.ro (.int .u32 x), .ro (.int .u32 y)] (.ro (.tup [.int .u32 ((math_bits_Mul32 x y).1), .int .u32 ((math_bits_Mul32 x y).2)])) [] := by
  obtain ⟨r, h⟩ : ∃ r, math_bits_Mul32 x y = r := ⟨_, rfl⟩
  rw [h]
  refine AC.of Try.func81 rfl rfl fun w M0 hM => ?_
  unfold math_bits_Mul32 at h
  refine .sq ?_
  refine .rg (u (asg (.i rfl)) <| u (asg (.i rfl)) <| .nil _) rfl ?_
  refine .sq ?_
  refine .rg (u (mv (.t rfl)) <| u (cv cv65_49 (.t rfl)) <| u (mv (.t rfl)) <| u (cv cv65_49 (.t rfl)) <| u (bi (.t rfl) (.t rfl) rfl) <| u (asg (.t rfl)) <| .nil _) rfl ?_
  refine .sq ?_
  refine .rg (u (mv (.t rfl)) <| u (sh (.t rfl) (.i rfl) rfl (by decide)) <| u (cv cv49_65 (.t rfl)) <| u (mv (.t rfl)) <| u (cv cv49_65 (.t rfl)) <| u (asg (.t rfl)) <| u (asg (.t rfl)) <| .nil _) rfl ?_
  subst h
  exact .rt Try.func81 (.t rfl <| .t rfl <| .n) .n rfl rfl

theorem math_bits_Mul64_c (x : Int) (y : Int) :
    AC Try.prog 82 [.ro (.int .u64 x), .ro (.int .u64 y)] (.ro (.tup [.int .u64 ((math_bits_Mul64 x y).1), .int .u64 ((math_bits_Mul64 x y).2)])) [] := by
  obtain ⟨r, h⟩ : ∃ r, math_bits_Mul64 x y = r := ⟨_, rfl⟩
  rw [h]
  refine AC.of Try.func82 rfl rfl fun w M0 hM => ?_
  unfold math_bits_Mul64 at h
  refine .sq ?_
  refine .rg (u (asg (.i rfl)) <| u (asg (.i rfl)) <| .nil _) rfl ?_
  refine .sq ?_
  refine .rg (u (mv (.t rfl)) <| u (bi (.t rfl) (.i rfl) rfl) <| u (asg (.t rfl)) <| .nil _) rfl ?_
  refine .sq ?_
  refine .rg (u (mv (.t rfl)) <| u (sh (.t rfl) (.i rfl) rfl (by decide)) <| u (asg (.t rfl)) <| .nil _) rfl ?_
  refine .sq ?_
  refine .rg (u (mv (.t rfl)) <| u (bi (.t rfl) (.i rfl) rfl) <| u (asg (.t rfl)) <| .nil _) rfl ?_
  refine .sq ?_
  refine .rg (u (mv (.t rfl)) <| u (sh (.t rfl) (.i rfl) rfl (by decide)) <| u (asg (.t rfl)) <| .nil _) rfl ?_
  refine .sq ?_
  refine .rg (u (mv (.t rfl)) <| u (mv (.t rfl)) <| u (bi (.t rfl) (.t rfl) rfl) <| u (asg (.t rfl)) <| .nil _) rfl ?_
  refine .sq ?_
  refine .rg (u (mv (.t rfl)) <| u (mv (.t rfl)) <| u (bi (.t rfl) (.t rfl) rfl) <| u (mv (.t rfl)) <| u (sh (.t rfl) (.i rfl) rfl (by decide)) <| u (bi (.t rfl) (.t rfl) rfl) <| u (asg (.t rfl)) <| .nil _) rfl ?_
  refine .sq ?_
  refine .rg (u (mv (.t rfl)) <| u (bi (.t rfl) (.i rfl) rfl) <| u (asg (.t rfl)) <| .nil _) rfl ?_
  refine .sq ?_
  refine .rg (u (mv (.t rfl)) <| u (sh (.t rfl) (.i rfl) rfl (by decide)) <| u (asg (.t rfl)) <| .nil _) rfl ?_
  refine .sq ?_
  refine .rg (u (mv (.t rfl)) <| u (mv (.t rfl)) <| u (mv (.t rfl)) <| u (bi (.t rfl) (.t rfl) rfl) <| u (bi (.t rfl) (.t rfl) rfl) <| u (asg (.t rfl)) <| .nil _) rfl ?_
  refine .sq ?_
  refine .rg (u (mv (.t rfl)) <| u (mv (.t rfl)) <| u (bi (.t rfl) (.t rfl) rfl) <| u (mv (.t rfl)) <| u (bi (.t rfl) (.t rfl) rfl) <| u (mv (.t rfl)) <| u (sh (.t rfl) (.i rfl) rfl (by decide)) <| u (bi (.t rfl) (.t rfl) rfl) <| u (asg (.t rfl)) <| .nil _) rfl ?_
  refine .sq ?_
  refine .rg (u (mv (.t rfl)) <| u (mv (.t rfl)) <| u (bi (.t rfl) (.t rfl) rfl) <| u (asg (.t rfl)) <| .nil _) rfl ?_
  subst h
  exact .rt Try.func82 (.t rfl <| .t rfl <| .n) .n rfl rfl

theorem math_bits_Mul_c (x : Int) (y : Int) :
    AC Try.prog 78 [.ro (.int .u64 x), .ro (.int .u64 y)] (.ro (.tup [.int .u64 ((math_bits_Mul x y).1), .int .u64 ((math_bits_Mul x y).2)])) [] := by
  obtain ⟨r, h⟩ : ∃ r, math_bits_Mul x y = r := ⟨_, rfl⟩
  rw [h]
  refine AC.of Try.func78 rfl rfl fun w M0 hM => ?_
  unfold math_bits_Mul at h
  refine .sq ?_
  refine .rg (u (asg (.i rfl)) <| u (asg (.i rfl)) <| .nil _) rfl ?_
  refine .sq ?_
  refine .cf .b rfl ?_
  refine .skp ?_
  refine .sq ?_
  refine .rg (u (mv (.t rfl)) <| u (mv (.t rfl)) <| cl [] cf82 (math_bits_Mul64_c x y) (.c (.t rfl) <| .c (.t rfl) <| .n) (.inl rfl) <| u (mv (.t rfl)) <| u (ex (.t rfl) rfl rfl) <| u (ex (.t rfl) rfl rfl) <| u (asg (.t rfl)) <| u (asg (.t rfl)) <| .nil _) rfl ?_
  refine .sq ?_
  refine .rg (u (mv (.t rfl)) <| u (mv (.t rfl)) <| u (asg (.t rfl)) <| u (asg (.t rfl)) <| .nil _) rfl ?_
  subst h
  exact .rt Try.func78 (.t rfl <| .t rfl <| .n) .n rfl rfl

theorem slices_Repeat_c {z : Option Nat} {x : List Int} {count : Int} {r : List Int} (h : slices_Repeat z x count = some r) :
    AC Try.prog 71 [.ro (.list 1 (List.map (ei .i64) x)), .ro (.int .i64 count)] (.own 0) [(0, .arr 3 1 (List.map (ei .i64) r))] := by
  refine AC.of Try.func71 rfl rfl fun w M0 hM => ?_
  unfold slices_Repeat at h
  refine .sq ?_
  refine .rg (anm (ei .i64) 4 3 1 rfl rfl <| .nil _) rfl ?_
  refine .sq ?_
  refine .sq ?_
  refine .rg (u (mv (.t rfl)) <| u (bc (.t rfl) (.i rfl) rfl rfl) <| .nil _) rfl ?_
  refine .jq (t := some r) (fun (a : Unit) => ⟨[(0, .ro (.list 1 (List.map (ei .i64) x))), (1, .ro (.int .i64 count))], []⟩) (fun (a : Unit) => slices_Repeat_j1 z x count) ?_ (fun J1 => ?_)
  · intro _ h
    replace h : slices_Repeat_j1 z x count = _ := h
    unfold slices_Repeat_j1 at h
    refine .sq ?_
    refine .rg (u (mv (.t rfl)) <| u (lnm sf55 (.t rfl)) <| u (cv cv3_77 (.t rfl)) <| u (mv (.t rfl)) <| u (cv cv3_77 (.t rfl)) <| cl [] cf78 (math_bits_Mul_c (IntKind.u64.wrap (x.length : Int)) (IntKind.u64.wrap count)) (.c (.t rfl) <| .c (.t rfl) <| .n) (.inl rfl) <| u (mv (.t rfl)) <| u (ex (.t rfl) rfl rfl) <| u (ex (.t rfl) rfl rfl) <| u (asg (.t rfl)) <| u (asg (.t rfl)) <| .nil _) rfl ?_
    refine .sq ?_
    refine .sq ?_
    refine .rg (u (mv (.t rfl)) <| u (bc (.t rfl) (.i rfl) rfl rfl) <| u (mv (.t rfl)) <| gd rfl rfl (fun hB => mv (.t rfl)) <| gd rfl rfl (fun hB => bc (.m rfl hB) (.i rfl) rfl rfl) <| u (pko (.t rfl) (.t rfl)) <| .nil _) rfl ?_
    refine .jq (t := some r) (fun (a : Unit) => ⟨[(0, .ro (.list 1 (List.map (ei .i64) x))), (6, .ro (.int .u64 ((math_bits_Mul (IntKind.u64.wrap (x.length : Int)) (IntKind.u64.wrap count)).2)))], []⟩) (fun (a : Unit) => slices_Repeat_j2 z x count) ?_ (fun J2 => ?_)
    · intro _ h
      replace h : slices_Repeat_j2 z x count = _ := h
      unfold slices_Repeat_j2 at h
      refine .sq ?_
      refine be h fun x1 hx1 h => ?_
      refine .rg (u (mv (.t rfl)) <| u (cv cv77_3 (.t rfl)) <| mks (F := (ei .i64)) (z0 := 0) 30 pf55 zf3 (.t rfl) (.t rfl) hx1 rfl <| u (asg (.t rfl)) <| .nil _) rfl ?_
      refine .sq ?_
      refine .rg (u (mv (.t rfl)) <| u (mv (.t rfl)) <| cpc (F := (ei .i64)) (l := x1) (m := x) (a := 0) (b := (x1.length : Int)) sf55 (.t rfl) (.inr ⟨rfl, rfl, rfl⟩) (by omega) rfl (.r (.t rfl)) <| u (asg (.t rfl)) <| .nil _) rfl ?_
      refine .sq ?_
      refine .bl ?_
      unfold slices_Repeat_l3 at h
      refine .ks (fun i => bif Nat.beq i 7 then 30 else i) (.lo (fun (s : List Int × Int) => ⟨[(7, .own 7), (8, .ro (.int .i64 s.2))], [(7, some (.arr 3 1 (List.map (ei .i64) s.1)))]⟩) h ?_) (.c rfl (.c rfl .n)) (.c rfl .n) rfl
      rintro ⟨v2, v3⟩ u3 h ih3 hx3
      replace h : slices_Repeat_s3 z v2 v3 = _ := h
      unfold slices_Repeat_s3 at h
      refine .sq ?_
      refine .sq ?_
      refine .rg (u (mv (.t rfl)) <| u (mv (.t rfl)) <| u (lom sf55 (.t rfl) rfl) <| u (bc (.t rfl) (.t rfl) rfl rfl) <| .nil _) rfl ?_
      refine .bq h (.t rfl) (fun h => ?_) (fun h => ?_)
      · refine .skp ?_
        refine .bl ?_
        refine be h fun x4 hx4 h => ?_
        refine be h fun x5 hx5 h => ?_
        refine .rd mixed (u (mv (.t rfl)) <| u (mv (.t rfl)) <| u (mv (.t rfl)) <| u (slv (F := (ei .i64)) sf55 (.t rfl) rfl (.s (.t rfl)) .n hx4) <| u (mv (.t rfl)) <| u (mv (.t rfl)) <| u (slv (F := (ei .i64)) sf55 (.t rfl) rfl .n (.s (.t rfl)) hx5) <| cpc (F := (ei .i64)) (l := v2) (m := x5) (a := v3) (b := (v2.length : Int)) sf55 (.t rfl) (.inl rfl) (sub_bd hx4) rfl (.v (F := (ei .i64)) (.t rfl) rfl hx5) <| u (bi (.t rfl) (.t rfl) rfl) <| u (asg (.t rfl)) <| .nil _) (by kernel_rfl) rfl ?_
        refine .ib ?_
        exact .kq (.il (ih3 ((cpy v2 v3 (v2.length : Int) x5), (ar .add .i64 v3 (cpn v3 (v2.length : Int) x5))) (nxi h))) (.c rfl (.c rfl .n)) (.c rfl .n)
      · refine .xt rfl ?_
        replace h := mpR h hx3
        refine .sq ?_
        refine .rg (u (mv (.t rfl)) <| u (asg (.t rfl)) <| .nil _) rfl ?_
        obtain rfl := Option.some.inj h
        refine .ks (l := [(4, .own 0)]) (o := [(0, some (.arr 3 1 (List.map (ei .i64) v2)))]) (fun i => bif Nat.beq i 0 then 7 else i) ?_ (.c rfl .n) (.c rfl .n) rfl
        exact .rt Try.func71 (.t rfl <| .n) (.c rfl .n) rfl rfl
    refine .bq h (.t rfl) (fun h => ?_) (fun h => ?_)
    · cases h
    · refine .skp ?_
      exact .kq (J2 () h) (.c rfl (.c rfl .n)) .n
  refine .bq h (.t rfl) (fun h => ?_) (fun h => ?_)
  · cases h
  · refine .skp ?_
    exact .kq (J1 () h) (.c rfl (.c rfl .n)) .n

theorem slices_Repeat_r {z : Option Nat} {x : List Int} {count : Int} {r : List Int} (h : slices_Repeat z x count = some r) :
    AC Try.prog 71 [.ro (.list 1 (List.map (ei .i64) x)), .ro (.int .i64 count)] (.ro (.list 1 (List.map (ei .i64) r))) [] := AC.fz (slices_Repeat_c h) rfl

theorem chunk_told_c {z : Option Nat} {c : Int} {most : Int} {r : List Int} (h : chunk_told z c most = some r) :
    AC Try.prog 64 [.ro (.int .u16 c), .ro (.int .i64 most)] (.own 0) [(0, .arr 3 1 (List.map (ei .i64) r))] := by
  refine AC.of Try.func64 rfl rfl fun w M0 hM => ?_
  unfold chunk_told at h
  refine .sq ?_
  refine .rg (anm (ei .i64) 4 3 1 rfl rfl <| .nil _) rfl ?_
  refine .sq ?_
  refine .sq ?_
  refine .rg (u (mv (.t rfl)) <| u (bi (.t rfl) (.i rfl) rfl) <| u (bc (.t rfl) (.i rfl) rfl rfl) <| .nil _) rfl ?_
  refine .bq h (.t rfl) (fun h => ?_) (fun h => ?_)
  · refine .sq ?_
    refine be h fun x1 hx1 h => ?_
    refine .rg (u (mv (.t rfl)) <| u (sh (.t rfl) (.i rfl) rfl (by decide)) <| u (cv cv22_3 (.t rfl)) <| nu (bsn (F := (ei .i64)) (l := [(IntKind.i64.wrap (sf .shr .u16 c 13))]) pf55 (.c (.t rfl) rfl <| .n) rfl (fun _ _ => rfl) rfl) <| u (mv (.t rfl)) <| u (bi (.t rfl) (.i rfl) rfl) <| u (cv cv22_3 (.t rfl)) <| u (mv (.t rfl)) <| u (mn (.t rfl) (.t rfl)) <| cnf 22000 cf71 (slices_Repeat_c hx1) (.c (.t rfl) <| .c (.t rfl) <| .n) rfl rfl rfl <| u (asg (.t rfl)) <| .nil _) rfl ?_
    obtain rfl := Option.some.inj h
    refine .ks (l := [(4, .own 0)]) (o := [(0, some (.arr 3 1 (List.map (ei .i64) x1)))]) (fun i => bif Nat.beq i 0 then 22000 else i) ?_ (.c rfl .n) (.c rfl .n) rfl
    exact .rt Try.func64 (.t rfl <| .n) (.c rfl .n) rfl rfl
  · refine .skp ?_
    refine .sq ?_
    refine .rg (u (asg (.i rfl)) <| u (asg (.i rfl)) <| .nil _) rfl ?_
    refine .sq ?_
    refine .sq ?_
    refine .rg (u (mv (.t rfl)) <| u (bi (.t rfl) (.i rfl) rfl) <| u (bc (.t rfl) (.i rfl) rfl rfl) <| .nil _) rfl ?_
    refine .jq (t := some r) (fun (a : Int × Int) => ⟨[(0, .ro (.int .u16 c)), (1, .ro (.int .i64 most)), (5, .ro (.int .i64 a.1)), (6, .ro (.int .i64 a.2))], []⟩) (fun (a : Int × Int) => chunk_told_j1 z c most a.1 a.2) ?_ (fun J1 => ?_)
    · rintro ⟨v2, v3⟩ h
      replace h : chunk_told_j1 z c most v2 v3 = _ := h
      unfold chunk_told_j1 at h
      refine .sq ?_
      refine .rg (anm (ei .i64) 7 3 1 rfl rfl <| .nil _) rfl ?_
      refine .sq ?_
      refine .sq ?_
      refine .rg (u (mv (.t rfl)) <| u (mv (.t rfl)) <| u (mn (.t rfl) (.t rfl)) <| u (mv (.i rfl)) <| .nil _) rfl ?_
      refine .bl ?_
      unfold chunk_told_l2 at h
      refine .kq (.lo (fun (s : List Int × Int) => ⟨[(0, .ro (.int .u16 c)), (5, .ro (.int .i64 v2)), (6, .ro (.int .i64 v3)), (7, .own 7), (27, .ro (.int .i64 (imin v3 most))), (28, .ro (.int .i64 s.2))], [(7, some (.arr 3 1 (List.map (ei .i64) s.1)))]⟩) h ?_) (.c rfl (.c rfl (.c rfl (.c rfl (.c rfl (.c rfl .n)))))) (.c rfl .n)
      rintro ⟨v4, v5⟩ u2 h ih2 hx2
      replace h : chunk_told_s2 z c most v2 v3 v4 v5 = _ := h
      unfold chunk_told_s2 at h
      refine .sq ?_
      refine .rg (u (bc (.t rfl) (.t rfl) rfl rfl) <| .nil _) rfl ?_
      refine .sq ?_
      refine .bq h (.t rfl) (fun h => ?_) (fun h => ?_)
      · refine .skp ?_
        refine .sq ?_
        refine .bl ?_
        refine .sq ?_
        refine .rg (u (mv (.t rfl)) <| u (asg (.t rfl)) <| .nil _) rfl ?_
        refine be h fun x6 hx6 h => ?_
        refine be h fun x7 hx7 h => ?_
        refine be h fun x8 hx8 h => ?_
        refine .rd mixed (u (mv (.t rfl)) <| u (mv (.t rfl)) <| u (mv (.t rfl)) <| u (mv (.t rfl)) <| u (bi (.t rfl) (.i rfl) rfl) <| u (mv (.t rfl)) <| u (bi (.t rfl) (.t rfl) rfl) <| u (bi (.t rfl) (.t rfl) rfl) <| u (sho (.t rfl) (.t rfl) rfl hx6) <| u (cv cv22_3 (.t rfl)) <| u (mv (.t rfl)) <| u (sho (.i rfl) (.t rfl) rfl hx7) <| u (bi (.t rfl) (.i rfl) rfl) <| u (bi (.t rfl) (.t rfl) rfl) <| bs (F := (ei .i64)) (l := [(ar .and .i64 (IntKind.i64.wrap x6) (ar .sub .i64 x7 1))]) 45 pf55 (.c (.t rfl) rfl <| .n) rfl (fun _ _ => rfl) rfl rfl <| apo 46 pf55 (.t rfl) rfl (.t rfl) rfl hx8 rfl <| u (asg (.t rfl)) <| .nil _) (by kernel_rfl) rfl ?_
        refine .ib ?_
        refine .rg (u (bi (.t rfl) (.i rfl) rfl) <| u (mv (.t rfl)) <| .nil _) rfl ?_
        exact .ks (fun i => bif Nat.beq i 7 then 46 else i) (.il (ih2 (x8, (ar .add .i64 v5 1)) (nxi h))) (.c rfl (.c rfl (.c rfl (.c rfl (.c rfl (.c rfl .n)))))) (.c rfl .n) rfl
      · refine .xt rfl ?_
        replace h := mpR h hx2
        refine .sq ?_
        refine .rg (u (mv (.t rfl)) <| u (asg (.t rfl)) <| .nil _) rfl ?_
        obtain rfl := Option.some.inj h
        refine .ks (l := [(4, .own 0)]) (o := [(0, some (.arr 3 1 (List.map (ei .i64) v4)))]) (fun i => bif Nat.beq i 0 then 7 else i) ?_ (.c rfl .n) (.c rfl .n) rfl
        exact .rt Try.func64 (.t rfl <| .n) (.c rfl .n) rfl rfl
    refine .bq h (.t rfl) (fun h => ?_) (fun h => ?_)
    · refine .rg (u (asg (.i rfl)) <| u (asg (.i rfl)) <| .nil _) rfl ?_
      exact .kq (J1 (2, 7) h) (.c rfl (.c rfl (.c rfl (.c rfl .n)))) .n
    · refine .skp ?_
      exact .kq (J1 (1, 14) h) (.c rfl (.c rfl (.c rfl (.c rfl .n)))) .n

theorem chunk_told_r {z : Option Nat} {c : Int} {most : Int} {r : List Int} (h : chunk_told z c most = some r) :
    AC Try.prog 64 [.ro (.int .u16 c), .ro (.int .i64 most)] (.ro (.list 1 (List.map (ei .i64) r))) [] := AC.fz (chunk_told_c h) rfl

theorem chunk_Read_c {z : Option Nat} {chunks : List Int} {count : Int} {r : List Int × Int × Int} (h : chunk_Read z chunks count = some r) :
    AC Try.prog 49 [.ro (.list 1 (List.map (ei .u16) chunks)), .ro (.int .i64 count)] (.tup [.own 0, .ro (.int .i64 r.2.1), .ro (.int .i64 r.2.2)]) [(0, .arr 3 1 (List.map (ei .i64) r.1))] := by
  refine AC.of Try.func49 rfl rfl fun w M0 hM => ?_
  unfold chunk_Read at h
  refine .sq ?_
  refine .rg (anm (ei .i64) 4 3 1 rfl rfl <| u (asg (.i rfl)) <| u (asg (.i rfl)) <| .nil _) rfl ?_
  refine .sq ?_
  refine .sq ?_
  refine .rg (u (mv (.t rfl)) <| u (bc (.t rfl) (.i rfl) rfl rfl) <| u (mv (.t rfl)) <| gd rfl rfl (fun hB => mv (.t rfl)) <| gd rfl rfl (fun hB => bc (.m rfl hB) (.i rfl) rfl rfl) <| u (pko (.t rfl) (.t rfl)) <| .nil _) rfl ?_
  refine .bq h (.t rfl) (fun h => ?_) (fun h => ?_)
  · refine .sq ?_
    refine .rg (anm (ei .i64) 100004 3 1 rfl rfl <| u (asg (.i rfl)) <| u (asg (.i rfl)) <| .nil _) rfl ?_
    obtain rfl := Option.some.inj h
    refine .ks (l := [(4, .own 0), (5, .ro (.int .i64 0)), (6, .ro (.int .i64 1))]) (o := [(0, some (.arr 3 1 (List.map (ei .i64) [])))]) (fun i => bif Nat.beq i 0 then 100004 else i) ?_ (.c rfl (.c rfl (.c rfl .n))) (.c rfl .n) rfl
    exact .rt Try.func49 (.t rfl <| .t rfl <| .t rfl <| .n) (.c rfl .n) rfl rfl
  · refine .skp ?_
    refine .sq ?_
    refine .rg (anm (ei .i64) 7 3 1 rfl rfl <| .nil _) rfl ?_
    refine .sq ?_
    refine .sq ?_
    refine .rg (u (asg (.i rfl)) <| .nil _) rfl ?_
    refine .bl ?_
    unfold chunk_Read_l1 at h
    refine .kq (.lo (fun (s : List Int × Int) => ⟨[(0, .ro (.list 1 (List.map (ei .u16) chunks))), (1, .ro (.int .i64 count)), (7, .own 7), (8, .ro (.int .i64 s.2))], [(7, some (.arr 3 1 (List.map (ei .i64) s.1)))]⟩) h ?_) (.c rfl (.c rfl (.c rfl (.c rfl .n)))) (.c rfl .n)
    rintro ⟨v1, v2⟩ u1 h ih1 hx1
    replace h : chunk_Read_s1 z chunks count v1 v2 = _ := h
    unfold chunk_Read_s1 at h
    refine .sq ?_
    refine .sq ?_
    refine .rg (u (mv (.t rfl)) <| u (lom sf55 (.t rfl) rfl) <| u (mv (.t rfl)) <| u (bc (.t rfl) (.t rfl) rfl rfl) <| .nil _) rfl ?_
    refine .bq h (.t rfl) (fun h => ?_) (fun h => ?_)
    · refine .skp ?_
      refine .sq ?_
      refine .bl ?_
      refine .sq ?_
      refine .sq ?_
      refine .rg (u (mv (.t rfl)) <| u (mv (.t rfl)) <| u (lnm sf52 (.t rfl)) <| u (bc (.t rfl) (.t rfl) rfl rfl) <| .nil _) rfl ?_
      refine .bq h (.t rfl) (fun h => ?_) (fun h => ?_)
      · refine .sq ?_
        refine .rg (anm (ei .i64) 4 3 1 rfl rfl <| u (asg (.i rfl)) <| u (asg (.i rfl)) <| .nil _) rfl ?_
        replace h := mpR h hx1
        obtain rfl := Option.some.inj h
        refine .ks (l := [(4, .own 0), (5, .ro (.int .i64 0)), (6, .ro (.int .i64 2))]) (o := [(0, some (.arr 3 1 (List.map (ei .i64) [])))]) (fun i => bif Nat.beq i 0 then 4 else i) ?_ (.c rfl (.c rfl (.c rfl .n))) (.c rfl .n) rfl
        exact .rt Try.func49 (.t rfl <| .t rfl <| .t rfl <| .n) (.c rfl .n) rfl rfl
      · refine .skp ?_
        refine .sq ?_
        refine be h fun x3 hx3 h => ?_
        refine be h fun x4 hx4 h => ?_
        refine .rg (u (mv (.t rfl)) <| u (mv (.t rfl)) <| u (ia sf52 (.t rfl) (.t rfl) (ix_map (ei .u16) hx3)) <| u (lr tf22 (.t rfl) rfl) <| u (mv (.t rfl)) <| u (mv (.t rfl)) <| u (lom sf55 (.t rfl) rfl) <| u (bi (.t rfl) (.t rfl) rfl) <| cnf 35000 cf64 (chunk_told_c hx4) (.c (.t rfl) <| .c (.t rfl) <| .n) rfl rfl rfl <| u (asg (.t rfl)) <| .nil _) rfl ?_
        refine .sq ?_
        refine .sq ?_
        refine be h fun x5 hx5 h => ?_
        refine .rg (u (mv (.t rfl)) <| cl [] cf60 (slices_Contains_c hx5) (.b (.t rfl) rfl <| .c (.i rfl) <| .n) (.inr rfl) <| .nil _) rfl ?_
        refine .bq h (.t rfl) (fun h => ?_) (fun h => ?_)
        · refine .sq ?_
          refine .rg (anm (ei .i64) 4 3 1 rfl rfl <| u (asg (.i rfl)) <| u (asg (.i rfl)) <| .nil _) rfl ?_
          replace h := mpR h hx1
          obtain rfl := Option.some.inj h
          refine .ks (l := [(4, .own 0), (5, .ro (.int .i64 0)), (6, .ro (.int .i64 6))]) (o := [(0, some (.arr 3 1 (List.map (ei .i64) [])))]) (fun i => bif Nat.beq i 0 then 4 else i) ?_ (.c rfl (.c rfl (.c rfl .n))) (.c rfl .n) rfl
          exact .rt Try.func49 (.t rfl <| .t rfl <| .t rfl <| .n) (.c rfl .n) rfl rfl
        · refine .skp ?_
          refine .sq ?_
          refine be h fun x6 hx6 h => ?_
          refine .rg (u (mv (.t rfl)) <| u (mv (.t rfl)) <| apo 39 pf55 (.t rfl) rfl (.t rfl) rfl hx6 rfl <| u (asg (.t rfl)) <| .nil _) rfl ?_
          refine .sq ?_
          refine .rg (u (mv (.t rfl)) <| u (lom sf55 (.t rfl) rfl) <| u (mv (.t rfl)) <| u (bc (.t rfl) (.t rfl) rfl rfl) <| .nil _) rfl ?_
          refine .bq h (.t rfl) (fun h => ?_) (fun h => ?_)
          · refine .sq ?_
            refine .rg (u (mv (.t rfl)) <| u (mv (.t rfl)) <| u (bi (.t rfl) (.i rfl) rfl) <| u (asg (.t rfl)) <| u (asg (.t rfl)) <| u (asg (.i rfl)) <| .nil _) rfl ?_
            replace h := mpR h hx1
            obtain rfl := Option.some.inj h
            refine .ks (l := [(4, .own 0), (5, .ro (.int .i64 (ar .add .i64 v2 1))), (6, .ro (.int .i64 0))]) (o := [(0, some (.arr 3 1 (List.map (ei .i64) x6)))]) (fun i => bif Nat.beq i 0 then 39 else i) ?_ (.c rfl (.c rfl (.c rfl .n))) (.c rfl .n) rfl
            exact .rt Try.func49 (.t rfl <| .t rfl <| .t rfl <| .n) (.c rfl .n) rfl rfl
          · refine .skp ?_
            refine .ib ?_
            refine .rg (u (mv (.t rfl)) <| u (bi (.t rfl) (.i rfl) rfl) <| u (asg (.t rfl)) <| .nil _) rfl ?_
            exact .ks (fun i => bif Nat.beq i 7 then 39 else i) (.il (ih1 (x6, (ar .add .i64 v2 1)) (nxi h))) (.c rfl (.c rfl (.c rfl (.c rfl .n)))) (.c rfl .n) rfl
    · refine .xt rfl ?_
      replace h := mpR h hx1
      refine .sq ?_
      refine .rg (u (mv (.t rfl)) <| u (asg (.t rfl)) <| u (asg (.i rfl)) <| u (asg (.i rfl)) <| .nil _) rfl ?_
      obtain rfl := Option.some.inj h
      refine .ks (l := [(4, .own 0), (5, .ro (.int .i64 0)), (6, .ro (.int .i64 0))]) (o := [(0, some (.arr 3 1 (List.map (ei .i64) v1)))]) (fun i => bif Nat.beq i 0 then 7 else i) ?_ (.c rfl (.c rfl (.c rfl .n))) (.c rfl .n) rfl
      exact .rt Try.func49 (.t rfl <| .t rfl <| .t rfl <| .n) (.c rfl .n) rfl rfl

theorem chunk_Read_r {z : Option Nat} {chunks : List Int} {count : Int} {r : List Int × Int × Int} (h : chunk_Read z chunks count = some r) :
    AC Try.prog 49 [.ro (.list 1 (List.map (ei .u16) chunks)), .ro (.int .i64 count)] (.ro (.tup [.list 1 (List.map (ei .i64) r.1), .int .i64 r.2.1, .int .i64 r.2.2])) [] := AC.fz (chunk_Read_c h) rfl

theorem arrive_size_c (what : Int) :
    AC Try.prog 50 [.ro (.int .i64 what)] (.ro (.int .i64 (arrive_size what))) [] := by
  obtain ⟨r, h⟩ : ∃ r, arrive_size what = r := ⟨_, rfl⟩
  rw [h]
  refine AC.of Try.func50 rfl rfl fun w M0 hM => ?_
  unfold arrive_size at h
  refine .sq ?_
  refine .rg (u (asg (.i rfl)) <| .nil _) rfl ?_
  refine .sq ?_
  refine .rg (u (mv (.t rfl)) <| u (asg (.t rfl)) <| .nil _) rfl ?_
  subst h
  exact .rt Try.func50 (.t rfl <| .n) .n rfl rfl

theorem arrive_deltas_c {z : Option Nat} {l : List Int} {b : List Int} {r : List Seen} (h : arrive_deltas z l b = some r) :
    AC Try.prog 51 [.ro (.list 1 (List.map (ei .i64) l)), .ro (.list 1 (List.map e8 b))] (.own 0) [(0, .arr 46 2 (List.map cells_Seen r))] := by
  refine AC.of Try.func51 rfl rfl fun w M0 hM => ?_
  unfold arrive_deltas at h
  refine .sq ?_
  refine .rg (anm cells_Seen 4 46 2 rfl rfl <| .nil _) rfl ?_
  refine .sq ?_
  refine .rg (anm cells_Seen 5 46 2 rfl rfl <| .nil _) rfl ?_
  refine .sq ?_
  refine .rg (u (asg (.i rfl)) <| .nil _) rfl ?_
  refine .sq ?_
  refine .sq ?_
  refine .rg (u (mv (.t rfl)) <| u (lnm sf55 (.t rfl)) <| u (mv (.i rfl)) <| .nil _) rfl ?_
  refine .bl ?_
  unfold arrive_deltas_l1 at h
  refine .kq (.lo (fun (s : List Seen × Int × Int) => ⟨[(1, .ro (.list 1 (List.map e8 b))), (5, .own 5), (6, .ro (.int .i64 s.2.1)), (12, .ro (.list 1 (List.map (ei .i64) l))), (13, .ro (.int .i64 (l.length : Int))), (14, .ro (.int .i64 s.2.2))], [(5, some (.arr 46 2 (List.map cells_Seen s.1)))]⟩) h ?_) (.c rfl (.c rfl (.c rfl (.c rfl (.c rfl (.c rfl .n)))))) (.c rfl .n)
  rintro ⟨v1, v2, v3⟩ u1 h ih1 hx1
  replace h : arrive_deltas_s1 z l b v1 v2 v3 = _ := h
  unfold arrive_deltas_s1 at h
  refine .sq ?_
  refine .rg (u (bc (.t rfl) (.t rfl) rfl rfl) <| .nil _) rfl ?_
  refine .sq ?_
  refine .bq h (.t rfl) (fun h => ?_) (fun h => ?_)
  · refine .skp ?_
    refine .sq ?_
    refine .bl ?_
    refine .sq ?_
    refine be h fun x4 hx4 h => ?_
    refine .rg (u (ia sf55 (.t rfl) (.t rfl) (ix_map (ei .i64) hx4)) <| u (lr tf3 (.t rfl) rfl) <| u (asg (.t rfl)) <| .nil _) rfl ?_
    refine .sq ?_
    refine .rg (u (mv (.t rfl)) <| u (bd bf46 zf46 (.c rfl (.t rfl) rfl rfl rfl <| .n) rfl) <| al 9 zf46 rfl <| st tf46 (.t rfl) rfl (.t rfl) rfl rfl rfl <| .nil _) rfl ?_
    refine .sq ?_
    refine .sq ?_
    refine .rg (u (mv (.t rfl)) <| .nil _) rfl ?_
    refine .bl ?_
    refine .sq ?_
    refine .rg (u (bc (.t rfl) (.i rfl) rfl rfl) <| u (asg (.t rfl)) <| .nil _) rfl ?_
    refine .jq (t := some u1) (fun (a : Seen) => ⟨[(1, .ro (.list 1 (List.map e8 b))), (5, .own 5), (6, .ro (.int .i64 v2)), (8, .ro (.int .i64 x4)), (9, .ptr 9 0), (12, .ro (.list 1 (List.map (ei .i64) l))), (13, .ro (.int .i64 (l.length : Int))), (14, .ro (.int .i64 v3))], [(5, some (.arr 46 2 (List.map cells_Seen v1))), (9, some (.box [.ro (.int .i64 a.what), .ro (.int .i64 a.delta)]))]⟩) (fun (a : Seen) => arrive_deltas_j2 z v1 v2 v3 x4 a) ?_ (fun J2 => ?_)
    · intro v5 h
      replace h : arrive_deltas_j2 z v1 v2 v3 x4 v5 = _ := h
      unfold arrive_deltas_j2 at h
      refine .ib ?_
      refine .sq ?_
      refine .rg (u (mv (.t rfl)) <| u (mv (.t rfl)) <| cl [] cf50 (arrive_size_c x4) (.c (.t rfl) <| .n) (.inl rfl) <| u (bi (.t rfl) (.t rfl) rfl) <| u (asg (.t rfl)) <| .nil _) rfl ?_
      refine be h fun x6 hx6 h => ?_
      refine .rg (u (mv (.t rfl)) <| u (ld tf46 (.t rfl) rfl rfl) <| bs (F := cells_Seen) (l := [v5]) 45 pf23 (.c (.t rfl) rfl <| .n) rfl (fun _ _ => rfl) rfl rfl <| apo 46 pf23 (.t rfl) rfl (.t rfl) rfl hx6 rfl <| u (asg (.t rfl)) <| .nil _) rfl ?_
      refine .ib ?_
      refine .rg (u (bi (.t rfl) (.i rfl) rfl) <| u (mv (.t rfl)) <| .nil _) rfl ?_
      exact .ks (fun i => bif Nat.beq i 5 then 46 else i) (.il (ih1 (x6, (ar .add .i64 v2 (arrive_size x4)), (ar .add .i64 v3 1)) (nxi h))) (.c rfl (.c rfl (.c rfl (.c rfl (.c rfl (.c rfl .n)))))) (.c rfl .n) rfl
    refine .bq h (.t rfl) (fun h => ?_) (fun h => ?_)
    · refine be h fun x7 hx7 h => ?_
      refine .rg (u (mv (.t rfl)) <| u (mv (.t rfl)) <| u (ia sf26 (.t rfl) (.t rfl) (ix_map e8 hx7)) <| u (lr tf5 (.t rfl) rfl) <| u (cv cv5_3 (.t rfl)) <| u (fa ff46_1 (.t rfl)) <| st tf3 (.t rfl) rfl (.t rfl) rfl rfl rfl <| .nil _) rfl ?_
      exact .kq (J2 (Seen.mk x4 (IntKind.i64.wrap x7)) h) (.c rfl (.c rfl (.c rfl (.c rfl (.c rfl (.c rfl (.c rfl (.c rfl .n)))))))) (.c rfl (.c rfl .n))
    · refine .sq ?_
      refine .rg (u (bc (.t rfl) (.i rfl) rfl rfl) <| u (asg (.t rfl)) <| .nil _) rfl ?_
      refine .bq h (.t rfl) (fun h => ?_) (fun h => ?_)
      · refine .sq ?_
        refine be h fun x8 hx8 h => ?_
        refine .rg (u (mv (.t rfl)) <| u (mv (.t rfl)) <| cl [] cf47 (octet_Signed_c hx8) (.c (.t rfl) <| .c (.t rfl) <| .c (.i rfl) <| .n) (.inl rfl) <| u (mv (.t rfl)) <| u (ex (.t rfl) rfl rfl) <| u (ex (.t rfl) rfl rfl) <| u (asg (.t rfl)) <| u (asg (.t rfl)) <| .nil _) rfl ?_
        refine .rg (u (mv (.t rfl)) <| u (fa ff46_1 (.t rfl)) <| st tf3 (.t rfl) rfl (.t rfl) rfl rfl rfl <| .nil _) rfl ?_
        exact .kq (J2 (Seen.mk x4 x8.1) h) (.c rfl (.c rfl (.c rfl (.c rfl (.c rfl (.c rfl (.c rfl (.c rfl .n)))))))) (.c rfl (.c rfl .n))
      · refine .skp ?_
        exact .kq (J2 (Seen.mk x4 0) h) (.c rfl (.c rfl (.c rfl (.c rfl (.c rfl (.c rfl (.c rfl (.c rfl .n)))))))) (.c rfl (.c rfl .n))
  · refine .xt rfl ?_
    replace h := mpR h hx1
    refine .sq ?_
    refine .rg (u (mv (.t rfl)) <| u (asg (.t rfl)) <| .nil _) rfl ?_
    obtain rfl := Option.some.inj h
    refine .ks (l := [(4, .own 0)]) (o := [(0, some (.arr 46 2 (List.map cells_Seen v1)))]) (fun i => bif Nat.beq i 0 then 5 else i) ?_ (.c rfl .n) (.c rfl .n) rfl
    exact .rt Try.func51 (.t rfl <| .n) (.c rfl .n) rfl rfl

theorem arrive_deltas_r {z : Option Nat} {l : List Int} {b : List Int} {r : List Seen} (h : arrive_deltas z l b = some r) :
    AC Try.prog 51 [.ro (.list 1 (List.map (ei .i64) l)), .ro (.list 1 (List.map e8 b))] (.ro (.list 2 (List.map cells_Seen r))) [] := AC.fz (arrive_deltas_c h) rfl

theorem arrive_read_c {z : Option Nat} {body : List Int} {r : Arrive × List Int × List Int × Int} (h : arrive_read z body = some r) :
    AC Try.prog 29 [.ro (.list 1 (List.map e8 body))] (.ro (.tup [enc_Arrive r.1, .list 1 (List.map (ei .u16) r.2.1), .list 1 (List.map e8 r.2.2.1), .int .i64 r.2.2.2])) [] := by
  refine AC.of Try.func29 rfl rfl fun w M0 hM => ?_
  unfold arrive_read at h
  refine .sq ?_
  refine .rg (al 2 zf25 rfl <| u (asg (.n (sz := 1) (F := (ei .u16)))) <| u (asg (.n (sz := 1) (F := e8))) <| u (asg (.i rfl)) <| .nil _) rfl ?_
  refine .sq ?_
  refine .rg (al 6 zf25 rfl <| .nil _) rfl ?_
  refine .sq ?_
  refine .bl ?_
  refine .sq ?_
  refine .sq ?_
  refine .rg (u (mv (.t rfl)) <| u (lnm sf26 (.t rfl)) <| u (bc (.t rfl) (.i rfl) rfl rfl) <| u (asg (.t rfl)) <| .nil _) rfl ?_
  refine .jq (t := some r) (fun (a : Bool) => ⟨[(0, .ro (.list 1 (List.map e8 body))), (2, .ptr 2 0), (6, .ptr 6 0), (21, .ro (.bool a))], [(2, some (.box [.ro (.int .u16 0), .ro (.int .i64 0), .ro (.int .u8 0), .ro (.list 2 (List.map cells_Seen []))])), (6, some (.box [.ro (.int .u16 0), .ro (.int .i64 0), .ro (.int .u8 0), .ro (.list 2 (List.map cells_Seen []))]))]⟩) (fun (a : Bool) => arrive_read_j1 z body a) ?_ (fun J1 => ?_)
  · intro v1 h
    replace h : arrive_read_j1 z body v1 = _ := h
    unfold arrive_read_j1 at h
    refine .bq h (.t rfl) (fun h => ?_) (fun h => ?_)
    · refine .sq ?_
      refine .rg (u (ld tf25 (.t rfl) rfl rfl) <| st tf25 (.t rfl) rfl (.t rfl) rfl rfl rfl <| u (asg (.n (sz := 1) (F := (ei .u16)))) <| u (asg (.n (sz := 1) (F := e8))) <| u (asg (.i rfl)) <| .nil _) rfl ?_
      obtain rfl := Option.some.inj h
      exact .rt Try.func29 (.c tf25 rfl rfl rfl <| .t rfl <| .t rfl <| .t rfl <| .n) .n rfl rfl
    · refine .sq ?_
      refine .rg (u (mv (.t rfl)) <| u (lnm sf26 (.t rfl)) <| u (bc (.t rfl) (.i rfl) rfl rfl) <| u (asg (.t rfl)) <| .nil _) rfl ?_
      refine .bq h (.t rfl) (fun h => ?_) (fun h => ?_)
      · refine .sq ?_
        refine .rg (u (ld tf25 (.t rfl) rfl rfl) <| st tf25 (.t rfl) rfl (.t rfl) rfl rfl rfl <| u (asg (.n (sz := 1) (F := (ei .u16)))) <| u (asg (.n (sz := 1) (F := e8))) <| u (asg (.i rfl)) <| .nil _) rfl ?_
        obtain rfl := Option.some.inj h
        exact .rt Try.func29 (.c tf25 rfl rfl rfl <| .t rfl <| .t rfl <| .t rfl <| .n) .n rfl rfl
      · refine .skp ?_
        refine .ib ?_
        refine .sq ?_
        refine be h fun x2 hx2 h => ?_
        refine .rg (u (mv (.t rfl)) <| cl [] cf46 (octet_Get_c hx2) (.c (.t rfl) <| .c (.i rfl) <| .c (.i rfl) <| .n) (.inl rfl) <| u (mv (.t rfl)) <| u (ex (.t rfl) rfl rfl) <| u (ex (.t rfl) rfl rfl) <| u (asg (.t rfl)) <| u (asg (.t rfl)) <| .nil _) rfl ?_
        refine .sq ?_
        refine be h fun x3 hx3 h => ?_
        refine .rg (u (mv (.t rfl)) <| cl [] cf46 (octet_Get_c hx3) (.c (.t rfl) <| .c (.i rfl) <| .c (.i rfl) <| .n) (.inl rfl) <| u (mv (.t rfl)) <| u (ex (.t rfl) rfl rfl) <| u (ex (.t rfl) rfl rfl) <| u (asg (.t rfl)) <| u (asg (.t rfl)) <| .nil _) rfl ?_
        refine .sq ?_
        refine be h fun x4 hx4 h => ?_
        refine .rg (u (mv (.t rfl)) <| cl [] cf47 (octet_Signed_c hx4) (.c (.t rfl) <| .c (.i rfl) <| .c (.i rfl) <| .n) (.inl rfl) <| u (mv (.t rfl)) <| u (ex (.t rfl) rfl rfl) <| u (ex (.t rfl) rfl rfl) <| u (asg (.t rfl)) <| u (asg (.t rfl)) <| .nil _) rfl ?_
        refine .sq ?_
        refine .sq ?_
        refine .rg (u (mv (.t rfl)) <| u (bc (.t rfl) (.i rfl) rfl rfl) <| .nil _) rfl ?_
        refine .bq h (.t rfl) (fun h => ?_) (fun h => ?_)
        · refine .sq ?_
          refine .rg (u (ld tf25 (.t rfl) rfl rfl) <| st tf25 (.t rfl) rfl (.t rfl) rfl rfl rfl <| u (asg (.n (sz := 1) (F := (ei .u16)))) <| u (asg (.n (sz := 1) (F := e8))) <| u (asg (.i rfl)) <| .nil _) rfl ?_
          obtain rfl := Option.some.inj h
          exact .rt Try.func29 (.c tf25 rfl rfl rfl <| .t rfl <| .t rfl <| .t rfl <| .n) .n rfl rfl
        · refine .skp ?_
          refine .sq ?_
          refine be h fun x5 hx5 h => ?_
          refine be h fun x6 hx6 h => ?_
          refine .rg (u (mv (.t rfl)) <| u (sl sf26 (.t rfl) (.s (.i rfl)) .n hx5) <| cnf 56000 cf48 (arrive_numbers_c hx6) (.c (.t rfl) <| .n) rfl rfl rfl <| u (asg (.t rfl)) <| .nil _) rfl ?_
          refine .sq ?_
          refine .fz 56000 rfl ?_
          refine be h fun x7 hx7 h => ?_
          refine .rg (u (mv (.t rfl)) <| u (mv (.t rfl)) <| u (cv cv49_3 (.t rfl)) <| cnf 61000 cf49 (chunk_Read_c hx7) (.c (.t rfl) <| .c (.t rfl) <| .n) rfl rfl rfl <| u (mv (.t rfl)) <| u (ex (.t rfl) rfl rfl) <| u (ex (.t rfl) rfl rfl) <| u (ex (.t rfl) rfl rfl) <| u (asg (.t rfl)) <| u (asg (.t rfl)) <| u (asg (.t rfl)) <| .nil _) rfl ?_
          refine .sq ?_
          refine .sq ?_
          refine .rg (u (mv (.t rfl)) <| u (bc (.t rfl) (.i rfl) rfl rfl) <| .nil _) rfl ?_
          refine .bq h (.t rfl) (fun h => ?_) (fun h => ?_)
          · refine .sq ?_
            refine .rg (u (ld tf25 (.t rfl) rfl rfl) <| u (mv (.t rfl)) <| st tf25 (.t rfl) rfl (.t rfl) rfl rfl rfl <| u (asg (.n (sz := 1) (F := (ei .u16)))) <| u (asg (.n (sz := 1) (F := e8))) <| u (asg (.t rfl)) <| .nil _) rfl ?_
            obtain rfl := Option.some.inj h
            exact .rt Try.func29 (.c tf25 rfl rfl rfl <| .t rfl <| .t rfl <| .t rfl <| .n) .n rfl rfl
          · refine .skp ?_
            refine .sq ?_
            refine be h fun x8 hx8 h => ?_
            refine .rg (u (mv (.t rfl)) <| u (mv (.t rfl)) <| u (bi (.i rfl) (.t rfl) rfl) <| u (bi (.i rfl) (.t rfl) rfl) <| u (sl sf26 (.t rfl) (.s (.t rfl)) .n hx8) <| u (asg (.t rfl)) <| .nil _) rfl ?_
            refine .sq ?_
            refine .rg (u (asg (.i rfl)) <| .nil _) rfl ?_
            refine .sq ?_
            refine .sq ?_
            refine .rg (u (mv (.t rfl)) <| u (lom sf55 (.t rfl) rfl) <| u (mv (.i rfl)) <| .nil _) rfl ?_
            refine .bl ?_
            unfold arrive_read_l2 at h
            refine .kq (.lo (fun (s : Int × Int) => ⟨[(0, .ro (.list 1 (List.map e8 body))), (2, .ptr 2 0), (6, .ptr 6 0), (7, .ro (.int .u64 x2.1)), (11, .ro (.int .i64 x4.1)), (13, .ro (.list 1 (List.map (ei .u16) x6))), (14, .own 61000), (15, .ro (.int .i64 x7.2.1)), (17, .ro (.list 1 (List.map e8 x8))), (18, .ro (.int .i64 s.1)), (73, .own 61000), (74, .ro (.int .i64 (x7.1.length : Int))), (75, .ro (.int .i64 s.2))], [(2, some (.box [.ro (.int .u16 0), .ro (.int .i64 0), .ro (.int .u8 0), .ro (.list 2 (List.map cells_Seen []))])), (6, some (.box [.ro (.int .u16 0), .ro (.int .i64 0), .ro (.int .u8 0), .ro (.list 2 (List.map cells_Seen []))])), (61000, some (.arr 3 1 (List.map (ei .i64) x7.1)))]⟩) h ?_) (.c rfl (.c rfl (.c rfl (.c rfl (.c rfl (.c rfl (.c rfl (.c rfl (.c rfl (.c rfl (.c rfl (.c rfl (.c rfl .n))))))))))))) (.c rfl (.c rfl (.c rfl .n)))
            rintro ⟨v9, v10⟩ u2 h ih2 hx2
            replace h : arrive_read_s2 z body x2 x4 x6 x7 x8 v9 v10 = _ := h
            unfold arrive_read_s2 at h
            refine .sq ?_
            refine .rg (u (bc (.t rfl) (.t rfl) rfl rfl) <| .nil _) rfl ?_
            refine .sq ?_
            refine .bq h (.t rfl) (fun h => ?_) (fun h => ?_)
            · refine .skp ?_
              refine .sq ?_
              refine .bl ?_
              refine .sq ?_
              refine be h fun x11 hx11 h => ?_
              refine .rg (u (io sf55 (.t rfl) rfl (.t rfl) (ix_map (ei .i64) hx11)) <| u (le tf3 (.t rfl) rfl (ix_lt (ix_map _ hx11)).2.2 rfl) <| u (asg (.t rfl)) <| .nil _) rfl ?_
              refine .rg (u (mv (.t rfl)) <| u (mv (.t rfl)) <| cl [] cf50 (arrive_size_c x11) (.c (.t rfl) <| .n) (.inl rfl) <| u (bi (.t rfl) (.t rfl) rfl) <| u (asg (.t rfl)) <| .nil _) rfl ?_
              refine .ib ?_
              refine .rg (u (bi (.t rfl) (.i rfl) rfl) <| u (mv (.t rfl)) <| .nil _) rfl ?_
              exact .kq (.il (ih2 ((ar .add .i64 v9 (arrive_size x11)), (ar .add .i64 v10 1)) (nxi h))) (.c rfl (.c rfl (.c rfl (.c rfl (.c rfl (.c rfl (.c rfl (.c rfl (.c rfl (.c rfl (.c rfl (.c rfl (.c rfl .n))))))))))))) (.c rfl (.c rfl (.c rfl .n)))
            · refine .xt rfl ?_
              replace h := mpR h hx2
              refine .sq ?_
              refine .bl ?_
              refine .sq ?_
              refine .rg (u (mv (.t rfl)) <| u (lnm sf26 (.t rfl)) <| u (mv (.t rfl)) <| u (bc (.t rfl) (.t rfl) rfl rfl) <| u (asg (.t rfl)) <| .nil _) rfl ?_
              refine .bq h (.t rfl) (fun h => ?_) (fun h => ?_)
              · refine .sq ?_
                refine .rg (u (ld tf25 (.t rfl) rfl rfl) <| st tf25 (.t rfl) rfl (.t rfl) rfl rfl rfl <| u (asg (.n (sz := 1) (F := (ei .u16)))) <| u (asg (.n (sz := 1) (F := e8))) <| u (asg (.i rfl)) <| .nil _) rfl ?_
                obtain rfl := Option.some.inj h
                exact .rt Try.func29 (.c tf25 rfl rfl rfl <| .t rfl <| .t rfl <| .t rfl <| .n) .n rfl rfl
              · refine .sq ?_
                refine .rg (u (mv (.t rfl)) <| u (lnm sf26 (.t rfl)) <| u (mv (.t rfl)) <| u (bi (.t rfl) (.i rfl) rfl) <| u (bc (.t rfl) (.t rfl) rfl rfl) <| u (asg (.t rfl)) <| .nil _) rfl ?_
                refine .bq h (.t rfl) (fun h => ?_) (fun h => ?_)
                · refine .sq ?_
                  refine .rg (u (ld tf25 (.t rfl) rfl rfl) <| st tf25 (.t rfl) rfl (.t rfl) rfl rfl rfl <| u (asg (.n (sz := 1) (F := (ei .u16)))) <| u (asg (.n (sz := 1) (F := e8))) <| u (asg (.i rfl)) <| .nil _) rfl ?_
                  obtain rfl := Option.some.inj h
                  exact .rt Try.func29 (.c tf25 rfl rfl rfl <| .t rfl <| .t rfl <| .t rfl <| .n) .n rfl rfl
                · refine .skp ?_
                  refine .ib ?_
                  refine .sq ?_
                  refine .fz 61000 rfl ?_
                  refine be h fun x12 hx12 h => ?_
                  refine be h fun x13 hx13 h => ?_
                  refine .rd mixed (u (mv (.t rfl)) <| u (cv cv49_22 (.t rfl)) <| u (mv (.t rfl)) <| u (mv (.t rfl)) <| u (ia sf26 (.t rfl) (.i rfl) (ix_map e8 hx12)) <| u (lr tf5 (.t rfl) rfl) <| u (mv (.t rfl)) <| u (mv (.t rfl)) <| cnf 106000 cf51 (arrive_deltas_c hx13) (.c (.t rfl) <| .c (.t rfl) <| .n) rfl rfl rfl <| u (bd bf25 zf25 (.c rfl (.t rfl) rfl rfl rfl <| .c rfl (.t rfl) rfl rfl rfl <| .c rfl (.t rfl) rfl rfl rfl <| .c rfl (.t rfl) rfl rfl rfl <| .n) rfl) <| st tf25 (.t rfl) rfl (.t rfl) rfl rfl rfl <| .nil _) (by kernel_rfl) rfl ?_
                  refine .sq ?_
                  refine be h fun x14 hx14 h => ?_
                  refine be h fun x15 hx15 h => ?_
                  refine .rd mixed (u (ld tf25 (.t rfl) rfl rfl) <| u (mv (.t rfl)) <| u (mv (.t rfl)) <| u (sl sf52 (.t rfl) .n (.s (.t rfl)) hx14) <| u (mv (.t rfl)) <| u (mv (.t rfl)) <| u (sl sf26 (.t rfl) (.s (.t rfl)) .n hx15) <| st tf25 (.t rfl) rfl (.t rfl) rfl rfl rfl <| u (asg (.t rfl)) <| u (asg (.t rfl)) <| u (asg (.i rfl)) <| .nil _) (by kernel_rfl) rfl ?_
                  refine .fz 106000 rfl ?_
                  obtain rfl := Option.some.inj h
                  exact .rt Try.func29 (.c tf25 rfl rfl rfl <| .t rfl <| .t rfl <| .t rfl <| .n) .n rfl rfl
  refine .bq h (.t rfl) (fun h => ?_) (fun h => ?_)
  · refine .skp ?_
    exact .kq (J1 (cm .gtr (body.length : Int) 65520) h) (.c rfl (.c rfl (.c rfl (.c rfl .n)))) (.c rfl (.c rfl .n))
  · refine .rg (u (mv (.t rfl)) <| u (lnm sf26 (.t rfl)) <| u (di (.t rfl) (.i rfl) rfl (by decide)) <| u (bc (.t rfl) (.i rfl) rfl rfl) <| u (asg (.t rfl)) <| .nil _) rfl ?_
    exact .kq (J1 (cm .gtr (dv .rem .i64 (body.length : Int) 4) 0) h) (.c rfl (.c rfl (.c rfl (.c rfl .n)))) (.c rfl (.c rfl .n))

theorem arrive_Read_c {z : Option Nat} {body : List Int} {r : Arrive × Int} (h : arrive_Read z body = some r) :
    AC Try.prog 10 [.ro (.list 1 (List.map e8 body))] (.ro (.tup [enc_Arrive r.1, .int .i64 r.2])) [] := by
  refine AC.of Try.func10 rfl rfl fun w M0 hM => ?_
  unfold arrive_Read at h
  refine .sq ?_
  refine .rg (al 2 zf25 rfl <| u (asg (.i rfl)) <| .nil _) rfl ?_
  refine .sq ?_
  refine be h fun x1 hx1 h => ?_
  refine .rg (u (mv (.t rfl)) <| cl [] cf29 (arrive_read_c hx1) (.c (.t rfl) <| .n) (.inl rfl) <| u (mv (.t rfl)) <| u (ex (.t rfl) rfl rfl) <| u (ex (.t rfl) rfl rfl) <| u (ex (.t rfl) rfl rfl) <| u (ex (.t rfl) rfl rfl) <| al 4 zf25 rfl <| st tf25 (.t rfl) rfl (.t rfl) rfl rfl rfl <| u (asg (.t rfl)) <| u (asg (.t rfl)) <| u (asg (.t rfl)) <| .nil _) rfl ?_
  refine .sq ?_
  refine .rg (u (ld tf25 (.t rfl) rfl rfl) <| u (mv (.t rfl)) <| st tf25 (.t rfl) rfl (.t rfl) rfl rfl rfl <| u (asg (.t rfl)) <| .nil _) rfl ?_
  obtain rfl := Option.some.inj h
  exact .rt Try.func10 (.c tf25 rfl rfl rfl <| .t rfl <| .n) .n rfl rfl

theorem arrive_When_c {z : Option Nat} {p_a : Arrive} {nth : Int} {r : Int × Int} (h : arrive_When z p_a nth = some r) :
    AC Try.prog 12 [.ro (enc_Arrive p_a), .ro (.int .i64 nth)] (.ro (.tup [.int .i64 r.1, .int .i64 r.2])) [] := by
  refine AC.of Try.func12 rfl rfl fun w M0 hM => ?_
  unfold arrive_When at h
  refine .sq ?_
  refine .rg (bx 2 (.t rfl) rfl rfl <| u (asg (.i rfl)) <| u (asg (.i rfl)) <| .nil _) rfl ?_
  refine .sq ?_
  refine .bl ?_
  refine .sq ?_
  refine .sq ?_
  refine be h fun x1 hx1 h => ?_
  refine .rg (u (ld tf25 (.t rfl) rfl rfl) <| cl [] cf14 (arrive_Right_c hx1) (.c (.t rfl) <| .n) (.inl rfl) <| u (no (.t rfl)) <| u (asg (.t rfl)) <| .nil _) rfl ?_
  refine .jq (t := some r) (fun (a : Bool) => ⟨[(1, .ro (.int .i64 nth)), (2, .ptr 2 0), (9, .ro (.bool a))], [(2, some (.box [.ro (.int .u16 p_a.base), .ro (.int .i64 p_a.time), .ro (.int .u8 p_a.count), .ro (.list 2 (List.map cells_Seen p_a.seen))]))]⟩) (fun (a : Bool) => arrive_When_j1 z p_a nth a) ?_ (fun J1 => ?_)
  · intro v2 h
    replace h : arrive_When_j1 z p_a nth v2 = _ := h
    unfold arrive_When_j1 at h
    refine .bq h (.t rfl) (fun h => ?_) (fun h => ?_)
    · refine .sq ?_
      refine .rg (u (asg (.i rfl)) <| u (asg (.i rfl)) <| .nil _) rfl ?_
      obtain rfl := Option.some.inj h
      exact .rt Try.func12 (.t rfl <| .t rfl <| .n) .n rfl rfl
    · refine .sq ?_
      refine be h fun x3 hx3 h => ?_
      refine .rg (u (fa ff25_3 (.t rfl)) <| u (ld tf23 (.t rfl) rfl rfl) <| u (mv (.t rfl)) <| u (ia sf23 (.t rfl) (.t rfl) (ix_map cells_Seen hx3)) <| u (fr ff46_0 (.t rfl) rfl) <| u (lr tf3 (.t rfl) rfl) <| u (bc (.t rfl) (.i rfl) rfl rfl) <| u (asg (.t rfl)) <| .nil _) rfl ?_
      refine .bq h (.t rfl) (fun h => ?_) (fun h => ?_)
      · refine .sq ?_
        refine .rg (u (asg (.i rfl)) <| u (asg (.i rfl)) <| .nil _) rfl ?_
        obtain rfl := Option.some.inj h
        exact .rt Try.func12 (.t rfl <| .t rfl <| .n) .n rfl rfl
      · refine .skp ?_
        refine .ib ?_
        refine .sq ?_
        refine .rg (u (fa ff25_1 (.t rfl)) <| u (ld tf3 (.t rfl) rfl rfl) <| u (bi (.t rfl) (.i rfl) rfl) <| u (asg (.t rfl)) <| .nil _) rfl ?_
        refine .sq ?_
        refine .sq ?_
        refine be h fun x4 hx4 h => ?_
        refine .rg (u (fa ff25_3 (.t rfl)) <| u (ld tf23 (.t rfl) rfl rfl) <| u (mv (.t rfl)) <| u (bi (.t rfl) (.i rfl) rfl) <| u (sl sf23 (.t rfl) .n (.s (.t rfl)) hx4) <| u (lnm sf23 (.t rfl)) <| u (mv (.i rfl)) <| .nil _) rfl ?_
        refine .bl ?_
        unfold arrive_When_l2 at h
        refine .kq (.lo (fun (s : Int × Int) => ⟨[(6, .ro (.int .i64 s.1)), (35, .ro (.list 2 (List.map cells_Seen x4))), (36, .ro (.int .i64 (x4.length : Int))), (37, .ro (.int .i64 s.2))], []⟩) h ?_) (.c rfl (.c rfl (.c rfl (.c rfl .n)))) .n
        rintro ⟨v5, v6⟩ u2 h ih2 hx2
        replace h : arrive_When_s2 z x4 v5 v6 = _ := h
        unfold arrive_When_s2 at h
        refine .sq ?_
        refine .rg (u (bc (.t rfl) (.t rfl) rfl rfl) <| .nil _) rfl ?_
        refine .sq ?_
        refine .bq h (.t rfl) (fun h => ?_) (fun h => ?_)
        · refine .skp ?_
          refine .sq ?_
          refine .bl ?_
          refine .sq ?_
          refine be h fun x7 hx7 h => ?_
          refine .rg (u (ia sf23 (.t rfl) (.t rfl) (ix_map cells_Seen hx7)) <| u (lr tf46 (.t rfl) rfl) <| al 8 zf46 rfl <| st tf46 (.t rfl) rfl (.t rfl) rfl rfl rfl <| .nil _) rfl ?_
          refine .rg (u (mv (.t rfl)) <| u (fa ff46_1 (.t rfl)) <| u (ld tf3 (.t rfl) rfl rfl) <| u (bi (.t rfl) (.t rfl) rfl) <| u (asg (.t rfl)) <| .nil _) rfl ?_
          refine .ib ?_
          refine .rg (u (bi (.t rfl) (.i rfl) rfl) <| u (mv (.t rfl)) <| .nil _) rfl ?_
          exact .kq (.il (ih2 ((ar .add .i64 v5 x7.delta), (ar .add .i64 v6 1)) (nxi h))) (.c rfl (.c rfl (.c rfl (.c rfl .n)))) .n
        · refine .xt rfl ?_
          replace h := mpR h hx2
          refine .sq ?_
          refine .rg (u (mv (.t rfl)) <| u (asg (.t rfl)) <| u (asg (.i rfl)) <| .nil _) rfl ?_
          obtain rfl := Option.some.inj h
          exact .rt Try.func12 (.t rfl <| .t rfl <| .n) .n rfl rfl
  refine .bq h (.t rfl) (fun h => ?_) (fun h => ?_)
  · refine .skp ?_
    exact .kq (J1 (!x1) h) (.c rfl (.c rfl (.c rfl .n))) (.c rfl .n)
  · refine .sq ?_
    refine .rg (u (mv (.t rfl)) <| u (bc (.t rfl) (.i rfl) rfl rfl) <| u (asg (.t rfl)) <| .nil _) rfl ?_
    refine .bq h (.t rfl) (fun h => ?_) (fun h => ?_)
    · refine .skp ?_
      exact .kq (J1 (cm .lss nth 0) h) (.c rfl (.c rfl (.c rfl .n))) (.c rfl .n)
    · refine .rg (u (mv (.t rfl)) <| u (fa ff25_3 (.t rfl)) <| u (ld tf23 (.t rfl) rfl rfl) <| u (lnm sf23 (.t rfl)) <| u (bc (.t rfl) (.t rfl) rfl rfl) <| u (asg (.t rfl)) <| .nil _) rfl ?_
      exact .kq (J1 (cm .geq nth (p_a.seen.length : Int)) h) (.c rfl (.c rfl (.c rfl .n))) (.c rfl .n)

theorem ref19_Same_c {z : Option Nat} {p_a : Arrive} {b : Arrive} {r : Bool} (h : ref19_Same z p_a b = some r) :
    AC Try.prog 15 [.ro (enc_Arrive p_a), .ro (enc_Arrive b)] (.ro (.bool r)) [] := by
  refine AC.of Try.func15 rfl rfl fun w M0 hM => ?_
  unfold ref19_Same at h
  refine .sq ?_
  refine .rg (bx 2 (.t rfl) rfl rfl <| bx 3 (.t rfl) rfl rfl <| u (asg .b) <| .nil _) rfl ?_
  refine .sq ?_
  refine .sq ?_
  refine .rg (u (fa ff25_0 (.t rfl)) <| u (ld tf22 (.t rfl) rfl rfl) <| u (fa ff25_0 (.t rfl)) <| u (ld tf22 (.t rfl) rfl rfl) <| u (bc (.t rfl) (.t rfl) rfl rfl) <| u (mv (.t rfl)) <| gd rfl rfl (fun hB => fa ff25_1 (.t rfl)) <| gd rfl rfl (fun hB => ld tf3 (.m rfl hB) rfl rfl) <| gd rfl rfl (fun hB => fa ff25_1 (.t rfl)) <| gd rfl rfl (fun hB => ld tf3 (.m rfl hB) rfl rfl) <| gd rfl rfl (fun hB => bc (.m rfl hB) (.m rfl hB) rfl rfl) <| u (pko (.t rfl) (.t rfl)) <| u (mv (.t rfl)) <| gd rfl rfl (fun hB => fa ff25_2 (.t rfl)) <| gd rfl rfl (fun hB => ld tf5 (.m rfl hB) rfl rfl) <| gd rfl rfl (fun hB => fa ff25_2 (.t rfl)) <| gd rfl rfl (fun hB => ld tf5 (.m rfl hB) rfl rfl) <| gd rfl rfl (fun hB => bc (.m rfl hB) (.m rfl hB) rfl rfl) <| u (pko (.t rfl) (.t rfl)) <| u (mv (.t rfl)) <| gd rfl rfl (fun hB => fa ff25_3 (.t rfl)) <| gd rfl rfl (fun hB => ld tf23 (.m rfl hB) rfl rfl) <| gd rfl rfl (fun hB => lnm sf23 (.m rfl hB)) <| gd rfl rfl (fun hB => fa ff25_3 (.t rfl)) <| gd rfl rfl (fun hB => ld tf23 (.m rfl hB) rfl rfl) <| gd rfl rfl (fun hB => lnm sf23 (.m rfl hB)) <| gd rfl rfl (fun hB => bc (.m rfl hB) (.m rfl hB) rfl rfl) <| u (pko (.t rfl) (.t rfl)) <| .nil _) rfl ?_
  refine .bq h (.t rfl) (fun h => ?_) (fun h => ?_)
  · refine .sq ?_
    refine .rg (u (asg .b) <| .nil _) rfl ?_
    obtain rfl := Option.some.inj h
    exact .rt Try.func15 (.t rfl <| .n) .n rfl rfl
  · refine .skp ?_
    refine .sq ?_
    refine .sq ?_
    refine .rg (u (asg (.i rfl)) <| .nil _) rfl ?_
    refine .bl ?_
    unfold ref19_Same_l1 at h
    refine .kq (.lo (fun (s : Int) => ⟨[(2, .ptr 2 0), (3, .ptr 3 0), (5, .ro (.int .i64 s))], [(2, some (.box [.ro (.int .u16 p_a.base), .ro (.int .i64 p_a.time), .ro (.int .u8 p_a.count), .ro (.list 2 (List.map cells_Seen p_a.seen))])), (3, some (.box [.ro (.int .u16 b.base), .ro (.int .i64 b.time), .ro (.int .u8 b.count), .ro (.list 2 (List.map cells_Seen b.seen))]))]⟩) h ?_) (.c rfl (.c rfl (.c rfl .n))) (.c rfl (.c rfl .n))
    intro v1 u1 h ih1 hx1
    replace h : ref19_Same_s1 z p_a b v1 = _ := h
    unfold ref19_Same_s1 at h
    refine .sq ?_
    refine .sq ?_
    refine .rg (u (mv (.t rfl)) <| u (fa ff25_3 (.t rfl)) <| u (ld tf23 (.t rfl) rfl rfl) <| u (lnm sf23 (.t rfl)) <| u (bc (.t rfl) (.t rfl) rfl rfl) <| .nil _) rfl ?_
    refine .bq h (.t rfl) (fun h => ?_) (fun h => ?_)
    · refine .skp ?_
      refine .sq ?_
      refine .bl ?_
      refine .sq ?_
      refine be h fun x2 hx2 h => ?_
      refine be h fun x3 hx3 h => ?_
      refine .rd mixed (u (fa ff25_3 (.t rfl)) <| u (ld tf23 (.t rfl) rfl rfl) <| u (mv (.t rfl)) <| u (ia sf23 (.t rfl) (.t rfl) (ix_map cells_Seen hx2)) <| u (lr tf46 (.t rfl) rfl) <| u (fa ff25_3 (.t rfl)) <| u (ld tf23 (.t rfl) rfl rfl) <| u (mv (.t rfl)) <| u (ia sf23 (.t rfl) (.t rfl) (ix_map cells_Seen hx3)) <| u (lr tf46 (.t rfl) rfl) <| u (eqs qf46 (.t rfl) (.t rfl) rfl rfl rfl rfl) <| .nil _) (by kernel_rfl) rfl ?_
      refine .bq h (.t rfl) (fun h => ?_) (fun h => ?_)
      · refine .sq ?_
        refine .rg (u (asg .b) <| .nil _) rfl ?_
        replace h := mpR h hx1
        obtain rfl := Option.some.inj h
        exact .rt Try.func15 (.t rfl <| .n) .n rfl rfl
      · refine .skp ?_
        refine .ib ?_
        refine .rg (u (mv (.t rfl)) <| u (bi (.t rfl) (.i rfl) rfl) <| u (asg (.t rfl)) <| .nil _) rfl ?_
        exact .kq (.il (ih1 (ar .add .i64 v1 1) (nxi h))) (.c rfl (.c rfl (.c rfl .n))) (.c rfl (.c rfl .n))
    · refine .xt rfl ?_
      replace h := mpR h hx1
      refine .sq ?_
      refine .rg (u (asg .b) <| .nil _) rfl ?_
      obtain rfl := Option.some.inj h
      exact .rt Try.func15 (.t rfl <| .n) .n rfl rfl

theorem chunk_Canon_c {z : Option Nat} {chunks : List Int} {count : Int} {r : Bool} (h : chunk_Canon z chunks count = some r) :
    AC Try.prog 36 [.ro (.list 1 (List.map (ei .u16) chunks)), .ro (.int .i64 count)] (.ro (.bool r)) [] := by
  refine AC.of Try.func36 rfl rfl fun w M0 hM => ?_
  unfold chunk_Canon at h
  refine .sq ?_
  refine .rg (u (asg .b) <| .nil _) rfl ?_
  refine .sq ?_
  refine be h fun x1 hx1 h => ?_
  refine .rg (u (mv (.t rfl)) <| u (mv (.t rfl)) <| cnf 16000 cf49 (chunk_Read_c hx1) (.c (.t rfl) <| .c (.t rfl) <| .n) rfl rfl rfl <| u (mv (.t rfl)) <| u (ex (.t rfl) rfl rfl) <| u (ex (.t rfl) rfl rfl) <| u (ex (.t rfl) rfl rfl) <| u (asg (.t rfl)) <| u (asg (.t rfl)) <| u (asg (.t rfl)) <| .nil _) rfl ?_
  refine .sq ?_
  refine .sq ?_
  refine .rg (u (mv (.t rfl)) <| u (bc (.t rfl) (.i rfl) rfl rfl) <| .nil _) rfl ?_
  refine .bq h (.t rfl) (fun h => ?_) (fun h => ?_)
  · refine .sq ?_
    refine .rg (u (asg .b) <| .nil _) rfl ?_
    obtain rfl := Option.some.inj h
    exact .rt Try.func36 (.t rfl <| .n) .n rfl rfl
  · refine .skp ?_
    refine .sq ?_
    refine .sq ?_
    refine .rg (u (mv (.t rfl)) <| u (lnm sf52 (.t rfl)) <| u (mv (.i rfl)) <| .nil _) rfl ?_
    refine .bl ?_
    refine .fz 16000 rfl ?_
    unfold chunk_Canon_l1 at h
    refine .kq (.lo (fun (s : List Int × Int) => ⟨[(5, .ro (.list 1 (List.map (ei .i64) s.1))), (21, .ro (.list 1 (List.map (ei .u16) chunks))), (22, .ro (.int .i64 (chunks.length : Int))), (23, .ro (.int .i64 s.2))], []⟩) h ?_) (.c rfl (.c rfl (.c rfl (.c rfl .n)))) .n
    rintro ⟨v2, v3⟩ u1 h ih1 hx1
    replace h : chunk_Canon_s1 z chunks v2 v3 = _ := h
    unfold chunk_Canon_s1 at h
    refine .sq ?_
    refine .rg (u (bc (.t rfl) (.t rfl) rfl rfl) <| .nil _) rfl ?_
    refine .sq ?_
    refine .bq h (.t rfl) (fun h => ?_) (fun h => ?_)
    · refine .skp ?_
      refine .sq ?_
      refine .bl ?_
      refine .sq ?_
      refine be h fun x4 hx4 h => ?_
      refine .rg (u (ia sf52 (.t rfl) (.t rfl) (ix_map (ei .u16) hx4)) <| u (lr tf22 (.t rfl) rfl) <| u (asg (.t rfl)) <| .nil _) rfl ?_
      refine .sq ?_
      refine .sq ?_
      refine .rg (u (mv (.t rfl)) <| u (lnm sf55 (.t rfl)) <| u (bc (.t rfl) (.i rfl) rfl rfl) <| .nil _) rfl ?_
      refine .bq h (.t rfl) (fun h => ?_) (fun h => ?_)
      · refine .sq ?_
        refine .rg (u (asg .b) <| .nil _) rfl ?_
        replace h := mpR h hx1
        obtain rfl := Option.some.inj h
        exact .rt Try.func36 (.t rfl <| .n) .n rfl rfl
      · refine .skp ?_
        refine .sq ?_
        refine be h fun x5 hx5 h => ?_
        refine .rg (u (mv (.t rfl)) <| cl [] cf43 (chunk_first_c hx5) (.c (.t rfl) <| .n) (.inl rfl) <| u (mv (.t rfl)) <| u (ex (.t rfl) rfl rfl) <| u (ex (.t rfl) rfl rfl) <| u (asg (.t rfl)) <| u (asg (.t rfl)) <| .nil _) rfl ?_
        refine .sq ?_
        refine .sq ?_
        refine .rg (u (mv (.t rfl)) <| u (mv (.t rfl)) <| u (bc (.t rfl) (.t rfl) rfl rfl) <| .nil _) rfl ?_
        refine .bq h (.t rfl) (fun h => ?_) (fun h => ?_)
        · refine .sq ?_
          refine .rg (u (asg .b) <| .nil _) rfl ?_
          replace h := mpR h hx1
          obtain rfl := Option.some.inj h
          exact .rt Try.func36 (.t rfl <| .n) .n rfl rfl
        · refine .skp ?_
          refine be h fun x6 hx6 h => ?_
          refine .rg (u (mv (.t rfl)) <| u (mv (.t rfl)) <| u (sl sf55 (.t rfl) (.s (.t rfl)) .n hx6) <| u (asg (.t rfl)) <| .nil _) rfl ?_
          refine .ib ?_
          refine .rg (u (bi (.t rfl) (.i rfl) rfl) <| u (mv (.t rfl)) <| .nil _) rfl ?_
          exact .kq (.il (ih1 (x6, (ar .add .i64 v3 1)) (nxi h))) (.c rfl (.c rfl (.c rfl (.c rfl .n)))) .n
    · refine .xt rfl ?_
      replace h := mpR h hx1
      refine .sq ?_
      refine .rg (u (mv (.t rfl)) <| u (lnm sf55 (.t rfl)) <| u (bc (.t rfl) (.i rfl) rfl rfl) <| u (asg (.t rfl)) <| .nil _) rfl ?_
      obtain rfl := Option.some.inj h
      exact .rt Try.func36 (.t rfl <| .n) .n rfl rfl

theorem bytes_Equal_c (p_a : List Int) (b : List Int) :
    AC Try.prog 74 [.ro (.list 1 (List.map e8 p_a)), .ro (.list 1 (List.map e8 b))] (.ro (.bool (bytes_Equal p_a b))) [] := by
  obtain ⟨r, h⟩ : ∃ r, bytes_Equal p_a b = r := ⟨_, rfl⟩
  rw [h]
  refine AC.of Try.func74 rfl rfl fun w M0 hM => ?_
  unfold bytes_Equal at h
  refine .sq ?_
  refine .rg (u (asg .b) <| .nil _) rfl ?_
  refine .sq ?_
  refine .rg (u (mv (.t rfl)) <| u (bt bt26_9 (.t rfl)) <| u (mv (.t rfl)) <| u (bt bt26_9 (.t rfl)) <| u (sq (.t rfl) (.t rfl) rfl rfl) <| u (asg (.t rfl)) <| .nil _) rfl ?_
  subst h
  exact .rt Try.func74 (.t rfl <| .n) .n rfl rfl

theorem internal_bytealg_Cutover_c (n : Int) :
    AC Try.prog 76 [.ro (.int .i64 n)] (.ro (.int .i64 (internal_bytealg_Cutover n))) [] := by
  obtain ⟨r, h⟩ : ∃ r, internal_bytealg_Cutover n = r := ⟨_, rfl⟩
  rw [h]
  refine AC.of Try.func76 rfl rfl fun w M0 hM => ?_
  unfold internal_bytealg_Cutover at h
  refine .sq ?_
  refine .rg (u (asg (.i rfl)) <| .nil _) rfl ?_
  refine .sq ?_
  refine .rg (u (mv (.t rfl)) <| u (bi (.t rfl) (.i rfl) rfl) <| u (di (.t rfl) (.i rfl) rfl (by decide)) <| u (asg (.t rfl)) <| .nil _) rfl ?_
  subst h
  exact .rt Try.func76 (.t rfl <| .n) .n rfl rfl

theorem internal_bytealg_hashStr_c {z : Option Nat} {sep : List Int} {r : Int × Int} (h : internal_bytealg_hashStr z sep = some r) :
    AC Try.prog 80 [.ro (.list 1 (List.map e8 sep))] (.ro (.tup [.int .u32 r.1, .int .u32 r.2])) [] := by
  refine AC.of Try.func80 rfl rfl fun w M0 hM => ?_
  unfold internal_bytealg_hashStr at h
  refine .sq ?_
  refine .rg (u (asg (.i rfl)) <| u (asg (.i rfl)) <| .nil _) rfl ?_
  refine .sq ?_
  refine .rg (u (asg (.i rfl)) <| .nil _) rfl ?_
  refine .sq ?_
  refine .sq ?_
  refine .rg (u (asg (.i rfl)) <| .nil _) rfl ?_
  refine .bl ?_
  unfold internal_bytealg_hashStr_l1 at h
  refine .kq (.lo (fun (s : Int × Int) => ⟨[(0, .ro (.list 1 (List.map e8 sep))), (4, .ro (.int .u32 s.1)), (5, .ro (.int .i64 s.2))], []⟩) h ?_) (.c rfl (.c rfl (.c rfl .n))) .n
  rintro ⟨v1, v2⟩ u1 h ih1 hx1
  replace h : internal_bytealg_hashStr_s1 z sep v1 v2 = _ := h
  unfold internal_bytealg_hashStr_s1 at h
  refine .sq ?_
  refine .sq ?_
  refine .rg (u (mv (.t rfl)) <| u (mv (.t rfl)) <| u (lnm sf26 (.t rfl)) <| u (bc (.t rfl) (.t rfl) rfl rfl) <| .nil _) rfl ?_
  refine .bq h (.t rfl) (fun h => ?_) (fun h => ?_)
  · refine .skp ?_
    refine .sq ?_
    refine .bl ?_
    refine be h fun x3 hx3 h => ?_
    refine .rg (u (mv (.t rfl)) <| u (bi (.t rfl) (.i rfl) rfl) <| u (mv (.t rfl)) <| u (mv (.t rfl)) <| u (ia sf26 (.t rfl) (.t rfl) (ix_map e8 hx3)) <| u (lr tf5 (.t rfl) rfl) <| u (cv cv5_65 (.t rfl)) <| u (bi (.t rfl) (.t rfl) rfl) <| u (asg (.t rfl)) <| .nil _) rfl ?_
    refine .ib ?_
    refine .rg (u (mv (.t rfl)) <| u (bi (.t rfl) (.i rfl) rfl) <| u (asg (.t rfl)) <| .nil _) rfl ?_
    exact .kq (.il (ih1 ((ar .add .u32 (ar .mul .u32 v1 16777619) (IntKind.u32.wrap x3)), (ar .add .i64 v2 1)) (nxi h))) (.c rfl (.c rfl (.c rfl .n))) .n
  · refine .xt rfl ?_
    replace h := mpR h hx1
    refine .sq ?_
    refine .rg (u (asg (.i rfl)) <| u (asg (.i rfl)) <| .nil _) rfl ?_
    refine .sq ?_
    refine .sq ?_
    refine .rg (u (mv (.t rfl)) <| u (lnm sf26 (.t rfl)) <| u (asg (.t rfl)) <| .nil _) rfl ?_
    refine .bl ?_
    unfold internal_bytealg_hashStr_l2 at h
    refine .kq (.lo (fun (s : Int × Int × Int) => ⟨[(4, .ro (.int .u32 v1)), (6, .ro (.int .u32 s.1)), (7, .ro (.int .u32 s.2.1)), (8, .ro (.int .i64 s.2.2))], []⟩) h ?_) (.c rfl (.c rfl (.c rfl (.c rfl .n)))) .n
    rintro ⟨v4, v5, v6⟩ u2 h ih2 hx2
    replace h : internal_bytealg_hashStr_s2 z v1 v4 v5 v6 = _ := h
    unfold internal_bytealg_hashStr_s2 at h
    refine .sq ?_
    refine .sq ?_
    refine .rg (u (mv (.t rfl)) <| u (bc (.t rfl) (.i rfl) rfl rfl) <| .nil _) rfl ?_
    refine .bq h (.t rfl) (fun h => ?_) (fun h => ?_)
    · refine .skp ?_
      refine .sq ?_
      refine .bl ?_
      refine .sq ?_
      refine .sq ?_
      refine .rg (u (mv (.t rfl)) <| u (bi (.t rfl) (.i rfl) rfl) <| u (bc (.t rfl) (.i rfl) rfl rfl) <| .nil _) rfl ?_
      refine .jq (t := some u2) (fun (a : Int) => ⟨[(4, .ro (.int .u32 v1)), (6, .ro (.int .u32 a)), (7, .ro (.int .u32 v5)), (8, .ro (.int .i64 v6))], []⟩) (fun (a : Int) => internal_bytealg_hashStr_j3 z v5 v6 a) ?_ (fun J3 => ?_)
      · intro v7 h
        replace h : internal_bytealg_hashStr_j3 z v5 v6 v7 = _ := h
        unfold internal_bytealg_hashStr_j3 at h
        refine .rg (u (mv (.t rfl)) <| u (mv (.t rfl)) <| u (bi (.t rfl) (.t rfl) rfl) <| u (asg (.t rfl)) <| .nil _) rfl ?_
        refine .ib ?_
        refine .rg (u (mv (.t rfl)) <| u (sh (.t rfl) (.i rfl) rfl (by decide)) <| u (asg (.t rfl)) <| .nil _) rfl ?_
        exact .kq (.il (ih2 (v7, (ar .mul .u32 v5 v5), (sf .shr .i64 v6 1)) (nxi h))) (.c rfl (.c rfl (.c rfl (.c rfl .n)))) .n
      refine .bq h (.t rfl) (fun h => ?_) (fun h => ?_)
      · refine .rg (u (mv (.t rfl)) <| u (mv (.t rfl)) <| u (bi (.t rfl) (.t rfl) rfl) <| u (asg (.t rfl)) <| .nil _) rfl ?_
        exact .kq (J3 (ar .mul .u32 v4 v5) h) (.c rfl (.c rfl (.c rfl (.c rfl .n)))) .n
      · refine .skp ?_
        exact .kq (J3 v4 h) (.c rfl (.c rfl (.c rfl (.c rfl .n)))) .n
    · refine .xt rfl ?_
      replace h := mpR h hx2
      refine .sq ?_
      refine .rg (u (mv (.t rfl)) <| u (mv (.t rfl)) <| u (asg (.t rfl)) <| u (asg (.t rfl)) <| .nil _) rfl ?_
      obtain rfl := Option.some.inj h
      exact .rt Try.func80 (.t rfl <| .t rfl <| .n) .n rfl rfl

theorem internal_bytealg_IndexRabinKarp_c {z : Option Nat} {p_s : List Int} {sep : List Int} {r : Int} (h : internal_bytealg_IndexRabinKarp z p_s sep = some r) :
    AC Try.prog 77 [.ro (.list 1 (List.map e8 p_s)), .ro (.list 1 (List.map e8 sep))] (.ro (.int .i64 r)) [] := by
  refine AC.of Try.func77 rfl rfl fun w M0 hM => ?_
  unfold internal_bytealg_IndexRabinKarp at h
  refine .sq ?_
  refine .rg (u (asg (.i rfl)) <| .nil _) rfl ?_
  refine .sq ?_
  refine be h fun x1 hx1 h => ?_
  refine .rg (u (mv (.t rfl)) <| cl [] cf80 (internal_bytealg_hashStr_c hx1) (.c (.t rfl) <| .n) (.inl rfl) <| u (mv (.t rfl)) <| u (ex (.t rfl) rfl rfl) <| u (ex (.t rfl) rfl rfl) <| u (asg (.t rfl)) <| u (asg (.t rfl)) <| .nil _) rfl ?_
  refine .sq ?_
  refine .rg (u (mv (.t rfl)) <| u (lnm sf26 (.t rfl)) <| u (asg (.t rfl)) <| .nil _) rfl ?_
  refine .sq ?_
  refine .rg (u (asg (.i rfl)) <| .nil _) rfl ?_
  refine .sq ?_
  refine .sq ?_
  refine .rg (u (asg (.i rfl)) <| .nil _) rfl ?_
  refine .bl ?_
  unfold internal_bytealg_IndexRabinKarp_l1 at h
  refine .kq (.lo (fun (s : Int × Int) => ⟨[(0, .ro (.list 1 (List.map e8 p_s))), (1, .ro (.list 1 (List.map e8 sep))), (5, .ro (.int .u32 x1.1)), (6, .ro (.int .u32 x1.2)), (7, .ro (.int .i64 (sep.length : Int))), (8, .ro (.int .u32 s.1)), (9, .ro (.int .i64 s.2))], []⟩) h ?_) (.c rfl (.c rfl (.c rfl (.c rfl (.c rfl (.c rfl (.c rfl .n))))))) .n
  rintro ⟨v2, v3⟩ u1 h ih1 hx1
  replace h : internal_bytealg_IndexRabinKarp_s1 z p_s sep x1 v2 v3 = _ := h
  unfold internal_bytealg_IndexRabinKarp_s1 at h
  refine .sq ?_
  refine .sq ?_
  refine .rg (u (mv (.t rfl)) <| u (mv (.t rfl)) <| u (bc (.t rfl) (.t rfl) rfl rfl) <| .nil _) rfl ?_
  refine .bq h (.t rfl) (fun h => ?_) (fun h => ?_)
  · refine .skp ?_
    refine .sq ?_
    refine .bl ?_
    refine be h fun x4 hx4 h => ?_
    refine .rg (u (mv (.t rfl)) <| u (bi (.t rfl) (.i rfl) rfl) <| u (mv (.t rfl)) <| u (mv (.t rfl)) <| u (ia sf26 (.t rfl) (.t rfl) (ix_map e8 hx4)) <| u (lr tf5 (.t rfl) rfl) <| u (cv cv5_65 (.t rfl)) <| u (bi (.t rfl) (.t rfl) rfl) <| u (asg (.t rfl)) <| .nil _) rfl ?_
    refine .ib ?_
    refine .rg (u (mv (.t rfl)) <| u (bi (.t rfl) (.i rfl) rfl) <| u (asg (.t rfl)) <| .nil _) rfl ?_
    exact .kq (.il (ih1 ((ar .add .u32 (ar .mul .u32 v2 16777619) (IntKind.u32.wrap x4)), (ar .add .i64 v3 1)) (nxi h))) (.c rfl (.c rfl (.c rfl (.c rfl (.c rfl (.c rfl (.c rfl .n))))))) .n
  · refine .xt rfl ?_
    replace h := mpR h hx1
    refine .sq ?_
    refine .sq ?_
    refine be h fun x5 hx5 h => ?_
    refine .rd mixed (u (mv (.t rfl)) <| u (mv (.t rfl)) <| u (bc (.t rfl) (.t rfl) rfl rfl) <| u (mv (.t rfl)) <| gd rfl rfl (fun hB => mv (.t rfl)) <| gd rfl rfl (fun hB => mv (.t rfl)) <| gd rfl rfl (fun hB => sl sf26 (.m rfl hB) .n (.s (.m rfl hB)) (gTt hx5 hB)) <| gd rfl rfl (fun hB => bt bt26_9 (.m rfl hB)) <| gd rfl rfl (fun hB => mv (.t rfl)) <| gd rfl rfl (fun hB => bt bt26_9 (.m rfl hB)) <| gd rfl rfl (fun hB => sq (.m rfl hB) (.m rfl hB) rfl rfl) <| u (pka (.t rfl) (.t rfl)) <| .nil _) (by kernel_rfl) rfl ?_
    refine .bq h (.t rfl) (fun h => ?_) (fun h => ?_)
    · refine .sq ?_
      refine .rg (u (asg (.i rfl)) <| .nil _) rfl ?_
      obtain rfl := Option.some.inj h
      exact .rt Try.func77 (.t rfl <| .n) .n rfl rfl
    · refine .skp ?_
      refine .sq ?_
      refine .sq ?_
      refine .rg (u (mv (.t rfl)) <| u (asg (.t rfl)) <| .nil _) rfl ?_
      refine .bl ?_
      unfold internal_bytealg_IndexRabinKarp_l2 at h
      refine .kq (.lo (fun (s : Int × Int) => ⟨[(0, .ro (.list 1 (List.map e8 p_s))), (1, .ro (.list 1 (List.map e8 sep))), (5, .ro (.int .u32 x1.1)), (6, .ro (.int .u32 x1.2)), (7, .ro (.int .i64 (sep.length : Int))), (8, .ro (.int .u32 s.1)), (10, .ro (.int .i64 s.2))], []⟩) h ?_) (.c rfl (.c rfl (.c rfl (.c rfl (.c rfl (.c rfl (.c rfl .n))))))) .n
      rintro ⟨v6, v7⟩ u2 h ih2 hx2
      replace h : internal_bytealg_IndexRabinKarp_s2 z p_s sep x1 v6 v7 = _ := h
      unfold internal_bytealg_IndexRabinKarp_s2 at h
      refine .sq ?_
      refine .sq ?_
      refine .rg (u (mv (.t rfl)) <| u (mv (.t rfl)) <| u (lnm sf26 (.t rfl)) <| u (bc (.t rfl) (.t rfl) rfl rfl) <| .nil _) rfl ?_
      refine .bq h (.t rfl) (fun h => ?_) (fun h => ?_)
      · refine .skp ?_
        refine .bl ?_
        refine .sq ?_
        refine .rg (u (mv (.t rfl)) <| u (bi (.t rfl) (.i rfl) rfl) <| u (asg (.t rfl)) <| .nil _) rfl ?_
        refine .sq ?_
        refine be h fun x8 hx8 h => ?_
        refine .rg (u (mv (.t rfl)) <| u (mv (.t rfl)) <| u (mv (.t rfl)) <| u (ia sf26 (.t rfl) (.t rfl) (ix_map e8 hx8)) <| u (lr tf5 (.t rfl) rfl) <| u (cv cv5_65 (.t rfl)) <| u (bi (.t rfl) (.t rfl) rfl) <| u (asg (.t rfl)) <| .nil _) rfl ?_
        refine .sq ?_
        refine be h fun x9 hx9 h => ?_
        refine .rg (u (mv (.t rfl)) <| u (mv (.t rfl)) <| u (mv (.t rfl)) <| u (mv (.t rfl)) <| u (mv (.t rfl)) <| u (bi (.t rfl) (.t rfl) rfl) <| u (ia sf26 (.t rfl) (.t rfl) (ix_map e8 hx9)) <| u (lr tf5 (.t rfl) rfl) <| u (cv cv5_65 (.t rfl)) <| u (bi (.t rfl) (.t rfl) rfl) <| u (bi (.t rfl) (.t rfl) rfl) <| u (asg (.t rfl)) <| .nil _) rfl ?_
        refine .sq ?_
        refine .rg (u (mv (.t rfl)) <| u (bi (.t rfl) (.i rfl) rfl) <| u (asg (.t rfl)) <| .nil _) rfl ?_
        refine .sq ?_
        refine be h fun x10 hx10 h => ?_
        refine .rd mixed (u (mv (.t rfl)) <| u (mv (.t rfl)) <| u (bc (.t rfl) (.t rfl) rfl rfl) <| u (mv (.t rfl)) <| gd rfl rfl (fun hB => mv (.t rfl)) <| gd rfl rfl (fun hB => mv (.t rfl)) <| gd rfl rfl (fun hB => mv (.t rfl)) <| gd rfl rfl (fun hB => bi (.m rfl hB) (.m rfl hB) rfl) <| gd rfl rfl (fun hB => mv (.t rfl)) <| gd rfl rfl (fun hB => sl sf26 (.m rfl hB) (.s (.m rfl hB)) (.s (.m rfl hB)) (gTt hx10 hB)) <| gd rfl rfl (fun hB => bt bt26_9 (.m rfl hB)) <| gd rfl rfl (fun hB => mv (.t rfl)) <| gd rfl rfl (fun hB => bt bt26_9 (.m rfl hB)) <| gd rfl rfl (fun hB => sq (.m rfl hB) (.m rfl hB) rfl rfl) <| u (pka (.t rfl) (.t rfl)) <| .nil _) (by kernel_rfl) rfl ?_
        refine .bq h (.t rfl) (fun h => ?_) (fun h => ?_)
        · refine .sq ?_
          refine .rg (u (mv (.t rfl)) <| u (mv (.t rfl)) <| u (bi (.t rfl) (.t rfl) rfl) <| u (asg (.t rfl)) <| .nil _) rfl ?_
          replace h := mpR h hx2
          obtain rfl := Option.some.inj h
          exact .rt Try.func77 (.t rfl <| .n) .n rfl rfl
        · refine .skp ?_
          refine .ib ?_
          exact .kq (.il (ih2 ((ar .sub .u32 (ar .add .u32 (ar .mul .u32 v6 16777619) (IntKind.u32.wrap x8)) (ar .mul .u32 x1.2 (IntKind.u32.wrap x9))), (ar .add .i64 v7 1)) (nxi h))) (.c rfl (.c rfl (.c rfl (.c rfl (.c rfl (.c rfl (.c rfl .n))))))) .n
      · refine .xt rfl ?_
        replace h := mpR h hx2
        refine .sq ?_
        refine .rg (u (asg (.i rfl)) <| .nil _) rfl ?_
        obtain rfl := Option.some.inj h
        exact .rt Try.func77 (.t rfl <| .n) .n rfl rfl

theorem bytes_Count_c {z : Option Nat} {p_s : List Int} {sep : List Int} {r : Int} (h : bytes_Count z p_s sep = some r) :
    AC Try.prog 55 [.ro (.list 1 (List.map e8 p_s)), .ro (.list 1 (List.map e8 sep))] (.ro (.int .i64 r)) [] := by
  refine AC.of Try.func55 rfl rfl fun w M0 hM => ?_
  unfold bytes_Count at h
  refine .sq ?_
  refine .rg (u (asg (.i rfl)) <| .nil _) rfl ?_
  refine .sq ?_
  refine .sq ?_
  refine .rg (u (mv (.t rfl)) <| u (lnm sf26 (.t rfl)) <| u (bc (.t rfl) (.i rfl) rfl rfl) <| .nil _) rfl ?_
  refine .bq h (.t rfl) (fun h => ?_) (fun h => ?_)
  · refine .sq ?_
    cases h
  · refine .skp ?_
    refine .sq ?_
    refine .sq ?_
    refine .rg (u (mv (.t rfl)) <| u (lnm sf26 (.t rfl)) <| u (bc (.t rfl) (.i rfl) rfl rfl) <| .nil _) rfl ?_
    refine .bq h (.t rfl) (fun h => ?_) (fun h => ?_)
    · refine .sq ?_
      refine be h fun x1 hx1 h => ?_
      refine .rg (u (mv (.t rfl)) <| u (mv (.t rfl)) <| u (ia sf26 (.t rfl) (.i rfl) (ix_map e8 hx1)) <| u (lr tf5 (.t rfl) rfl) <| u (ctb xf66 (.t rfl) (.t rfl)) <| u (asg (.t rfl)) <| .nil _) rfl ?_
      obtain rfl := Option.some.inj h
      exact .rt Try.func55 (.t rfl <| .n) .n rfl rfl
    · refine .skp ?_
      refine .sq ?_
      refine .rg (u (asg (.i rfl)) <| .nil _) rfl ?_
      refine .bl ?_
      unfold bytes_Count_l1 at h
      refine .kq (.lo (fun (s : List Int × Int) => ⟨[(0, .ro (.list 1 (List.map e8 s.1))), (1, .ro (.list 1 (List.map e8 sep))), (5, .ro (.int .i64 s.2))], []⟩) h ?_) (.c rfl (.c rfl (.c rfl .n))) .n
      rintro ⟨v2, v3⟩ u1 h ih1 hx1
      replace h : bytes_Count_s1 z v2 v3 = _ := h
      unfold bytes_Count_s1 at h
      refine .bl ?_
      refine .sq ?_
      cases h

theorem pad_Zero_c {z : Option Nat} {b : List Int} {r : Bool} (h : pad_Zero z b = some r) :
    AC Try.prog 37 [.ro (.list 1 (List.map e8 b))] (.ro (.bool r)) [] := by
  refine AC.of Try.func37 rfl rfl fun w M0 hM => ?_
  unfold pad_Zero at h
  refine .sq ?_
  refine .rg (u (asg .b) <| .nil _) rfl ?_
  refine .sq ?_
  refine be h fun x1 hx1 h => ?_
  refine .rg (u (mv (.t rfl)) <| bs (F := e8) (l := [0]) 4 pf26 (.c (.i rfl) rfl <| .n) rfl (fun _ _ => rfl) rfl rfl <| cl [] cf55 (bytes_Count_c hx1) (.c (.t rfl) <| .b (.t rfl) rfl <| .n) (.inr rfl) <| u (mv (.t rfl)) <| u (lnm sf26 (.t rfl)) <| u (bc (.t rfl) (.t rfl) rfl rfl) <| u (asg (.t rfl)) <| .nil _) rfl ?_
  obtain rfl := Option.some.inj h
  exact .rt Try.func37 (.t rfl <| .n) .n rfl rfl

theorem arrive_Canon_c {z : Option Nat} {body : List Int} {r : Bool} (h : arrive_Canon z body = some r) :
    AC Try.prog 16 [.ro (.list 1 (List.map e8 body))] (.ro (.bool r)) [] := by
  refine AC.of Try.func16 rfl rfl fun w M0 hM => ?_
  unfold arrive_Canon at h
  refine .sq ?_
  refine .rg (u (asg .b) <| .nil _) rfl ?_
  refine .sq ?_
  refine be h fun x1 hx1 h => ?_
  refine .rg (u (mv (.t rfl)) <| cl [] cf29 (arrive_read_c hx1) (.c (.t rfl) <| .n) (.inl rfl) <| u (mv (.t rfl)) <| u (ex (.t rfl) rfl rfl) <| u (ex (.t rfl) rfl rfl) <| u (ex (.t rfl) rfl rfl) <| u (ex (.t rfl) rfl rfl) <| al 3 zf25 rfl <| st tf25 (.t rfl) rfl (.t rfl) rfl rfl rfl <| u (asg (.t rfl)) <| u (asg (.t rfl)) <| u (asg (.t rfl)) <| .nil _) rfl ?_
  refine .sq ?_
  refine be h fun x2 hx2 h => ?_
  refine be h fun x3 hx3 h => ?_
  refine .rg (u (mv (.t rfl)) <| u (bc (.t rfl) (.i rfl) rfl rfl) <| u (mv (.t rfl)) <| gd rfl rfl (fun hB => mv (.t rfl)) <| gd rfl rfl (fun hB => fa ff25_3 (.t rfl)) <| gd rfl rfl (fun hB => ld tf23 (.m rfl hB) rfl rfl) <| gd rfl rfl (fun hB => lnm sf23 (.m rfl hB)) <| cg rfl rfl cf36 (fun hB => (chunk_Canon_c (gTt hx2 hB))) (fun hB => .c (.m rfl hB) <| .c (.m rfl hB) <| .n) (.inl rfl) <| u (pka (.t rfl) (.t rfl)) <| u (mv (.t rfl)) <| gd rfl rfl (fun hB => mv (.t rfl)) <| cg rfl rfl cf37 (fun hB => (pad_Zero_c (gTt hx3 hB))) (fun hB => .c (.m rfl hB) <| .n) (.inl rfl) <| u (pka (.t rfl) (.t rfl)) <| u (asg (.t rfl)) <| .nil _) rfl ?_
  obtain rfl := Option.some.inj h
  exact .rt Try.func16 (.t rfl <| .n) .n rfl rfl

theorem law19_awake_c {z : Option Nat}  {r : Bool} (h : law19_awake z = some r) :
    AC Try.prog 6 [] (.ro (.bool r)) [] := by
  refine AC.of Try.func6 rfl rfl fun w M0 hM => ?_
  unfold law19_awake at h
  refine .sq ?_
  refine .rg (u (asg .b) <| .nil _) rfl ?_
  refine .sq ?_
  refine .rg (u (bd bf46 zf46 (.c rfl (.i rfl) rfl rfl rfl <| .c rfl (.i rfl) rfl rfl rfl <| .n) rfl) <| u (bd bf46 zf46 (.n) rfl) <| u (bd bf46 zf46 (.c rfl (.i rfl) rfl rfl rfl <| .c rfl (.i rfl) rfl rfl rfl <| .n) rfl) <| bs (F := cells_Seen) (l := [(Seen.mk 1 3), (Seen.mk 0 0), (Seen.mk 2 (-2))]) 15 pf23 (.c (.t rfl) rfl <| .c (.t rfl) rfl <| .c (.t rfl) rfl <| .n) rfl (fun _ _ => rfl) rfl rfl <| u (bd bf25 zf25 (.c rfl (.i rfl) rfl rfl rfl <| .c rfl (.i rfl) rfl rfl rfl <| .c rfl (.i rfl) rfl rfl rfl <| .c rfl (.t rfl) rfl rfl rfl <| .n) rfl) <| al 1 zf25 rfl <| st tf25 (.t rfl) rfl (.t rfl) rfl rfl rfl <| .nil _) rfl ?_
  refine .sq ?_
  refine .fz 15 rfl ?_
  refine be h fun x1 hx1 h => ?_
  refine .rg (u (ld tf25 (.t rfl) rfl rfl) <| cnf 20000 cf8 (arrive_Write_c hx1) (.c (.t rfl) <| .n) rfl rfl rfl <| u (mv (.t rfl)) <| u (ex (.t rfl) rfl rfl) <| u (ex (.t rfl) rfl rfl) <| u (asg (.t rfl)) <| u (asg (.t rfl)) <| .nil _) rfl ?_
  refine .sq ?_
  refine .fz 20000 rfl ?_
  refine be h fun x2 hx2 h => ?_
  refine .rg (u (mv (.t rfl)) <| cl [] cf10 (arrive_Read_c hx2) (.c (.t rfl) <| .n) (.inl rfl) <| u (mv (.t rfl)) <| u (ex (.t rfl) rfl rfl) <| u (ex (.t rfl) rfl rfl) <| al 4 zf25 rfl <| st tf25 (.t rfl) rfl (.t rfl) rfl rfl rfl <| u (asg (.t rfl)) <| .nil _) rfl ?_
  refine .sq ?_
  refine be h fun x3 hx3 h => ?_
  refine .rg (u (ld tf25 (.t rfl) rfl rfl) <| cl [] cf12 (arrive_When_c hx3) (.c (.t rfl) <| .c (.i rfl) <| .n) (.inl rfl) <| u (mv (.t rfl)) <| u (ex (.t rfl) rfl rfl) <| u (ex (.t rfl) rfl rfl) <| u (asg (.t rfl)) <| u (asg (.t rfl)) <| .nil _) rfl ?_
  refine .sq ?_
  refine be h fun x4 hx4 h => ?_
  refine .rg (u (ld tf25 (.t rfl) rfl rfl) <| cl [] cf12 (arrive_When_c hx4) (.c (.t rfl) <| .c (.i rfl) <| .n) (.inl rfl) <| u (mv (.t rfl)) <| u (ex (.t rfl) rfl rfl) <| u (ex (.t rfl) rfl rfl) <| u (asg (.t rfl)) <| u (asg (.t rfl)) <| .nil _) rfl ?_
  refine .sq ?_
  refine be h fun x5 hx5 h => ?_
  refine .rg (bs (F := e8) (l := [0, 0, 0, 1, 0, 0, 0, 0]) 38 pf26 (.c (.i rfl) rfl <| .c (.i rfl) rfl <| .c (.i rfl) rfl <| .c (.i rfl) rfl <| .c (.i rfl) rfl <| .c (.i rfl) rfl <| .c (.i rfl) rfl <| .c (.i rfl) rfl <| .n) rfl (fun _ _ => rfl) rfl rfl <| cl [38] cf10 (arrive_Read_c hx5) (.b (.t rfl) rfl <| .n) (.inl rfl) <| u (mv (.t rfl)) <| u (ex (.t rfl) rfl rfl) <| u (ex (.t rfl) rfl rfl) <| al 10 zf25 rfl <| st tf25 (.t rfl) rfl (.t rfl) rfl rfl rfl <| u (asg (.t rfl)) <| .nil _) rfl ?_
  refine .sq ?_
  refine be h fun x6 hx6 h => ?_
  refine be h fun x7 hx7 h => ?_
  refine be h fun x8 hx8 h => ?_
  refine .rg (u (mv (.t rfl)) <| u (bc (.t rfl) (.i rfl) rfl rfl) <| u (mv (.t rfl)) <| gd rfl rfl (fun hB => mv (.t rfl)) <| gd rfl rfl (fun hB => bc (.m rfl hB) (.i rfl) rfl rfl) <| u (pka (.t rfl) (.t rfl)) <| u (mv (.t rfl)) <| gd rfl rfl (fun hB => mv (.t rfl)) <| gd rfl rfl (fun hB => bc (.m rfl hB) (.i rfl) rfl rfl) <| u (pka (.t rfl) (.t rfl)) <| u (mv (.t rfl)) <| gd rfl rfl (fun hB => mv (.t rfl)) <| gd rfl rfl (fun hB => bc (.m rfl hB) (.i rfl) rfl rfl) <| u (pka (.t rfl) (.t rfl)) <| u (mv (.t rfl)) <| gd rfl rfl (fun hB => mv (.t rfl)) <| gd rfl rfl (fun hB => bc (.m rfl hB) (.i rfl) rfl rfl) <| u (pka (.t rfl) (.t rfl)) <| u (mv (.t rfl)) <| gd rfl rfl (fun hB => mv (.t rfl)) <| gd rfl rfl (fun hB => bt bt26_9 (.m rfl hB)) <| gd rfl rfl (fun hB => sq (.m rfl hB) (.s rfl) rfl rfl) <| u (pka (.t rfl) (.t rfl)) <| u (mv (.t rfl)) <| gd rfl rfl (fun hB => ld tf25 (.t rfl) rfl rfl) <| gd rfl rfl (fun hB => ld tf25 (.t rfl) rfl rfl) <| cg rfl rfl cf15 (fun hB => (ref19_Same_c (gTt hx6 hB))) (fun hB => .c (.m rfl hB) <| .c (.m rfl hB) <| .n) (.inl rfl) <| u (pka (.t rfl) (.t rfl)) <| u (mv (.t rfl)) <| gd rfl rfl (fun hB => mv (.t rfl)) <| gd rfl rfl (fun hB => bc (.m rfl hB) (.i rfl) rfl rfl) <| u (pka (.t rfl) (.t rfl)) <| u (mv (.t rfl)) <| gd rfl rfl (fun hB => mv (.t rfl)) <| cg rfl rfl cf16 (fun hB => (arrive_Canon_c (gTt hx7 hB))) (fun hB => .c (.m rfl hB) <| .n) (.inl rfl) <| u (pka (.t rfl) (.t rfl)) <| u (mv (.t rfl)) <| gd rfl rfl (fun hB => ld tf25 (.t rfl) rfl rfl) <| cg rfl rfl cf14 (fun hB => (arrive_Right_c (gTt hx8 hB))) (fun hB => .c (.m rfl hB) <| .n) (.inl rfl) <| u (pka (.t rfl) (.t rfl)) <| u (asg (.t rfl)) <| .nil _) rfl ?_
  obtain rfl := Option.some.inj h
  exact .rt Try.func6 (.t rfl <| .n) .n rfl rfl

theorem law19_awake_t : law19_awake (some 1000) = some true := by decide +kernel
theorem law19_awake_k : AC Try.prog 6 [] (.ro (.bool true)) [] := law19_awake_c law19_awake_t

theorem ref19_Right_c {z : Option Nat} {p_a : Arrive} {r : Bool} (h : ref19_Right z p_a = some r) :
    AC Try.prog 7 [.ro (enc_Arrive p_a)] (.ro (.bool r)) [] := by
  refine AC.of Try.func7 rfl rfl fun w M0 hM => ?_
  unfold ref19_Right at h
  refine .sq ?_
  refine .rg (bx 1 (.t rfl) rfl rfl <| u (asg .b) <| .nil _) rfl ?_
  refine .sq ?_
  refine .sq ?_
  refine .rg (u (fa ff25_1 (.t rfl)) <| u (ld tf3 (.t rfl) rfl rfl) <| u (bc (.t rfl) (.i rfl) rfl rfl) <| u (mv (.t rfl)) <| gd rfl rfl (fun hB => fa ff25_1 (.t rfl)) <| gd rfl rfl (fun hB => ld tf3 (.m rfl hB) rfl rfl) <| gd rfl rfl (fun hB => bc (.m rfl hB) (.i rfl) rfl rfl) <| u (pko (.t rfl) (.t rfl)) <| u (mv (.t rfl)) <| gd rfl rfl (fun hB => fa ff25_3 (.t rfl)) <| gd rfl rfl (fun hB => ld tf23 (.m rfl hB) rfl rfl) <| gd rfl rfl (fun hB => lnm sf23 (.m rfl hB)) <| gd rfl rfl (fun hB => bc (.m rfl hB) (.i rfl) rfl rfl) <| u (pko (.t rfl) (.t rfl)) <| .nil _) rfl ?_
  refine .bq h (.t rfl) (fun h => ?_) (fun h => ?_)
  · refine .sq ?_
    refine .rg (u (asg .b) <| .nil _) rfl ?_
    obtain rfl := Option.some.inj h
    exact .rt Try.func7 (.t rfl <| .n) .n rfl rfl
  · refine .skp ?_
    refine .sq ?_
    refine .sq ?_
    refine .rg (u (asg (.i rfl)) <| .nil _) rfl ?_
    refine .bl ?_
    unfold ref19_Right_l1 at h
    refine .kq (.lo (fun (s : Int) => ⟨[(1, .ptr 1 0), (3, .ro (.int .i64 s))], [(1, some (.box [.ro (.int .u16 p_a.base), .ro (.int .i64 p_a.time), .ro (.int .u8 p_a.count), .ro (.list 2 (List.map cells_Seen p_a.seen))]))]⟩) h ?_) (.c rfl (.c rfl .n)) (.c rfl .n)
    intro v1 u1 h ih1 hx1
    replace h : ref19_Right_s1 z p_a v1 = _ := h
    unfold ref19_Right_s1 at h
    refine .sq ?_
    refine .sq ?_
    refine .rg (u (mv (.t rfl)) <| u (fa ff25_3 (.t rfl)) <| u (ld tf23 (.t rfl) rfl rfl) <| u (lnm sf23 (.t rfl)) <| u (bc (.t rfl) (.t rfl) rfl rfl) <| .nil _) rfl ?_
    refine .bq h (.t rfl) (fun h => ?_) (fun h => ?_)
    · refine .skp ?_
      refine .sq ?_
      refine .bl ?_
      refine .sq ?_
      refine be h fun x2 hx2 h => ?_
      refine .rg (u (fa ff25_3 (.t rfl)) <| u (ld tf23 (.t rfl) rfl rfl) <| u (mv (.t rfl)) <| u (ia sf23 (.t rfl) (.t rfl) (ix_map cells_Seen hx2)) <| u (lr tf46 (.t rfl) rfl) <| al 4 zf46 rfl <| st tf46 (.t rfl) rfl (.t rfl) rfl rfl rfl <| .nil _) rfl ?_
      refine .sq ?_
      refine .rg (u (asg (.i rfl)) <| u (asg (.i rfl)) <| .nil _) rfl ?_
      refine .sq ?_
      refine .sq ?_
      refine .rg (u (fa ff46_0 (.t rfl)) <| u (ld tf3 (.t rfl) rfl rfl) <| u (bc (.t rfl) (.i rfl) rfl rfl) <| .nil _) rfl ?_
      refine .jq (t := some u1) (fun (a : Int) => ⟨[(1, .ptr 1 0), (3, .ro (.int .i64 v1)), (4, .ptr 4 0), (5, .ro (.int .i64 0)), (6, .ro (.int .i64 a))], [(1, some (.box [.ro (.int .u16 p_a.base), .ro (.int .i64 p_a.time), .ro (.int .u8 p_a.count), .ro (.list 2 (List.map cells_Seen p_a.seen))])), (4, some (.box [.ro (.int .i64 x2.what), .ro (.int .i64 x2.delta)]))]⟩) (fun (a : Int) => ref19_Right_j2 z v1 x2 a) ?_ (fun J2 => ?_)
      · intro v3 h
        replace h : ref19_Right_j2 z v1 x2 v3 = _ := h
        unfold ref19_Right_j2 at h
        refine .sq ?_
        refine .sq ?_
        refine .rg (u (fa ff46_0 (.t rfl)) <| u (ld tf3 (.t rfl) rfl rfl) <| u (bc (.t rfl) (.i rfl) rfl rfl) <| .nil _) rfl ?_
        refine .jq (t := some u1) (fun (a : Int × Int) => ⟨[(1, .ptr 1 0), (3, .ro (.int .i64 v1)), (4, .ptr 4 0), (5, .ro (.int .i64 a.1)), (6, .ro (.int .i64 a.2))], [(1, some (.box [.ro (.int .u16 p_a.base), .ro (.int .i64 p_a.time), .ro (.int .u8 p_a.count), .ro (.list 2 (List.map cells_Seen p_a.seen))])), (4, some (.box [.ro (.int .i64 x2.what), .ro (.int .i64 x2.delta)]))]⟩) (fun (a : Int × Int) => ref19_Right_j3 z v1 x2 a.1 a.2) ?_ (fun J3 => ?_)
        · rintro ⟨v4, v5⟩ h
          replace h : ref19_Right_j3 z v1 x2 v4 v5 = _ := h
          unfold ref19_Right_j3 at h
          refine .sq ?_
          refine .rg (u (fa ff46_0 (.t rfl)) <| u (ld tf3 (.t rfl) rfl rfl) <| u (bc (.t rfl) (.i rfl) rfl rfl) <| u (mv (.t rfl)) <| gd rfl rfl (fun hB => fa ff46_0 (.t rfl)) <| gd rfl rfl (fun hB => ld tf3 (.m rfl hB) rfl rfl) <| gd rfl rfl (fun hB => bc (.m rfl hB) (.i rfl) rfl rfl) <| u (pko (.t rfl) (.t rfl)) <| u (mv (.t rfl)) <| gd rfl rfl (fun hB => fa ff46_1 (.t rfl)) <| gd rfl rfl (fun hB => ld tf3 (.m rfl hB) rfl rfl) <| gd rfl rfl (fun hB => mv (.t rfl)) <| gd rfl rfl (fun hB => bc (.m rfl hB) (.m rfl hB) rfl rfl) <| u (pko (.t rfl) (.t rfl)) <| u (mv (.t rfl)) <| gd rfl rfl (fun hB => fa ff46_1 (.t rfl)) <| gd rfl rfl (fun hB => ld tf3 (.m rfl hB) rfl rfl) <| gd rfl rfl (fun hB => mv (.t rfl)) <| gd rfl rfl (fun hB => bc (.m rfl hB) (.m rfl hB) rfl rfl) <| u (pko (.t rfl) (.t rfl)) <| .nil _) rfl ?_
          refine .bq h (.t rfl) (fun h => ?_) (fun h => ?_)
          · refine .sq ?_
            refine .rg (u (asg .b) <| .nil _) rfl ?_
            replace h := mpR h hx1
            obtain rfl := Option.some.inj h
            exact .rt Try.func7 (.t rfl <| .n) .n rfl rfl
          · refine .skp ?_
            refine .ib ?_
            refine .rg (u (mv (.t rfl)) <| u (bi (.t rfl) (.i rfl) rfl) <| u (asg (.t rfl)) <| .nil _) rfl ?_
            exact .kq (.il (ih1 (ar .add .i64 v1 1) (nxi h))) (.c rfl (.c rfl .n)) (.c rfl .n)
        refine .bq h (.t rfl) (fun h => ?_) (fun h => ?_)
        · refine .rg (u (asg (.i rfl)) <| u (asg (.i rfl)) <| .nil _) rfl ?_
          exact .kq (J3 ((-32768), 32767) h) (.c rfl (.c rfl (.c rfl (.c rfl (.c rfl .n))))) (.c rfl (.c rfl .n))
        · refine .skp ?_
          exact .kq (J3 (0, v3) h) (.c rfl (.c rfl (.c rfl (.c rfl (.c rfl .n))))) (.c rfl (.c rfl .n))
      refine .bq h (.t rfl) (fun h => ?_) (fun h => ?_)
      · refine .rg (u (asg (.i rfl)) <| .nil _) rfl ?_
        exact .kq (J2 255 h) (.c rfl (.c rfl (.c rfl (.c rfl (.c rfl .n))))) (.c rfl (.c rfl .n))
      · refine .skp ?_
        exact .kq (J2 0 h) (.c rfl (.c rfl (.c rfl (.c rfl (.c rfl .n))))) (.c rfl (.c rfl .n))
    · refine .xt rfl ?_
      replace h := mpR h hx1
      refine .sq ?_
      refine .rg (u (asg .b) <| .nil _) rfl ?_
      obtain rfl := Option.some.inj h
      exact .rt Try.func7 (.t rfl <| .n) .n rfl rfl

theorem ref01_Put_c {z : Option Nat} {v : Int} {n : Int} {r : List Int × Int} (h : ref01_Put z v n = some r) :
    AC Try.prog 45 [.ro (.int .u64 v), .ro (.int .i64 n)] (.tup [.own 0, .ro (.int .i64 r.2)]) [(0, .arr 5 1 (List.map e8 r.1))] := by
  refine AC.of Try.func45 rfl rfl fun w M0 hM => ?_
  unfold ref01_Put at h
  refine .sq ?_
  refine .rg (anm e8 4 5 1 rfl rfl <| u (asg (.i rfl)) <| .nil _) rfl ?_
  refine .sq ?_
  refine .sq ?_
  refine .rg (u (mv (.t rfl)) <| u (bc (.t rfl) (.i rfl) rfl rfl) <| u (mv (.t rfl)) <| gd rfl rfl (fun hB => mv (.t rfl)) <| gd rfl rfl (fun hB => bc (.m rfl hB) (.i rfl) rfl rfl) <| u (pko (.t rfl) (.t rfl)) <| .nil _) rfl ?_
  refine .bq h (.t rfl) (fun h => ?_) (fun h => ?_)
  · refine .sq ?_
    refine .rg (anm e8 100004 5 1 rfl rfl <| u (asg (.i rfl)) <| .nil _) rfl ?_
    obtain rfl := Option.some.inj h
    refine .ks (l := [(4, .own 0), (5, .ro (.int .i64 1))]) (o := [(0, some (.arr 5 1 (List.map e8 [])))]) (fun i => bif Nat.beq i 0 then 100004 else i) ?_ (.c rfl (.c rfl .n)) (.c rfl .n) rfl
    exact .rt Try.func45 (.t rfl <| .t rfl <| .n) (.c rfl .n) rfl rfl
  · refine .skp ?_
    refine .sq ?_
    refine be h fun x1 hx1 h => ?_
    refine .rg (u (mv (.t rfl)) <| mks (F := e8) (z0 := 0) 15 pf26 zf5 (.t rfl) (.t rfl) hx1 rfl <| u (asg (.t rfl)) <| .nil _) rfl ?_
    refine .sq ?_
    refine .sq ?_
    refine .rg (u (asg (.i rfl)) <| .nil _) rfl ?_
    refine .bl ?_
    unfold ref01_Put_l1 at h
    refine .ks (fun i => bif Nat.beq i 6 then 15 else i) (.lo (fun (s : Int × List Int × Int) => ⟨[(0, .ro (.int .u64 s.1)), (1, .ro (.int .i64 n)), (6, .own 6), (7, .ro (.int .i64 s.2.2))], [(6, some (.arr 5 1 (List.map e8 s.2.1)))]⟩) h ?_) (.c rfl (.c rfl (.c rfl (.c rfl .n)))) (.c rfl .n) rfl
    rintro ⟨v2, v3, v4⟩ u1 h ih1 hx1
    replace h : ref01_Put_s1 z n v2 v3 v4 = _ := h
    unfold ref01_Put_s1 at h
    refine .sq ?_
    refine .sq ?_
    refine .rg (u (mv (.t rfl)) <| u (mv (.t rfl)) <| u (bc (.t rfl) (.t rfl) rfl rfl) <| .nil _) rfl ?_
    refine .bq h (.t rfl) (fun h => ?_) (fun h => ?_)
    · refine .skp ?_
      refine .sq ?_
      refine .bl ?_
      refine .sq ?_
      refine be h fun x5 hx5 h => ?_
      refine .rg (u (mv (.t rfl)) <| u (mv (.t rfl)) <| u (bi (.t rfl) (.i rfl) rfl) <| u (mv (.t rfl)) <| u (bi (.t rfl) (.t rfl) rfl) <| u (mv (.t rfl)) <| u (di (.t rfl) (.i rfl) rfl (by decide)) <| u (cv cv49_5 (.t rfl)) <| u (io sf26 (.t rfl) rfl (.t rfl) (ix_map e8 hx5)) <| se (q := (IntKind.u8.wrap (dv .rem .u64 v2 256))) tf5 (.t rfl) rfl (.t rfl) rfl rfl rfl (ixn hx5) <| .nil _) rfl ?_
      refine .rg (u (mv (.t rfl)) <| u (di (.t rfl) (.i rfl) rfl (by decide)) <| u (asg (.t rfl)) <| .nil _) rfl ?_
      refine .ib ?_
      refine .rg (u (mv (.t rfl)) <| u (bi (.t rfl) (.i rfl) rfl) <| u (asg (.t rfl)) <| .nil _) rfl ?_
      exact .kq (.il (ih1 ((dv .quo .u64 v2 256), (List.set v3 ((ar .sub .i64 (ar .sub .i64 n 1) v4) : Int).toNat (IntKind.u8.wrap (dv .rem .u64 v2 256))), (ar .add .i64 v4 1)) (nxi h))) (.c rfl (.c rfl (.c rfl (.c rfl .n)))) (.c rfl .n)
    · refine .xt rfl ?_
      replace h := mpR h hx1
      refine .sq ?_
      refine .sq ?_
      refine .rg (u (mv (.t rfl)) <| u (bc (.t rfl) (.i rfl) rfl rfl) <| .nil _) rfl ?_
      refine .bq h (.t rfl) (fun h => ?_) (fun h => ?_)
      · refine .sq ?_
        refine .rg (anm e8 4 5 1 rfl rfl <| u (asg (.i rfl)) <| .nil _) rfl ?_
        obtain rfl := Option.some.inj h
        refine .ks (l := [(4, .own 0), (5, .ro (.int .i64 6))]) (o := [(0, some (.arr 5 1 (List.map e8 [])))]) (fun i => bif Nat.beq i 0 then 4 else i) ?_ (.c rfl (.c rfl .n)) (.c rfl .n) rfl
        exact .rt Try.func45 (.t rfl <| .t rfl <| .n) (.c rfl .n) rfl rfl
      · refine .skp ?_
        refine .sq ?_
        refine .rg (u (mv (.t rfl)) <| u (asg (.t rfl)) <| u (asg (.i rfl)) <| .nil _) rfl ?_
        obtain rfl := Option.some.inj h
        refine .ks (l := [(4, .own 0), (5, .ro (.int .i64 0))]) (o := [(0, some (.arr 5 1 (List.map e8 v3)))]) (fun i => bif Nat.beq i 0 then 6 else i) ?_ (.c rfl (.c rfl .n)) (.c rfl .n) rfl
        exact .rt Try.func45 (.t rfl <| .t rfl <| .n) (.c rfl .n) rfl rfl

theorem ref01_Put_r {z : Option Nat} {v : Int} {n : Int} {r : List Int × Int} (h : ref01_Put z v n = some r) :
    AC Try.prog 45 [.ro (.int .u64 v), .ro (.int .i64 n)] (.ro (.tup [.list 1 (List.map e8 r.1), .int .i64 r.2])) [] := AC.fz (ref01_Put_c h) rfl

theorem ref01_Must_c {z : Option Nat} {v : Int} {n : Int} {r : List Int} (h : ref01_Must z v n = some r) :
    AC Try.prog 25 [.ro (.int .u64 v), .ro (.int .i64 n)] (.own 0) [(0, .arr 5 1 (List.map e8 r))] := by
  refine AC.of Try.func25 rfl rfl fun w M0 hM => ?_
  unfold ref01_Must at h
  refine .sq ?_
  refine .rg (anm e8 4 5 1 rfl rfl <| .nil _) rfl ?_
  refine .sq ?_
  refine be h fun x1 hx1 h => ?_
  refine .rg (u (mv (.t rfl)) <| u (mv (.t rfl)) <| cnf 11000 cf45 (ref01_Put_c hx1) (.c (.t rfl) <| .c (.t rfl) <| .n) rfl rfl rfl <| u (mv (.t rfl)) <| u (ex (.t rfl) rfl rfl) <| u (ex (.t rfl) rfl rfl) <| u (asg (.t rfl)) <| u (asg (.t rfl)) <| .nil _) rfl ?_
  refine .sq ?_
  refine .rg (u (mv (.t rfl)) <| u (asg (.t rfl)) <| .nil _) rfl ?_
  obtain rfl := Option.some.inj h
  refine .ks (l := [(4, .own 0)]) (o := [(0, some (.arr 5 1 (List.map e8 x1.1)))]) (fun i => bif Nat.beq i 0 then 11000 else i) ?_ (.c rfl .n) (.c rfl .n) rfl
  exact .rt Try.func25 (.t rfl <| .n) (.c rfl .n) rfl rfl

theorem ref01_Must_r {z : Option Nat} {v : Int} {n : Int} {r : List Int} (h : ref01_Must z v n = some r) :
    AC Try.prog 25 [.ro (.int .u64 v), .ro (.int .i64 n)] (.ro (.list 1 (List.map e8 r))) [] := AC.fz (ref01_Must_c h) rfl

theorem ref01_PutSigned_c {z : Option Nat} {v : Int} {n : Int} {r : List Int × Int} (h : ref01_PutSigned z v n = some r) :
    AC Try.prog 26 [.ro (.int .i64 v), .ro (.int .i64 n)] (.tup [.own 0, .ro (.int .i64 r.2)]) [(0, .arr 5 1 (List.map e8 r.1))] := by
  refine AC.of Try.func26 rfl rfl fun w M0 hM => ?_
  unfold ref01_PutSigned at h
  refine .sq ?_
  refine .rg (anm e8 4 5 1 rfl rfl <| u (asg (.i rfl)) <| .nil _) rfl ?_
  refine .sq ?_
  refine .sq ?_
  refine .rg (u (mv (.t rfl)) <| u (bc (.t rfl) (.i rfl) rfl rfl) <| u (mv (.t rfl)) <| gd rfl rfl (fun hB => mv (.t rfl)) <| gd rfl rfl (fun hB => bc (.m rfl hB) (.i rfl) rfl rfl) <| u (pko (.t rfl) (.t rfl)) <| .nil _) rfl ?_
  refine .bq h (.t rfl) (fun h => ?_) (fun h => ?_)
  · refine .sq ?_
    refine .rg (anm e8 100004 5 1 rfl rfl <| u (asg (.i rfl)) <| .nil _) rfl ?_
    obtain rfl := Option.some.inj h
    refine .ks (l := [(4, .own 0), (5, .ro (.int .i64 1))]) (o := [(0, some (.arr 5 1 (List.map e8 [])))]) (fun i => bif Nat.beq i 0 then 100004 else i) ?_ (.c rfl (.c rfl .n)) (.c rfl .n) rfl
    exact .rt Try.func26 (.t rfl <| .t rfl <| .n) (.c rfl .n) rfl rfl
  · refine .skp ?_
    refine .sq ?_
    refine .sq ?_
    refine .rg (u (mv (.t rfl)) <| u (bc (.t rfl) (.i rfl) rfl rfl) <| .nil _) rfl ?_
    refine .bq h (.t rfl) (fun h => ?_) (fun h => ?_)
    · refine .sq ?_
      refine be h fun x1 hx1 h => ?_
      refine .rg (u (mv (.t rfl)) <| u (cv cv2_49 (.t rfl)) <| cnf 19000 cf45 (ref01_Put_c hx1) (.c (.t rfl) <| .c (.i rfl) <| .n) rfl rfl rfl <| u (ex (.t rfl) rfl rfl) <| u (ex (.t rfl) rfl rfl) <| u (asg (.t rfl)) <| u (asg (.t rfl)) <| .nil _) rfl ?_
      obtain rfl := Option.some.inj h
      refine .ks (l := [(4, .own 0), (5, .ro (.int .i64 x1.2))]) (o := [(0, some (.arr 5 1 (List.map e8 x1.1)))]) (fun i => bif Nat.beq i 0 then 19000 else i) ?_ (.c rfl (.c rfl .n)) (.c rfl .n) rfl
      exact .rt Try.func26 (.t rfl <| .t rfl <| .n) (.c rfl .n) rfl rfl
    · refine .skp ?_
      refine .sq ?_
      refine .rg (u (asg (.i rfl)) <| .nil _) rfl ?_
      refine .sq ?_
      refine .sq ?_
      refine .rg (u (asg (.i rfl)) <| .nil _) rfl ?_
      refine .bl ?_
      unfold ref01_PutSigned_l1 at h
      refine .kq (.lo (fun (s : Int × Int) => ⟨[(0, .ro (.int .i64 v)), (1, .ro (.int .i64 n)), (6, .ro (.int .i64 s.1)), (7, .ro (.int .i64 s.2))], []⟩) h ?_) (.c rfl (.c rfl (.c rfl (.c rfl .n)))) .n
      rintro ⟨v2, v3⟩ u1 h ih1 hx1
      replace h : ref01_PutSigned_s1 z v n v2 v3 = _ := h
      unfold ref01_PutSigned_s1 at h
      refine .sq ?_
      refine .sq ?_
      refine .rg (u (mv (.t rfl)) <| u (mv (.t rfl)) <| u (bc (.t rfl) (.t rfl) rfl rfl) <| .nil _) rfl ?_
      refine .bq h (.t rfl) (fun h => ?_) (fun h => ?_)
      · refine .skp ?_
        refine .sq ?_
        refine .bl ?_
        refine .rg (u (mv (.t rfl)) <| u (bi (.t rfl) (.i rfl) rfl) <| u (asg (.t rfl)) <| .nil _) rfl ?_
        refine .ib ?_
        refine .rg (u (mv (.t rfl)) <| u (bi (.t rfl) (.i rfl) rfl) <| u (asg (.t rfl)) <| .nil _) rfl ?_
        exact .kq (.il (ih1 ((ar .mul .i64 v2 256), (ar .add .i64 v3 1)) (nxi h))) (.c rfl (.c rfl (.c rfl (.c rfl .n)))) .n
      · refine .xt rfl ?_
        replace h := mpR h hx1
        refine .sq ?_
        refine .sq ?_
        refine .rg (u (mv (.t rfl)) <| u (mv (.t rfl)) <| u (di (.t rfl) (.i rfl) rfl (by decide)) <| u (bi (.i rfl) (.t rfl) rfl) <| u (bc (.t rfl) (.t rfl) rfl rfl) <| u (mv (.t rfl)) <| gd rfl rfl (fun hB => mv (.t rfl)) <| gd rfl rfl (fun hB => mv (.t rfl)) <| gd rfl rfl (fun hB => di (.m rfl hB) (.i rfl) rfl (by decide)) <| gd rfl rfl (fun hB => bc (.m rfl hB) (.m rfl hB) rfl rfl) <| u (pko (.t rfl) (.t rfl)) <| .nil _) rfl ?_
        refine .bq h (.t rfl) (fun h => ?_) (fun h => ?_)
        · refine .sq ?_
          refine .rg (anm e8 4 5 1 rfl rfl <| u (asg (.i rfl)) <| .nil _) rfl ?_
          obtain rfl := Option.some.inj h
          refine .ks (l := [(4, .own 0), (5, .ro (.int .i64 6))]) (o := [(0, some (.arr 5 1 (List.map e8 [])))]) (fun i => bif Nat.beq i 0 then 4 else i) ?_ (.c rfl (.c rfl .n)) (.c rfl .n) rfl
          exact .rt Try.func26 (.t rfl <| .t rfl <| .n) (.c rfl .n) rfl rfl
        · refine .skp ?_
          refine .sq ?_
          refine .sq ?_
          refine .rg (u (mv (.t rfl)) <| u (bc (.t rfl) (.i rfl) rfl rfl) <| .nil _) rfl ?_
          refine .jq (t := some r) (fun (a : Int) => ⟨[(0, .ro (.int .i64 a)), (1, .ro (.int .i64 n))], []⟩) (fun (a : Int) => ref01_PutSigned_j2 z n a) ?_ (fun J2 => ?_)
          · intro v4 h
            replace h : ref01_PutSigned_j2 z n v4 = _ := h
            unfold ref01_PutSigned_j2 at h
            refine .sq ?_
            refine be h fun x5 hx5 h => ?_
            refine .rg (u (mv (.t rfl)) <| u (cv cv2_49 (.t rfl)) <| u (mv (.t rfl)) <| cnf 48000 cf45 (ref01_Put_c hx5) (.c (.t rfl) <| .c (.t rfl) <| .n) rfl rfl rfl <| u (ex (.t rfl) rfl rfl) <| u (ex (.t rfl) rfl rfl) <| u (asg (.t rfl)) <| u (asg (.t rfl)) <| .nil _) rfl ?_
            obtain rfl := Option.some.inj h
            refine .ks (l := [(4, .own 0), (5, .ro (.int .i64 x5.2))]) (o := [(0, some (.arr 5 1 (List.map e8 x5.1)))]) (fun i => bif Nat.beq i 0 then 48000 else i) ?_ (.c rfl (.c rfl .n)) (.c rfl .n) rfl
            exact .rt Try.func26 (.t rfl <| .t rfl <| .n) (.c rfl .n) rfl rfl
          refine .bq h (.t rfl) (fun h => ?_) (fun h => ?_)
          · refine .rg (u (mv (.t rfl)) <| u (mv (.t rfl)) <| u (bi (.t rfl) (.t rfl) rfl) <| u (asg (.t rfl)) <| .nil _) rfl ?_
            exact .kq (J2 (ar .add .i64 v v2) h) (.c rfl (.c rfl .n)) .n
          · refine .skp ?_
            exact .kq (J2 v h) (.c rfl (.c rfl .n)) .n

theorem ref01_PutSigned_r {z : Option Nat} {v : Int} {n : Int} {r : List Int × Int} (h : ref01_PutSigned z v n = some r) :
    AC Try.prog 26 [.ro (.int .i64 v), .ro (.int .i64 n)] (.ro (.tup [.list 1 (List.map e8 r.1), .int .i64 r.2])) [] := AC.fz (ref01_PutSigned_c h) rfl

theorem ref18_Write_c {z : Option Nat} {l : List Int} {r : List Int} (h : ref18_Write z l = some r) :
    AC Try.prog 27 [.ro (.list 1 (List.map (ei .i64) l))] (.own 0) [(0, .arr 22 1 (List.map (ei .u16) r))] := by
  refine AC.of Try.func27 rfl rfl fun w M0 hM => ?_
  unfold ref18_Write at h
  refine .sq ?_
  refine .rg (anm (ei .u16) 2 22 1 rfl rfl <| .nil _) rfl ?_
  refine .sq ?_
  refine .rg (anm (ei .u16) 3 22 1 rfl rfl <| .nil _) rfl ?_
  refine .sq ?_
  refine .rg (u (asg (.i rfl)) <| .nil _) rfl ?_
  refine .sq ?_
  refine .bl ?_
  unfold ref18_Write_l1 at h
  refine .kq (.lo (fun (s : List Int × Int) => ⟨[(0, .ro (.list 1 (List.map (ei .i64) l))), (3, .own 3), (4, .ro (.int .i64 s.2))], [(3, some (.arr 22 1 (List.map (ei .u16) s.1)))]⟩) h ?_) (.c rfl (.c rfl (.c rfl .n))) (.c rfl .n)
  rintro ⟨v1, v2⟩ u1 h ih1 hx1
  replace h : ref18_Write_s1 z l v1 v2 = _ := h
  unfold ref18_Write_s1 at h
  refine .sq ?_
  refine .sq ?_
  refine .rg (u (mv (.t rfl)) <| u (mv (.t rfl)) <| u (lnm sf55 (.t rfl)) <| u (bc (.t rfl) (.t rfl) rfl rfl) <| .nil _) rfl ?_
  refine .bq h (.t rfl) (fun h => ?_) (fun h => ?_)
  · refine .skp ?_
    refine .bl ?_
    refine .sq ?_
    refine .rg (u (asg (.i rfl)) <| .nil _) rfl ?_
    refine .sq ?_
    refine .bl ?_
    unfold ref18_Write_l2 at h
    refine .kq (.lo (fun (s : Int) => ⟨[(0, .ro (.list 1 (List.map (ei .i64) l))), (3, .own 3), (4, .ro (.int .i64 v2)), (5, .ro (.int .i64 s))], [(3, some (.arr 22 1 (List.map (ei .u16) v1)))]⟩) h ?_) (.c rfl (.c rfl (.c rfl (.c rfl .n)))) (.c rfl .n)
    intro v3 u2 h ih2 hx2
    replace h : ref18_Write_s2 z l v1 v2 v3 = _ := h
    unfold ref18_Write_s2 at h
    refine .sq ?_
    refine .sq ?_
    refine be h fun x4 hx4 h => ?_
    refine be h fun x5 hx5 h => ?_
    refine .rd mixed (u (mv (.t rfl)) <| u (mv (.t rfl)) <| u (bi (.t rfl) (.t rfl) rfl) <| u (mv (.t rfl)) <| u (lnm sf55 (.t rfl)) <| u (bc (.t rfl) (.t rfl) rfl rfl) <| u (mv (.t rfl)) <| gd rfl rfl (fun hB => mv (.t rfl)) <| gd rfl rfl (fun hB => mv (.t rfl)) <| gd rfl rfl (fun hB => mv (.t rfl)) <| gd rfl rfl (fun hB => bi (.m rfl hB) (.m rfl hB) rfl) <| gd rfl rfl (fun hB => ia sf55 (.m rfl hB) (.m rfl hB) (ix_map (ei .i64) (gTt hx4 hB))) <| gd rfl rfl (fun hB => lr tf3 (.m rfl hB) rfl) <| gd rfl rfl (fun hB => mv (.t rfl)) <| gd rfl rfl (fun hB => mv (.t rfl)) <| gd rfl rfl (fun hB => ia sf55 (.m rfl hB) (.m rfl hB) (ix_map (ei .i64) (gTt hx5 hB))) <| gd rfl rfl (fun hB => lr tf3 (.m rfl hB) rfl) <| gd rfl rfl (fun hB => bc (.m rfl hB) (.m rfl hB) rfl rfl) <| u (pka (.t rfl) (.t rfl)) <| u (mv (.t rfl)) <| gd rfl rfl (fun hB => mv (.t rfl)) <| gd rfl rfl (fun hB => bc (.m rfl hB) (.i rfl) rfl rfl) <| u (pka (.t rfl) (.t rfl)) <| .nil _) (by kernel_rfl) rfl ?_
    refine .bq h (.t rfl) (fun h => ?_) (fun h => ?_)
    · refine .skp ?_
      refine .bl ?_
      refine .rg (u (mv (.t rfl)) <| u (bi (.t rfl) (.i rfl) rfl) <| u (asg (.t rfl)) <| .nil _) rfl ?_
      refine .ib ?_
      exact .kq (.il (ih2 (ar .add .i64 v3 1) (nxi h))) (.c rfl (.c rfl (.c rfl (.c rfl .n)))) (.c rfl .n)
    · refine .xt rfl ?_
      replace h := mpR h hx2
      refine .sq ?_
      refine .sq ?_
      refine .rg (u (mv (.t rfl)) <| u (bc (.t rfl) (.i rfl) rfl rfl) <| u (mv (.t rfl)) <| gd rfl rfl (fun hB => mv (.t rfl)) <| gd rfl rfl (fun hB => mv (.t rfl)) <| gd rfl rfl (fun hB => bi (.m rfl hB) (.m rfl hB) rfl) <| gd rfl rfl (fun hB => mv (.t rfl)) <| gd rfl rfl (fun hB => lnm sf55 (.m rfl hB)) <| gd rfl rfl (fun hB => bc (.m rfl hB) (.m rfl hB) rfl rfl) <| u (pko (.t rfl) (.t rfl)) <| .nil _) rfl ?_
      refine .bq h (.t rfl) (fun h => ?_) (fun h => ?_)
      · refine .sq ?_
        refine be h fun x6 hx6 h => ?_
        refine be h fun x7 hx7 h => ?_
        refine .rg (u (mv (.t rfl)) <| u (mv (.t rfl)) <| u (mv (.t rfl)) <| u (ia sf55 (.t rfl) (.t rfl) (ix_map (ei .i64) hx6)) <| u (lr tf3 (.t rfl) rfl) <| u (bi (.i rfl) (.t rfl) rfl) <| u (mv (.t rfl)) <| u (bi (.t rfl) (.t rfl) rfl) <| u (cv cv3_22 (.t rfl)) <| bs (F := (ei .u16)) (l := [(IntKind.u16.wrap (ar .add .i64 (ar .mul .i64 8192 x6) v3))]) 60 pf52 (.c (.t rfl) rfl <| .n) rfl (fun _ _ => rfl) rfl rfl <| apo 61 pf52 (.t rfl) rfl (.t rfl) rfl hx7 rfl <| u (asg (.t rfl)) <| .nil _) rfl ?_
        refine .sq ?_
        refine .rg (u (mv (.t rfl)) <| u (mv (.t rfl)) <| u (bi (.t rfl) (.t rfl) rfl) <| u (asg (.t rfl)) <| .nil _) rfl ?_
        refine .xt rfl ?_
        exact .ks (fun i => bif Nat.beq i 3 then 61 else i) (.il (ih1 (x7, (ar .add .i64 v2 v3)) (nxi h))) (.c rfl (.c rfl (.c rfl .n))) (.c rfl .n) rfl
      · refine .skp ?_
        refine .sq ?_
        refine .rg (u (asg .b) <| .nil _) rfl ?_
        refine .sq ?_
        refine .sq ?_
        refine .rg (u (mv (.t rfl)) <| u (asg (.t rfl)) <| .nil _) rfl ?_
        refine .bl ?_
        unfold ref18_Write_l3 at h
        refine .kq (.lo (fun (s : Bool × Int) => ⟨[(0, .ro (.list 1 (List.map (ei .i64) l))), (3, .own 3), (4, .ro (.int .i64 v2)), (6, .ro (.bool s.1)), (7, .ro (.int .i64 s.2))], [(3, some (.arr 22 1 (List.map (ei .u16) v1)))]⟩) h ?_) (.c rfl (.c rfl (.c rfl (.c rfl (.c rfl .n))))) (.c rfl .n)
        rintro ⟨v8, v9⟩ u3 h ih3 hx3
        replace h : ref18_Write_s3 z l v1 v2 v8 v9 = _ := h
        unfold ref18_Write_s3 at h
        refine .sq ?_
        refine .sq ?_
        refine .rg (u (mv (.t rfl)) <| u (mv (.t rfl)) <| u (bi (.t rfl) (.i rfl) rfl) <| u (bc (.t rfl) (.t rfl) rfl rfl) <| u (mv (.t rfl)) <| gd rfl rfl (fun hB => mv (.t rfl)) <| gd rfl rfl (fun hB => mv (.t rfl)) <| gd rfl rfl (fun hB => lnm sf55 (.m rfl hB)) <| gd rfl rfl (fun hB => bc (.m rfl hB) (.m rfl hB) rfl rfl) <| u (pka (.t rfl) (.t rfl)) <| .nil _) rfl ?_
        refine .bq h (.t rfl) (fun h => ?_) (fun h => ?_)
        · refine .skp ?_
          refine .sq ?_
          refine .bl ?_
          refine be h fun x10 hx10 h => ?_
          refine .rg (u (mv (.t rfl)) <| u (mv (.t rfl)) <| gd rfl rfl (fun hB => mv (.t rfl)) <| gd rfl rfl (fun hB => mv (.t rfl)) <| gd rfl rfl (fun hB => ia sf55 (.m rfl hB) (.m rfl hB) (ix_map (ei .i64) (gTt hx10 hB))) <| gd rfl rfl (fun hB => lr tf3 (.m rfl hB) rfl) <| gd rfl rfl (fun hB => bc (.m rfl hB) (.i rfl) rfl rfl) <| u (pka (.t rfl) (.t rfl)) <| u (asg (.t rfl)) <| .nil _) rfl ?_
          refine .ib ?_
          refine .rg (u (mv (.t rfl)) <| u (bi (.t rfl) (.i rfl) rfl) <| u (asg (.t rfl)) <| .nil _) rfl ?_
          exact .kq (.il (ih3 ((v8 && (cm .lss x10 2)), (ar .add .i64 v9 1)) (nxi h))) (.c rfl (.c rfl (.c rfl (.c rfl (.c rfl .n))))) (.c rfl .n)
        · refine .xt rfl ?_
          replace h := mpR h hx3
          refine .sq ?_
          refine .rg (u (asg (.i rfl)) <| u (asg (.i rfl)) <| u (asg (.i rfl)) <| .nil _) rfl ?_
          refine .sq ?_
          refine .sq ?_
          refine .rg (u (mv (.t rfl)) <| .nil _) rfl ?_
          refine .jq (t := some u1) (fun (a : Int × Int × Int) => ⟨[(0, .ro (.list 1 (List.map (ei .i64) l))), (3, .own 3), (4, .ro (.int .i64 v2)), (8, .ro (.int .i64 a.1)), (9, .ro (.int .i64 a.2.1)), (10, .ro (.int .i64 a.2.2))], [(3, some (.arr 22 1 (List.map (ei .u16) v1)))]⟩) (fun (a : Int × Int × Int) => ref18_Write_j4 z l v1 v2 a.1 a.2.1 a.2.2) ?_ (fun J4 => ?_)
          · rintro ⟨v11, v12, v13⟩ h
            replace h : ref18_Write_j4 z l v1 v2 v11 v12 v13 = _ := h
            unfold ref18_Write_j4 at h
            refine .sq ?_
            refine .sq ?_
            refine .rg (u (mv (.t rfl)) <| u (asg (.t rfl)) <| .nil _) rfl ?_
            refine .bl ?_
            unfold ref18_Write_l5 at h
            refine .kq (.lo (fun (s : Int × Int) => ⟨[(0, .ro (.list 1 (List.map (ei .i64) l))), (3, .own 3), (4, .ro (.int .i64 v2)), (8, .ro (.int .i64 v11)), (9, .ro (.int .i64 v12)), (10, .ro (.int .i64 s.1)), (11, .ro (.int .i64 s.2))], [(3, some (.arr 22 1 (List.map (ei .u16) v1)))]⟩) h ?_) (.c rfl (.c rfl (.c rfl (.c rfl (.c rfl (.c rfl (.c rfl .n))))))) (.c rfl .n)
            rintro ⟨v14, v15⟩ u5 h ih5 hx5
            replace h : ref18_Write_s5 z l v1 v2 v11 v12 v14 v15 = _ := h
            unfold ref18_Write_s5 at h
            refine .sq ?_
            refine .sq ?_
            refine .rg (u (mv (.t rfl)) <| u (mv (.t rfl)) <| u (mv (.t rfl)) <| u (bi (.t rfl) (.t rfl) rfl) <| u (bc (.t rfl) (.t rfl) rfl rfl) <| .nil _) rfl ?_
            refine .bq h (.t rfl) (fun h => ?_) (fun h => ?_)
            · refine .skp ?_
              refine .sq ?_
              refine .bl ?_
              refine .sq ?_
              refine .rg (u (mv (.t rfl)) <| u (mv (.t rfl)) <| u (bi (.t rfl) (.t rfl) rfl) <| u (asg (.t rfl)) <| .nil _) rfl ?_
              refine .sq ?_
              refine .rg (u (mv (.t rfl)) <| u (mv (.t rfl)) <| u (lnm sf55 (.t rfl)) <| u (bc (.t rfl) (.t rfl) rfl rfl) <| .nil _) rfl ?_
              refine .jq (t := some u5) (fun (a : Int) => ⟨[(0, .ro (.list 1 (List.map (ei .i64) l))), (3, .own 3), (4, .ro (.int .i64 v2)), (8, .ro (.int .i64 v11)), (9, .ro (.int .i64 v12)), (10, .ro (.int .i64 a)), (11, .ro (.int .i64 v15))], [(3, some (.arr 22 1 (List.map (ei .u16) v1)))]⟩) (fun (a : Int) => ref18_Write_j6 z v15 a) ?_ (fun J6 => ?_)
              · intro v16 h
                replace h : ref18_Write_j6 z v15 v16 = _ := h
                unfold ref18_Write_j6 at h
                refine .ib ?_
                refine .rg (u (mv (.t rfl)) <| u (bi (.t rfl) (.i rfl) rfl) <| u (asg (.t rfl)) <| .nil _) rfl ?_
                exact .kq (.il (ih5 (v16, (ar .add .i64 v15 1)) (nxi h))) (.c rfl (.c rfl (.c rfl (.c rfl (.c rfl (.c rfl (.c rfl .n))))))) (.c rfl .n)
              refine .bq h (.t rfl) (fun h => ?_) (fun h => ?_)
              · refine be h fun x17 hx17 h => ?_
                refine .rg (u (mv (.t rfl)) <| u (mv (.t rfl)) <| u (mv (.t rfl)) <| u (ia sf55 (.t rfl) (.t rfl) (ix_map (ei .i64) hx17)) <| u (lr tf3 (.t rfl) rfl) <| u (bi (.t rfl) (.t rfl) rfl) <| u (asg (.t rfl)) <| .nil _) rfl ?_
                exact .kq (J6 (ar .add .i64 (ar .mul .i64 v12 v14) x17) h) (.c rfl (.c rfl (.c rfl (.c rfl (.c rfl (.c rfl (.c rfl .n))))))) (.c rfl .n)
              · refine .skp ?_
                exact .kq (J6 (ar .mul .i64 v12 v14) h) (.c rfl (.c rfl (.c rfl (.c rfl (.c rfl (.c rfl (.c rfl .n))))))) (.c rfl .n)
            · refine .xt rfl ?_
              replace h := mpR h hx5
              refine .sq ?_
              refine be h fun x18 hx18 h => ?_
              refine .rg (u (mv (.t rfl)) <| u (mv (.t rfl)) <| u (cv cv3_22 (.t rfl)) <| bs (F := (ei .u16)) (l := [(IntKind.u16.wrap v14)]) 111 pf52 (.c (.t rfl) rfl <| .n) rfl (fun _ _ => rfl) rfl rfl <| apo 112 pf52 (.t rfl) rfl (.t rfl) rfl hx18 rfl <| u (asg (.t rfl)) <| .nil _) rfl ?_
              refine .rg (u (mv (.t rfl)) <| u (mv (.t rfl)) <| u (bi (.t rfl) (.t rfl) rfl) <| u (asg (.t rfl)) <| .nil _) rfl ?_
              refine .ib ?_
              exact .ks (fun i => bif Nat.beq i 3 then 112 else i) (.il (ih1 (x18, (ar .add .i64 v2 v11)) (nxi h))) (.c rfl (.c rfl (.c rfl .n))) (.c rfl .n) rfl
          refine .bq h (.t rfl) (fun h => ?_) (fun h => ?_)
          · refine .rg (u (asg (.i rfl)) <| u (asg (.i rfl)) <| u (asg (.i rfl)) <| .nil _) rfl ?_
            exact .kq (J4 (14, 2, 2) h) (.c rfl (.c rfl (.c rfl (.c rfl (.c rfl (.c rfl .n)))))) (.c rfl .n)
          · refine .skp ?_
            exact .kq (J4 (7, 4, 3) h) (.c rfl (.c rfl (.c rfl (.c rfl (.c rfl (.c rfl .n)))))) (.c rfl .n)
  · refine .xt rfl ?_
    replace h := mpR h hx1
    refine .sq ?_
    refine .rg (u (mv (.t rfl)) <| u (asg (.t rfl)) <| .nil _) rfl ?_
    obtain rfl := Option.some.inj h
    refine .ks (l := [(2, .own 0)]) (o := [(0, some (.arr 22 1 (List.map (ei .u16) v1)))]) (fun i => bif Nat.beq i 0 then 3 else i) ?_ (.c rfl .n) (.c rfl .n) rfl
    exact .rt Try.func27 (.t rfl <| .n) (.c rfl .n) rfl rfl

theorem ref18_Write_r {z : Option Nat} {l : List Int} {r : List Int} (h : ref18_Write z l = some r) :
    AC Try.prog 27 [.ro (.list 1 (List.map (ei .i64) l))] (.ro (.list 1 (List.map (ei .u16) r))) [] := AC.fz (ref18_Write_c h) rfl

theorem ref03_Fill_c {z : Option Nat} {b : List Int} {r : List Int} (h : ref03_Fill z b = some r) :
    AC Try.prog 28 [.ro (.list 1 (List.map e8 b))] (.own 0) [(0, .arr 5 1 (List.map e8 r))] := by
  refine AC.of Try.func28 rfl rfl fun w M0 hM => ?_
  unfold ref03_Fill at h
  refine .sq ?_
  refine .rg (anm e8 2 5 1 rfl rfl <| .nil _) rfl ?_
  refine .sq ?_
  refine be h fun x1 hx1 h => ?_
  refine .rg (bs (F := e8) (l := ([] : List Int)) 4 pf26 (.n) rfl (fun _ _ => rfl) rfl rfl <| u (mv (.t rfl)) <| ap 6 pf26 (.t rfl) rfl (.t rfl) hx1 rfl <| u (asg (.t rfl)) <| .nil _) rfl ?_
  refine .sq ?_
  refine .bl ?_
  unfold ref03_Fill_l1 at h
  refine .ks (fun i => bif Nat.beq i 3 then 6 else i) (.lo (fun (s : List Int) => ⟨[(3, .own 3)], [(3, some (.arr 5 1 (List.map e8 s)))]⟩) h ?_) (.c rfl .n) (.c rfl .n) rfl
  intro v2 u1 h ih1 hx1
  replace h : ref03_Fill_s1 z v2 = _ := h
  unfold ref03_Fill_s1 at h
  refine .sq ?_
  refine .sq ?_
  refine .rg (u (mv (.t rfl)) <| u (lom sf26 (.t rfl) rfl) <| u (di (.t rfl) (.i rfl) rfl (by decide)) <| u (bc (.t rfl) (.i rfl) rfl rfl) <| .nil _) rfl ?_
  refine .bq h (.t rfl) (fun h => ?_) (fun h => ?_)
  · refine .skp ?_
    refine .bl ?_
    refine be h fun x3 hx3 h => ?_
    refine .rg (u (mv (.t rfl)) <| bs (F := e8) (l := [0]) 12 pf26 (.c (.i rfl) rfl <| .n) rfl (fun _ _ => rfl) rfl rfl <| apo 13 pf26 (.t rfl) rfl (.t rfl) rfl hx3 rfl <| u (asg (.t rfl)) <| .nil _) rfl ?_
    refine .ib ?_
    exact .ks (fun i => bif Nat.beq i 3 then 13 else i) (.il (ih1 x3 (nxi h))) (.c rfl .n) (.c rfl .n) rfl
  · refine .xt rfl ?_
    replace h := mpR h hx1
    refine .sq ?_
    refine .rg (u (mv (.t rfl)) <| u (asg (.t rfl)) <| .nil _) rfl ?_
    obtain rfl := Option.some.inj h
    refine .ks (l := [(2, .own 0)]) (o := [(0, some (.arr 5 1 (List.map e8 v2)))]) (fun i => bif Nat.beq i 0 then 3 else i) ?_ (.c rfl .n) (.c rfl .n) rfl
    exact .rt Try.func28 (.t rfl <| .n) (.c rfl .n) rfl rfl

theorem ref03_Fill_r {z : Option Nat} {b : List Int} {r : List Int} (h : ref03_Fill z b = some r) :
    AC Try.prog 28 [.ro (.list 1 (List.map e8 b))] (.ro (.list 1 (List.map e8 r))) [] := AC.fz (ref03_Fill_c h) rfl

theorem ref19_Write_c {z : Option Nat} {p_a : Arrive} {r : List Int} (h : ref19_Write z p_a = some r) :
    AC Try.prog 9 [.ro (enc_Arrive p_a)] (.ro (.list 1 (List.map e8 r))) [] := by
  refine AC.of Try.func9 rfl rfl fun w M0 hM => ?_
  unfold ref19_Write at h
  refine .sq ?_
  refine .rg (bx 1 (.t rfl) rfl rfl <| u (asg (.n (sz := 1) (F := e8))) <| .nil _) rfl ?_
  refine .sq ?_
  refine be h fun x1 hx1 h => ?_
  refine be h fun x2 hx2 h => ?_
  refine be h fun x3 hx3 h => ?_
  refine .rd mixed (u (fa ff25_0 (.t rfl)) <| u (ld tf22 (.t rfl) rfl rfl) <| u (cv cv22_49 (.t rfl)) <| cnf 17000 cf25 (ref01_Must_c hx1) (.c (.t rfl) <| .c (.i rfl) <| .n) rfl rfl rfl <| u (fa ff25_3 (.t rfl)) <| u (ld tf23 (.t rfl) rfl rfl) <| u (lnm sf23 (.t rfl)) <| u (cv cv3_49 (.t rfl)) <| cnf 22000 cf25 (ref01_Must_c hx2) (.c (.t rfl) <| .c (.i rfl) <| .n) rfl rfl rfl <| apo 22 pf26 (.t rfl) rfl (.t rfl) rfl hx3 rfl <| u (asg (.t rfl)) <| .nil _) (by kernel_rfl) rfl ?_
  refine .sq ?_
  refine be h fun x4 hx4 h => ?_
  refine .rg (u (fa ff25_1 (.t rfl)) <| u (ld tf3 (.t rfl) rfl rfl) <| cnf 27000 cf26 (ref01_PutSigned_c hx4) (.c (.t rfl) <| .c (.i rfl) <| .n) rfl rfl rfl <| u (mv (.t rfl)) <| u (ex (.t rfl) rfl rfl) <| u (ex (.t rfl) rfl rfl) <| u (asg (.t rfl)) <| u (asg (.t rfl)) <| .nil _) rfl ?_
  refine .sq ?_
  refine be h fun x5 hx5 h => ?_
  refine .rg (u (mv (.t rfl)) <| u (mv (.t rfl)) <| apo 31 pf26 (.t rfl) rfl (.t rfl) rfl hx5 rfl <| u (asg (.t rfl)) <| .nil _) rfl ?_
  refine .sq ?_
  refine be h fun x6 hx6 h => ?_
  refine .rg (u (mv (.t rfl)) <| u (fa ff25_2 (.t rfl)) <| u (ld tf5 (.t rfl) rfl rfl) <| bs (F := e8) (l := [p_a.count]) 35 pf26 (.c (.t rfl) rfl <| .n) rfl (fun _ _ => rfl) rfl rfl <| apo 36 pf26 (.t rfl) rfl (.t rfl) rfl hx6 rfl <| u (asg (.t rfl)) <| .nil _) rfl ?_
  refine .sq ?_
  refine .rg (anm (ei .i64) 6 3 1 rfl rfl <| .nil _) rfl ?_
  refine .sq ?_
  refine .rg (anm e8 7 5 1 rfl rfl <| .nil _) rfl ?_
  refine .sq ?_
  refine .sq ?_
  refine .rg (u (asg (.i rfl)) <| .nil _) rfl ?_
  refine .bl ?_
  unfold ref19_Write_l1 at h
  refine .kq (.lo (fun (s : List Int × List Int × Int) => ⟨[(1, .ptr 1 0), (3, .own 36), (6, .own 6), (7, .own 7), (8, .ro (.int .i64 s.2.2))], [(1, some (.box [.ro (.int .u16 p_a.base), .ro (.int .i64 p_a.time), .ro (.int .u8 p_a.count), .ro (.list 2 (List.map cells_Seen p_a.seen))])), (6, some (.arr 3 1 (List.map (ei .i64) s.1))), (7, some (.arr 5 1 (List.map e8 s.2.1))), (36, some (.arr 5 1 (List.map e8 x6)))]⟩) h ?_) (.c rfl (.c rfl (.c rfl (.c rfl (.c rfl .n))))) (.c rfl (.c rfl (.c rfl (.c rfl .n))))
  rintro ⟨v7, v8, v9⟩ u1 h ih1 hx1
  replace h : ref19_Write_s1 z p_a x6 v7 v8 v9 = _ := h
  unfold ref19_Write_s1 at h
  refine .sq ?_
  refine .sq ?_
  refine .rg (u (mv (.t rfl)) <| u (fa ff25_3 (.t rfl)) <| u (ld tf23 (.t rfl) rfl rfl) <| u (lnm sf23 (.t rfl)) <| u (bc (.t rfl) (.t rfl) rfl rfl) <| .nil _) rfl ?_
  refine .bq h (.t rfl) (fun h => ?_) (fun h => ?_)
  · refine .skp ?_
    refine .sq ?_
    refine .bl ?_
    refine .sq ?_
    refine be h fun x10 hx10 h => ?_
    refine be h fun x11 hx11 h => ?_
    refine .rg (u (mv (.t rfl)) <| u (fa ff25_3 (.t rfl)) <| u (ld tf23 (.t rfl) rfl rfl) <| u (mv (.t rfl)) <| u (ia sf23 (.t rfl) (.t rfl) (ix_map cells_Seen hx10)) <| u (fr ff46_0 (.t rfl) rfl) <| u (lr tf3 (.t rfl) rfl) <| bs (F := (ei .i64)) (l := [x10.what]) 51 pf55 (.c (.t rfl) rfl <| .n) rfl (fun _ _ => rfl) rfl rfl <| apo 52 pf55 (.t rfl) rfl (.t rfl) rfl hx11 rfl <| u (asg (.t rfl)) <| .nil _) rfl ?_
    refine .sq ?_
    refine be h fun x12 hx12 h => ?_
    refine .rg (u (fa ff25_3 (.t rfl)) <| u (ld tf23 (.t rfl) rfl rfl) <| u (mv (.t rfl)) <| u (ia sf23 (.t rfl) (.t rfl) (ix_map cells_Seen hx12)) <| u (fr ff46_0 (.t rfl) rfl) <| u (lr tf3 (.t rfl) rfl) <| u (bc (.t rfl) (.i rfl) rfl rfl) <| .nil _) rfl ?_
    refine .jq (t := some u1) (fun (a : List Int) => ⟨[(1, .ptr 1 0), (3, .own 36), (6, .own 52), (7, .own 7), (8, .ro (.int .i64 v9))], [(1, some (.box [.ro (.int .u16 p_a.base), .ro (.int .i64 p_a.time), .ro (.int .u8 p_a.count), .ro (.list 2 (List.map cells_Seen p_a.seen))])), (7, some (.arr 5 1 (List.map e8 a))), (36, some (.arr 5 1 (List.map e8 x6))), (52, some (.arr 3 1 (List.map (ei .i64) x11)))]⟩) (fun (a : List Int) => ref19_Write_j2 z v9 x11 a) ?_ (fun J2 => ?_)
    · intro v13 h
      replace h : ref19_Write_j2 z v9 x11 v13 = _ := h
      unfold ref19_Write_j2 at h
      refine .ib ?_
      refine .rg (u (mv (.t rfl)) <| u (bi (.t rfl) (.i rfl) rfl) <| u (asg (.t rfl)) <| .nil _) rfl ?_
      exact .ks (fun i => bif Nat.beq i 6 then 52 else i) (.il (ih1 (x11, v13, (ar .add .i64 v9 1)) (nxi h))) (.c rfl (.c rfl (.c rfl (.c rfl (.c rfl .n))))) (.c rfl (.c rfl (.c rfl (.c rfl .n)))) rfl
    refine .bq h (.t rfl) (fun h => ?_) (fun h => ?_)
    · refine .sq ?_
      refine be h fun x14 hx14 h => ?_
      refine be h fun x15 hx15 h => ?_
      refine .rg (u (fa ff25_3 (.t rfl)) <| u (ld tf23 (.t rfl) rfl rfl) <| u (mv (.t rfl)) <| u (ia sf23 (.t rfl) (.t rfl) (ix_map cells_Seen hx14)) <| u (fr ff46_1 (.t rfl) rfl) <| u (lr tf3 (.t rfl) rfl) <| cnf 68000 cf26 (ref01_PutSigned_c hx15) (.c (.t rfl) <| .c (.i rfl) <| .n) rfl rfl rfl <| u (mv (.t rfl)) <| u (ex (.t rfl) rfl rfl) <| u (ex (.t rfl) rfl rfl) <| u (asg (.t rfl)) <| u (asg (.t rfl)) <| .nil _) rfl ?_
      refine .fz 68000 rfl ?_
      refine be h fun x16 hx16 h => ?_
      refine be h fun x17 hx17 h => ?_
      refine be h fun x18 hx18 h => ?_
      refine .rg (u (mv (.t rfl)) <| u (mv (.t rfl)) <| u (fa ff25_3 (.t rfl)) <| u (ld tf23 (.t rfl) rfl rfl) <| u (mv (.t rfl)) <| u (ia sf23 (.t rfl) (.t rfl) (ix_map cells_Seen hx16)) <| u (fr ff46_0 (.t rfl) rfl) <| u (lr tf3 (.t rfl) rfl) <| u (bi (.i rfl) (.t rfl) rfl) <| u (sl sf26 (.t rfl) (.s (.t rfl)) .n hx17) <| ap 80 pf26 (.t rfl) rfl (.t rfl) hx18 rfl <| u (asg (.t rfl)) <| .nil _) rfl ?_
      exact .ks (fun i => bif Nat.beq i 7 then 80 else i) (J2 x18 h) (.c rfl (.c rfl (.c rfl (.c rfl (.c rfl .n))))) (.c rfl (.c rfl (.c rfl (.c rfl .n)))) rfl
    · refine .skp ?_
      exact .kq (J2 v8 h) (.c rfl (.c rfl (.c rfl (.c rfl (.c rfl .n))))) (.c rfl (.c rfl (.c rfl (.c rfl .n))))
  · refine .xt rfl ?_
    replace h := mpR h hx1
    refine .sq ?_
    refine .fz 6 rfl ?_
    refine be h fun x19 hx19 h => ?_
    refine .rg (u (mv (.t rfl)) <| cnf 83000 cf27 (ref18_Write_c hx19) (.c (.t rfl) <| .n) rfl rfl rfl <| u (asg (.t rfl)) <| .nil _) rfl ?_
    refine .sq ?_
    refine .sq ?_
    refine .rg (u (asg (.i rfl)) <| .nil _) rfl ?_
    refine .bl ?_
    unfold ref19_Write_l3 at h
    refine .ks (fun i => bif Nat.beq i 3 then 36 else i) (.lo (fun (s : List Int × Int) => ⟨[(3, .own 3), (7, .own 7), (11, .own 83000), (12, .ro (.int .i64 s.2))], [(3, some (.arr 5 1 (List.map e8 s.1))), (7, some (.arr 5 1 (List.map e8 v8))), (83000, some (.arr 22 1 (List.map (ei .u16) x19)))]⟩) h ?_) (.c rfl (.c rfl (.c rfl (.c rfl .n)))) (.c rfl (.c rfl (.c rfl .n))) rfl
    rintro ⟨v20, v21⟩ u3 h ih3 hx3
    replace h : ref19_Write_s3 z v8 x19 v20 v21 = _ := h
    unfold ref19_Write_s3 at h
    refine .sq ?_
    refine .sq ?_
    refine .rg (u (mv (.t rfl)) <| u (mv (.t rfl)) <| u (lom sf52 (.t rfl) rfl) <| u (bc (.t rfl) (.t rfl) rfl rfl) <| .nil _) rfl ?_
    refine .bq h (.t rfl) (fun h => ?_) (fun h => ?_)
    · refine .skp ?_
      refine .sq ?_
      refine .bl ?_
      refine be h fun x22 hx22 h => ?_
      refine be h fun x23 hx23 h => ?_
      refine be h fun x24 hx24 h => ?_
      refine .rg (u (mv (.t rfl)) <| u (mv (.t rfl)) <| u (mv (.t rfl)) <| u (io sf52 (.t rfl) rfl (.t rfl) (ix_map (ei .u16) hx22)) <| u (le tf22 (.t rfl) rfl (ix_lt (ix_map _ hx22)).2.2 rfl) <| u (cv cv22_49 (.t rfl)) <| cnf 96000 cf25 (ref01_Must_c hx23) (.c (.t rfl) <| .c (.i rfl) <| .n) rfl rfl rfl <| apo 96 pf26 (.t rfl) rfl (.t rfl) rfl hx24 rfl <| u (asg (.t rfl)) <| .nil _) rfl ?_
      refine .ib ?_
      refine .rg (u (mv (.t rfl)) <| u (bi (.t rfl) (.i rfl) rfl) <| u (asg (.t rfl)) <| .nil _) rfl ?_
      exact .ks (fun i => bif Nat.beq i 3 then 96 else i) (.il (ih3 (x24, (ar .add .i64 v21 1)) (nxi h))) (.c rfl (.c rfl (.c rfl (.c rfl .n)))) (.c rfl (.c rfl (.c rfl .n))) rfl
    · refine .xt rfl ?_
      replace h := mpR h hx3
      refine .sq ?_
      refine be h fun x25 hx25 h => ?_
      refine be h fun x26 hx26 h => ?_
      refine .rg (u (mv (.t rfl)) <| u (mv (.t rfl)) <| apo 99 pf26 (.t rfl) rfl (.t rfl) rfl hx25 rfl <| cl [99] cf28 (ref03_Fill_r hx26) (.b (.t rfl) rfl <| .n) (.inl rfl) <| u (asg (.t rfl)) <| .nil _) rfl ?_
      obtain rfl := Option.some.inj h
      exact .rt Try.func9 (.t rfl <| .n) .n rfl rfl

theorem ref01_Get_c {z : Option Nat} {b : List Int} {at_ : Int} {n : Int} {r : Int × Int} (h : ref01_Get z b at_ n = some r) :
    AC Try.prog 52 [.ro (.list 1 (List.map e8 b)), .ro (.int .i64 at_), .ro (.int .i64 n)] (.ro (.tup [.int .u64 r.1, .int .i64 r.2])) [] := by
  refine AC.of Try.func52 rfl rfl fun w M0 hM => ?_
  unfold ref01_Get at h
  refine .sq ?_
  refine .rg (u (asg (.i rfl)) <| u (asg (.i rfl)) <| .nil _) rfl ?_
  refine .sq ?_
  refine .sq ?_
  refine .rg (u (mv (.t rfl)) <| u (bc (.t rfl) (.i rfl) rfl rfl) <| u (mv (.t rfl)) <| gd rfl rfl (fun hB => mv (.t rfl)) <| gd rfl rfl (fun hB => bc (.m rfl hB) (.i rfl) rfl rfl) <| u (pko (.t rfl) (.t rfl)) <| u (mv (.t rfl)) <| gd rfl rfl (fun hB => mv (.t rfl)) <| gd rfl rfl (fun hB => bc (.m rfl hB) (.i rfl) rfl rfl) <| u (pko (.t rfl) (.t rfl)) <| .nil _) rfl ?_
  refine .bq h (.t rfl) (fun h => ?_) (fun h => ?_)
  · refine .sq ?_
    refine .rg (u (asg (.i rfl)) <| u (asg (.i rfl)) <| .nil _) rfl ?_
    obtain rfl := Option.some.inj h
    exact .rt Try.func52 (.t rfl <| .t rfl <| .n) .n rfl rfl
  · refine .skp ?_
    refine .sq ?_
    refine .sq ?_
    refine .rg (u (mv (.t rfl)) <| u (mv (.t rfl)) <| u (lnm sf26 (.t rfl)) <| u (bc (.t rfl) (.t rfl) rfl rfl) <| u (mv (.t rfl)) <| gd rfl rfl (fun hB => mv (.t rfl)) <| gd rfl rfl (fun hB => lnm sf26 (.m rfl hB)) <| gd rfl rfl (fun hB => mv (.t rfl)) <| gd rfl rfl (fun hB => bi (.m rfl hB) (.m rfl hB) rfl) <| gd rfl rfl (fun hB => mv (.t rfl)) <| gd rfl rfl (fun hB => bc (.m rfl hB) (.m rfl hB) rfl rfl) <| u (pko (.t rfl) (.t rfl)) <| .nil _) rfl ?_
    refine .bq h (.t rfl) (fun h => ?_) (fun h => ?_)
    · refine .sq ?_
      refine .rg (u (asg (.i rfl)) <| u (asg (.i rfl)) <| .nil _) rfl ?_
      obtain rfl := Option.some.inj h
      exact .rt Try.func52 (.t rfl <| .t rfl <| .n) .n rfl rfl
    · refine .skp ?_
      refine .sq ?_
      refine .rg (u (asg (.i rfl)) <| .nil _) rfl ?_
      refine .sq ?_
      refine .sq ?_
      refine .rg (u (asg (.i rfl)) <| .nil _) rfl ?_
      refine .bl ?_
      unfold ref01_Get_l1 at h
      refine .kq (.lo (fun (s : Int × Int) => ⟨[(0, .ro (.list 1 (List.map e8 b))), (1, .ro (.int .i64 at_)), (2, .ro (.int .i64 n)), (8, .ro (.int .u64 s.1)), (9, .ro (.int .i64 s.2))], []⟩) h ?_) (.c rfl (.c rfl (.c rfl (.c rfl (.c rfl .n))))) .n
      rintro ⟨v1, v2⟩ u1 h ih1 hx1
      replace h : ref01_Get_s1 z b at_ n v1 v2 = _ := h
      unfold ref01_Get_s1 at h
      refine .sq ?_
      refine .sq ?_
      refine .rg (u (mv (.t rfl)) <| u (mv (.t rfl)) <| u (bc (.t rfl) (.t rfl) rfl rfl) <| .nil _) rfl ?_
      refine .bq h (.t rfl) (fun h => ?_) (fun h => ?_)
      · refine .skp ?_
        refine .sq ?_
        refine .bl ?_
        refine be h fun x3 hx3 h => ?_
        refine .rg (u (mv (.t rfl)) <| u (bi (.i rfl) (.t rfl) rfl) <| u (mv (.t rfl)) <| u (mv (.t rfl)) <| u (mv (.t rfl)) <| u (bi (.t rfl) (.t rfl) rfl) <| u (ia sf26 (.t rfl) (.t rfl) (ix_map e8 hx3)) <| u (lr tf5 (.t rfl) rfl) <| u (cv cv5_49 (.t rfl)) <| u (bi (.t rfl) (.t rfl) rfl) <| u (asg (.t rfl)) <| .nil _) rfl ?_
        refine .ib ?_
        refine .rg (u (mv (.t rfl)) <| u (bi (.t rfl) (.i rfl) rfl) <| u (asg (.t rfl)) <| .nil _) rfl ?_
        exact .kq (.il (ih1 ((ar .add .u64 (ar .mul .u64 256 v1) (IntKind.u64.wrap x3)), (ar .add .i64 v2 1)) (nxi h))) (.c rfl (.c rfl (.c rfl (.c rfl (.c rfl .n))))) .n
      · refine .xt rfl ?_
        replace h := mpR h hx1
        refine .sq ?_
        refine .rg (u (mv (.t rfl)) <| u (asg (.t rfl)) <| u (asg (.i rfl)) <| .nil _) rfl ?_
        obtain rfl := Option.some.inj h
        exact .rt Try.func52 (.t rfl <| .t rfl <| .n) .n rfl rfl

theorem ref05_Num_c {z : Option Nat} {b : List Int} {at_ : Int} {n : Int} {r : Int} (h : ref05_Num z b at_ n = some r) :
    AC Try.prog 30 [.ro (.list 1 (List.map e8 b)), .ro (.int .i64 at_), .ro (.int .i64 n)] (.ro (.int .u32 r)) [] := by
  refine AC.of Try.func30 rfl rfl fun w M0 hM => ?_
  unfold ref05_Num at h
  refine .sq ?_
  refine .rg (u (asg (.i rfl)) <| .nil _) rfl ?_
  refine .sq ?_
  refine be h fun x1 hx1 h => ?_
  refine .rg (u (mv (.t rfl)) <| u (mv (.t rfl)) <| u (mv (.t rfl)) <| cl [] cf52 (ref01_Get_c hx1) (.c (.t rfl) <| .c (.t rfl) <| .c (.t rfl) <| .n) (.inl rfl) <| u (mv (.t rfl)) <| u (ex (.t rfl) rfl rfl) <| u (ex (.t rfl) rfl rfl) <| u (asg (.t rfl)) <| u (asg (.t rfl)) <| .nil _) rfl ?_
  refine .sq ?_
  refine .rg (u (mv (.t rfl)) <| u (cv cv49_65 (.t rfl)) <| u (asg (.t rfl)) <| .nil _) rfl ?_
  obtain rfl := Option.some.inj h
  exact .rt Try.func30 (.t rfl <| .n) .n rfl rfl

theorem ref18_Told_c {z : Option Nat} {c : Int} {most : Int} {r : List Int} (h : ref18_Told z c most = some r) :
    AC Try.prog 53 [.ro (.int .u16 c), .ro (.int .i64 most)] (.own 0) [(0, .arr 3 1 (List.map (ei .i64) r))] := by
  refine AC.of Try.func53 rfl rfl fun w M0 hM => ?_
  unfold ref18_Told at h
  refine .sq ?_
  refine .rg (anm (ei .i64) 4 3 1 rfl rfl <| .nil _) rfl ?_
  refine .sq ?_
  refine .rg (anm (ei .i64) 5 3 1 rfl rfl <| .nil _) rfl ?_
  refine .sq ?_
  refine .rg (u (mv (.t rfl)) <| u (cv cv22_3 (.t rfl)) <| u (asg (.t rfl)) <| .nil _) rfl ?_
  refine .sq ?_
  refine .bl ?_
  refine .sq ?_
  refine .rg (u (mv (.t rfl)) <| u (bc (.t rfl) (.i rfl) rfl rfl) <| u (asg (.t rfl)) <| .nil _) rfl ?_
  refine .jq (t := some r) (fun (a : List Int) => ⟨[(5, .own 5)], [(5, some (.arr 3 1 (List.map (ei .i64) a)))]⟩) (fun (a : List Int) => ref18_Told_j1 z a) ?_ (fun J1 => ?_)
  · intro v1 h
    replace h : ref18_Told_j1 z v1 = _ := h
    unfold ref18_Told_j1 at h
    refine .ib ?_
    refine .sq ?_
    refine .rg (u (mv (.t rfl)) <| u (asg (.t rfl)) <| .nil _) rfl ?_
    obtain rfl := Option.some.inj h
    refine .ks (l := [(4, .own 0)]) (o := [(0, some (.arr 3 1 (List.map (ei .i64) v1)))]) (fun i => bif Nat.beq i 0 then 5 else i) ?_ (.c rfl .n) (.c rfl .n) rfl
    exact .rt Try.func53 (.t rfl <| .n) (.c rfl .n) rfl rfl
  refine .bq h (.t rfl) (fun h => ?_) (fun h => ?_)
  · refine .sq ?_
    refine .rg (u (asg (.i rfl)) <| .nil _) rfl ?_
    refine .bl ?_
    unfold ref18_Told_l2 at h
    refine .kq (.lo (fun (s : List Int × Int) => ⟨[(1, .ro (.int .i64 most)), (5, .own 5), (6, .ro (.int .i64 (IntKind.i64.wrap c))), (7, .ro (.int .i64 s.2))], [(5, some (.arr 3 1 (List.map (ei .i64) s.1)))]⟩) h ?_) (.c rfl (.c rfl (.c rfl (.c rfl .n)))) (.c rfl .n)
    rintro ⟨v2, v3⟩ u2 h ih2 hx2
    replace h : ref18_Told_s2 z c most v2 v3 = _ := h
    unfold ref18_Told_s2 at h
    refine .sq ?_
    refine .sq ?_
    refine .rg (u (mv (.t rfl)) <| u (mv (.t rfl)) <| u (di (.t rfl) (.i rfl) rfl (by decide)) <| u (bc (.t rfl) (.t rfl) rfl rfl) <| u (mv (.t rfl)) <| gd rfl rfl (fun hB => mv (.t rfl)) <| gd rfl rfl (fun hB => mv (.t rfl)) <| gd rfl rfl (fun hB => bc (.m rfl hB) (.m rfl hB) rfl rfl) <| u (pka (.t rfl) (.t rfl)) <| .nil _) rfl ?_
    refine .bq h (.t rfl) (fun h => ?_) (fun h => ?_)
    · refine .skp ?_
      refine .sq ?_
      refine .bl ?_
      refine be h fun x4 hx4 h => ?_
      refine .rg (u (mv (.t rfl)) <| u (mv (.t rfl)) <| u (di (.t rfl) (.i rfl) rfl (by decide)) <| bs (F := (ei .i64)) (l := [(dv .quo .i64 (IntKind.i64.wrap c) 8192)]) 49 pf55 (.c (.t rfl) rfl <| .n) rfl (fun _ _ => rfl) rfl rfl <| apo 50 pf55 (.t rfl) rfl (.t rfl) rfl hx4 rfl <| u (asg (.t rfl)) <| .nil _) rfl ?_
      refine .ib ?_
      refine .rg (u (mv (.t rfl)) <| u (bi (.t rfl) (.i rfl) rfl) <| u (asg (.t rfl)) <| .nil _) rfl ?_
      exact .ks (fun i => bif Nat.beq i 5 then 50 else i) (.il (ih2 (x4, (ar .add .i64 v3 1)) (nxi h))) (.c rfl (.c rfl (.c rfl (.c rfl .n)))) (.c rfl .n) rfl
    · refine .xt rfl ?_
      replace h := mpR h hx2
      exact .kq (J1 v2 h) (.c rfl .n) (.c rfl .n)
  · refine .sq ?_
    refine .rg (u (mv (.t rfl)) <| u (bc (.t rfl) (.i rfl) rfl rfl) <| u (asg (.t rfl)) <| .nil _) rfl ?_
    refine .bq h (.t rfl) (fun h => ?_) (fun h => ?_)
    · refine .sq ?_
      refine .rg (u (asg (.i rfl)) <| .nil _) rfl ?_
      refine .sq ?_
      refine .rg (u (asg (.i rfl)) <| .nil _) rfl ?_
      refine .bl ?_
      unfold ref18_Told_l3 at h
      refine .kq (.lo (fun (s : List Int × Int × Int) => ⟨[(1, .ro (.int .i64 most)), (5, .own 5), (6, .ro (.int .i64 (IntKind.i64.wrap c))), (8, .ro (.int .i64 s.2.1)), (9, .ro (.int .i64 s.2.2))], [(5, some (.arr 3 1 (List.map (ei .i64) s.1)))]⟩) h ?_) (.c rfl (.c rfl (.c rfl (.c rfl (.c rfl .n))))) (.c rfl .n)
      rintro ⟨v5, v6, v7⟩ u3 h ih3 hx3
      replace h : ref18_Told_s3 z c most v5 v6 v7 = _ := h
      unfold ref18_Told_s3 at h
      refine .sq ?_
      refine .sq ?_
      refine .rg (u (mv (.t rfl)) <| u (bc (.t rfl) (.i rfl) rfl rfl) <| u (mv (.t rfl)) <| gd rfl rfl (fun hB => mv (.t rfl)) <| gd rfl rfl (fun hB => mv (.t rfl)) <| gd rfl rfl (fun hB => bc (.m rfl hB) (.m rfl hB) rfl rfl) <| u (pka (.t rfl) (.t rfl)) <| .nil _) rfl ?_
      refine .bq h (.t rfl) (fun h => ?_) (fun h => ?_)
      · refine .skp ?_
        refine .sq ?_
        refine .bl ?_
        refine .sq ?_
        refine be h fun x8 hx8 h => ?_
        refine be h fun x9 hx9 h => ?_
        refine .rg (u (mv (.t rfl)) <| u (mv (.t rfl)) <| u (mv (.t rfl)) <| u (dio (.t rfl) (.t rfl) rfl hx8) <| u (di (.t rfl) (.i rfl) rfl (by decide)) <| bs (F := (ei .i64)) (l := [(dv .rem .i64 x8 2)]) 68 pf55 (.c (.t rfl) rfl <| .n) rfl (fun _ _ => rfl) rfl rfl <| apo 69 pf55 (.t rfl) rfl (.t rfl) rfl hx9 rfl <| u (asg (.t rfl)) <| .nil _) rfl ?_
        refine .rg (u (mv (.t rfl)) <| u (di (.t rfl) (.i rfl) rfl (by decide)) <| u (asg (.t rfl)) <| .nil _) rfl ?_
        refine .ib ?_
        refine .rg (u (mv (.t rfl)) <| u (bi (.t rfl) (.i rfl) rfl) <| u (asg (.t rfl)) <| .nil _) rfl ?_
        exact .ks (fun i => bif Nat.beq i 5 then 69 else i) (.il (ih3 (x9, (dv .quo .i64 v6 2), (ar .add .i64 v7 1)) (nxi h))) (.c rfl (.c rfl (.c rfl (.c rfl (.c rfl .n))))) (.c rfl .n) rfl
      · refine .xt rfl ?_
        replace h := mpR h hx3
        exact .kq (J1 v5 h) (.c rfl .n) (.c rfl .n)
    · refine .sq ?_
      refine .rg (u (asg (.i rfl)) <| .nil _) rfl ?_
      refine .sq ?_
      refine .rg (u (asg (.i rfl)) <| .nil _) rfl ?_
      refine .bl ?_
      unfold ref18_Told_l4 at h
      refine .kq (.lo (fun (s : List Int × Int × Int) => ⟨[(1, .ro (.int .i64 most)), (5, .own 5), (6, .ro (.int .i64 (IntKind.i64.wrap c))), (10, .ro (.int .i64 s.2.1)), (11, .ro (.int .i64 s.2.2))], [(5, some (.arr 3 1 (List.map (ei .i64) s.1)))]⟩) h ?_) (.c rfl (.c rfl (.c rfl (.c rfl (.c rfl .n))))) (.c rfl .n)
      rintro ⟨v10, v11, v12⟩ u4 h ih4 hx4
      replace h : ref18_Told_s4 z c most v10 v11 v12 = _ := h
      unfold ref18_Told_s4 at h
      refine .sq ?_
      refine .sq ?_
      refine .rg (u (mv (.t rfl)) <| u (bc (.t rfl) (.i rfl) rfl rfl) <| u (mv (.t rfl)) <| gd rfl rfl (fun hB => mv (.t rfl)) <| gd rfl rfl (fun hB => mv (.t rfl)) <| gd rfl rfl (fun hB => bc (.m rfl hB) (.m rfl hB) rfl rfl) <| u (pka (.t rfl) (.t rfl)) <| .nil _) rfl ?_
      refine .bq h (.t rfl) (fun h => ?_) (fun h => ?_)
      · refine .skp ?_
        refine .sq ?_
        refine .bl ?_
        refine .sq ?_
        refine be h fun x13 hx13 h => ?_
        refine be h fun x14 hx14 h => ?_
        refine .rg (u (mv (.t rfl)) <| u (mv (.t rfl)) <| u (mv (.t rfl)) <| u (dio (.t rfl) (.t rfl) rfl hx13) <| u (di (.t rfl) (.i rfl) rfl (by decide)) <| bs (F := (ei .i64)) (l := [(dv .rem .i64 x13 4)]) 28 pf55 (.c (.t rfl) rfl <| .n) rfl (fun _ _ => rfl) rfl rfl <| apo 29 pf55 (.t rfl) rfl (.t rfl) rfl hx14 rfl <| u (asg (.t rfl)) <| .nil _) rfl ?_
        refine .rg (u (mv (.t rfl)) <| u (di (.t rfl) (.i rfl) rfl (by decide)) <| u (asg (.t rfl)) <| .nil _) rfl ?_
        refine .ib ?_
        refine .rg (u (mv (.t rfl)) <| u (bi (.t rfl) (.i rfl) rfl) <| u (asg (.t rfl)) <| .nil _) rfl ?_
        exact .ks (fun i => bif Nat.beq i 5 then 29 else i) (.il (ih4 (x14, (dv .quo .i64 v11 4), (ar .add .i64 v12 1)) (nxi h))) (.c rfl (.c rfl (.c rfl (.c rfl (.c rfl .n))))) (.c rfl .n) rfl
      · refine .xt rfl ?_
        replace h := mpR h hx4
        exact .kq (J1 v10 h) (.c rfl .n) (.c rfl .n)

theorem ref18_Told_r {z : Option Nat} {c : Int} {most : Int} {r : List Int} (h : ref18_Told z c most = some r) :
    AC Try.prog 53 [.ro (.int .u16 c), .ro (.int .i64 most)] (.ro (.list 1 (List.map (ei .i64) r))) [] := AC.fz (ref18_Told_c h) rfl

theorem ref18_Read_c {z : Option Nat} {chunks : List Int} {count : Int} {r : List Int × Int × Int} (h : ref18_Read z chunks count = some r) :
    AC Try.prog 31 [.ro (.list 1 (List.map (ei .u16) chunks)), .ro (.int .i64 count)] (.tup [.own 0, .ro (.int .i64 r.2.1), .ro (.int .i64 r.2.2)]) [(0, .arr 3 1 (List.map (ei .i64) r.1))] := by
  refine AC.of Try.func31 rfl rfl fun w M0 hM => ?_
  unfold ref18_Read at h
  refine .sq ?_
  refine .rg (anm (ei .i64) 4 3 1 rfl rfl <| u (asg (.i rfl)) <| u (asg (.i rfl)) <| .nil _) rfl ?_
  refine .sq ?_
  refine .sq ?_
  refine .rg (u (mv (.t rfl)) <| u (bc (.t rfl) (.i rfl) rfl rfl) <| u (mv (.t rfl)) <| gd rfl rfl (fun hB => mv (.t rfl)) <| gd rfl rfl (fun hB => bc (.m rfl hB) (.i rfl) rfl rfl) <| u (pko (.t rfl) (.t rfl)) <| .nil _) rfl ?_
  refine .bq h (.t rfl) (fun h => ?_) (fun h => ?_)
  · refine .sq ?_
    refine .rg (anm (ei .i64) 100004 3 1 rfl rfl <| u (asg (.i rfl)) <| u (asg (.i rfl)) <| .nil _) rfl ?_
    obtain rfl := Option.some.inj h
    refine .ks (l := [(4, .own 0), (5, .ro (.int .i64 0)), (6, .ro (.int .i64 1))]) (o := [(0, some (.arr 3 1 (List.map (ei .i64) [])))]) (fun i => bif Nat.beq i 0 then 100004 else i) ?_ (.c rfl (.c rfl (.c rfl .n))) (.c rfl .n) rfl
    exact .rt Try.func31 (.t rfl <| .t rfl <| .t rfl <| .n) (.c rfl .n) rfl rfl
  · refine .skp ?_
    refine .sq ?_
    refine .rg (anm (ei .i64) 7 3 1 rfl rfl <| .nil _) rfl ?_
    refine .sq ?_
    refine .rg (u (asg (.i rfl)) <| .nil _) rfl ?_
    refine .sq ?_
    refine .bl ?_
    unfold ref18_Read_l1 at h
    refine .kq (.lo (fun (s : List Int × Int) => ⟨[(0, .ro (.list 1 (List.map (ei .u16) chunks))), (1, .ro (.int .i64 count)), (7, .own 7), (8, .ro (.int .i64 s.2))], [(7, some (.arr 3 1 (List.map (ei .i64) s.1)))]⟩) h ?_) (.c rfl (.c rfl (.c rfl (.c rfl .n)))) (.c rfl .n)
    rintro ⟨v1, v2⟩ u1 h ih1 hx1
    replace h : ref18_Read_s1 z chunks count v1 v2 = _ := h
    unfold ref18_Read_s1 at h
    refine .sq ?_
    refine .sq ?_
    refine .rg (u (mv (.t rfl)) <| u (lom sf55 (.t rfl) rfl) <| u (mv (.t rfl)) <| u (bc (.t rfl) (.t rfl) rfl rfl) <| .nil _) rfl ?_
    refine .bq h (.t rfl) (fun h => ?_) (fun h => ?_)
    · refine .skp ?_
      refine .bl ?_
      refine .sq ?_
      refine .sq ?_
      refine .rg (u (mv (.t rfl)) <| u (mv (.t rfl)) <| u (lnm sf52 (.t rfl)) <| u (bc (.t rfl) (.t rfl) rfl rfl) <| .nil _) rfl ?_
      refine .bq h (.t rfl) (fun h => ?_) (fun h => ?_)
      · refine .sq ?_
        refine .rg (anm (ei .i64) 4 3 1 rfl rfl <| u (asg (.i rfl)) <| u (asg (.i rfl)) <| .nil _) rfl ?_
        replace h := mpR h hx1
        obtain rfl := Option.some.inj h
        refine .ks (l := [(4, .own 0), (5, .ro (.int .i64 0)), (6, .ro (.int .i64 2))]) (o := [(0, some (.arr 3 1 (List.map (ei .i64) [])))]) (fun i => bif Nat.beq i 0 then 4 else i) ?_ (.c rfl (.c rfl (.c rfl .n))) (.c rfl .n) rfl
        exact .rt Try.func31 (.t rfl <| .t rfl <| .t rfl <| .n) (.c rfl .n) rfl rfl
      · refine .skp ?_
        refine .sq ?_
        refine be h fun x3 hx3 h => ?_
        refine be h fun x4 hx4 h => ?_
        refine .rg (u (mv (.t rfl)) <| u (mv (.t rfl)) <| u (ia sf52 (.t rfl) (.t rfl) (ix_map (ei .u16) hx3)) <| u (lr tf22 (.t rfl) rfl) <| u (mv (.t rfl)) <| u (mv (.t rfl)) <| u (lom sf55 (.t rfl) rfl) <| u (bi (.t rfl) (.t rfl) rfl) <| cnf 34000 cf53 (ref18_Told_c hx4) (.c (.t rfl) <| .c (.t rfl) <| .n) rfl rfl rfl <| u (asg (.t rfl)) <| .nil _) rfl ?_
        refine .sq ?_
        refine .sq ?_
        refine .rg (u (asg (.i rfl)) <| .nil _) rfl ?_
        refine .bl ?_
        unfold ref18_Read_l2 at h
        refine .kq (.lo (fun (s : Int) => ⟨[(0, .ro (.list 1 (List.map (ei .u16) chunks))), (1, .ro (.int .i64 count)), (7, .own 7), (8, .ro (.int .i64 v2)), (9, .own 34000), (10, .ro (.int .i64 s))], [(7, some (.arr 3 1 (List.map (ei .i64) v1))), (34000, some (.arr 3 1 (List.map (ei .i64) x4)))]⟩) h ?_) (.c rfl (.c rfl (.c rfl (.c rfl (.c rfl (.c rfl .n)))))) (.c rfl (.c rfl .n))
        intro v5 u2 h ih2 hx2
        replace h : ref18_Read_s2 z v1 v2 x4 v5 = _ := h
        unfold ref18_Read_s2 at h
        refine .sq ?_
        refine .sq ?_
        refine .rg (u (mv (.t rfl)) <| u (mv (.t rfl)) <| u (lom sf55 (.t rfl) rfl) <| u (bc (.t rfl) (.t rfl) rfl rfl) <| .nil _) rfl ?_
        refine .bq h (.t rfl) (fun h => ?_) (fun h => ?_)
        · refine .skp ?_
          refine .sq ?_
          refine .bl ?_
          refine .sq ?_
          refine be h fun x6 hx6 h => ?_
          refine .rg (u (mv (.t rfl)) <| u (mv (.t rfl)) <| u (io sf55 (.t rfl) rfl (.t rfl) (ix_map (ei .i64) hx6)) <| u (le tf3 (.t rfl) rfl (ix_lt (ix_map _ hx6)).2.2 rfl) <| u (bc (.t rfl) (.i rfl) rfl rfl) <| .nil _) rfl ?_
          refine .bq h (.t rfl) (fun h => ?_) (fun h => ?_)
          · refine .sq ?_
            refine .rg (anm (ei .i64) 4 3 1 rfl rfl <| u (asg (.i rfl)) <| u (asg (.i rfl)) <| .nil _) rfl ?_
            replace h := mpR h hx2
            replace h := mpR h hx1
            obtain rfl := Option.some.inj h
            refine .ks (l := [(4, .own 0), (5, .ro (.int .i64 0)), (6, .ro (.int .i64 6))]) (o := [(0, some (.arr 3 1 (List.map (ei .i64) [])))]) (fun i => bif Nat.beq i 0 then 4 else i) ?_ (.c rfl (.c rfl (.c rfl .n))) (.c rfl .n) rfl
            exact .rt Try.func31 (.t rfl <| .t rfl <| .t rfl <| .n) (.c rfl .n) rfl rfl
          · refine .skp ?_
            refine .ib ?_
            refine .rg (u (mv (.t rfl)) <| u (bi (.t rfl) (.i rfl) rfl) <| u (asg (.t rfl)) <| .nil _) rfl ?_
            exact .kq (.il (ih2 (ar .add .i64 v5 1) (nxi h))) (.c rfl (.c rfl (.c rfl (.c rfl (.c rfl (.c rfl .n)))))) (.c rfl (.c rfl .n))
        · refine .xt rfl ?_
          replace h := mpR h hx2
          refine .sq ?_
          refine be h fun x7 hx7 h => ?_
          refine .rg (u (mv (.t rfl)) <| u (mv (.t rfl)) <| apo 47 pf55 (.t rfl) rfl (.t rfl) rfl hx7 rfl <| u (asg (.t rfl)) <| .nil _) rfl ?_
          refine .rg (u (mv (.t rfl)) <| u (bi (.t rfl) (.i rfl) rfl) <| u (asg (.t rfl)) <| .nil _) rfl ?_
          refine .ib ?_
          exact .ks (fun i => bif Nat.beq i 7 then 47 else i) (.il (ih1 (x7, (ar .add .i64 v2 1)) (nxi h))) (.c rfl (.c rfl (.c rfl (.c rfl .n)))) (.c rfl .n) rfl
    · refine .xt rfl ?_
      replace h := mpR h hx1
      refine .sq ?_
      refine .rg (u (mv (.t rfl)) <| u (mv (.t rfl)) <| u (asg (.t rfl)) <| u (asg (.t rfl)) <| u (asg (.i rfl)) <| .nil _) rfl ?_
      obtain rfl := Option.some.inj h
      refine .ks (l := [(4, .own 0), (5, .ro (.int .i64 v2)), (6, .ro (.int .i64 0))]) (o := [(0, some (.arr 3 1 (List.map (ei .i64) v1)))]) (fun i => bif Nat.beq i 0 then 7 else i) ?_ (.c rfl (.c rfl (.c rfl .n))) (.c rfl .n) rfl
      exact .rt Try.func31 (.t rfl <| .t rfl <| .t rfl <| .n) (.c rfl .n) rfl rfl

theorem ref18_Read_r {z : Option Nat} {chunks : List Int} {count : Int} {r : List Int × Int × Int} (h : ref18_Read z chunks count = some r) :
    AC Try.prog 31 [.ro (.list 1 (List.map (ei .u16) chunks)), .ro (.int .i64 count)] (.ro (.tup [.list 1 (List.map (ei .i64) r.1), .int .i64 r.2.1, .int .i64 r.2.2])) [] := AC.fz (ref18_Read_c h) rfl

theorem ref01_Signed_c {z : Option Nat} {b : List Int} {at_ : Int} {n : Int} {r : Int × Int} (h : ref01_Signed z b at_ n = some r) :
    AC Try.prog 32 [.ro (.list 1 (List.map e8 b)), .ro (.int .i64 at_), .ro (.int .i64 n)] (.ro (.tup [.int .i64 r.1, .int .i64 r.2])) [] := by
  refine AC.of Try.func32 rfl rfl fun w M0 hM => ?_
  unfold ref01_Signed at h
  refine .sq ?_
  refine .rg (u (asg (.i rfl)) <| u (asg (.i rfl)) <| .nil _) rfl ?_
  refine .sq ?_
  refine be h fun x1 hx1 h => ?_
  refine .rg (u (mv (.t rfl)) <| u (mv (.t rfl)) <| u (mv (.t rfl)) <| cl [] cf52 (ref01_Get_c hx1) (.c (.t rfl) <| .c (.t rfl) <| .c (.t rfl) <| .n) (.inl rfl) <| u (mv (.t rfl)) <| u (ex (.t rfl) rfl rfl) <| u (ex (.t rfl) rfl rfl) <| u (asg (.t rfl)) <| u (asg (.t rfl)) <| .nil _) rfl ?_
  refine .sq ?_
  refine .sq ?_
  refine .rg (u (mv (.t rfl)) <| u (bc (.t rfl) (.i rfl) rfl rfl) <| u (mv (.t rfl)) <| gd rfl rfl (fun hB => mv (.t rfl)) <| gd rfl rfl (fun hB => bc (.m rfl hB) (.i rfl) rfl rfl) <| u (pko (.t rfl) (.t rfl)) <| .nil _) rfl ?_
  refine .bq h (.t rfl) (fun h => ?_) (fun h => ?_)
  · refine .sq ?_
    refine .rg (u (mv (.t rfl)) <| u (cv cv49_2 (.t rfl)) <| u (mv (.t rfl)) <| u (asg (.t rfl)) <| u (asg (.t rfl)) <| .nil _) rfl ?_
    obtain rfl := Option.some.inj h
    exact .rt Try.func32 (.t rfl <| .t rfl <| .n) .n rfl rfl
  · refine .skp ?_
    refine .sq ?_
    refine .rg (u (asg (.i rfl)) <| .nil _) rfl ?_
    refine .sq ?_
    refine .sq ?_
    refine .rg (u (asg (.i rfl)) <| .nil _) rfl ?_
    refine .bl ?_
    unfold ref01_Signed_l1 at h
    refine .kq (.lo (fun (s : Int × Int) => ⟨[(2, .ro (.int .i64 n)), (8, .ro (.int .u64 x1.1)), (10, .ro (.int .i64 s.1)), (11, .ro (.int .i64 s.2))], []⟩) h ?_) (.c rfl (.c rfl (.c rfl (.c rfl .n)))) .n
    rintro ⟨v2, v3⟩ u1 h ih1 hx1
    replace h : ref01_Signed_s1 z n x1 v2 v3 = _ := h
    unfold ref01_Signed_s1 at h
    refine .sq ?_
    refine .sq ?_
    refine .rg (u (mv (.t rfl)) <| u (mv (.t rfl)) <| u (bc (.t rfl) (.t rfl) rfl rfl) <| .nil _) rfl ?_
    refine .bq h (.t rfl) (fun h => ?_) (fun h => ?_)
    · refine .skp ?_
      refine .sq ?_
      refine .bl ?_
      refine .rg (u (mv (.t rfl)) <| u (bi (.t rfl) (.i rfl) rfl) <| u (asg (.t rfl)) <| .nil _) rfl ?_
      refine .ib ?_
      refine .rg (u (mv (.t rfl)) <| u (bi (.t rfl) (.i rfl) rfl) <| u (asg (.t rfl)) <| .nil _) rfl ?_
      exact .kq (.il (ih1 ((ar .mul .i64 v2 256), (ar .add .i64 v3 1)) (nxi h))) (.c rfl (.c rfl (.c rfl (.c rfl .n)))) .n
    · refine .xt rfl ?_
      replace h := mpR h hx1
      refine .sq ?_
      refine .rg (u (mv (.t rfl)) <| u (di (.t rfl) (.i rfl) rfl (by decide)) <| u (asg (.t rfl)) <| .nil _) rfl ?_
      refine .sq ?_
      refine .sq ?_
      refine .rg (u (mv (.t rfl)) <| u (cv cv49_2 (.t rfl)) <| u (mv (.t rfl)) <| u (bc (.t rfl) (.t rfl) rfl rfl) <| .nil _) rfl ?_
      refine .bq h (.t rfl) (fun h => ?_) (fun h => ?_)
      · refine .sq ?_
        refine .rg (u (mv (.t rfl)) <| u (cv cv49_2 (.t rfl)) <| u (mv (.t rfl)) <| u (bi (.i rfl) (.t rfl) rfl) <| u (bi (.t rfl) (.t rfl) rfl) <| u (asg (.t rfl)) <| u (asg (.i rfl)) <| .nil _) rfl ?_
        obtain rfl := Option.some.inj h
        exact .rt Try.func32 (.t rfl <| .t rfl <| .n) .n rfl rfl
      · refine .skp ?_
        refine .sq ?_
        refine .rg (u (mv (.t rfl)) <| u (cv cv49_2 (.t rfl)) <| u (asg (.t rfl)) <| u (asg (.i rfl)) <| .nil _) rfl ?_
        obtain rfl := Option.some.inj h
        exact .rt Try.func32 (.t rfl <| .t rfl <| .n) .n rfl rfl

theorem ref19_Read_c {z : Option Nat} {b : List Int} {r : Arrive × Int} (h : ref19_Read z b = some r) :
    AC Try.prog 11 [.ro (.list 1 (List.map e8 b))] (.ro (.tup [enc_Arrive r.1, .int .i64 r.2])) [] := by
  refine AC.of Try.func11 rfl rfl fun w M0 hM => ?_
  unfold ref19_Read at h
  refine .sq ?_
  refine .rg (al 2 zf25 rfl <| u (asg (.i rfl)) <| .nil _) rfl ?_
  refine .sq ?_
  refine .sq ?_
  refine .rg (u (mv (.t rfl)) <| u (lnm sf26 (.t rfl)) <| u (bc (.t rfl) (.i rfl) rfl rfl) <| u (mv (.t rfl)) <| gd rfl rfl (fun hB => mv (.t rfl)) <| gd rfl rfl (fun hB => lnm sf26 (.m rfl hB)) <| gd rfl rfl (fun hB => di (.m rfl hB) (.i rfl) rfl (by decide)) <| gd rfl rfl (fun hB => bc (.m rfl hB) (.i rfl) rfl rfl) <| u (pko (.t rfl) (.t rfl)) <| .nil _) rfl ?_
  refine .bq h (.t rfl) (fun h => ?_) (fun h => ?_)
  · refine .sq ?_
    refine .rg (u (bd bf25 zf25 (.n) rfl) <| st tf25 (.t rfl) rfl (.t rfl) rfl rfl rfl <| u (asg (.i rfl)) <| .nil _) rfl ?_
    obtain rfl := Option.some.inj h
    exact .rt Try.func11 (.c tf25 rfl rfl rfl <| .t rfl <| .n) .n rfl rfl
  · refine .skp ?_
    refine .sq ?_
    refine .sq ?_
    refine .rg (u (mv (.t rfl)) <| u (lnm sf26 (.t rfl)) <| u (bc (.t rfl) (.i rfl) rfl rfl) <| .nil _) rfl ?_
    refine .bq h (.t rfl) (fun h => ?_) (fun h => ?_)
    · refine .sq ?_
      refine .rg (u (bd bf25 zf25 (.n) rfl) <| st tf25 (.t rfl) rfl (.t rfl) rfl rfl rfl <| u (asg (.i rfl)) <| .nil _) rfl ?_
      obtain rfl := Option.some.inj h
      exact .rt Try.func11 (.c tf25 rfl rfl rfl <| .t rfl <| .n) .n rfl rfl
    · refine .skp ?_
      refine .sq ?_
      refine be h fun x1 hx1 h => ?_
      refine .rg (u (mv (.t rfl)) <| cl [] cf30 (ref05_Num_c hx1) (.c (.t rfl) <| .c (.i rfl) <| .c (.i rfl) <| .n) (.inl rfl) <| u (cv cv65_3 (.t rfl)) <| u (asg (.t rfl)) <| .nil _) rfl ?_
      refine .sq ?_
      refine .sq ?_
      refine .rg (u (mv (.t rfl)) <| u (bc (.t rfl) (.i rfl) rfl rfl) <| .nil _) rfl ?_
      refine .bq h (.t rfl) (fun h => ?_) (fun h => ?_)
      · refine .sq ?_
        refine .rg (u (bd bf25 zf25 (.n) rfl) <| st tf25 (.t rfl) rfl (.t rfl) rfl rfl rfl <| u (asg (.i rfl)) <| .nil _) rfl ?_
        obtain rfl := Option.some.inj h
        exact .rt Try.func11 (.c tf25 rfl rfl rfl <| .t rfl <| .n) .n rfl rfl
      · refine .skp ?_
        refine .sq ?_
        refine .rg (anm (ei .u16) 5 22 1 rfl rfl <| .nil _) rfl ?_
        refine .sq ?_
        refine .sq ?_
        refine .rg (u (asg (.i rfl)) <| .nil _) rfl ?_
        refine .bl ?_
        unfold ref19_Read_l1 at h
        refine .kq (.lo (fun (s : List Int × Int) => ⟨[(0, .ro (.list 1 (List.map e8 b))), (2, .ptr 2 0), (4, .ro (.int .i64 (IntKind.i64.wrap x1))), (5, .own 5), (6, .ro (.int .i64 s.2))], [(2, some (.box [.ro (.int .u16 0), .ro (.int .i64 0), .ro (.int .u8 0), .ro (.list 2 (List.map cells_Seen []))])), (5, some (.arr 22 1 (List.map (ei .u16) s.1)))]⟩) h ?_) (.c rfl (.c rfl (.c rfl (.c rfl (.c rfl .n))))) (.c rfl (.c rfl .n))
        rintro ⟨v2, v3⟩ u1 h ih1 hx1
        replace h : ref19_Read_s1 z b x1 v2 v3 = _ := h
        unfold ref19_Read_s1 at h
        refine .sq ?_
        refine .sq ?_
        refine .rg (u (mv (.t rfl)) <| u (mv (.t rfl)) <| u (lnm sf26 (.t rfl)) <| u (bc (.t rfl) (.t rfl) rfl rfl) <| .nil _) rfl ?_
        refine .bq h (.t rfl) (fun h => ?_) (fun h => ?_)
        · refine .skp ?_
          refine .sq ?_
          refine .bl ?_
          refine be h fun x4 hx4 h => ?_
          refine be h fun x5 hx5 h => ?_
          refine .rg (u (mv (.t rfl)) <| u (mv (.t rfl)) <| u (mv (.t rfl)) <| cl [] cf30 (ref05_Num_c hx4) (.c (.t rfl) <| .c (.t rfl) <| .c (.i rfl) <| .n) (.inl rfl) <| u (cv cv65_22 (.t rfl)) <| bs (F := (ei .u16)) (l := [(IntKind.u16.wrap x4)]) 49 pf52 (.c (.t rfl) rfl <| .n) rfl (fun _ _ => rfl) rfl rfl <| apo 50 pf52 (.t rfl) rfl (.t rfl) rfl hx5 rfl <| u (asg (.t rfl)) <| .nil _) rfl ?_
          refine .ib ?_
          refine .rg (u (mv (.t rfl)) <| u (bi (.t rfl) (.i rfl) rfl) <| u (asg (.t rfl)) <| .nil _) rfl ?_
          exact .ks (fun i => bif Nat.beq i 5 then 50 else i) (.il (ih1 (x5, (ar .add .i64 v3 2)) (nxi h))) (.c rfl (.c rfl (.c rfl (.c rfl (.c rfl .n))))) (.c rfl (.c rfl .n)) rfl
        · refine .xt rfl ?_
          replace h := mpR h hx1
          refine .sq ?_
          refine .fz 5 rfl ?_
          refine be h fun x6 hx6 h => ?_
          refine .rg (u (mv (.t rfl)) <| u (mv (.t rfl)) <| cnf 55000 cf31 (ref18_Read_c hx6) (.c (.t rfl) <| .c (.t rfl) <| .n) rfl rfl rfl <| u (mv (.t rfl)) <| u (ex (.t rfl) rfl rfl) <| u (ex (.t rfl) rfl rfl) <| u (ex (.t rfl) rfl rfl) <| u (asg (.t rfl)) <| u (asg (.t rfl)) <| u (asg (.t rfl)) <| .nil _) rfl ?_
          refine .sq ?_
          refine .sq ?_
          refine .rg (u (mv (.t rfl)) <| u (bc (.t rfl) (.i rfl) rfl rfl) <| .nil _) rfl ?_
          refine .bq h (.t rfl) (fun h => ?_) (fun h => ?_)
          · refine .sq ?_
            refine .rg (u (bd bf25 zf25 (.n) rfl) <| u (mv (.t rfl)) <| st tf25 (.t rfl) rfl (.t rfl) rfl rfl rfl <| u (asg (.t rfl)) <| .nil _) rfl ?_
            obtain rfl := Option.some.inj h
            exact .rt Try.func11 (.c tf25 rfl rfl rfl <| .t rfl <| .n) .n rfl rfl
          · refine .skp ?_
            refine .sq ?_
            refine .rg (u (mv (.t rfl)) <| u (bi (.i rfl) (.t rfl) rfl) <| u (bi (.i rfl) (.t rfl) rfl) <| u (asg (.t rfl)) <| .nil _) rfl ?_
            refine .sq ?_
            refine be h fun x7 hx7 h => ?_
            refine .rg (u (mv (.t rfl)) <| cl [] cf32 (ref01_Signed_c hx7) (.c (.t rfl) <| .c (.i rfl) <| .c (.i rfl) <| .n) (.inl rfl) <| u (mv (.t rfl)) <| u (ex (.t rfl) rfl rfl) <| u (ex (.t rfl) rfl rfl) <| u (asg (.t rfl)) <| u (asg (.t rfl)) <| .nil _) rfl ?_
            refine .sq ?_
            refine be h fun x8 hx8 h => ?_
            refine be h fun x9 hx9 h => ?_
            refine .rd mixed (u (mv (.t rfl)) <| cl [] cf30 (ref05_Num_c hx8) (.c (.t rfl) <| .c (.i rfl) <| .c (.i rfl) <| .n) (.inl rfl) <| u (cv cv65_22 (.t rfl)) <| u (mv (.t rfl)) <| u (mv (.t rfl)) <| u (ia sf26 (.t rfl) (.i rfl) (ix_map e8 hx9)) <| u (lr tf5 (.t rfl) rfl) <| u (bd bf25 zf25_3 (.c rfl (.t rfl) rfl rfl rfl <| .c rfl (.t rfl) rfl rfl rfl <| .c rfl (.t rfl) rfl rfl rfl <| .n) rfl) <| al 13 zf25_3 rfl <| st tf25 (.t rfl) rfl (.t rfl) rfl rfl rfl <| .nil _) (by kernel_rfl) rfl ?_
            refine .th (F := cells_Seen) 13 3 701303 46 2 rfl rfl rfl ?_
            refine .sq ?_
            refine .sq ?_
            refine .rg (u (asg (.i rfl)) <| .nil _) rfl ?_
            refine .bl ?_
            unfold ref19_Read_l2 at h
            refine .ks (fun i => bif Nat.beq i 10230003 then 701303 else i) (.lo (fun (s : Int × Int × Arrive × Arrive) => ⟨[(0, .ro (.list 1 (List.map e8 b))), (2, .ptr 2 0), (4, .ro (.int .i64 (IntKind.i64.wrap x1))), (7, .own 55000), (10, .ro (.int .i64 s.1)), (13, .ptr 13 0), (14, .ro (.int .i64 s.2.1))], [(2, some (.box [.ro (.int .u16 s.2.2.1.base), .ro (.int .i64 s.2.2.1.time), .ro (.int .u8 s.2.2.1.count), .ro (.list 2 (List.map cells_Seen s.2.2.1.seen))])), (13, some (.box [.ro (.int .u16 s.2.2.2.base), .ro (.int .i64 s.2.2.2.time), .ro (.int .u8 s.2.2.2.count), .own 10230003])), (55000, some (.arr 3 1 (List.map (ei .i64) x6.1))), (10230003, some (.arr 46 2 (List.map cells_Seen s.2.2.2.seen)))]⟩) h ?_) (.c rfl (.c rfl (.c rfl (.c rfl (.c rfl (.c rfl (.c rfl .n))))))) (.c rfl (.c rfl (.c rfl (.c rfl .n)))) rfl
            rintro ⟨v10, v11, v12, v13⟩ u2 h ih2 hx2
            replace h : ref19_Read_s2 z b x1 x6 v10 v11 v12 v13 = _ := h
            unfold ref19_Read_s2 at h
            refine .sq ?_
            refine .sq ?_
            refine .rg (u (mv (.t rfl)) <| u (mv (.t rfl)) <| u (bc (.t rfl) (.t rfl) rfl rfl) <| .nil _) rfl ?_
            refine .bq h (.t rfl) (fun h => ?_) (fun h => ?_)
            · refine .skp ?_
              refine .sq ?_
              refine .bl ?_
              refine .sq ?_
              refine be h fun x14 hx14 h => ?_
              refine .rg (u (mv (.t rfl)) <| u (mv (.t rfl)) <| u (io sf55 (.t rfl) rfl (.t rfl) (ix_map (ei .i64) hx14)) <| u (le tf3 (.t rfl) rfl (ix_lt (ix_map _ hx14)).2.2 rfl) <| u (bd bf46 zf46 (.c rfl (.t rfl) rfl rfl rfl <| .n) rfl) <| al 15 zf46 rfl <| st tf46 (.t rfl) rfl (.t rfl) rfl rfl rfl <| .nil _) rfl ?_
              refine .sq ?_
              refine .sq ?_
              refine .rg (u (mv (.t rfl)) <| u (fa ff46_0 (.t rfl)) <| u (ld tf3 (.t rfl) rfl rfl) <| u (bi (.t rfl) (.t rfl) rfl) <| u (mv (.t rfl)) <| u (lnm sf26 (.t rfl)) <| u (bc (.t rfl) (.t rfl) rfl rfl) <| .nil _) rfl ?_
              refine .bq h (.t rfl) (fun h => ?_) (fun h => ?_)
              · refine .sq ?_
                refine .rg (u (bd bf25 zf25 (.n) rfl) <| st tf25 (.t rfl) rfl (.t rfl) rfl rfl rfl <| u (asg (.i rfl)) <| .nil _) rfl ?_
                replace h := mpR h hx2
                obtain rfl := Option.some.inj h
                exact .rt Try.func11 (.c tf25 rfl rfl rfl <| .t rfl <| .n) .n rfl rfl
              · refine .skp ?_
                refine .sq ?_
                refine .sq ?_
                refine .rg (u (fa ff46_0 (.t rfl)) <| u (ld tf3 (.t rfl) rfl rfl) <| u (bc (.t rfl) (.i rfl) rfl rfl) <| .nil _) rfl ?_
                refine .jq (t := some u2) (fun (a : Seen) => ⟨[(0, .ro (.list 1 (List.map e8 b))), (2, .ptr 2 0), (4, .ro (.int .i64 (IntKind.i64.wrap x1))), (7, .own 55000), (10, .ro (.int .i64 v10)), (13, .ptr 13 0), (14, .ro (.int .i64 v11)), (15, .ptr 15 0)], [(2, some (.box [.ro (.int .u16 v12.base), .ro (.int .i64 v12.time), .ro (.int .u8 v12.count), .ro (.list 2 (List.map cells_Seen v12.seen))])), (13, some (.box [.ro (.int .u16 v13.base), .ro (.int .i64 v13.time), .ro (.int .u8 v13.count), .own 10230003])), (15, some (.box [.ro (.int .i64 a.what), .ro (.int .i64 a.delta)])), (55000, some (.arr 3 1 (List.map (ei .i64) x6.1))), (10230003, some (.arr 46 2 (List.map cells_Seen v13.seen)))]⟩) (fun (a : Seen) => ref19_Read_j3 z b v10 v11 v12 v13 a) ?_ (fun J3 => ?_)
                · intro v15 h
                  replace h : ref19_Read_j3 z b v10 v11 v12 v13 v15 = _ := h
                  unfold ref19_Read_j3 at h
                  refine .sq ?_
                  refine .sq ?_
                  refine .rg (u (fa ff46_0 (.t rfl)) <| u (ld tf3 (.t rfl) rfl rfl) <| u (bc (.t rfl) (.i rfl) rfl rfl) <| .nil _) rfl ?_
                  refine .jq (t := some u2) (fun (a : Seen) => ⟨[(0, .ro (.list 1 (List.map e8 b))), (2, .ptr 2 0), (4, .ro (.int .i64 (IntKind.i64.wrap x1))), (7, .own 55000), (10, .ro (.int .i64 v10)), (13, .ptr 13 0), (14, .ro (.int .i64 v11)), (15, .ptr 15 0)], [(2, some (.box [.ro (.int .u16 v12.base), .ro (.int .i64 v12.time), .ro (.int .u8 v12.count), .ro (.list 2 (List.map cells_Seen v12.seen))])), (13, some (.box [.ro (.int .u16 v13.base), .ro (.int .i64 v13.time), .ro (.int .u8 v13.count), .own 10230003])), (15, some (.box [.ro (.int .i64 a.what), .ro (.int .i64 a.delta)])), (55000, some (.arr 3 1 (List.map (ei .i64) x6.1))), (10230003, some (.arr 46 2 (List.map cells_Seen v13.seen)))]⟩) (fun (a : Seen) => ref19_Read_j4 z v10 v11 v12 v13 a) ?_ (fun J4 => ?_)
                  · intro v16 h
                    replace h : ref19_Read_j4 z v10 v11 v12 v13 v16 = _ := h
                    unfold ref19_Read_j4 at h
                    refine .sq ?_
                    refine .rg (u (mv (.t rfl)) <| u (fa ff46_0 (.t rfl)) <| u (ld tf3 (.t rfl) rfl rfl) <| u (bi (.t rfl) (.t rfl) rfl) <| u (asg (.t rfl)) <| .nil _) rfl ?_
                    refine be h fun x17 hx17 h => ?_
                    refine .rg (u (fa ff25_3 (.t rfl)) <| u (ld tf23 (.t rfl) rfl rfl) <| u (ld tf46 (.t rfl) rfl rfl) <| bs (F := cells_Seen) (l := [v16]) 123 pf23 (.c (.t rfl) rfl <| .n) rfl (fun _ _ => rfl) rfl rfl <| apo 124 pf23 (.t rfl) rfl (.t rfl) rfl hx17 rfl <| u (fa ff25_3 (.t rfl)) <| st tf23 (.t rfl) rfl (.t rfl) rfl rfl rfl <| .nil _) rfl ?_
                    refine .ib ?_
                    refine .rg (u (mv (.t rfl)) <| u (bi (.t rfl) (.i rfl) rfl) <| u (asg (.t rfl)) <| .nil _) rfl ?_
                    exact .ks (fun i => bif Nat.beq i 10230003 then 124 else i) (.il (ih2 ((ar .add .i64 v10 v16.what), (ar .add .i64 v11 1), v12, { v13 with seen := x17 }) (nxi h))) (.c rfl (.c rfl (.c rfl (.c rfl (.c rfl (.c rfl (.c rfl .n))))))) (.c rfl (.c rfl (.c rfl (.c rfl .n)))) rfl
                  refine .bq h (.t rfl) (fun h => ?_) (fun h => ?_)
                  · refine .sq ?_
                    refine be h fun x18 hx18 h => ?_
                    refine .rg (u (mv (.t rfl)) <| u (mv (.t rfl)) <| cl [] cf32 (ref01_Signed_c hx18) (.c (.t rfl) <| .c (.t rfl) <| .c (.i rfl) <| .n) (.inl rfl) <| u (mv (.t rfl)) <| u (ex (.t rfl) rfl rfl) <| u (ex (.t rfl) rfl rfl) <| u (asg (.t rfl)) <| u (asg (.t rfl)) <| .nil _) rfl ?_
                    refine .rg (u (mv (.t rfl)) <| u (fa ff46_1 (.t rfl)) <| st tf3 (.t rfl) rfl (.t rfl) rfl rfl rfl <| .nil _) rfl ?_
                    exact .kq (J4 ({ v15 with delta := x18.1 }) h) (.c rfl (.c rfl (.c rfl (.c rfl (.c rfl (.c rfl (.c rfl (.c rfl .n)))))))) (.c rfl (.c rfl (.c rfl (.c rfl (.c rfl .n)))))
                  · refine .skp ?_
                    exact .kq (J4 v15 h) (.c rfl (.c rfl (.c rfl (.c rfl (.c rfl (.c rfl (.c rfl (.c rfl .n)))))))) (.c rfl (.c rfl (.c rfl (.c rfl (.c rfl .n)))))
                refine .bq h (.t rfl) (fun h => ?_) (fun h => ?_)
                · refine be h fun x19 hx19 h => ?_
                  refine .rg (u (mv (.t rfl)) <| u (mv (.t rfl)) <| u (ia sf26 (.t rfl) (.t rfl) (ix_map e8 hx19)) <| u (lr tf5 (.t rfl) rfl) <| u (cv cv5_3 (.t rfl)) <| u (fa ff46_1 (.t rfl)) <| st tf3 (.t rfl) rfl (.t rfl) rfl rfl rfl <| .nil _) rfl ?_
                  exact .kq (J3 (Seen.mk x14 (IntKind.i64.wrap x19)) h) (.c rfl (.c rfl (.c rfl (.c rfl (.c rfl (.c rfl (.c rfl (.c rfl .n)))))))) (.c rfl (.c rfl (.c rfl (.c rfl (.c rfl .n)))))
                · refine .skp ?_
                  exact .kq (J3 (Seen.mk x14 0) h) (.c rfl (.c rfl (.c rfl (.c rfl (.c rfl (.c rfl (.c rfl (.c rfl .n)))))))) (.c rfl (.c rfl (.c rfl (.c rfl (.c rfl .n)))))
            · refine .xt rfl ?_
              replace h := mpR h hx2
              refine .sq ?_
              refine .sq ?_
              refine .rg (u (mv (.t rfl)) <| u (lnm sf26 (.t rfl)) <| u (mv (.t rfl)) <| u (bi (.t rfl) (.t rfl) rfl) <| u (bc (.t rfl) (.i rfl) rfl rfl) <| .nil _) rfl ?_
              refine .bq h (.t rfl) (fun h => ?_) (fun h => ?_)
              · refine .sq ?_
                refine .rg (u (bd bf25 zf25 (.n) rfl) <| st tf25 (.t rfl) rfl (.t rfl) rfl rfl rfl <| u (asg (.i rfl)) <| .nil _) rfl ?_
                obtain rfl := Option.some.inj h
                exact .rt Try.func11 (.c tf25 rfl rfl rfl <| .t rfl <| .n) .n rfl rfl
              · refine .skp ?_
                refine .sq ?_
                refine .rg (u (ld tf25 (.t rfl) rfl rfl) <| st tf25 (.t rfl) rfl (.t rfl) rfl rfl rfl <| u (asg (.i rfl)) <| .nil _) rfl ?_
                refine .fz 10230003 rfl ?_
                obtain rfl := Option.some.inj h
                exact .rt Try.func11 (.c tf25 rfl rfl rfl <| .t rfl <| .n) .n rfl rfl

theorem ref19_When_c {z : Option Nat} {p_a : Arrive} {nth : Int} {r : Int × Int} (h : ref19_When z p_a nth = some r) :
    AC Try.prog 13 [.ro (enc_Arrive p_a), .ro (.int .i64 nth)] (.ro (.tup [.int .i64 r.1, .int .i64 r.2])) [] := by
  refine AC.of Try.func13 rfl rfl fun w M0 hM => ?_
  unfold ref19_When at h
  refine .sq ?_
  refine .rg (bx 2 (.t rfl) rfl rfl <| u (asg (.i rfl)) <| u (asg (.i rfl)) <| .nil _) rfl ?_
  refine .sq ?_
  refine .sq ?_
  refine be h fun x1 hx1 h => ?_
  refine .rg (u (ld tf25 (.t rfl) rfl rfl) <| cl [] cf7 (ref19_Right_c hx1) (.c (.t rfl) <| .n) (.inl rfl) <| u (no (.t rfl)) <| u (mv (.t rfl)) <| gd rfl rfl (fun hB => mv (.t rfl)) <| gd rfl rfl (fun hB => bc (.m rfl hB) (.i rfl) rfl rfl) <| u (pko (.t rfl) (.t rfl)) <| u (mv (.t rfl)) <| gd rfl rfl (fun hB => mv (.t rfl)) <| gd rfl rfl (fun hB => fa ff25_3 (.t rfl)) <| gd rfl rfl (fun hB => ld tf23 (.m rfl hB) rfl rfl) <| gd rfl rfl (fun hB => lnm sf23 (.m rfl hB)) <| gd rfl rfl (fun hB => bc (.m rfl hB) (.m rfl hB) rfl rfl) <| u (pko (.t rfl) (.t rfl)) <| .nil _) rfl ?_
  refine .bq h (.t rfl) (fun h => ?_) (fun h => ?_)
  · refine .sq ?_
    refine .rg (u (asg (.i rfl)) <| u (asg (.i rfl)) <| .nil _) rfl ?_
    obtain rfl := Option.some.inj h
    exact .rt Try.func13 (.t rfl <| .t rfl <| .n) .n rfl rfl
  · refine .skp ?_
    refine .sq ?_
    refine .sq ?_
    refine be h fun x2 hx2 h => ?_
    refine .rg (u (fa ff25_3 (.t rfl)) <| u (ld tf23 (.t rfl) rfl rfl) <| u (mv (.t rfl)) <| u (ia sf23 (.t rfl) (.t rfl) (ix_map cells_Seen hx2)) <| u (fr ff46_0 (.t rfl) rfl) <| u (lr tf3 (.t rfl) rfl) <| u (bc (.t rfl) (.i rfl) rfl rfl) <| .nil _) rfl ?_
    refine .bq h (.t rfl) (fun h => ?_) (fun h => ?_)
    · refine .sq ?_
      refine .rg (u (asg (.i rfl)) <| u (asg (.i rfl)) <| .nil _) rfl ?_
      obtain rfl := Option.some.inj h
      exact .rt Try.func13 (.t rfl <| .t rfl <| .n) .n rfl rfl
    · refine .skp ?_
      refine .sq ?_
      refine .rg (u (fa ff25_1 (.t rfl)) <| u (ld tf3 (.t rfl) rfl rfl) <| u (bi (.i rfl) (.t rfl) rfl) <| u (asg (.t rfl)) <| .nil _) rfl ?_
      refine .sq ?_
      refine .sq ?_
      refine .rg (u (asg (.i rfl)) <| .nil _) rfl ?_
      refine .bl ?_
      unfold ref19_When_l1 at h
      refine .kq (.lo (fun (s : Int × Int) => ⟨[(1, .ro (.int .i64 nth)), (2, .ptr 2 0), (6, .ro (.int .i64 s.1)), (7, .ro (.int .i64 s.2))], [(2, some (.box [.ro (.int .u16 p_a.base), .ro (.int .i64 p_a.time), .ro (.int .u8 p_a.count), .ro (.list 2 (List.map cells_Seen p_a.seen))]))]⟩) h ?_) (.c rfl (.c rfl (.c rfl (.c rfl .n)))) (.c rfl .n)
      rintro ⟨v3, v4⟩ u1 h ih1 hx1
      replace h : ref19_When_s1 z p_a nth v3 v4 = _ := h
      unfold ref19_When_s1 at h
      refine .sq ?_
      refine .sq ?_
      refine .rg (u (mv (.t rfl)) <| u (mv (.t rfl)) <| u (bc (.t rfl) (.t rfl) rfl rfl) <| .nil _) rfl ?_
      refine .bq h (.t rfl) (fun h => ?_) (fun h => ?_)
      · refine .skp ?_
        refine .sq ?_
        refine .bl ?_
        refine be h fun x5 hx5 h => ?_
        refine .rg (u (mv (.t rfl)) <| u (fa ff25_3 (.t rfl)) <| u (ld tf23 (.t rfl) rfl rfl) <| u (mv (.t rfl)) <| u (ia sf23 (.t rfl) (.t rfl) (ix_map cells_Seen hx5)) <| u (fr ff46_1 (.t rfl) rfl) <| u (lr tf3 (.t rfl) rfl) <| u (bi (.t rfl) (.t rfl) rfl) <| u (asg (.t rfl)) <| .nil _) rfl ?_
        refine .ib ?_
        refine .rg (u (mv (.t rfl)) <| u (bi (.t rfl) (.i rfl) rfl) <| u (asg (.t rfl)) <| .nil _) rfl ?_
        exact .kq (.il (ih1 ((ar .add .i64 v3 x5.delta), (ar .add .i64 v4 1)) (nxi h))) (.c rfl (.c rfl (.c rfl (.c rfl .n)))) (.c rfl .n)
      · refine .xt rfl ?_
        replace h := mpR h hx1
        refine .sq ?_
        refine .rg (u (mv (.t rfl)) <| u (asg (.t rfl)) <| u (asg (.i rfl)) <| .nil _) rfl ?_
        obtain rfl := Option.some.inj h
        exact .rt Try.func13 (.t rfl <| .t rfl <| .n) .n rfl rfl

theorem ref19_Canon_c {z : Option Nat} {b : List Int} {r : Bool} (h : ref19_Canon z b = some r) :
    AC Try.prog 17 [.ro (.list 1 (List.map e8 b))] (.ro (.bool r)) [] := by
  refine AC.of Try.func17 rfl rfl fun w M0 hM => ?_
  unfold ref19_Canon at h
  refine .sq ?_
  refine .rg (u (asg .b) <| .nil _) rfl ?_
  refine .sq ?_
  refine be h fun x1 hx1 h => ?_
  refine .rg (u (mv (.t rfl)) <| cl [] cf11 (ref19_Read_c hx1) (.c (.t rfl) <| .n) (.inl rfl) <| u (mv (.t rfl)) <| u (ex (.t rfl) rfl rfl) <| u (ex (.t rfl) rfl rfl) <| al 3 zf25 rfl <| st tf25 (.t rfl) rfl (.t rfl) rfl rfl rfl <| u (asg (.t rfl)) <| .nil _) rfl ?_
  refine .sq ?_
  refine be h fun x2 hx2 h => ?_
  refine .rd mixed (u (mv (.t rfl)) <| u (bc (.t rfl) (.i rfl) rfl rfl) <| u (mv (.t rfl)) <| gd rfl rfl (fun hB => ld tf25 (.t rfl) rfl rfl) <| cg rfl rfl cf9 (fun hB => (ref19_Write_c (gTt hx2 hB))) (fun hB => .c (.m rfl hB) <| .n) (.inl rfl) <| gd rfl rfl (fun hB => bt bt26_9 (.m rfl hB)) <| gd rfl rfl (fun hB => mv (.t rfl)) <| gd rfl rfl (fun hB => bt bt26_9 (.m rfl hB)) <| gd rfl rfl (fun hB => sq (.m rfl hB) (.m rfl hB) rfl rfl) <| u (pka (.t rfl) (.t rfl)) <| u (asg (.t rfl)) <| .nil _) (by kernel_rfl) rfl ?_
  obtain rfl := Option.some.inj h
  exact .rt Try.func17 (.t rfl <| .n) .n rfl rfl

theorem law19_ArriveRight_c {z : Option Nat} {p_a : Arrive} {b : List Int} {nth : Int} {r : Bool} (h : law19_ArriveRight z p_a b nth = some r) :
    AC Try.prog 3 [.ro (enc_Arrive p_a), .ro (.list 1 (List.map e8 b)), .ro (.int .i64 nth)] (.ro (.bool r)) [] := by
  refine AC.of Try.func3 rfl rfl fun w M0 hM => ?_
  unfold law19_ArriveRight at h
  refine .sq ?_
  refine .rg (bx 3 (.t rfl) rfl rfl <| u (asg .b) <| .nil _) rfl ?_
  refine .sq ?_
  refine .sq ?_
  refine .rg (cl [] cf6 law19_awake_k (.n) (.inl rfl) <| u (no (.t rfl)) <| .nil _) rfl ?_
  refine .cf (.t rfl) rfl ?_
  refine .skp ?_
  refine .sq ?_
  refine .sq ?_
  refine .rg (u (fa ff25_3 (.t rfl)) <| u (ld tf23 (.t rfl) rfl rfl) <| u (lnm sf23 (.t rfl)) <| u (bc (.t rfl) (.i rfl) rfl rfl) <| u (mv (.t rfl)) <| gd rfl rfl (fun hB => mv (.t rfl)) <| gd rfl rfl (fun hB => lnm sf26 (.m rfl hB)) <| gd rfl rfl (fun hB => bc (.m rfl hB) (.i rfl) rfl rfl) <| u (pko (.t rfl) (.t rfl)) <| .nil _) rfl ?_
  refine .bq h (.t rfl) (fun h => ?_) (fun h => ?_)
  · refine .sq ?_
    refine .rg (u (asg .b) <| .nil _) rfl ?_
    obtain rfl := Option.some.inj h
    exact .rt Try.func3 (.t rfl <| .n) .n rfl rfl
  · refine .skp ?_
    refine .sq ?_
    refine be h fun x1 hx1 h => ?_
    refine .rg (u (ld tf25 (.t rfl) rfl rfl) <| cl [] cf7 (ref19_Right_c hx1) (.c (.t rfl) <| .n) (.inl rfl) <| u (asg (.t rfl)) <| .nil _) rfl ?_
    refine .sq ?_
    refine be h fun x2 hx2 h => ?_
    refine .rg (u (ld tf25 (.t rfl) rfl rfl) <| cnf 34000 cf8 (arrive_Write_c hx2) (.c (.t rfl) <| .n) rfl rfl rfl <| u (mv (.t rfl)) <| u (ex (.t rfl) rfl rfl) <| u (ex (.t rfl) rfl rfl) <| u (asg (.t rfl)) <| u (asg (.t rfl)) <| .nil _) rfl ?_
    refine .sq ?_
    refine .sq ?_
    refine .rg (u (mv (.t rfl)) <| .nil _) rfl ?_
    refine .jq (t := some r) (fun (a : Unit) => ⟨[(1, .ro (.list 1 (List.map e8 b))), (2, .ro (.int .i64 nth)), (3, .ptr 3 0), (7, .ro (.bool x1))], [(3, some (.box [.ro (.int .u16 p_a.base), .ro (.int .i64 p_a.time), .ro (.int .u8 p_a.count), .ro (.list 2 (List.map cells_Seen p_a.seen))]))]⟩) (fun (a : Unit) => law19_ArriveRight_j1 z p_a b nth x1) ?_ (fun J1 => ?_)
    · intro _ h
      replace h : law19_ArriveRight_j1 z p_a b nth x1 = _ := h
      unfold law19_ArriveRight_j1 at h
      refine .sq ?_
      refine be h fun x3 hx3 h => ?_
      refine .rg (u (mv (.t rfl)) <| cl [] cf10 (arrive_Read_c hx3) (.c (.t rfl) <| .n) (.inl rfl) <| u (mv (.t rfl)) <| u (ex (.t rfl) rfl rfl) <| u (ex (.t rfl) rfl rfl) <| al 10 zf25 rfl <| st tf25 (.t rfl) rfl (.t rfl) rfl rfl rfl <| u (asg (.t rfl)) <| .nil _) rfl ?_
      refine .sq ?_
      refine be h fun x4 hx4 h => ?_
      refine .rg (u (mv (.t rfl)) <| cl [] cf11 (ref19_Read_c hx4) (.c (.t rfl) <| .n) (.inl rfl) <| u (mv (.t rfl)) <| u (ex (.t rfl) rfl rfl) <| u (ex (.t rfl) rfl rfl) <| al 12 zf25 rfl <| st tf25 (.t rfl) rfl (.t rfl) rfl rfl rfl <| u (asg (.t rfl)) <| .nil _) rfl ?_
      refine .sq ?_
      refine be h fun x5 hx5 h => ?_
      refine .rg (u (ld tf25 (.t rfl) rfl rfl) <| u (mv (.t rfl)) <| cl [] cf12 (arrive_When_c hx5) (.c (.t rfl) <| .c (.t rfl) <| .n) (.inl rfl) <| u (mv (.t rfl)) <| u (ex (.t rfl) rfl rfl) <| u (ex (.t rfl) rfl rfl) <| u (asg (.t rfl)) <| u (asg (.t rfl)) <| .nil _) rfl ?_
      refine .sq ?_
      refine be h fun x6 hx6 h => ?_
      refine .rg (u (ld tf25 (.t rfl) rfl rfl) <| u (mv (.t rfl)) <| cl [] cf13 (ref19_When_c hx6) (.c (.t rfl) <| .c (.t rfl) <| .n) (.inl rfl) <| u (mv (.t rfl)) <| u (ex (.t rfl) rfl rfl) <| u (ex (.t rfl) rfl rfl) <| u (asg (.t rfl)) <| u (asg (.t rfl)) <| .nil _) rfl ?_
      refine .sq ?_
      refine be h fun x7 hx7 h => ?_
      refine be h fun x8 hx8 h => ?_
      refine be h fun x9 hx9 h => ?_
      refine be h fun x10 hx10 h => ?_
      refine .rg (u (ld tf25 (.t rfl) rfl rfl) <| cl [] cf14 (arrive_Right_c hx7) (.c (.t rfl) <| .n) (.inl rfl) <| u (mv (.t rfl)) <| u (be2 ub4 (.t rfl) (.t rfl) rfl) <| u (mv (.t rfl)) <| gd rfl rfl (fun hB => mv (.t rfl)) <| gd rfl rfl (fun hB => mv (.t rfl)) <| gd rfl rfl (fun hB => bc (.m rfl hB) (.m rfl hB) rfl rfl) <| u (pka (.t rfl) (.t rfl)) <| u (mv (.t rfl)) <| gd rfl rfl (fun hB => ld tf25 (.t rfl) rfl rfl) <| gd rfl rfl (fun hB => ld tf25 (.t rfl) rfl rfl) <| cg rfl rfl cf15 (fun hB => (ref19_Same_c (gTt hx8 hB))) (fun hB => .c (.m rfl hB) <| .c (.m rfl hB) <| .n) (.inl rfl) <| u (pka (.t rfl) (.t rfl)) <| u (mv (.t rfl)) <| gd rfl rfl (fun hB => mv (.t rfl)) <| cg rfl rfl cf16 (fun hB => (arrive_Canon_c (gTt hx9 hB))) (fun hB => .c (.m rfl hB) <| .n) (.inl rfl) <| gd rfl rfl (fun hB => mv (.t rfl)) <| cg rfl rfl cf17 (fun hB => (ref19_Canon_c (gTt hx10 hB))) (fun hB => .c (.m rfl hB) <| .n) (.inl rfl) <| gd rfl rfl (fun hB => be2 ub4 (.m rfl hB) (.m rfl hB) rfl) <| u (pka (.t rfl) (.t rfl)) <| u (mv (.t rfl)) <| gd rfl rfl (fun hB => mv (.t rfl)) <| gd rfl rfl (fun hB => mv (.t rfl)) <| gd rfl rfl (fun hB => bc (.m rfl hB) (.m rfl hB) rfl rfl) <| u (pka (.t rfl) (.t rfl)) <| u (mv (.t rfl)) <| gd rfl rfl (fun hB => mv (.t rfl)) <| gd rfl rfl (fun hB => mv (.t rfl)) <| gd rfl rfl (fun hB => bc (.m rfl hB) (.m rfl hB) rfl rfl) <| u (pka (.t rfl) (.t rfl)) <| u (asg (.t rfl)) <| .nil _) rfl ?_
      obtain rfl := Option.some.inj h
      exact .rt Try.func3 (.t rfl <| .n) .n rfl rfl
    refine .bq h (.t rfl) (fun h => ?_) (fun h => ?_)
    · refine .sq ?_
      refine be h fun x11 hx11 h => ?_
      refine .rd mixed (u (mv (.t rfl)) <| u (bc (.t rfl) (.i rfl) rfl rfl) <| u (mv (.t rfl)) <| gd rfl rfl (fun hB => mv (.t rfl)) <| gd rfl rfl (fun hB => bto bt26_9 (.m rfl hB) rfl) <| gd rfl rfl (fun hB => ld tf25 (.t rfl) rfl rfl) <| cg rfl rfl cf9 (fun hB => (ref19_Write_c (gTt hx11 (nt hB)))) (fun hB => .c (.m rfl hB) <| .n) (.inl rfl) <| gd rfl rfl (fun hB => bt bt26_9 (.m rfl hB)) <| gd rfl rfl (fun hB => sq (.m rfl hB) (.m rfl hB) rfl rfl) <| u (pko (.t rfl) (.t rfl)) <| .nil _) (by kernel_rfl) rfl ?_
      refine .bq h (.t rfl) (fun h => ?_) (fun h => ?_)
      · refine .sq ?_
        refine .rg (u (asg .b) <| .nil _) rfl ?_
        obtain rfl := Option.some.inj h
        exact .rt Try.func3 (.t rfl <| .n) .n rfl rfl
      · refine .skp ?_
        exact .kq (J1 () h) (.c rfl (.c rfl (.c rfl (.c rfl .n)))) (.c rfl .n)
    · refine .sq ?_
      refine .rg (u (mv (.t rfl)) <| u (bc (.t rfl) (.i rfl) rfl rfl) <| u (mv (.t rfl)) <| gd rfl rfl (fun hB => mv (.t rfl)) <| gd rfl rfl (fun hB => lom sf26 (.m rfl hB) rfl) <| gd rfl rfl (fun hB => bc (.m rfl hB) (.i rfl) rfl rfl) <| u (pko (.t rfl) (.t rfl)) <| .nil _) rfl ?_
      refine .bq h (.t rfl) (fun h => ?_) (fun h => ?_)
      · refine .sq ?_
        refine .rg (u (asg .b) <| .nil _) rfl ?_
        obtain rfl := Option.some.inj h
        exact .rt Try.func3 (.t rfl <| .n) .n rfl rfl
      · refine .skp ?_
        exact .kq (J1 () h) (.c rfl (.c rfl (.c rfl (.c rfl .n)))) (.c rfl .n)

theorem law19_ArriveBack_c {z : Option Nat} {p_a : Arrive} {c : Arrive} {b : List Int} {r : Bool} (h : law19_ArriveBack z p_a c b = some r) :
    AC Try.prog 4 [.ro (enc_Arrive p_a), .ro (enc_Arrive c), .ro (.list 1 (List.map e8 b))] (.ro (.bool r)) [] := by
  refine AC.of Try.func4 rfl rfl fun w M0 hM => ?_
  unfold law19_ArriveBack at h
  refine .sq ?_
  refine .rg (bx 3 (.t rfl) rfl rfl <| bx 4 (.t rfl) rfl rfl <| u (asg .b) <| .nil _) rfl ?_
  refine .sq ?_
  refine .sq ?_
  refine .rg (cl [] cf6 law19_awake_k (.n) (.inl rfl) <| u (no (.t rfl)) <| .nil _) rfl ?_
  refine .cf (.t rfl) rfl ?_
  refine .skp ?_
  refine .sq ?_
  refine .sq ?_
  refine .rg (u (fa ff25_3 (.t rfl)) <| u (ld tf23 (.t rfl) rfl rfl) <| u (lnm sf23 (.t rfl)) <| u (bc (.t rfl) (.i rfl) rfl rfl) <| u (mv (.t rfl)) <| gd rfl rfl (fun hB => fa ff25_3 (.t rfl)) <| gd rfl rfl (fun hB => ld tf23 (.m rfl hB) rfl rfl) <| gd rfl rfl (fun hB => lnm sf23 (.m rfl hB)) <| gd rfl rfl (fun hB => bc (.m rfl hB) (.i rfl) rfl rfl) <| u (pko (.t rfl) (.t rfl)) <| u (mv (.t rfl)) <| gd rfl rfl (fun hB => mv (.t rfl)) <| gd rfl rfl (fun hB => lnm sf26 (.m rfl hB)) <| gd rfl rfl (fun hB => bc (.m rfl hB) (.i rfl) rfl rfl) <| u (pko (.t rfl) (.t rfl)) <| .nil _) rfl ?_
  refine .bq h (.t rfl) (fun h => ?_) (fun h => ?_)
  · refine .sq ?_
    refine .rg (u (asg .b) <| .nil _) rfl ?_
    obtain rfl := Option.some.inj h
    exact .rt Try.func4 (.t rfl <| .n) .n rfl rfl
  · refine .skp ?_
    refine .sq ?_
    refine be h fun x1 hx1 h => ?_
    refine .rg (u (ld tf25 (.t rfl) rfl rfl) <| cnf 39000 cf8 (arrive_Write_c hx1) (.c (.t rfl) <| .n) rfl rfl rfl <| u (mv (.t rfl)) <| u (ex (.t rfl) rfl rfl) <| u (ex (.t rfl) rfl rfl) <| u (asg (.t rfl)) <| u (asg (.t rfl)) <| .nil _) rfl ?_
    refine .sq ?_
    refine be h fun x2 hx2 h => ?_
    refine .rg (u (ld tf25 (.t rfl) rfl rfl) <| cnf 44000 cf8 (arrive_Write_c hx2) (.c (.t rfl) <| .n) rfl rfl rfl <| u (mv (.t rfl)) <| u (ex (.t rfl) rfl rfl) <| u (ex (.t rfl) rfl rfl) <| u (asg (.t rfl)) <| u (asg (.t rfl)) <| .nil _) rfl ?_
    refine .sq ?_
    refine .sq ?_
    refine .rg (u (mv (.t rfl)) <| u (bc (.t rfl) (.i rfl) rfl rfl) <| .nil _) rfl ?_
    refine .jq (t := some r) (fun (a : Unit) => ⟨[(2, .ro (.list 1 (List.map e8 b)))], []⟩) (fun (a : Unit) => law19_ArriveBack_j1 z b) ?_ (fun J1 => ?_)
    · intro _ h
      replace h : law19_ArriveBack_j1 z b = _ := h
      unfold law19_ArriveBack_j1 at h
      refine .sq ?_
      refine be h fun x3 hx3 h => ?_
      refine .rg (u (mv (.t rfl)) <| cl [] cf10 (arrive_Read_c hx3) (.c (.t rfl) <| .n) (.inl rfl) <| u (mv (.t rfl)) <| u (ex (.t rfl) rfl rfl) <| u (ex (.t rfl) rfl rfl) <| al 13 zf25 rfl <| st tf25 (.t rfl) rfl (.t rfl) rfl rfl rfl <| u (asg (.t rfl)) <| .nil _) rfl ?_
      refine .sq ?_
      refine .sq ?_
      refine .rg (u (mv (.t rfl)) <| u (bc (.t rfl) (.i rfl) rfl rfl) <| .nil _) rfl ?_
      refine .bq h (.t rfl) (fun h => ?_) (fun h => ?_)
      · refine .sq ?_
        refine be h fun x4 hx4 h => ?_
        refine be h fun x5 hx5 h => ?_
        refine .rg (u (ld tf25 (.t rfl) rfl rfl) <| u (bd bf25 zf25 (.n) rfl) <| cl [] cf15 (ref19_Same_c hx4) (.c (.t rfl) <| .c (.t rfl) <| .n) (.inl rfl) <| u (mv (.t rfl)) <| gd rfl rfl (fun hB => mv (.t rfl)) <| cg rfl rfl cf16 (fun hB => (arrive_Canon_c (gTt hx5 hB))) (fun hB => .c (.m rfl hB) <| .n) (.inl rfl) <| gd rfl rfl (fun hB => no (.m rfl hB)) <| u (pka (.t rfl) (.t rfl)) <| u (asg (.t rfl)) <| .nil _) rfl ?_
        obtain rfl := Option.some.inj h
        exact .rt Try.func4 (.t rfl <| .n) .n rfl rfl
      · refine .skp ?_
        refine .sq ?_
        refine be h fun x6 hx6 h => ?_
        refine .rg (u (ld tf25 (.t rfl) rfl rfl) <| cnf 105000 cf8 (arrive_Write_c hx6) (.c (.t rfl) <| .n) rfl rfl rfl <| u (mv (.t rfl)) <| u (ex (.t rfl) rfl rfl) <| u (ex (.t rfl) rfl rfl) <| u (asg (.t rfl)) <| u (asg (.t rfl)) <| .nil _) rfl ?_
        refine .sq ?_
        refine .fz 105000 rfl ?_
        refine be h fun x7 hx7 h => ?_
        refine .rg (u (mv (.t rfl)) <| cl [] cf10 (arrive_Read_c hx7) (.c (.t rfl) <| .n) (.inl rfl) <| u (mv (.t rfl)) <| u (ex (.t rfl) rfl rfl) <| u (ex (.t rfl) rfl rfl) <| al 17 zf25 rfl <| st tf25 (.t rfl) rfl (.t rfl) rfl rfl rfl <| u (asg (.t rfl)) <| .nil _) rfl ?_
        refine .sq ?_
        refine be h fun x8 hx8 h => ?_
        refine be h fun x9 hx9 h => ?_
        refine be h fun x10 hx10 h => ?_
        refine .rd mixed (u (mv (.t rfl)) <| u (bc (.t rfl) (.i rfl) rfl rfl) <| u (mv (.t rfl)) <| gd rfl rfl (fun hB => mv (.t rfl)) <| gd rfl rfl (fun hB => bc (.m rfl hB) (.i rfl) rfl rfl) <| u (pka (.t rfl) (.t rfl)) <| u (mv (.t rfl)) <| gd rfl rfl (fun hB => ld tf25 (.t rfl) rfl rfl) <| cg rfl rfl cf14 (fun hB => (arrive_Right_c (gTt hx8 hB))) (fun hB => .c (.m rfl hB) <| .n) (.inl rfl) <| u (pka (.t rfl) (.t rfl)) <| u (mv (.t rfl)) <| gd rfl rfl (fun hB => ld tf25 (.t rfl) rfl rfl) <| gd rfl rfl (fun hB => ld tf25 (.t rfl) rfl rfl) <| cg rfl rfl cf15 (fun hB => (ref19_Same_c (gTt hx9 hB))) (fun hB => .c (.m rfl hB) <| .c (.m rfl hB) <| .n) (.inl rfl) <| u (pka (.t rfl) (.t rfl)) <| u (mv (.t rfl)) <| gd rfl rfl (fun hB => mv (.t rfl)) <| cg rfl rfl cf16 (fun hB => (arrive_Canon_c (gTt hx10 hB))) (fun hB => .c (.m rfl hB) <| .n) (.inl rfl) <| gd rfl rfl (fun hB => mv (.t rfl)) <| gd rfl rfl (fun hB => bt bt26_9 (.m rfl hB)) <| gd rfl rfl (fun hB => mv (.t rfl)) <| gd rfl rfl (fun hB => bt bt26_9 (.m rfl hB)) <| gd rfl rfl (fun hB => sq (.m rfl hB) (.m rfl hB) rfl rfl) <| gd rfl rfl (fun hB => be2 ub4 (.m rfl hB) (.m rfl hB) rfl) <| u (pka (.t rfl) (.t rfl)) <| u (asg (.t rfl)) <| .nil _) (by kernel_rfl) rfl ?_
        obtain rfl := Option.some.inj h
        exact .rt Try.func4 (.t rfl <| .n) .n rfl rfl
    refine .bq h (.t rfl) (fun h => ?_) (fun h => ?_)
    · refine .sq ?_
      refine .fz 39000 rfl ?_
      refine be h fun x11 hx11 h => ?_
      refine .rg (u (mv (.t rfl)) <| cl [] cf10 (arrive_Read_c hx11) (.c (.t rfl) <| .n) (.inl rfl) <| u (mv (.t rfl)) <| u (ex (.t rfl) rfl rfl) <| u (ex (.t rfl) rfl rfl) <| al 11 zf25 rfl <| st tf25 (.t rfl) rfl (.t rfl) rfl rfl rfl <| u (asg (.t rfl)) <| .nil _) rfl ?_
      refine .sq ?_
      refine be h fun x12 hx12 h => ?_
      refine be h fun x13 hx13 h => ?_
      refine be h fun x14 hx14 h => ?_
      refine .rd mixed (u (mv (.t rfl)) <| u (bc (.t rfl) (.i rfl) rfl rfl) <| u (mv (.t rfl)) <| gd rfl rfl (fun hB => ld tf25 (.t rfl) rfl rfl) <| gd rfl rfl (fun hB => ld tf25 (.t rfl) rfl rfl) <| cg rfl rfl cf15 (fun hB => (ref19_Same_c (gTt hx12 (nt hB)))) (fun hB => .c (.m rfl hB) <| .c (.m rfl hB) <| .n) (.inl rfl) <| gd rfl rfl (fun hB => no (.m rfl hB)) <| u (pko (.t rfl) (.t rfl)) <| u (mv (.t rfl)) <| gd rfl rfl (fun hB => mv (.t rfl)) <| cg rfl rfl cf16 (fun hB => (arrive_Canon_c (gTt hx13 (nt hB)))) (fun hB => .c (.m rfl hB) <| .n) (.inl rfl) <| gd rfl rfl (fun hB => no (.m rfl hB)) <| u (pko (.t rfl) (.t rfl)) <| u (mv (.t rfl)) <| gd rfl rfl (fun hB => mv (.t rfl)) <| gd rfl rfl (fun hB => lnm sf26 (.m rfl hB)) <| gd rfl rfl (fun hB => di (.m rfl hB) (.i rfl) rfl (by decide)) <| gd rfl rfl (fun hB => bc (.m rfl hB) (.i rfl) rfl rfl) <| u (pko (.t rfl) (.t rfl)) <| u (mv (.t rfl)) <| gd rfl rfl (fun hB => mv (.t rfl)) <| gd rfl rfl (fun hB => bc (.m rfl hB) (.i rfl) rfl rfl) <| gd rfl rfl (fun hB => mv (.m rfl hB)) <| gm rfl rfl (fun hB => mv (.t rfl)) <| gm rfl rfl (fun hB => bt bt26_9 (.m rfl hB)) <| gm rfl rfl (fun hB => mv (.t rfl)) <| gm rfl rfl (fun hB => bto bt26_9 (.m rfl hB) rfl) <| gm rfl rfl (fun hB => sq (.m rfl hB) (.m rfl hB) rfl rfl) <| gm rfl rfl (fun hB => ld tf25 (.t rfl) rfl rfl) <| gm rfl rfl (fun hB => ld tf25 (.t rfl) rfl rfl) <| cgm rfl rfl cf15 (fun hB => (ref19_Same_c (gTt hx14 (an2 (nt hB.1) hB.2)))) (fun hB => .c (.m rfl hB) <| .c (.m rfl hB) <| .n) (.inl rfl) <| gm rfl rfl (fun hB => be2 ub4 (.m rfl hB) (.m rfl hB) rfl) <| gd rfl rfl (fun hB => pkam (.m rfl hB) (.t rfl) hB) <| u (pko (.t rfl) (.t rfl)) <| .nil _) (by kernel_rfl) rfl ?_
      refine .bq h (.t rfl) (fun h => ?_) (fun h => ?_)
      · refine .sq ?_
        refine .rg (u (asg .b) <| .nil _) rfl ?_
        obtain rfl := Option.some.inj h
        exact .rt Try.func4 (.t rfl <| .n) .n rfl rfl
      · refine .skp ?_
        exact .kq (J1 () h) (.c rfl .n) .n
    · refine .skp ?_
      exact .kq (J1 () h) (.c rfl .n) .n

theorem law19_ArriveWhen_c {z : Option Nat} {p_a : Arrive} {cut : Int} {r : Bool} (h : law19_ArriveWhen z p_a cut = some r) :
    AC Try.prog 5 [.ro (enc_Arrive p_a), .ro (.int .u16 cut)] (.ro (.bool r)) [] := by
  refine AC.of Try.func5 rfl rfl fun w M0 hM => ?_
  unfold law19_ArriveWhen at h
  refine .sq ?_
  refine .rg (bx 2 (.t rfl) rfl rfl <| u (asg .b) <| .nil _) rfl ?_
  refine .sq ?_
  refine .sq ?_
  refine .rg (cl [] cf6 law19_awake_k (.n) (.inl rfl) <| u (no (.t rfl)) <| .nil _) rfl ?_
  refine .cf (.t rfl) rfl ?_
  refine .skp ?_
  refine .sq ?_
  refine .sq ?_
  refine be h fun x1 hx1 h => ?_
  refine .rg (u (fa ff25_3 (.t rfl)) <| u (ld tf23 (.t rfl) rfl rfl) <| u (lnm sf23 (.t rfl)) <| u (bc (.t rfl) (.i rfl) rfl rfl) <| u (mv (.t rfl)) <| gd rfl rfl (fun hB => ld tf25 (.t rfl) rfl rfl) <| cg rfl rfl cf14 (fun hB => (arrive_Right_c (gTt hx1 (nt hB)))) (fun hB => .c (.m rfl hB) <| .n) (.inl rfl) <| gd rfl rfl (fun hB => no (.m rfl hB)) <| u (pko (.t rfl) (.t rfl)) <| .nil _) rfl ?_
  refine .bq h (.t rfl) (fun h => ?_) (fun h => ?_)
  · refine .sq ?_
    refine .rg (u (asg .b) <| .nil _) rfl ?_
    obtain rfl := Option.some.inj h
    exact .rt Try.func5 (.t rfl <| .n) .n rfl rfl
  · refine .skp ?_
    refine .sq ?_
    refine .rg (u (fa ff25_1 (.t rfl)) <| u (ld tf3 (.t rfl) rfl rfl) <| u (bi (.i rfl) (.t rfl) rfl) <| u (asg (.t rfl)) <| .nil _) rfl ?_
    refine .sq ?_
    refine .sq ?_
    refine .rg (u (asg (.i rfl)) <| .nil _) rfl ?_
    refine .bl ?_
    unfold law19_ArriveWhen_l1 at h
    refine .kq (.lo (fun (s : Int × Int) => ⟨[(1, .ro (.int .u16 cut)), (2, .ptr 2 0), (5, .ro (.int .i64 s.1)), (6, .ro (.int .i64 s.2))], [(2, some (.box [.ro (.int .u16 p_a.base), .ro (.int .i64 p_a.time), .ro (.int .u8 p_a.count), .ro (.list 2 (List.map cells_Seen p_a.seen))]))]⟩) h ?_) (.c rfl (.c rfl (.c rfl (.c rfl .n)))) (.c rfl .n)
    rintro ⟨v2, v3⟩ u1 h ih1 hx1
    replace h : law19_ArriveWhen_s1 z p_a cut v2 v3 = _ := h
    unfold law19_ArriveWhen_s1 at h
    refine .sq ?_
    refine .sq ?_
    refine .rg (u (mv (.t rfl)) <| u (fa ff25_3 (.t rfl)) <| u (ld tf23 (.t rfl) rfl rfl) <| u (lnm sf23 (.t rfl)) <| u (bc (.t rfl) (.t rfl) rfl rfl) <| u (mv (.t rfl)) <| gd rfl rfl (fun hB => mv (.t rfl)) <| gd rfl rfl (fun hB => bc (.m rfl hB) (.i rfl) rfl rfl) <| u (pka (.t rfl) (.t rfl)) <| .nil _) rfl ?_
    refine .bq h (.t rfl) (fun h => ?_) (fun h => ?_)
    · refine .skp ?_
      refine .sq ?_
      refine .jq (t := some u1) (fun (a : Int) => ⟨[(1, .ro (.int .u16 cut)), (2, .ptr 2 0), (5, .ro (.int .i64 a)), (6, .ro (.int .i64 v3))], [(2, some (.box [.ro (.int .u16 p_a.base), .ro (.int .i64 p_a.time), .ro (.int .u8 p_a.count), .ro (.list 2 (List.map cells_Seen p_a.seen))]))]⟩) (fun (a : Int) => law19_ArriveWhen_j2 z v3 a) ?_ (fun J2 => ?_)
      · intro v4 h
        replace h : law19_ArriveWhen_j2 z v3 v4 = _ := h
        unfold law19_ArriveWhen_j2 at h
        refine .rg (u (mv (.t rfl)) <| u (bi (.t rfl) (.i rfl) rfl) <| u (asg (.t rfl)) <| .nil _) rfl ?_
        exact .kq (.il (ih1 (v4, (ar .add .i64 v3 1)) (nxi h))) (.c rfl (.c rfl (.c rfl (.c rfl .n)))) (.c rfl .n)
      refine .bl ?_
      refine .sq ?_
      refine be h fun x5 hx5 h => ?_
      refine .rg (u (ld tf25 (.t rfl) rfl rfl) <| u (mv (.t rfl)) <| cl [] cf12 (arrive_When_c hx5) (.c (.t rfl) <| .c (.t rfl) <| .n) (.inl rfl) <| u (mv (.t rfl)) <| u (ex (.t rfl) rfl rfl) <| u (ex (.t rfl) rfl rfl) <| u (asg (.t rfl)) <| u (asg (.t rfl)) <| .nil _) rfl ?_
      refine .sq ?_
      refine .sq ?_
      refine be h fun x6 hx6 h => ?_
      refine .rg (u (fa ff25_3 (.t rfl)) <| u (ld tf23 (.t rfl) rfl rfl) <| u (mv (.t rfl)) <| u (ia sf23 (.t rfl) (.t rfl) (ix_map cells_Seen hx6)) <| u (fr ff46_0 (.t rfl) rfl) <| u (lr tf3 (.t rfl) rfl) <| u (bc (.t rfl) (.i rfl) rfl rfl) <| .nil _) rfl ?_
      refine .bq h (.t rfl) (fun h => ?_) (fun h => ?_)
      · refine .sq ?_
        refine .sq ?_
        refine .rg (u (mv (.t rfl)) <| u (bc (.t rfl) (.i rfl) rfl rfl) <| u (mv (.t rfl)) <| gd rfl rfl (fun hB => mv (.t rfl)) <| gd rfl rfl (fun hB => bc (.m rfl hB) (.i rfl) rfl rfl) <| u (pko (.t rfl) (.t rfl)) <| .nil _) rfl ?_
        refine .bq h (.t rfl) (fun h => ?_) (fun h => ?_)
        · refine .sq ?_
          refine .rg (u (asg .b) <| .nil _) rfl ?_
          replace h := mpR h hx1
          obtain rfl := Option.some.inj h
          exact .rt Try.func5 (.t rfl <| .n) .n rfl rfl
        · refine .skp ?_
          refine .xt rfl ?_
          exact .kq (J2 v2 h) (.c rfl (.c rfl (.c rfl (.c rfl .n)))) (.c rfl .n)
      · refine .skp ?_
        refine .sq ?_
        refine .sq ?_
        refine be h fun x7 hx7 h => ?_
        refine .rg (u (mv (.t rfl)) <| u (bc (.t rfl) (.i rfl) rfl rfl) <| u (mv (.t rfl)) <| gd rfl rfl (fun hB => mv (.t rfl)) <| gd rfl rfl (fun hB => mv (.t rfl)) <| gd rfl rfl (fun hB => fa ff25_3 (.t rfl)) <| gd rfl rfl (fun hB => ld tf23 (.m rfl hB) rfl rfl) <| gd rfl rfl (fun hB => mv (.t rfl)) <| gd rfl rfl (fun hB => ia sf23 (.m rfl hB) (.m rfl hB) (ix_map cells_Seen (gTt hx7 (nt hB)))) <| gd rfl rfl (fun hB => fr ff46_1 (.m rfl hB) rfl) <| gd rfl rfl (fun hB => lr tf3 (.m rfl hB) rfl) <| gd rfl rfl (fun hB => bi (.m rfl hB) (.m rfl hB) rfl) <| gd rfl rfl (fun hB => bc (.m rfl hB) (.m rfl hB) rfl rfl) <| u (pko (.t rfl) (.t rfl)) <| .nil _) rfl ?_
        refine .bq h (.t rfl) (fun h => ?_) (fun h => ?_)
        · refine .sq ?_
          refine .rg (u (asg .b) <| .nil _) rfl ?_
          replace h := mpR h hx1
          obtain rfl := Option.some.inj h
          exact .rt Try.func5 (.t rfl <| .n) .n rfl rfl
        · refine .skp ?_
          refine .rg (u (mv (.t rfl)) <| u (asg (.t rfl)) <| .nil _) rfl ?_
          refine .ib ?_
          exact .kq (J2 x5.1 h) (.c rfl (.c rfl (.c rfl (.c rfl .n)))) (.c rfl .n)
    · refine .xt rfl ?_
      replace h := mpR h hx1
      refine .sq ?_
      refine be h fun x8 hx8 h => ?_
      refine .rg (u (mv (.t rfl)) <| u (cv cv22_3 (.t rfl)) <| u (fa ff25_3 (.t rfl)) <| u (ld tf23 (.t rfl) rfl rfl) <| u (lnm sf23 (.t rfl)) <| u (bi (.t rfl) (.i rfl) rfl) <| u (dio (.t rfl) (.t rfl) rfl hx8) <| u (asg (.t rfl)) <| .nil _) rfl ?_
      refine .sq ?_
      refine .rg (u (ld tf25 (.t rfl) rfl rfl) <| al 10 zf25 rfl <| st tf25 (.t rfl) rfl (.t rfl) rfl rfl rfl <| .nil _) rfl ?_
      refine .sq ?_
      refine be h fun x9 hx9 h => ?_
      refine .rg (u (fa ff25_3 (.t rfl)) <| u (ld tf23 (.t rfl) rfl rfl) <| u (mv (.t rfl)) <| u (sl sf23 (.t rfl) .n (.s (.t rfl)) hx9) <| u (fa ff25_3 (.t rfl)) <| st tf23 (.t rfl) rfl (.t rfl) rfl rfl rfl <| .nil _) rfl ?_
      refine .sq ?_
      refine be h fun x10 hx10 h => ?_
      refine .rg (u (ld tf25 (.t rfl) rfl rfl) <| u (mv (.t rfl)) <| u (bi (.t rfl) (.i rfl) rfl) <| cl [] cf12 (arrive_When_c hx10) (.c (.t rfl) <| .c (.t rfl) <| .n) (.inl rfl) <| u (mv (.t rfl)) <| u (ex (.t rfl) rfl rfl) <| u (ex (.t rfl) rfl rfl) <| u (asg (.t rfl)) <| u (asg (.t rfl)) <| .nil _) rfl ?_
      refine .sq ?_
      refine be h fun x11 hx11 h => ?_
      refine .rg (u (ld tf25 (.t rfl) rfl rfl) <| u (mv (.t rfl)) <| u (bi (.t rfl) (.i rfl) rfl) <| cl [] cf12 (arrive_When_c hx11) (.c (.t rfl) <| .c (.t rfl) <| .n) (.inl rfl) <| u (mv (.t rfl)) <| u (ex (.t rfl) rfl rfl) <| u (ex (.t rfl) rfl rfl) <| u (asg (.t rfl)) <| u (asg (.t rfl)) <| .nil _) rfl ?_
      refine .sq ?_
      refine .rg (u (mv (.t rfl)) <| u (mv (.t rfl)) <| u (bc (.t rfl) (.t rfl) rfl rfl) <| u (mv (.t rfl)) <| gd rfl rfl (fun hB => mv (.t rfl)) <| gd rfl rfl (fun hB => mv (.t rfl)) <| gd rfl rfl (fun hB => bc (.m rfl hB) (.m rfl hB) rfl rfl) <| u (pka (.t rfl) (.t rfl)) <| u (mv (.t rfl)) <| gd rfl rfl (fun hB => mv (.t rfl)) <| gd rfl rfl (fun hB => bc (.m rfl hB) (.i rfl) rfl rfl) <| gd rfl rfl (fun hB => mv (.m rfl hB)) <| gm rfl rfl (fun hB => mv (.t rfl)) <| gm rfl rfl (fun hB => bc (.m rfl hB) (.i rfl) rfl rfl) <| gd rfl rfl (fun hB => pkom (.m rfl hB) (.t rfl) hB) <| u (pka (.t rfl) (.t rfl)) <| u (asg (.t rfl)) <| .nil _) rfl ?_
      obtain rfl := Option.some.inj h
      exact .rt Try.func5 (.t rfl <| .n) .n rfl rfl

end Xb
