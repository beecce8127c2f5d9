/- Own text: SWalksA. -/
import Derived.Test.YtpehlandaemcmaaGreatSFacts
import Derived.Test.YtpehlandaemcmaaGreatSRaw
import Derived.Test.YtpehlandaemcmaaGreatSIter
set_option linter.all false
set_option linter.unusedVariables false
set_option linter.unusedSimpArgs false
set_option linter.unnecessarySimpa false
set_option linter.deprecated false
namespace Xb
open Go Go.Proofs
set_option linter.unusedVariables false
set_option maxRecDepth 20000

theorem feed_messageOf_c (f : Feed) :
    AC Tryz.prog 43 [.ro (enc_Feed f)] (.ro (enc_I_feed_message (feed_messageOf f))) [] := by
  obtain ⟨r, h⟩ : ∃ r, feed_messageOf f = r := ⟨_, rfl⟩
  rw [h]
  refine AC.of Tryz.func43 rfl rfl fun w M0 hM => ?_
  unfold feed_messageOf at h
  refine .sq ?_
  refine .rg (bx 1 (.t rfl) rfl rfl <| u (asg (.r rfl)) <| .nil _) rfl ?_
  refine .sq ?_
  refine .sq ?_
  refine .rg (u (fa ff33_0 (.t rfl)) <| u (ld tf3 (.t rfl) rfl rfl) <| .nil _) rfl ?_
  refine .bl ?_
  refine .sq ?_
  refine .rg (u (bc (.t rfl) (.i rfl) rfl rfl) <| u (asg (.t rfl)) <| .nil _) rfl ?_
  refine .bq h (.t rfl) (fun h => ?_) (fun h => ?_)
  · refine .sq ?_
    refine .rg (u (fa ff33_3 (.t rfl)) <| u (ld tf23 (.t rfl) rfl rfl) <| u (mki pc107 (.t rfl)) <| u (asg (.t rfl)) <| .nil _) rfl ?_
    subst h
    exact .rt Tryz.func43 (.t rfl <| .n) .n rfl rfl
  · refine .sq ?_
    refine .rg (u (bc (.t rfl) (.i rfl) rfl rfl) <| u (asg (.t rfl)) <| .nil _) rfl ?_
    refine .bq h (.t rfl) (fun h => ?_) (fun h => ?_)
    · refine .sq ?_
      refine .rg (u (fa ff33_4 (.t rfl)) <| u (ld tf27 (.t rfl) rfl rfl) <| u (bd bf111 zf111 (.c rfl (.t rfl) rfl rfl rfl <| .n) rfl) <| u (mki pc111 (.t rfl)) <| u (asg (.t rfl)) <| .nil _) rfl ?_
      subst h
      exact .rt Tryz.func43 (.t rfl <| .n) .n rfl rfl
    · refine .sq ?_
      refine .rg (u (bc (.t rfl) (.i rfl) rfl rfl) <| u (asg (.t rfl)) <| .nil _) rfl ?_
      refine .bq h (.t rfl) (fun h => ?_) (fun h => ?_)
      · refine .sq ?_
        refine .rg (u (bd bf120 zf120 (.n) rfl) <| u (mki pc120 (.t rfl)) <| u (asg (.t rfl)) <| .nil _) rfl ?_
        subst h
        exact .rt Tryz.func43 (.t rfl <| .n) .n rfl rfl
      · refine .sq ?_
        refine .rg (u (bc (.t rfl) (.i rfl) rfl rfl) <| u (asg (.t rfl)) <| .nil _) rfl ?_
        refine .bq h (.t rfl) (fun h => ?_) (fun h => ?_)
        · refine .sq ?_
          refine .rg (u (fa ff33_5 (.t rfl)) <| u (ld tf28 (.t rfl) rfl rfl) <| u (mki pc114 (.t rfl)) <| u (asg (.t rfl)) <| .nil _) rfl ?_
          subst h
          exact .rt Tryz.func43 (.t rfl <| .n) .n rfl rfl
        · refine .sq ?_
          refine .rg (u (bc (.t rfl) (.i rfl) rfl rfl) <| u (asg (.t rfl)) <| .nil _) rfl ?_
          refine .bq h (.t rfl) (fun h => ?_) (fun h => ?_)
          · refine .sq ?_
            refine .rg (u (fa ff33_6 (.t rfl)) <| u (ld tf31 (.t rfl) rfl rfl) <| u (bd bf118 zf118 (.c rfl (.t rfl) rfl rfl rfl <| .n) rfl) <| u (mki pc118 (.t rfl)) <| u (asg (.t rfl)) <| .nil _) rfl ?_
            subst h
            exact .rt Tryz.func43 (.t rfl <| .n) .n rfl rfl
          · refine .skp ?_
            refine .ib ?_
            refine .sq ?_
            refine .rg (u (asg (.r rfl)) <| .nil _) rfl ?_
            subst h
            exact .rt Tryz.func43 (.t rfl <| .n) .n rfl rfl

theorem feed_noArrive_c (p_a : Arrive) :
    AC Tryz.prog 65 [.ro (enc_Arrive p_a)] (.ro (.bool (feed_noArrive p_a))) [] := by
  obtain ⟨r, h⟩ : ∃ r, feed_noArrive p_a = r := ⟨_, rfl⟩
  rw [h]
  refine AC.of Tryz.func65 rfl rfl fun w M0 hM => ?_
  unfold feed_noArrive at h
  refine .sq ?_
  refine .rg (bx 1 (.t rfl) rfl rfl <| u (asg .b) <| .nil _) rfl ?_
  refine .sq ?_
  refine .rg (u (fa ff27_0 (.t rfl)) <| u (ld tf24 (.t rfl) rfl rfl) <| u (bc (.t rfl) (.i rfl) rfl rfl) <| u (mv (.t rfl)) <| gd rfl rfl (fun hB => fa ff27_1 (.t rfl)) <| gd rfl rfl (fun hB => ld tf3 (.m rfl hB) rfl rfl) <| gd rfl rfl (fun hB => bc (.m rfl hB) (.i rfl) rfl rfl) <| u (pka (.t rfl) (.t rfl)) <| u (mv (.t rfl)) <| gd rfl rfl (fun hB => fa ff27_2 (.t rfl)) <| gd rfl rfl (fun hB => ld tf5 (.m rfl hB) rfl rfl) <| gd rfl rfl (fun hB => bc (.m rfl hB) (.i rfl) rfl rfl) <| u (pka (.t rfl) (.t rfl)) <| u (mv (.t rfl)) <| gd rfl rfl (fun hB => fa ff27_3 (.t rfl)) <| gd rfl rfl (fun hB => ld tf25 (.m rfl hB) rfl rfl) <| gd rfl rfl (fun hB => lnm sf25 (.m rfl hB)) <| gd rfl rfl (fun hB => bc (.m rfl hB) (.i rfl) rfl rfl) <| u (pka (.t rfl) (.t rfl)) <| u (asg (.t rfl)) <| .nil _) rfl ?_
  subst h
  exact .rt Tryz.func65 (.t rfl <| .n) .n rfl rfl

theorem feed_noRate_c (p_r : Rate) :
    AC Tryz.prog 66 [.ro (enc_Rate p_r)] (.ro (.bool (feed_noRate p_r))) [] := by
  obtain ⟨r, h⟩ : ∃ r, feed_noRate p_r = r := ⟨_, rfl⟩
  rw [h]
  refine AC.of Tryz.func66 rfl rfl fun w M0 hM => ?_
  unfold feed_noRate at h
  refine .sq ?_
  refine .rg (bx 1 (.t rfl) rfl rfl <| u (asg .b) <| .nil _) rfl ?_
  refine .sq ?_
  refine .rg (u (fa ff31_0 (.t rfl)) <| u (ld tf3 (.t rfl) rfl rfl) <| u (bc (.t rfl) (.i rfl) rfl rfl) <| u (mv (.t rfl)) <| gd rfl rfl (fun hB => fa ff31_1 (.t rfl)) <| gd rfl rfl (fun hB => ld tf22 (.m rfl hB) rfl rfl) <| gd rfl rfl (fun hB => bc (.m rfl hB) (.i rfl) rfl rfl) <| u (pka (.t rfl) (.t rfl)) <| u (mv (.t rfl)) <| gd rfl rfl (fun hB => fa ff31_2 (.t rfl)) <| gd rfl rfl (fun hB => ld tf29 (.m rfl hB) rfl rfl) <| gd rfl rfl (fun hB => lnm sf29 (.m rfl hB)) <| gd rfl rfl (fun hB => bc (.m rfl hB) (.i rfl) rfl rfl) <| u (pka (.t rfl) (.t rfl)) <| u (asg (.t rfl)) <| .nil _) rfl ?_
  subst h
  exact .rt Tryz.func66 (.t rfl <| .n) .n rfl rfl

theorem feed_idle_c (f : Feed) (m : I_feed_message) :
    AC Tryz.prog 44 [.ro (enc_Feed f), .ro (enc_I_feed_message m)] (.ro (.bool (feed_idle f m))) [] := by
  obtain ⟨r, h⟩ : ∃ r, feed_idle f m = r := ⟨_, rfl⟩
  rw [h]
  refine AC.of Tryz.func44 rfl rfl fun w M0 hM => ?_
  unfold feed_idle at h
  refine .sq ?_
  refine .rg (bx 2 (.t rfl) rfl rfl <| u (asg .b) <| .nil _) rfl ?_
  refine .sq ?_
  refine .sq ?_
  refine .rg (u (mv (.t rfl)) <| .nil _) rfl ?_
  refine .bl ?_
  refine .sq ?_
  refine .rg (u (tas tc107 tz107 (.t rfl) (as107_I_feed_message _)) <| u (ex (.t rfl) rfl rfl) <| u (ex (.t rfl) rfl rfl) <| .nil _) rfl ?_
  refine .jq (t := r) (fun (a : Feed) => ⟨[(2, .ptr 2 0)], [(2, some (.box [.ro (.int .i64 a.kind), .ro (.int .u32 a.from_), .ro (.int .u32 a.of), .ro (.list 2 (List.map cells_Pair a.pairs)), .ro (.int .u16 a.arrive.base), .ro (.int .i64 a.arrive.time), .ro (.int .u8 a.arrive.count), .ro (.list 2 (List.map cells_Seen a.arrive.seen)), .ro (.list 2 (List.map cells_Entry a.entries)), .ro (.int .i64 a.rate.exp), .ro (.int .u32 a.rate.mant), .ro (.list 1 (List.map (ei .u32) a.rate.srcs))]))]⟩) (fun (a : Feed) => feed_idle_j1 a) ?_ (fun J1 => ?_)
  · intro v1 h
    replace h : feed_idle_j1 v1 = _ := h
    unfold feed_idle_j1 at h
    refine .ib ?_
    refine .sq ?_
    refine .rg (u (fa ff33_3 (.t rfl)) <| u (ld tf23 (.t rfl) rfl rfl) <| u (lnm sf23 (.t rfl)) <| u (fa ff33_5 (.t rfl)) <| u (ld tf28 (.t rfl) rfl rfl) <| u (lnm sf28 (.t rfl)) <| u (bi (.t rfl) (.t rfl) rfl) <| u (bc (.t rfl) (.i rfl) rfl rfl) <| u (mv (.t rfl)) <| gd rfl rfl (fun hB => fa ff33_4 (.t rfl)) <| gd rfl rfl (fun hB => ld tf27 (.m rfl hB) rfl rfl) <| cg rfl rfl cf65 (fun hB => (feed_noArrive_c v1.arrive)) (fun hB => .c (.m rfl hB) <| .n) (.inl rfl) <| u (pka (.t rfl) (.t rfl)) <| u (mv (.t rfl)) <| gd rfl rfl (fun hB => fa ff33_6 (.t rfl)) <| gd rfl rfl (fun hB => ld tf31 (.m rfl hB) rfl rfl) <| cg rfl rfl cf66 (fun hB => (feed_noRate_c v1.rate)) (fun hB => .c (.m rfl hB) <| .n) (.inl rfl) <| u (pka (.t rfl) (.t rfl)) <| u (asg (.t rfl)) <| .nil _) rfl ?_
    subst h
    exact .rt Tryz.func44 (.t rfl <| .n) .n rfl rfl
  refine .bq h (.t rfl) (fun h => ?_) (fun h => ?_)
  · refine .rg (u (fa ff33_3 (.t rfl)) <| st tf23 (.t rfl) rfl (.n (sz := 2)) rfl rfl rfl <| .nil _) rfl ?_
    exact .kq (J1 ({ f with pairs := ([] : List Pair) }) h) (.c rfl .n) (.c rfl .n)
  · refine .sq ?_
    refine .rg (u (tas tc111 tz111 (.t rfl) (as111_I_feed_message _)) <| u (ex (.t rfl) rfl rfl) <| u (ex (.t rfl) rfl rfl) <| .nil _) rfl ?_
    refine .bq h (.t rfl) (fun h => ?_) (fun h => ?_)
    · refine .rg (u (bd bf27 zf27 (.n) rfl) <| u (fa ff33_4 (.t rfl)) <| st tf27 (.t rfl) rfl (.t rfl) rfl rfl rfl <| .nil _) rfl ?_
      exact .kq (J1 ({ f with arrive := (Arrive.mk 0 0 0 []) }) h) (.c rfl .n) (.c rfl .n)
    · refine .sq ?_
      refine .rg (u (tas tc114 tz114 (.t rfl) (as114_I_feed_message _)) <| u (ex (.t rfl) rfl rfl) <| u (ex (.t rfl) rfl rfl) <| .nil _) rfl ?_
      refine .bq h (.t rfl) (fun h => ?_) (fun h => ?_)
      · refine .rg (u (fa ff33_5 (.t rfl)) <| st tf28 (.t rfl) rfl (.n (sz := 2)) rfl rfl rfl <| .nil _) rfl ?_
        exact .kq (J1 ({ f with entries := ([] : List Entry) }) h) (.c rfl .n) (.c rfl .n)
      · refine .sq ?_
        refine .rg (u (tas tc118 tz118 (.t rfl) (as118_I_feed_message _)) <| u (ex (.t rfl) rfl rfl) <| u (ex (.t rfl) rfl rfl) <| .nil _) rfl ?_
        refine .bq h (.t rfl) (fun h => ?_) (fun h => ?_)
        · refine .rg (u (bd bf31 zf31 (.n) rfl) <| u (fa ff33_6 (.t rfl)) <| st tf31 (.t rfl) rfl (.t rfl) rfl rfl rfl <| .nil _) rfl ?_
          exact .kq (J1 ({ f with rate := (Rate.mk 0 0 []) }) h) (.c rfl .n) (.c rfl .n)
        · refine .skp ?_
          exact .kq (J1 f h) (.c rfl .n) (.c rfl .n)

theorem octet_sized_c (n : Int) :
    AC Tryz.prog 55 [.ro (.int .i64 n)] (.ro (.bool (octet_sized n))) [] := by
  obtain ⟨r, h⟩ : ∃ r, octet_sized n = r := ⟨_, rfl⟩
  rw [h]
  refine AC.of Tryz.func55 rfl rfl fun w M0 hM => ?_
  unfold octet_sized at h
  refine .sq ?_
  refine .rg (u (asg .b) <| .nil _) rfl ?_
  refine .sq ?_
  refine .rg (u (mv (.t rfl)) <| u (bc (.t rfl) (.i rfl) rfl rfl) <| u (mv (.t rfl)) <| gd rfl rfl (fun hB => mv (.t rfl)) <| gd rfl rfl (fun hB => bc (.m rfl hB) (.i rfl) rfl rfl) <| u (pka (.t rfl) (.t rfl)) <| u (asg (.t rfl)) <| .nil _) rfl ?_
  subst h
  exact .rt Tryz.func55 (.t rfl <| .n) .n rfl rfl

theorem octet_Put_c {v : Int} {n : Int} {r : List Int × Int} (h : octet_Put v n = some r) :
    AC Tryz.prog 45 [.ro (.int .u64 v), .ro (.int .i64 n)] (.tup [.own 0, .ro (.int .i64 r.2)]) [(0, .arr 5 1 (List.map e8 r.1))] := by
  refine AC.of Tryz.func45 rfl rfl fun w M0 hM => ?_
  unfold octet_Put at h
  refine .sq ?_
  refine .rg (bx 2 (.t rfl) rfl rfl <| anm e8 4 5 1 rfl rfl <| u (asg (.i rfl)) <| .nil _) rfl ?_
  refine .sq ?_
  refine .bl ?_
  refine .sq ?_
  refine .rg (u (mv (.t rfl)) <| cl [] cf55 (octet_sized_c n) (.c (.t rfl) <| .n) (.inl rfl) <| u (no (.t rfl)) <| u (asg (.t rfl)) <| .nil _) rfl ?_
  refine .bq h (.t rfl) (fun h => ?_) (fun h => ?_)
  · refine .sq ?_
    refine .rg (anm e8 100004 5 1 rfl rfl <| u (asg (.i rfl)) <| .nil _) rfl ?_
    obtain rfl := Option.some.inj h
    refine .ks (l := [(4, .own 0), (5, .ro (.int .i64 1))]) (o := [(0, some (.arr 5 1 (List.map e8 [])))]) (fun i => bif Nat.beq i 0 then 100004 else i) ?_ (.c rfl (.c rfl .n)) (.c rfl .n) rfl
    exact .rt Tryz.func45 (.t rfl <| .t rfl <| .n) (.c rfl .n) rfl rfl
  · refine .sq ?_
    refine be h fun x1 hx1 h => ?_
    refine .rg (u (mv (.t rfl)) <| u (bc (.t rfl) (.i rfl) rfl rfl) <| u (mv (.t rfl)) <| gd rfl rfl (fun hB => ld tf64 (.t rfl) rfl rfl) <| gd rfl rfl (fun hB => mv (.t rfl)) <| gd rfl rfl (fun hB => bi (.i rfl) (.m rfl hB) rfl) <| gd rfl rfl (fun hB => sho (.m rfl hB) (.m rfl hB) rfl (gTt hx1 hB)) <| gd rfl rfl (fun hB => bc (.m rfl hB) (.i rfl) rfl rfl) <| u (pka (.t rfl) (.t rfl)) <| u (asg (.t rfl)) <| .nil _) rfl ?_
    refine .bq h (.t rfl) (fun h => ?_) (fun h => ?_)
    · refine .sq ?_
      refine .rg (anm e8 100004 5 1 rfl rfl <| u (asg (.i rfl)) <| .nil _) rfl ?_
      obtain rfl := Option.some.inj h
      refine .ks (l := [(4, .own 0), (5, .ro (.int .i64 6))]) (o := [(0, some (.arr 5 1 (List.map e8 [])))]) (fun i => bif Nat.beq i 0 then 100004 else i) ?_ (.c rfl (.c rfl .n)) (.c rfl .n) rfl
      exact .rt Tryz.func45 (.t rfl <| .t rfl <| .n) (.c rfl .n) rfl rfl
    · refine .skp ?_
      refine .ib ?_
      refine .sq ?_
      refine be h fun x2 hx2 h => ?_
      refine .rg (u (mv (.t rfl)) <| mks (F := e8) (z0 := 0) 23 pf34 zf5 (.t rfl) (.t rfl) hx2 rfl <| al 6 zf34_0 rfl <| st tf34 (.t rfl) rfl (.t rfl) rfl rfl rfl <| .nil _) rfl ?_
      refine .sq ?_
      refine .sq ?_
      refine .rg (u (ld tf34 (.t rfl) rfl rfl) <| bwk 25 cf67 back67_in (.t rfl) rfl rfl rfl <| .nil _) rfl ?_
      refine .bl ?_
      refine be h fun x3 hx3 h => ?_
      unfold octet_Put_l1 at h
      refine .kq (.rgb (fun (s : Int × List Int) => ⟨[(2, .ptr 2 0), (6, .ptr 6 0), (25, .fn (.func 79) [] [.ptr 25 0])], [(2, some (.box [.ro (.int .u64 s.1)])), (6, some (.box [.own 23])), (23, some (.arr 5 1 (List.map e8 s.2))), (25, some (.box [.own 23]))]⟩) (fun (s : Int × List Int) => s.2) [2, 6, 25] back79_in cf79 h rfl (Nat.le_trans (lnO_le hx3) (by decide)) (by rintro y1 ⟨v4, v5⟩ s2 h; replace h : octet_Put_s1 y1 v4 v5 = _ := h; unfold octet_Put_s1 at h; refine be h fun _ _ h => ?_; cases h; simp) (fun _ => rfl) (fun _ => rfl) (fun _ => rfl) (fun _ => rfl) rfl ⟨rfl, rfl⟩ ?_ ?_) (.c rfl (.c rfl (.c rfl .n))) (.c rfl (.c rfl (.c rfl (.c rfl .n))))
      · rintro D1 l1 r1 pv1 R1 y1 ⟨v4, v5⟩ u1 h hin ih1 hx1 jr1 jx1 bg1
        replace h : octet_Put_s1 y1 v4 v5 = _ := h
        unfold octet_Put_s1 at h
        refine .rg (u (asg (.t rfl)) <| .nil _) rfl ?_
        refine bg1 _ _ ?_
        refine .bl ?_
        refine .sq ?_
        refine be h fun x6 hx6 h => ?_
        refine .rg (u (ld tf34 (.t rfl) rfl rfl) <| u (mv (.t rfl)) <| u (ld tf64 (.t rfl) rfl rfl) <| u (cv cv64_5 (.t rfl)) <| u (io sf34 (.t rfl) rfl (.t rfl) (ix_map e8 hx6)) <| se (q := (IntKind.u8.wrap v4)) tf5 (.t rfl) rfl (.t rfl) rfl rfl rfl (ixn hx6) <| .nil _) rfl ?_
        refine .rg (u (ld tf64 (.t rfl) rfl rfl) <| u (sh (.t rfl) (.i rfl) rfl (by decide)) <| st tf64 (.t rfl) rfl (.t rfl) rfl rfl rfl <| .nil _) rfl ?_
        refine .ib ?_
        exact .kq (ih1 ((sf .shr .u64 v4 8), (List.set v5 ((y1 : Int) : Int).toNat (IntKind.u8.wrap v4))) (nxi h)) (.c rfl (.c rfl (.c rfl .n))) (.c rfl (.c rfl (.c rfl (.c rfl .n))))
      · rintro D1 ⟨v4, v5⟩ h
        replace h : octet_Put_d1 v4 v5 = _ := h
        unfold octet_Put_d1 at h
        refine .ib ?_
        refine .sq ?_
        refine .rg (u (ld tf34 (.t rfl) rfl rfl) <| u (asg (.t rfl)) <| u (asg (.i rfl)) <| .nil _) rfl ?_
        obtain rfl := Option.some.inj h
        refine .ks (l := [(4, .own 0), (5, .ro (.int .i64 0))]) (o := [(0, some (.arr 5 1 (List.map e8 v5)))]) (fun i => bif Nat.beq i 0 then 23 else i) ?_ (.c rfl (.c rfl .n)) (.c rfl .n) rfl
        exact .rt Tryz.func45 (.t rfl <| .t rfl <| .n) (.c rfl .n) rfl rfl

theorem octet_Put_r {v : Int} {n : Int} {r : List Int × Int} (h : octet_Put v n = some r) :
    AC Tryz.prog 45 [.ro (.int .u64 v), .ro (.int .i64 n)] (.ro (.tup [.list 1 (List.map e8 r.1), .int .i64 r.2])) [] := AC.fz (octet_Put_c h) rfl

theorem nack_Write_c {z : Option Nat} {l : List Pair} {r : List Int × Int} (h : nack_Write z l = some r) :
    AC Tryz.prog 121 [.ro (.list 2 (List.map cells_Pair l))] (.tup [.own 0, .ro (.int .i64 r.2)]) [(0, .arr 5 1 (List.map e8 r.1))] := by
  refine AC.of Tryz.func121 rfl rfl fun w M0 hM => ?_
  unfold nack_Write at h
  refine .sq ?_
  refine .rg (anm e8 2 5 1 rfl rfl <| u (asg (.i rfl)) <| .nil _) rfl ?_
  refine .sq ?_
  refine .sq ?_
  refine .rg (u (mv (.t rfl)) <| u (lnm sf23 (.t rfl)) <| u (bc (.t rfl) (.i rfl) rfl rfl) <| u (mv (.t rfl)) <| gd rfl rfl (fun hB => mv (.t rfl)) <| gd rfl rfl (fun hB => lnm sf23 (.m rfl hB)) <| gd rfl rfl (fun hB => bc (.m rfl hB) (.i rfl) rfl rfl) <| u (pko (.t rfl) (.t rfl)) <| .nil _) rfl ?_
  refine .bq h (.t rfl) (fun h => ?_) (fun h => ?_)
  · refine .sq ?_
    refine .rg (anm e8 100002 5 1 rfl rfl <| u (asg (.i rfl)) <| .nil _) rfl ?_
    obtain rfl := Option.some.inj h
    refine .ks (l := [(2, .own 0), (3, .ro (.int .i64 1))]) (o := [(0, some (.arr 5 1 (List.map e8 [])))]) (fun i => bif Nat.beq i 0 then 100002 else i) ?_ (.c rfl (.c rfl .n)) (.c rfl .n) rfl
    exact .rt Tryz.func121 (.t rfl <| .t rfl <| .n) (.c rfl .n) rfl rfl
  · refine .skp ?_
    refine .sq ?_
    refine .rg (anm e8 4 5 1 rfl rfl <| .nil _) rfl ?_
    refine .sq ?_
    refine .sq ?_
    refine .rg (u (mv (.t rfl)) <| u (lnm sf23 (.t rfl)) <| u (mv (.i rfl)) <| .nil _) rfl ?_
    refine .bl ?_
    unfold nack_Write_l1 at h
    refine .kq (.lo (fun (s : List Int × Int) => ⟨[(4, .own 4), (17, .ro (.list 2 (List.map cells_Pair l))), (18, .ro (.int .i64 (l.length : Int))), (19, .ro (.int .i64 s.2))], [(4, some (.arr 5 1 (List.map e8 s.1)))]⟩) h ?_) (.c rfl (.c rfl (.c rfl (.c rfl .n)))) (.c rfl .n)
    rintro ⟨v1, v2⟩ u1 h ih1 hx1
    replace h : nack_Write_s1 z l v1 v2 = _ := h
    unfold nack_Write_s1 at h
    refine .sq ?_
    refine .rg (u (bc (.t rfl) (.t rfl) rfl rfl) <| .nil _) rfl ?_
    refine .sq ?_
    refine .bq h (.t rfl) (fun h => ?_) (fun h => ?_)
    · refine .skp ?_
      refine .sq ?_
      refine .bl ?_
      refine .sq ?_
      refine be h fun x3 hx3 h => ?_
      refine .rg (u (ia sf23 (.t rfl) (.t rfl) (ix_map cells_Pair hx3)) <| u (lr tf55 (.t rfl) rfl) <| al 6 zf55 rfl <| st tf55 (.t rfl) rfl (.t rfl) rfl rfl rfl <| .nil _) rfl ?_
      refine .sq ?_
      refine be h fun x4 hx4 h => ?_
      refine .rg (u (fa ff55_0 (.t rfl)) <| u (ld tf24 (.t rfl) rfl rfl) <| u (cv cv24_64 (.t rfl)) <| u (sh (.t rfl) (.i rfl) rfl (by decide)) <| u (fa ff55_1 (.t rfl)) <| u (ld tf24 (.t rfl) rfl rfl) <| u (cv cv24_64 (.t rfl)) <| u (bi (.t rfl) (.t rfl) rfl) <| cnf 33000 cf45 (octet_Put_c hx4) (.c (.t rfl) <| .c (.i rfl) <| .n) rfl rfl rfl <| u (mv (.t rfl)) <| u (ex (.t rfl) rfl rfl) <| u (ex (.t rfl) rfl rfl) <| u (asg (.t rfl)) <| u (asg (.t rfl)) <| .nil _) rfl ?_
      refine be h fun x5 hx5 h => ?_
      refine .rg (u (mv (.t rfl)) <| u (mv (.t rfl)) <| apo 37 pf34 (.t rfl) rfl (.t rfl) rfl hx5 rfl <| u (asg (.t rfl)) <| .nil _) rfl ?_
      refine .ib ?_
      refine .rg (u (bi (.t rfl) (.i rfl) rfl) <| u (mv (.t rfl)) <| .nil _) rfl ?_
      exact .ks (fun i => bif Nat.beq i 4 then 37 else i) (.il (ih1 (x5, (ar .add .i64 v2 1)) (nxi h))) (.c rfl (.c rfl (.c rfl (.c rfl .n)))) (.c rfl .n) rfl
    · refine .xt rfl ?_
      replace h := mpR h hx1
      refine .sq ?_
      refine .rg (u (mv (.t rfl)) <| u (asg (.t rfl)) <| u (asg (.i rfl)) <| .nil _) rfl ?_
      obtain rfl := Option.some.inj h
      refine .ks (l := [(2, .own 0), (3, .ro (.int .i64 0))]) (o := [(0, some (.arr 5 1 (List.map e8 v1)))]) (fun i => bif Nat.beq i 0 then 4 else i) ?_ (.c rfl (.c rfl .n)) (.c rfl .n) rfl
      exact .rt Tryz.func121 (.t rfl <| .t rfl <| .n) (.c rfl .n) rfl rfl

theorem nack_Write_r {z : Option Nat} {l : List Pair} {r : List Int × Int} (h : nack_Write z l = some r) :
    AC Tryz.prog 121 [.ro (.list 2 (List.map cells_Pair l))] (.ro (.tup [.list 1 (List.map e8 r.1), .int .i64 r.2])) [] := AC.fz (nack_Write_c h) rfl

theorem feed_pairs_bytes_c {z : Option Nat} {m : List Pair} {r : List Int × Int} (h : feed_pairs_bytes z m = some r) :
    AC Tryz.prog 119 [.ro (.list 2 (List.map cells_Pair m))] (.tup [.own 0, .ro (.int .i64 r.2)]) [(0, .arr 5 1 (List.map e8 r.1))] := by
  refine AC.of Tryz.func119 rfl rfl fun w M0 hM => ?_
  unfold feed_pairs_bytes at h
  refine .sq ?_
  refine .rg (anm e8 2 5 1 rfl rfl <| u (asg (.i rfl)) <| .nil _) rfl ?_
  refine .sq ?_
  refine be h fun x1 hx1 h => ?_
  refine .rg (u (mv (.t rfl)) <| cnf 6000 cf121 (nack_Write_c hx1) (.c (.t rfl) <| .n) rfl rfl rfl <| u (ex (.t rfl) rfl rfl) <| u (ex (.t rfl) rfl rfl) <| u (asg (.t rfl)) <| u (asg (.t rfl)) <| .nil _) rfl ?_
  obtain rfl := Option.some.inj h
  refine .ks (l := [(2, .own 0), (3, .ro (.int .i64 x1.2))]) (o := [(0, some (.arr 5 1 (List.map e8 x1.1)))]) (fun i => bif Nat.beq i 0 then 6000 else i) ?_ (.c rfl (.c rfl .n)) (.c rfl .n) rfl
  exact .rt Tryz.func119 (.t rfl <| .t rfl <| .n) (.c rfl .n) rfl rfl

theorem feed_pairs_bytes_r {z : Option Nat} {m : List Pair} {r : List Int × Int} (h : feed_pairs_bytes z m = some r) :
    AC Tryz.prog 119 [.ro (.list 2 (List.map cells_Pair m))] (.ro (.tup [.list 1 (List.map e8 r.1), .int .i64 r.2])) [] := AC.fz (feed_pairs_bytes_c h) rfl

theorem arrive_fits_c (p_s : Seen) :
    AC Tryz.prog 132 [.ro (enc_Seen p_s)] (.ro (.bool (arrive_fits p_s))) [] := by
  obtain ⟨r, h⟩ : ∃ r, arrive_fits p_s = r := ⟨_, rfl⟩
  rw [h]
  refine AC.of Tryz.func132 rfl rfl fun w M0 hM => ?_
  unfold arrive_fits at h
  refine .sq ?_
  refine .rg (bx 1 (.t rfl) rfl rfl <| u (asg .b) <| .nil _) rfl ?_
  refine .sq ?_
  refine .sq ?_
  refine .rg (u (fa ff90_0 (.t rfl)) <| u (ld tf3 (.t rfl) rfl rfl) <| .nil _) rfl ?_
  refine .bl ?_
  refine .sq ?_
  refine .rg (u (bc (.t rfl) (.i rfl) rfl rfl) <| u (asg (.t rfl)) <| .nil _) rfl ?_
  refine .bq h (.t rfl) (fun h => ?_) (fun h => ?_)
  · refine .sq ?_
    refine .rg (u (fa ff90_1 (.t rfl)) <| u (ld tf3 (.t rfl) rfl rfl) <| u (bc (.t rfl) (.i rfl) rfl rfl) <| u (asg (.t rfl)) <| .nil _) rfl ?_
    subst h
    exact .rt Tryz.func132 (.t rfl <| .n) .n rfl rfl
  · refine .sq ?_
    refine .rg (u (bc (.t rfl) (.i rfl) rfl rfl) <| u (asg (.t rfl)) <| .nil _) rfl ?_
    refine .bq h (.t rfl) (fun h => ?_) (fun h => ?_)
    · refine .sq ?_
      refine .rg (u (fa ff90_1 (.t rfl)) <| u (ld tf3 (.t rfl) rfl rfl) <| u (bc (.t rfl) (.i rfl) rfl rfl) <| u (mv (.t rfl)) <| gd rfl rfl (fun hB => fa ff90_1 (.t rfl)) <| gd rfl rfl (fun hB => ld tf3 (.m rfl hB) rfl rfl) <| gd rfl rfl (fun hB => bc (.m rfl hB) (.i rfl) rfl rfl) <| u (pka (.t rfl) (.t rfl)) <| u (asg (.t rfl)) <| .nil _) rfl ?_
      subst h
      exact .rt Tryz.func132 (.t rfl <| .n) .n rfl rfl
    · refine .sq ?_
      refine .rg (u (bc (.t rfl) (.i rfl) rfl rfl) <| u (asg (.t rfl)) <| .nil _) rfl ?_
      refine .bq h (.t rfl) (fun h => ?_) (fun h => ?_)
      · refine .sq ?_
        refine .rg (u (fa ff90_1 (.t rfl)) <| u (ld tf3 (.t rfl) rfl rfl) <| u (bc (.t rfl) (.i rfl) rfl rfl) <| u (mv (.t rfl)) <| gd rfl rfl (fun hB => fa ff90_1 (.t rfl)) <| gd rfl rfl (fun hB => ld tf3 (.m rfl hB) rfl rfl) <| gd rfl rfl (fun hB => bc (.m rfl hB) (.i rfl) rfl rfl) <| u (pka (.t rfl) (.t rfl)) <| u (asg (.t rfl)) <| .nil _) rfl ?_
        subst h
        exact .rt Tryz.func132 (.t rfl <| .n) .n rfl rfl
      · refine .skp ?_
        refine .ib ?_
        refine .sq ?_
        refine .rg (u (asg .b) <| .nil _) rfl ?_
        subst h
        exact .rt Tryz.func132 (.t rfl <| .n) .n rfl rfl

theorem arrive_Right_1_c (p_s : Seen) :
    AC Tryz.prog 131 [.ro (enc_Seen p_s)] (.ro (.bool (arrive_Right_1 p_s))) [] := by
  obtain ⟨r, h⟩ : ∃ r, arrive_Right_1 p_s = r := ⟨_, rfl⟩
  rw [h]
  refine AC.of Tryz.func131 rfl rfl fun w M0 hM => ?_
  unfold arrive_Right_1 at h
  refine .sq ?_
  refine .rg (bx 1 (.t rfl) rfl rfl <| u (asg .b) <| .nil _) rfl ?_
  refine .sq ?_
  refine .rg (u (ld tf90 (.t rfl) rfl rfl) <| cl [] cf132 (arrive_fits_c p_s) (.c (.t rfl) <| .n) (.inl rfl) <| u (no (.t rfl)) <| u (asg (.t rfl)) <| .nil _) rfl ?_
  subst h
  exact .rt Tryz.func131 (.t rfl <| .n) .n rfl rfl

theorem slices_IndexFunc_Seen_c {z : Option Nat} {p_s : List Seen} {f : (Seen → Option Bool)} {g_f : FuncId} {c_f : List V} (hF_f : CF Tryz.prog g_f) (h_f : ∀ (a0 : Seen) (q : Bool), f a0 = some q → AC Tryz.prog g_f ([.ro (enc_Seen a0)] ++ c_f) (.ro (.bool q)) []) {r : Int} (h : slices_IndexFunc_Seen z p_s f = some r) :
    AC Tryz.prog 137 [.ro (.list 2 (List.map cells_Seen p_s)), .fn (.func g_f) [] c_f] (.ro (.int .i64 r)) [] := by
  refine AC.of Tryz.func137 rfl rfl fun w M0 hM => ?_
  unfold slices_IndexFunc_Seen at h
  refine .sq ?_
  refine .rg (u (asg (.i rfl)) <| .nil _) rfl ?_
  refine .sq ?_
  refine .sq ?_
  refine .rg (u (mv (.t rfl)) <| u (lnm sf25 (.t rfl)) <| u (mv (.i rfl)) <| .nil _) rfl ?_
  refine .bl ?_
  unfold slices_IndexFunc_Seen_l1 at h
  refine .kq (.lo (fun (s : Int) => ⟨[(0, .ro (.list 2 (List.map cells_Seen p_s))), (1, .fn (.func g_f) [] c_f), (7, .ro (.int .i64 (p_s.length : Int))), (8, .ro (.int .i64 s))], []⟩) h ?_) (.c rfl (.c rfl (.c rfl (.c rfl .n)))) .n
  intro v1 u1 h ih1 hx1
  replace h : slices_IndexFunc_Seen_s1 z p_s f v1 = _ := h
  unfold slices_IndexFunc_Seen_s1 at h
  refine .sq ?_
  refine .rg (u (bc (.t rfl) (.t rfl) rfl rfl) <| .nil _) rfl ?_
  refine .sq ?_
  refine .bq h (.t rfl) (fun h => ?_) (fun h => ?_)
  · refine .skp ?_
    refine .sq ?_
    refine .bl ?_
    refine .sq ?_
    refine .rg (u (mv (.t rfl)) <| u (asg (.t rfl)) <| .nil _) rfl ?_
    refine .sq ?_
    refine be h fun x2 hx2 h => ?_
    refine be h fun x3 hx3 h => ?_
    refine .rg (u (mv (.t rfl)) <| u (mv (.t rfl)) <| u (mv (.t rfl)) <| u (ia sf25 (.t rfl) (.t rfl) (ix_map cells_Seen hx2)) <| u (lr tf90 (.t rfl) rfl) <| clv [] hF_f (.t rfl) (h_f _ _ hx3) (.c (.t rfl) <| .n) (.inl rfl) <| .nil _) rfl ?_
    refine .bq h (.t rfl) (fun h => ?_) (fun h => ?_)
    · refine .sq ?_
      refine .rg (u (mv (.t rfl)) <| u (asg (.t rfl)) <| .nil _) rfl ?_
      replace h := mpR h hx1
      obtain rfl := Option.some.inj h
      exact .rt Tryz.func137 (.t rfl <| .n) .n rfl rfl
    · refine .skp ?_
      refine .ib ?_
      refine .rg (u (bi (.t rfl) (.i rfl) rfl) <| u (mv (.t rfl)) <| .nil _) rfl ?_
      exact .kq (.il (ih1 (ar .add .i64 v1 1) (nxi h))) (.c rfl (.c rfl (.c rfl (.c rfl .n)))) .n
  · refine .xt rfl ?_
    replace h := mpR h hx1
    refine .sq ?_
    refine .rg (u (asg (.i rfl)) <| .nil _) rfl ?_
    obtain rfl := Option.some.inj h
    exact .rt Tryz.func137 (.t rfl <| .n) .n rfl rfl

theorem slices_ContainsFunc_Seen_c {z : Option Nat} {p_s : List Seen} {f : (Seen → Option Bool)} {g_f : FuncId} {c_f : List V} (hF_f : CF Tryz.prog g_f) (h_f : ∀ (a0 : Seen) (q : Bool), f a0 = some q → AC Tryz.prog g_f ([.ro (enc_Seen a0)] ++ c_f) (.ro (.bool q)) []) {r : Bool} (h : slices_ContainsFunc_Seen z p_s f = some r) :
    AC Tryz.prog 133 [.ro (.list 2 (List.map cells_Seen p_s)), .fn (.func g_f) [] c_f] (.ro (.bool r)) [] := by
  refine AC.of Tryz.func133 rfl rfl fun w M0 hM => ?_
  unfold slices_ContainsFunc_Seen at h
  refine .sq ?_
  refine .rg (u (asg .b) <| .nil _) rfl ?_
  refine .sq ?_
  refine be h fun x1 hx1 h => ?_
  refine .rg (u (mv (.t rfl)) <| u (mv (.t rfl)) <| cl [] cf137 (slices_IndexFunc_Seen_c hF_f h_f hx1) (.c (.t rfl) <| .c (.t rfl) <| .n) (.inl rfl) <| u (bc (.t rfl) (.i rfl) rfl rfl) <| u (asg (.t rfl)) <| .nil _) rfl ?_
  obtain rfl := Option.some.inj h
  exact .rt Tryz.func133 (.t rfl <| .n) .n rfl rfl

theorem arrive_Right_c {z : Option Nat} {p_a : Arrive} {r : Bool} (h : arrive_Right z p_a = some r) :
    AC Tryz.prog 125 [.ro (enc_Arrive p_a)] (.ro (.bool r)) [] := by
  refine AC.of Tryz.func125 rfl rfl fun w M0 hM => ?_
  unfold arrive_Right at h
  refine .sq ?_
  refine .rg (bx 1 (.t rfl) rfl rfl <| u (asg .b) <| .nil _) rfl ?_
  refine .sq ?_
  refine .rg (u (asg .f) <| .nil _) rfl ?_
  refine .sq ?_
  refine be h fun x1 hx1 h => ?_
  refine .rg (u (fa ff27_1 (.t rfl)) <| u (ld tf3 (.t rfl) rfl rfl) <| u (bc (.t rfl) (.i rfl) rfl rfl) <| u (mv (.t rfl)) <| gd rfl rfl (fun hB => fa ff27_1 (.t rfl)) <| gd rfl rfl (fun hB => ld tf3 (.m rfl hB) rfl rfl) <| gd rfl rfl (fun hB => bc (.m rfl hB) (.i rfl) rfl rfl) <| u (pka (.t rfl) (.t rfl)) <| u (mv (.t rfl)) <| gd rfl rfl (fun hB => fa ff27_3 (.t rfl)) <| gd rfl rfl (fun hB => ld tf25 (.m rfl hB) rfl rfl) <| gd rfl rfl (fun hB => lnm sf25 (.m rfl hB)) <| gd rfl rfl (fun hB => bc (.m rfl hB) (.i rfl) rfl rfl) <| u (pka (.t rfl) (.t rfl)) <| u (mv (.t rfl)) <| gd rfl rfl (fun hB => fa ff27_3 (.t rfl)) <| gd rfl rfl (fun hB => ld tf25 (.m rfl hB) rfl rfl) <| gd rfl rfl (fun hB => mv (.t rfl)) <| cg rfl rfl cf133 (fun hB => (slices_ContainsFunc_Seen_c cf131 (fun y0 q h => by obtain rfl := Option.some.inj h; exact arrive_Right_1_c y0) (gTt hx1 hB))) (fun hB => .c (.m rfl hB) <| .c (.m rfl hB) <| .n) (.inl rfl) <| gd rfl rfl (fun hB => no (.m rfl hB)) <| u (pka (.t rfl) (.t rfl)) <| u (asg (.t rfl)) <| .nil _) rfl ?_
  obtain rfl := Option.some.inj h
  exact .rt Tryz.func125 (.t rfl <| .n) .n rfl rfl

theorem octet_PutSigned_c {v : Int} {n : Int} {r : List Int × Int} (h : octet_PutSigned v n = some r) :
    AC Tryz.prog 126 [.ro (.int .i64 v), .ro (.int .i64 n)] (.tup [.own 0, .ro (.int .i64 r.2)]) [(0, .arr 5 1 (List.map e8 r.1))] := by
  refine AC.of Tryz.func126 rfl rfl fun w M0 hM => ?_
  unfold octet_PutSigned at h
  refine .sq ?_
  refine .rg (anm e8 4 5 1 rfl rfl <| u (asg (.i rfl)) <| .nil _) rfl ?_
  refine .sq ?_
  refine .sq ?_
  refine .rg (u (mv (.t rfl)) <| cl [] cf55 (octet_sized_c n) (.c (.t rfl) <| .n) (.inl rfl) <| u (no (.t rfl)) <| .nil _) rfl ?_
  refine .bq h (.t rfl) (fun h => ?_) (fun h => ?_)
  · refine .sq ?_
    refine .rg (anm e8 100004 5 1 rfl rfl <| u (asg (.i rfl)) <| .nil _) rfl ?_
    obtain rfl := Option.some.inj h
    refine .ks (l := [(4, .own 0), (5, .ro (.int .i64 1))]) (o := [(0, some (.arr 5 1 (List.map e8 [])))]) (fun i => bif Nat.beq i 0 then 100004 else i) ?_ (.c rfl (.c rfl .n)) (.c rfl .n) rfl
    exact .rt Tryz.func126 (.t rfl <| .t rfl <| .n) (.c rfl .n) rfl rfl
  · refine .skp ?_
    refine .sq ?_
    refine .rg (u (mv (.t rfl)) <| u (bi (.i rfl) (.t rfl) rfl) <| u (bi (.i rfl) (.t rfl) rfl) <| u (asg (.t rfl)) <| .nil _) rfl ?_
    refine .sq ?_
    refine .sq ?_
    refine be h fun x1 hx1 h => ?_
    refine be h fun x2 hx2 h => ?_
    refine .rg (u (mv (.t rfl)) <| u (mv (.t rfl)) <| u (sho (.t rfl) (.t rfl) rfl hx1) <| u (mv (.t rfl)) <| u (sho (.t rfl) (.t rfl) rfl hx2) <| u (mv (.t rfl)) <| u (bc (.t rfl) (.t rfl) rfl rfl) <| .nil _) rfl ?_
    refine .bq h (.t rfl) (fun h => ?_) (fun h => ?_)
    · refine .sq ?_
      refine .rg (anm e8 100004 5 1 rfl rfl <| u (asg (.i rfl)) <| .nil _) rfl ?_
      obtain rfl := Option.some.inj h
      refine .ks (l := [(4, .own 0), (5, .ro (.int .i64 6))]) (o := [(0, some (.arr 5 1 (List.map e8 [])))]) (fun i => bif Nat.beq i 0 then 100004 else i) ?_ (.c rfl (.c rfl .n)) (.c rfl .n) rfl
      exact .rt Tryz.func126 (.t rfl <| .t rfl <| .n) (.c rfl .n) rfl rfl
    · refine .skp ?_
      refine .sq ?_
      refine be h fun x3 hx3 h => ?_
      refine be h fun x4 hx4 h => ?_
      refine be h fun x5 hx5 h => ?_
      refine .rg (u (mv (.t rfl)) <| u (cv cv2_64 (.t rfl)) <| u (mv (.t rfl)) <| u (sho (.t rfl) (.t rfl) rfl hx3) <| u (mv (.t rfl)) <| u (sho (.t rfl) (.t rfl) rfl hx4) <| u (mv (.t rfl)) <| cnf 28000 cf45 (octet_Put_c hx5) (.c (.t rfl) <| .c (.t rfl) <| .n) rfl rfl rfl <| u (ex (.t rfl) rfl rfl) <| u (ex (.t rfl) rfl rfl) <| u (asg (.t rfl)) <| u (asg (.t rfl)) <| .nil _) rfl ?_
      obtain rfl := Option.some.inj h
      refine .ks (l := [(4, .own 0), (5, .ro (.int .i64 x5.2))]) (o := [(0, some (.arr 5 1 (List.map e8 x5.1)))]) (fun i => bif Nat.beq i 0 then 28000 else i) ?_ (.c rfl (.c rfl .n)) (.c rfl .n) rfl
      exact .rt Tryz.func126 (.t rfl <| .t rfl <| .n) (.c rfl .n) rfl rfl

theorem octet_PutSigned_r {v : Int} {n : Int} {r : List Int × Int} (h : octet_PutSigned v n = some r) :
    AC Tryz.prog 126 [.ro (.int .i64 v), .ro (.int .i64 n)] (.ro (.tup [.list 1 (List.map e8 r.1), .int .i64 r.2])) [] := AC.fz (octet_PutSigned_c h) rfl

theorem slices_Grow_c {n : Int} (hn : growL n = some ()) : AC Tryz.prog 80 [.ro (.raw (.slice none 0 0)), .ro (.int .i64 n)] (.own 0) [(0, .arr 5 1 (([] : List Int).map e8))] := by
  obtain ⟨i, z, hi, hz, hsz, hzs, hpos, hby⟩ := pf34.i
  refine AC.grow (fun n w h1 h2 => ?_) (fun w => slices_Grow_nil w) hn
  refine (slices_Grow_new n w h1 h2 i z hi hz (by omega) hby).mono fun e w' hp => ?_
  obtain ⟨rfl, rfl⟩ := hp
  have hG : n ≤ grownCap w n 0 5 := grownCap_ge w _ _ _
  refine ⟨_, _, rfl, ?_, grownCap_le_maxLen w n 0 5 (by unfold maxLen; omega), rfl⟩
  simp only [Array.size_append, size_zeroCells, hzs]
  have h0 : (#[] : Array Value).size = 0 := rfl
  omega

theorem slices_Concat_c {z : Option Nat} {slices : List (List Int)} {r : List Int} (h : slices_Concat z slices = some r) :
    AC Tryz.prog 68 [.ro (.list 1 (List.map (el 1 e8) slices))] (.own 0) [(0, .arr 5 1 (List.map e8 r))] := by
  refine AC.of Tryz.func68 rfl rfl fun w M0 hM => ?_
  unfold slices_Concat at h
  refine .sq ?_
  refine .rg (anm e8 2 5 1 rfl rfl <| .nil _) rfl ?_
  refine .sq ?_
  refine .rg (u (asg (.i rfl)) <| .nil _) rfl ?_
  refine .sq ?_
  refine .sq ?_
  refine .rg (u (mv (.t rfl)) <| u (lnm sf141 (.t rfl)) <| u (mv (.i rfl)) <| .nil _) rfl ?_
  refine .bl ?_
  unfold slices_Concat_l1 at h
  refine .kq (.lo (fun (s : Int × Int) => ⟨[(0, .ro (.list 1 (List.map (el 1 e8) slices))), (3, .ro (.int .i64 s.1)), (9, .ro (.list 1 (List.map (el 1 e8) slices))), (10, .ro (.int .i64 (slices.length : Int))), (11, .ro (.int .i64 s.2))], []⟩) h ?_) (.c rfl (.c rfl (.c rfl (.c rfl (.c rfl .n))))) .n
  rintro ⟨v1, v2⟩ u1 h ih1 hx1
  replace h : slices_Concat_s1 z slices v1 v2 = _ := h
  unfold slices_Concat_s1 at h
  refine .sq ?_
  refine .rg (u (bc (.t rfl) (.t rfl) rfl rfl) <| .nil _) rfl ?_
  refine .sq ?_
  refine .bq h (.t rfl) (fun h => ?_) (fun h => ?_)
  · refine .skp ?_
    refine .sq ?_
    refine .bl ?_
    refine .sq ?_
    refine be h fun x3 hx3 h => ?_
    refine .rg (u (ia sf141 (.t rfl) (.t rfl) (ix_map (el 1 e8) hx3)) <| u (lr tf34 (.t rfl) rfl) <| u (asg (.t rfl)) <| .nil _) rfl ?_
    refine .sq ?_
    refine .rg (u (mv (.t rfl)) <| u (mv (.t rfl)) <| u (lnm sf34 (.t rfl)) <| u (bi (.t rfl) (.t rfl) rfl) <| u (asg (.t rfl)) <| .nil _) rfl ?_
    refine .sq ?_
    refine .rg (u (mv (.t rfl)) <| u (bc (.t rfl) (.i rfl) rfl rfl) <| .nil _) rfl ?_
    refine .jq (t := some u1) (fun (a : Unit) => ⟨[(0, .ro (.list 1 (List.map (el 1 e8) slices))), (3, .ro (.int .i64 (ar .add .i64 v1 (x3.length : Int)))), (9, .ro (.list 1 (List.map (el 1 e8) slices))), (10, .ro (.int .i64 (slices.length : Int))), (11, .ro (.int .i64 v2))], []⟩) (fun (a : Unit) => slices_Concat_j2 z v1 v2 x3) ?_ (fun J2 => ?_)
    · intro _ h
      replace h : slices_Concat_j2 z v1 v2 x3 = _ := h
      unfold slices_Concat_j2 at h
      refine .ib ?_
      refine .rg (u (bi (.t rfl) (.i rfl) rfl) <| u (mv (.t rfl)) <| .nil _) rfl ?_
      exact .kq (.il (ih1 ((ar .add .i64 v1 (x3.length : Int)), (ar .add .i64 v2 1)) (nxi h))) (.c rfl (.c rfl (.c rfl (.c rfl (.c rfl .n))))) .n
    refine .bq h (.t rfl) (fun h => ?_) (fun h => ?_)
    · cases h
    · refine .skp ?_
      exact .kq (J2 () h) (.c rfl (.c rfl (.c rfl (.c rfl (.c rfl .n))))) .n
  · refine .xt rfl ?_
    replace h := mpR h hx1
    refine .sq ?_
    refine be h fun x4 hx4 h => ?_
    refine .rg (u (mv (.t rfl)) <| cnl 24 cf80 (slices_Grow_c hx4) (.c (.r rfl) <| .c (.t rfl) <| .n) rfl <| u (asg (.t rfl)) <| .nil _) rfl ?_
    refine .sq ?_
    refine .sq ?_
    refine .rg (u (mv (.t rfl)) <| u (lnm sf141 (.t rfl)) <| u (mv (.i rfl)) <| .nil _) rfl ?_
    refine .bl ?_
    unfold slices_Concat_l3 at h
    refine .ks (fun i => bif Nat.beq i 6 then 24 else i) (.lo (fun (s : List Int × Int) => ⟨[(6, .own 6), (25, .ro (.list 1 (List.map (el 1 e8) slices))), (26, .ro (.int .i64 (slices.length : Int))), (27, .ro (.int .i64 s.2))], [(6, some (.arr 5 1 (List.map e8 s.1)))]⟩) h ?_) (.c rfl (.c rfl (.c rfl (.c rfl .n)))) (.c rfl .n) rfl
    rintro ⟨v5, v6⟩ u3 h ih3 hx3
    replace h : slices_Concat_s3 z slices v5 v6 = _ := h
    unfold slices_Concat_s3 at h
    refine .sq ?_
    refine .rg (u (bc (.t rfl) (.t rfl) rfl rfl) <| .nil _) rfl ?_
    refine .sq ?_
    refine .bq h (.t rfl) (fun h => ?_) (fun h => ?_)
    · refine .skp ?_
      refine .sq ?_
      refine .bl ?_
      refine .sq ?_
      refine be h fun x7 hx7 h => ?_
      refine .rg (u (ia sf141 (.t rfl) (.t rfl) (ix_map (el 1 e8) hx7)) <| u (lr tf34 (.t rfl) rfl) <| u (asg (.t rfl)) <| .nil _) rfl ?_
      refine be h fun x8 hx8 h => ?_
      refine .rg (u (mv (.t rfl)) <| u (mv (.t rfl)) <| ap 33 pf34 (.t rfl) rfl (.t rfl) hx8 rfl <| u (asg (.t rfl)) <| .nil _) rfl ?_
      refine .ib ?_
      refine .rg (u (bi (.t rfl) (.i rfl) rfl) <| u (mv (.t rfl)) <| .nil _) rfl ?_
      exact .ks (fun i => bif Nat.beq i 6 then 33 else i) (.il (ih3 (x8, (ar .add .i64 v6 1)) (nxi h))) (.c rfl (.c rfl (.c rfl (.c rfl .n)))) (.c rfl .n) rfl
    · refine .xt rfl ?_
      replace h := mpR h hx3
      refine .sq ?_
      refine .rg (u (mv (.t rfl)) <| u (asg (.t rfl)) <| .nil _) rfl ?_
      obtain rfl := Option.some.inj h
      refine .ks (l := [(2, .own 0)]) (o := [(0, some (.arr 5 1 (List.map e8 v5)))]) (fun i => bif Nat.beq i 0 then 6 else i) ?_ (.c rfl .n) (.c rfl .n) rfl
      exact .rt Tryz.func68 (.t rfl <| .n) (.c rfl .n) rfl rfl

theorem slices_Concat_r {z : Option Nat} {slices : List (List Int)} {r : List Int} (h : slices_Concat z slices = some r) :
    AC Tryz.prog 68 [.ro (.list 1 (List.map (el 1 e8) slices))] (.ro (.list 1 (List.map e8 r))) [] := AC.fz (slices_Concat_c h) rfl

theorem octet_Join_c {z : Option Nat} {l : List (List Int)} {r : List Int} (h : octet_Join z l = some r) :
    AC Tryz.prog 46 [.ro (.list 1 (List.map (el 1 e8) l))] (.own 0) [(0, .arr 5 1 (List.map e8 r))] := by
  refine AC.of Tryz.func46 rfl rfl fun w M0 hM => ?_
  unfold octet_Join at h
  refine .sq ?_
  refine .rg (anm e8 2 5 1 rfl rfl <| .nil _) rfl ?_
  refine .sq ?_
  refine be h fun x1 hx1 h => ?_
  refine .rg (u (mv (.t rfl)) <| cnf 5000 cf68 (slices_Concat_c hx1) (.c (.t rfl) <| .n) rfl rfl rfl <| u (asg (.t rfl)) <| .nil _) rfl ?_
  obtain rfl := Option.some.inj h
  refine .ks (l := [(2, .own 0)]) (o := [(0, some (.arr 5 1 (List.map e8 x1)))]) (fun i => bif Nat.beq i 0 then 5000 else i) ?_ (.c rfl .n) (.c rfl .n) rfl
  exact .rt Tryz.func46 (.t rfl <| .n) (.c rfl .n) rfl rfl

theorem octet_Join_r {z : Option Nat} {l : List (List Int)} {r : List Int} (h : octet_Join z l = some r) :
    AC Tryz.prog 46 [.ro (.list 1 (List.map (el 1 e8) l))] (.ro (.list 1 (List.map e8 r))) [] := AC.fz (octet_Join_c h) rfl

theorem arrive_whats_c {z : Option Nat} {l : List Seen} {r : List Int} (h : arrive_whats z l = some r) :
    AC Tryz.prog 128 [.ro (.list 2 (List.map cells_Seen l))] (.own 0) [(0, .arr 3 1 (List.map (ei .i64) r))] := by
  refine AC.of Tryz.func128 rfl rfl fun w M0 hM => ?_
  unfold arrive_whats at h
  refine .sq ?_
  refine .rg (anm (ei .i64) 2 3 1 rfl rfl <| .nil _) rfl ?_
  refine .sq ?_
  refine .rg (anm (ei .i64) 3 3 1 rfl rfl <| .nil _) rfl ?_
  refine .sq ?_
  refine .sq ?_
  refine .rg (u (mv (.t rfl)) <| u (lnm sf25 (.t rfl)) <| u (mv (.i rfl)) <| .nil _) rfl ?_
  refine .bl ?_
  unfold arrive_whats_l1 at h
  refine .kq (.lo (fun (s : List Int × Int) => ⟨[(3, .own 3), (6, .ro (.list 2 (List.map cells_Seen l))), (7, .ro (.int .i64 (l.length : Int))), (8, .ro (.int .i64 s.2))], [(3, some (.arr 3 1 (List.map (ei .i64) s.1)))]⟩) h ?_) (.c rfl (.c rfl (.c rfl (.c rfl .n)))) (.c rfl .n)
  rintro ⟨v1, v2⟩ u1 h ih1 hx1
  replace h : arrive_whats_s1 z l v1 v2 = _ := h
  unfold arrive_whats_s1 at h
  refine .sq ?_
  refine .rg (u (bc (.t rfl) (.t rfl) rfl rfl) <| .nil _) rfl ?_
  refine .sq ?_
  refine .bq h (.t rfl) (fun h => ?_) (fun h => ?_)
  · refine .skp ?_
    refine .sq ?_
    refine .bl ?_
    refine .sq ?_
    refine be h fun x3 hx3 h => ?_
    refine .rg (u (ia sf25 (.t rfl) (.t rfl) (ix_map cells_Seen hx3)) <| u (lr tf90 (.t rfl) rfl) <| al 5 zf90 rfl <| st tf90 (.t rfl) rfl (.t rfl) rfl rfl rfl <| .nil _) rfl ?_
    refine be h fun x4 hx4 h => ?_
    refine .rg (u (mv (.t rfl)) <| u (fa ff90_0 (.t rfl)) <| u (ld tf3 (.t rfl) rfl rfl) <| bs (F := (ei .i64)) (l := [x3.what]) 15 pf56 (.c (.t rfl) rfl <| .n) rfl (fun _ _ => rfl) rfl rfl <| apo 16 pf56 (.t rfl) rfl (.t rfl) rfl hx4 rfl <| u (asg (.t rfl)) <| .nil _) rfl ?_
    refine .ib ?_
    refine .rg (u (bi (.t rfl) (.i rfl) rfl) <| u (mv (.t rfl)) <| .nil _) rfl ?_
    exact .ks (fun i => bif Nat.beq i 3 then 16 else i) (.il (ih1 (x4, (ar .add .i64 v2 1)) (nxi h))) (.c rfl (.c rfl (.c rfl (.c rfl .n)))) (.c rfl .n) rfl
  · refine .xt rfl ?_
    replace h := mpR h hx1
    refine .sq ?_
    refine .rg (u (mv (.t rfl)) <| u (asg (.t rfl)) <| .nil _) rfl ?_
    obtain rfl := Option.some.inj h
    refine .ks (l := [(2, .own 0)]) (o := [(0, some (.arr 3 1 (List.map (ei .i64) v1)))]) (fun i => bif Nat.beq i 0 then 3 else i) ?_ (.c rfl .n) (.c rfl .n) rfl
    exact .rt Tryz.func128 (.t rfl <| .n) (.c rfl .n) rfl rfl

theorem arrive_whats_r {z : Option Nat} {l : List Seen} {r : List Int} (h : arrive_whats z l = some r) :
    AC Tryz.prog 128 [.ro (.list 2 (List.map cells_Seen l))] (.ro (.list 1 (List.map (ei .i64) r))) [] := AC.fz (arrive_whats_c h) rfl

theorem slices_IndexFunc_int_c {z : Option Nat} {p_s : List Int} {f : (Int → Option Bool)} {g_f : FuncId} {c_f : List V} (hF_f : CF Tryz.prog g_f) (h_f : ∀ (a0 : Int) (q : Bool), f a0 = some q → AC Tryz.prog g_f ([.ro (.int .i64 a0)] ++ c_f) (.ro (.bool q)) []) {r : Int} (h : slices_IndexFunc_int z p_s f = some r) :
    AC Tryz.prog 92 [.ro (.list 1 (List.map (ei .i64) p_s)), .fn (.func g_f) [] c_f] (.ro (.int .i64 r)) [] := by
  refine AC.of Tryz.func92 rfl rfl fun w M0 hM => ?_
  unfold slices_IndexFunc_int at h
  refine .sq ?_
  refine .rg (u (asg (.i rfl)) <| .nil _) rfl ?_
  refine .sq ?_
  refine .sq ?_
  refine .rg (u (mv (.t rfl)) <| u (lnm sf56 (.t rfl)) <| u (mv (.i rfl)) <| .nil _) rfl ?_
  refine .bl ?_
  unfold slices_IndexFunc_int_l1 at h
  refine .kq (.lo (fun (s : Int) => ⟨[(0, .ro (.list 1 (List.map (ei .i64) p_s))), (1, .fn (.func g_f) [] c_f), (7, .ro (.int .i64 (p_s.length : Int))), (8, .ro (.int .i64 s))], []⟩) h ?_) (.c rfl (.c rfl (.c rfl (.c rfl .n)))) .n
  intro v1 u1 h ih1 hx1
  replace h : slices_IndexFunc_int_s1 z p_s f v1 = _ := h
  unfold slices_IndexFunc_int_s1 at h
  refine .sq ?_
  refine .rg (u (bc (.t rfl) (.t rfl) rfl rfl) <| .nil _) rfl ?_
  refine .sq ?_
  refine .bq h (.t rfl) (fun h => ?_) (fun h => ?_)
  · refine .skp ?_
    refine .sq ?_
    refine .bl ?_
    refine .sq ?_
    refine .rg (u (mv (.t rfl)) <| u (asg (.t rfl)) <| .nil _) rfl ?_
    refine .sq ?_
    refine be h fun x2 hx2 h => ?_
    refine be h fun x3 hx3 h => ?_
    refine .rg (u (mv (.t rfl)) <| u (mv (.t rfl)) <| u (mv (.t rfl)) <| u (ia sf56 (.t rfl) (.t rfl) (ix_map (ei .i64) hx2)) <| u (lr tf3 (.t rfl) rfl) <| clv [] hF_f (.t rfl) (h_f _ _ hx3) (.c (.t rfl) <| .n) (.inl rfl) <| .nil _) rfl ?_
    refine .bq h (.t rfl) (fun h => ?_) (fun h => ?_)
    · refine .sq ?_
      refine .rg (u (mv (.t rfl)) <| u (asg (.t rfl)) <| .nil _) rfl ?_
      replace h := mpR h hx1
      obtain rfl := Option.some.inj h
      exact .rt Tryz.func92 (.t rfl <| .n) .n rfl rfl
    · refine .skp ?_
      refine .ib ?_
      refine .rg (u (bi (.t rfl) (.i rfl) rfl) <| u (mv (.t rfl)) <| .nil _) rfl ?_
      exact .kq (.il (ih1 (ar .add .i64 v1 1) (nxi h))) (.c rfl (.c rfl (.c rfl (.c rfl .n)))) .n
  · refine .xt rfl ?_
    replace h := mpR h hx1
    refine .sq ?_
    refine .rg (u (asg (.i rfl)) <| .nil _) rfl ?_
    obtain rfl := Option.some.inj h
    exact .rt Tryz.func92 (.t rfl <| .n) .n rfl rfl

theorem slices_ContainsFunc_int_c {z : Option Nat} {p_s : List Int} {f : (Int → Option Bool)} {g_f : FuncId} {c_f : List V} (hF_f : CF Tryz.prog g_f) (h_f : ∀ (a0 : Int) (q : Bool), f a0 = some q → AC Tryz.prog g_f ([.ro (.int .i64 a0)] ++ c_f) (.ro (.bool q)) []) {r : Bool} (h : slices_ContainsFunc_int z p_s f = some r) :
    AC Tryz.prog 134 [.ro (.list 1 (List.map (ei .i64) p_s)), .fn (.func g_f) [] c_f] (.ro (.bool r)) [] := by
  refine AC.of Tryz.func134 rfl rfl fun w M0 hM => ?_
  unfold slices_ContainsFunc_int at h
  refine .sq ?_
  refine .rg (u (asg .b) <| .nil _) rfl ?_
  refine .sq ?_
  refine be h fun x1 hx1 h => ?_
  refine .rg (u (mv (.t rfl)) <| u (mv (.t rfl)) <| cl [] cf92 (slices_IndexFunc_int_c hF_f h_f hx1) (.c (.t rfl) <| .c (.t rfl) <| .n) (.inl rfl) <| u (bc (.t rfl) (.i rfl) rfl rfl) <| u (asg (.t rfl)) <| .nil _) rfl ?_
  obtain rfl := Option.some.inj h
  exact .rt Tryz.func134 (.t rfl <| .n) .n rfl rfl

theorem chunk_Write_1_c (x : Int) :
    AC Tryz.prog 135 [.ro (.int .i64 x)] (.ro (.bool (chunk_Write_1 x))) [] := by
  obtain ⟨r, h⟩ : ∃ r, chunk_Write_1 x = r := ⟨_, rfl⟩
  rw [h]
  refine AC.of Tryz.func135 rfl rfl fun w M0 hM => ?_
  unfold chunk_Write_1 at h
  refine .sq ?_
  refine .rg (u (asg .b) <| .nil _) rfl ?_
  refine .sq ?_
  refine .rg (u (mv (.t rfl)) <| u (bc (.t rfl) (.i rfl) rfl rfl) <| u (mv (.t rfl)) <| gd rfl rfl (fun hB => mv (.t rfl)) <| gd rfl rfl (fun hB => bc (.m rfl hB) (.i rfl) rfl rfl) <| u (pko (.t rfl) (.t rfl)) <| u (asg (.t rfl)) <| .nil _) rfl ?_
  subst h
  exact .rt Tryz.func135 (.t rfl <| .n) .n rfl rfl

theorem chunk_run_1_c {x : Int} {cap0 : List Int} {r : Bool} (h : chunk_run_1 x cap0 = some r) :
    AC Tryz.prog 91 [.ro (.int .i64 x), .rptr [.list 1 (List.map (ei .i64) cap0)]] (.ro (.bool r)) [] := by
  refine AC.of Tryz.func91 rfl rfl fun w M0 hM => ?_
  unfold chunk_run_1 at h
  refine .sq ?_
  refine .rg (u (asg .b) <| .nil _) rfl ?_
  refine .sq ?_
  refine be h fun x1 hx1 h => ?_
  refine .rg (u (mv (.t rfl)) <| u (lr tf56 (.t rfl) rfl) <| u (ia sf56 (.t rfl) (.i rfl) (ix_map (ei .i64) hx1)) <| u (lr tf3 (.t rfl) rfl) <| u (bc (.t rfl) (.t rfl) rfl rfl) <| u (asg (.t rfl)) <| .nil _) rfl ?_
  obtain rfl := Option.some.inj h
  exact .rt Tryz.func91 (.t rfl <| .n) .n rfl rfl

theorem chunk_run_c {z : Option Nat} {l : List Int} {r : Int} (h : chunk_run z l = some r) :
    AC Tryz.prog 84 [.ro (.list 1 (List.map (ei .i64) l))] (.ro (.int .i64 r)) [] := by
  refine AC.of Tryz.func84 rfl rfl fun w M0 hM => ?_
  unfold chunk_run at h
  refine .sq ?_
  refine .rg (bx 1 (.t rfl) rfl rfl <| u (asg (.i rfl)) <| .nil _) rfl ?_
  refine .fb 1 rfl rfl ?_
  refine .sq ?_
  refine .rg (u (mfn (.c (.t rfl) <| .n)) <| u (asg (.t rfl)) <| .nil _) rfl ?_
  refine .sq ?_
  refine .sq ?_
  refine be h fun x1 hx1 h => ?_
  refine .rg (u (lr tf56 (.t rfl) rfl) <| u (mv (.t rfl)) <| cl [] cf92 (slices_IndexFunc_int_c cf91 (fun y0 q h => chunk_run_1_c h) hx1) (.c (.t rfl) <| .c (.t rfl) <| .n) (.inl rfl) <| u (asg (.t rfl)) <| .nil _) rfl ?_
  refine .sq ?_
  refine .rg (u (mv (.t rfl)) <| u (bc (.t rfl) (.i rfl) rfl rfl) <| .nil _) rfl ?_
  refine .bq h (.t rfl) (fun h => ?_) (fun h => ?_)
  · refine .sq ?_
    refine .rg (u (mv (.t rfl)) <| u (asg (.t rfl)) <| .nil _) rfl ?_
    obtain rfl := Option.some.inj h
    exact .rt Tryz.func84 (.t rfl <| .n) .n rfl rfl
  · refine .skp ?_
    refine .sq ?_
    refine .rg (u (lr tf56 (.t rfl) rfl) <| u (lnm sf56 (.t rfl)) <| u (asg (.t rfl)) <| .nil _) rfl ?_
    obtain rfl := Option.some.inj h
    exact .rt Tryz.func84 (.t rfl <| .n) .n rfl rfl

theorem slices_Index_c {z : Option Nat} {p_s : List Int} {v : Int} {r : Int} (h : slices_Index z p_s v = some r) :
    AC Tryz.prog 90 [.ro (.list 1 (List.map (ei .i64) p_s)), .ro (.int .i64 v)] (.ro (.int .i64 r)) [] := by
  refine AC.of Tryz.func90 rfl rfl fun w M0 hM => ?_
  unfold slices_Index at h
  refine .sq ?_
  refine .rg (u (asg (.i rfl)) <| .nil _) rfl ?_
  refine .sq ?_
  refine .sq ?_
  refine .rg (u (mv (.t rfl)) <| u (lnm sf56 (.t rfl)) <| u (mv (.i rfl)) <| .nil _) rfl ?_
  refine .bl ?_
  unfold slices_Index_l1 at h
  refine .kq (.lo (fun (s : Int) => ⟨[(0, .ro (.list 1 (List.map (ei .i64) p_s))), (1, .ro (.int .i64 v)), (7, .ro (.int .i64 (p_s.length : Int))), (8, .ro (.int .i64 s))], []⟩) h ?_) (.c rfl (.c rfl (.c rfl (.c rfl .n)))) .n
  intro v1 u1 h ih1 hx1
  replace h : slices_Index_s1 z p_s v v1 = _ := h
  unfold slices_Index_s1 at h
  refine .sq ?_
  refine .rg (u (bc (.t rfl) (.t rfl) rfl rfl) <| .nil _) rfl ?_
  refine .sq ?_
  refine .bq h (.t rfl) (fun h => ?_) (fun h => ?_)
  · refine .skp ?_
    refine .sq ?_
    refine .bl ?_
    refine .sq ?_
    refine .rg (u (mv (.t rfl)) <| u (asg (.t rfl)) <| .nil _) rfl ?_
    refine .sq ?_
    refine be h fun x2 hx2 h => ?_
    refine .rg (u (mv (.t rfl)) <| u (mv (.t rfl)) <| u (mv (.t rfl)) <| u (ia sf56 (.t rfl) (.t rfl) (ix_map (ei .i64) hx2)) <| u (lr tf3 (.t rfl) rfl) <| u (bc (.t rfl) (.t rfl) rfl rfl) <| .nil _) rfl ?_
    refine .bq h (.t rfl) (fun h => ?_) (fun h => ?_)
    · refine .sq ?_
      refine .rg (u (mv (.t rfl)) <| u (asg (.t rfl)) <| .nil _) rfl ?_
      replace h := mpR h hx1
      obtain rfl := Option.some.inj h
      exact .rt Tryz.func90 (.t rfl <| .n) .n rfl rfl
    · refine .skp ?_
      refine .ib ?_
      refine .rg (u (bi (.t rfl) (.i rfl) rfl) <| u (mv (.t rfl)) <| .nil _) rfl ?_
      exact .kq (.il (ih1 (ar .add .i64 v1 1) (nxi h))) (.c rfl (.c rfl (.c rfl (.c rfl .n)))) .n
  · refine .xt rfl ?_
    replace h := mpR h hx1
    refine .sq ?_
    refine .rg (u (asg (.i rfl)) <| .nil _) rfl ?_
    obtain rfl := Option.some.inj h
    exact .rt Tryz.func90 (.t rfl <| .n) .n rfl rfl

theorem slices_Contains_c {z : Option Nat} {p_s : List Int} {v : Int} {r : Bool} (h : slices_Contains z p_s v = some r) :
    AC Tryz.prog 83 [.ro (.list 1 (List.map (ei .i64) p_s)), .ro (.int .i64 v)] (.ro (.bool r)) [] := by
  refine AC.of Tryz.func83 rfl rfl fun w M0 hM => ?_
  unfold slices_Contains at h
  refine .sq ?_
  refine .rg (u (asg .b) <| .nil _) rfl ?_
  refine .sq ?_
  refine be h fun x1 hx1 h => ?_
  refine .rg (u (mv (.t rfl)) <| u (mv (.t rfl)) <| cl [] cf90 (slices_Index_c hx1) (.c (.t rfl) <| .c (.t rfl) <| .n) (.inl rfl) <| u (bc (.t rfl) (.i rfl) rfl rfl) <| u (asg (.t rfl)) <| .nil _) rfl ?_
  obtain rfl := Option.some.inj h
  exact .rt Tryz.func83 (.t rfl <| .n) .n rfl rfl

theorem chunk_pack_c {z : Option Nat} {l : List Int} {bits : Int} {many : Int} {r : Int} (h : chunk_pack z l bits many = some r) :
    AC Tryz.prog 85 [.ro (.list 1 (List.map (ei .i64) l)), .ro (.int .i64 bits), .ro (.int .i64 many)] (.ro (.int .u16 r)) [] := by
  refine AC.of Tryz.func85 rfl rfl fun w M0 hM => ?_
  unfold chunk_pack at h
  refine .sq ?_
  refine .rg (u (asg (.i rfl)) <| .nil _) rfl ?_
  refine .sq ?_
  refine .rg (u (asg (.i rfl)) <| .nil _) rfl ?_
  refine .sq ?_
  refine .sq ?_
  refine .rg (u (mv (.t rfl)) <| u (mv (.i rfl)) <| .nil _) rfl ?_
  refine .bl ?_
  unfold chunk_pack_l1 at h
  refine .kq (.lo (fun (s : Int × Int) => ⟨[(0, .ro (.list 1 (List.map (ei .i64) l))), (1, .ro (.int .i64 bits)), (7, .ro (.int .i64 s.1)), (9, .ro (.int .i64 many)), (10, .ro (.int .i64 s.2))], []⟩) h ?_) (.c rfl (.c rfl (.c rfl (.c rfl (.c rfl .n))))) .n
  rintro ⟨v1, v2⟩ u1 h ih1 hx1
  replace h : chunk_pack_s1 z l bits many v1 v2 = _ := h
  unfold chunk_pack_s1 at h
  refine .sq ?_
  refine .rg (u (bc (.t rfl) (.t rfl) rfl rfl) <| .nil _) rfl ?_
  refine .sq ?_
  refine .bq h (.t rfl) (fun h => ?_) (fun h => ?_)
  · refine .skp ?_
    refine .sq ?_
    refine .bl ?_
    refine .sq ?_
    refine .rg (u (mv (.t rfl)) <| u (asg (.t rfl)) <| .nil _) rfl ?_
    refine .sq ?_
    refine be h fun x3 hx3 h => ?_
    refine .rg (u (mv (.t rfl)) <| u (mv (.t rfl)) <| u (sho (.t rfl) (.t rfl) rfl hx3) <| u (asg (.t rfl)) <| .nil _) rfl ?_
    refine .sq ?_
    refine .rg (u (mv (.t rfl)) <| u (mv (.t rfl)) <| u (lnm sf56 (.t rfl)) <| u (bc (.t rfl) (.t rfl) rfl rfl) <| .nil _) rfl ?_
    refine .jq (t := some u1) (fun (a : Int) => ⟨[(0, .ro (.list 1 (List.map (ei .i64) l))), (1, .ro (.int .i64 bits)), (7, .ro (.int .i64 a)), (9, .ro (.int .i64 many)), (10, .ro (.int .i64 v2))], []⟩) (fun (a : Int) => chunk_pack_j2 z v2 a) ?_ (fun J2 => ?_)
    · intro v4 h
      replace h : chunk_pack_j2 z v2 v4 = _ := h
      unfold chunk_pack_j2 at h
      refine .ib ?_
      refine .rg (u (bi (.t rfl) (.i rfl) rfl) <| u (mv (.t rfl)) <| .nil _) rfl ?_
      exact .kq (.il (ih1 (v4, (ar .add .i64 v2 1)) (nxi h))) (.c rfl (.c rfl (.c rfl (.c rfl (.c rfl .n))))) .n
    refine .bq h (.t rfl) (fun h => ?_) (fun h => ?_)
    · refine be h fun x5 hx5 h => ?_
      refine .rg (u (mv (.t rfl)) <| u (mv (.t rfl)) <| u (mv (.t rfl)) <| u (ia sf56 (.t rfl) (.t rfl) (ix_map (ei .i64) hx5)) <| u (lr tf3 (.t rfl) rfl) <| u (bi (.t rfl) (.t rfl) rfl) <| u (asg (.t rfl)) <| .nil _) rfl ?_
      exact .kq (J2 (ar .or .i64 x3 x5) h) (.c rfl (.c rfl (.c rfl (.c rfl (.c rfl .n))))) .n
    · refine .skp ?_
      exact .kq (J2 x3 h) (.c rfl (.c rfl (.c rfl (.c rfl (.c rfl .n))))) .n
  · refine .xt rfl ?_
    replace h := mpR h hx1
    refine .sq ?_
    refine .rg (u (mv (.t rfl)) <| u (cv cv3_24 (.t rfl)) <| u (asg (.t rfl)) <| .nil _) rfl ?_
    obtain rfl := Option.some.inj h
    exact .rt Tryz.func85 (.t rfl <| .n) .n rfl rfl

theorem chunk_first_c {z : Option Nat} {l : List Int} {r : Int × Int} (h : chunk_first z l = some r) :
    AC Tryz.prog 76 [.ro (.list 1 (List.map (ei .i64) l))] (.ro (.tup [.int .u16 r.1, .int .i64 r.2])) [] := by
  refine AC.of Tryz.func76 rfl rfl fun w M0 hM => ?_
  unfold chunk_first at h
  refine .sq ?_
  refine .rg (u (asg (.i rfl)) <| u (asg (.i rfl)) <| .nil _) rfl ?_
  refine .sq ?_
  refine be h fun x1 hx1 h => ?_
  refine .rg (u (mv (.t rfl)) <| cl [] cf84 (chunk_run_c hx1) (.c (.t rfl) <| .n) (.inl rfl) <| u (asg (.t rfl)) <| .nil _) rfl ?_
  refine .sq ?_
  refine .sq ?_
  refine .rg (u (mv (.t rfl)) <| u (bc (.t rfl) (.i rfl) rfl rfl) <| u (mv (.t rfl)) <| gd rfl rfl (fun hB => mv (.t rfl)) <| gd rfl rfl (fun hB => mv (.t rfl)) <| gd rfl rfl (fun hB => lnm sf56 (.m rfl hB)) <| gd rfl rfl (fun hB => bc (.m rfl hB) (.m rfl hB) rfl rfl) <| u (pko (.t rfl) (.t rfl)) <| .nil _) rfl ?_
  refine .bq h (.t rfl) (fun h => ?_) (fun h => ?_)
  · refine .sq ?_
    refine .rg (u (mv (.t rfl)) <| u (mn (.t rfl) (.i rfl)) <| u (asg (.t rfl)) <| .nil _) rfl ?_
    refine .sq ?_
    refine be h fun x2 hx2 h => ?_
    refine .rg (u (mv (.t rfl)) <| u (ia sf56 (.t rfl) (.i rfl) (ix_map (ei .i64) hx2)) <| u (lr tf3 (.t rfl) rfl) <| u (sh (.t rfl) (.i rfl) rfl (by decide)) <| u (mv (.t rfl)) <| u (bi (.t rfl) (.t rfl) rfl) <| u (cv cv3_24 (.t rfl)) <| u (mv (.t rfl)) <| u (asg (.t rfl)) <| u (asg (.t rfl)) <| .nil _) rfl ?_
    obtain rfl := Option.some.inj h
    exact .rt Tryz.func76 (.t rfl <| .t rfl <| .n) .n rfl rfl
  · refine .skp ?_
    refine .sq ?_
    refine .rg (u (mv (.t rfl)) <| u (lnm sf56 (.t rfl)) <| u (mn (.t rfl) (.i rfl)) <| u (asg (.t rfl)) <| .nil _) rfl ?_
    refine .sq ?_
    refine .sq ?_
    refine be h fun x3 hx3 h => ?_
    refine be h fun x4 hx4 h => ?_
    refine .rg (u (mv (.t rfl)) <| u (mv (.t rfl)) <| u (sl sf56 (.t rfl) .n (.s (.t rfl)) hx3) <| cl [] cf83 (slices_Contains_c hx4) (.c (.t rfl) <| .c (.i rfl) <| .n) (.inl rfl) <| u (no (.t rfl)) <| .nil _) rfl ?_
    refine .bq h (.t rfl) (fun h => ?_) (fun h => ?_)
    · refine .sq ?_
      refine be h fun x5 hx5 h => ?_
      refine be h fun x6 hx6 h => ?_
      refine .rg (u (mv (.t rfl)) <| u (mv (.t rfl)) <| u (sl sf56 (.t rfl) .n (.s (.t rfl)) hx5) <| cl [] cf85 (chunk_pack_c hx6) (.c (.t rfl) <| .c (.i rfl) <| .c (.i rfl) <| .n) (.inl rfl) <| u (bi (.i rfl) (.t rfl) rfl) <| u (mv (.t rfl)) <| u (asg (.t rfl)) <| u (asg (.t rfl)) <| .nil _) rfl ?_
      obtain rfl := Option.some.inj h
      exact .rt Tryz.func76 (.t rfl <| .t rfl <| .n) .n rfl rfl
    · refine .skp ?_
      refine .sq ?_
      refine .rg (u (mv (.t rfl)) <| u (lnm sf56 (.t rfl)) <| u (mn (.t rfl) (.i rfl)) <| u (asg (.t rfl)) <| .nil _) rfl ?_
      refine .sq ?_
      refine be h fun x7 hx7 h => ?_
      refine be h fun x8 hx8 h => ?_
      refine .rg (u (mv (.t rfl)) <| u (mv (.t rfl)) <| u (sl sf56 (.t rfl) .n (.s (.t rfl)) hx7) <| cl [] cf85 (chunk_pack_c hx8) (.c (.t rfl) <| .c (.i rfl) <| .c (.i rfl) <| .n) (.inl rfl) <| u (bi (.i rfl) (.t rfl) rfl) <| u (mv (.t rfl)) <| u (asg (.t rfl)) <| u (asg (.t rfl)) <| .nil _) rfl ?_
      obtain rfl := Option.some.inj h
      exact .rt Tryz.func76 (.t rfl <| .t rfl <| .n) .n rfl rfl

theorem chunk_Write_c {z : Option Nat} {l : List Int} {r : List Int × Int} (h : chunk_Write z l = some r) :
    AC Tryz.prog 127 [.ro (.list 1 (List.map (ei .i64) l))] (.tup [.own 0, .ro (.int .i64 r.2)]) [(0, .arr 24 1 (List.map (ei .u16) r.1))] := by
  refine AC.of Tryz.func127 rfl rfl fun w M0 hM => ?_
  unfold chunk_Write at h
  refine .sq ?_
  refine .rg (anm (ei .u16) 2 24 1 rfl rfl <| u (asg (.i rfl)) <| .nil _) rfl ?_
  refine .sq ?_
  refine .sq ?_
  refine be h fun x1 hx1 h => ?_
  refine .rg (u (mv (.t rfl)) <| cl [] cf134 (slices_ContainsFunc_int_c cf135 (fun y0 q h => by obtain rfl := Option.some.inj h; exact chunk_Write_1_c y0) hx1) (.c (.t rfl) <| .c .f <| .n) (.inl rfl) <| .nil _) rfl ?_
  refine .bq h (.t rfl) (fun h => ?_) (fun h => ?_)
  · refine .sq ?_
    refine .rg (anm (ei .u16) 100002 24 1 rfl rfl <| u (asg (.i rfl)) <| .nil _) rfl ?_
    obtain rfl := Option.some.inj h
    refine .ks (l := [(2, .own 0), (3, .ro (.int .i64 1))]) (o := [(0, some (.arr 24 1 (List.map (ei .u16) [])))]) (fun i => bif Nat.beq i 0 then 100002 else i) ?_ (.c rfl (.c rfl .n)) (.c rfl .n) rfl
    exact .rt Tryz.func127 (.t rfl <| .t rfl <| .n) (.c rfl .n) rfl rfl
  · refine .skp ?_
    refine .sq ?_
    refine .rg (anm (ei .u16) 4 24 1 rfl rfl <| .nil _) rfl ?_
    refine .sq ?_
    refine .bl ?_
    unfold chunk_Write_l1 at h
    refine .kq (.lo (fun (s : List Int × List Int) => ⟨[(0, .ro (.list 1 (List.map (ei .i64) s.1))), (4, .own 4)], [(4, some (.arr 24 1 (List.map (ei .u16) s.2)))]⟩) h ?_) (.c rfl (.c rfl .n)) (.c rfl .n)
    rintro ⟨v2, v3⟩ u1 h ih1 hx1
    replace h : chunk_Write_s1 z v2 v3 = _ := h
    unfold chunk_Write_s1 at h
    refine .sq ?_
    refine .sq ?_
    refine .rg (u (mv (.t rfl)) <| u (lnm sf56 (.t rfl)) <| u (bc (.t rfl) (.i rfl) rfl rfl) <| .nil _) rfl ?_
    refine .bq h (.t rfl) (fun h => ?_) (fun h => ?_)
    · refine .skp ?_
      refine .bl ?_
      refine .sq ?_
      refine be h fun x4 hx4 h => ?_
      refine .rg (u (mv (.t rfl)) <| cl [] cf76 (chunk_first_c hx4) (.c (.t rfl) <| .n) (.inl rfl) <| u (mv (.t rfl)) <| u (ex (.t rfl) rfl rfl) <| u (ex (.t rfl) rfl rfl) <| u (asg (.t rfl)) <| u (asg (.t rfl)) <| .nil _) rfl ?_
      refine be h fun x5 hx5 h => ?_
      refine be h fun x6 hx6 h => ?_
      refine .rd mixed (u (mv (.t rfl)) <| u (mv (.t rfl)) <| bs (F := (ei .u16)) (l := [x4.1]) 19 pf100 (.c (.t rfl) rfl <| .n) rfl (fun _ _ => rfl) rfl rfl <| apo 20 pf100 (.t rfl) rfl (.t rfl) rfl hx5 rfl <| u (mv (.t rfl)) <| u (mv (.t rfl)) <| u (sl sf56 (.t rfl) (.s (.t rfl)) .n hx6) <| u (asg (.t rfl)) <| u (asg (.t rfl)) <| .nil _) (by kernel_rfl) rfl ?_
      refine .ib ?_
      exact .ks (fun i => bif Nat.beq i 4 then 20 else i) (.il (ih1 (x6, x5) (nxi h))) (.c rfl (.c rfl .n)) (.c rfl .n) rfl
    · refine .xt rfl ?_
      replace h := mpR h hx1
      refine .sq ?_
      refine .rg (u (mv (.t rfl)) <| u (asg (.t rfl)) <| u (asg (.i rfl)) <| .nil _) rfl ?_
      obtain rfl := Option.some.inj h
      refine .ks (l := [(2, .own 0), (3, .ro (.int .i64 0))]) (o := [(0, some (.arr 24 1 (List.map (ei .u16) v3)))]) (fun i => bif Nat.beq i 0 then 4 else i) ?_ (.c rfl (.c rfl .n)) (.c rfl .n) rfl
      exact .rt Tryz.func127 (.t rfl <| .t rfl <| .n) (.c rfl .n) rfl rfl

theorem chunk_Write_r {z : Option Nat} {l : List Int} {r : List Int × Int} (h : chunk_Write z l = some r) :
    AC Tryz.prog 127 [.ro (.list 1 (List.map (ei .i64) l))] (.ro (.tup [.list 1 (List.map (ei .u16) r.1), .int .i64 r.2])) [] := AC.fz (chunk_Write_c h) rfl

theorem arrive_delta_c {p_s : Seen} {r : List Int} (h : arrive_delta p_s = some r) :
    AC Tryz.prog 129 [.ro (enc_Seen p_s)] (.ro (.list 1 (List.map e8 r))) [] := by
  refine AC.of Tryz.func129 rfl rfl fun w M0 hM => ?_
  unfold arrive_delta at h
  refine .sq ?_
  refine .rg (bx 1 (.t rfl) rfl rfl <| u (asg (.n (sz := 1) (F := e8))) <| .nil _) rfl ?_
  refine .sq ?_
  refine .sq ?_
  refine .rg (u (fa ff90_0 (.t rfl)) <| u (ld tf3 (.t rfl) rfl rfl) <| u (bc (.t rfl) (.i rfl) rfl rfl) <| .nil _) rfl ?_
  refine .bq h (.t rfl) (fun h => ?_) (fun h => ?_)
  · refine .sq ?_
    refine be h fun x1 hx1 h => ?_
    refine .rg (u (fa ff90_1 (.t rfl)) <| u (ld tf3 (.t rfl) rfl rfl) <| cnf 12000 cf126 (octet_PutSigned_c hx1) (.c (.t rfl) <| .c (.i rfl) <| .n) rfl rfl rfl <| u (mv (.t rfl)) <| u (ex (.t rfl) rfl rfl) <| u (ex (.t rfl) rfl rfl) <| u (asg (.t rfl)) <| u (asg (.t rfl)) <| .nil _) rfl ?_
    refine .sq ?_
    refine .rg (u (mv (.t rfl)) <| u (asg (.t rfl)) <| .nil _) rfl ?_
    refine .fz 12000 rfl ?_
    obtain rfl := Option.some.inj h
    exact .rt Tryz.func129 (.t rfl <| .n) .n rfl rfl
  · refine .skp ?_
    refine .sq ?_
    refine be h fun x2 hx2 h => ?_
    refine .rg (u (fa ff90_1 (.t rfl)) <| u (ld tf3 (.t rfl) rfl rfl) <| u (cv cv3_5 (.t rfl)) <| nu (bsn (F := e8) (l := [(IntKind.u8.wrap p_s.delta)]) pf34 (.c (.t rfl) rfl <| .n) rfl (fun _ _ => rfl) rfl) <| u (fa ff90_0 (.t rfl)) <| u (ld tf3 (.t rfl) rfl rfl) <| u (sl sf34 (.t rfl) .n (.s (.t rfl)) hx2) <| u (asg (.t rfl)) <| .nil _) rfl ?_
    obtain rfl := Option.some.inj h
    exact .rt Tryz.func129 (.t rfl <| .n) .n rfl rfl

theorem pad_zeros_c {n : Int} {r : List Int} (h : pad_zeros n = some r) :
    AC Tryz.prog 136 [.ro (.int .i64 n)] (.own 0) [(0, .arr 5 1 (List.map e8 r))] := by
  refine AC.of Tryz.func136 rfl rfl fun w M0 hM => ?_
  unfold pad_zeros at h
  refine .sq ?_
  refine .rg (anm e8 2 5 1 rfl rfl <| .nil _) rfl ?_
  refine .sq ?_
  refine be h fun x1 hx1 h => ?_
  refine .rg (u (mv (.t rfl)) <| mks (F := e8) (z0 := 0) 4 pf34 zf5 (.t rfl) (.t rfl) hx1 rfl <| u (asg (.t rfl)) <| .nil _) rfl ?_
  obtain rfl := Option.some.inj h
  refine .ks (l := [(2, .own 0)]) (o := [(0, some (.arr 5 1 (List.map e8 x1)))]) (fun i => bif Nat.beq i 0 then 4 else i) ?_ (.c rfl .n) (.c rfl .n) rfl
  exact .rt Tryz.func136 (.t rfl <| .n) (.c rfl .n) rfl rfl

theorem pad_zeros_r {n : Int} {r : List Int} (h : pad_zeros n = some r) :
    AC Tryz.prog 136 [.ro (.int .i64 n)] (.ro (.list 1 (List.map e8 r))) [] := AC.fz (pad_zeros_c h) rfl

theorem pad_Fill_c {z : Option Nat} {b : List Int} {r : List Int} (h : pad_Fill z b = some r) :
    AC Tryz.prog 130 [.ro (.list 1 (List.map e8 b))] (.own 0) [(0, .arr 5 1 (List.map e8 r))] := by
  refine AC.of Tryz.func130 rfl rfl fun w M0 hM => ?_
  unfold pad_Fill at h
  refine .sq ?_
  refine .rg (anm e8 2 5 1 rfl rfl <| .nil _) rfl ?_
  refine .sq ?_
  refine be h fun x1 hx1 h => ?_
  refine be h fun x2 hx2 h => ?_
  refine .rg (u (mv (.t rfl)) <| u (mv (.t rfl)) <| u (lnm sf34 (.t rfl)) <| u (di (.t rfl) (.i rfl) rfl (by decide)) <| u (bi (.i rfl) (.t rfl) rfl) <| u (di (.t rfl) (.i rfl) rfl (by decide)) <| cl [] cf136 (pad_zeros_r hx1) (.c (.t rfl) <| .n) (.inl rfl) <| nu (bsn (F := (el 1 e8)) (l := [b, x1]) pf141 (.c (.t rfl) rfl <| .c (.t rfl) rfl <| .n) rfl (fun _ _ => rfl) rfl) <| cnf 12000 cf68 (slices_Concat_c hx2) (.c (.t rfl) <| .n) rfl rfl rfl <| u (asg (.t rfl)) <| .nil _) rfl ?_
  obtain rfl := Option.some.inj h
  refine .ks (l := [(2, .own 0)]) (o := [(0, some (.arr 5 1 (List.map e8 x2)))]) (fun i => bif Nat.beq i 0 then 12000 else i) ?_ (.c rfl .n) (.c rfl .n) rfl
  exact .rt Tryz.func130 (.t rfl <| .n) (.c rfl .n) rfl rfl

theorem pad_Fill_r {z : Option Nat} {b : List Int} {r : List Int} (h : pad_Fill z b = some r) :
    AC Tryz.prog 130 [.ro (.list 1 (List.map e8 b))] (.ro (.list 1 (List.map e8 r))) [] := AC.fz (pad_Fill_c h) rfl

theorem arrive_Write_c {z : Option Nat} {p_a : Arrive} {r : List Int × Int} (h : arrive_Write z p_a = some r) :
    AC Tryz.prog 124 [.ro (enc_Arrive p_a)] (.tup [.own 0, .ro (.int .i64 r.2)]) [(0, .arr 5 1 (List.map e8 r.1))] := by
  refine AC.of Tryz.func124 rfl rfl fun w M0 hM => ?_
  unfold arrive_Write at h
  refine .sq ?_
  refine .rg (bx 1 (.t rfl) rfl rfl <| anm e8 2 5 1 rfl rfl <| u (asg (.i rfl)) <| .nil _) rfl ?_
  refine .sq ?_
  refine .sq ?_
  refine be h fun x1 hx1 h => ?_
  refine .rg (u (ld tf27 (.t rfl) rfl rfl) <| cl [] cf125 (arrive_Right_c hx1) (.c (.t rfl) <| .n) (.inl rfl) <| u (no (.t rfl)) <| .nil _) rfl ?_
  refine .bq h (.t rfl) (fun h => ?_) (fun h => ?_)
  · refine .sq ?_
    refine .rg (anm e8 100002 5 1 rfl rfl <| u (asg (.i rfl)) <| .nil _) rfl ?_
    obtain rfl := Option.some.inj h
    refine .ks (l := [(2, .own 0), (3, .ro (.int .i64 1))]) (o := [(0, some (.arr 5 1 (List.map e8 [])))]) (fun i => bif Nat.beq i 0 then 100002 else i) ?_ (.c rfl (.c rfl .n)) (.c rfl .n) rfl
    exact .rt Tryz.func124 (.t rfl <| .t rfl <| .n) (.c rfl .n) rfl rfl
  · refine .skp ?_
    refine .sq ?_
    refine be h fun x2 hx2 h => ?_
    refine .rg (u (fa ff27_0 (.t rfl)) <| u (ld tf24 (.t rfl) rfl rfl) <| u (cv cv24_64 (.t rfl)) <| cnf 27000 cf45 (octet_Put_c hx2) (.c (.t rfl) <| .c (.i rfl) <| .n) rfl rfl rfl <| u (mv (.t rfl)) <| u (ex (.t rfl) rfl rfl) <| u (ex (.t rfl) rfl rfl) <| u (asg (.t rfl)) <| u (asg (.t rfl)) <| .nil _) rfl ?_
    refine .sq ?_
    refine be h fun x3 hx3 h => ?_
    refine .rg (u (fa ff27_3 (.t rfl)) <| u (ld tf25 (.t rfl) rfl rfl) <| u (lnm sf25 (.t rfl)) <| u (cv cv3_64 (.t rfl)) <| cnf 35000 cf45 (octet_Put_c hx3) (.c (.t rfl) <| .c (.i rfl) <| .n) rfl rfl rfl <| u (mv (.t rfl)) <| u (ex (.t rfl) rfl rfl) <| u (ex (.t rfl) rfl rfl) <| u (asg (.t rfl)) <| u (asg (.t rfl)) <| .nil _) rfl ?_
    refine .sq ?_
    refine be h fun x4 hx4 h => ?_
    refine .rg (u (fa ff27_1 (.t rfl)) <| u (ld tf3 (.t rfl) rfl rfl) <| cnf 41000 cf126 (octet_PutSigned_c hx4) (.c (.t rfl) <| .c (.i rfl) <| .n) rfl rfl rfl <| u (mv (.t rfl)) <| u (ex (.t rfl) rfl rfl) <| u (ex (.t rfl) rfl rfl) <| u (asg (.t rfl)) <| u (asg (.t rfl)) <| .nil _) rfl ?_
    refine .sq ?_
    refine .fz 27000 rfl ?_
    refine .fz 35000 rfl ?_
    refine .fz 41000 rfl ?_
    refine be h fun x5 hx5 h => ?_
    refine .rg (u (mv (.t rfl)) <| u (mv (.t rfl)) <| u (mv (.t rfl)) <| u (fa ff27_2 (.t rfl)) <| u (ld tf5 (.t rfl) rfl rfl) <| nu (bsn (F := e8) (l := [p_a.count]) pf34 (.c (.t rfl) rfl <| .n) rfl (fun _ _ => rfl) rfl) <| nu (bsn (F := (el 1 e8)) (l := [x2.1, x3.1, x4.1, [p_a.count]]) pf141 (.c (.t rfl) rfl <| .c (.t rfl) rfl <| .c (.t rfl) rfl <| .c (.t rfl) rfl <| .n) rfl (fun _ _ => rfl) rfl) <| cnf 51000 cf46 (octet_Join_c hx5) (.c (.t rfl) <| .n) rfl rfl rfl <| u (asg (.t rfl)) <| .nil _) rfl ?_
    refine .sq ?_
    refine be h fun x6 hx6 h => ?_
    refine be h fun x7 hx7 h => ?_
    refine .rg (u (fa ff27_3 (.t rfl)) <| u (ld tf25 (.t rfl) rfl rfl) <| cl [] cf128 (arrive_whats_r hx6) (.c (.t rfl) <| .n) (.inl rfl) <| cnf 56000 cf127 (chunk_Write_c hx7) (.c (.t rfl) <| .n) rfl rfl rfl <| u (mv (.t rfl)) <| u (ex (.t rfl) rfl rfl) <| u (ex (.t rfl) rfl rfl) <| u (asg (.t rfl)) <| u (asg (.t rfl)) <| .nil _) rfl ?_
    refine .sq ?_
    refine .sq ?_
    refine .rg (u (mv (.t rfl)) <| u (lom sf100 (.t rfl) rfl) <| u (mv (.i rfl)) <| .nil _) rfl ?_
    refine .bl ?_
    unfold arrive_Write_l1 at h
    refine .ks (fun i => bif Nat.beq i 10 then 51000 else i) (.lo (fun (s : List Int × Int) => ⟨[(1, .ptr 1 0), (10, .own 10), (58, .own 56000), (59, .ro (.int .i64 (x7.1.length : Int))), (60, .ro (.int .i64 s.2))], [(1, some (.box [.ro (.int .u16 p_a.base), .ro (.int .i64 p_a.time), .ro (.int .u8 p_a.count), .ro (.list 2 (List.map cells_Seen p_a.seen))])), (10, some (.arr 5 1 (List.map e8 s.1))), (56000, some (.arr 24 1 (List.map (ei .u16) x7.1)))]⟩) h ?_) (.c rfl (.c rfl (.c rfl (.c rfl (.c rfl .n))))) (.c rfl (.c rfl (.c rfl .n))) rfl
    rintro ⟨v8, v9⟩ u1 h ih1 hx1
    replace h : arrive_Write_s1 z p_a x7 v8 v9 = _ := h
    unfold arrive_Write_s1 at h
    refine .sq ?_
    refine .rg (u (bc (.t rfl) (.t rfl) rfl rfl) <| .nil _) rfl ?_
    refine .sq ?_
    refine .bq h (.t rfl) (fun h => ?_) (fun h => ?_)
    · refine .skp ?_
      refine .sq ?_
      refine .bl ?_
      refine .sq ?_
      refine be h fun x10 hx10 h => ?_
      refine .rg (u (io sf100 (.t rfl) rfl (.t rfl) (ix_map (ei .u16) hx10)) <| u (le tf24 (.t rfl) rfl (ix_lt (ix_map _ hx10)).2.2 rfl) <| u (asg (.t rfl)) <| .nil _) rfl ?_
      refine .sq ?_
      refine be h fun x11 hx11 h => ?_
      refine .rg (u (mv (.t rfl)) <| u (cv cv24_64 (.t rfl)) <| cnf 68000 cf45 (octet_Put_c hx11) (.c (.t rfl) <| .c (.i rfl) <| .n) rfl rfl rfl <| u (mv (.t rfl)) <| u (ex (.t rfl) rfl rfl) <| u (ex (.t rfl) rfl rfl) <| u (asg (.t rfl)) <| u (asg (.t rfl)) <| .nil _) rfl ?_
      refine be h fun x12 hx12 h => ?_
      refine .rg (u (mv (.t rfl)) <| u (mv (.t rfl)) <| apo 72 pf34 (.t rfl) rfl (.t rfl) rfl hx12 rfl <| u (asg (.t rfl)) <| .nil _) rfl ?_
      refine .ib ?_
      refine .rg (u (bi (.t rfl) (.i rfl) rfl) <| u (mv (.t rfl)) <| .nil _) rfl ?_
      exact .ks (fun i => bif Nat.beq i 10 then 72 else i) (.il (ih1 (x12, (ar .add .i64 v9 1)) (nxi h))) (.c rfl (.c rfl (.c rfl (.c rfl (.c rfl .n))))) (.c rfl (.c rfl (.c rfl .n))) rfl
    · refine .xt rfl ?_
      replace h := mpR h hx1
      refine .sq ?_
      refine .sq ?_
      refine .rg (u (fa ff27_3 (.t rfl)) <| u (ld tf25 (.t rfl) rfl rfl) <| u (lnm sf25 (.t rfl)) <| u (mv (.i rfl)) <| .nil _) rfl ?_
      refine .bl ?_
      unfold arrive_Write_l2 at h
      refine .kq (.lo (fun (s : List Int × Int) => ⟨[(10, .own 10), (75, .ro (.list 2 (List.map cells_Seen p_a.seen))), (76, .ro (.int .i64 (p_a.seen.length : Int))), (77, .ro (.int .i64 s.2))], [(10, some (.arr 5 1 (List.map e8 s.1)))]⟩) h ?_) (.c rfl (.c rfl (.c rfl (.c rfl .n)))) (.c rfl .n)
      rintro ⟨v13, v14⟩ u2 h ih2 hx2
      replace h : arrive_Write_s2 z p_a v13 v14 = _ := h
      unfold arrive_Write_s2 at h
      refine .sq ?_
      refine .rg (u (bc (.t rfl) (.t rfl) rfl rfl) <| .nil _) rfl ?_
      refine .sq ?_
      refine .bq h (.t rfl) (fun h => ?_) (fun h => ?_)
      · refine .skp ?_
        refine .sq ?_
        refine .bl ?_
        refine .sq ?_
        refine be h fun x15 hx15 h => ?_
        refine .rg (u (ia sf25 (.t rfl) (.t rfl) (ix_map cells_Seen hx15)) <| u (lr tf90 (.t rfl) rfl) <| al 18 zf90 rfl <| st tf90 (.t rfl) rfl (.t rfl) rfl rfl rfl <| .nil _) rfl ?_
        refine be h fun x16 hx16 h => ?_
        refine be h fun x17 hx17 h => ?_
        refine .rg (u (mv (.t rfl)) <| u (ld tf90 (.t rfl) rfl rfl) <| cl [] cf129 (arrive_delta_c hx16) (.c (.t rfl) <| .n) (.inl rfl) <| ap 84 pf34 (.t rfl) rfl (.t rfl) hx17 rfl <| u (asg (.t rfl)) <| .nil _) rfl ?_
        refine .ib ?_
        refine .rg (u (bi (.t rfl) (.i rfl) rfl) <| u (mv (.t rfl)) <| .nil _) rfl ?_
        exact .ks (fun i => bif Nat.beq i 10 then 84 else i) (.il (ih2 (x17, (ar .add .i64 v14 1)) (nxi h))) (.c rfl (.c rfl (.c rfl (.c rfl .n)))) (.c rfl .n) rfl
      · refine .xt rfl ?_
        replace h := mpR h hx2
        refine .sq ?_
        refine .fz 10 rfl ?_
        refine be h fun x18 hx18 h => ?_
        refine .rg (u (mv (.t rfl)) <| cnf 88000 cf130 (pad_Fill_c hx18) (.c (.t rfl) <| .n) rfl rfl rfl <| u (asg (.t rfl)) <| u (asg (.i rfl)) <| .nil _) rfl ?_
        obtain rfl := Option.some.inj h
        refine .ks (l := [(2, .own 0), (3, .ro (.int .i64 0))]) (o := [(0, some (.arr 5 1 (List.map e8 x18)))]) (fun i => bif Nat.beq i 0 then 88000 else i) ?_ (.c rfl (.c rfl .n)) (.c rfl .n) rfl
        exact .rt Tryz.func124 (.t rfl <| .t rfl <| .n) (.c rfl .n) rfl rfl

theorem arrive_Write_r {z : Option Nat} {p_a : Arrive} {r : List Int × Int} (h : arrive_Write z p_a = some r) :
    AC Tryz.prog 124 [.ro (enc_Arrive p_a)] (.ro (.tup [.list 1 (List.map e8 r.1), .int .i64 r.2])) [] := AC.fz (arrive_Write_c h) rfl

theorem feed_arrivals_bytes_c {z : Option Nat} {m : feed_arrivals} {r : List Int × Int} (h : feed_arrivals_bytes z m = some r) :
    AC Tryz.prog 122 [.ro (enc_feed_arrivals m)] (.tup [.own 0, .ro (.int .i64 r.2)]) [(0, .arr 5 1 (List.map e8 r.1))] := by
  refine AC.of Tryz.func122 rfl rfl fun w M0 hM => ?_
  unfold feed_arrivals_bytes at h
  refine .sq ?_
  refine .rg (bx 1 (.t rfl) rfl rfl <| anm e8 2 5 1 rfl rfl <| u (asg (.i rfl)) <| .nil _) rfl ?_
  refine .sq ?_
  refine be h fun x1 hx1 h => ?_
  refine .rg (u (fa ff111_0 (.t rfl)) <| u (ld tf27 (.t rfl) rfl rfl) <| cnf 7000 cf124 (arrive_Write_c hx1) (.c (.t rfl) <| .n) rfl rfl rfl <| u (ex (.t rfl) rfl rfl) <| u (ex (.t rfl) rfl rfl) <| u (asg (.t rfl)) <| u (asg (.t rfl)) <| .nil _) rfl ?_
  obtain rfl := Option.some.inj h
  refine .ks (l := [(2, .own 0), (3, .ro (.int .i64 x1.2))]) (o := [(0, some (.arr 5 1 (List.map e8 x1.1)))]) (fun i => bif Nat.beq i 0 then 7000 else i) ?_ (.c rfl (.c rfl .n)) (.c rfl .n) rfl
  exact .rt Tryz.func122 (.t rfl <| .t rfl <| .n) (.c rfl .n) rfl rfl

theorem feed_arrivals_bytes_r {z : Option Nat} {m : feed_arrivals} {r : List Int × Int} (h : feed_arrivals_bytes z m = some r) :
    AC Tryz.prog 122 [.ro (enc_feed_arrivals m)] (.ro (.tup [.list 1 (List.map e8 r.1), .int .i64 r.2])) [] := AC.fz (feed_arrivals_bytes_c h) rfl

theorem fresh_Write_c {z : Option Nat} {l : List Entry} {r : List Int × Int} (h : fresh_Write z l = some r) :
    AC Tryz.prog 140 [.ro (.list 2 (List.map cells_Entry l))] (.tup [.own 0, .ro (.int .i64 r.2)]) [(0, .arr 5 1 (List.map e8 r.1))] := by
  refine AC.of Tryz.func140 rfl rfl fun w M0 hM => ?_
  unfold fresh_Write at h
  refine .sq ?_
  refine .rg (anm e8 2 5 1 rfl rfl <| u (asg (.i rfl)) <| .nil _) rfl ?_
  refine .sq ?_
  refine .sq ?_
  refine .rg (u (mv (.t rfl)) <| u (lnm sf28 (.t rfl)) <| u (bc (.t rfl) (.i rfl) rfl rfl) <| u (mv (.t rfl)) <| gd rfl rfl (fun hB => mv (.t rfl)) <| gd rfl rfl (fun hB => lnm sf28 (.m rfl hB)) <| gd rfl rfl (fun hB => bc (.m rfl hB) (.i rfl) rfl rfl) <| u (pko (.t rfl) (.t rfl)) <| .nil _) rfl ?_
  refine .bq h (.t rfl) (fun h => ?_) (fun h => ?_)
  · refine .sq ?_
    refine .rg (anm e8 100002 5 1 rfl rfl <| u (asg (.i rfl)) <| .nil _) rfl ?_
    obtain rfl := Option.some.inj h
    refine .ks (l := [(2, .own 0), (3, .ro (.int .i64 1))]) (o := [(0, some (.arr 5 1 (List.map e8 [])))]) (fun i => bif Nat.beq i 0 then 100002 else i) ?_ (.c rfl (.c rfl .n)) (.c rfl .n) rfl
    exact .rt Tryz.func140 (.t rfl <| .t rfl <| .n) (.c rfl .n) rfl rfl
  · refine .skp ?_
    refine .sq ?_
    refine .rg (anm e8 4 5 1 rfl rfl <| .nil _) rfl ?_
    refine .sq ?_
    refine .sq ?_
    refine .rg (u (mv (.t rfl)) <| u (lnm sf28 (.t rfl)) <| u (mv (.i rfl)) <| .nil _) rfl ?_
    refine .bl ?_
    unfold fresh_Write_l1 at h
    refine .kq (.lo (fun (s : List Int × Int) => ⟨[(4, .own 4), (17, .ro (.list 2 (List.map cells_Entry l))), (18, .ro (.int .i64 (l.length : Int))), (19, .ro (.int .i64 s.2))], [(4, some (.arr 5 1 (List.map e8 s.1)))]⟩) h ?_) (.c rfl (.c rfl (.c rfl (.c rfl .n)))) (.c rfl .n)
    rintro ⟨v1, v2⟩ u1 h ih1 hx1
    replace h : fresh_Write_s1 z l v1 v2 = _ := h
    unfold fresh_Write_s1 at h
    refine .sq ?_
    refine .rg (u (bc (.t rfl) (.t rfl) rfl rfl) <| .nil _) rfl ?_
    refine .sq ?_
    refine .bq h (.t rfl) (fun h => ?_) (fun h => ?_)
    · refine .skp ?_
      refine .sq ?_
      refine .bl ?_
      refine .sq ?_
      refine be h fun x3 hx3 h => ?_
      refine .rg (u (ia sf28 (.t rfl) (.t rfl) (ix_map cells_Entry hx3)) <| u (lr tf104 (.t rfl) rfl) <| al 6 zf104 rfl <| st tf104 (.t rfl) rfl (.t rfl) rfl rfl rfl <| .nil _) rfl ?_
      refine .sq ?_
      refine be h fun x4 hx4 h => ?_
      refine .rg (u (fa ff104_0 (.t rfl)) <| u (ld tf22 (.t rfl) rfl rfl) <| u (cv cv22_64 (.t rfl)) <| cnf 28000 cf45 (octet_Put_c hx4) (.c (.t rfl) <| .c (.i rfl) <| .n) rfl rfl rfl <| u (mv (.t rfl)) <| u (ex (.t rfl) rfl rfl) <| u (ex (.t rfl) rfl rfl) <| u (asg (.t rfl)) <| u (asg (.t rfl)) <| .nil _) rfl ?_
      refine be h fun x5 hx5 h => ?_
      refine be h fun x6 hx6 h => ?_
      refine be h fun x7 hx7 h => ?_
      refine .rg (u (mv (.t rfl)) <| u (mv (.t rfl)) <| u (fa ff104_1 (.t rfl)) <| u (ld tf5 (.t rfl) rfl rfl) <| bs (F := e8) (l := [x3.seq]) 34 pf34 (.c (.t rfl) rfl <| .n) rfl (fun _ _ => rfl) rfl rfl <| apo 35 pf34 (.t rfl) rfl (.t rfl) rfl hx5 rfl <| cl [35] cf130 (pad_Fill_r hx6) (.b (.t rfl) rfl <| .n) (.inl rfl) <| ap 37 pf34 (.t rfl) rfl (.t rfl) hx7 rfl <| u (asg (.t rfl)) <| .nil _) rfl ?_
      refine .ib ?_
      refine .rg (u (bi (.t rfl) (.i rfl) rfl) <| u (mv (.t rfl)) <| .nil _) rfl ?_
      exact .ks (fun i => bif Nat.beq i 4 then 37 else i) (.il (ih1 (x7, (ar .add .i64 v2 1)) (nxi h))) (.c rfl (.c rfl (.c rfl (.c rfl .n)))) (.c rfl .n) rfl
    · refine .xt rfl ?_
      replace h := mpR h hx1
      refine .sq ?_
      refine .rg (u (mv (.t rfl)) <| u (asg (.t rfl)) <| u (asg (.i rfl)) <| .nil _) rfl ?_
      obtain rfl := Option.some.inj h
      refine .ks (l := [(2, .own 0), (3, .ro (.int .i64 0))]) (o := [(0, some (.arr 5 1 (List.map e8 v1)))]) (fun i => bif Nat.beq i 0 then 4 else i) ?_ (.c rfl (.c rfl .n)) (.c rfl .n) rfl
      exact .rt Tryz.func140 (.t rfl <| .t rfl <| .n) (.c rfl .n) rfl rfl

theorem fresh_Write_r {z : Option Nat} {l : List Entry} {r : List Int × Int} (h : fresh_Write z l = some r) :
    AC Tryz.prog 140 [.ro (.list 2 (List.map cells_Entry l))] (.ro (.tup [.list 1 (List.map e8 r.1), .int .i64 r.2])) [] := AC.fz (fresh_Write_c h) rfl

theorem feed_entries_bytes_c {z : Option Nat} {m : List Entry} {r : List Int × Int} (h : feed_entries_bytes z m = some r) :
    AC Tryz.prog 138 [.ro (.list 2 (List.map cells_Entry m))] (.tup [.own 0, .ro (.int .i64 r.2)]) [(0, .arr 5 1 (List.map e8 r.1))] := by
  refine AC.of Tryz.func138 rfl rfl fun w M0 hM => ?_
  unfold feed_entries_bytes at h
  refine .sq ?_
  refine .rg (anm e8 2 5 1 rfl rfl <| u (asg (.i rfl)) <| .nil _) rfl ?_
  refine .sq ?_
  refine be h fun x1 hx1 h => ?_
  refine .rg (u (mv (.t rfl)) <| cnf 6000 cf140 (fresh_Write_c hx1) (.c (.t rfl) <| .n) rfl rfl rfl <| u (ex (.t rfl) rfl rfl) <| u (ex (.t rfl) rfl rfl) <| u (asg (.t rfl)) <| u (asg (.t rfl)) <| .nil _) rfl ?_
  obtain rfl := Option.some.inj h
  refine .ks (l := [(2, .own 0), (3, .ro (.int .i64 x1.2))]) (o := [(0, some (.arr 5 1 (List.map e8 x1.1)))]) (fun i => bif Nat.beq i 0 then 6000 else i) ?_ (.c rfl (.c rfl .n)) (.c rfl .n) rfl
  exact .rt Tryz.func138 (.t rfl <| .t rfl <| .n) (.c rfl .n) rfl rfl

theorem feed_entries_bytes_r {z : Option Nat} {m : List Entry} {r : List Int × Int} (h : feed_entries_bytes z m = some r) :
    AC Tryz.prog 138 [.ro (.list 2 (List.map cells_Entry m))] (.ro (.tup [.list 1 (List.map e8 r.1), .int .i64 r.2])) [] := AC.fz (feed_entries_bytes_c h) rfl

theorem remb_Right_c (p_r : Rate) :
    AC Tryz.prog 144 [.ro (enc_Rate p_r)] (.ro (.bool (remb_Right p_r))) [] := by
  obtain ⟨r, h⟩ : ∃ r, remb_Right p_r = r := ⟨_, rfl⟩
  rw [h]
  refine AC.of Tryz.func144 rfl rfl fun w M0 hM => ?_
  unfold remb_Right at h
  refine .sq ?_
  refine .rg (bx 1 (.t rfl) rfl rfl <| u (asg .b) <| .nil _) rfl ?_
  refine .sq ?_
  refine .rg (u (fa ff31_0 (.t rfl)) <| u (ld tf3 (.t rfl) rfl rfl) <| u (bc (.t rfl) (.i rfl) rfl rfl) <| u (mv (.t rfl)) <| gd rfl rfl (fun hB => fa ff31_0 (.t rfl)) <| gd rfl rfl (fun hB => ld tf3 (.m rfl hB) rfl rfl) <| gd rfl rfl (fun hB => bc (.m rfl hB) (.i rfl) rfl rfl) <| u (pka (.t rfl) (.t rfl)) <| u (mv (.t rfl)) <| gd rfl rfl (fun hB => fa ff31_1 (.t rfl)) <| gd rfl rfl (fun hB => ld tf22 (.m rfl hB) rfl rfl) <| gd rfl rfl (fun hB => sh (.m rfl hB) (.i rfl) rfl (by decide)) <| gd rfl rfl (fun hB => bc (.m rfl hB) (.i rfl) rfl rfl) <| u (pka (.t rfl) (.t rfl)) <| u (mv (.t rfl)) <| gd rfl rfl (fun hB => fa ff31_0 (.t rfl)) <| gd rfl rfl (fun hB => ld tf3 (.m rfl hB) rfl rfl) <| gd rfl rfl (fun hB => bc (.m rfl hB) (.i rfl) rfl rfl) <| gd rfl rfl (fun hB => mv (.m rfl hB)) <| gm rfl rfl (fun hB => fa ff31_1 (.t rfl)) <| gm rfl rfl (fun hB => ld tf22 (.m rfl hB) rfl rfl) <| gm rfl rfl (fun hB => bc (.m rfl hB) (.i rfl) rfl rfl) <| gd rfl rfl (fun hB => pkom (.m rfl hB) (.t rfl) hB) <| u (pka (.t rfl) (.t rfl)) <| u (mv (.t rfl)) <| gd rfl rfl (fun hB => fa ff31_2 (.t rfl)) <| gd rfl rfl (fun hB => ld tf29 (.m rfl hB) rfl rfl) <| gd rfl rfl (fun hB => lnm sf29 (.m rfl hB)) <| gd rfl rfl (fun hB => bc (.m rfl hB) (.i rfl) rfl rfl) <| u (pka (.t rfl) (.t rfl)) <| u (asg (.t rfl)) <| .nil _) rfl ?_
  subst h
  exact .rt Tryz.func144 (.t rfl <| .n) .n rfl rfl

theorem remb_Write_c {z : Option Nat} {p_r : Rate} {r : List Int × Int} (h : remb_Write z p_r = some r) :
    AC Tryz.prog 143 [.ro (enc_Rate p_r)] (.tup [.own 0, .ro (.int .i64 r.2)]) [(0, .arr 5 1 (List.map e8 r.1))] := by
  refine AC.of Tryz.func143 rfl rfl fun w M0 hM => ?_
  unfold remb_Write at h
  refine .sq ?_
  refine .rg (bx 1 (.t rfl) rfl rfl <| anm e8 2 5 1 rfl rfl <| u (asg (.i rfl)) <| .nil _) rfl ?_
  refine .sq ?_
  refine .sq ?_
  refine .rg (u (ld tf31 (.t rfl) rfl rfl) <| cl [] cf144 (remb_Right_c p_r) (.c (.t rfl) <| .n) (.inl rfl) <| u (no (.t rfl)) <| .nil _) rfl ?_
  refine .bq h (.t rfl) (fun h => ?_) (fun h => ?_)
  · refine .sq ?_
    refine .rg (anm e8 100002 5 1 rfl rfl <| u (asg (.i rfl)) <| .nil _) rfl ?_
    obtain rfl := Option.some.inj h
    refine .ks (l := [(2, .own 0), (3, .ro (.int .i64 1))]) (o := [(0, some (.arr 5 1 (List.map e8 [])))]) (fun i => bif Nat.beq i 0 then 100002 else i) ?_ (.c rfl (.c rfl .n)) (.c rfl .n) rfl
    exact .rt Tryz.func143 (.t rfl <| .t rfl <| .n) (.c rfl .n) rfl rfl
  · refine .skp ?_
    refine .sq ?_
    refine be h fun x1 hx1 h => ?_
    refine .rg (u (fa ff31_0 (.t rfl)) <| u (ld tf3 (.t rfl) rfl rfl) <| u (cv cv3_64 (.t rfl)) <| u (sh (.t rfl) (.i rfl) rfl (by decide)) <| u (fa ff31_1 (.t rfl)) <| u (ld tf22 (.t rfl) rfl rfl) <| u (cv cv22_64 (.t rfl)) <| u (bi (.t rfl) (.t rfl) rfl) <| cnf 24000 cf45 (octet_Put_c hx1) (.c (.t rfl) <| .c (.i rfl) <| .n) rfl rfl rfl <| u (mv (.t rfl)) <| u (ex (.t rfl) rfl rfl) <| u (ex (.t rfl) rfl rfl) <| u (asg (.t rfl)) <| u (asg (.t rfl)) <| .nil _) rfl ?_
    refine .sq ?_
    refine .fz 24000 rfl ?_
    refine be h fun x2 hx2 h => ?_
    refine .rg (bs (F := e8) (l := [82, 69, 77, 66]) 26 pf34 (.c (.i rfl) rfl <| .c (.i rfl) rfl <| .c (.i rfl) rfl <| .c (.i rfl) rfl <| .n) rfl (fun _ _ => rfl) rfl rfl <| cvb sf34 u85 (.t rfl) rfl rfl <| u (fa ff31_2 (.t rfl)) <| u (ld tf29 (.t rfl) rfl rfl) <| u (lnm sf29 (.t rfl)) <| u (cv cv3_5 (.t rfl)) <| nu (bsn (F := e8) (l := [(IntKind.u8.wrap (p_r.srcs.length : Int))]) pf34 (.c (.t rfl) rfl <| .n) rfl (fun _ _ => rfl) rfl) <| u (mv (.t rfl)) <| nu (bsn (F := (el 1 e8)) (l := [[82, 69, 77, 66], [(IntKind.u8.wrap (p_r.srcs.length : Int))], x1.1]) pf141 (.c (.t rfl) rfl <| .c (.t rfl) rfl <| .c (.t rfl) rfl <| .n) rfl (fun _ _ => rfl) rfl) <| cnf 36000 cf46 (octet_Join_c hx2) (.c (.t rfl) <| .n) rfl rfl rfl <| u (asg (.t rfl)) <| .nil _) rfl ?_
    refine .sq ?_
    refine .sq ?_
    refine .rg (u (fa ff31_2 (.t rfl)) <| u (ld tf29 (.t rfl) rfl rfl) <| u (lnm sf29 (.t rfl)) <| u (mv (.i rfl)) <| .nil _) rfl ?_
    refine .bl ?_
    unfold remb_Write_l1 at h
    refine .ks (fun i => bif Nat.beq i 6 then 36000 else i) (.lo (fun (s : List Int × Int) => ⟨[(6, .own 6), (37, .ro (.list 1 (List.map (ei .u32) p_r.srcs))), (38, .ro (.int .i64 (p_r.srcs.length : Int))), (39, .ro (.int .i64 s.2))], [(6, some (.arr 5 1 (List.map e8 s.1)))]⟩) h ?_) (.c rfl (.c rfl (.c rfl (.c rfl .n)))) (.c rfl .n) rfl
    rintro ⟨v3, v4⟩ u1 h ih1 hx1
    replace h : remb_Write_s1 z p_r v3 v4 = _ := h
    unfold remb_Write_s1 at h
    refine .sq ?_
    refine .rg (u (bc (.t rfl) (.t rfl) rfl rfl) <| .nil _) rfl ?_
    refine .sq ?_
    refine .bq h (.t rfl) (fun h => ?_) (fun h => ?_)
    · refine .skp ?_
      refine .sq ?_
      refine .bl ?_
      refine .sq ?_
      refine be h fun x5 hx5 h => ?_
      refine .rg (u (ia sf29 (.t rfl) (.t rfl) (ix_map (ei .u32) hx5)) <| u (lr tf22 (.t rfl) rfl) <| u (asg (.t rfl)) <| .nil _) rfl ?_
      refine .sq ?_
      refine be h fun x6 hx6 h => ?_
      refine .rg (u (mv (.t rfl)) <| u (cv cv22_64 (.t rfl)) <| cnf 47000 cf45 (octet_Put_c hx6) (.c (.t rfl) <| .c (.i rfl) <| .n) rfl rfl rfl <| u (mv (.t rfl)) <| u (ex (.t rfl) rfl rfl) <| u (ex (.t rfl) rfl rfl) <| u (asg (.t rfl)) <| u (asg (.t rfl)) <| .nil _) rfl ?_
      refine be h fun x7 hx7 h => ?_
      refine .rg (u (mv (.t rfl)) <| u (mv (.t rfl)) <| apo 51 pf34 (.t rfl) rfl (.t rfl) rfl hx7 rfl <| u (asg (.t rfl)) <| .nil _) rfl ?_
      refine .ib ?_
      refine .rg (u (bi (.t rfl) (.i rfl) rfl) <| u (mv (.t rfl)) <| .nil _) rfl ?_
      exact .ks (fun i => bif Nat.beq i 6 then 51 else i) (.il (ih1 (x7, (ar .add .i64 v4 1)) (nxi h))) (.c rfl (.c rfl (.c rfl (.c rfl .n)))) (.c rfl .n) rfl
    · refine .xt rfl ?_
      replace h := mpR h hx1
      refine .sq ?_
      refine .rg (u (mv (.t rfl)) <| u (asg (.t rfl)) <| u (asg (.i rfl)) <| .nil _) rfl ?_
      obtain rfl := Option.some.inj h
      refine .ks (l := [(2, .own 0), (3, .ro (.int .i64 0))]) (o := [(0, some (.arr 5 1 (List.map e8 v3)))]) (fun i => bif Nat.beq i 0 then 6 else i) ?_ (.c rfl (.c rfl .n)) (.c rfl .n) rfl
      exact .rt Tryz.func143 (.t rfl <| .t rfl <| .n) (.c rfl .n) rfl rfl

theorem remb_Write_r {z : Option Nat} {p_r : Rate} {r : List Int × Int} (h : remb_Write z p_r = some r) :
    AC Tryz.prog 143 [.ro (enc_Rate p_r)] (.ro (.tup [.list 1 (List.map e8 r.1), .int .i64 r.2])) [] := AC.fz (remb_Write_c h) rfl

theorem feed_rate_bytes_c {z : Option Nat} {m : feed_rate} {r : List Int × Int} (h : feed_rate_bytes z m = some r) :
    AC Tryz.prog 141 [.ro (enc_feed_rate m)] (.tup [.own 0, .ro (.int .i64 r.2)]) [(0, .arr 5 1 (List.map e8 r.1))] := by
  refine AC.of Tryz.func141 rfl rfl fun w M0 hM => ?_
  unfold feed_rate_bytes at h
  refine .sq ?_
  refine .rg (bx 1 (.t rfl) rfl rfl <| anm e8 2 5 1 rfl rfl <| u (asg (.i rfl)) <| .nil _) rfl ?_
  refine .sq ?_
  refine be h fun x1 hx1 h => ?_
  refine .rg (u (fa ff118_0 (.t rfl)) <| u (ld tf31 (.t rfl) rfl rfl) <| cnf 7000 cf143 (remb_Write_c hx1) (.c (.t rfl) <| .n) rfl rfl rfl <| u (ex (.t rfl) rfl rfl) <| u (ex (.t rfl) rfl rfl) <| u (asg (.t rfl)) <| u (asg (.t rfl)) <| .nil _) rfl ?_
  obtain rfl := Option.some.inj h
  refine .ks (l := [(2, .own 0), (3, .ro (.int .i64 x1.2))]) (o := [(0, some (.arr 5 1 (List.map e8 x1.1)))]) (fun i => bif Nat.beq i 0 then 7000 else i) ?_ (.c rfl (.c rfl .n)) (.c rfl .n) rfl
  exact .rt Tryz.func141 (.t rfl <| .t rfl <| .n) (.c rfl .n) rfl rfl

theorem feed_rate_bytes_r {z : Option Nat} {m : feed_rate} {r : List Int × Int} (h : feed_rate_bytes z m = some r) :
    AC Tryz.prog 141 [.ro (enc_feed_rate m)] (.ro (.tup [.list 1 (List.map e8 r.1), .int .i64 r.2])) [] := AC.fz (feed_rate_bytes_c h) rfl

theorem feed_loss_bytes_c {p0 : feed_loss} {r : List Int × Int} (h : feed_loss_bytes p0 = some r) :
    AC Tryz.prog 145 [.ro (enc_feed_loss p0)] (.tup [.own 0, .ro (.int .i64 r.2)]) [(0, .arr 5 1 (List.map e8 r.1))] := by
  refine AC.of Tryz.func145 rfl rfl fun w M0 hM => ?_
  unfold feed_loss_bytes at h
  refine .sq ?_
  refine .rg (bx 1 (.t rfl) rfl rfl <| anm e8 2 5 1 rfl rfl <| u (asg (.i rfl)) <| .nil _) rfl ?_
  refine .sq ?_
  refine .rg (anm e8 100002 5 1 rfl rfl <| u (asg (.i rfl)) <| .nil _) rfl ?_
  obtain rfl := Option.some.inj h
  refine .ks (l := [(2, .own 0), (3, .ro (.int .i64 0))]) (o := [(0, some (.arr 5 1 (List.map e8 [])))]) (fun i => bif Nat.beq i 0 then 100002 else i) ?_ (.c rfl (.c rfl .n)) (.c rfl .n) rfl
  exact .rt Tryz.func145 (.t rfl <| .t rfl <| .n) (.c rfl .n) rfl rfl

theorem feed_loss_bytes_r {p0 : feed_loss} {r : List Int × Int} (h : feed_loss_bytes p0 = some r) :
    AC Tryz.prog 145 [.ro (enc_feed_loss p0)] (.ro (.tup [.list 1 (List.map e8 r.1), .int .i64 r.2])) [] := AC.fz (feed_loss_bytes_c h) rfl

theorem I_feed_message_bytes_c {z : Option Nat} {w : I_feed_message}  {r : List Int × Int} (h : I_feed_message_bytes z w  = some r) : MC Tryz.prog "crossbar/feed.bytes" (enc_I_feed_message w) [] (.tup [.list 1 (List.map e8 r.1), .int .i64 r.2]) := by
  cases w
  · cases h
  · exact ⟨_, _, _, rfl, cm107_119, feed_pairs_bytes_r h⟩
  · exact ⟨_, _, _, rfl, cm111_122, feed_arrivals_bytes_r h⟩
  · exact ⟨_, _, _, rfl, cm114_138, feed_entries_bytes_r h⟩
  · exact ⟨_, _, _, rfl, cm118_141, feed_rate_bytes_r h⟩
  · exact ⟨_, _, _, rfl, cm120_145, feed_loss_bytes_r h⟩

theorem feed_written_c {z : Option Nat} {f : Feed} {r : List Int × Bool} (h : feed_written z f = some r) :
    AC Tryz.prog 24 [.ro (enc_Feed f)] (.tup [.own 0, .ro (.bool r.2)]) [(0, .arr 5 1 (List.map e8 r.1))] := by
  refine AC.of Tryz.func24 rfl rfl fun w M0 hM => ?_
  unfold feed_written at h
  refine .sq ?_
  refine .rg (bx 1 (.t rfl) rfl rfl <| anm e8 2 5 1 rfl rfl <| u (asg .b) <| .nil _) rfl ?_
  refine .sq ?_
  refine .rg (u (ld tf33 (.t rfl) rfl rfl) <| cl [] cf43 (feed_messageOf_c f) (.c (.t rfl) <| .n) (.inl rfl) <| u (asg (.t rfl)) <| .nil _) rfl ?_
  refine .sq ?_
  refine .sq ?_
  refine .rg (u (mv (.t rfl)) <| u (ifn if70 (.t rfl) (nil_I_feed_message _) rfl rfl) <| u (mv (.t rfl)) <| gd rfl rfl (fun hB => ld tf33 (.t rfl) rfl rfl) <| gd rfl rfl (fun hB => mv (.t rfl)) <| cg rfl rfl cf44 (fun hB => (feed_idle_c f (feed_messageOf f))) (fun hB => .c (.m rfl hB) <| .c (.m rfl hB) <| .n) (.inl rfl) <| gd rfl rfl (fun hB => no (.m rfl hB)) <| u (pko (.t rfl) (.t rfl)) <| .nil _) rfl ?_
  refine .bq h (.t rfl) (fun h => ?_) (fun h => ?_)
  · refine .sq ?_
    refine .rg (anm e8 100002 5 1 rfl rfl <| u (asg .b) <| .nil _) rfl ?_
    obtain rfl := Option.some.inj h
    refine .ks (l := [(2, .own 0), (3, .ro (.bool false))]) (o := [(0, some (.arr 5 1 (List.map e8 [])))]) (fun i => bif Nat.beq i 0 then 100002 else i) ?_ (.c rfl (.c rfl .n)) (.c rfl .n) rfl
    exact .rt Tryz.func24 (.t rfl <| .t rfl <| .n) (.c rfl .n) rfl rfl
  · refine .skp ?_
    refine .sq ?_
    refine be h fun x1 hx1 h => ?_
    refine .rg (u (mv (.t rfl)) <| cms [] (.t rfl) (I_feed_message_bytes_c hx1) (.n) (.inl rfl) <| u (mv (.t rfl)) <| u (ex (.t rfl) rfl rfl) <| u (ex (.t rfl) rfl rfl) <| u (asg (.t rfl)) <| u (asg (.t rfl)) <| .nil _) rfl ?_
    refine .sq ?_
    refine .sq ?_
    refine .rg (u (mv (.t rfl)) <| u (bc (.t rfl) (.i rfl) rfl rfl) <| .nil _) rfl ?_
    refine .bq h (.t rfl) (fun h => ?_) (fun h => ?_)
    · refine .sq ?_
      refine .rg (anm e8 100002 5 1 rfl rfl <| u (asg .b) <| .nil _) rfl ?_
      obtain rfl := Option.some.inj h
      refine .ks (l := [(2, .own 0), (3, .ro (.bool false))]) (o := [(0, some (.arr 5 1 (List.map e8 [])))]) (fun i => bif Nat.beq i 0 then 100002 else i) ?_ (.c rfl (.c rfl .n)) (.c rfl .n) rfl
      exact .rt Tryz.func24 (.t rfl <| .t rfl <| .n) (.c rfl .n) rfl rfl
    · refine .skp ?_
      refine .sq ?_
      refine be h fun x2 hx2 h => ?_
      refine .rg (u (fa ff33_1 (.t rfl)) <| u (ld tf22 (.t rfl) rfl rfl) <| u (cv cv22_64 (.t rfl)) <| cnf 33000 cf45 (octet_Put_c hx2) (.c (.t rfl) <| .c (.i rfl) <| .n) rfl rfl rfl <| u (mv (.t rfl)) <| u (ex (.t rfl) rfl rfl) <| u (ex (.t rfl) rfl rfl) <| u (asg (.t rfl)) <| u (asg (.t rfl)) <| .nil _) rfl ?_
      refine .sq ?_
      refine be h fun x3 hx3 h => ?_
      refine .rg (u (fa ff33_2 (.t rfl)) <| u (ld tf22 (.t rfl) rfl rfl) <| u (cv cv22_64 (.t rfl)) <| cnf 40000 cf45 (octet_Put_c hx3) (.c (.t rfl) <| .c (.i rfl) <| .n) rfl rfl rfl <| u (mv (.t rfl)) <| u (ex (.t rfl) rfl rfl) <| u (ex (.t rfl) rfl rfl) <| u (asg (.t rfl)) <| u (asg (.t rfl)) <| .nil _) rfl ?_
      refine .sq ?_
      refine .fz 33000 rfl ?_
      refine .fz 40000 rfl ?_
      refine be h fun x4 hx4 h => ?_
      refine .rg (u (mv (.t rfl)) <| u (mv (.t rfl)) <| u (mv (.t rfl)) <| nu (bsn (F := (el 1 e8)) (l := [x2.1, x3.1, x1.1]) pf141 (.c (.t rfl) rfl <| .c (.t rfl) rfl <| .c (.t rfl) rfl <| .n) rfl (fun _ _ => rfl) rfl) <| cnf 47000 cf46 (octet_Join_c hx4) (.c (.t rfl) <| .n) rfl rfl rfl <| u (asg (.t rfl)) <| u (asg .b) <| .nil _) rfl ?_
      obtain rfl := Option.some.inj h
      refine .ks (l := [(2, .own 0), (3, .ro (.bool true))]) (o := [(0, some (.arr 5 1 (List.map e8 x4)))]) (fun i => bif Nat.beq i 0 then 47000 else i) ?_ (.c rfl (.c rfl .n)) (.c rfl .n) rfl
      exact .rt Tryz.func24 (.t rfl <| .t rfl <| .n) (.c rfl .n) rfl rfl

theorem feed_written_r {z : Option Nat} {f : Feed} {r : List Int × Bool} (h : feed_written z f = some r) :
    AC Tryz.prog 24 [.ro (enc_Feed f)] (.ro (.tup [.list 1 (List.map e8 r.1), .bool r.2])) [] := AC.fz (feed_written_c h) rfl

theorem feed_Write_c {z : Option Nat} {f : Feed} {r : List Int × Int} (h : feed_Write z f = some r) :
    AC Tryz.prog 12 [.ro (enc_Feed f)] (.tup [.own 0, .ro (.int .i64 r.2)]) [(0, .arr 5 1 (List.map e8 r.1))] := by
  refine AC.of Tryz.func12 rfl rfl fun w M0 hM => ?_
  unfold feed_Write at h
  refine .sq ?_
  refine .rg (bx 1 (.t rfl) rfl rfl <| anm e8 2 5 1 rfl rfl <| u (asg (.i rfl)) <| .nil _) rfl ?_
  refine .sq ?_
  refine be h fun x1 hx1 h => ?_
  refine .rg (u (ld tf33 (.t rfl) rfl rfl) <| cnf 9000 cf24 (feed_written_c hx1) (.c (.t rfl) <| .n) rfl rfl rfl <| u (mv (.t rfl)) <| u (ex (.t rfl) rfl rfl) <| u (ex (.t rfl) rfl rfl) <| u (asg (.t rfl)) <| u (asg (.t rfl)) <| .nil _) rfl ?_
  refine .sq ?_
  refine .sq ?_
  refine .rg (u (mv (.t rfl)) <| u (no (.t rfl)) <| .nil _) rfl ?_
  refine .bq h (.t rfl) (fun h => ?_) (fun h => ?_)
  · refine .sq ?_
    refine .rg (anm e8 100002 5 1 rfl rfl <| u (asg (.i rfl)) <| .nil _) rfl ?_
    obtain rfl := Option.some.inj h
    refine .ks (l := [(2, .own 0), (3, .ro (.int .i64 1))]) (o := [(0, some (.arr 5 1 (List.map e8 [])))]) (fun i => bif Nat.beq i 0 then 100002 else i) ?_ (.c rfl (.c rfl .n)) (.c rfl .n) rfl
    exact .rt Tryz.func12 (.t rfl <| .t rfl <| .n) (.c rfl .n) rfl rfl
  · refine .skp ?_
    refine .sq ?_
    refine .rg (u (mv (.t rfl)) <| u (asg (.t rfl)) <| u (asg (.i rfl)) <| .nil _) rfl ?_
    obtain rfl := Option.some.inj h
    refine .ks (l := [(2, .own 0), (3, .ro (.int .i64 0))]) (o := [(0, some (.arr 5 1 (List.map e8 x1.1)))]) (fun i => bif Nat.beq i 0 then 9000 else i) ?_ (.c rfl (.c rfl .n)) (.c rfl .n) rfl
    exact .rt Tryz.func12 (.t rfl <| .t rfl <| .n) (.c rfl .n) rfl rfl

theorem feed_Write_r {z : Option Nat} {f : Feed} {r : List Int × Int} (h : feed_Write z f = some r) :
    AC Tryz.prog 12 [.ro (enc_Feed f)] (.ro (.tup [.list 1 (List.map e8 r.1), .int .i64 r.2])) [] := AC.fz (feed_Write_c h) rfl

theorem feed_Code_c (kind : Int) :
    AC Tryz.prog 7 [.ro (.int .i64 kind)] (.ro (.tup [.int .i64 ((feed_Code kind).1), .int .i64 ((feed_Code kind).2.1), .int .i64 ((feed_Code kind).2.2)])) [] := by
  obtain ⟨r, h⟩ : ∃ r, feed_Code kind = r := ⟨_, rfl⟩
  rw [h]
  refine AC.of Tryz.func7 rfl rfl fun w M0 hM => ?_
  unfold feed_Code at h
  refine .sq ?_
  refine .rg (u (asg (.i rfl)) <| u (asg (.i rfl)) <| u (asg (.i rfl)) <| .nil _) rfl ?_
  refine .sq ?_
  refine .sq ?_
  refine .rg (u (mv (.t rfl)) <| .nil _) rfl ?_
  refine .bl ?_
  refine .sq ?_
  refine .rg (u (bc (.t rfl) (.i rfl) rfl rfl) <| u (asg (.t rfl)) <| .nil _) rfl ?_
  refine .bq h (.t rfl) (fun h => ?_) (fun h => ?_)
  · refine .sq ?_
    refine .rg (u (asg (.i rfl)) <| u (asg (.i rfl)) <| u (asg (.i rfl)) <| .nil _) rfl ?_
    subst h
    exact .rt Tryz.func7 (.t rfl <| .t rfl <| .t rfl <| .n) .n rfl rfl
  · refine .sq ?_
    refine .rg (u (bc (.t rfl) (.i rfl) rfl rfl) <| u (asg (.t rfl)) <| .nil _) rfl ?_
    refine .bq h (.t rfl) (fun h => ?_) (fun h => ?_)
    · refine .sq ?_
      refine .rg (u (asg (.i rfl)) <| u (asg (.i rfl)) <| u (asg (.i rfl)) <| .nil _) rfl ?_
      subst h
      exact .rt Tryz.func7 (.t rfl <| .t rfl <| .t rfl <| .n) .n rfl rfl
    · refine .sq ?_
      refine .rg (u (bc (.t rfl) (.i rfl) rfl rfl) <| u (asg (.t rfl)) <| .nil _) rfl ?_
      refine .bq h (.t rfl) (fun h => ?_) (fun h => ?_)
      · refine .sq ?_
        refine .rg (u (asg (.i rfl)) <| u (asg (.i rfl)) <| u (asg (.i rfl)) <| .nil _) rfl ?_
        subst h
        exact .rt Tryz.func7 (.t rfl <| .t rfl <| .t rfl <| .n) .n rfl rfl
      · refine .sq ?_
        refine .rg (u (bc (.t rfl) (.i rfl) rfl rfl) <| u (asg (.t rfl)) <| .nil _) rfl ?_
        refine .bq h (.t rfl) (fun h => ?_) (fun h => ?_)
        · refine .sq ?_
          refine .rg (u (asg (.i rfl)) <| u (asg (.i rfl)) <| u (asg (.i rfl)) <| .nil _) rfl ?_
          subst h
          exact .rt Tryz.func7 (.t rfl <| .t rfl <| .t rfl <| .n) .n rfl rfl
        · refine .sq ?_
          refine .rg (u (bc (.t rfl) (.i rfl) rfl rfl) <| u (asg (.t rfl)) <| .nil _) rfl ?_
          refine .bq h (.t rfl) (fun h => ?_) (fun h => ?_)
          · refine .sq ?_
            refine .rg (u (asg (.i rfl)) <| u (asg (.i rfl)) <| u (asg (.i rfl)) <| .nil _) rfl ?_
            subst h
            exact .rt Tryz.func7 (.t rfl <| .t rfl <| .t rfl <| .n) .n rfl rfl
          · refine .skp ?_
            refine .ib ?_
            refine .sq ?_
            refine .rg (u (asg (.i rfl)) <| u (asg (.i rfl)) <| u (asg (.i rfl)) <| .nil _) rfl ?_
            subst h
            exact .rt Tryz.func7 (.t rfl <| .t rfl <| .t rfl <| .n) .n rfl rfl

theorem slices_Chunk_byte63_c {l : List Int} {n : Int} (hn : cm .lss n 1 = false) : AC Tryz.prog 63 [.ro (.list 1 (List.map e8 l)), .ro (.int .i64 n)] (.fn (.func 78) [] [.rptr [.list 1 (List.map e8 l)], .rptr [.int .i64 n]]) [] := by
  refine AC.of Tryz.func63 rfl rfl fun w M0 hM => ?_
  refine .sq ?_
  refine .rg (bx 2 (.t rfl) rfl rfl <| bx 3 (.t rfl) rfl rfl <| u (asg (.r rfl)) <| .nil _) rfl ?_
  refine .sq ?_
  refine .sq ?_
  refine .rg (u (ld tf3 (.t rfl) rfl rfl) <| u (bc (.t rfl) (.i rfl) rfl rfl) <| .nil _) rfl ?_
  refine .cf (.t rfl) hn ?_
  refine .skp ?_
  refine .sq ?_
  refine .fb 2 rfl rfl ?_
  refine .fb 3 rfl rfl ?_
  refine .rg (u (mfn (.c (.t rfl) <| .c (.t rfl) <| .n)) <| u (asg (.t rfl)) <| .nil _) rfl ?_
  exact .rt Tryz.func63 (.t rfl <| .n) .n rfl rfl

theorem octet_there_c (b : List Int) (at_ : Int) (n : Int) :
    AC Tryz.prog 56 [.ro (.list 1 (List.map e8 b)), .ro (.int .i64 at_), .ro (.int .i64 n)] (.ro (.bool (octet_there b at_ n))) [] := by
  obtain ⟨r, h⟩ : ∃ r, octet_there b at_ n = r := ⟨_, rfl⟩
  rw [h]
  refine AC.of Tryz.func56 rfl rfl fun w M0 hM => ?_
  unfold octet_there at h
  refine .sq ?_
  refine .rg (u (asg .b) <| .nil _) rfl ?_
  refine .sq ?_
  refine .rg (u (mv (.t rfl)) <| u (mv (.t rfl)) <| u (lnm sf34 (.t rfl)) <| u (bc (.t rfl) (.t rfl) rfl rfl) <| u (mv (.t rfl)) <| gd rfl rfl (fun hB => mv (.t rfl)) <| gd rfl rfl (fun hB => mv (.t rfl)) <| gd rfl rfl (fun hB => lnm sf34 (.m rfl hB)) <| gd rfl rfl (fun hB => mv (.t rfl)) <| gd rfl rfl (fun hB => bi (.m rfl hB) (.m rfl hB) rfl) <| gd rfl rfl (fun hB => bc (.m rfl hB) (.m rfl hB) rfl rfl) <| u (pka (.t rfl) (.t rfl)) <| u (asg (.t rfl)) <| .nil _) rfl ?_
  subst h
  exact .rt Tryz.func56 (.t rfl <| .n) .n rfl rfl

theorem octet_Get_c {z : Option Nat} {b : List Int} {at_ : Int} {n : Int} {r : Int × Int} (h : octet_Get z b at_ n = some r) :
    AC Tryz.prog 31 [.ro (.list 1 (List.map e8 b)), .ro (.int .i64 at_), .ro (.int .i64 n)] (.ro (.tup [.int .u64 r.1, .int .i64 r.2])) [] := by
  refine AC.of Tryz.func31 rfl rfl fun w M0 hM => ?_
  unfold octet_Get at h
  refine .sq ?_
  refine .rg (u (asg (.i rfl)) <| u (asg (.i rfl)) <| .nil _) rfl ?_
  refine .sq ?_
  refine .bl ?_
  refine .sq ?_
  refine .sq ?_
  refine .rg (u (mv (.t rfl)) <| cl [] cf55 (octet_sized_c n) (.c (.t rfl) <| .n) (.inl rfl) <| u (no (.t rfl)) <| u (asg (.t rfl)) <| .nil _) rfl ?_
  refine .jq (t := some r) (fun (a : Bool) => ⟨[(0, .ro (.list 1 (List.map e8 b))), (1, .ro (.int .i64 at_)), (2, .ro (.int .i64 n)), (11, .ro (.bool a))], []⟩) (fun (a : Bool) => octet_Get_j1 z b at_ n a) ?_ (fun J1 => ?_)
  · intro v1 h
    replace h : octet_Get_j1 z b at_ n v1 = _ := h
    unfold octet_Get_j1 at h
    refine .bq h (.t rfl) (fun h => ?_) (fun h => ?_)
    · refine .sq ?_
      refine .rg (u (asg (.i rfl)) <| u (asg (.i rfl)) <| .nil _) rfl ?_
      obtain rfl := Option.some.inj h
      exact .rt Tryz.func31 (.t rfl <| .t rfl <| .n) .n rfl rfl
    · refine .sq ?_
      refine .rg (u (mv (.t rfl)) <| u (mv (.t rfl)) <| u (mv (.t rfl)) <| cl [] cf56 (octet_there_c b at_ n) (.c (.t rfl) <| .c (.t rfl) <| .c (.t rfl) <| .n) (.inl rfl) <| u (no (.t rfl)) <| u (asg (.t rfl)) <| .nil _) rfl ?_
      refine .bq h (.t rfl) (fun h => ?_) (fun h => ?_)
      · refine .sq ?_
        refine .rg (u (asg (.i rfl)) <| u (asg (.i rfl)) <| .nil _) rfl ?_
        obtain rfl := Option.some.inj h
        exact .rt Tryz.func31 (.t rfl <| .t rfl <| .n) .n rfl rfl
      · refine .skp ?_
        refine .ib ?_
        refine .sq ?_
        refine .rg (u (asg (.i rfl)) <| .nil _) rfl ?_
        refine .sq ?_
        refine .sq ?_
        refine be h fun x2 hx2 h => ?_
        refine .rg (u (mv (.t rfl)) <| u (mv (.t rfl)) <| u (mv (.t rfl)) <| u (mv (.t rfl)) <| u (bi (.t rfl) (.t rfl) rfl) <| u (sl sf34 (.t rfl) (.s (.t rfl)) (.s (.t rfl)) hx2) <| u (lnm sf34 (.t rfl)) <| u (mv (.i rfl)) <| .nil _) rfl ?_
        refine .bl ?_
        unfold octet_Get_l2 at h
        refine .kq (.lo (fun (s : Int × Int) => ⟨[(8, .ro (.int .u64 s.1)), (28, .ro (.list 1 (List.map e8 x2))), (29, .ro (.int .i64 (x2.length : Int))), (30, .ro (.int .i64 s.2))], []⟩) h ?_) (.c rfl (.c rfl (.c rfl (.c rfl .n)))) .n
        rintro ⟨v3, v4⟩ u2 h ih2 hx2
        replace h : octet_Get_s2 z x2 v3 v4 = _ := h
        unfold octet_Get_s2 at h
        refine .sq ?_
        refine .rg (u (bc (.t rfl) (.t rfl) rfl rfl) <| .nil _) rfl ?_
        refine .sq ?_
        refine .bq h (.t rfl) (fun h => ?_) (fun h => ?_)
        · refine .skp ?_
          refine .sq ?_
          refine .bl ?_
          refine .sq ?_
          refine be h fun x5 hx5 h => ?_
          refine .rg (u (ia sf34 (.t rfl) (.t rfl) (ix_map e8 hx5)) <| u (lr tf5 (.t rfl) rfl) <| u (asg (.t rfl)) <| .nil _) rfl ?_
          refine .rg (u (mv (.t rfl)) <| u (sh (.t rfl) (.i rfl) rfl (by decide)) <| u (mv (.t rfl)) <| u (cv cv5_64 (.t rfl)) <| u (bi (.t rfl) (.t rfl) rfl) <| u (asg (.t rfl)) <| .nil _) rfl ?_
          refine .ib ?_
          refine .rg (u (bi (.t rfl) (.i rfl) rfl) <| u (mv (.t rfl)) <| .nil _) rfl ?_
          exact .kq (.il (ih2 ((ar .or .u64 (sf .shl .u64 v3 8) (IntKind.u64.wrap x5)), (ar .add .i64 v4 1)) (nxi h))) (.c rfl (.c rfl (.c rfl (.c rfl .n)))) .n
        · refine .xt rfl ?_
          replace h := mpR h hx2
          refine .sq ?_
          refine .rg (u (mv (.t rfl)) <| u (asg (.t rfl)) <| u (asg (.i rfl)) <| .nil _) rfl ?_
          obtain rfl := Option.some.inj h
          exact .rt Tryz.func31 (.t rfl <| .t rfl <| .n) .n rfl rfl
  refine .bq h (.t rfl) (fun h => ?_) (fun h => ?_)
  · refine .skp ?_
    exact .kq (J1 (!(octet_sized n)) h) (.c rfl (.c rfl (.c rfl (.c rfl .n)))) .n
  · refine .rg (u (mv (.t rfl)) <| u (bc (.t rfl) (.i rfl) rfl rfl) <| u (asg (.t rfl)) <| .nil _) rfl ?_
    exact .kq (J1 (cm .lss at_ 0) h) (.c rfl (.c rfl (.c rfl (.c rfl .n)))) .n

theorem nack_Read_c {z : Option Nat} {body : List Int} {r : List Pair × Int} (h : nack_Read z body = some r) :
    AC Tryz.prog 51 [.ro (.list 1 (List.map e8 body))] (.tup [.own 0, .ro (.int .i64 r.2)]) [(0, .arr 55 2 (List.map cells_Pair r.1))] := by
  refine AC.of Tryz.func51 rfl rfl fun w M0 hM => ?_
  unfold nack_Read at h
  refine .sq ?_
  refine .rg (anm cells_Pair 2 55 2 rfl rfl <| u (asg (.i rfl)) <| .nil _) rfl ?_
  refine .sq ?_
  refine .bl ?_
  refine .sq ?_
  refine .sq ?_
  refine .rg (u (mv (.t rfl)) <| u (lnm sf34 (.t rfl)) <| u (bc (.t rfl) (.i rfl) rfl rfl) <| u (asg (.t rfl)) <| .nil _) rfl ?_
  refine .jq (t := some r) (fun (a : Bool) => ⟨[(0, .ro (.list 1 (List.map e8 body))), (8, .ro (.bool a))], []⟩) (fun (a : Bool) => nack_Read_j1 z body a) ?_ (fun J1 => ?_)
  · intro v1 h
    replace h : nack_Read_j1 z body v1 = _ := h
    unfold nack_Read_j1 at h
    refine .bq h (.t rfl) (fun h => ?_) (fun h => ?_)
    · refine .sq ?_
      refine .rg (anm cells_Pair 2 55 2 rfl rfl <| u (asg (.i rfl)) <| .nil _) rfl ?_
      obtain rfl := Option.some.inj h
      refine .ks (l := [(2, .own 0), (3, .ro (.int .i64 4))]) (o := [(0, some (.arr 55 2 (List.map cells_Pair [])))]) (fun i => bif Nat.beq i 0 then 2 else i) ?_ (.c rfl (.c rfl .n)) (.c rfl .n) rfl
      exact .rt Tryz.func51 (.t rfl <| .t rfl <| .n) (.c rfl .n) rfl rfl
    · refine .sq ?_
      refine .rg (u (mv (.t rfl)) <| u (lnm sf34 (.t rfl)) <| u (bc (.t rfl) (.i rfl) rfl rfl) <| u (asg (.t rfl)) <| .nil _) rfl ?_
      refine .bq h (.t rfl) (fun h => ?_) (fun h => ?_)
      · refine .sq ?_
        refine .rg (anm cells_Pair 2 55 2 rfl rfl <| u (asg (.i rfl)) <| .nil _) rfl ?_
        obtain rfl := Option.some.inj h
        refine .ks (l := [(2, .own 0), (3, .ro (.int .i64 2))]) (o := [(0, some (.arr 55 2 (List.map cells_Pair [])))]) (fun i => bif Nat.beq i 0 then 2 else i) ?_ (.c rfl (.c rfl .n)) (.c rfl .n) rfl
        exact .rt Tryz.func51 (.t rfl <| .t rfl <| .n) (.c rfl .n) rfl rfl
      · refine .skp ?_
        refine .ib ?_
        refine .sq ?_
        refine .rg (al 4 zf23_0 rfl <| .nil _) rfl ?_
        refine .th (F := cells_Pair) 4 0 700400 55 2 rfl rfl rfl ?_
        refine .sq ?_
        refine .sq ?_
        refine .rg (u (mv (.t rfl)) <| cnf 0 cf63 (slices_Chunk_byte63_c (l := body) (n := 4) rfl) (.c (.t rfl) <| .c (.i rfl) <| .n) rfl rfl rfl <| .nil _) rfl ?_
        refine .bl ?_
        refine be h fun x2 hx2 h => ?_
        unfold nack_Read_l2 at h
        refine .kq (.rgc (n := 4) (F := e8) (fun (s : List Pair) => ⟨[(4, .ptr 4 0), (21, .fn (.func 78) [] [.rptr [.list 1 (List.map e8 body)], .rptr [.int .i64 4]])], [(4, some (.box [.own 700400])), (700400, some (.arr 55 2 (List.map cells_Pair s)))]⟩) [4, 21] chunk78_in cf78 h (lnO_le hx2) rfl (fun _ => rfl) (fun _ => rfl) rfl ⟨rfl, rfl⟩ ?_ ?_) (.c rfl (.c rfl .n)) (.c rfl (.c rfl .n))
        · rintro D2 l2 r2 pv2 R2 y2 v3 u2 h ih2 hx2 jr2 jx2 bg2
          replace h : nack_Read_s2 z y2 v3 = _ := h
          unfold nack_Read_s2 at h
          refine .rg (u (asg (.t rfl)) <| .nil _) rfl ?_
          refine bg2 _ _ ?_
          refine .bl ?_
          refine .sq ?_
          refine be h fun x4 hx4 h => ?_
          refine .rg (u (mv (.t rfl)) <| cl [] cf31 (octet_Get_c hx4) (.c (.t rfl) <| .c (.i rfl) <| .c (.i rfl) <| .n) (.inl rfl) <| u (mv (.t rfl)) <| u (ex (.t rfl) rfl rfl) <| u (ex (.t rfl) rfl rfl) <| u (asg (.t rfl)) <| u (asg (.t rfl)) <| .nil _) rfl ?_
          refine be h fun x5 hx5 h => ?_
          refine .rg (u (ld tf23 (.t rfl) rfl rfl) <| u (mv (.t rfl)) <| u (sh (.t rfl) (.i rfl) rfl (by decide)) <| u (cv cv64_24 (.t rfl)) <| u (mv (.t rfl)) <| u (cv cv64_24 (.t rfl)) <| u (bd bf55 zf55 (.c rfl (.t rfl) rfl rfl rfl <| .c rfl (.t rfl) rfl rfl rfl <| .n) rfl) <| bs (F := cells_Pair) (l := [(Pair.mk (IntKind.u16.wrap (sf .shr .u64 x4.1 16)) (IntKind.u16.wrap x4.1))]) 35 pf23 (.c (.t rfl) rfl <| .n) rfl (fun _ _ => rfl) rfl rfl <| apo 36 pf23 (.t rfl) rfl (.t rfl) rfl hx5 rfl <| st tf23 (.t rfl) rfl (.t rfl) rfl rfl rfl <| .nil _) rfl ?_
          refine .ib ?_
          exact .ks (fun i => bif Nat.beq i 700400 then 36 else i) (ih2 x5 (nxi h)) (.c rfl (.c rfl .n)) (.c rfl (.c rfl .n)) rfl
        · rintro D2 v3 h
          replace h : nack_Read_d2 z v3 = _ := h
          unfold nack_Read_d2 at h
          refine .ib ?_
          refine .sq ?_
          refine .rg (u (ld tf23 (.t rfl) rfl rfl) <| u (asg (.t rfl)) <| u (asg (.i rfl)) <| .nil _) rfl ?_
          obtain rfl := Option.some.inj h
          refine .ks (l := [(2, .own 0), (3, .ro (.int .i64 0))]) (o := [(0, some (.arr 55 2 (List.map cells_Pair v3)))]) (fun i => bif Nat.beq i 0 then 700400 else i) ?_ (.c rfl (.c rfl .n)) (.c rfl .n) rfl
          exact .rt Tryz.func51 (.t rfl <| .t rfl <| .n) (.c rfl .n) rfl rfl
  refine .bq h (.t rfl) (fun h => ?_) (fun h => ?_)
  · refine .skp ?_
    exact .kq (J1 (cm .gtr (body.length : Int) 65520) h) (.c rfl (.c rfl .n)) .n
  · refine .rg (u (mv (.t rfl)) <| u (lnm sf34 (.t rfl)) <| u (di (.t rfl) (.i rfl) rfl (by decide)) <| u (bc (.t rfl) (.i rfl) rfl rfl) <| u (asg (.t rfl)) <| .nil _) rfl ?_
    exact .kq (J1 (cm .gtr (dv .rem .i64 (body.length : Int) 4) 0) h) (.c rfl (.c rfl .n)) .n

theorem nack_Read_r {z : Option Nat} {body : List Int} {r : List Pair × Int} (h : nack_Read z body = some r) :
    AC Tryz.prog 51 [.ro (.list 1 (List.map e8 body))] (.ro (.tup [.list 2 (List.map cells_Pair r.1), .int .i64 r.2])) [] := AC.fz (nack_Read_c h) rfl

theorem octet_Signed_c {z : Option Nat} {b : List Int} {at_ : Int} {n : Int} {r : Int × Int} (h : octet_Signed z b at_ n = some r) :
    AC Tryz.prog 71 [.ro (.list 1 (List.map e8 b)), .ro (.int .i64 at_), .ro (.int .i64 n)] (.ro (.tup [.int .i64 r.1, .int .i64 r.2])) [] := by
  refine AC.of Tryz.func71 rfl rfl fun w M0 hM => ?_
  unfold octet_Signed at h
  refine .sq ?_
  refine .rg (u (asg (.i rfl)) <| u (asg (.i rfl)) <| .nil _) rfl ?_
  refine .sq ?_
  refine be h fun x1 hx1 h => ?_
  refine .rg (u (mv (.t rfl)) <| u (mv (.t rfl)) <| u (mv (.t rfl)) <| cl [] cf31 (octet_Get_c hx1) (.c (.t rfl) <| .c (.t rfl) <| .c (.t rfl) <| .n) (.inl rfl) <| u (mv (.t rfl)) <| u (ex (.t rfl) rfl rfl) <| u (ex (.t rfl) rfl rfl) <| u (asg (.t rfl)) <| u (asg (.t rfl)) <| .nil _) rfl ?_
  refine .sq ?_
  refine .sq ?_
  refine .rg (u (mv (.t rfl)) <| u (bc (.t rfl) (.i rfl) rfl rfl) <| .nil _) rfl ?_
  refine .bq h (.t rfl) (fun h => ?_) (fun h => ?_)
  · refine .sq ?_
    refine .rg (u (mv (.t rfl)) <| u (asg (.i rfl)) <| u (asg (.t rfl)) <| .nil _) rfl ?_
    obtain rfl := Option.some.inj h
    exact .rt Tryz.func71 (.t rfl <| .t rfl <| .n) .n rfl rfl
  · refine .skp ?_
    refine .sq ?_
    refine .rg (u (mv (.t rfl)) <| u (bi (.i rfl) (.t rfl) rfl) <| u (bi (.i rfl) (.t rfl) rfl) <| u (asg (.t rfl)) <| .nil _) rfl ?_
    refine .sq ?_
    refine be h fun x2 hx2 h => ?_
    refine be h fun x3 hx3 h => ?_
    refine .rg (u (mv (.t rfl)) <| u (mv (.t rfl)) <| u (sho (.t rfl) (.t rfl) rfl hx2) <| u (cv cv64_2 (.t rfl)) <| u (mv (.t rfl)) <| u (sho (.t rfl) (.t rfl) rfl hx3) <| u (asg (.t rfl)) <| u (asg (.i rfl)) <| .nil _) rfl ?_
    obtain rfl := Option.some.inj h
    exact .rt Tryz.func71 (.t rfl <| .t rfl <| .n) .n rfl rfl

theorem arrive_numbers_c {z : Option Nat} {b : List Int} {r : List Int} (h : arrive_numbers z b = some r) :
    AC Tryz.prog 72 [.ro (.list 1 (List.map e8 b))] (.own 0) [(0, .arr 24 1 (List.map (ei .u16) r))] := by
  refine AC.of Tryz.func72 rfl rfl fun w M0 hM => ?_
  unfold arrive_numbers at h
  refine .sq ?_
  refine .rg (anm (ei .u16) 2 24 1 rfl rfl <| .nil _) rfl ?_
  refine .sq ?_
  refine .rg (al 3 zf100_0 rfl <| .nil _) rfl ?_
  refine .th (F := (ei .u16)) 3 0 700300 24 1 rfl rfl rfl ?_
  refine .sq ?_
  refine .sq ?_
  refine .rg (u (mv (.t rfl)) <| cnf 0 cf63 (slices_Chunk_byte63_c (l := b) (n := 2) rfl) (.c (.t rfl) <| .c (.i rfl) <| .n) rfl rfl rfl <| .nil _) rfl ?_
  refine .bl ?_
  refine be h fun x1 hx1 h => ?_
  unfold arrive_numbers_l1 at h
  refine .kq (.rgc (n := 2) (F := e8) (fun (s : List Int) => ⟨[(3, .ptr 3 0), (8, .fn (.func 78) [] [.rptr [.list 1 (List.map e8 b)], .rptr [.int .i64 2]])], [(3, some (.box [.own 700300])), (700300, some (.arr 24 1 (List.map (ei .u16) s)))]⟩) [3, 8] chunk78_in cf78 h (lnO_le hx1) rfl (fun _ => rfl) (fun _ => rfl) rfl ⟨rfl, rfl⟩ ?_ ?_) (.c rfl (.c rfl .n)) (.c rfl (.c rfl .n))
  · rintro D1 l1 r1 pv1 R1 y1 v2 u1 h ih1 hx1 jr1 jx1 bg1
    replace h : arrive_numbers_s1 z y1 v2 = _ := h
    unfold arrive_numbers_s1 at h
    refine .rg (u (asg (.t rfl)) <| .nil _) rfl ?_
    refine bg1 _ _ ?_
    refine .bl ?_
    refine .sq ?_
    refine be h fun x3 hx3 h => ?_
    refine .rg (u (mv (.t rfl)) <| cl [] cf31 (octet_Get_c hx3) (.c (.t rfl) <| .c (.i rfl) <| .c (.i rfl) <| .n) (.inl rfl) <| u (mv (.t rfl)) <| u (ex (.t rfl) rfl rfl) <| u (ex (.t rfl) rfl rfl) <| u (asg (.t rfl)) <| u (asg (.t rfl)) <| .nil _) rfl ?_
    refine be h fun x4 hx4 h => ?_
    refine .rg (u (ld tf100 (.t rfl) rfl rfl) <| u (mv (.t rfl)) <| u (cv cv64_24 (.t rfl)) <| bs (F := (ei .u16)) (l := [(IntKind.u16.wrap x3.1)]) 18 pf100 (.c (.t rfl) rfl <| .n) rfl (fun _ _ => rfl) rfl rfl <| apo 19 pf100 (.t rfl) rfl (.t rfl) rfl hx4 rfl <| st tf100 (.t rfl) rfl (.t rfl) rfl rfl rfl <| .nil _) rfl ?_
    refine .ib ?_
    exact .ks (fun i => bif Nat.beq i 700300 then 19 else i) (ih1 x4 (nxi h)) (.c rfl (.c rfl .n)) (.c rfl (.c rfl .n)) rfl
  · rintro D1 v2 h
    replace h : arrive_numbers_d1 z v2 = _ := h
    unfold arrive_numbers_d1 at h
    refine .ib ?_
    refine .sq ?_
    refine .rg (u (ld tf100 (.t rfl) rfl rfl) <| u (asg (.t rfl)) <| .nil _) rfl ?_
    obtain rfl := Option.some.inj h
    refine .ks (l := [(2, .own 0)]) (o := [(0, some (.arr 24 1 (List.map (ei .u16) v2)))]) (fun i => bif Nat.beq i 0 then 700300 else i) ?_ (.c rfl .n) (.c rfl .n) rfl
    exact .rt Tryz.func72 (.t rfl <| .n) (.c rfl .n) rfl rfl

theorem arrive_numbers_r {z : Option Nat} {b : List Int} {r : List Int} (h : arrive_numbers z b = some r) :
    AC Tryz.prog 72 [.ro (.list 1 (List.map e8 b))] (.ro (.list 1 (List.map (ei .u16) r))) [] := AC.fz (arrive_numbers_c h) rfl

theorem math_bits_Mul32_c (x : Int) (y : Int) :
    AC Tryz.prog 102 [.ro (.int .u32 x), .ro (.int .u32 y)] (.ro (.tup [.int .u32 ((math_bits_Mul32 x y).1), .int .u32 ((math_bits_Mul32 x y).2)])) [] := by
  obtain ⟨r, h⟩ : ∃ r, math_bits_Mul32 x y = r := ⟨_, rfl⟩
  rw [h]
  refine AC.of Tryz.func102 rfl rfl fun w M0 hM => ?_
  unfold math_bits_Mul32 at h
  refine .sq ?_
  refine .rg (u (asg (.i rfl)) <| u (asg (.i rfl)) <| .nil _) rfl ?_
  refine .sq ?_
  refine .rg (u (mv (.t rfl)) <| u (cv cv22_64 (.t rfl)) <| u (mv (.t rfl)) <| u (cv cv22_64 (.t rfl)) <| u (bi (.t rfl) (.t rfl) rfl) <| u (asg (.t rfl)) <| .nil _) rfl ?_
  refine .sq ?_
  refine .rg (u (mv (.t rfl)) <| u (sh (.t rfl) (.i rfl) rfl (by decide)) <| u (cv cv64_22 (.t rfl)) <| u (mv (.t rfl)) <| u (cv cv64_22 (.t rfl)) <| u (asg (.t rfl)) <| u (asg (.t rfl)) <| .nil _) rfl ?_
  subst h
  exact .rt Tryz.func102 (.t rfl <| .t rfl <| .n) .n rfl rfl

theorem math_bits_Mul64_c (x : Int) (y : Int) :
    AC Tryz.prog 103 [.ro (.int .u64 x), .ro (.int .u64 y)] (.ro (.tup [.int .u64 ((math_bits_Mul64 x y).1), .int .u64 ((math_bits_Mul64 x y).2)])) [] := by
  obtain ⟨r, h⟩ : ∃ r, math_bits_Mul64 x y = r := ⟨_, rfl⟩
  rw [h]
  refine AC.of Tryz.func103 rfl rfl fun w M0 hM => ?_
  unfold math_bits_Mul64 at h
  refine .sq ?_
  refine .rg (u (asg (.i rfl)) <| u (asg (.i rfl)) <| .nil _) rfl ?_
  refine .sq ?_
  refine .rg (u (mv (.t rfl)) <| u (bi (.t rfl) (.i rfl) rfl) <| u (asg (.t rfl)) <| .nil _) rfl ?_
  refine .sq ?_
  refine .rg (u (mv (.t rfl)) <| u (sh (.t rfl) (.i rfl) rfl (by decide)) <| u (asg (.t rfl)) <| .nil _) rfl ?_
  refine .sq ?_
  refine .rg (u (mv (.t rfl)) <| u (bi (.t rfl) (.i rfl) rfl) <| u (asg (.t rfl)) <| .nil _) rfl ?_
  refine .sq ?_
  refine .rg (u (mv (.t rfl)) <| u (sh (.t rfl) (.i rfl) rfl (by decide)) <| u (asg (.t rfl)) <| .nil _) rfl ?_
  refine .sq ?_
  refine .rg (u (mv (.t rfl)) <| u (mv (.t rfl)) <| u (bi (.t rfl) (.t rfl) rfl) <| u (asg (.t rfl)) <| .nil _) rfl ?_
  refine .sq ?_
  refine .rg (u (mv (.t rfl)) <| u (mv (.t rfl)) <| u (bi (.t rfl) (.t rfl) rfl) <| u (mv (.t rfl)) <| u (sh (.t rfl) (.i rfl) rfl (by decide)) <| u (bi (.t rfl) (.t rfl) rfl) <| u (asg (.t rfl)) <| .nil _) rfl ?_
  refine .sq ?_
  refine .rg (u (mv (.t rfl)) <| u (bi (.t rfl) (.i rfl) rfl) <| u (asg (.t rfl)) <| .nil _) rfl ?_
  refine .sq ?_
  refine .rg (u (mv (.t rfl)) <| u (sh (.t rfl) (.i rfl) rfl (by decide)) <| u (asg (.t rfl)) <| .nil _) rfl ?_
  refine .sq ?_
  refine .rg (u (mv (.t rfl)) <| u (mv (.t rfl)) <| u (mv (.t rfl)) <| u (bi (.t rfl) (.t rfl) rfl) <| u (bi (.t rfl) (.t rfl) rfl) <| u (asg (.t rfl)) <| .nil _) rfl ?_
  refine .sq ?_
  refine .rg (u (mv (.t rfl)) <| u (mv (.t rfl)) <| u (bi (.t rfl) (.t rfl) rfl) <| u (mv (.t rfl)) <| u (bi (.t rfl) (.t rfl) rfl) <| u (mv (.t rfl)) <| u (sh (.t rfl) (.i rfl) rfl (by decide)) <| u (bi (.t rfl) (.t rfl) rfl) <| u (asg (.t rfl)) <| .nil _) rfl ?_
  refine .sq ?_
  refine .rg (u (mv (.t rfl)) <| u (mv (.t rfl)) <| u (bi (.t rfl) (.t rfl) rfl) <| u (asg (.t rfl)) <| .nil _) rfl ?_
  subst h
  exact .rt Tryz.func103 (.t rfl <| .t rfl <| .n) .n rfl rfl

theorem math_bits_Mul_c (x : Int) (y : Int) :
    AC Tryz.prog 99 [.ro (.int .u64 x), .ro (.int .u64 y)] (.ro (.tup [.int .u64 ((math_bits_Mul x y).1), .int .u64 ((math_bits_Mul x y).2)])) [] := by
  obtain ⟨r, h⟩ : ∃ r, math_bits_Mul x y = r := ⟨_, rfl⟩
  rw [h]
  refine AC.of Tryz.func99 rfl rfl fun w M0 hM => ?_
  unfold math_bits_Mul at h
  refine .sq ?_
  refine .rg (u (asg (.i rfl)) <| u (asg (.i rfl)) <| .nil _) rfl ?_
  refine .sq ?_
  refine .cf .b rfl ?_
  refine .skp ?_
  refine .sq ?_
  refine .rg (u (mv (.t rfl)) <| u (mv (.t rfl)) <| cl [] cf103 (math_bits_Mul64_c x y) (.c (.t rfl) <| .c (.t rfl) <| .n) (.inl rfl) <| u (mv (.t rfl)) <| u (ex (.t rfl) rfl rfl) <| u (ex (.t rfl) rfl rfl) <| u (asg (.t rfl)) <| u (asg (.t rfl)) <| .nil _) rfl ?_
  refine .sq ?_
  refine .rg (u (mv (.t rfl)) <| u (mv (.t rfl)) <| u (asg (.t rfl)) <| u (asg (.t rfl)) <| .nil _) rfl ?_
  subst h
  exact .rt Tryz.func99 (.t rfl <| .t rfl <| .n) .n rfl rfl

theorem slices_Repeat_c {z : Option Nat} {x : List Int} {count : Int} {r : List Int} (h : slices_Repeat z x count = some r) :
    AC Tryz.prog 89 [.ro (.list 1 (List.map (ei .i64) x)), .ro (.int .i64 count)] (.own 0) [(0, .arr 3 1 (List.map (ei .i64) r))] := by
  refine AC.of Tryz.func89 rfl rfl fun w M0 hM => ?_
  unfold slices_Repeat at h
  refine .sq ?_
  refine .rg (anm (ei .i64) 4 3 1 rfl rfl <| .nil _) rfl ?_
  refine .sq ?_
  refine .sq ?_
  refine .rg (u (mv (.t rfl)) <| u (bc (.t rfl) (.i rfl) rfl rfl) <| .nil _) rfl ?_
  refine .jq (t := some r) (fun (a : Unit) => ⟨[(0, .ro (.list 1 (List.map (ei .i64) x))), (1, .ro (.int .i64 count))], []⟩) (fun (a : Unit) => slices_Repeat_j1 z x count) ?_ (fun J1 => ?_)
  · intro _ h
    replace h : slices_Repeat_j1 z x count = _ := h
    unfold slices_Repeat_j1 at h
    refine .sq ?_
    refine .rg (u (mv (.t rfl)) <| u (lnm sf56 (.t rfl)) <| u (cv cv3_123 (.t rfl)) <| u (mv (.t rfl)) <| u (cv cv3_123 (.t rfl)) <| cl [] cf99 (math_bits_Mul_c (IntKind.u64.wrap (x.length : Int)) (IntKind.u64.wrap count)) (.c (.t rfl) <| .c (.t rfl) <| .n) (.inl rfl) <| u (mv (.t rfl)) <| u (ex (.t rfl) rfl rfl) <| u (ex (.t rfl) rfl rfl) <| u (asg (.t rfl)) <| u (asg (.t rfl)) <| .nil _) rfl ?_
    refine .sq ?_
    refine .sq ?_
    refine .rg (u (mv (.t rfl)) <| u (bc (.t rfl) (.i rfl) rfl rfl) <| u (mv (.t rfl)) <| gd rfl rfl (fun hB => mv (.t rfl)) <| gd rfl rfl (fun hB => bc (.m rfl hB) (.i rfl) rfl rfl) <| u (pko (.t rfl) (.t rfl)) <| .nil _) rfl ?_
    refine .jq (t := some r) (fun (a : Unit) => ⟨[(0, .ro (.list 1 (List.map (ei .i64) x))), (6, .ro (.int .u64 ((math_bits_Mul (IntKind.u64.wrap (x.length : Int)) (IntKind.u64.wrap count)).2)))], []⟩) (fun (a : Unit) => slices_Repeat_j2 z x count) ?_ (fun J2 => ?_)
    · intro _ h
      replace h : slices_Repeat_j2 z x count = _ := h
      unfold slices_Repeat_j2 at h
      refine .sq ?_
      refine be h fun x1 hx1 h => ?_
      refine .rg (u (mv (.t rfl)) <| u (cv cv123_3 (.t rfl)) <| mks (F := (ei .i64)) (z0 := 0) 30 pf56 zf3 (.t rfl) (.t rfl) hx1 rfl <| u (asg (.t rfl)) <| .nil _) rfl ?_
      refine .sq ?_
      refine .rg (u (mv (.t rfl)) <| u (mv (.t rfl)) <| cpc (F := (ei .i64)) (l := x1) (m := x) (a := 0) (b := (x1.length : Int)) sf56 (.t rfl) (.inr ⟨rfl, rfl, rfl⟩) (by omega) rfl (.r (.t rfl)) <| u (asg (.t rfl)) <| .nil _) rfl ?_
      refine .sq ?_
      refine .bl ?_
      unfold slices_Repeat_l3 at h
      refine .ks (fun i => bif Nat.beq i 7 then 30 else i) (.lo (fun (s : List Int × Int) => ⟨[(7, .own 7), (8, .ro (.int .i64 s.2))], [(7, some (.arr 3 1 (List.map (ei .i64) s.1)))]⟩) h ?_) (.c rfl (.c rfl .n)) (.c rfl .n) rfl
      rintro ⟨v2, v3⟩ u3 h ih3 hx3
      replace h : slices_Repeat_s3 z v2 v3 = _ := h
      unfold slices_Repeat_s3 at h
      refine .sq ?_
      refine .sq ?_
      refine .rg (u (mv (.t rfl)) <| u (mv (.t rfl)) <| u (lom sf56 (.t rfl) rfl) <| u (bc (.t rfl) (.t rfl) rfl rfl) <| .nil _) rfl ?_
      refine .bq h (.t rfl) (fun h => ?_) (fun h => ?_)
      · refine .skp ?_
        refine .bl ?_
        refine be h fun x4 hx4 h => ?_
        refine be h fun x5 hx5 h => ?_
        refine .rd mixed (u (mv (.t rfl)) <| u (mv (.t rfl)) <| u (mv (.t rfl)) <| u (slv (F := (ei .i64)) sf56 (.t rfl) rfl (.s (.t rfl)) .n hx4) <| u (mv (.t rfl)) <| u (mv (.t rfl)) <| u (slv (F := (ei .i64)) sf56 (.t rfl) rfl .n (.s (.t rfl)) hx5) <| cpc (F := (ei .i64)) (l := v2) (m := x5) (a := v3) (b := (v2.length : Int)) sf56 (.t rfl) (.inl rfl) (sub_bd hx4) rfl (.v (F := (ei .i64)) (.t rfl) rfl hx5) <| u (bi (.t rfl) (.t rfl) rfl) <| u (asg (.t rfl)) <| .nil _) (by kernel_rfl) rfl ?_
        refine .ib ?_
        exact .kq (.il (ih3 ((cpy v2 v3 (v2.length : Int) x5), (ar .add .i64 v3 (cpn v3 (v2.length : Int) x5))) (nxi h))) (.c rfl (.c rfl .n)) (.c rfl .n)
      · refine .xt rfl ?_
        replace h := mpR h hx3
        refine .sq ?_
        refine .rg (u (mv (.t rfl)) <| u (asg (.t rfl)) <| .nil _) rfl ?_
        obtain rfl := Option.some.inj h
        refine .ks (l := [(4, .own 0)]) (o := [(0, some (.arr 3 1 (List.map (ei .i64) v2)))]) (fun i => bif Nat.beq i 0 then 7 else i) ?_ (.c rfl .n) (.c rfl .n) rfl
        exact .rt Tryz.func89 (.t rfl <| .n) (.c rfl .n) rfl rfl
    refine .bq h (.t rfl) (fun h => ?_) (fun h => ?_)
    · cases h
    · refine .skp ?_
      exact .kq (J2 () h) (.c rfl (.c rfl .n)) .n
  refine .bq h (.t rfl) (fun h => ?_) (fun h => ?_)
  · cases h
  · refine .skp ?_
    exact .kq (J1 () h) (.c rfl (.c rfl .n)) .n

theorem slices_Repeat_r {z : Option Nat} {x : List Int} {count : Int} {r : List Int} (h : slices_Repeat z x count = some r) :
    AC Tryz.prog 89 [.ro (.list 1 (List.map (ei .i64) x)), .ro (.int .i64 count)] (.ro (.list 1 (List.map (ei .i64) r))) [] := AC.fz (slices_Repeat_c h) rfl

theorem chunk_told_c {z : Option Nat} {c : Int} {most : Int} {r : List Int} (h : chunk_told z c most = some r) :
    AC Tryz.prog 82 [.ro (.int .u16 c), .ro (.int .i64 most)] (.own 0) [(0, .arr 3 1 (List.map (ei .i64) r))] := by
  refine AC.of Tryz.func82 rfl rfl fun w M0 hM => ?_
  unfold chunk_told at h
  refine .sq ?_
  refine .rg (anm (ei .i64) 4 3 1 rfl rfl <| .nil _) rfl ?_
  refine .sq ?_
  refine .sq ?_
  refine .rg (u (mv (.t rfl)) <| u (bi (.t rfl) (.i rfl) rfl) <| u (bc (.t rfl) (.i rfl) rfl rfl) <| .nil _) rfl ?_
  refine .bq h (.t rfl) (fun h => ?_) (fun h => ?_)
  · refine .sq ?_
    refine be h fun x1 hx1 h => ?_
    refine .rg (u (mv (.t rfl)) <| u (sh (.t rfl) (.i rfl) rfl (by decide)) <| u (cv cv24_3 (.t rfl)) <| nu (bsn (F := (ei .i64)) (l := [(IntKind.i64.wrap (sf .shr .u16 c 13))]) pf56 (.c (.t rfl) rfl <| .n) rfl (fun _ _ => rfl) rfl) <| u (mv (.t rfl)) <| u (bi (.t rfl) (.i rfl) rfl) <| u (cv cv24_3 (.t rfl)) <| u (mv (.t rfl)) <| u (mn (.t rfl) (.t rfl)) <| cnf 22000 cf89 (slices_Repeat_c hx1) (.c (.t rfl) <| .c (.t rfl) <| .n) rfl rfl rfl <| u (asg (.t rfl)) <| .nil _) rfl ?_
    obtain rfl := Option.some.inj h
    refine .ks (l := [(4, .own 0)]) (o := [(0, some (.arr 3 1 (List.map (ei .i64) x1)))]) (fun i => bif Nat.beq i 0 then 22000 else i) ?_ (.c rfl .n) (.c rfl .n) rfl
    exact .rt Tryz.func82 (.t rfl <| .n) (.c rfl .n) rfl rfl
  · refine .skp ?_
    refine .sq ?_
    refine .rg (u (asg (.i rfl)) <| u (asg (.i rfl)) <| .nil _) rfl ?_
    refine .sq ?_
    refine .sq ?_
    refine .rg (u (mv (.t rfl)) <| u (bi (.t rfl) (.i rfl) rfl) <| u (bc (.t rfl) (.i rfl) rfl rfl) <| .nil _) rfl ?_
    refine .jq (t := some r) (fun (a : Int × Int) => ⟨[(0, .ro (.int .u16 c)), (1, .ro (.int .i64 most)), (5, .ro (.int .i64 a.1)), (6, .ro (.int .i64 a.2))], []⟩) (fun (a : Int × Int) => chunk_told_j1 z c most a.1 a.2) ?_ (fun J1 => ?_)
    · rintro ⟨v2, v3⟩ h
      replace h : chunk_told_j1 z c most v2 v3 = _ := h
      unfold chunk_told_j1 at h
      refine .sq ?_
      refine .rg (anm (ei .i64) 7 3 1 rfl rfl <| .nil _) rfl ?_
      refine .sq ?_
      refine .sq ?_
      refine .rg (u (mv (.t rfl)) <| u (mv (.t rfl)) <| u (mn (.t rfl) (.t rfl)) <| u (mv (.i rfl)) <| .nil _) rfl ?_
      refine .bl ?_
      unfold chunk_told_l2 at h
      refine .kq (.lo (fun (s : List Int × Int) => ⟨[(0, .ro (.int .u16 c)), (5, .ro (.int .i64 v2)), (6, .ro (.int .i64 v3)), (7, .own 7), (27, .ro (.int .i64 (imin v3 most))), (28, .ro (.int .i64 s.2))], [(7, some (.arr 3 1 (List.map (ei .i64) s.1)))]⟩) h ?_) (.c rfl (.c rfl (.c rfl (.c rfl (.c rfl (.c rfl .n)))))) (.c rfl .n)
      rintro ⟨v4, v5⟩ u2 h ih2 hx2
      replace h : chunk_told_s2 z c most v2 v3 v4 v5 = _ := h
      unfold chunk_told_s2 at h
      refine .sq ?_
      refine .rg (u (bc (.t rfl) (.t rfl) rfl rfl) <| .nil _) rfl ?_
      refine .sq ?_
      refine .bq h (.t rfl) (fun h => ?_) (fun h => ?_)
      · refine .skp ?_
        refine .sq ?_
        refine .bl ?_
        refine .sq ?_
        refine .rg (u (mv (.t rfl)) <| u (asg (.t rfl)) <| .nil _) rfl ?_
        refine be h fun x6 hx6 h => ?_
        refine be h fun x7 hx7 h => ?_
        refine be h fun x8 hx8 h => ?_
        refine .rd mixed (u (mv (.t rfl)) <| u (mv (.t rfl)) <| u (mv (.t rfl)) <| u (mv (.t rfl)) <| u (bi (.t rfl) (.i rfl) rfl) <| u (mv (.t rfl)) <| u (bi (.t rfl) (.t rfl) rfl) <| u (bi (.t rfl) (.t rfl) rfl) <| u (sho (.t rfl) (.t rfl) rfl hx6) <| u (cv cv24_3 (.t rfl)) <| u (mv (.t rfl)) <| u (sho (.i rfl) (.t rfl) rfl hx7) <| u (bi (.t rfl) (.i rfl) rfl) <| u (bi (.t rfl) (.t rfl) rfl) <| bs (F := (ei .i64)) (l := [(ar .and .i64 (IntKind.i64.wrap x6) (ar .sub .i64 x7 1))]) 45 pf56 (.c (.t rfl) rfl <| .n) rfl (fun _ _ => rfl) rfl rfl <| apo 46 pf56 (.t rfl) rfl (.t rfl) rfl hx8 rfl <| u (asg (.t rfl)) <| .nil _) (by kernel_rfl) rfl ?_
        refine .ib ?_
        refine .rg (u (bi (.t rfl) (.i rfl) rfl) <| u (mv (.t rfl)) <| .nil _) rfl ?_
        exact .ks (fun i => bif Nat.beq i 7 then 46 else i) (.il (ih2 (x8, (ar .add .i64 v5 1)) (nxi h))) (.c rfl (.c rfl (.c rfl (.c rfl (.c rfl (.c rfl .n)))))) (.c rfl .n) rfl
      · refine .xt rfl ?_
        replace h := mpR h hx2
        refine .sq ?_
        refine .rg (u (mv (.t rfl)) <| u (asg (.t rfl)) <| .nil _) rfl ?_
        obtain rfl := Option.some.inj h
        refine .ks (l := [(4, .own 0)]) (o := [(0, some (.arr 3 1 (List.map (ei .i64) v4)))]) (fun i => bif Nat.beq i 0 then 7 else i) ?_ (.c rfl .n) (.c rfl .n) rfl
        exact .rt Tryz.func82 (.t rfl <| .n) (.c rfl .n) rfl rfl
    refine .bq h (.t rfl) (fun h => ?_) (fun h => ?_)
    · refine .rg (u (asg (.i rfl)) <| u (asg (.i rfl)) <| .nil _) rfl ?_
      exact .kq (J1 (2, 7) h) (.c rfl (.c rfl (.c rfl (.c rfl .n)))) .n
    · refine .skp ?_
      exact .kq (J1 (1, 14) h) (.c rfl (.c rfl (.c rfl (.c rfl .n)))) .n

theorem chunk_told_r {z : Option Nat} {c : Int} {most : Int} {r : List Int} (h : chunk_told z c most = some r) :
    AC Tryz.prog 82 [.ro (.int .u16 c), .ro (.int .i64 most)] (.ro (.list 1 (List.map (ei .i64) r))) [] := AC.fz (chunk_told_c h) rfl

theorem chunk_Read_c {z : Option Nat} {chunks : List Int} {count : Int} {r : List Int × Int × Int} (h : chunk_Read z chunks count = some r) :
    AC Tryz.prog 73 [.ro (.list 1 (List.map (ei .u16) chunks)), .ro (.int .i64 count)] (.tup [.own 0, .ro (.int .i64 r.2.1), .ro (.int .i64 r.2.2)]) [(0, .arr 3 1 (List.map (ei .i64) r.1))] := by
  refine AC.of Tryz.func73 rfl rfl fun w M0 hM => ?_
  unfold chunk_Read at h
  refine .sq ?_
  refine .rg (anm (ei .i64) 4 3 1 rfl rfl <| u (asg (.i rfl)) <| u (asg (.i rfl)) <| .nil _) rfl ?_
  refine .sq ?_
  refine .sq ?_
  refine .rg (u (mv (.t rfl)) <| u (bc (.t rfl) (.i rfl) rfl rfl) <| u (mv (.t rfl)) <| gd rfl rfl (fun hB => mv (.t rfl)) <| gd rfl rfl (fun hB => bc (.m rfl hB) (.i rfl) rfl rfl) <| u (pko (.t rfl) (.t rfl)) <| .nil _) rfl ?_
  refine .bq h (.t rfl) (fun h => ?_) (fun h => ?_)
  · refine .sq ?_
    refine .rg (anm (ei .i64) 100004 3 1 rfl rfl <| u (asg (.i rfl)) <| u (asg (.i rfl)) <| .nil _) rfl ?_
    obtain rfl := Option.some.inj h
    refine .ks (l := [(4, .own 0), (5, .ro (.int .i64 0)), (6, .ro (.int .i64 1))]) (o := [(0, some (.arr 3 1 (List.map (ei .i64) [])))]) (fun i => bif Nat.beq i 0 then 100004 else i) ?_ (.c rfl (.c rfl (.c rfl .n))) (.c rfl .n) rfl
    exact .rt Tryz.func73 (.t rfl <| .t rfl <| .t rfl <| .n) (.c rfl .n) rfl rfl
  · refine .skp ?_
    refine .sq ?_
    refine .rg (anm (ei .i64) 7 3 1 rfl rfl <| .nil _) rfl ?_
    refine .sq ?_
    refine .sq ?_
    refine .rg (u (asg (.i rfl)) <| .nil _) rfl ?_
    refine .bl ?_
    unfold chunk_Read_l1 at h
    refine .kq (.lo (fun (s : List Int × Int) => ⟨[(0, .ro (.list 1 (List.map (ei .u16) chunks))), (1, .ro (.int .i64 count)), (7, .own 7), (8, .ro (.int .i64 s.2))], [(7, some (.arr 3 1 (List.map (ei .i64) s.1)))]⟩) h ?_) (.c rfl (.c rfl (.c rfl (.c rfl .n)))) (.c rfl .n)
    rintro ⟨v1, v2⟩ u1 h ih1 hx1
    replace h : chunk_Read_s1 z chunks count v1 v2 = _ := h
    unfold chunk_Read_s1 at h
    refine .sq ?_
    refine .sq ?_
    refine .rg (u (mv (.t rfl)) <| u (lom sf56 (.t rfl) rfl) <| u (mv (.t rfl)) <| u (bc (.t rfl) (.t rfl) rfl rfl) <| .nil _) rfl ?_
    refine .bq h (.t rfl) (fun h => ?_) (fun h => ?_)
    · refine .skp ?_
      refine .sq ?_
      refine .bl ?_
      refine .sq ?_
      refine .sq ?_
      refine .rg (u (mv (.t rfl)) <| u (mv (.t rfl)) <| u (lnm sf100 (.t rfl)) <| u (bc (.t rfl) (.t rfl) rfl rfl) <| .nil _) rfl ?_
      refine .bq h (.t rfl) (fun h => ?_) (fun h => ?_)
      · refine .sq ?_
        refine .rg (anm (ei .i64) 4 3 1 rfl rfl <| u (asg (.i rfl)) <| u (asg (.i rfl)) <| .nil _) rfl ?_
        replace h := mpR h hx1
        obtain rfl := Option.some.inj h
        refine .ks (l := [(4, .own 0), (5, .ro (.int .i64 0)), (6, .ro (.int .i64 2))]) (o := [(0, some (.arr 3 1 (List.map (ei .i64) [])))]) (fun i => bif Nat.beq i 0 then 4 else i) ?_ (.c rfl (.c rfl (.c rfl .n))) (.c rfl .n) rfl
        exact .rt Tryz.func73 (.t rfl <| .t rfl <| .t rfl <| .n) (.c rfl .n) rfl rfl
      · refine .skp ?_
        refine .sq ?_
        refine be h fun x3 hx3 h => ?_
        refine be h fun x4 hx4 h => ?_
        refine .rg (u (mv (.t rfl)) <| u (mv (.t rfl)) <| u (ia sf100 (.t rfl) (.t rfl) (ix_map (ei .u16) hx3)) <| u (lr tf24 (.t rfl) rfl) <| u (mv (.t rfl)) <| u (mv (.t rfl)) <| u (lom sf56 (.t rfl) rfl) <| u (bi (.t rfl) (.t rfl) rfl) <| cnf 35000 cf82 (chunk_told_c hx4) (.c (.t rfl) <| .c (.t rfl) <| .n) rfl rfl rfl <| u (asg (.t rfl)) <| .nil _) rfl ?_
        refine .sq ?_
        refine .sq ?_
        refine be h fun x5 hx5 h => ?_
        refine .rg (u (mv (.t rfl)) <| cl [] cf83 (slices_Contains_c hx5) (.b (.t rfl) rfl <| .c (.i rfl) <| .n) (.inr rfl) <| .nil _) rfl ?_
        refine .bq h (.t rfl) (fun h => ?_) (fun h => ?_)
        · refine .sq ?_
          refine .rg (anm (ei .i64) 4 3 1 rfl rfl <| u (asg (.i rfl)) <| u (asg (.i rfl)) <| .nil _) rfl ?_
          replace h := mpR h hx1
          obtain rfl := Option.some.inj h
          refine .ks (l := [(4, .own 0), (5, .ro (.int .i64 0)), (6, .ro (.int .i64 6))]) (o := [(0, some (.arr 3 1 (List.map (ei .i64) [])))]) (fun i => bif Nat.beq i 0 then 4 else i) ?_ (.c rfl (.c rfl (.c rfl .n))) (.c rfl .n) rfl
          exact .rt Tryz.func73 (.t rfl <| .t rfl <| .t rfl <| .n) (.c rfl .n) rfl rfl
        · refine .skp ?_
          refine .sq ?_
          refine be h fun x6 hx6 h => ?_
          refine .rg (u (mv (.t rfl)) <| u (mv (.t rfl)) <| apo 39 pf56 (.t rfl) rfl (.t rfl) rfl hx6 rfl <| u (asg (.t rfl)) <| .nil _) rfl ?_
          refine .sq ?_
          refine .rg (u (mv (.t rfl)) <| u (lom sf56 (.t rfl) rfl) <| u (mv (.t rfl)) <| u (bc (.t rfl) (.t rfl) rfl rfl) <| .nil _) rfl ?_
          refine .bq h (.t rfl) (fun h => ?_) (fun h => ?_)
          · refine .sq ?_
            refine .rg (u (mv (.t rfl)) <| u (mv (.t rfl)) <| u (bi (.t rfl) (.i rfl) rfl) <| u (asg (.t rfl)) <| u (asg (.t rfl)) <| u (asg (.i rfl)) <| .nil _) rfl ?_
            replace h := mpR h hx1
            obtain rfl := Option.some.inj h
            refine .ks (l := [(4, .own 0), (5, .ro (.int .i64 (ar .add .i64 v2 1))), (6, .ro (.int .i64 0))]) (o := [(0, some (.arr 3 1 (List.map (ei .i64) x6)))]) (fun i => bif Nat.beq i 0 then 39 else i) ?_ (.c rfl (.c rfl (.c rfl .n))) (.c rfl .n) rfl
            exact .rt Tryz.func73 (.t rfl <| .t rfl <| .t rfl <| .n) (.c rfl .n) rfl rfl
          · refine .skp ?_
            refine .ib ?_
            refine .rg (u (mv (.t rfl)) <| u (bi (.t rfl) (.i rfl) rfl) <| u (asg (.t rfl)) <| .nil _) rfl ?_
            exact .ks (fun i => bif Nat.beq i 7 then 39 else i) (.il (ih1 (x6, (ar .add .i64 v2 1)) (nxi h))) (.c rfl (.c rfl (.c rfl (.c rfl .n)))) (.c rfl .n) rfl
    · refine .xt rfl ?_
      replace h := mpR h hx1
      refine .sq ?_
      refine .rg (u (mv (.t rfl)) <| u (asg (.t rfl)) <| u (asg (.i rfl)) <| u (asg (.i rfl)) <| .nil _) rfl ?_
      obtain rfl := Option.some.inj h
      refine .ks (l := [(4, .own 0), (5, .ro (.int .i64 0)), (6, .ro (.int .i64 0))]) (o := [(0, some (.arr 3 1 (List.map (ei .i64) v1)))]) (fun i => bif Nat.beq i 0 then 7 else i) ?_ (.c rfl (.c rfl (.c rfl .n))) (.c rfl .n) rfl
      exact .rt Tryz.func73 (.t rfl <| .t rfl <| .t rfl <| .n) (.c rfl .n) rfl rfl

theorem chunk_Read_r {z : Option Nat} {chunks : List Int} {count : Int} {r : List Int × Int × Int} (h : chunk_Read z chunks count = some r) :
    AC Tryz.prog 73 [.ro (.list 1 (List.map (ei .u16) chunks)), .ro (.int .i64 count)] (.ro (.tup [.list 1 (List.map (ei .i64) r.1), .int .i64 r.2.1, .int .i64 r.2.2])) [] := AC.fz (chunk_Read_c h) rfl

theorem arrive_size_c (what : Int) :
    AC Tryz.prog 74 [.ro (.int .i64 what)] (.ro (.int .i64 (arrive_size what))) [] := by
  obtain ⟨r, h⟩ : ∃ r, arrive_size what = r := ⟨_, rfl⟩
  rw [h]
  refine AC.of Tryz.func74 rfl rfl fun w M0 hM => ?_
  unfold arrive_size at h
  refine .sq ?_
  refine .rg (u (asg (.i rfl)) <| .nil _) rfl ?_
  refine .sq ?_
  refine .rg (u (mv (.t rfl)) <| u (asg (.t rfl)) <| .nil _) rfl ?_
  subst h
  exact .rt Tryz.func74 (.t rfl <| .n) .n rfl rfl

theorem arrive_deltas_c {z : Option Nat} {l : List Int} {b : List Int} {r : List Seen} (h : arrive_deltas z l b = some r) :
    AC Tryz.prog 75 [.ro (.list 1 (List.map (ei .i64) l)), .ro (.list 1 (List.map e8 b))] (.own 0) [(0, .arr 90 2 (List.map cells_Seen r))] := by
  refine AC.of Tryz.func75 rfl rfl fun w M0 hM => ?_
  unfold arrive_deltas at h
  refine .sq ?_
  refine .rg (anm cells_Seen 4 90 2 rfl rfl <| .nil _) rfl ?_
  refine .sq ?_
  refine .rg (anm cells_Seen 5 90 2 rfl rfl <| .nil _) rfl ?_
  refine .sq ?_
  refine .rg (u (asg (.i rfl)) <| .nil _) rfl ?_
  refine .sq ?_
  refine .sq ?_
  refine .rg (u (mv (.t rfl)) <| u (lnm sf56 (.t rfl)) <| u (mv (.i rfl)) <| .nil _) rfl ?_
  refine .bl ?_
  unfold arrive_deltas_l1 at h
  refine .kq (.lo (fun (s : List Seen × Int × Int) => ⟨[(1, .ro (.list 1 (List.map e8 b))), (5, .own 5), (6, .ro (.int .i64 s.2.1)), (12, .ro (.list 1 (List.map (ei .i64) l))), (13, .ro (.int .i64 (l.length : Int))), (14, .ro (.int .i64 s.2.2))], [(5, some (.arr 90 2 (List.map cells_Seen s.1)))]⟩) h ?_) (.c rfl (.c rfl (.c rfl (.c rfl (.c rfl (.c rfl .n)))))) (.c rfl .n)
  rintro ⟨v1, v2, v3⟩ u1 h ih1 hx1
  replace h : arrive_deltas_s1 z l b v1 v2 v3 = _ := h
  unfold arrive_deltas_s1 at h
  refine .sq ?_
  refine .rg (u (bc (.t rfl) (.t rfl) rfl rfl) <| .nil _) rfl ?_
  refine .sq ?_
  refine .bq h (.t rfl) (fun h => ?_) (fun h => ?_)
  · refine .skp ?_
    refine .sq ?_
    refine .bl ?_
    refine .sq ?_
    refine be h fun x4 hx4 h => ?_
    refine .rg (u (ia sf56 (.t rfl) (.t rfl) (ix_map (ei .i64) hx4)) <| u (lr tf3 (.t rfl) rfl) <| u (asg (.t rfl)) <| .nil _) rfl ?_
    refine .sq ?_
    refine .rg (u (mv (.t rfl)) <| u (bd bf90 zf90 (.c rfl (.t rfl) rfl rfl rfl <| .n) rfl) <| al 9 zf90 rfl <| st tf90 (.t rfl) rfl (.t rfl) rfl rfl rfl <| .nil _) rfl ?_
    refine .sq ?_
    refine .sq ?_
    refine .rg (u (mv (.t rfl)) <| .nil _) rfl ?_
    refine .bl ?_
    refine .sq ?_
    refine .rg (u (bc (.t rfl) (.i rfl) rfl rfl) <| u (asg (.t rfl)) <| .nil _) rfl ?_
    refine .jq (t := some u1) (fun (a : Seen) => ⟨[(1, .ro (.list 1 (List.map e8 b))), (5, .own 5), (6, .ro (.int .i64 v2)), (8, .ro (.int .i64 x4)), (9, .ptr 9 0), (12, .ro (.list 1 (List.map (ei .i64) l))), (13, .ro (.int .i64 (l.length : Int))), (14, .ro (.int .i64 v3))], [(5, some (.arr 90 2 (List.map cells_Seen v1))), (9, some (.box [.ro (.int .i64 a.what), .ro (.int .i64 a.delta)]))]⟩) (fun (a : Seen) => arrive_deltas_j2 z v1 v2 v3 x4 a) ?_ (fun J2 => ?_)
    · intro v5 h
      replace h : arrive_deltas_j2 z v1 v2 v3 x4 v5 = _ := h
      unfold arrive_deltas_j2 at h
      refine .ib ?_
      refine .sq ?_
      refine .rg (u (mv (.t rfl)) <| u (mv (.t rfl)) <| cl [] cf74 (arrive_size_c x4) (.c (.t rfl) <| .n) (.inl rfl) <| u (bi (.t rfl) (.t rfl) rfl) <| u (asg (.t rfl)) <| .nil _) rfl ?_
      refine be h fun x6 hx6 h => ?_
      refine .rg (u (mv (.t rfl)) <| u (ld tf90 (.t rfl) rfl rfl) <| bs (F := cells_Seen) (l := [v5]) 45 pf25 (.c (.t rfl) rfl <| .n) rfl (fun _ _ => rfl) rfl rfl <| apo 46 pf25 (.t rfl) rfl (.t rfl) rfl hx6 rfl <| u (asg (.t rfl)) <| .nil _) rfl ?_
      refine .ib ?_
      refine .rg (u (bi (.t rfl) (.i rfl) rfl) <| u (mv (.t rfl)) <| .nil _) rfl ?_
      exact .ks (fun i => bif Nat.beq i 5 then 46 else i) (.il (ih1 (x6, (ar .add .i64 v2 (arrive_size x4)), (ar .add .i64 v3 1)) (nxi h))) (.c rfl (.c rfl (.c rfl (.c rfl (.c rfl (.c rfl .n)))))) (.c rfl .n) rfl
    refine .bq h (.t rfl) (fun h => ?_) (fun h => ?_)
    · refine be h fun x7 hx7 h => ?_
      refine .rg (u (mv (.t rfl)) <| u (mv (.t rfl)) <| u (ia sf34 (.t rfl) (.t rfl) (ix_map e8 hx7)) <| u (lr tf5 (.t rfl) rfl) <| u (cv cv5_3 (.t rfl)) <| u (fa ff90_1 (.t rfl)) <| st tf3 (.t rfl) rfl (.t rfl) rfl rfl rfl <| .nil _) rfl ?_
      exact .kq (J2 (Seen.mk x4 (IntKind.i64.wrap x7)) h) (.c rfl (.c rfl (.c rfl (.c rfl (.c rfl (.c rfl (.c rfl (.c rfl .n)))))))) (.c rfl (.c rfl .n))
    · refine .sq ?_
      refine .rg (u (bc (.t rfl) (.i rfl) rfl rfl) <| u (asg (.t rfl)) <| .nil _) rfl ?_
      refine .bq h (.t rfl) (fun h => ?_) (fun h => ?_)
      · refine .sq ?_
        refine be h fun x8 hx8 h => ?_
        refine .rg (u (mv (.t rfl)) <| u (mv (.t rfl)) <| cl [] cf71 (octet_Signed_c hx8) (.c (.t rfl) <| .c (.t rfl) <| .c (.i rfl) <| .n) (.inl rfl) <| u (mv (.t rfl)) <| u (ex (.t rfl) rfl rfl) <| u (ex (.t rfl) rfl rfl) <| u (asg (.t rfl)) <| u (asg (.t rfl)) <| .nil _) rfl ?_
        refine .rg (u (mv (.t rfl)) <| u (fa ff90_1 (.t rfl)) <| st tf3 (.t rfl) rfl (.t rfl) rfl rfl rfl <| .nil _) rfl ?_
        exact .kq (J2 (Seen.mk x4 x8.1) h) (.c rfl (.c rfl (.c rfl (.c rfl (.c rfl (.c rfl (.c rfl (.c rfl .n)))))))) (.c rfl (.c rfl .n))
      · refine .skp ?_
        exact .kq (J2 (Seen.mk x4 0) h) (.c rfl (.c rfl (.c rfl (.c rfl (.c rfl (.c rfl (.c rfl (.c rfl .n)))))))) (.c rfl (.c rfl .n))
  · refine .xt rfl ?_
    replace h := mpR h hx1
    refine .sq ?_
    refine .rg (u (mv (.t rfl)) <| u (asg (.t rfl)) <| .nil _) rfl ?_
    obtain rfl := Option.some.inj h
    refine .ks (l := [(4, .own 0)]) (o := [(0, some (.arr 90 2 (List.map cells_Seen v1)))]) (fun i => bif Nat.beq i 0 then 5 else i) ?_ (.c rfl .n) (.c rfl .n) rfl
    exact .rt Tryz.func75 (.t rfl <| .n) (.c rfl .n) rfl rfl

theorem arrive_deltas_r {z : Option Nat} {l : List Int} {b : List Int} {r : List Seen} (h : arrive_deltas z l b = some r) :
    AC Tryz.prog 75 [.ro (.list 1 (List.map (ei .i64) l)), .ro (.list 1 (List.map e8 b))] (.ro (.list 2 (List.map cells_Seen r))) [] := AC.fz (arrive_deltas_c h) rfl

theorem arrive_read_c {z : Option Nat} {body : List Int} {r : Arrive × List Int × List Int × Int} (h : arrive_read z body = some r) :
    AC Tryz.prog 60 [.ro (.list 1 (List.map e8 body))] (.ro (.tup [enc_Arrive r.1, .list 1 (List.map (ei .u16) r.2.1), .list 1 (List.map e8 r.2.2.1), .int .i64 r.2.2.2])) [] := by
  refine AC.of Tryz.func60 rfl rfl fun w M0 hM => ?_
  unfold arrive_read at h
  refine .sq ?_
  refine .rg (al 2 zf27 rfl <| u (asg (.n (sz := 1) (F := (ei .u16)))) <| u (asg (.n (sz := 1) (F := e8))) <| u (asg (.i rfl)) <| .nil _) rfl ?_
  refine .sq ?_
  refine .rg (al 6 zf27 rfl <| .nil _) rfl ?_
  refine .sq ?_
  refine .bl ?_
  refine .sq ?_
  refine .sq ?_
  refine .rg (u (mv (.t rfl)) <| u (lnm sf34 (.t rfl)) <| u (bc (.t rfl) (.i rfl) rfl rfl) <| u (asg (.t rfl)) <| .nil _) rfl ?_
  refine .jq (t := some r) (fun (a : Bool) => ⟨[(0, .ro (.list 1 (List.map e8 body))), (2, .ptr 2 0), (6, .ptr 6 0), (21, .ro (.bool a))], [(2, some (.box [.ro (.int .u16 0), .ro (.int .i64 0), .ro (.int .u8 0), .ro (.list 2 (List.map cells_Seen []))])), (6, some (.box [.ro (.int .u16 0), .ro (.int .i64 0), .ro (.int .u8 0), .ro (.list 2 (List.map cells_Seen []))]))]⟩) (fun (a : Bool) => arrive_read_j1 z body a) ?_ (fun J1 => ?_)
  · intro v1 h
    replace h : arrive_read_j1 z body v1 = _ := h
    unfold arrive_read_j1 at h
    refine .bq h (.t rfl) (fun h => ?_) (fun h => ?_)
    · refine .sq ?_
      refine .rg (u (ld tf27 (.t rfl) rfl rfl) <| st tf27 (.t rfl) rfl (.t rfl) rfl rfl rfl <| u (asg (.n (sz := 1) (F := (ei .u16)))) <| u (asg (.n (sz := 1) (F := e8))) <| u (asg (.i rfl)) <| .nil _) rfl ?_
      obtain rfl := Option.some.inj h
      exact .rt Tryz.func60 (.c tf27 rfl rfl rfl <| .t rfl <| .t rfl <| .t rfl <| .n) .n rfl rfl
    · refine .sq ?_
      refine .rg (u (mv (.t rfl)) <| u (lnm sf34 (.t rfl)) <| u (bc (.t rfl) (.i rfl) rfl rfl) <| u (asg (.t rfl)) <| .nil _) rfl ?_
      refine .bq h (.t rfl) (fun h => ?_) (fun h => ?_)
      · refine .sq ?_
        refine .rg (u (ld tf27 (.t rfl) rfl rfl) <| st tf27 (.t rfl) rfl (.t rfl) rfl rfl rfl <| u (asg (.n (sz := 1) (F := (ei .u16)))) <| u (asg (.n (sz := 1) (F := e8))) <| u (asg (.i rfl)) <| .nil _) rfl ?_
        obtain rfl := Option.some.inj h
        exact .rt Tryz.func60 (.c tf27 rfl rfl rfl <| .t rfl <| .t rfl <| .t rfl <| .n) .n rfl rfl
      · refine .skp ?_
        refine .ib ?_
        refine .sq ?_
        refine be h fun x2 hx2 h => ?_
        refine .rg (u (mv (.t rfl)) <| cl [] cf31 (octet_Get_c hx2) (.c (.t rfl) <| .c (.i rfl) <| .c (.i rfl) <| .n) (.inl rfl) <| u (mv (.t rfl)) <| u (ex (.t rfl) rfl rfl) <| u (ex (.t rfl) rfl rfl) <| u (asg (.t rfl)) <| u (asg (.t rfl)) <| .nil _) rfl ?_
        refine .sq ?_
        refine be h fun x3 hx3 h => ?_
        refine .rg (u (mv (.t rfl)) <| cl [] cf31 (octet_Get_c hx3) (.c (.t rfl) <| .c (.i rfl) <| .c (.i rfl) <| .n) (.inl rfl) <| u (mv (.t rfl)) <| u (ex (.t rfl) rfl rfl) <| u (ex (.t rfl) rfl rfl) <| u (asg (.t rfl)) <| u (asg (.t rfl)) <| .nil _) rfl ?_
        refine .sq ?_
        refine be h fun x4 hx4 h => ?_
        refine .rg (u (mv (.t rfl)) <| cl [] cf71 (octet_Signed_c hx4) (.c (.t rfl) <| .c (.i rfl) <| .c (.i rfl) <| .n) (.inl rfl) <| u (mv (.t rfl)) <| u (ex (.t rfl) rfl rfl) <| u (ex (.t rfl) rfl rfl) <| u (asg (.t rfl)) <| u (asg (.t rfl)) <| .nil _) rfl ?_
        refine .sq ?_
        refine .sq ?_
        refine .rg (u (mv (.t rfl)) <| u (bc (.t rfl) (.i rfl) rfl rfl) <| .nil _) rfl ?_
        refine .bq h (.t rfl) (fun h => ?_) (fun h => ?_)
        · refine .sq ?_
          refine .rg (u (ld tf27 (.t rfl) rfl rfl) <| st tf27 (.t rfl) rfl (.t rfl) rfl rfl rfl <| u (asg (.n (sz := 1) (F := (ei .u16)))) <| u (asg (.n (sz := 1) (F := e8))) <| u (asg (.i rfl)) <| .nil _) rfl ?_
          obtain rfl := Option.some.inj h
          exact .rt Tryz.func60 (.c tf27 rfl rfl rfl <| .t rfl <| .t rfl <| .t rfl <| .n) .n rfl rfl
        · refine .skp ?_
          refine .sq ?_
          refine be h fun x5 hx5 h => ?_
          refine be h fun x6 hx6 h => ?_
          refine .rg (u (mv (.t rfl)) <| u (sl sf34 (.t rfl) (.s (.i rfl)) .n hx5) <| cnf 56000 cf72 (arrive_numbers_c hx6) (.c (.t rfl) <| .n) rfl rfl rfl <| u (asg (.t rfl)) <| .nil _) rfl ?_
          refine .sq ?_
          refine .fz 56000 rfl ?_
          refine be h fun x7 hx7 h => ?_
          refine .rg (u (mv (.t rfl)) <| u (mv (.t rfl)) <| u (cv cv64_3 (.t rfl)) <| cnf 61000 cf73 (chunk_Read_c hx7) (.c (.t rfl) <| .c (.t rfl) <| .n) rfl rfl rfl <| u (mv (.t rfl)) <| u (ex (.t rfl) rfl rfl) <| u (ex (.t rfl) rfl rfl) <| u (ex (.t rfl) rfl rfl) <| u (asg (.t rfl)) <| u (asg (.t rfl)) <| u (asg (.t rfl)) <| .nil _) rfl ?_
          refine .sq ?_
          refine .sq ?_
          refine .rg (u (mv (.t rfl)) <| u (bc (.t rfl) (.i rfl) rfl rfl) <| .nil _) rfl ?_
          refine .bq h (.t rfl) (fun h => ?_) (fun h => ?_)
          · refine .sq ?_
            refine .rg (u (ld tf27 (.t rfl) rfl rfl) <| u (mv (.t rfl)) <| st tf27 (.t rfl) rfl (.t rfl) rfl rfl rfl <| u (asg (.n (sz := 1) (F := (ei .u16)))) <| u (asg (.n (sz := 1) (F := e8))) <| u (asg (.t rfl)) <| .nil _) rfl ?_
            obtain rfl := Option.some.inj h
            exact .rt Tryz.func60 (.c tf27 rfl rfl rfl <| .t rfl <| .t rfl <| .t rfl <| .n) .n rfl rfl
          · refine .skp ?_
            refine .sq ?_
            refine be h fun x8 hx8 h => ?_
            refine .rg (u (mv (.t rfl)) <| u (mv (.t rfl)) <| u (bi (.i rfl) (.t rfl) rfl) <| u (bi (.i rfl) (.t rfl) rfl) <| u (sl sf34 (.t rfl) (.s (.t rfl)) .n hx8) <| u (asg (.t rfl)) <| .nil _) rfl ?_
            refine .sq ?_
            refine .rg (u (asg (.i rfl)) <| .nil _) rfl ?_
            refine .sq ?_
            refine .sq ?_
            refine .rg (u (mv (.t rfl)) <| u (lom sf56 (.t rfl) rfl) <| u (mv (.i rfl)) <| .nil _) rfl ?_
            refine .bl ?_
            unfold arrive_read_l2 at h
            refine .kq (.lo (fun (s : Int × Int) => ⟨[(0, .ro (.list 1 (List.map e8 body))), (2, .ptr 2 0), (6, .ptr 6 0), (7, .ro (.int .u64 x2.1)), (11, .ro (.int .i64 x4.1)), (13, .ro (.list 1 (List.map (ei .u16) x6))), (14, .own 61000), (15, .ro (.int .i64 x7.2.1)), (17, .ro (.list 1 (List.map e8 x8))), (18, .ro (.int .i64 s.1)), (73, .own 61000), (74, .ro (.int .i64 (x7.1.length : Int))), (75, .ro (.int .i64 s.2))], [(2, some (.box [.ro (.int .u16 0), .ro (.int .i64 0), .ro (.int .u8 0), .ro (.list 2 (List.map cells_Seen []))])), (6, some (.box [.ro (.int .u16 0), .ro (.int .i64 0), .ro (.int .u8 0), .ro (.list 2 (List.map cells_Seen []))])), (61000, some (.arr 3 1 (List.map (ei .i64) x7.1)))]⟩) h ?_) (.c rfl (.c rfl (.c rfl (.c rfl (.c rfl (.c rfl (.c rfl (.c rfl (.c rfl (.c rfl (.c rfl (.c rfl (.c rfl .n))))))))))))) (.c rfl (.c rfl (.c rfl .n)))
            rintro ⟨v9, v10⟩ u2 h ih2 hx2
            replace h : arrive_read_s2 z body x2 x4 x6 x7 x8 v9 v10 = _ := h
            unfold arrive_read_s2 at h
            refine .sq ?_
            refine .rg (u (bc (.t rfl) (.t rfl) rfl rfl) <| .nil _) rfl ?_
            refine .sq ?_
            refine .bq h (.t rfl) (fun h => ?_) (fun h => ?_)
            · refine .skp ?_
              refine .sq ?_
              refine .bl ?_
              refine .sq ?_
              refine be h fun x11 hx11 h => ?_
              refine .rg (u (io sf56 (.t rfl) rfl (.t rfl) (ix_map (ei .i64) hx11)) <| u (le tf3 (.t rfl) rfl (ix_lt (ix_map _ hx11)).2.2 rfl) <| u (asg (.t rfl)) <| .nil _) rfl ?_
              refine .rg (u (mv (.t rfl)) <| u (mv (.t rfl)) <| cl [] cf74 (arrive_size_c x11) (.c (.t rfl) <| .n) (.inl rfl) <| u (bi (.t rfl) (.t rfl) rfl) <| u (asg (.t rfl)) <| .nil _) rfl ?_
              refine .ib ?_
              refine .rg (u (bi (.t rfl) (.i rfl) rfl) <| u (mv (.t rfl)) <| .nil _) rfl ?_
              exact .kq (.il (ih2 ((ar .add .i64 v9 (arrive_size x11)), (ar .add .i64 v10 1)) (nxi h))) (.c rfl (.c rfl (.c rfl (.c rfl (.c rfl (.c rfl (.c rfl (.c rfl (.c rfl (.c rfl (.c rfl (.c rfl (.c rfl .n))))))))))))) (.c rfl (.c rfl (.c rfl .n)))
            · refine .xt rfl ?_
              replace h := mpR h hx2
              refine .sq ?_
              refine .bl ?_
              refine .sq ?_
              refine .rg (u (mv (.t rfl)) <| u (lnm sf34 (.t rfl)) <| u (mv (.t rfl)) <| u (bc (.t rfl) (.t rfl) rfl rfl) <| u (asg (.t rfl)) <| .nil _) rfl ?_
              refine .bq h (.t rfl) (fun h => ?_) (fun h => ?_)
              · refine .sq ?_
                refine .rg (u (ld tf27 (.t rfl) rfl rfl) <| st tf27 (.t rfl) rfl (.t rfl) rfl rfl rfl <| u (asg (.n (sz := 1) (F := (ei .u16)))) <| u (asg (.n (sz := 1) (F := e8))) <| u (asg (.i rfl)) <| .nil _) rfl ?_
                obtain rfl := Option.some.inj h
                exact .rt Tryz.func60 (.c tf27 rfl rfl rfl <| .t rfl <| .t rfl <| .t rfl <| .n) .n rfl rfl
              · refine .sq ?_
                refine .rg (u (mv (.t rfl)) <| u (lnm sf34 (.t rfl)) <| u (mv (.t rfl)) <| u (bi (.t rfl) (.i rfl) rfl) <| u (bc (.t rfl) (.t rfl) rfl rfl) <| u (asg (.t rfl)) <| .nil _) rfl ?_
                refine .bq h (.t rfl) (fun h => ?_) (fun h => ?_)
                · refine .sq ?_
                  refine .rg (u (ld tf27 (.t rfl) rfl rfl) <| st tf27 (.t rfl) rfl (.t rfl) rfl rfl rfl <| u (asg (.n (sz := 1) (F := (ei .u16)))) <| u (asg (.n (sz := 1) (F := e8))) <| u (asg (.i rfl)) <| .nil _) rfl ?_
                  obtain rfl := Option.some.inj h
                  exact .rt Tryz.func60 (.c tf27 rfl rfl rfl <| .t rfl <| .t rfl <| .t rfl <| .n) .n rfl rfl
                · refine .skp ?_
                  refine .ib ?_
                  refine .sq ?_
                  refine .fz 61000 rfl ?_
                  refine be h fun x12 hx12 h => ?_
                  refine be h fun x13 hx13 h => ?_
                  refine .rd mixed (u (mv (.t rfl)) <| u (cv cv64_24 (.t rfl)) <| u (mv (.t rfl)) <| u (mv (.t rfl)) <| u (ia sf34 (.t rfl) (.i rfl) (ix_map e8 hx12)) <| u (lr tf5 (.t rfl) rfl) <| u (mv (.t rfl)) <| u (mv (.t rfl)) <| cnf 106000 cf75 (arrive_deltas_c hx13) (.c (.t rfl) <| .c (.t rfl) <| .n) rfl rfl rfl <| u (bd bf27 zf27 (.c rfl (.t rfl) rfl rfl rfl <| .c rfl (.t rfl) rfl rfl rfl <| .c rfl (.t rfl) rfl rfl rfl <| .c rfl (.t rfl) rfl rfl rfl <| .n) rfl) <| st tf27 (.t rfl) rfl (.t rfl) rfl rfl rfl <| .nil _) (by kernel_rfl) rfl ?_
                  refine .sq ?_
                  refine be h fun x14 hx14 h => ?_
                  refine be h fun x15 hx15 h => ?_
                  refine .rd mixed (u (ld tf27 (.t rfl) rfl rfl) <| u (mv (.t rfl)) <| u (mv (.t rfl)) <| u (sl sf100 (.t rfl) .n (.s (.t rfl)) hx14) <| u (mv (.t rfl)) <| u (mv (.t rfl)) <| u (sl sf34 (.t rfl) (.s (.t rfl)) .n hx15) <| st tf27 (.t rfl) rfl (.t rfl) rfl rfl rfl <| u (asg (.t rfl)) <| u (asg (.t rfl)) <| u (asg (.i rfl)) <| .nil _) (by kernel_rfl) rfl ?_
                  refine .fz 106000 rfl ?_
                  obtain rfl := Option.some.inj h
                  exact .rt Tryz.func60 (.c tf27 rfl rfl rfl <| .t rfl <| .t rfl <| .t rfl <| .n) .n rfl rfl
  refine .bq h (.t rfl) (fun h => ?_) (fun h => ?_)
  · refine .skp ?_
    exact .kq (J1 (cm .gtr (body.length : Int) 65520) h) (.c rfl (.c rfl (.c rfl (.c rfl .n)))) (.c rfl (.c rfl .n))
  · refine .rg (u (mv (.t rfl)) <| u (lnm sf34 (.t rfl)) <| u (di (.t rfl) (.i rfl) rfl (by decide)) <| u (bc (.t rfl) (.i rfl) rfl rfl) <| u (asg (.t rfl)) <| .nil _) rfl ?_
    exact .kq (J1 (cm .gtr (dv .rem .i64 (body.length : Int) 4) 0) h) (.c rfl (.c rfl (.c rfl (.c rfl .n)))) (.c rfl (.c rfl .n))

theorem arrive_Read_c {z : Option Nat} {body : List Int} {r : Arrive × Int} (h : arrive_Read z body = some r) :
    AC Tryz.prog 52 [.ro (.list 1 (List.map e8 body))] (.ro (.tup [enc_Arrive r.1, .int .i64 r.2])) [] := by
  refine AC.of Tryz.func52 rfl rfl fun w M0 hM => ?_
  unfold arrive_Read at h
  refine .sq ?_
  refine .rg (al 2 zf27 rfl <| u (asg (.i rfl)) <| .nil _) rfl ?_
  refine .sq ?_
  refine be h fun x1 hx1 h => ?_
  refine .rg (u (mv (.t rfl)) <| cl [] cf60 (arrive_read_c hx1) (.c (.t rfl) <| .n) (.inl rfl) <| u (mv (.t rfl)) <| u (ex (.t rfl) rfl rfl) <| u (ex (.t rfl) rfl rfl) <| u (ex (.t rfl) rfl rfl) <| u (ex (.t rfl) rfl rfl) <| al 4 zf27 rfl <| st tf27 (.t rfl) rfl (.t rfl) rfl rfl rfl <| u (asg (.t rfl)) <| u (asg (.t rfl)) <| u (asg (.t rfl)) <| .nil _) rfl ?_
  refine .sq ?_
  refine .rg (u (ld tf27 (.t rfl) rfl rfl) <| u (mv (.t rfl)) <| st tf27 (.t rfl) rfl (.t rfl) rfl rfl rfl <| u (asg (.t rfl)) <| .nil _) rfl ?_
  obtain rfl := Option.some.inj h
  exact .rt Tryz.func52 (.c tf27 rfl rfl rfl <| .t rfl <| .n) .n rfl rfl

theorem fresh_Read_c {z : Option Nat} {body : List Int} {r : List Entry × Int} (h : fresh_Read z body = some r) :
    AC Tryz.prog 53 [.ro (.list 1 (List.map e8 body))] (.tup [.own 0, .ro (.int .i64 r.2)]) [(0, .arr 104 2 (List.map cells_Entry r.1))] := by
  refine AC.of Tryz.func53 rfl rfl fun w M0 hM => ?_
  unfold fresh_Read at h
  refine .sq ?_
  refine .rg (anm cells_Entry 2 104 2 rfl rfl <| u (asg (.i rfl)) <| .nil _) rfl ?_
  refine .sq ?_
  refine .bl ?_
  refine .sq ?_
  refine .sq ?_
  refine .rg (u (mv (.t rfl)) <| u (lnm sf34 (.t rfl)) <| u (bc (.t rfl) (.i rfl) rfl rfl) <| u (asg (.t rfl)) <| .nil _) rfl ?_
  refine .jq (t := some r) (fun (a : Bool) => ⟨[(0, .ro (.list 1 (List.map e8 body))), (8, .ro (.bool a))], []⟩) (fun (a : Bool) => fresh_Read_j1 z body a) ?_ (fun J1 => ?_)
  · intro v1 h
    replace h : fresh_Read_j1 z body v1 = _ := h
    unfold fresh_Read_j1 at h
    refine .bq h (.t rfl) (fun h => ?_) (fun h => ?_)
    · refine .sq ?_
      refine .rg (anm cells_Entry 2 104 2 rfl rfl <| u (asg (.i rfl)) <| .nil _) rfl ?_
      obtain rfl := Option.some.inj h
      refine .ks (l := [(2, .own 0), (3, .ro (.int .i64 4))]) (o := [(0, some (.arr 104 2 (List.map cells_Entry [])))]) (fun i => bif Nat.beq i 0 then 2 else i) ?_ (.c rfl (.c rfl .n)) (.c rfl .n) rfl
      exact .rt Tryz.func53 (.t rfl <| .t rfl <| .n) (.c rfl .n) rfl rfl
    · refine .sq ?_
      refine .rg (u (mv (.t rfl)) <| u (lnm sf34 (.t rfl)) <| u (bc (.t rfl) (.i rfl) rfl rfl) <| u (asg (.t rfl)) <| .nil _) rfl ?_
      refine .bq h (.t rfl) (fun h => ?_) (fun h => ?_)
      · refine .sq ?_
        refine .rg (anm cells_Entry 2 104 2 rfl rfl <| u (asg (.i rfl)) <| .nil _) rfl ?_
        obtain rfl := Option.some.inj h
        refine .ks (l := [(2, .own 0), (3, .ro (.int .i64 2))]) (o := [(0, some (.arr 104 2 (List.map cells_Entry [])))]) (fun i => bif Nat.beq i 0 then 2 else i) ?_ (.c rfl (.c rfl .n)) (.c rfl .n) rfl
        exact .rt Tryz.func53 (.t rfl <| .t rfl <| .n) (.c rfl .n) rfl rfl
      · refine .skp ?_
        refine .ib ?_
        refine .sq ?_
        refine .rg (al 4 zf28_0 rfl <| .nil _) rfl ?_
        refine .th (F := cells_Entry) 4 0 700400 104 2 rfl rfl rfl ?_
        refine .sq ?_
        refine .sq ?_
        refine .rg (u (mv (.t rfl)) <| cnf 0 cf63 (slices_Chunk_byte63_c (l := body) (n := 8) rfl) (.c (.t rfl) <| .c (.i rfl) <| .n) rfl rfl rfl <| .nil _) rfl ?_
        refine .bl ?_
        refine be h fun x2 hx2 h => ?_
        unfold fresh_Read_l2 at h
        refine .kq (.rgc (n := 8) (F := e8) (fun (s : List Entry) => ⟨[(4, .ptr 4 0), (21, .fn (.func 78) [] [.rptr [.list 1 (List.map e8 body)], .rptr [.int .i64 8]])], [(4, some (.box [.own 700400])), (700400, some (.arr 104 2 (List.map cells_Entry s)))]⟩) [4, 21] chunk78_in cf78 h (lnO_le hx2) rfl (fun _ => rfl) (fun _ => rfl) rfl ⟨rfl, rfl⟩ ?_ ?_) (.c rfl (.c rfl .n)) (.c rfl (.c rfl .n))
        · rintro D2 l2 r2 pv2 R2 y2 v3 u2 h ih2 hx2 jr2 jx2 bg2
          replace h : fresh_Read_s2 z y2 v3 = _ := h
          unfold fresh_Read_s2 at h
          refine .rg (u (asg (.t rfl)) <| .nil _) rfl ?_
          refine bg2 _ _ ?_
          refine .bl ?_
          refine .sq ?_
          refine be h fun x4 hx4 h => ?_
          refine .rg (u (mv (.t rfl)) <| cl [] cf31 (octet_Get_c hx4) (.c (.t rfl) <| .c (.i rfl) <| .c (.i rfl) <| .n) (.inl rfl) <| u (mv (.t rfl)) <| u (ex (.t rfl) rfl rfl) <| u (ex (.t rfl) rfl rfl) <| u (asg (.t rfl)) <| u (asg (.t rfl)) <| .nil _) rfl ?_
          refine be h fun x5 hx5 h => ?_
          refine be h fun x6 hx6 h => ?_
          refine .rd mixed (u (ld tf28 (.t rfl) rfl rfl) <| u (mv (.t rfl)) <| u (cv cv64_22 (.t rfl)) <| u (mv (.t rfl)) <| u (ia sf34 (.t rfl) (.i rfl) (ix_map e8 hx5)) <| u (lr tf5 (.t rfl) rfl) <| u (bd bf104 zf104 (.c rfl (.t rfl) rfl rfl rfl <| .c rfl (.t rfl) rfl rfl rfl <| .n) rfl) <| bs (F := cells_Entry) (l := [(Entry.mk (IntKind.u32.wrap x4.1) x5)]) 35 pf28 (.c (.t rfl) rfl <| .n) rfl (fun _ _ => rfl) rfl rfl <| apo 36 pf28 (.t rfl) rfl (.t rfl) rfl hx6 rfl <| st tf28 (.t rfl) rfl (.t rfl) rfl rfl rfl <| .nil _) (by kernel_rfl) rfl ?_
          refine .ib ?_
          exact .ks (fun i => bif Nat.beq i 700400 then 36 else i) (ih2 x6 (nxi h)) (.c rfl (.c rfl .n)) (.c rfl (.c rfl .n)) rfl
        · rintro D2 v3 h
          replace h : fresh_Read_d2 z v3 = _ := h
          unfold fresh_Read_d2 at h
          refine .ib ?_
          refine .sq ?_
          refine .rg (u (ld tf28 (.t rfl) rfl rfl) <| u (asg (.t rfl)) <| u (asg (.i rfl)) <| .nil _) rfl ?_
          obtain rfl := Option.some.inj h
          refine .ks (l := [(2, .own 0), (3, .ro (.int .i64 0))]) (o := [(0, some (.arr 104 2 (List.map cells_Entry v3)))]) (fun i => bif Nat.beq i 0 then 700400 else i) ?_ (.c rfl (.c rfl .n)) (.c rfl .n) rfl
          exact .rt Tryz.func53 (.t rfl <| .t rfl <| .n) (.c rfl .n) rfl rfl
  refine .bq h (.t rfl) (fun h => ?_) (fun h => ?_)
  · refine .skp ?_
    exact .kq (J1 (cm .gtr (body.length : Int) 65520) h) (.c rfl (.c rfl .n)) .n
  · refine .rg (u (mv (.t rfl)) <| u (lnm sf34 (.t rfl)) <| u (di (.t rfl) (.i rfl) rfl (by decide)) <| u (bc (.t rfl) (.i rfl) rfl rfl) <| u (asg (.t rfl)) <| .nil _) rfl ?_
    exact .kq (J1 (cm .gtr (dv .rem .i64 (body.length : Int) 8) 0) h) (.c rfl (.c rfl .n)) .n

theorem fresh_Read_r {z : Option Nat} {body : List Int} {r : List Entry × Int} (h : fresh_Read z body = some r) :
    AC Tryz.prog 53 [.ro (.list 1 (List.map e8 body))] (.ro (.tup [.list 2 (List.map cells_Entry r.1), .int .i64 r.2])) [] := AC.fz (fresh_Read_c h) rfl

theorem remb_told_c {z : Option Nat} {body : List Int} {r : Int × Int} (h : remb_told z body = some r) :
    AC Tryz.prog 64 [.ro (.list 1 (List.map e8 body))] (.ro (.tup [.int .i64 r.1, .int .u32 r.2])) [] := by
  refine AC.of Tryz.func64 rfl rfl fun w M0 hM => ?_
  unfold remb_told at h
  refine .sq ?_
  refine .rg (u (asg (.i rfl)) <| u (asg (.i rfl)) <| .nil _) rfl ?_
  refine .sq ?_
  refine be h fun x1 hx1 h => ?_
  refine .rg (u (mv (.t rfl)) <| cl [] cf31 (octet_Get_c hx1) (.c (.t rfl) <| .c (.i rfl) <| .c (.i rfl) <| .n) (.inl rfl) <| u (mv (.t rfl)) <| u (ex (.t rfl) rfl rfl) <| u (ex (.t rfl) rfl rfl) <| u (asg (.t rfl)) <| u (asg (.t rfl)) <| .nil _) rfl ?_
  refine .sq ?_
  refine .rg (u (mv (.t rfl)) <| u (sh (.t rfl) (.i rfl) rfl (by decide)) <| u (cv cv64_3 (.t rfl)) <| u (mv (.t rfl)) <| u (bi (.t rfl) (.i rfl) rfl) <| u (cv cv64_22 (.t rfl)) <| u (asg (.t rfl)) <| u (asg (.t rfl)) <| .nil _) rfl ?_
  obtain rfl := Option.some.inj h
  exact .rt Tryz.func64 (.t rfl <| .t rfl <| .n) .n rfl rfl

theorem math_bits_Len32_c {x : Int} {r : Int} (h : math_bits_Len32 x = some r) :
    AC Tryz.prog 81 [.ro (.int .u32 x)] (.ro (.int .i64 r)) [] := by
  refine AC.of Tryz.func81 rfl rfl fun w M0 hM => ?_
  unfold math_bits_Len32 at h
  refine .sq ?_
  refine .rg (u (asg (.i rfl)) <| .nil _) rfl ?_
  refine .sq ?_
  refine .sq ?_
  refine .rg (u (mv (.t rfl)) <| u (bc (.t rfl) (.i rfl) rfl rfl) <| .nil _) rfl ?_
  refine .jq (t := some r) (fun (a : Int × Int) => ⟨[(0, .ro (.int .u32 a.1)), (2, .ro (.int .i64 a.2))], []⟩) (fun (a : Int × Int) => math_bits_Len32_j1 a.1 a.2) ?_ (fun J1 => ?_)
  · rintro ⟨v1, v2⟩ h
    replace h : math_bits_Len32_j1 v1 v2 = _ := h
    unfold math_bits_Len32_j1 at h
    refine .sq ?_
    refine .sq ?_
    refine .rg (u (mv (.t rfl)) <| u (bc (.t rfl) (.i rfl) rfl rfl) <| .nil _) rfl ?_
    refine .jq (t := some r) (fun (a : Int × Int) => ⟨[(0, .ro (.int .u32 a.1)), (2, .ro (.int .i64 a.2))], []⟩) (fun (a : Int × Int) => math_bits_Len32_j2 a.1 a.2) ?_ (fun J2 => ?_)
    · rintro ⟨v3, v4⟩ h
      replace h : math_bits_Len32_j2 v3 v4 = _ := h
      unfold math_bits_Len32_j2 at h
      refine .sq ?_
      refine be h fun x5 hx5 h => ?_
      refine .rg (u (mv (.t rfl)) <| u (mv (.t rfl)) <| u (cv cv22_5 (.t rfl)) <| u (is us9 (.s rfl) (.t rfl) hx5) <| u (cv cv5_3 (.t rfl)) <| u (bi (.t rfl) (.t rfl) rfl) <| u (asg (.t rfl)) <| .nil _) rfl ?_
      obtain rfl := Option.some.inj h
      exact .rt Tryz.func81 (.t rfl <| .n) .n rfl rfl
    refine .bq h (.t rfl) (fun h => ?_) (fun h => ?_)
    · refine .sq ?_
      refine .rg (u (mv (.t rfl)) <| u (sh (.t rfl) (.i rfl) rfl (by decide)) <| u (asg (.t rfl)) <| .nil _) rfl ?_
      refine .rg (u (mv (.t rfl)) <| u (bi (.t rfl) (.i rfl) rfl) <| u (asg (.t rfl)) <| .nil _) rfl ?_
      exact .kq (J2 ((sf .shr .u32 v1 8), (ar .add .i64 v2 8)) h) (.c rfl (.c rfl .n)) .n
    · refine .skp ?_
      exact .kq (J2 (v1, v2) h) (.c rfl (.c rfl .n)) .n
  refine .bq h (.t rfl) (fun h => ?_) (fun h => ?_)
  · refine .sq ?_
    refine .rg (u (mv (.t rfl)) <| u (sh (.t rfl) (.i rfl) rfl (by decide)) <| u (asg (.t rfl)) <| .nil _) rfl ?_
    refine .rg (u (asg (.i rfl)) <| .nil _) rfl ?_
    exact .kq (J1 ((sf .shr .u32 x 16), 16) h) (.c rfl (.c rfl .n)) .n
  · refine .skp ?_
    exact .kq (J1 (x, 0) h) (.c rfl (.c rfl .n)) .n

theorem remb_least_c {exp : Int} {mant : Int} {r : Int × Int} (h : remb_least exp mant = some r) :
    AC Tryz.prog 69 [.ro (.int .i64 exp), .ro (.int .u32 mant)] (.ro (.tup [.int .i64 r.1, .int .u32 r.2])) [] := by
  refine AC.of Tryz.func69 rfl rfl fun w M0 hM => ?_
  unfold remb_least at h
  refine .sq ?_
  refine .rg (u (asg (.i rfl)) <| u (asg (.i rfl)) <| .nil _) rfl ?_
  refine .sq ?_
  refine .sq ?_
  refine .rg (u (mv (.t rfl)) <| u (bc (.t rfl) (.i rfl) rfl rfl) <| .nil _) rfl ?_
  refine .bq h (.t rfl) (fun h => ?_) (fun h => ?_)
  · refine .sq ?_
    refine .rg (u (asg (.i rfl)) <| u (asg (.i rfl)) <| .nil _) rfl ?_
    obtain rfl := Option.some.inj h
    exact .rt Tryz.func69 (.t rfl <| .t rfl <| .n) .n rfl rfl
  · refine .skp ?_
    refine .sq ?_
    refine be h fun x1 hx1 h => ?_
    refine .rg (u (mv (.t rfl)) <| u (mv (.t rfl)) <| cl [] cf81 (math_bits_Len32_c hx1) (.c (.t rfl) <| .n) (.inl rfl) <| u (bi (.i rfl) (.t rfl) rfl) <| u (mn (.t rfl) (.t rfl)) <| u (asg (.t rfl)) <| .nil _) rfl ?_
    refine .sq ?_
    refine be h fun x2 hx2 h => ?_
    refine .rd mixed (u (mv (.t rfl)) <| u (mv (.t rfl)) <| u (bi (.t rfl) (.t rfl) rfl) <| u (mv (.t rfl)) <| u (mv (.t rfl)) <| u (sho (.t rfl) (.t rfl) rfl hx2) <| u (asg (.t rfl)) <| u (asg (.t rfl)) <| .nil _) (by kernel_rfl) rfl ?_
    obtain rfl := Option.some.inj h
    exact .rt Tryz.func69 (.t rfl <| .t rfl <| .n) .n rfl rfl

theorem remb_Read_c {z : Option Nat} {body : List Int} {r : Rate × Int} (h : remb_Read z body = some r) :
    AC Tryz.prog 54 [.ro (.list 1 (List.map e8 body))] (.ro (.tup [enc_Rate r.1, .int .i64 r.2])) [] := by
  refine AC.of Tryz.func54 rfl rfl fun w M0 hM => ?_
  unfold remb_Read at h
  refine .sq ?_
  refine .rg (al 2 zf31 rfl <| u (asg (.i rfl)) <| .nil _) rfl ?_
  refine .sq ?_
  refine .bl ?_
  refine .sq ?_
  refine .sq ?_
  refine .rg (u (mv (.t rfl)) <| u (lnm sf34 (.t rfl)) <| u (bc (.t rfl) (.i rfl) rfl rfl) <| u (asg (.t rfl)) <| .nil _) rfl ?_
  refine .jq (t := some r) (fun (a : Bool) => ⟨[(0, .ro (.list 1 (List.map e8 body))), (2, .ptr 2 0), (9, .ro (.bool a))], [(2, some (.box [.ro (.int .i64 0), .ro (.int .u32 0), .ro (.list 1 (List.map (ei .u32) []))]))]⟩) (fun (a : Bool) => remb_Read_j1 z body a) ?_ (fun J1 => ?_)
  · intro v1 h
    replace h : remb_Read_j1 z body v1 = _ := h
    unfold remb_Read_j1 at h
    refine .bq h (.t rfl) (fun h => ?_) (fun h => ?_)
    · refine .sq ?_
      refine .rg (u (bd bf31 zf31 (.n) rfl) <| st tf31 (.t rfl) rfl (.t rfl) rfl rfl rfl <| u (asg (.i rfl)) <| .nil _) rfl ?_
      obtain rfl := Option.some.inj h
      exact .rt Tryz.func54 (.c tf31 rfl rfl rfl <| .t rfl <| .n) .n rfl rfl
    · refine .sq ?_
      refine .rg (u (mv (.t rfl)) <| u (lnm sf34 (.t rfl)) <| u (bc (.t rfl) (.i rfl) rfl rfl) <| u (asg (.t rfl)) <| .nil _) rfl ?_
      refine .bq h (.t rfl) (fun h => ?_) (fun h => ?_)
      · refine .sq ?_
        refine .rg (u (bd bf31 zf31 (.n) rfl) <| st tf31 (.t rfl) rfl (.t rfl) rfl rfl rfl <| u (asg (.i rfl)) <| .nil _) rfl ?_
        obtain rfl := Option.some.inj h
        exact .rt Tryz.func54 (.c tf31 rfl rfl rfl <| .t rfl <| .n) .n rfl rfl
      · refine .sq ?_
        refine be h fun x2 hx2 h => ?_
        refine .rg (u (mv (.t rfl)) <| u (sl sf34 (.t rfl) .n (.s (.i rfl)) hx2) <| u (bt bt34_9 (.t rfl)) <| u (sq (.t rfl) (.s rfl) rfl rfl) <| u (asg (.t rfl)) <| .nil _) rfl ?_
        refine .bq h (.t rfl) (fun h => ?_) (fun h => ?_)
        · refine .sq ?_
          refine .rg (u (bd bf31 zf31 (.n) rfl) <| st tf31 (.t rfl) rfl (.t rfl) rfl rfl rfl <| u (asg (.i rfl)) <| .nil _) rfl ?_
          obtain rfl := Option.some.inj h
          exact .rt Tryz.func54 (.c tf31 rfl rfl rfl <| .t rfl <| .n) .n rfl rfl
        · refine .skp ?_
          refine .ib ?_
          refine .sq ?_
          refine .rg (u (mv (.t rfl)) <| u (lnm sf34 (.t rfl)) <| u (di (.t rfl) (.i rfl) rfl (by decide)) <| u (bi (.t rfl) (.i rfl) rfl) <| u (asg (.t rfl)) <| .nil _) rfl ?_
          refine .sq ?_
          refine .bl ?_
          refine .sq ?_
          refine be h fun x3 hx3 h => ?_
          refine .rg (u (mv (.t rfl)) <| u (mv (.t rfl)) <| u (ia sf34 (.t rfl) (.i rfl) (ix_map e8 hx3)) <| u (lr tf5 (.t rfl) rfl) <| u (cv cv5_3 (.t rfl)) <| u (bc (.t rfl) (.t rfl) rfl rfl) <| u (asg (.t rfl)) <| .nil _) rfl ?_
          refine .bq h (.t rfl) (fun h => ?_) (fun h => ?_)
          · refine .sq ?_
            refine .rg (u (bd bf31 zf31 (.n) rfl) <| st tf31 (.t rfl) rfl (.t rfl) rfl rfl rfl <| u (asg (.i rfl)) <| .nil _) rfl ?_
            obtain rfl := Option.some.inj h
            exact .rt Tryz.func54 (.c tf31 rfl rfl rfl <| .t rfl <| .n) .n rfl rfl
          · refine .sq ?_
            refine be h fun x4 hx4 h => ?_
            refine .rg (u (mv (.t rfl)) <| u (mv (.t rfl)) <| u (ia sf34 (.t rfl) (.i rfl) (ix_map e8 hx4)) <| u (lr tf5 (.t rfl) rfl) <| u (cv cv5_3 (.t rfl)) <| u (bc (.t rfl) (.t rfl) rfl rfl) <| u (asg (.t rfl)) <| .nil _) rfl ?_
            refine .bq h (.t rfl) (fun h => ?_) (fun h => ?_)
            · refine .sq ?_
              refine .rg (u (bd bf31 zf31 (.n) rfl) <| st tf31 (.t rfl) rfl (.t rfl) rfl rfl rfl <| u (asg (.i rfl)) <| .nil _) rfl ?_
              obtain rfl := Option.some.inj h
              exact .rt Tryz.func54 (.c tf31 rfl rfl rfl <| .t rfl <| .n) .n rfl rfl
            · refine .skp ?_
              refine .ib ?_
              refine .sq ?_
              refine .rg (al 5 zf31_2 rfl <| .nil _) rfl ?_
              refine .th (F := (ei .u32)) 5 2 700502 22 1 rfl rfl rfl ?_
              refine .sq ?_
              refine be h fun x5 hx5 h => ?_
              refine be h fun x6 hx6 h => ?_
              refine .rg (u (mv (.t rfl)) <| cl [] cf64 (remb_told_c hx5) (.c (.t rfl) <| .n) (.inl rfl) <| u (ex (.t rfl) rfl rfl) <| u (ex (.t rfl) rfl rfl) <| cl [] cf69 (remb_least_c hx6) (.c (.t rfl) <| .c (.t rfl) <| .n) (.inl rfl) <| u (mv (.t rfl)) <| u (ex (.t rfl) rfl rfl) <| u (ex (.t rfl) rfl rfl) <| u (fa ff31_0 (.t rfl)) <| st tf3 (.t rfl) rfl (.t rfl) rfl rfl rfl <| u (fa ff31_1 (.t rfl)) <| st tf22 (.t rfl) rfl (.t rfl) rfl rfl rfl <| .nil _) rfl ?_
              refine .sq ?_
              refine .sq ?_
              refine be h fun x7 hx7 h => ?_
              refine .rg (u (mv (.t rfl)) <| u (sl sf34 (.t rfl) (.s (.i rfl)) .n hx7) <| cnf 0 cf63 (slices_Chunk_byte63_c (l := x7) (n := 4) rfl) (.c (.t rfl) <| .c (.i rfl) <| .n) rfl rfl rfl <| .nil _) rfl ?_
              refine .bl ?_
              refine be h fun x8 hx8 h => ?_
              unfold remb_Read_l2 at h
              refine .kq (.rgc (n := 4) (F := e8) (fun (s : Rate) => ⟨[(2, .ptr 2 0), (5, .ptr 5 0), (61, .fn (.func 78) [] [.rptr [.list 1 (List.map e8 x7)], .rptr [.int .i64 4]])], [(2, some (.box [.ro (.int .i64 0), .ro (.int .u32 0), .ro (.list 1 (List.map (ei .u32) []))])), (5, some (.box [.ro (.int .i64 s.exp), .ro (.int .u32 s.mant), .own 700502])), (700502, some (.arr 22 1 (List.map (ei .u32) s.srcs)))]⟩) [2, 5, 61] chunk78_in cf78 h (lnO_le hx8) rfl (fun _ => rfl) (fun _ => rfl) rfl ⟨rfl, rfl⟩ ?_ ?_) (.c rfl (.c rfl (.c rfl .n))) (.c rfl (.c rfl (.c rfl .n)))
              · rintro D2 l2 r2 pv2 R2 y2 v9 u2 h ih2 hx2 jr2 jx2 bg2
                replace h : remb_Read_s2 z y2 v9 = _ := h
                unfold remb_Read_s2 at h
                refine .rg (u (asg (.t rfl)) <| .nil _) rfl ?_
                refine bg2 _ _ ?_
                refine .bl ?_
                refine .sq ?_
                refine be h fun x10 hx10 h => ?_
                refine .rg (u (mv (.t rfl)) <| cl [] cf31 (octet_Get_c hx10) (.c (.t rfl) <| .c (.i rfl) <| .c (.i rfl) <| .n) (.inl rfl) <| u (mv (.t rfl)) <| u (ex (.t rfl) rfl rfl) <| u (ex (.t rfl) rfl rfl) <| u (asg (.t rfl)) <| u (asg (.t rfl)) <| .nil _) rfl ?_
                refine be h fun x11 hx11 h => ?_
                refine .rg (u (fa ff31_2 (.t rfl)) <| u (ld tf29 (.t rfl) rfl rfl) <| u (mv (.t rfl)) <| u (cv cv64_22 (.t rfl)) <| bs (F := (ei .u32)) (l := [(IntKind.u32.wrap x10.1)]) 72 pf29 (.c (.t rfl) rfl <| .n) rfl (fun _ _ => rfl) rfl rfl <| apo 73 pf29 (.t rfl) rfl (.t rfl) rfl hx11 rfl <| u (fa ff31_2 (.t rfl)) <| st tf29 (.t rfl) rfl (.t rfl) rfl rfl rfl <| .nil _) rfl ?_
                refine .ib ?_
                exact .ks (fun i => bif Nat.beq i 700502 then 73 else i) (ih2 ({ v9 with srcs := x11 }) (nxi h)) (.c rfl (.c rfl (.c rfl .n))) (.c rfl (.c rfl (.c rfl .n))) rfl
              · rintro D2 v9 h
                replace h : remb_Read_d2 z v9 = _ := h
                unfold remb_Read_d2 at h
                refine .ib ?_
                refine .sq ?_
                refine .rg (u (ld tf31 (.t rfl) rfl rfl) <| st tf31 (.t rfl) rfl (.t rfl) rfl rfl rfl <| u (asg (.i rfl)) <| .nil _) rfl ?_
                refine .fz 700502 rfl ?_
                obtain rfl := Option.some.inj h
                exact .rt Tryz.func54 (.c tf31 rfl rfl rfl <| .t rfl <| .n) .n rfl rfl
  refine .bq h (.t rfl) (fun h => ?_) (fun h => ?_)
  · refine .skp ?_
    exact .kq (J1 (cm .gtr (body.length : Int) 65520) h) (.c rfl (.c rfl (.c rfl .n))) (.c rfl .n)
  · refine .rg (u (mv (.t rfl)) <| u (lnm sf34 (.t rfl)) <| u (di (.t rfl) (.i rfl) rfl (by decide)) <| u (bc (.t rfl) (.i rfl) rfl rfl) <| u (asg (.t rfl)) <| .nil _) rfl ?_
    exact .kq (J1 (cm .gtr (dv .rem .i64 (body.length : Int) 4) 0) h) (.c rfl (.c rfl (.c rfl .n))) (.c rfl .n)

theorem feed_read_c {z : Option Nat} {kind : Int} {b : List Int} {r : I_feed_message × Int} (h : feed_read z kind b = some r) :
    AC Tryz.prog 30 [.ro (.int .i64 kind), .ro (.list 1 (List.map e8 b))] (.ro (.tup [enc_I_feed_message r.1, .int .i64 r.2])) [] := by
  refine AC.of Tryz.func30 rfl rfl fun w M0 hM => ?_
  unfold feed_read at h
  refine .sq ?_
  refine .rg (u (asg (.r rfl)) <| u (asg (.i rfl)) <| .nil _) rfl ?_
  refine .sq ?_
  refine .sq ?_
  refine .rg (u (mv (.t rfl)) <| .nil _) rfl ?_
  refine .bl ?_
  refine .sq ?_
  refine .rg (u (bc (.t rfl) (.i rfl) rfl rfl) <| u (asg (.t rfl)) <| .nil _) rfl ?_
  refine .bq h (.t rfl) (fun h => ?_) (fun h => ?_)
  · refine .sq ?_
    refine be h fun x1 hx1 h => ?_
    refine .rg (u (mv (.t rfl)) <| cnf 20000 cf51 (nack_Read_c hx1) (.c (.t rfl) <| .n) rfl rfl rfl <| u (mv (.t rfl)) <| u (ex (.t rfl) rfl rfl) <| u (ex (.t rfl) rfl rfl) <| u (asg (.t rfl)) <| u (asg (.t rfl)) <| .nil _) rfl ?_
    refine .sq ?_
    refine .fz 20000 rfl ?_
    refine .rg (u (mv (.t rfl)) <| u (mki pc107 (.t rfl)) <| u (mv (.t rfl)) <| u (asg (.t rfl)) <| u (asg (.t rfl)) <| .nil _) rfl ?_
    obtain rfl := Option.some.inj h
    exact .rt Tryz.func30 (.t rfl <| .t rfl <| .n) .n rfl rfl
  · refine .sq ?_
    refine .rg (u (bc (.t rfl) (.i rfl) rfl rfl) <| u (asg (.t rfl)) <| .nil _) rfl ?_
    refine .bq h (.t rfl) (fun h => ?_) (fun h => ?_)
    · refine .sq ?_
      refine be h fun x2 hx2 h => ?_
      refine .rg (u (mv (.t rfl)) <| cl [] cf52 (arrive_Read_c hx2) (.c (.t rfl) <| .n) (.inl rfl) <| u (mv (.t rfl)) <| u (ex (.t rfl) rfl rfl) <| u (ex (.t rfl) rfl rfl) <| al 8 zf27 rfl <| st tf27 (.t rfl) rfl (.t rfl) rfl rfl rfl <| u (asg (.t rfl)) <| .nil _) rfl ?_
      refine .sq ?_
      refine .rg (u (ld tf27 (.t rfl) rfl rfl) <| u (bd bf111 zf111 (.c rfl (.t rfl) rfl rfl rfl <| .n) rfl) <| u (mki pc111 (.t rfl)) <| u (mv (.t rfl)) <| u (asg (.t rfl)) <| u (asg (.t rfl)) <| .nil _) rfl ?_
      obtain rfl := Option.some.inj h
      exact .rt Tryz.func30 (.t rfl <| .t rfl <| .n) .n rfl rfl
    · refine .sq ?_
      refine .rg (u (bc (.t rfl) (.i rfl) rfl rfl) <| u (asg (.t rfl)) <| .nil _) rfl ?_
      refine .bq h (.t rfl) (fun h => ?_) (fun h => ?_)
      · refine .sq ?_
        refine be h fun x3 hx3 h => ?_
        refine .rg (u (mv (.t rfl)) <| cnf 41000 cf53 (fresh_Read_c hx3) (.c (.t rfl) <| .n) rfl rfl rfl <| u (mv (.t rfl)) <| u (ex (.t rfl) rfl rfl) <| u (ex (.t rfl) rfl rfl) <| u (asg (.t rfl)) <| u (asg (.t rfl)) <| .nil _) rfl ?_
        refine .sq ?_
        refine .fz 41000 rfl ?_
        refine .rg (u (mv (.t rfl)) <| u (mki pc114 (.t rfl)) <| u (mv (.t rfl)) <| u (asg (.t rfl)) <| u (asg (.t rfl)) <| .nil _) rfl ?_
        obtain rfl := Option.some.inj h
        exact .rt Tryz.func30 (.t rfl <| .t rfl <| .n) .n rfl rfl
      · refine .sq ?_
        refine .rg (u (bc (.t rfl) (.i rfl) rfl rfl) <| u (asg (.t rfl)) <| .nil _) rfl ?_
        refine .bq h (.t rfl) (fun h => ?_) (fun h => ?_)
        · refine .sq ?_
          refine be h fun x4 hx4 h => ?_
          refine .rg (u (mv (.t rfl)) <| cl [] cf54 (remb_Read_c hx4) (.c (.t rfl) <| .n) (.inl rfl) <| u (mv (.t rfl)) <| u (ex (.t rfl) rfl rfl) <| u (ex (.t rfl) rfl rfl) <| al 12 zf31 rfl <| st tf31 (.t rfl) rfl (.t rfl) rfl rfl rfl <| u (asg (.t rfl)) <| .nil _) rfl ?_
          refine .sq ?_
          refine .rg (u (ld tf31 (.t rfl) rfl rfl) <| u (bd bf118 zf118 (.c rfl (.t rfl) rfl rfl rfl <| .n) rfl) <| u (mki pc118 (.t rfl)) <| u (mv (.t rfl)) <| u (asg (.t rfl)) <| u (asg (.t rfl)) <| .nil _) rfl ?_
          obtain rfl := Option.some.inj h
          exact .rt Tryz.func30 (.t rfl <| .t rfl <| .n) .n rfl rfl
        · refine .skp ?_
          refine .ib ?_
          refine .sq ?_
          refine .sq ?_
          refine .rg (u (mv (.t rfl)) <| u (lnm sf34 (.t rfl)) <| u (bc (.t rfl) (.i rfl) rfl rfl) <| .nil _) rfl ?_
          refine .bq h (.t rfl) (fun h => ?_) (fun h => ?_)
          · refine .sq ?_
            refine .rg (u (bd bf120 zf120 (.n) rfl) <| u (mki pc120 (.t rfl)) <| u (asg (.t rfl)) <| u (asg (.i rfl)) <| .nil _) rfl ?_
            obtain rfl := Option.some.inj h
            exact .rt Tryz.func30 (.t rfl <| .t rfl <| .n) .n rfl rfl
          · refine .skp ?_
            refine .sq ?_
            refine .rg (u (bd bf120 zf120 (.n) rfl) <| u (mki pc120 (.t rfl)) <| u (asg (.t rfl)) <| u (asg (.i rfl)) <| .nil _) rfl ?_
            obtain rfl := Option.some.inj h
            exact .rt Tryz.func30 (.t rfl <| .t rfl <| .n) .n rfl rfl

theorem feed_pairs_put_y1_c {z : Option Nat} {m : List Pair} {box0 : Feed} {r : Feed} (h : feed_pairs_put_y1 z m box0 = some r) :
    AY Tryz.prog 120 [.ro (.list 2 (List.map cells_Pair m)), .ptr 9000 0] [(9000, [.int .i64 box0.kind, .int .u32 box0.from_, .int .u32 box0.of, .list 2 (List.map cells_Pair box0.pairs), .int .u16 box0.arrive.base, .int .i64 box0.arrive.time, .int .u8 box0.arrive.count, .list 2 (List.map cells_Seen box0.arrive.seen), .list 2 (List.map cells_Entry box0.entries), .int .i64 box0.rate.exp, .int .u32 box0.rate.mant, .list 1 (List.map (ei .u32) box0.rate.srcs)])] [1] (.ro (.tup [])) [] [(1, .ptr 9000 0)] [(9000, [.int .i64 r.kind, .int .u32 r.from_, .int .u32 r.of, .list 2 (List.map cells_Pair r.pairs), .int .u16 r.arrive.base, .int .i64 r.arrive.time, .int .u8 r.arrive.count, .list 2 (List.map cells_Seen r.arrive.seen), .list 2 (List.map cells_Entry r.entries), .int .i64 r.rate.exp, .int .u32 r.rate.mant, .list 1 (List.map (ei .u32) r.rate.srcs)])] := by
  refine AY.of Tryz.func120 rfl rfl fun w X M0 hM pv => ?_
  refine .kq (l := [(0, .ro (.list 2 (List.map cells_Pair m))), (1, .ptr 9000 0)]) (o := [(9000, some (.box [.ro (.int .i64 box0.kind), .ro (.int .u32 box0.from_), .ro (.int .u32 box0.of), .ro (.list 2 (List.map cells_Pair box0.pairs)), .ro (.int .u16 box0.arrive.base), .ro (.int .i64 box0.arrive.time), .ro (.int .u8 box0.arrive.count), .ro (.list 2 (List.map cells_Seen box0.arrive.seen)), .ro (.list 2 (List.map cells_Entry box0.entries)), .ro (.int .i64 box0.rate.exp), .ro (.int .u32 box0.rate.mant), .ro (.list 1 (List.map (ei .u32) box0.rate.srcs))]))]) ?_ (.c rfl (.c rfl .n)) (.c rfl .n)
  unfold feed_pairs_put_y1 at h
  refine .rg (u (mv (.t rfl)) <| u (mv (.t rfl)) <| u (nkp (.t rfl)) <| u (fa ff33_3 (.t rfl)) <| st tf23 (.t rfl) rfl (.t rfl) rfl rfl rfl <| .nil _) rfl ?_
  obtain rfl := Option.some.inj h
  exact .rte (o := [(9000, some (.box [.ro (.int .i64 box0.kind), .ro (.int .u32 box0.from_), .ro (.int .u32 box0.of), .ro (.list 2 (List.map cells_Pair m)), .ro (.int .u16 box0.arrive.base), .ro (.int .i64 box0.arrive.time), .ro (.int .u8 box0.arrive.count), .ro (.list 2 (List.map cells_Seen box0.arrive.seen)), .ro (.list 2 (List.map cells_Entry box0.entries)), .ro (.int .i64 box0.rate.exp), .ro (.int .u32 box0.rate.mant), .ro (.list 1 (List.map (ei .u32) box0.rate.srcs))]))]) Tryz.func120 (.n) (.c rfl .n) rfl rfl (.c rfl .n) rfl

theorem feed_arrivals_put_y1_c {z : Option Nat} {m : feed_arrivals} {box0 : Feed} {r : Feed} (h : feed_arrivals_put_y1 z m box0 = some r) :
    AY Tryz.prog 123 [.ro (enc_feed_arrivals m), .ptr 9000 0] [(9000, [.int .i64 box0.kind, .int .u32 box0.from_, .int .u32 box0.of, .list 2 (List.map cells_Pair box0.pairs), .int .u16 box0.arrive.base, .int .i64 box0.arrive.time, .int .u8 box0.arrive.count, .list 2 (List.map cells_Seen box0.arrive.seen), .list 2 (List.map cells_Entry box0.entries), .int .i64 box0.rate.exp, .int .u32 box0.rate.mant, .list 1 (List.map (ei .u32) box0.rate.srcs)])] [1] (.ro (.tup [])) [] [(1, .ptr 9000 0)] [(9000, [.int .i64 r.kind, .int .u32 r.from_, .int .u32 r.of, .list 2 (List.map cells_Pair r.pairs), .int .u16 r.arrive.base, .int .i64 r.arrive.time, .int .u8 r.arrive.count, .list 2 (List.map cells_Seen r.arrive.seen), .list 2 (List.map cells_Entry r.entries), .int .i64 r.rate.exp, .int .u32 r.rate.mant, .list 1 (List.map (ei .u32) r.rate.srcs)])] := by
  refine AY.of Tryz.func123 rfl rfl fun w X M0 hM pv => ?_
  refine .kq (l := [(0, .ro (enc_feed_arrivals m)), (1, .ptr 9000 0)]) (o := [(9000, some (.box [.ro (.int .i64 box0.kind), .ro (.int .u32 box0.from_), .ro (.int .u32 box0.of), .ro (.list 2 (List.map cells_Pair box0.pairs)), .ro (.int .u16 box0.arrive.base), .ro (.int .i64 box0.arrive.time), .ro (.int .u8 box0.arrive.count), .ro (.list 2 (List.map cells_Seen box0.arrive.seen)), .ro (.list 2 (List.map cells_Entry box0.entries)), .ro (.int .i64 box0.rate.exp), .ro (.int .u32 box0.rate.mant), .ro (.list 1 (List.map (ei .u32) box0.rate.srcs))]))]) ?_ (.c rfl (.c rfl .n)) (.c rfl .n)
  unfold feed_arrivals_put_y1 at h
  refine .sq ?_
  refine .rg (bx 2 (.t rfl) rfl rfl <| .nil _) rfl ?_
  refine .rg (u (mv (.t rfl)) <| u (fa ff111_0 (.t rfl)) <| u (ld tf27 (.t rfl) rfl rfl) <| u (nkp (.t rfl)) <| u (fa ff33_4 (.t rfl)) <| st tf27 (.t rfl) rfl (.t rfl) rfl rfl rfl <| .nil _) rfl ?_
  obtain rfl := Option.some.inj h
  exact .rte (o := [(9000, some (.box [.ro (.int .i64 box0.kind), .ro (.int .u32 box0.from_), .ro (.int .u32 box0.of), .ro (.list 2 (List.map cells_Pair box0.pairs)), .ro (.int .u16 m.arrive.base), .ro (.int .i64 m.arrive.time), .ro (.int .u8 m.arrive.count), .ro (.list 2 (List.map cells_Seen m.arrive.seen)), .ro (.list 2 (List.map cells_Entry box0.entries)), .ro (.int .i64 box0.rate.exp), .ro (.int .u32 box0.rate.mant), .ro (.list 1 (List.map (ei .u32) box0.rate.srcs))]))]) Tryz.func123 (.n) (.c rfl .n) rfl rfl (.c rfl .n) rfl

theorem feed_entries_put_y1_c {z : Option Nat} {m : List Entry} {box0 : Feed} {r : Feed} (h : feed_entries_put_y1 z m box0 = some r) :
    AY Tryz.prog 139 [.ro (.list 2 (List.map cells_Entry m)), .ptr 9000 0] [(9000, [.int .i64 box0.kind, .int .u32 box0.from_, .int .u32 box0.of, .list 2 (List.map cells_Pair box0.pairs), .int .u16 box0.arrive.base, .int .i64 box0.arrive.time, .int .u8 box0.arrive.count, .list 2 (List.map cells_Seen box0.arrive.seen), .list 2 (List.map cells_Entry box0.entries), .int .i64 box0.rate.exp, .int .u32 box0.rate.mant, .list 1 (List.map (ei .u32) box0.rate.srcs)])] [1] (.ro (.tup [])) [] [(1, .ptr 9000 0)] [(9000, [.int .i64 r.kind, .int .u32 r.from_, .int .u32 r.of, .list 2 (List.map cells_Pair r.pairs), .int .u16 r.arrive.base, .int .i64 r.arrive.time, .int .u8 r.arrive.count, .list 2 (List.map cells_Seen r.arrive.seen), .list 2 (List.map cells_Entry r.entries), .int .i64 r.rate.exp, .int .u32 r.rate.mant, .list 1 (List.map (ei .u32) r.rate.srcs)])] := by
  refine AY.of Tryz.func139 rfl rfl fun w X M0 hM pv => ?_
  refine .kq (l := [(0, .ro (.list 2 (List.map cells_Entry m))), (1, .ptr 9000 0)]) (o := [(9000, some (.box [.ro (.int .i64 box0.kind), .ro (.int .u32 box0.from_), .ro (.int .u32 box0.of), .ro (.list 2 (List.map cells_Pair box0.pairs)), .ro (.int .u16 box0.arrive.base), .ro (.int .i64 box0.arrive.time), .ro (.int .u8 box0.arrive.count), .ro (.list 2 (List.map cells_Seen box0.arrive.seen)), .ro (.list 2 (List.map cells_Entry box0.entries)), .ro (.int .i64 box0.rate.exp), .ro (.int .u32 box0.rate.mant), .ro (.list 1 (List.map (ei .u32) box0.rate.srcs))]))]) ?_ (.c rfl (.c rfl .n)) (.c rfl .n)
  unfold feed_entries_put_y1 at h
  refine .rg (u (mv (.t rfl)) <| u (mv (.t rfl)) <| u (nkp (.t rfl)) <| u (fa ff33_5 (.t rfl)) <| st tf28 (.t rfl) rfl (.t rfl) rfl rfl rfl <| .nil _) rfl ?_
  obtain rfl := Option.some.inj h
  exact .rte (o := [(9000, some (.box [.ro (.int .i64 box0.kind), .ro (.int .u32 box0.from_), .ro (.int .u32 box0.of), .ro (.list 2 (List.map cells_Pair box0.pairs)), .ro (.int .u16 box0.arrive.base), .ro (.int .i64 box0.arrive.time), .ro (.int .u8 box0.arrive.count), .ro (.list 2 (List.map cells_Seen box0.arrive.seen)), .ro (.list 2 (List.map cells_Entry m)), .ro (.int .i64 box0.rate.exp), .ro (.int .u32 box0.rate.mant), .ro (.list 1 (List.map (ei .u32) box0.rate.srcs))]))]) Tryz.func139 (.n) (.c rfl .n) rfl rfl (.c rfl .n) rfl

theorem feed_rate_put_y1_c {z : Option Nat} {m : feed_rate} {box0 : Feed} {r : Feed} (h : feed_rate_put_y1 z m box0 = some r) :
    AY Tryz.prog 142 [.ro (enc_feed_rate m), .ptr 9000 0] [(9000, [.int .i64 box0.kind, .int .u32 box0.from_, .int .u32 box0.of, .list 2 (List.map cells_Pair box0.pairs), .int .u16 box0.arrive.base, .int .i64 box0.arrive.time, .int .u8 box0.arrive.count, .list 2 (List.map cells_Seen box0.arrive.seen), .list 2 (List.map cells_Entry box0.entries), .int .i64 box0.rate.exp, .int .u32 box0.rate.mant, .list 1 (List.map (ei .u32) box0.rate.srcs)])] [1] (.ro (.tup [])) [] [(1, .ptr 9000 0)] [(9000, [.int .i64 r.kind, .int .u32 r.from_, .int .u32 r.of, .list 2 (List.map cells_Pair r.pairs), .int .u16 r.arrive.base, .int .i64 r.arrive.time, .int .u8 r.arrive.count, .list 2 (List.map cells_Seen r.arrive.seen), .list 2 (List.map cells_Entry r.entries), .int .i64 r.rate.exp, .int .u32 r.rate.mant, .list 1 (List.map (ei .u32) r.rate.srcs)])] := by
  refine AY.of Tryz.func142 rfl rfl fun w X M0 hM pv => ?_
  refine .kq (l := [(0, .ro (enc_feed_rate m)), (1, .ptr 9000 0)]) (o := [(9000, some (.box [.ro (.int .i64 box0.kind), .ro (.int .u32 box0.from_), .ro (.int .u32 box0.of), .ro (.list 2 (List.map cells_Pair box0.pairs)), .ro (.int .u16 box0.arrive.base), .ro (.int .i64 box0.arrive.time), .ro (.int .u8 box0.arrive.count), .ro (.list 2 (List.map cells_Seen box0.arrive.seen)), .ro (.list 2 (List.map cells_Entry box0.entries)), .ro (.int .i64 box0.rate.exp), .ro (.int .u32 box0.rate.mant), .ro (.list 1 (List.map (ei .u32) box0.rate.srcs))]))]) ?_ (.c rfl (.c rfl .n)) (.c rfl .n)
  unfold feed_rate_put_y1 at h
  refine .sq ?_
  refine .rg (bx 2 (.t rfl) rfl rfl <| .nil _) rfl ?_
  refine .rg (u (mv (.t rfl)) <| u (fa ff118_0 (.t rfl)) <| u (ld tf31 (.t rfl) rfl rfl) <| u (nkp (.t rfl)) <| u (fa ff33_6 (.t rfl)) <| st tf31 (.t rfl) rfl (.t rfl) rfl rfl rfl <| .nil _) rfl ?_
  obtain rfl := Option.some.inj h
  exact .rte (o := [(9000, some (.box [.ro (.int .i64 box0.kind), .ro (.int .u32 box0.from_), .ro (.int .u32 box0.of), .ro (.list 2 (List.map cells_Pair box0.pairs)), .ro (.int .u16 box0.arrive.base), .ro (.int .i64 box0.arrive.time), .ro (.int .u8 box0.arrive.count), .ro (.list 2 (List.map cells_Seen box0.arrive.seen)), .ro (.list 2 (List.map cells_Entry box0.entries)), .ro (.int .i64 m.rate.exp), .ro (.int .u32 m.rate.mant), .ro (.list 1 (List.map (ei .u32) m.rate.srcs))]))]) Tryz.func142 (.n) (.c rfl .n) rfl rfl (.c rfl .n) rfl

theorem feed_loss_put_y1_c {z : Option Nat} {p0 : feed_loss} {box0 : Feed} {r : Feed} (h : feed_loss_put_y1 z p0 box0 = some r) :
    AY Tryz.prog 146 [.ro (enc_feed_loss p0), .ptr 9000 0] [(9000, [.int .i64 box0.kind, .int .u32 box0.from_, .int .u32 box0.of, .list 2 (List.map cells_Pair box0.pairs), .int .u16 box0.arrive.base, .int .i64 box0.arrive.time, .int .u8 box0.arrive.count, .list 2 (List.map cells_Seen box0.arrive.seen), .list 2 (List.map cells_Entry box0.entries), .int .i64 box0.rate.exp, .int .u32 box0.rate.mant, .list 1 (List.map (ei .u32) box0.rate.srcs)])] [1] (.ro (.tup [])) [] [(1, .ptr 9000 0)] [(9000, [.int .i64 r.kind, .int .u32 r.from_, .int .u32 r.of, .list 2 (List.map cells_Pair r.pairs), .int .u16 r.arrive.base, .int .i64 r.arrive.time, .int .u8 r.arrive.count, .list 2 (List.map cells_Seen r.arrive.seen), .list 2 (List.map cells_Entry r.entries), .int .i64 r.rate.exp, .int .u32 r.rate.mant, .list 1 (List.map (ei .u32) r.rate.srcs)])] := by
  refine AY.of Tryz.func146 rfl rfl fun w X M0 hM pv => ?_
  refine .kq (l := [(0, .ro (enc_feed_loss p0)), (1, .ptr 9000 0)]) (o := [(9000, some (.box [.ro (.int .i64 box0.kind), .ro (.int .u32 box0.from_), .ro (.int .u32 box0.of), .ro (.list 2 (List.map cells_Pair box0.pairs)), .ro (.int .u16 box0.arrive.base), .ro (.int .i64 box0.arrive.time), .ro (.int .u8 box0.arrive.count), .ro (.list 2 (List.map cells_Seen box0.arrive.seen)), .ro (.list 2 (List.map cells_Entry box0.entries)), .ro (.int .i64 box0.rate.exp), .ro (.int .u32 box0.rate.mant), .ro (.list 1 (List.map (ei .u32) box0.rate.srcs))]))]) ?_ (.c rfl (.c rfl .n)) (.c rfl .n)
  unfold feed_loss_put_y1 at h
  refine .rg (bx 2 (.t rfl) rfl rfl <| .nil _) rfl ?_
  obtain rfl := Option.some.inj h
  exact .rte (o := [(9000, some (.box [.ro (.int .i64 box0.kind), .ro (.int .u32 box0.from_), .ro (.int .u32 box0.of), .ro (.list 2 (List.map cells_Pair box0.pairs)), .ro (.int .u16 box0.arrive.base), .ro (.int .i64 box0.arrive.time), .ro (.int .u8 box0.arrive.count), .ro (.list 2 (List.map cells_Seen box0.arrive.seen)), .ro (.list 2 (List.map cells_Entry box0.entries)), .ro (.int .i64 box0.rate.exp), .ro (.int .u32 box0.rate.mant), .ro (.list 1 (List.map (ei .u32) box0.rate.srcs))]))]) Tryz.func146 (.n) (.c rfl .n) rfl rfl (.c rfl .n) rfl

theorem I_feed_message_put_y0_c {z : Option Nat} {w : I_feed_message} {b0 : Feed} {r : Feed} (h : I_feed_message_put_y0 z w b0 = some r) :
    MY Tryz.prog "crossbar/feed.put" (enc_I_feed_message w) [.ptr 9000 0] [(9000, [.int .i64 b0.kind, .int .u32 b0.from_, .int .u32 b0.of, .list 2 (List.map cells_Pair b0.pairs), .int .u16 b0.arrive.base, .int .i64 b0.arrive.time, .int .u8 b0.arrive.count, .list 2 (List.map cells_Seen b0.arrive.seen), .list 2 (List.map cells_Entry b0.entries), .int .i64 b0.rate.exp, .int .u32 b0.rate.mant, .list 1 (List.map (ei .u32) b0.rate.srcs)])] [1] (.ro (.tup [])) [] [(1, .ptr 9000 0)] [(9000, [.int .i64 r.kind, .int .u32 r.from_, .int .u32 r.of, .list 2 (List.map cells_Pair r.pairs), .int .u16 r.arrive.base, .int .i64 r.arrive.time, .int .u8 r.arrive.count, .list 2 (List.map cells_Seen r.arrive.seen), .list 2 (List.map cells_Entry r.entries), .int .i64 r.rate.exp, .int .u32 r.rate.mant, .list 1 (List.map (ei .u32) r.rate.srcs)])] := by
  cases w
  · cases h
  · exact ⟨_, _, _, rfl, cm107_120, feed_pairs_put_y1_c (z := z) h⟩
  · exact ⟨_, _, _, rfl, cm111_123, feed_arrivals_put_y1_c (z := z) h⟩
  · exact ⟨_, _, _, rfl, cm114_139, feed_entries_put_y1_c (z := z) h⟩
  · exact ⟨_, _, _, rfl, cm118_142, feed_rate_put_y1_c (z := z) h⟩
  · exact ⟨_, _, _, rfl, cm120_146, feed_loss_put_y1_c (z := z) h⟩

theorem feed_Read_c {z : Option Nat} {kind : Int} {body : List Int} {r : Feed × Int} (h : feed_Read z kind body = some r) :
    AC Tryz.prog 14 [.ro (.int .i64 kind), .ro (.list 1 (List.map e8 body))] (.ro (.tup [enc_Feed r.1, .int .i64 r.2])) [] := by
  refine AC.of Tryz.func14 rfl rfl fun w M0 hM => ?_
  unfold feed_Read at h
  refine .sq ?_
  refine .rg (al 4 zf33 rfl <| u (asg (.i rfl)) <| .nil _) rfl ?_
  refine .sq ?_
  refine .rg (u (mv (.t rfl)) <| cl [] cf7 (feed_Code_c kind) (.c (.t rfl) <| .n) (.inl rfl) <| u (mv (.t rfl)) <| u (ex (.t rfl) rfl rfl) <| u (ex (.t rfl) rfl rfl) <| u (ex (.t rfl) rfl rfl) <| u (asg (.t rfl)) <| u (asg (.t rfl)) <| u (asg (.t rfl)) <| .nil _) rfl ?_
  refine .sq ?_
  refine .bl ?_
  refine .sq ?_
  refine .rg (u (mv (.t rfl)) <| u (bc (.t rfl) (.i rfl) rfl rfl) <| u (asg (.t rfl)) <| .nil _) rfl ?_
  refine .bq h (.t rfl) (fun h => ?_) (fun h => ?_)
  · refine .sq ?_
    refine .rg (u (bd bf33 zf33 (.n) rfl) <| u (mv (.t rfl)) <| st tf33 (.t rfl) rfl (.t rfl) rfl rfl rfl <| u (asg (.t rfl)) <| .nil _) rfl ?_
    obtain rfl := Option.some.inj h
    exact .rt Tryz.func14 (.c tf33 rfl rfl rfl <| .t rfl <| .n) .n rfl rfl
  · refine .sq ?_
    refine .sq ?_
    refine .rg (u (mv (.t rfl)) <| u (lnm sf34 (.t rfl)) <| u (bc (.t rfl) (.i rfl) rfl rfl) <| u (asg (.t rfl)) <| .nil _) rfl ?_
    refine .jq (t := some r) (fun (a : Bool) => ⟨[(0, .ro (.int .i64 kind)), (1, .ro (.list 1 (List.map e8 body))), (4, .ptr 4 0), (26, .ro (.bool a))], [(4, some (.box [.ro (.int .i64 0), .ro (.int .u32 0), .ro (.int .u32 0), .ro (.list 2 (List.map cells_Pair [])), .ro (.int .u16 0), .ro (.int .i64 0), .ro (.int .u8 0), .ro (.list 2 (List.map cells_Seen [])), .ro (.list 2 (List.map cells_Entry [])), .ro (.int .i64 0), .ro (.int .u32 0), .ro (.list 1 (List.map (ei .u32) []))]))]⟩) (fun (a : Bool) => feed_Read_j1 z kind body a) ?_ (fun J1 => ?_)
    · intro v1 h
      replace h : feed_Read_j1 z kind body v1 = _ := h
      unfold feed_Read_j1 at h
      refine .bq h (.t rfl) (fun h => ?_) (fun h => ?_)
      · refine .sq ?_
        refine .rg (u (bd bf33 zf33 (.n) rfl) <| st tf33 (.t rfl) rfl (.t rfl) rfl rfl rfl <| u (asg (.i rfl)) <| .nil _) rfl ?_
        obtain rfl := Option.some.inj h
        exact .rt Tryz.func14 (.c tf33 rfl rfl rfl <| .t rfl <| .n) .n rfl rfl
      · refine .sq ?_
        refine .rg (u (mv (.t rfl)) <| u (lnm sf34 (.t rfl)) <| u (bc (.t rfl) (.i rfl) rfl rfl) <| u (asg (.t rfl)) <| .nil _) rfl ?_
        refine .bq h (.t rfl) (fun h => ?_) (fun h => ?_)
        · refine .sq ?_
          refine .rg (u (bd bf33 zf33 (.n) rfl) <| st tf33 (.t rfl) rfl (.t rfl) rfl rfl rfl <| u (asg (.i rfl)) <| .nil _) rfl ?_
          obtain rfl := Option.some.inj h
          exact .rt Tryz.func14 (.c tf33 rfl rfl rfl <| .t rfl <| .n) .n rfl rfl
        · refine .skp ?_
          refine .ib ?_
          refine .sq ?_
          refine be h fun x2 hx2 h => ?_
          refine be h fun x3 hx3 h => ?_
          refine .rg (u (mv (.t rfl)) <| u (mv (.t rfl)) <| u (sl sf34 (.t rfl) (.s (.i rfl)) .n hx2) <| cl [] cf30 (feed_read_c hx3) (.c (.t rfl) <| .c (.t rfl) <| .n) (.inl rfl) <| u (mv (.t rfl)) <| u (ex (.t rfl) rfl rfl) <| u (ex (.t rfl) rfl rfl) <| u (asg (.t rfl)) <| u (asg (.t rfl)) <| .nil _) rfl ?_
          refine .sq ?_
          refine .sq ?_
          refine .rg (u (mv (.t rfl)) <| u (bc (.t rfl) (.i rfl) rfl rfl) <| .nil _) rfl ?_
          refine .bq h (.t rfl) (fun h => ?_) (fun h => ?_)
          · refine .sq ?_
            refine .rg (u (bd bf33 zf33 (.n) rfl) <| u (mv (.t rfl)) <| st tf33 (.t rfl) rfl (.t rfl) rfl rfl rfl <| u (asg (.t rfl)) <| .nil _) rfl ?_
            obtain rfl := Option.some.inj h
            exact .rt Tryz.func14 (.c tf33 rfl rfl rfl <| .t rfl <| .n) .n rfl rfl
          · refine .skp ?_
            refine .sq ?_
            refine be h fun x4 hx4 h => ?_
            refine .rg (u (mv (.t rfl)) <| cl [] cf31 (octet_Get_c hx4) (.c (.t rfl) <| .c (.i rfl) <| .c (.i rfl) <| .n) (.inl rfl) <| u (mv (.t rfl)) <| u (ex (.t rfl) rfl rfl) <| u (ex (.t rfl) rfl rfl) <| u (asg (.t rfl)) <| u (asg (.t rfl)) <| .nil _) rfl ?_
            refine .sq ?_
            refine be h fun x5 hx5 h => ?_
            refine .rg (u (mv (.t rfl)) <| cl [] cf31 (octet_Get_c hx5) (.c (.t rfl) <| .c (.i rfl) <| .c (.i rfl) <| .n) (.inl rfl) <| u (mv (.t rfl)) <| u (ex (.t rfl) rfl rfl) <| u (ex (.t rfl) rfl rfl) <| u (asg (.t rfl)) <| u (asg (.t rfl)) <| .nil _) rfl ?_
            refine .sq ?_
            refine .rg (u (mv (.t rfl)) <| u (mv (.t rfl)) <| u (cv cv64_22 (.t rfl)) <| u (mv (.t rfl)) <| u (cv cv64_22 (.t rfl)) <| u (bd bf33 zf33 (.c rfl (.t rfl) rfl rfl rfl <| .c rfl (.t rfl) rfl rfl rfl <| .c rfl (.t rfl) rfl rfl rfl <| .n) rfl) <| al 14 zf33 rfl <| st tf33 (.t rfl) rfl (.t rfl) rfl rfl rfl <| .nil _) rfl ?_
            refine .sq ?_
            refine be h fun x6 hx6 h => ?_
            refine .rg (u (mv (.t rfl)) <| cmy 69000000 (MY.lm (fun i => bif Nat.beq i 9000 then 14 else i) (I_feed_message_put_y0_c hx6) (fun _ => rfl) rfl rfl rfl rfl rfl rfl) (.t rfl) (.c (.t rfl) <| .n) rfl (.c rfl <| .n) rfl <| .nil _) rfl ?_
            refine .sq ?_
            refine .rg (u (ld tf33 (.t rfl) rfl rfl) <| st tf33 (.t rfl) rfl (.t rfl) rfl rfl rfl <| u (asg (.i rfl)) <| .nil _) rfl ?_
            obtain rfl := Option.some.inj h
            exact .rt Tryz.func14 (.c tf33 rfl rfl rfl <| .t rfl <| .n) .n rfl rfl
    refine .bq h (.t rfl) (fun h => ?_) (fun h => ?_)
    · refine .skp ?_
      exact .kq (J1 (cm .gtr (body.length : Int) 65528) h) (.c rfl (.c rfl (.c rfl (.c rfl .n)))) (.c rfl .n)
    · refine .rg (u (mv (.t rfl)) <| u (lnm sf34 (.t rfl)) <| u (di (.t rfl) (.i rfl) rfl (by decide)) <| u (bc (.t rfl) (.i rfl) rfl rfl) <| u (asg (.t rfl)) <| .nil _) rfl ?_
      exact .kq (J1 (cm .gtr (dv .rem .i64 (body.length : Int) 4) 0) h) (.c rfl (.c rfl (.c rfl (.c rfl .n)))) (.c rfl .n)

theorem feed_Kind_c {z : Option Nat} {kind : Int} {count : Int} {r : Int} (h : feed_Kind z kind count = some r) :
    AC Tryz.prog 9 [.ro (.int .i64 kind), .ro (.int .i64 count)] (.ro (.int .i64 r)) [] := by
  refine AC.of Tryz.func9 rfl rfl fun w M0 hM => ?_
  unfold feed_Kind at h
  refine .sq ?_
  refine .rg (u (asg (.i rfl)) <| .nil _) rfl ?_
  refine .sq ?_
  refine .sq ?_
  refine .rg (u (asg (.i rfl)) <| .nil _) rfl ?_
  refine .bl ?_
  unfold feed_Kind_l1 at h
  refine .kq (.lo (fun (s : Int) => ⟨[(0, .ro (.int .i64 kind)), (1, .ro (.int .i64 count)), (5, .ro (.int .i64 s))], []⟩) h ?_) (.c rfl (.c rfl (.c rfl .n))) .n
  intro v1 u1 h ih1 hx1
  replace h : feed_Kind_s1 z kind count v1 = _ := h
  unfold feed_Kind_s1 at h
  refine .sq ?_
  refine .sq ?_
  refine .rg (u (mv (.t rfl)) <| u (bc (.t rfl) (.i rfl) rfl rfl) <| .nil _) rfl ?_
  refine .bq h (.t rfl) (fun h => ?_) (fun h => ?_)
  · refine .skp ?_
    refine .sq ?_
    refine .bl ?_
    refine .sq ?_
    refine .rg (u (mv (.t rfl)) <| cl [] cf7 (feed_Code_c v1) (.c (.t rfl) <| .n) (.inl rfl) <| u (mv (.t rfl)) <| u (ex (.t rfl) rfl rfl) <| u (ex (.t rfl) rfl rfl) <| u (ex (.t rfl) rfl rfl) <| u (asg (.t rfl)) <| u (asg (.t rfl)) <| u (asg (.t rfl)) <| .nil _) rfl ?_
    refine .sq ?_
    refine .rg (u (mv (.t rfl)) <| u (mv (.t rfl)) <| u (bc (.t rfl) (.t rfl) rfl rfl) <| u (mv (.t rfl)) <| gd rfl rfl (fun hB => mv (.t rfl)) <| gd rfl rfl (fun hB => mv (.t rfl)) <| gd rfl rfl (fun hB => bc (.m rfl hB) (.m rfl hB) rfl rfl) <| u (pka (.t rfl) (.t rfl)) <| .nil _) rfl ?_
    refine .bq h (.t rfl) (fun h => ?_) (fun h => ?_)
    · refine .sq ?_
      refine .rg (u (mv (.t rfl)) <| u (asg (.t rfl)) <| .nil _) rfl ?_
      replace h := mpR h hx1
      obtain rfl := Option.some.inj h
      exact .rt Tryz.func9 (.t rfl <| .n) .n rfl rfl
    · refine .skp ?_
      refine .ib ?_
      refine .rg (u (mv (.t rfl)) <| u (bi (.t rfl) (.i rfl) rfl) <| u (asg (.t rfl)) <| .nil _) rfl ?_
      exact .kq (.il (ih1 (ar .add .i64 v1 1) (nxi h))) (.c rfl (.c rfl (.c rfl .n))) .n
  · refine .xt rfl ?_
    replace h := mpR h hx1
    refine .sq ?_
    refine .rg (u (asg (.i rfl)) <| .nil _) rfl ?_
    obtain rfl := Option.some.inj h
    exact .rt Tryz.func9 (.t rfl <| .n) .n rfl rfl

theorem chunk_Canon_c {z : Option Nat} {chunks : List Int} {count : Int} {r : Bool} (h : chunk_Canon z chunks count = some r) :
    AC Tryz.prog 61 [.ro (.list 1 (List.map (ei .u16) chunks)), .ro (.int .i64 count)] (.ro (.bool r)) [] := by
  refine AC.of Tryz.func61 rfl rfl fun w M0 hM => ?_
  unfold chunk_Canon at h
  refine .sq ?_
  refine .rg (u (asg .b) <| .nil _) rfl ?_
  refine .sq ?_
  refine be h fun x1 hx1 h => ?_
  refine .rg (u (mv (.t rfl)) <| u (mv (.t rfl)) <| cnf 16000 cf73 (chunk_Read_c hx1) (.c (.t rfl) <| .c (.t rfl) <| .n) rfl rfl rfl <| u (mv (.t rfl)) <| u (ex (.t rfl) rfl rfl) <| u (ex (.t rfl) rfl rfl) <| u (ex (.t rfl) rfl rfl) <| u (asg (.t rfl)) <| u (asg (.t rfl)) <| u (asg (.t rfl)) <| .nil _) rfl ?_
  refine .sq ?_
  refine .sq ?_
  refine .rg (u (mv (.t rfl)) <| u (bc (.t rfl) (.i rfl) rfl rfl) <| .nil _) rfl ?_
  refine .bq h (.t rfl) (fun h => ?_) (fun h => ?_)
  · refine .sq ?_
    refine .rg (u (asg .b) <| .nil _) rfl ?_
    obtain rfl := Option.some.inj h
    exact .rt Tryz.func61 (.t rfl <| .n) .n rfl rfl
  · refine .skp ?_
    refine .sq ?_
    refine .sq ?_
    refine .rg (u (mv (.t rfl)) <| u (lnm sf100 (.t rfl)) <| u (mv (.i rfl)) <| .nil _) rfl ?_
    refine .bl ?_
    refine .fz 16000 rfl ?_
    unfold chunk_Canon_l1 at h
    refine .kq (.lo (fun (s : List Int × Int) => ⟨[(5, .ro (.list 1 (List.map (ei .i64) s.1))), (21, .ro (.list 1 (List.map (ei .u16) chunks))), (22, .ro (.int .i64 (chunks.length : Int))), (23, .ro (.int .i64 s.2))], []⟩) h ?_) (.c rfl (.c rfl (.c rfl (.c rfl .n)))) .n
    rintro ⟨v2, v3⟩ u1 h ih1 hx1
    replace h : chunk_Canon_s1 z chunks v2 v3 = _ := h
    unfold chunk_Canon_s1 at h
    refine .sq ?_
    refine .rg (u (bc (.t rfl) (.t rfl) rfl rfl) <| .nil _) rfl ?_
    refine .sq ?_
    refine .bq h (.t rfl) (fun h => ?_) (fun h => ?_)
    · refine .skp ?_
      refine .sq ?_
      refine .bl ?_
      refine .sq ?_
      refine be h fun x4 hx4 h => ?_
      refine .rg (u (ia sf100 (.t rfl) (.t rfl) (ix_map (ei .u16) hx4)) <| u (lr tf24 (.t rfl) rfl) <| u (asg (.t rfl)) <| .nil _) rfl ?_
      refine .sq ?_
      refine .sq ?_
      refine .rg (u (mv (.t rfl)) <| u (lnm sf56 (.t rfl)) <| u (bc (.t rfl) (.i rfl) rfl rfl) <| .nil _) rfl ?_
      refine .bq h (.t rfl) (fun h => ?_) (fun h => ?_)
      · refine .sq ?_
        refine .rg (u (asg .b) <| .nil _) rfl ?_
        replace h := mpR h hx1
        obtain rfl := Option.some.inj h
        exact .rt Tryz.func61 (.t rfl <| .n) .n rfl rfl
      · refine .skp ?_
        refine .sq ?_
        refine be h fun x5 hx5 h => ?_
        refine .rg (u (mv (.t rfl)) <| cl [] cf76 (chunk_first_c hx5) (.c (.t rfl) <| .n) (.inl rfl) <| u (mv (.t rfl)) <| u (ex (.t rfl) rfl rfl) <| u (ex (.t rfl) rfl rfl) <| u (asg (.t rfl)) <| u (asg (.t rfl)) <| .nil _) rfl ?_
        refine .sq ?_
        refine .sq ?_
        refine .rg (u (mv (.t rfl)) <| u (mv (.t rfl)) <| u (bc (.t rfl) (.t rfl) rfl rfl) <| .nil _) rfl ?_
        refine .bq h (.t rfl) (fun h => ?_) (fun h => ?_)
        · refine .sq ?_
          refine .rg (u (asg .b) <| .nil _) rfl ?_
          replace h := mpR h hx1
          obtain rfl := Option.some.inj h
          exact .rt Tryz.func61 (.t rfl <| .n) .n rfl rfl
        · refine .skp ?_
          refine be h fun x6 hx6 h => ?_
          refine .rg (u (mv (.t rfl)) <| u (mv (.t rfl)) <| u (sl sf56 (.t rfl) (.s (.t rfl)) .n hx6) <| u (asg (.t rfl)) <| .nil _) rfl ?_
          refine .ib ?_
          refine .rg (u (bi (.t rfl) (.i rfl) rfl) <| u (mv (.t rfl)) <| .nil _) rfl ?_
          exact .kq (.il (ih1 (x6, (ar .add .i64 v3 1)) (nxi h))) (.c rfl (.c rfl (.c rfl (.c rfl .n)))) .n
    · refine .xt rfl ?_
      replace h := mpR h hx1
      refine .sq ?_
      refine .rg (u (mv (.t rfl)) <| u (lnm sf56 (.t rfl)) <| u (bc (.t rfl) (.i rfl) rfl rfl) <| u (asg (.t rfl)) <| .nil _) rfl ?_
      obtain rfl := Option.some.inj h
      exact .rt Tryz.func61 (.t rfl <| .n) .n rfl rfl

end Xb
