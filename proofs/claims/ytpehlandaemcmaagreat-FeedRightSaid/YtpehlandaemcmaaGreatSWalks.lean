/- Own text: SWalks. -/
import Derived.Test.YtpehlandaemcmaaGreatSWalksA
import Derived.Test.YtpehlandaemcmaaGreatSFacts
import Derived.Test.YtpehlandaemcmaaGreatSRaw
import Derived.Test.YtpehlandaemcmaaGreatSIter
set_option linter.all false
set_option linter.unusedVariables false
set_option linter.unusedSimpArgs false
set_option linter.unnecessarySimpa false
set_option linter.deprecated false
namespace Xb
open Go Go.Proofs
set_option linter.unusedVariables false
set_option maxRecDepth 20000

theorem bytes_Equal_c (p_a : List Int) (b : List Int) :
    AC Tryz.prog 95 [.ro (.list 1 (List.map e8 p_a)), .ro (.list 1 (List.map e8 b))] (.ro (.bool (bytes_Equal p_a b))) [] := by
  obtain ⟨r, h⟩ : ∃ r, bytes_Equal p_a b = r := ⟨_, rfl⟩
  rw [h]
  refine AC.of Tryz.func95 rfl rfl fun w M0 hM => ?_
  unfold bytes_Equal at h
  refine .sq ?_
  refine .rg (u (asg .b) <| .nil _) rfl ?_
  refine .sq ?_
  refine .rg (u (mv (.t rfl)) <| u (bt bt34_9 (.t rfl)) <| u (mv (.t rfl)) <| u (bt bt34_9 (.t rfl)) <| u (sq (.t rfl) (.t rfl) rfl rfl) <| u (asg (.t rfl)) <| .nil _) rfl ?_
  subst h
  exact .rt Tryz.func95 (.t rfl <| .n) .n rfl rfl

theorem internal_bytealg_Cutover_c (n : Int) :
    AC Tryz.prog 97 [.ro (.int .i64 n)] (.ro (.int .i64 (internal_bytealg_Cutover n))) [] := by
  obtain ⟨r, h⟩ : ∃ r, internal_bytealg_Cutover n = r := ⟨_, rfl⟩
  rw [h]
  refine AC.of Tryz.func97 rfl rfl fun w M0 hM => ?_
  unfold internal_bytealg_Cutover at h
  refine .sq ?_
  refine .rg (u (asg (.i rfl)) <| .nil _) rfl ?_
  refine .sq ?_
  refine .rg (u (mv (.t rfl)) <| u (bi (.t rfl) (.i rfl) rfl) <| u (di (.t rfl) (.i rfl) rfl (by decide)) <| u (asg (.t rfl)) <| .nil _) rfl ?_
  subst h
  exact .rt Tryz.func97 (.t rfl <| .n) .n rfl rfl

theorem internal_bytealg_hashStr_c {z : Option Nat} {sep : List Int} {r : Int × Int} (h : internal_bytealg_hashStr z sep = some r) :
    AC Tryz.prog 101 [.ro (.list 1 (List.map e8 sep))] (.ro (.tup [.int .u32 r.1, .int .u32 r.2])) [] := by
  refine AC.of Tryz.func101 rfl rfl fun w M0 hM => ?_
  unfold internal_bytealg_hashStr at h
  refine .sq ?_
  refine .rg (u (asg (.i rfl)) <| u (asg (.i rfl)) <| .nil _) rfl ?_
  refine .sq ?_
  refine .rg (u (asg (.i rfl)) <| .nil _) rfl ?_
  refine .sq ?_
  refine .sq ?_
  refine .rg (u (asg (.i rfl)) <| .nil _) rfl ?_
  refine .bl ?_
  unfold internal_bytealg_hashStr_l1 at h
  refine .kq (.lo (fun (s : Int × Int) => ⟨[(0, .ro (.list 1 (List.map e8 sep))), (4, .ro (.int .u32 s.1)), (5, .ro (.int .i64 s.2))], []⟩) h ?_) (.c rfl (.c rfl (.c rfl .n))) .n
  rintro ⟨v1, v2⟩ u1 h ih1 hx1
  replace h : internal_bytealg_hashStr_s1 z sep v1 v2 = _ := h
  unfold internal_bytealg_hashStr_s1 at h
  refine .sq ?_
  refine .sq ?_
  refine .rg (u (mv (.t rfl)) <| u (mv (.t rfl)) <| u (lnm sf34 (.t rfl)) <| u (bc (.t rfl) (.t rfl) rfl rfl) <| .nil _) rfl ?_
  refine .bq h (.t rfl) (fun h => ?_) (fun h => ?_)
  · refine .skp ?_
    refine .sq ?_
    refine .bl ?_
    refine be h fun x3 hx3 h => ?_
    refine .rg (u (mv (.t rfl)) <| u (bi (.t rfl) (.i rfl) rfl) <| u (mv (.t rfl)) <| u (mv (.t rfl)) <| u (ia sf34 (.t rfl) (.t rfl) (ix_map e8 hx3)) <| u (lr tf5 (.t rfl) rfl) <| u (cv cv5_22 (.t rfl)) <| u (bi (.t rfl) (.t rfl) rfl) <| u (asg (.t rfl)) <| .nil _) rfl ?_
    refine .ib ?_
    refine .rg (u (mv (.t rfl)) <| u (bi (.t rfl) (.i rfl) rfl) <| u (asg (.t rfl)) <| .nil _) rfl ?_
    exact .kq (.il (ih1 ((ar .add .u32 (ar .mul .u32 v1 16777619) (IntKind.u32.wrap x3)), (ar .add .i64 v2 1)) (nxi h))) (.c rfl (.c rfl (.c rfl .n))) .n
  · refine .xt rfl ?_
    replace h := mpR h hx1
    refine .sq ?_
    refine .rg (u (asg (.i rfl)) <| u (asg (.i rfl)) <| .nil _) rfl ?_
    refine .sq ?_
    refine .sq ?_
    refine .rg (u (mv (.t rfl)) <| u (lnm sf34 (.t rfl)) <| u (asg (.t rfl)) <| .nil _) rfl ?_
    refine .bl ?_
    unfold internal_bytealg_hashStr_l2 at h
    refine .kq (.lo (fun (s : Int × Int × Int) => ⟨[(4, .ro (.int .u32 v1)), (6, .ro (.int .u32 s.1)), (7, .ro (.int .u32 s.2.1)), (8, .ro (.int .i64 s.2.2))], []⟩) h ?_) (.c rfl (.c rfl (.c rfl (.c rfl .n)))) .n
    rintro ⟨v4, v5, v6⟩ u2 h ih2 hx2
    replace h : internal_bytealg_hashStr_s2 z v1 v4 v5 v6 = _ := h
    unfold internal_bytealg_hashStr_s2 at h
    refine .sq ?_
    refine .sq ?_
    refine .rg (u (mv (.t rfl)) <| u (bc (.t rfl) (.i rfl) rfl rfl) <| .nil _) rfl ?_
    refine .bq h (.t rfl) (fun h => ?_) (fun h => ?_)
    · refine .skp ?_
      refine .sq ?_
      refine .bl ?_
      refine .sq ?_
      refine .sq ?_
      refine .rg (u (mv (.t rfl)) <| u (bi (.t rfl) (.i rfl) rfl) <| u (bc (.t rfl) (.i rfl) rfl rfl) <| .nil _) rfl ?_
      refine .jq (t := some u2) (fun (a : Int) => ⟨[(4, .ro (.int .u32 v1)), (6, .ro (.int .u32 a)), (7, .ro (.int .u32 v5)), (8, .ro (.int .i64 v6))], []⟩) (fun (a : Int) => internal_bytealg_hashStr_j3 z v5 v6 a) ?_ (fun J3 => ?_)
      · intro v7 h
        replace h : internal_bytealg_hashStr_j3 z v5 v6 v7 = _ := h
        unfold internal_bytealg_hashStr_j3 at h
        refine .rg (u (mv (.t rfl)) <| u (mv (.t rfl)) <| u (bi (.t rfl) (.t rfl) rfl) <| u (asg (.t rfl)) <| .nil _) rfl ?_
        refine .ib ?_
        refine .rg (u (mv (.t rfl)) <| u (sh (.t rfl) (.i rfl) rfl (by decide)) <| u (asg (.t rfl)) <| .nil _) rfl ?_
        exact .kq (.il (ih2 (v7, (ar .mul .u32 v5 v5), (sf .shr .i64 v6 1)) (nxi h))) (.c rfl (.c rfl (.c rfl (.c rfl .n)))) .n
      refine .bq h (.t rfl) (fun h => ?_) (fun h => ?_)
      · refine .rg (u (mv (.t rfl)) <| u (mv (.t rfl)) <| u (bi (.t rfl) (.t rfl) rfl) <| u (asg (.t rfl)) <| .nil _) rfl ?_
        exact .kq (J3 (ar .mul .u32 v4 v5) h) (.c rfl (.c rfl (.c rfl (.c rfl .n)))) .n
      · refine .skp ?_
        exact .kq (J3 v4 h) (.c rfl (.c rfl (.c rfl (.c rfl .n)))) .n
    · refine .xt rfl ?_
      replace h := mpR h hx2
      refine .sq ?_
      refine .rg (u (mv (.t rfl)) <| u (mv (.t rfl)) <| u (asg (.t rfl)) <| u (asg (.t rfl)) <| .nil _) rfl ?_
      obtain rfl := Option.some.inj h
      exact .rt Tryz.func101 (.t rfl <| .t rfl <| .n) .n rfl rfl

theorem internal_bytealg_IndexRabinKarp_c {z : Option Nat} {p_s : List Int} {sep : List Int} {r : Int} (h : internal_bytealg_IndexRabinKarp z p_s sep = some r) :
    AC Tryz.prog 98 [.ro (.list 1 (List.map e8 p_s)), .ro (.list 1 (List.map e8 sep))] (.ro (.int .i64 r)) [] := by
  refine AC.of Tryz.func98 rfl rfl fun w M0 hM => ?_
  unfold internal_bytealg_IndexRabinKarp at h
  refine .sq ?_
  refine .rg (u (asg (.i rfl)) <| .nil _) rfl ?_
  refine .sq ?_
  refine be h fun x1 hx1 h => ?_
  refine .rg (u (mv (.t rfl)) <| cl [] cf101 (internal_bytealg_hashStr_c hx1) (.c (.t rfl) <| .n) (.inl rfl) <| u (mv (.t rfl)) <| u (ex (.t rfl) rfl rfl) <| u (ex (.t rfl) rfl rfl) <| u (asg (.t rfl)) <| u (asg (.t rfl)) <| .nil _) rfl ?_
  refine .sq ?_
  refine .rg (u (mv (.t rfl)) <| u (lnm sf34 (.t rfl)) <| u (asg (.t rfl)) <| .nil _) rfl ?_
  refine .sq ?_
  refine .rg (u (asg (.i rfl)) <| .nil _) rfl ?_
  refine .sq ?_
  refine .sq ?_
  refine .rg (u (asg (.i rfl)) <| .nil _) rfl ?_
  refine .bl ?_
  unfold internal_bytealg_IndexRabinKarp_l1 at h
  refine .kq (.lo (fun (s : Int × Int) => ⟨[(0, .ro (.list 1 (List.map e8 p_s))), (1, .ro (.list 1 (List.map e8 sep))), (5, .ro (.int .u32 x1.1)), (6, .ro (.int .u32 x1.2)), (7, .ro (.int .i64 (sep.length : Int))), (8, .ro (.int .u32 s.1)), (9, .ro (.int .i64 s.2))], []⟩) h ?_) (.c rfl (.c rfl (.c rfl (.c rfl (.c rfl (.c rfl (.c rfl .n))))))) .n
  rintro ⟨v2, v3⟩ u1 h ih1 hx1
  replace h : internal_bytealg_IndexRabinKarp_s1 z p_s sep x1 v2 v3 = _ := h
  unfold internal_bytealg_IndexRabinKarp_s1 at h
  refine .sq ?_
  refine .sq ?_
  refine .rg (u (mv (.t rfl)) <| u (mv (.t rfl)) <| u (bc (.t rfl) (.t rfl) rfl rfl) <| .nil _) rfl ?_
  refine .bq h (.t rfl) (fun h => ?_) (fun h => ?_)
  · refine .skp ?_
    refine .sq ?_
    refine .bl ?_
    refine be h fun x4 hx4 h => ?_
    refine .rg (u (mv (.t rfl)) <| u (bi (.t rfl) (.i rfl) rfl) <| u (mv (.t rfl)) <| u (mv (.t rfl)) <| u (ia sf34 (.t rfl) (.t rfl) (ix_map e8 hx4)) <| u (lr tf5 (.t rfl) rfl) <| u (cv cv5_22 (.t rfl)) <| u (bi (.t rfl) (.t rfl) rfl) <| u (asg (.t rfl)) <| .nil _) rfl ?_
    refine .ib ?_
    refine .rg (u (mv (.t rfl)) <| u (bi (.t rfl) (.i rfl) rfl) <| u (asg (.t rfl)) <| .nil _) rfl ?_
    exact .kq (.il (ih1 ((ar .add .u32 (ar .mul .u32 v2 16777619) (IntKind.u32.wrap x4)), (ar .add .i64 v3 1)) (nxi h))) (.c rfl (.c rfl (.c rfl (.c rfl (.c rfl (.c rfl (.c rfl .n))))))) .n
  · refine .xt rfl ?_
    replace h := mpR h hx1
    refine .sq ?_
    refine .sq ?_
    refine be h fun x5 hx5 h => ?_
    refine .rd mixed (u (mv (.t rfl)) <| u (mv (.t rfl)) <| u (bc (.t rfl) (.t rfl) rfl rfl) <| u (mv (.t rfl)) <| gd rfl rfl (fun hB => mv (.t rfl)) <| gd rfl rfl (fun hB => mv (.t rfl)) <| gd rfl rfl (fun hB => sl sf34 (.m rfl hB) .n (.s (.m rfl hB)) (gTt hx5 hB)) <| gd rfl rfl (fun hB => bt bt34_9 (.m rfl hB)) <| gd rfl rfl (fun hB => mv (.t rfl)) <| gd rfl rfl (fun hB => bt bt34_9 (.m rfl hB)) <| gd rfl rfl (fun hB => sq (.m rfl hB) (.m rfl hB) rfl rfl) <| u (pka (.t rfl) (.t rfl)) <| .nil _) (by kernel_rfl) rfl ?_
    refine .bq h (.t rfl) (fun h => ?_) (fun h => ?_)
    · refine .sq ?_
      refine .rg (u (asg (.i rfl)) <| .nil _) rfl ?_
      obtain rfl := Option.some.inj h
      exact .rt Tryz.func98 (.t rfl <| .n) .n rfl rfl
    · refine .skp ?_
      refine .sq ?_
      refine .sq ?_
      refine .rg (u (mv (.t rfl)) <| u (asg (.t rfl)) <| .nil _) rfl ?_
      refine .bl ?_
      unfold internal_bytealg_IndexRabinKarp_l2 at h
      refine .kq (.lo (fun (s : Int × Int) => ⟨[(0, .ro (.list 1 (List.map e8 p_s))), (1, .ro (.list 1 (List.map e8 sep))), (5, .ro (.int .u32 x1.1)), (6, .ro (.int .u32 x1.2)), (7, .ro (.int .i64 (sep.length : Int))), (8, .ro (.int .u32 s.1)), (10, .ro (.int .i64 s.2))], []⟩) h ?_) (.c rfl (.c rfl (.c rfl (.c rfl (.c rfl (.c rfl (.c rfl .n))))))) .n
      rintro ⟨v6, v7⟩ u2 h ih2 hx2
      replace h : internal_bytealg_IndexRabinKarp_s2 z p_s sep x1 v6 v7 = _ := h
      unfold internal_bytealg_IndexRabinKarp_s2 at h
      refine .sq ?_
      refine .sq ?_
      refine .rg (u (mv (.t rfl)) <| u (mv (.t rfl)) <| u (lnm sf34 (.t rfl)) <| u (bc (.t rfl) (.t rfl) rfl rfl) <| .nil _) rfl ?_
      refine .bq h (.t rfl) (fun h => ?_) (fun h => ?_)
      · refine .skp ?_
        refine .bl ?_
        refine .sq ?_
        refine .rg (u (mv (.t rfl)) <| u (bi (.t rfl) (.i rfl) rfl) <| u (asg (.t rfl)) <| .nil _) rfl ?_
        refine .sq ?_
        refine be h fun x8 hx8 h => ?_
        refine .rg (u (mv (.t rfl)) <| u (mv (.t rfl)) <| u (mv (.t rfl)) <| u (ia sf34 (.t rfl) (.t rfl) (ix_map e8 hx8)) <| u (lr tf5 (.t rfl) rfl) <| u (cv cv5_22 (.t rfl)) <| u (bi (.t rfl) (.t rfl) rfl) <| u (asg (.t rfl)) <| .nil _) rfl ?_
        refine .sq ?_
        refine be h fun x9 hx9 h => ?_
        refine .rg (u (mv (.t rfl)) <| u (mv (.t rfl)) <| u (mv (.t rfl)) <| u (mv (.t rfl)) <| u (mv (.t rfl)) <| u (bi (.t rfl) (.t rfl) rfl) <| u (ia sf34 (.t rfl) (.t rfl) (ix_map e8 hx9)) <| u (lr tf5 (.t rfl) rfl) <| u (cv cv5_22 (.t rfl)) <| u (bi (.t rfl) (.t rfl) rfl) <| u (bi (.t rfl) (.t rfl) rfl) <| u (asg (.t rfl)) <| .nil _) rfl ?_
        refine .sq ?_
        refine .rg (u (mv (.t rfl)) <| u (bi (.t rfl) (.i rfl) rfl) <| u (asg (.t rfl)) <| .nil _) rfl ?_
        refine .sq ?_
        refine be h fun x10 hx10 h => ?_
        refine .rd mixed (u (mv (.t rfl)) <| u (mv (.t rfl)) <| u (bc (.t rfl) (.t rfl) rfl rfl) <| u (mv (.t rfl)) <| gd rfl rfl (fun hB => mv (.t rfl)) <| gd rfl rfl (fun hB => mv (.t rfl)) <| gd rfl rfl (fun hB => mv (.t rfl)) <| gd rfl rfl (fun hB => bi (.m rfl hB) (.m rfl hB) rfl) <| gd rfl rfl (fun hB => mv (.t rfl)) <| gd rfl rfl (fun hB => sl sf34 (.m rfl hB) (.s (.m rfl hB)) (.s (.m rfl hB)) (gTt hx10 hB)) <| gd rfl rfl (fun hB => bt bt34_9 (.m rfl hB)) <| gd rfl rfl (fun hB => mv (.t rfl)) <| gd rfl rfl (fun hB => bt bt34_9 (.m rfl hB)) <| gd rfl rfl (fun hB => sq (.m rfl hB) (.m rfl hB) rfl rfl) <| u (pka (.t rfl) (.t rfl)) <| .nil _) (by kernel_rfl) rfl ?_
        refine .bq h (.t rfl) (fun h => ?_) (fun h => ?_)
        · refine .sq ?_
          refine .rg (u (mv (.t rfl)) <| u (mv (.t rfl)) <| u (bi (.t rfl) (.t rfl) rfl) <| u (asg (.t rfl)) <| .nil _) rfl ?_
          replace h := mpR h hx2
          obtain rfl := Option.some.inj h
          exact .rt Tryz.func98 (.t rfl <| .n) .n rfl rfl
        · refine .skp ?_
          refine .ib ?_
          exact .kq (.il (ih2 ((ar .sub .u32 (ar .add .u32 (ar .mul .u32 v6 16777619) (IntKind.u32.wrap x8)) (ar .mul .u32 x1.2 (IntKind.u32.wrap x9))), (ar .add .i64 v7 1)) (nxi h))) (.c rfl (.c rfl (.c rfl (.c rfl (.c rfl (.c rfl (.c rfl .n))))))) .n
      · refine .xt rfl ?_
        replace h := mpR h hx2
        refine .sq ?_
        refine .rg (u (asg (.i rfl)) <| .nil _) rfl ?_
        obtain rfl := Option.some.inj h
        exact .rt Tryz.func98 (.t rfl <| .n) .n rfl rfl

theorem bytes_Count_c {z : Option Nat} {p_s : List Int} {sep : List Int} {r : Int} (h : bytes_Count z p_s sep = some r) :
    AC Tryz.prog 77 [.ro (.list 1 (List.map e8 p_s)), .ro (.list 1 (List.map e8 sep))] (.ro (.int .i64 r)) [] := by
  refine AC.of Tryz.func77 rfl rfl fun w M0 hM => ?_
  unfold bytes_Count at h
  refine .sq ?_
  refine .rg (u (asg (.i rfl)) <| .nil _) rfl ?_
  refine .sq ?_
  refine .sq ?_
  refine .rg (u (mv (.t rfl)) <| u (lnm sf34 (.t rfl)) <| u (bc (.t rfl) (.i rfl) rfl rfl) <| .nil _) rfl ?_
  refine .bq h (.t rfl) (fun h => ?_) (fun h => ?_)
  · refine .sq ?_
    cases h
  · refine .skp ?_
    refine .sq ?_
    refine .sq ?_
    refine .rg (u (mv (.t rfl)) <| u (lnm sf34 (.t rfl)) <| u (bc (.t rfl) (.i rfl) rfl rfl) <| .nil _) rfl ?_
    refine .bq h (.t rfl) (fun h => ?_) (fun h => ?_)
    · refine .sq ?_
      refine be h fun x1 hx1 h => ?_
      refine .rg (u (mv (.t rfl)) <| u (mv (.t rfl)) <| u (ia sf34 (.t rfl) (.i rfl) (ix_map e8 hx1)) <| u (lr tf5 (.t rfl) rfl) <| u (ctb xf87 (.t rfl) (.t rfl)) <| u (asg (.t rfl)) <| .nil _) rfl ?_
      obtain rfl := Option.some.inj h
      exact .rt Tryz.func77 (.t rfl <| .n) .n rfl rfl
    · refine .skp ?_
      refine .sq ?_
      refine .rg (u (asg (.i rfl)) <| .nil _) rfl ?_
      refine .bl ?_
      unfold bytes_Count_l1 at h
      refine .kq (.lo (fun (s : List Int × Int) => ⟨[(0, .ro (.list 1 (List.map e8 s.1))), (1, .ro (.list 1 (List.map e8 sep))), (5, .ro (.int .i64 s.2))], []⟩) h ?_) (.c rfl (.c rfl (.c rfl .n))) .n
      rintro ⟨v2, v3⟩ u1 h ih1 hx1
      replace h : bytes_Count_s1 z v2 v3 = _ := h
      unfold bytes_Count_s1 at h
      refine .bl ?_
      refine .sq ?_
      cases h

theorem pad_Zero_c {z : Option Nat} {b : List Int} {r : Bool} (h : pad_Zero z b = some r) :
    AC Tryz.prog 62 [.ro (.list 1 (List.map e8 b))] (.ro (.bool r)) [] := by
  refine AC.of Tryz.func62 rfl rfl fun w M0 hM => ?_
  unfold pad_Zero at h
  refine .sq ?_
  refine .rg (u (asg .b) <| .nil _) rfl ?_
  refine .sq ?_
  refine be h fun x1 hx1 h => ?_
  refine .rg (u (mv (.t rfl)) <| bs (F := e8) (l := [0]) 4 pf34 (.c (.i rfl) rfl <| .n) rfl (fun _ _ => rfl) rfl rfl <| cl [] cf77 (bytes_Count_c hx1) (.c (.t rfl) <| .b (.t rfl) rfl <| .n) (.inr rfl) <| u (mv (.t rfl)) <| u (lnm sf34 (.t rfl)) <| u (bc (.t rfl) (.t rfl) rfl rfl) <| u (asg (.t rfl)) <| .nil _) rfl ?_
  obtain rfl := Option.some.inj h
  exact .rt Tryz.func62 (.t rfl <| .n) .n rfl rfl

theorem arrive_Canon_c {z : Option Nat} {body : List Int} {r : Bool} (h : arrive_Canon z body = some r) :
    AC Tryz.prog 39 [.ro (.list 1 (List.map e8 body))] (.ro (.bool r)) [] := by
  refine AC.of Tryz.func39 rfl rfl fun w M0 hM => ?_
  unfold arrive_Canon at h
  refine .sq ?_
  refine .rg (u (asg .b) <| .nil _) rfl ?_
  refine .sq ?_
  refine be h fun x1 hx1 h => ?_
  refine .rg (u (mv (.t rfl)) <| cl [] cf60 (arrive_read_c hx1) (.c (.t rfl) <| .n) (.inl rfl) <| u (mv (.t rfl)) <| u (ex (.t rfl) rfl rfl) <| u (ex (.t rfl) rfl rfl) <| u (ex (.t rfl) rfl rfl) <| u (ex (.t rfl) rfl rfl) <| al 3 zf27 rfl <| st tf27 (.t rfl) rfl (.t rfl) rfl rfl rfl <| u (asg (.t rfl)) <| u (asg (.t rfl)) <| u (asg (.t rfl)) <| .nil _) rfl ?_
  refine .sq ?_
  refine be h fun x2 hx2 h => ?_
  refine be h fun x3 hx3 h => ?_
  refine .rg (u (mv (.t rfl)) <| u (bc (.t rfl) (.i rfl) rfl rfl) <| u (mv (.t rfl)) <| gd rfl rfl (fun hB => mv (.t rfl)) <| gd rfl rfl (fun hB => fa ff27_3 (.t rfl)) <| gd rfl rfl (fun hB => ld tf25 (.m rfl hB) rfl rfl) <| gd rfl rfl (fun hB => lnm sf25 (.m rfl hB)) <| cg rfl rfl cf61 (fun hB => (chunk_Canon_c (gTt hx2 hB))) (fun hB => .c (.m rfl hB) <| .c (.m rfl hB) <| .n) (.inl rfl) <| u (pka (.t rfl) (.t rfl)) <| u (mv (.t rfl)) <| gd rfl rfl (fun hB => mv (.t rfl)) <| cg rfl rfl cf62 (fun hB => (pad_Zero_c (gTt hx3 hB))) (fun hB => .c (.m rfl hB) <| .n) (.inl rfl) <| u (pka (.t rfl) (.t rfl)) <| u (asg (.t rfl)) <| .nil _) rfl ?_
  obtain rfl := Option.some.inj h
  exact .rt Tryz.func39 (.t rfl <| .n) .n rfl rfl

theorem fresh_Canon_c {z : Option Nat} {body : List Int} {r : Bool} (h : fresh_Canon z body = some r) :
    AC Tryz.prog 40 [.ro (.list 1 (List.map e8 body))] (.ro (.bool r)) [] := by
  refine AC.of Tryz.func40 rfl rfl fun w M0 hM => ?_
  unfold fresh_Canon at h
  refine .sq ?_
  refine .rg (al 2 zf4 rfl <| .nil _) rfl ?_
  refine .sq ?_
  refine be h fun x1 hx1 h => ?_
  refine .rg (u (mv (.t rfl)) <| cnf 9000 cf53 (fresh_Read_c hx1) (.c (.t rfl) <| .n) rfl rfl rfl <| u (mv (.t rfl)) <| u (ex (.t rfl) rfl rfl) <| u (ex (.t rfl) rfl rfl) <| al 4 zf37 rfl <| u (asg (.t rfl)) <| st tf37 (.t rfl) rfl (.t rfl) rfl rfl rfl <| .nil _) rfl ?_
  refine .sq ?_
  refine .sq ?_
  refine .rg (u (mv (.t rfl)) <| cnf 0 cf63 (slices_Chunk_byte63_c (l := body) (n := 8) rfl) (.c (.t rfl) <| .c (.i rfl) <| .n) rfl rfl rfl <| .nil _) rfl ?_
  refine .bl ?_
  refine be h fun x2 hx2 h => ?_
  unfold fresh_Canon_l1 at h
  refine .kq (.rgc (n := 8) (F := e8) (fun (s : Bool) => ⟨[(2, .ptr 2 0), (4, .ptr 4 0), (12, .fn (.func 78) [] [.rptr [.list 1 (List.map e8 body)], .rptr [.int .i64 8]])], [(2, some (.box [.ro (.bool s)])), (4, some (.box [.ro (.int .i64 x1.2)]))]⟩) [2, 4, 12] chunk78_in cf78 h (lnO_le hx2) rfl (fun _ => rfl) (fun _ => rfl) rfl ⟨rfl, rfl⟩ ?_ ?_) (.c rfl (.c rfl (.c rfl .n))) (.c rfl (.c rfl .n))
  · rintro D1 l1 r1 pv1 R1 y1 v3 u1 h ih1 hx1 jr1 jx1 bg1
    replace h : fresh_Canon_s1 z x1 y1 v3 = _ := h
    unfold fresh_Canon_s1 at h
    refine .rg (u (asg (.t rfl)) <| .nil _) rfl ?_
    refine bg1 _ _ ?_
    refine .bl ?_
    refine .sq ?_
    refine be h fun x4 hx4 h => ?_
    refine be h fun x5 hx5 h => ?_
    refine .rg (u (ld tf37 (.t rfl) rfl rfl) <| u (bc (.t rfl) (.i rfl) rfl rfl) <| u (mv (.t rfl)) <| gd rfl rfl (fun hB => mv (.t rfl)) <| gd rfl rfl (fun hB => sl sf34 (.m rfl hB) (.s (.i rfl)) .n (gTt hx4 hB)) <| cg rfl rfl cf62 (fun hB => (pad_Zero_c (gTt hx5 hB))) (fun hB => .c (.m rfl hB) <| .n) (.inl rfl) <| gd rfl rfl (fun hB => no (.m rfl hB)) <| u (pka (.t rfl) (.t rfl)) <| .nil _) rfl ?_
    refine .bq h (.t rfl) (fun h => ?_) (fun h => ?_)
    · refine .sq ?_
      refine .rg (st tf4 (.t rfl) rfl .b rfl rfl rfl <| .nil _) rfl ?_
      replace h := mpR h hx1
      refine .kq (jr1 ⟨[(2, .ptr 2 0)], [(2, some (.box [.ro (.bool false)]))]⟩ _ rfl ?_) (.c rfl .n) (.c rfl .n)
      obtain rfl := Option.some.inj h
      exact .rt Tryz.func40 (.c tf4 rfl rfl rfl <| .n) .n rfl rfl
    · refine .skp ?_
      refine .ib ?_
      exact .kq (ih1 v3 (nxi h)) (.c rfl (.c rfl (.c rfl .n))) (.c rfl (.c rfl .n))
  · rintro D1 v3 h
    replace h : fresh_Canon_d1 z x1 v3 = _ := h
    unfold fresh_Canon_d1 at h
    refine .ib ?_
    refine .sq ?_
    refine .rg (u (ld tf37 (.t rfl) rfl rfl) <| u (bc (.t rfl) (.i rfl) rfl rfl) <| st tf4 (.t rfl) rfl (.t rfl) rfl rfl rfl <| .nil _) rfl ?_
    obtain rfl := Option.some.inj h
    exact .rt Tryz.func40 (.c tf4 rfl rfl rfl <| .n) .n rfl rfl

theorem remb_Canon_c {z : Option Nat} {body : List Int} {r : Bool} (h : remb_Canon z body = some r) :
    AC Tryz.prog 41 [.ro (.list 1 (List.map e8 body))] (.ro (.bool r)) [] := by
  refine AC.of Tryz.func41 rfl rfl fun w M0 hM => ?_
  unfold remb_Canon at h
  refine .sq ?_
  refine .rg (u (asg .b) <| .nil _) rfl ?_
  refine .sq ?_
  refine be h fun x1 hx1 h => ?_
  refine .rg (u (mv (.t rfl)) <| cl [] cf54 (remb_Read_c hx1) (.c (.t rfl) <| .n) (.inl rfl) <| u (mv (.t rfl)) <| u (ex (.t rfl) rfl rfl) <| u (ex (.t rfl) rfl rfl) <| al 3 zf31 rfl <| st tf31 (.t rfl) rfl (.t rfl) rfl rfl rfl <| u (asg (.t rfl)) <| .nil _) rfl ?_
  refine .sq ?_
  refine .sq ?_
  refine .rg (u (mv (.t rfl)) <| u (bc (.t rfl) (.i rfl) rfl rfl) <| .nil _) rfl ?_
  refine .bq h (.t rfl) (fun h => ?_) (fun h => ?_)
  · refine .sq ?_
    refine .rg (u (asg .b) <| .nil _) rfl ?_
    obtain rfl := Option.some.inj h
    exact .rt Tryz.func41 (.t rfl <| .n) .n rfl rfl
  · refine .skp ?_
    refine .sq ?_
    refine be h fun x2 hx2 h => ?_
    refine .rg (u (mv (.t rfl)) <| cl [] cf64 (remb_told_c hx2) (.c (.t rfl) <| .n) (.inl rfl) <| u (mv (.t rfl)) <| u (ex (.t rfl) rfl rfl) <| u (ex (.t rfl) rfl rfl) <| u (asg (.t rfl)) <| u (asg (.t rfl)) <| .nil _) rfl ?_
    refine .sq ?_
    refine .rg (u (mv (.t rfl)) <| u (fa ff31_0 (.t rfl)) <| u (ld tf3 (.t rfl) rfl rfl) <| u (bc (.t rfl) (.t rfl) rfl rfl) <| u (mv (.t rfl)) <| gd rfl rfl (fun hB => mv (.t rfl)) <| gd rfl rfl (fun hB => fa ff31_1 (.t rfl)) <| gd rfl rfl (fun hB => ld tf22 (.m rfl hB) rfl rfl) <| gd rfl rfl (fun hB => bc (.m rfl hB) (.m rfl hB) rfl rfl) <| u (pka (.t rfl) (.t rfl)) <| u (asg (.t rfl)) <| .nil _) rfl ?_
    obtain rfl := Option.some.inj h
    exact .rt Tryz.func41 (.t rfl <| .n) .n rfl rfl

theorem feed_Canon_c {z : Option Nat} {kind : Int} {body : List Int} {r : Bool} (h : feed_Canon z kind body = some r) :
    AC Tryz.prog 18 [.ro (.int .i64 kind), .ro (.list 1 (List.map e8 body))] (.ro (.bool r)) [] := by
  refine AC.of Tryz.func18 rfl rfl fun w M0 hM => ?_
  unfold feed_Canon at h
  refine .sq ?_
  refine .rg (u (asg .b) <| .nil _) rfl ?_
  refine .sq ?_
  refine be h fun x1 hx1 h => ?_
  refine .rg (u (mv (.t rfl)) <| u (mv (.t rfl)) <| cl [] cf14 (feed_Read_c hx1) (.c (.t rfl) <| .c (.t rfl) <| .n) (.inl rfl) <| u (mv (.t rfl)) <| u (ex (.t rfl) rfl rfl) <| u (ex (.t rfl) rfl rfl) <| al 5 zf33 rfl <| st tf33 (.t rfl) rfl (.t rfl) rfl rfl rfl <| u (asg (.t rfl)) <| .nil _) rfl ?_
  refine .sq ?_
  refine .sq ?_
  refine .rg (u (mv (.t rfl)) <| u (bc (.t rfl) (.i rfl) rfl rfl) <| .nil _) rfl ?_
  refine .bq h (.t rfl) (fun h => ?_) (fun h => ?_)
  · refine .sq ?_
    refine .rg (u (asg .b) <| .nil _) rfl ?_
    obtain rfl := Option.some.inj h
    exact .rt Tryz.func18 (.t rfl <| .n) .n rfl rfl
  · refine .skp ?_
    refine .sq ?_
    refine .sq ?_
    refine be h fun x2 hx2 h => ?_
    refine .rg (u (mv (.t rfl)) <| u (sl sf34 (.t rfl) (.s (.i rfl)) .n hx2) <| u (asg (.t rfl)) <| .nil _) rfl ?_
    refine .sq ?_
    refine .rg (u (mv (.t rfl)) <| .nil _) rfl ?_
    refine .bl ?_
    refine .sq ?_
    refine .rg (u (bc (.t rfl) (.i rfl) rfl rfl) <| u (asg (.t rfl)) <| .nil _) rfl ?_
    refine .bq h (.t rfl) (fun h => ?_) (fun h => ?_)
    · refine .sq ?_
      refine be h fun x3 hx3 h => ?_
      refine .rg (u (mv (.t rfl)) <| cl [] cf39 (arrive_Canon_c hx3) (.c (.t rfl) <| .n) (.inl rfl) <| u (asg (.t rfl)) <| .nil _) rfl ?_
      obtain rfl := Option.some.inj h
      exact .rt Tryz.func18 (.t rfl <| .n) .n rfl rfl
    · refine .sq ?_
      refine .rg (u (bc (.t rfl) (.i rfl) rfl rfl) <| u (asg (.t rfl)) <| .nil _) rfl ?_
      refine .bq h (.t rfl) (fun h => ?_) (fun h => ?_)
      · refine .sq ?_
        refine be h fun x4 hx4 h => ?_
        refine .rg (u (mv (.t rfl)) <| cl [] cf40 (fresh_Canon_c hx4) (.c (.t rfl) <| .n) (.inl rfl) <| u (asg (.t rfl)) <| .nil _) rfl ?_
        obtain rfl := Option.some.inj h
        exact .rt Tryz.func18 (.t rfl <| .n) .n rfl rfl
      · refine .sq ?_
        refine .rg (u (bc (.t rfl) (.i rfl) rfl rfl) <| u (asg (.t rfl)) <| .nil _) rfl ?_
        refine .bq h (.t rfl) (fun h => ?_) (fun h => ?_)
        · refine .sq ?_
          refine be h fun x5 hx5 h => ?_
          refine .rg (u (mv (.t rfl)) <| cl [] cf41 (remb_Canon_c hx5) (.c (.t rfl) <| .n) (.inl rfl) <| u (asg (.t rfl)) <| .nil _) rfl ?_
          obtain rfl := Option.some.inj h
          exact .rt Tryz.func18 (.t rfl <| .n) .n rfl rfl
        · refine .skp ?_
          refine .ib ?_
          refine .sq ?_
          refine .rg (u (asg .b) <| .nil _) rfl ?_
          obtain rfl := Option.some.inj h
          exact .rt Tryz.func18 (.t rfl <| .n) .n rfl rfl

theorem feed_Right_c {z : Option Nat} {f : Feed} {r : Bool} (h : feed_Right z f = some r) :
    AC Tryz.prog 16 [.ro (enc_Feed f)] (.ro (.bool r)) [] := by
  refine AC.of Tryz.func16 rfl rfl fun w M0 hM => ?_
  unfold feed_Right at h
  refine .sq ?_
  refine .rg (bx 1 (.t rfl) rfl rfl <| u (asg .b) <| .nil _) rfl ?_
  refine .sq ?_
  refine be h fun x1 hx1 h => ?_
  refine .rg (u (ld tf33 (.t rfl) rfl rfl) <| cnf 8000 cf24 (feed_written_c hx1) (.c (.t rfl) <| .n) rfl rfl rfl <| u (mv (.t rfl)) <| u (ex (.t rfl) rfl rfl) <| u (ex (.t rfl) rfl rfl) <| u (asg (.t rfl)) <| u (asg (.t rfl)) <| .nil _) rfl ?_
  refine .sq ?_
  refine .rg (u (mv (.t rfl)) <| u (asg (.t rfl)) <| .nil _) rfl ?_
  obtain rfl := Option.some.inj h
  exact .rt Tryz.func16 (.t rfl <| .n) .n rfl rfl

theorem law20_awake_c {z : Option Nat}  {r : Bool} (h : law20_awake z = some r) :
    AC Tryz.prog 5 [] (.ro (.bool r)) [] := by
  refine AC.of Tryz.func5 rfl rfl fun w M0 hM => ?_
  unfold law20_awake at h
  refine .sq ?_
  refine .rg (u (asg .b) <| .nil _) rfl ?_
  refine .sq ?_
  refine be h fun x1 hx1 h => ?_
  refine .rg (u (bd bf55 zf55 (.c rfl (.i rfl) rfl rfl rfl <| .c rfl (.i rfl) rfl rfl rfl <| .n) rfl) <| nu (bsn (F := cells_Pair) (l := [(Pair.mk 3 4)]) pf23 (.c (.t rfl) rfl <| .n) rfl (fun _ _ => rfl) rfl) <| u (bd bf33 zf33 (.c rfl (.i rfl) rfl rfl rfl <| .c rfl (.i rfl) rfl rfl rfl <| .c rfl (.i rfl) rfl rfl rfl <| .c rfl (.t rfl) rfl rfl rfl <| .n) rfl) <| cnf 17000 cf12 (feed_Write_c hx1) (.c (.t rfl) <| .n) rfl rfl rfl <| u (mv (.t rfl)) <| u (ex (.t rfl) rfl rfl) <| u (ex (.t rfl) rfl rfl) <| u (asg (.t rfl)) <| u (asg (.t rfl)) <| .nil _) rfl ?_
  refine .sq ?_
  refine .fz 17000 rfl ?_
  refine be h fun x2 hx2 h => ?_
  refine .rg (u (mv (.t rfl)) <| cl [] cf14 (feed_Read_c hx2) (.c (.i rfl) <| .c (.t rfl) <| .n) (.inl rfl) <| u (mv (.t rfl)) <| u (ex (.t rfl) rfl rfl) <| u (ex (.t rfl) rfl rfl) <| al 3 zf33 rfl <| st tf33 (.t rfl) rfl (.t rfl) rfl rfl rfl <| u (asg (.t rfl)) <| .nil _) rfl ?_
  refine .sq ?_
  refine be h fun x3 hx3 h => ?_
  refine .rg (u (mv (.t rfl)) <| cl [] cf14 (feed_Read_c hx3) (.c (.i rfl) <| .c (.t rfl) <| .n) (.inl rfl) <| u (mv (.t rfl)) <| u (ex (.t rfl) rfl rfl) <| u (ex (.t rfl) rfl rfl) <| al 5 zf33 rfl <| st tf33 (.t rfl) rfl (.t rfl) rfl rfl rfl <| u (asg (.t rfl)) <| .nil _) rfl ?_
  refine .sq ?_
  refine .rg (cl [] cf7 (feed_Code_c 4) (.c (.i rfl) <| .n) (.inl rfl) <| u (mv (.t rfl)) <| u (ex (.t rfl) rfl rfl) <| u (ex (.t rfl) rfl rfl) <| u (ex (.t rfl) rfl rfl) <| u (asg (.t rfl)) <| u (asg (.t rfl)) <| u (asg (.t rfl)) <| .nil _) rfl ?_
  refine .sq ?_
  refine be h fun x4 hx4 h => ?_
  refine .rg (u (bd bf33 zf33 (.c rfl (.i rfl) rfl rfl rfl <| .c rfl (.i rfl) rfl rfl rfl <| .c rfl (.i rfl) rfl rfl rfl <| .n) rfl) <| cnf 37000 cf12 (feed_Write_c hx4) (.c (.t rfl) <| .n) rfl rfl rfl <| u (mv (.t rfl)) <| u (ex (.t rfl) rfl rfl) <| u (ex (.t rfl) rfl rfl) <| u (asg (.t rfl)) <| u (asg (.t rfl)) <| .nil _) rfl ?_
  refine .sq ?_
  refine be h fun x5 hx5 h => ?_
  refine be h fun x6 hx6 h => ?_
  refine be h fun x7 hx7 h => ?_
  refine be h fun x8 hx8 h => ?_
  refine be h fun x9 hx9 h => ?_
  refine be h fun x10 hx10 h => ?_
  refine .rd mixed (u (mv (.t rfl)) <| u (bc (.t rfl) (.i rfl) rfl rfl) <| u (mv (.t rfl)) <| gd rfl rfl (fun hB => mv (.t rfl)) <| gd rfl rfl (fun hB => bc (.m rfl hB) (.i rfl) rfl rfl) <| u (pka (.t rfl) (.t rfl)) <| u (mv (.t rfl)) <| gd rfl rfl (fun hB => mv (.t rfl)) <| gd rfl rfl (fun hB => bc (.m rfl hB) (.i rfl) rfl rfl) <| u (pka (.t rfl) (.t rfl)) <| u (mv (.t rfl)) <| gd rfl rfl (fun hB => mv (.t rfl)) <| gd rfl rfl (fun hB => bc (.m rfl hB) (.i rfl) rfl rfl) <| u (pka (.t rfl) (.t rfl)) <| u (mv (.t rfl)) <| gd rfl rfl (fun hB => mv (.t rfl)) <| gd rfl rfl (fun hB => bc (.m rfl hB) (.i rfl) rfl rfl) <| u (pka (.t rfl) (.t rfl)) <| u (mv (.t rfl)) <| gd rfl rfl (fun hB => mv (.t rfl)) <| gd rfl rfl (fun hB => bc (.m rfl hB) (.i rfl) rfl rfl) <| u (pka (.t rfl) (.t rfl)) <| u (mv (.t rfl)) <| gd rfl rfl (fun hB => mv (.t rfl)) <| gd rfl rfl (fun hB => bc (.m rfl hB) (.i rfl) rfl rfl) <| u (pka (.t rfl) (.t rfl)) <| u (mv (.t rfl)) <| cg rfl rfl cf9 (fun hB => (feed_Kind_c (gTt hx5 hB))) (fun hB => .c (.i rfl) <| .c (.i rfl) <| .n) (.inl rfl) <| gd rfl rfl (fun hB => bc (.m rfl hB) (.i rfl) rfl rfl) <| u (pka (.t rfl) (.t rfl)) <| u (mv (.t rfl)) <| cg rfl rfl cf9 (fun hB => (feed_Kind_c (gTt hx6 hB))) (fun hB => .c (.i rfl) <| .c (.i rfl) <| .n) (.inl rfl) <| gd rfl rfl (fun hB => bc (.m rfl hB) (.i rfl) rfl rfl) <| u (pka (.t rfl) (.t rfl)) <| u (mv (.t rfl)) <| gd rfl rfl (fun hB => mv (.t rfl)) <| gd rfl rfl (fun hB => bt bt34_9 (.m rfl hB)) <| gd rfl rfl (fun hB => sq (.m rfl hB) (.s rfl) rfl rfl) <| u (pka (.t rfl) (.t rfl)) <| u (mv (.t rfl)) <| gd rfl rfl (fun hB => mv (.t rfl)) <| gd rfl rfl (fun hB => bto bt34_9 (.m rfl hB) rfl) <| gd rfl rfl (fun hB => mv (.t rfl)) <| gd rfl rfl (fun hB => sl sf34 (.m rfl hB) .n (.s (.i rfl)) (gTt hx7 hB)) <| gd rfl rfl (fun hB => bt bt34_9 (.m rfl hB)) <| gd rfl rfl (fun hB => sq (.m rfl hB) (.m rfl hB) rfl rfl) <| u (pka (.t rfl) (.t rfl)) <| u (mv (.t rfl)) <| gd rfl rfl (fun hB => fa ff33_2 (.t rfl)) <| gd rfl rfl (fun hB => ld tf22 (.m rfl hB) rfl rfl) <| gd rfl rfl (fun hB => bc (.m rfl hB) (.i rfl) rfl rfl) <| u (pka (.t rfl) (.t rfl)) <| u (mv (.t rfl)) <| gd rfl rfl (fun hB => fa ff33_3 (.t rfl)) <| gd rfl rfl (fun hB => ld tf23 (.m rfl hB) rfl rfl) <| gd rfl rfl (fun hB => lnm sf23 (.m rfl hB)) <| gd rfl rfl (fun hB => bc (.m rfl hB) (.i rfl) rfl rfl) <| u (pka (.t rfl) (.t rfl)) <| u (mv (.t rfl)) <| gd rfl rfl (fun hB => fa ff33_3 (.t rfl)) <| gd rfl rfl (fun hB => ld tf23 (.m rfl hB) rfl rfl) <| gd rfl rfl (fun hB => ia sf23 (.m rfl hB) (.i rfl) (ix_map cells_Pair (gTt hx8 hB))) <| gd rfl rfl (fun hB => fr ff55_1 (.m rfl hB) rfl) <| gd rfl rfl (fun hB => lr tf24 (.m rfl hB) rfl) <| gd rfl rfl (fun hB => bc (.m rfl hB) (.i rfl) rfl rfl) <| u (pka (.t rfl) (.t rfl)) <| u (mv (.t rfl)) <| gd rfl rfl (fun hB => mv (.t rfl)) <| cg rfl rfl cf18 (fun hB => (feed_Canon_c (gTt hx9 hB))) (fun hB => .c (.i rfl) <| .c (.m rfl hB) <| .n) (.inl rfl) <| u (pka (.t rfl) (.t rfl)) <| u (mv (.t rfl)) <| gd rfl rfl (fun hB => ld tf33 (.t rfl) rfl rfl) <| cg rfl rfl cf16 (fun hB => (feed_Right_c (gTt hx10 hB))) (fun hB => .c (.m rfl hB) <| .n) (.inl rfl) <| u (pka (.t rfl) (.t rfl)) <| u (asg (.t rfl)) <| .nil _) (by kernel_rfl) rfl ?_
  obtain rfl := Option.some.inj h
  exact .rt Tryz.func5 (.t rfl <| .n) .n rfl rfl

theorem law20_awake_t : law20_awake (some 1000) = some true := by decide +kernel
theorem law20_awake_k : AC Tryz.prog 5 [] (.ro (.bool true)) [] := law20_awake_c law20_awake_t

theorem ref20_Short_c (f : Feed) :
    AC Tryz.prog 6 [.ro (enc_Feed f)] (.ro (.bool (ref20_Short f))) [] := by
  obtain ⟨r, h⟩ : ∃ r, ref20_Short f = r := ⟨_, rfl⟩
  rw [h]
  refine AC.of Tryz.func6 rfl rfl fun w M0 hM => ?_
  unfold ref20_Short at h
  refine .sq ?_
  refine .rg (bx 1 (.t rfl) rfl rfl <| u (asg .b) <| .nil _) rfl ?_
  refine .sq ?_
  refine .rg (u (fa ff33_3 (.t rfl)) <| u (ld tf23 (.t rfl) rfl rfl) <| u (lnm sf23 (.t rfl)) <| u (bc (.t rfl) (.i rfl) rfl rfl) <| u (mv (.t rfl)) <| gd rfl rfl (fun hB => fa ff33_5 (.t rfl)) <| gd rfl rfl (fun hB => ld tf28 (.m rfl hB) rfl rfl) <| gd rfl rfl (fun hB => lnm sf28 (.m rfl hB)) <| gd rfl rfl (fun hB => bc (.m rfl hB) (.i rfl) rfl rfl) <| u (pka (.t rfl) (.t rfl)) <| u (mv (.t rfl)) <| gd rfl rfl (fun hB => fa ff33_6 (.t rfl)) <| gd rfl rfl (fun hB => fa ff31_2 (.m rfl hB)) <| gd rfl rfl (fun hB => ld tf29 (.m rfl hB) rfl rfl) <| gd rfl rfl (fun hB => lnm sf29 (.m rfl hB)) <| gd rfl rfl (fun hB => bc (.m rfl hB) (.i rfl) rfl rfl) <| u (pka (.t rfl) (.t rfl)) <| u (mv (.t rfl)) <| gd rfl rfl (fun hB => fa ff33_4 (.t rfl)) <| gd rfl rfl (fun hB => fa ff27_3 (.m rfl hB)) <| gd rfl rfl (fun hB => ld tf25 (.m rfl hB) rfl rfl) <| gd rfl rfl (fun hB => lnm sf25 (.m rfl hB)) <| gd rfl rfl (fun hB => bc (.m rfl hB) (.i rfl) rfl rfl) <| u (pka (.t rfl) (.t rfl)) <| u (asg (.t rfl)) <| .nil _) rfl ?_
  subst h
  exact .rt Tryz.func6 (.t rfl <| .n) .n rfl rfl

theorem ref20_Code_c {kind : Int} {r : Int × Int} (h : ref20_Code kind = some r) :
    AC Tryz.prog 8 [.ro (.int .i64 kind)] (.ro (.tup [.int .i64 r.1, .int .i64 r.2])) [] := by
  refine AC.of Tryz.func8 rfl rfl fun w M0 hM => ?_
  unfold ref20_Code at h
  refine .sq ?_
  refine .rg (u (asg (.i rfl)) <| u (asg (.i rfl)) <| .nil _) rfl ?_
  refine .sq ?_
  refine .sq ?_
  refine .rg (u (mv (.t rfl)) <| u (bc (.t rfl) (.i rfl) rfl rfl) <| u (mv (.t rfl)) <| gd rfl rfl (fun hB => mv (.t rfl)) <| gd rfl rfl (fun hB => bc (.m rfl hB) (.i rfl) rfl rfl) <| u (pko (.t rfl) (.t rfl)) <| .nil _) rfl ?_
  refine .bq h (.t rfl) (fun h => ?_) (fun h => ?_)
  · refine .sq ?_
    refine .rg (u (asg (.i rfl)) <| u (asg (.i rfl)) <| .nil _) rfl ?_
    obtain rfl := Option.some.inj h
    exact .rt Tryz.func8 (.t rfl <| .t rfl <| .n) .n rfl rfl
  · refine .skp ?_
    refine .sq ?_
    refine be h fun x1 hx1 h => ?_
    refine be h fun x2 hx2 h => ?_
    refine .rd mixed (bs (F := (ei .i64)) (l := [0, 205, 205, 206, 206, 206]) 10 pf56 (.c (.i rfl) rfl <| .c (.i rfl) rfl <| .c (.i rfl) rfl <| .c (.i rfl) rfl <| .c (.i rfl) rfl <| .c (.i rfl) rfl <| .n) rfl (fun _ _ => rfl) rfl rfl <| u (mv (.t rfl)) <| u (io sf56 (.t rfl) rfl (.t rfl) (ix_map (ei .i64) hx1)) <| u (le tf3 (.t rfl) rfl (ix_lt (ix_map _ hx1)).2.2 rfl) <| bs (F := (ei .i64)) (l := [0, 1, 15, 1, 4, 15]) 14 pf56 (.c (.i rfl) rfl <| .c (.i rfl) rfl <| .c (.i rfl) rfl <| .c (.i rfl) rfl <| .c (.i rfl) rfl <| .c (.i rfl) rfl <| .n) rfl (fun _ _ => rfl) rfl rfl <| u (mv (.t rfl)) <| u (io sf56 (.t rfl) rfl (.t rfl) (ix_map (ei .i64) hx2)) <| u (le tf3 (.t rfl) rfl (ix_lt (ix_map _ hx2)).2.2 rfl) <| u (asg (.t rfl)) <| u (asg (.t rfl)) <| .nil _) (by kernel_rfl) rfl ?_
    obtain rfl := Option.some.inj h
    exact .rt Tryz.func8 (.t rfl <| .t rfl <| .n) .n rfl rfl

theorem ref20_Kind_c (kind : Int) (count : Int) :
    AC Tryz.prog 10 [.ro (.int .i64 kind), .ro (.int .i64 count)] (.ro (.int .i64 (ref20_Kind kind count))) [] := by
  obtain ⟨r, h⟩ : ∃ r, ref20_Kind kind count = r := ⟨_, rfl⟩
  rw [h]
  refine AC.of Tryz.func10 rfl rfl fun w M0 hM => ?_
  unfold ref20_Kind at h
  refine .sq ?_
  refine .rg (u (asg (.i rfl)) <| .nil _) rfl ?_
  refine .sq ?_
  refine .bl ?_
  refine .sq ?_
  refine .rg (u (mv (.t rfl)) <| u (bc (.t rfl) (.i rfl) rfl rfl) <| u (mv (.t rfl)) <| gd rfl rfl (fun hB => mv (.t rfl)) <| gd rfl rfl (fun hB => bc (.m rfl hB) (.i rfl) rfl rfl) <| u (pka (.t rfl) (.t rfl)) <| u (asg (.t rfl)) <| .nil _) rfl ?_
  refine .bq h (.t rfl) (fun h => ?_) (fun h => ?_)
  · refine .sq ?_
    refine .rg (u (asg (.i rfl)) <| .nil _) rfl ?_
    subst h
    exact .rt Tryz.func10 (.t rfl <| .n) .n rfl rfl
  · refine .sq ?_
    refine .rg (u (mv (.t rfl)) <| u (bc (.t rfl) (.i rfl) rfl rfl) <| u (mv (.t rfl)) <| gd rfl rfl (fun hB => mv (.t rfl)) <| gd rfl rfl (fun hB => bc (.m rfl hB) (.i rfl) rfl rfl) <| u (pka (.t rfl) (.t rfl)) <| u (asg (.t rfl)) <| .nil _) rfl ?_
    refine .bq h (.t rfl) (fun h => ?_) (fun h => ?_)
    · refine .sq ?_
      refine .rg (u (asg (.i rfl)) <| .nil _) rfl ?_
      subst h
      exact .rt Tryz.func10 (.t rfl <| .n) .n rfl rfl
    · refine .sq ?_
      refine .rg (u (mv (.t rfl)) <| u (bc (.t rfl) (.i rfl) rfl rfl) <| u (mv (.t rfl)) <| gd rfl rfl (fun hB => mv (.t rfl)) <| gd rfl rfl (fun hB => bc (.m rfl hB) (.i rfl) rfl rfl) <| u (pka (.t rfl) (.t rfl)) <| u (asg (.t rfl)) <| .nil _) rfl ?_
      refine .bq h (.t rfl) (fun h => ?_) (fun h => ?_)
      · refine .sq ?_
        refine .rg (u (asg (.i rfl)) <| .nil _) rfl ?_
        subst h
        exact .rt Tryz.func10 (.t rfl <| .n) .n rfl rfl
      · refine .sq ?_
        refine .rg (u (mv (.t rfl)) <| u (bc (.t rfl) (.i rfl) rfl rfl) <| u (mv (.t rfl)) <| gd rfl rfl (fun hB => mv (.t rfl)) <| gd rfl rfl (fun hB => bc (.m rfl hB) (.i rfl) rfl rfl) <| u (pka (.t rfl) (.t rfl)) <| u (asg (.t rfl)) <| .nil _) rfl ?_
        refine .bq h (.t rfl) (fun h => ?_) (fun h => ?_)
        · refine .sq ?_
          refine .rg (u (asg (.i rfl)) <| .nil _) rfl ?_
          subst h
          exact .rt Tryz.func10 (.t rfl <| .n) .n rfl rfl
        · refine .sq ?_
          refine .rg (u (mv (.t rfl)) <| u (bc (.t rfl) (.i rfl) rfl rfl) <| u (mv (.t rfl)) <| gd rfl rfl (fun hB => mv (.t rfl)) <| gd rfl rfl (fun hB => bc (.m rfl hB) (.i rfl) rfl rfl) <| u (pka (.t rfl) (.t rfl)) <| u (asg (.t rfl)) <| .nil _) rfl ?_
          refine .bq h (.t rfl) (fun h => ?_) (fun h => ?_)
          · refine .sq ?_
            refine .rg (u (asg (.i rfl)) <| .nil _) rfl ?_
            subst h
            exact .rt Tryz.func10 (.t rfl <| .n) .n rfl rfl
          · refine .skp ?_
            refine .ib ?_
            refine .sq ?_
            refine .rg (u (asg (.i rfl)) <| .nil _) rfl ?_
            subst h
            exact .rt Tryz.func10 (.t rfl <| .n) .n rfl rfl

theorem ref19_Same_c {z : Option Nat} {p_a : Arrive} {b : Arrive} {r : Bool} (h : ref19_Same z p_a b = some r) :
    AC Tryz.prog 20 [.ro (enc_Arrive p_a), .ro (enc_Arrive b)] (.ro (.bool r)) [] := by
  refine AC.of Tryz.func20 rfl rfl fun w M0 hM => ?_
  unfold ref19_Same at h
  refine .sq ?_
  refine .rg (bx 2 (.t rfl) rfl rfl <| bx 3 (.t rfl) rfl rfl <| u (asg .b) <| .nil _) rfl ?_
  refine .sq ?_
  refine .sq ?_
  refine .rg (u (fa ff27_0 (.t rfl)) <| u (ld tf24 (.t rfl) rfl rfl) <| u (fa ff27_0 (.t rfl)) <| u (ld tf24 (.t rfl) rfl rfl) <| u (bc (.t rfl) (.t rfl) rfl rfl) <| u (mv (.t rfl)) <| gd rfl rfl (fun hB => fa ff27_1 (.t rfl)) <| gd rfl rfl (fun hB => ld tf3 (.m rfl hB) rfl rfl) <| gd rfl rfl (fun hB => fa ff27_1 (.t rfl)) <| gd rfl rfl (fun hB => ld tf3 (.m rfl hB) rfl rfl) <| gd rfl rfl (fun hB => bc (.m rfl hB) (.m rfl hB) rfl rfl) <| u (pko (.t rfl) (.t rfl)) <| u (mv (.t rfl)) <| gd rfl rfl (fun hB => fa ff27_2 (.t rfl)) <| gd rfl rfl (fun hB => ld tf5 (.m rfl hB) rfl rfl) <| gd rfl rfl (fun hB => fa ff27_2 (.t rfl)) <| gd rfl rfl (fun hB => ld tf5 (.m rfl hB) rfl rfl) <| gd rfl rfl (fun hB => bc (.m rfl hB) (.m rfl hB) rfl rfl) <| u (pko (.t rfl) (.t rfl)) <| u (mv (.t rfl)) <| gd rfl rfl (fun hB => fa ff27_3 (.t rfl)) <| gd rfl rfl (fun hB => ld tf25 (.m rfl hB) rfl rfl) <| gd rfl rfl (fun hB => lnm sf25 (.m rfl hB)) <| gd rfl rfl (fun hB => fa ff27_3 (.t rfl)) <| gd rfl rfl (fun hB => ld tf25 (.m rfl hB) rfl rfl) <| gd rfl rfl (fun hB => lnm sf25 (.m rfl hB)) <| gd rfl rfl (fun hB => bc (.m rfl hB) (.m rfl hB) rfl rfl) <| u (pko (.t rfl) (.t rfl)) <| .nil _) rfl ?_
  refine .bq h (.t rfl) (fun h => ?_) (fun h => ?_)
  · refine .sq ?_
    refine .rg (u (asg .b) <| .nil _) rfl ?_
    obtain rfl := Option.some.inj h
    exact .rt Tryz.func20 (.t rfl <| .n) .n rfl rfl
  · refine .skp ?_
    refine .sq ?_
    refine .sq ?_
    refine .rg (u (asg (.i rfl)) <| .nil _) rfl ?_
    refine .bl ?_
    unfold ref19_Same_l1 at h
    refine .kq (.lo (fun (s : Int) => ⟨[(2, .ptr 2 0), (3, .ptr 3 0), (5, .ro (.int .i64 s))], [(2, some (.box [.ro (.int .u16 p_a.base), .ro (.int .i64 p_a.time), .ro (.int .u8 p_a.count), .ro (.list 2 (List.map cells_Seen p_a.seen))])), (3, some (.box [.ro (.int .u16 b.base), .ro (.int .i64 b.time), .ro (.int .u8 b.count), .ro (.list 2 (List.map cells_Seen b.seen))]))]⟩) h ?_) (.c rfl (.c rfl (.c rfl .n))) (.c rfl (.c rfl .n))
    intro v1 u1 h ih1 hx1
    replace h : ref19_Same_s1 z p_a b v1 = _ := h
    unfold ref19_Same_s1 at h
    refine .sq ?_
    refine .sq ?_
    refine .rg (u (mv (.t rfl)) <| u (fa ff27_3 (.t rfl)) <| u (ld tf25 (.t rfl) rfl rfl) <| u (lnm sf25 (.t rfl)) <| u (bc (.t rfl) (.t rfl) rfl rfl) <| .nil _) rfl ?_
    refine .bq h (.t rfl) (fun h => ?_) (fun h => ?_)
    · refine .skp ?_
      refine .sq ?_
      refine .bl ?_
      refine .sq ?_
      refine be h fun x2 hx2 h => ?_
      refine be h fun x3 hx3 h => ?_
      refine .rd mixed (u (fa ff27_3 (.t rfl)) <| u (ld tf25 (.t rfl) rfl rfl) <| u (mv (.t rfl)) <| u (ia sf25 (.t rfl) (.t rfl) (ix_map cells_Seen hx2)) <| u (lr tf90 (.t rfl) rfl) <| u (fa ff27_3 (.t rfl)) <| u (ld tf25 (.t rfl) rfl rfl) <| u (mv (.t rfl)) <| u (ia sf25 (.t rfl) (.t rfl) (ix_map cells_Seen hx3)) <| u (lr tf90 (.t rfl) rfl) <| u (eqs qf90 (.t rfl) (.t rfl) rfl rfl rfl rfl) <| .nil _) (by kernel_rfl) rfl ?_
      refine .bq h (.t rfl) (fun h => ?_) (fun h => ?_)
      · refine .sq ?_
        refine .rg (u (asg .b) <| .nil _) rfl ?_
        replace h := mpR h hx1
        obtain rfl := Option.some.inj h
        exact .rt Tryz.func20 (.t rfl <| .n) .n rfl rfl
      · refine .skp ?_
        refine .ib ?_
        refine .rg (u (mv (.t rfl)) <| u (bi (.t rfl) (.i rfl) rfl) <| u (asg (.t rfl)) <| .nil _) rfl ?_
        exact .kq (.il (ih1 (ar .add .i64 v1 1) (nxi h))) (.c rfl (.c rfl (.c rfl .n))) (.c rfl (.c rfl .n))
    · refine .xt rfl ?_
      replace h := mpR h hx1
      refine .sq ?_
      refine .rg (u (asg .b) <| .nil _) rfl ?_
      obtain rfl := Option.some.inj h
      exact .rt Tryz.func20 (.t rfl <| .n) .n rfl rfl

theorem ref05_Numbers_c {z : Option Nat} {p_a : List Int} {b : List Int} {r : Bool} (h : ref05_Numbers z p_a b = some r) :
    AC Tryz.prog 42 [.ro (.list 1 (List.map (ei .u32) p_a)), .ro (.list 1 (List.map (ei .u32) b))] (.ro (.bool r)) [] := by
  refine AC.of Tryz.func42 rfl rfl fun w M0 hM => ?_
  unfold ref05_Numbers at h
  refine .sq ?_
  refine .rg (u (asg .b) <| .nil _) rfl ?_
  refine .sq ?_
  refine .sq ?_
  refine .rg (u (mv (.t rfl)) <| u (lnm sf29 (.t rfl)) <| u (mv (.t rfl)) <| u (lnm sf29 (.t rfl)) <| u (bc (.t rfl) (.t rfl) rfl rfl) <| .nil _) rfl ?_
  refine .bq h (.t rfl) (fun h => ?_) (fun h => ?_)
  · refine .sq ?_
    refine .rg (u (asg .b) <| .nil _) rfl ?_
    obtain rfl := Option.some.inj h
    exact .rt Tryz.func42 (.t rfl <| .n) .n rfl rfl
  · refine .skp ?_
    refine .sq ?_
    refine .sq ?_
    refine .rg (u (asg (.i rfl)) <| .nil _) rfl ?_
    refine .bl ?_
    unfold ref05_Numbers_l1 at h
    refine .kq (.lo (fun (s : Int) => ⟨[(0, .ro (.list 1 (List.map (ei .u32) p_a))), (1, .ro (.list 1 (List.map (ei .u32) b))), (5, .ro (.int .i64 s))], []⟩) h ?_) (.c rfl (.c rfl (.c rfl .n))) .n
    intro v1 u1 h ih1 hx1
    replace h : ref05_Numbers_s1 z p_a b v1 = _ := h
    unfold ref05_Numbers_s1 at h
    refine .sq ?_
    refine .sq ?_
    refine .rg (u (mv (.t rfl)) <| u (mv (.t rfl)) <| u (lnm sf29 (.t rfl)) <| u (bc (.t rfl) (.t rfl) rfl rfl) <| .nil _) rfl ?_
    refine .bq h (.t rfl) (fun h => ?_) (fun h => ?_)
    · refine .skp ?_
      refine .sq ?_
      refine .bl ?_
      refine .sq ?_
      refine be h fun x2 hx2 h => ?_
      refine be h fun x3 hx3 h => ?_
      refine .rd mixed (u (mv (.t rfl)) <| u (mv (.t rfl)) <| u (ia sf29 (.t rfl) (.t rfl) (ix_map (ei .u32) hx2)) <| u (lr tf22 (.t rfl) rfl) <| u (mv (.t rfl)) <| u (mv (.t rfl)) <| u (ia sf29 (.t rfl) (.t rfl) (ix_map (ei .u32) hx3)) <| u (lr tf22 (.t rfl) rfl) <| u (bc (.t rfl) (.t rfl) rfl rfl) <| .nil _) (by kernel_rfl) rfl ?_
      refine .bq h (.t rfl) (fun h => ?_) (fun h => ?_)
      · refine .sq ?_
        refine .rg (u (asg .b) <| .nil _) rfl ?_
        replace h := mpR h hx1
        obtain rfl := Option.some.inj h
        exact .rt Tryz.func42 (.t rfl <| .n) .n rfl rfl
      · refine .skp ?_
        refine .ib ?_
        refine .rg (u (mv (.t rfl)) <| u (bi (.t rfl) (.i rfl) rfl) <| u (asg (.t rfl)) <| .nil _) rfl ?_
        exact .kq (.il (ih1 (ar .add .i64 v1 1) (nxi h))) (.c rfl (.c rfl (.c rfl .n))) .n
    · refine .xt rfl ?_
      replace h := mpR h hx1
      refine .sq ?_
      refine .rg (u (asg .b) <| .nil _) rfl ?_
      obtain rfl := Option.some.inj h
      exact .rt Tryz.func42 (.t rfl <| .n) .n rfl rfl

theorem ref17_Same_c {z : Option Nat} {p_a : Rate} {b : Rate} {r : Bool} (h : ref17_Same z p_a b = some r) :
    AC Tryz.prog 21 [.ro (enc_Rate p_a), .ro (enc_Rate b)] (.ro (.bool r)) [] := by
  refine AC.of Tryz.func21 rfl rfl fun w M0 hM => ?_
  unfold ref17_Same at h
  refine .sq ?_
  refine .rg (bx 2 (.t rfl) rfl rfl <| bx 3 (.t rfl) rfl rfl <| u (asg .b) <| .nil _) rfl ?_
  refine .sq ?_
  refine be h fun x1 hx1 h => ?_
  refine .rg (u (fa ff31_0 (.t rfl)) <| u (ld tf3 (.t rfl) rfl rfl) <| u (fa ff31_0 (.t rfl)) <| u (ld tf3 (.t rfl) rfl rfl) <| u (bc (.t rfl) (.t rfl) rfl rfl) <| u (mv (.t rfl)) <| gd rfl rfl (fun hB => fa ff31_1 (.t rfl)) <| gd rfl rfl (fun hB => ld tf22 (.m rfl hB) rfl rfl) <| gd rfl rfl (fun hB => fa ff31_1 (.t rfl)) <| gd rfl rfl (fun hB => ld tf22 (.m rfl hB) rfl rfl) <| gd rfl rfl (fun hB => bc (.m rfl hB) (.m rfl hB) rfl rfl) <| u (pka (.t rfl) (.t rfl)) <| u (mv (.t rfl)) <| gd rfl rfl (fun hB => fa ff31_2 (.t rfl)) <| gd rfl rfl (fun hB => ld tf29 (.m rfl hB) rfl rfl) <| gd rfl rfl (fun hB => fa ff31_2 (.t rfl)) <| gd rfl rfl (fun hB => ld tf29 (.m rfl hB) rfl rfl) <| cg rfl rfl cf42 (fun hB => (ref05_Numbers_c (gTt hx1 hB))) (fun hB => .c (.m rfl hB) <| .c (.m rfl hB) <| .n) (.inl rfl) <| u (pka (.t rfl) (.t rfl)) <| u (asg (.t rfl)) <| .nil _) rfl ?_
  obtain rfl := Option.some.inj h
  exact .rt Tryz.func21 (.t rfl <| .n) .n rfl rfl

theorem ref19_Right_c {z : Option Nat} {p_a : Arrive} {r : Bool} (h : ref19_Right z p_a = some r) :
    AC Tryz.prog 22 [.ro (enc_Arrive p_a)] (.ro (.bool r)) [] := by
  refine AC.of Tryz.func22 rfl rfl fun w M0 hM => ?_
  unfold ref19_Right at h
  refine .sq ?_
  refine .rg (bx 1 (.t rfl) rfl rfl <| u (asg .b) <| .nil _) rfl ?_
  refine .sq ?_
  refine .sq ?_
  refine .rg (u (fa ff27_1 (.t rfl)) <| u (ld tf3 (.t rfl) rfl rfl) <| u (bc (.t rfl) (.i rfl) rfl rfl) <| u (mv (.t rfl)) <| gd rfl rfl (fun hB => fa ff27_1 (.t rfl)) <| gd rfl rfl (fun hB => ld tf3 (.m rfl hB) rfl rfl) <| gd rfl rfl (fun hB => bc (.m rfl hB) (.i rfl) rfl rfl) <| u (pko (.t rfl) (.t rfl)) <| u (mv (.t rfl)) <| gd rfl rfl (fun hB => fa ff27_3 (.t rfl)) <| gd rfl rfl (fun hB => ld tf25 (.m rfl hB) rfl rfl) <| gd rfl rfl (fun hB => lnm sf25 (.m rfl hB)) <| gd rfl rfl (fun hB => bc (.m rfl hB) (.i rfl) rfl rfl) <| u (pko (.t rfl) (.t rfl)) <| .nil _) rfl ?_
  refine .bq h (.t rfl) (fun h => ?_) (fun h => ?_)
  · refine .sq ?_
    refine .rg (u (asg .b) <| .nil _) rfl ?_
    obtain rfl := Option.some.inj h
    exact .rt Tryz.func22 (.t rfl <| .n) .n rfl rfl
  · refine .skp ?_
    refine .sq ?_
    refine .sq ?_
    refine .rg (u (asg (.i rfl)) <| .nil _) rfl ?_
    refine .bl ?_
    unfold ref19_Right_l1 at h
    refine .kq (.lo (fun (s : Int) => ⟨[(1, .ptr 1 0), (3, .ro (.int .i64 s))], [(1, some (.box [.ro (.int .u16 p_a.base), .ro (.int .i64 p_a.time), .ro (.int .u8 p_a.count), .ro (.list 2 (List.map cells_Seen p_a.seen))]))]⟩) h ?_) (.c rfl (.c rfl .n)) (.c rfl .n)
    intro v1 u1 h ih1 hx1
    replace h : ref19_Right_s1 z p_a v1 = _ := h
    unfold ref19_Right_s1 at h
    refine .sq ?_
    refine .sq ?_
    refine .rg (u (mv (.t rfl)) <| u (fa ff27_3 (.t rfl)) <| u (ld tf25 (.t rfl) rfl rfl) <| u (lnm sf25 (.t rfl)) <| u (bc (.t rfl) (.t rfl) rfl rfl) <| .nil _) rfl ?_
    refine .bq h (.t rfl) (fun h => ?_) (fun h => ?_)
    · refine .skp ?_
      refine .sq ?_
      refine .bl ?_
      refine .sq ?_
      refine be h fun x2 hx2 h => ?_
      refine .rg (u (fa ff27_3 (.t rfl)) <| u (ld tf25 (.t rfl) rfl rfl) <| u (mv (.t rfl)) <| u (ia sf25 (.t rfl) (.t rfl) (ix_map cells_Seen hx2)) <| u (lr tf90 (.t rfl) rfl) <| al 4 zf90 rfl <| st tf90 (.t rfl) rfl (.t rfl) rfl rfl rfl <| .nil _) rfl ?_
      refine .sq ?_
      refine .rg (u (asg (.i rfl)) <| u (asg (.i rfl)) <| .nil _) rfl ?_
      refine .sq ?_
      refine .sq ?_
      refine .rg (u (fa ff90_0 (.t rfl)) <| u (ld tf3 (.t rfl) rfl rfl) <| u (bc (.t rfl) (.i rfl) rfl rfl) <| .nil _) rfl ?_
      refine .jq (t := some u1) (fun (a : Int) => ⟨[(1, .ptr 1 0), (3, .ro (.int .i64 v1)), (4, .ptr 4 0), (5, .ro (.int .i64 0)), (6, .ro (.int .i64 a))], [(1, some (.box [.ro (.int .u16 p_a.base), .ro (.int .i64 p_a.time), .ro (.int .u8 p_a.count), .ro (.list 2 (List.map cells_Seen p_a.seen))])), (4, some (.box [.ro (.int .i64 x2.what), .ro (.int .i64 x2.delta)]))]⟩) (fun (a : Int) => ref19_Right_j2 z v1 x2 a) ?_ (fun J2 => ?_)
      · intro v3 h
        replace h : ref19_Right_j2 z v1 x2 v3 = _ := h
        unfold ref19_Right_j2 at h
        refine .sq ?_
        refine .sq ?_
        refine .rg (u (fa ff90_0 (.t rfl)) <| u (ld tf3 (.t rfl) rfl rfl) <| u (bc (.t rfl) (.i rfl) rfl rfl) <| .nil _) rfl ?_
        refine .jq (t := some u1) (fun (a : Int × Int) => ⟨[(1, .ptr 1 0), (3, .ro (.int .i64 v1)), (4, .ptr 4 0), (5, .ro (.int .i64 a.1)), (6, .ro (.int .i64 a.2))], [(1, some (.box [.ro (.int .u16 p_a.base), .ro (.int .i64 p_a.time), .ro (.int .u8 p_a.count), .ro (.list 2 (List.map cells_Seen p_a.seen))])), (4, some (.box [.ro (.int .i64 x2.what), .ro (.int .i64 x2.delta)]))]⟩) (fun (a : Int × Int) => ref19_Right_j3 z v1 x2 a.1 a.2) ?_ (fun J3 => ?_)
        · rintro ⟨v4, v5⟩ h
          replace h : ref19_Right_j3 z v1 x2 v4 v5 = _ := h
          unfold ref19_Right_j3 at h
          refine .sq ?_
          refine .rg (u (fa ff90_0 (.t rfl)) <| u (ld tf3 (.t rfl) rfl rfl) <| u (bc (.t rfl) (.i rfl) rfl rfl) <| u (mv (.t rfl)) <| gd rfl rfl (fun hB => fa ff90_0 (.t rfl)) <| gd rfl rfl (fun hB => ld tf3 (.m rfl hB) rfl rfl) <| gd rfl rfl (fun hB => bc (.m rfl hB) (.i rfl) rfl rfl) <| u (pko (.t rfl) (.t rfl)) <| u (mv (.t rfl)) <| gd rfl rfl (fun hB => fa ff90_1 (.t rfl)) <| gd rfl rfl (fun hB => ld tf3 (.m rfl hB) rfl rfl) <| gd rfl rfl (fun hB => mv (.t rfl)) <| gd rfl rfl (fun hB => bc (.m rfl hB) (.m rfl hB) rfl rfl) <| u (pko (.t rfl) (.t rfl)) <| u (mv (.t rfl)) <| gd rfl rfl (fun hB => fa ff90_1 (.t rfl)) <| gd rfl rfl (fun hB => ld tf3 (.m rfl hB) rfl rfl) <| gd rfl rfl (fun hB => mv (.t rfl)) <| gd rfl rfl (fun hB => bc (.m rfl hB) (.m rfl hB) rfl rfl) <| u (pko (.t rfl) (.t rfl)) <| .nil _) rfl ?_
          refine .bq h (.t rfl) (fun h => ?_) (fun h => ?_)
          · refine .sq ?_
            refine .rg (u (asg .b) <| .nil _) rfl ?_
            replace h := mpR h hx1
            obtain rfl := Option.some.inj h
            exact .rt Tryz.func22 (.t rfl <| .n) .n rfl rfl
          · refine .skp ?_
            refine .ib ?_
            refine .rg (u (mv (.t rfl)) <| u (bi (.t rfl) (.i rfl) rfl) <| u (asg (.t rfl)) <| .nil _) rfl ?_
            exact .kq (.il (ih1 (ar .add .i64 v1 1) (nxi h))) (.c rfl (.c rfl .n)) (.c rfl .n)
        refine .bq h (.t rfl) (fun h => ?_) (fun h => ?_)
        · refine .rg (u (asg (.i rfl)) <| u (asg (.i rfl)) <| .nil _) rfl ?_
          exact .kq (J3 ((-32768), 32767) h) (.c rfl (.c rfl (.c rfl (.c rfl (.c rfl .n))))) (.c rfl (.c rfl .n))
        · refine .skp ?_
          exact .kq (J3 (0, v3) h) (.c rfl (.c rfl (.c rfl (.c rfl (.c rfl .n))))) (.c rfl (.c rfl .n))
      refine .bq h (.t rfl) (fun h => ?_) (fun h => ?_)
      · refine .rg (u (asg (.i rfl)) <| .nil _) rfl ?_
        exact .kq (J2 255 h) (.c rfl (.c rfl (.c rfl (.c rfl (.c rfl .n))))) (.c rfl (.c rfl .n))
      · refine .skp ?_
        exact .kq (J2 0 h) (.c rfl (.c rfl (.c rfl (.c rfl (.c rfl .n))))) (.c rfl (.c rfl .n))
    · refine .xt rfl ?_
      replace h := mpR h hx1
      refine .sq ?_
      refine .rg (u (asg .b) <| .nil _) rfl ?_
      obtain rfl := Option.some.inj h
      exact .rt Tryz.func22 (.t rfl <| .n) .n rfl rfl

theorem ref17_Right_c (p_r : Rate) :
    AC Tryz.prog 23 [.ro (enc_Rate p_r)] (.ro (.bool (ref17_Right p_r))) [] := by
  obtain ⟨r, h⟩ : ∃ r, ref17_Right p_r = r := ⟨_, rfl⟩
  rw [h]
  refine AC.of Tryz.func23 rfl rfl fun w M0 hM => ?_
  unfold ref17_Right at h
  refine .sq ?_
  refine .rg (bx 1 (.t rfl) rfl rfl <| u (asg .b) <| .nil _) rfl ?_
  refine .sq ?_
  refine .sq ?_
  refine .rg (u (fa ff31_0 (.t rfl)) <| u (ld tf3 (.t rfl) rfl rfl) <| u (bc (.t rfl) (.i rfl) rfl rfl) <| u (mv (.t rfl)) <| gd rfl rfl (fun hB => fa ff31_0 (.t rfl)) <| gd rfl rfl (fun hB => ld tf3 (.m rfl hB) rfl rfl) <| gd rfl rfl (fun hB => bc (.m rfl hB) (.i rfl) rfl rfl) <| u (pko (.t rfl) (.t rfl)) <| u (mv (.t rfl)) <| gd rfl rfl (fun hB => fa ff31_1 (.t rfl)) <| gd rfl rfl (fun hB => ld tf22 (.m rfl hB) rfl rfl) <| gd rfl rfl (fun hB => bc (.m rfl hB) (.i rfl) rfl rfl) <| u (pko (.t rfl) (.t rfl)) <| u (mv (.t rfl)) <| gd rfl rfl (fun hB => fa ff31_2 (.t rfl)) <| gd rfl rfl (fun hB => ld tf29 (.m rfl hB) rfl rfl) <| gd rfl rfl (fun hB => lnm sf29 (.m rfl hB)) <| gd rfl rfl (fun hB => bc (.m rfl hB) (.i rfl) rfl rfl) <| u (pko (.t rfl) (.t rfl)) <| .nil _) rfl ?_
  refine .bq h (.t rfl) (fun h => ?_) (fun h => ?_)
  · refine .sq ?_
    refine .rg (u (asg .b) <| .nil _) rfl ?_
    subst h
    exact .rt Tryz.func23 (.t rfl <| .n) .n rfl rfl
  · refine .skp ?_
    refine .sq ?_
    refine .rg (u (fa ff31_0 (.t rfl)) <| u (ld tf3 (.t rfl) rfl rfl) <| u (bc (.t rfl) (.i rfl) rfl rfl) <| u (mv (.t rfl)) <| gd rfl rfl (fun hB => fa ff31_1 (.t rfl)) <| gd rfl rfl (fun hB => ld tf22 (.m rfl hB) rfl rfl) <| gd rfl rfl (fun hB => bc (.m rfl hB) (.i rfl) rfl rfl) <| u (pko (.t rfl) (.t rfl)) <| u (asg (.t rfl)) <| .nil _) rfl ?_
    subst h
    exact .rt Tryz.func23 (.t rfl <| .n) .n rfl rfl

theorem ref20_Right_c {z : Option Nat} {f : Feed} {r : Bool} (h : ref20_Right z f = some r) :
    AC Tryz.prog 11 [.ro (enc_Feed f)] (.ro (.bool r)) [] := by
  refine AC.of Tryz.func11 rfl rfl fun w M0 hM => ?_
  unfold ref20_Right at h
  refine .sq ?_
  refine .rg (bx 1 (.t rfl) rfl rfl <| u (asg .b) <| .nil _) rfl ?_
  refine .sq ?_
  refine .sq ?_
  refine .rg (u (fa ff33_0 (.t rfl)) <| u (ld tf3 (.t rfl) rfl rfl) <| u (bc (.t rfl) (.i rfl) rfl rfl) <| u (mv (.t rfl)) <| gd rfl rfl (fun hB => fa ff33_0 (.t rfl)) <| gd rfl rfl (fun hB => ld tf3 (.m rfl hB) rfl rfl) <| gd rfl rfl (fun hB => bc (.m rfl hB) (.i rfl) rfl rfl) <| u (pko (.t rfl) (.t rfl)) <| .nil _) rfl ?_
  refine .bq h (.t rfl) (fun h => ?_) (fun h => ?_)
  · refine .sq ?_
    refine .rg (u (asg .b) <| .nil _) rfl ?_
    obtain rfl := Option.some.inj h
    exact .rt Tryz.func11 (.t rfl <| .n) .n rfl rfl
  · refine .skp ?_
    refine .sq ?_
    refine .sq ?_
    refine .rg (u (fa ff33_0 (.t rfl)) <| u (ld tf3 (.t rfl) rfl rfl) <| u (bc (.t rfl) (.i rfl) rfl rfl) <| u (mv (.t rfl)) <| gd rfl rfl (fun hB => fa ff33_3 (.t rfl)) <| gd rfl rfl (fun hB => ld tf23 (.m rfl hB) rfl rfl) <| gd rfl rfl (fun hB => lnm sf23 (.m rfl hB)) <| gd rfl rfl (fun hB => bc (.m rfl hB) (.i rfl) rfl rfl) <| u (pka (.t rfl) (.t rfl)) <| u (mv (.t rfl)) <| gd rfl rfl (fun hB => fa ff33_0 (.t rfl)) <| gd rfl rfl (fun hB => ld tf3 (.m rfl hB) rfl rfl) <| gd rfl rfl (fun hB => bc (.m rfl hB) (.i rfl) rfl rfl) <| gd rfl rfl (fun hB => mv (.m rfl hB)) <| gm rfl rfl (fun hB => fa ff33_5 (.t rfl)) <| gm rfl rfl (fun hB => ld tf28 (.m rfl hB) rfl rfl) <| gm rfl rfl (fun hB => lnm sf28 (.m rfl hB)) <| gm rfl rfl (fun hB => bc (.m rfl hB) (.i rfl) rfl rfl) <| gd rfl rfl (fun hB => pkam (.m rfl hB) (.t rfl) hB) <| u (pko (.t rfl) (.t rfl)) <| .nil _) rfl ?_
    refine .bq h (.t rfl) (fun h => ?_) (fun h => ?_)
    · refine .sq ?_
      refine .rg (u (asg .b) <| .nil _) rfl ?_
      obtain rfl := Option.some.inj h
      exact .rt Tryz.func11 (.t rfl <| .n) .n rfl rfl
    · refine .skp ?_
      refine .sq ?_
      refine .sq ?_
      refine be h fun x1 hx1 h => ?_
      refine be h fun x2 hx2 h => ?_
      refine .rg (u (fa ff33_0 (.t rfl)) <| u (ld tf3 (.t rfl) rfl rfl) <| u (bc (.t rfl) (.i rfl) rfl rfl) <| u (mv (.t rfl)) <| gd rfl rfl (fun hB => fa ff33_4 (.t rfl)) <| gd rfl rfl (fun hB => ld tf27 (.m rfl hB) rfl rfl) <| gd rfl rfl (fun hB => bd bf27 zf27 (.n) rfl) <| cg rfl rfl cf20 (fun hB => (ref19_Same_c (gTt hx1 hB))) (fun hB => .c (.m rfl hB) <| .c (.m rfl hB) <| .n) (.inl rfl) <| gd rfl rfl (fun hB => no (.m rfl hB)) <| u (pka (.t rfl) (.t rfl)) <| u (mv (.t rfl)) <| gd rfl rfl (fun hB => fa ff33_0 (.t rfl)) <| gd rfl rfl (fun hB => ld tf3 (.m rfl hB) rfl rfl) <| gd rfl rfl (fun hB => bc (.m rfl hB) (.i rfl) rfl rfl) <| gd rfl rfl (fun hB => mv (.m rfl hB)) <| gm rfl rfl (fun hB => fa ff33_6 (.t rfl)) <| gm rfl rfl (fun hB => ld tf31 (.m rfl hB) rfl rfl) <| gm rfl rfl (fun hB => bd bf31 zf31 (.n) rfl) <| cgm rfl rfl cf21 (fun hB => (ref17_Same_c (gTt hx2 (an2 (nt hB.1) hB.2)))) (fun hB => .c (.m rfl hB) <| .c (.m rfl hB) <| .n) (.inl rfl) <| gm rfl rfl (fun hB => no (.m rfl hB)) <| gd rfl rfl (fun hB => pkam (.m rfl hB) (.t rfl) hB) <| u (pko (.t rfl) (.t rfl)) <| .nil _) rfl ?_
      refine .bq h (.t rfl) (fun h => ?_) (fun h => ?_)
      · refine .sq ?_
        refine .rg (u (asg .b) <| .nil _) rfl ?_
        obtain rfl := Option.some.inj h
        exact .rt Tryz.func11 (.t rfl <| .n) .n rfl rfl
      · refine .skp ?_
        refine .sq ?_
        refine .sq ?_
        refine .rg (u (fa ff33_0 (.t rfl)) <| u (ld tf3 (.t rfl) rfl rfl) <| .nil _) rfl ?_
        refine .bl ?_
        refine .sq ?_
        refine .rg (u (bc (.t rfl) (.i rfl) rfl rfl) <| u (asg (.t rfl)) <| .nil _) rfl ?_
        refine .bq h (.t rfl) (fun h => ?_) (fun h => ?_)
        · refine .sq ?_
          refine .rg (u (fa ff33_3 (.t rfl)) <| u (ld tf23 (.t rfl) rfl rfl) <| u (lnm sf23 (.t rfl)) <| u (bc (.t rfl) (.i rfl) rfl rfl) <| u (mv (.t rfl)) <| gd rfl rfl (fun hB => fa ff33_3 (.t rfl)) <| gd rfl rfl (fun hB => ld tf23 (.m rfl hB) rfl rfl) <| gd rfl rfl (fun hB => lnm sf23 (.m rfl hB)) <| gd rfl rfl (fun hB => bc (.m rfl hB) (.i rfl) rfl rfl) <| u (pka (.t rfl) (.t rfl)) <| u (asg (.t rfl)) <| .nil _) rfl ?_
          obtain rfl := Option.some.inj h
          exact .rt Tryz.func11 (.t rfl <| .n) .n rfl rfl
        · refine .sq ?_
          refine .rg (u (bc (.t rfl) (.i rfl) rfl rfl) <| u (asg (.t rfl)) <| .nil _) rfl ?_
          refine .bq h (.t rfl) (fun h => ?_) (fun h => ?_)
          · refine .sq ?_
            refine be h fun x3 hx3 h => ?_
            refine .rg (u (fa ff33_4 (.t rfl)) <| u (ld tf27 (.t rfl) rfl rfl) <| cl [] cf22 (ref19_Right_c hx3) (.c (.t rfl) <| .n) (.inl rfl) <| u (asg (.t rfl)) <| .nil _) rfl ?_
            obtain rfl := Option.some.inj h
            exact .rt Tryz.func11 (.t rfl <| .n) .n rfl rfl
          · refine .sq ?_
            refine .rg (u (bc (.t rfl) (.i rfl) rfl rfl) <| u (asg (.t rfl)) <| .nil _) rfl ?_
            refine .bq h (.t rfl) (fun h => ?_) (fun h => ?_)
            · refine .sq ?_
              refine .rg (u (fa ff33_5 (.t rfl)) <| u (ld tf28 (.t rfl) rfl rfl) <| u (lnm sf28 (.t rfl)) <| u (bc (.t rfl) (.i rfl) rfl rfl) <| u (mv (.t rfl)) <| gd rfl rfl (fun hB => fa ff33_5 (.t rfl)) <| gd rfl rfl (fun hB => ld tf28 (.m rfl hB) rfl rfl) <| gd rfl rfl (fun hB => lnm sf28 (.m rfl hB)) <| gd rfl rfl (fun hB => bc (.m rfl hB) (.i rfl) rfl rfl) <| u (pka (.t rfl) (.t rfl)) <| u (asg (.t rfl)) <| .nil _) rfl ?_
              obtain rfl := Option.some.inj h
              exact .rt Tryz.func11 (.t rfl <| .n) .n rfl rfl
            · refine .sq ?_
              refine .rg (u (bc (.t rfl) (.i rfl) rfl rfl) <| u (asg (.t rfl)) <| .nil _) rfl ?_
              refine .bq h (.t rfl) (fun h => ?_) (fun h => ?_)
              · refine .sq ?_
                refine .rg (u (fa ff33_6 (.t rfl)) <| u (ld tf31 (.t rfl) rfl rfl) <| cl [] cf23 (ref17_Right_c f.rate) (.c (.t rfl) <| .n) (.inl rfl) <| u (asg (.t rfl)) <| .nil _) rfl ?_
                obtain rfl := Option.some.inj h
                exact .rt Tryz.func11 (.t rfl <| .n) .n rfl rfl
              · refine .skp ?_
                refine .ib ?_
                refine .sq ?_
                refine .rg (u (asg .b) <| .nil _) rfl ?_
                obtain rfl := Option.some.inj h
                exact .rt Tryz.func11 (.t rfl <| .n) .n rfl rfl

theorem ref01_Put_c {z : Option Nat} {v : Int} {n : Int} {r : List Int × Int} (h : ref01_Put z v n = some r) :
    AC Tryz.prog 47 [.ro (.int .u64 v), .ro (.int .i64 n)] (.tup [.own 0, .ro (.int .i64 r.2)]) [(0, .arr 5 1 (List.map e8 r.1))] := by
  refine AC.of Tryz.func47 rfl rfl fun w M0 hM => ?_
  unfold ref01_Put at h
  refine .sq ?_
  refine .rg (anm e8 4 5 1 rfl rfl <| u (asg (.i rfl)) <| .nil _) rfl ?_
  refine .sq ?_
  refine .sq ?_
  refine .rg (u (mv (.t rfl)) <| u (bc (.t rfl) (.i rfl) rfl rfl) <| u (mv (.t rfl)) <| gd rfl rfl (fun hB => mv (.t rfl)) <| gd rfl rfl (fun hB => bc (.m rfl hB) (.i rfl) rfl rfl) <| u (pko (.t rfl) (.t rfl)) <| .nil _) rfl ?_
  refine .bq h (.t rfl) (fun h => ?_) (fun h => ?_)
  · refine .sq ?_
    refine .rg (anm e8 100004 5 1 rfl rfl <| u (asg (.i rfl)) <| .nil _) rfl ?_
    obtain rfl := Option.some.inj h
    refine .ks (l := [(4, .own 0), (5, .ro (.int .i64 1))]) (o := [(0, some (.arr 5 1 (List.map e8 [])))]) (fun i => bif Nat.beq i 0 then 100004 else i) ?_ (.c rfl (.c rfl .n)) (.c rfl .n) rfl
    exact .rt Tryz.func47 (.t rfl <| .t rfl <| .n) (.c rfl .n) rfl rfl
  · refine .skp ?_
    refine .sq ?_
    refine be h fun x1 hx1 h => ?_
    refine .rg (u (mv (.t rfl)) <| mks (F := e8) (z0 := 0) 15 pf34 zf5 (.t rfl) (.t rfl) hx1 rfl <| u (asg (.t rfl)) <| .nil _) rfl ?_
    refine .sq ?_
    refine .sq ?_
    refine .rg (u (asg (.i rfl)) <| .nil _) rfl ?_
    refine .bl ?_
    unfold ref01_Put_l1 at h
    refine .ks (fun i => bif Nat.beq i 6 then 15 else i) (.lo (fun (s : Int × List Int × Int) => ⟨[(0, .ro (.int .u64 s.1)), (1, .ro (.int .i64 n)), (6, .own 6), (7, .ro (.int .i64 s.2.2))], [(6, some (.arr 5 1 (List.map e8 s.2.1)))]⟩) h ?_) (.c rfl (.c rfl (.c rfl (.c rfl .n)))) (.c rfl .n) rfl
    rintro ⟨v2, v3, v4⟩ u1 h ih1 hx1
    replace h : ref01_Put_s1 z n v2 v3 v4 = _ := h
    unfold ref01_Put_s1 at h
    refine .sq ?_
    refine .sq ?_
    refine .rg (u (mv (.t rfl)) <| u (mv (.t rfl)) <| u (bc (.t rfl) (.t rfl) rfl rfl) <| .nil _) rfl ?_
    refine .bq h (.t rfl) (fun h => ?_) (fun h => ?_)
    · refine .skp ?_
      refine .sq ?_
      refine .bl ?_
      refine .sq ?_
      refine be h fun x5 hx5 h => ?_
      refine .rg (u (mv (.t rfl)) <| u (mv (.t rfl)) <| u (bi (.t rfl) (.i rfl) rfl) <| u (mv (.t rfl)) <| u (bi (.t rfl) (.t rfl) rfl) <| u (mv (.t rfl)) <| u (di (.t rfl) (.i rfl) rfl (by decide)) <| u (cv cv64_5 (.t rfl)) <| u (io sf34 (.t rfl) rfl (.t rfl) (ix_map e8 hx5)) <| se (q := (IntKind.u8.wrap (dv .rem .u64 v2 256))) tf5 (.t rfl) rfl (.t rfl) rfl rfl rfl (ixn hx5) <| .nil _) rfl ?_
      refine .rg (u (mv (.t rfl)) <| u (di (.t rfl) (.i rfl) rfl (by decide)) <| u (asg (.t rfl)) <| .nil _) rfl ?_
      refine .ib ?_
      refine .rg (u (mv (.t rfl)) <| u (bi (.t rfl) (.i rfl) rfl) <| u (asg (.t rfl)) <| .nil _) rfl ?_
      exact .kq (.il (ih1 ((dv .quo .u64 v2 256), (List.set v3 ((ar .sub .i64 (ar .sub .i64 n 1) v4) : Int).toNat (IntKind.u8.wrap (dv .rem .u64 v2 256))), (ar .add .i64 v4 1)) (nxi h))) (.c rfl (.c rfl (.c rfl (.c rfl .n)))) (.c rfl .n)
    · refine .xt rfl ?_
      replace h := mpR h hx1
      refine .sq ?_
      refine .sq ?_
      refine .rg (u (mv (.t rfl)) <| u (bc (.t rfl) (.i rfl) rfl rfl) <| .nil _) rfl ?_
      refine .bq h (.t rfl) (fun h => ?_) (fun h => ?_)
      · refine .sq ?_
        refine .rg (anm e8 4 5 1 rfl rfl <| u (asg (.i rfl)) <| .nil _) rfl ?_
        obtain rfl := Option.some.inj h
        refine .ks (l := [(4, .own 0), (5, .ro (.int .i64 6))]) (o := [(0, some (.arr 5 1 (List.map e8 [])))]) (fun i => bif Nat.beq i 0 then 4 else i) ?_ (.c rfl (.c rfl .n)) (.c rfl .n) rfl
        exact .rt Tryz.func47 (.t rfl <| .t rfl <| .n) (.c rfl .n) rfl rfl
      · refine .skp ?_
        refine .sq ?_
        refine .rg (u (mv (.t rfl)) <| u (asg (.t rfl)) <| u (asg (.i rfl)) <| .nil _) rfl ?_
        obtain rfl := Option.some.inj h
        refine .ks (l := [(4, .own 0), (5, .ro (.int .i64 0))]) (o := [(0, some (.arr 5 1 (List.map e8 v3)))]) (fun i => bif Nat.beq i 0 then 6 else i) ?_ (.c rfl (.c rfl .n)) (.c rfl .n) rfl
        exact .rt Tryz.func47 (.t rfl <| .t rfl <| .n) (.c rfl .n) rfl rfl

theorem ref01_Put_r {z : Option Nat} {v : Int} {n : Int} {r : List Int × Int} (h : ref01_Put z v n = some r) :
    AC Tryz.prog 47 [.ro (.int .u64 v), .ro (.int .i64 n)] (.ro (.tup [.list 1 (List.map e8 r.1), .int .i64 r.2])) [] := AC.fz (ref01_Put_c h) rfl

theorem ref01_Must_c {z : Option Nat} {v : Int} {n : Int} {r : List Int} (h : ref01_Must z v n = some r) :
    AC Tryz.prog 25 [.ro (.int .u64 v), .ro (.int .i64 n)] (.own 0) [(0, .arr 5 1 (List.map e8 r))] := by
  refine AC.of Tryz.func25 rfl rfl fun w M0 hM => ?_
  unfold ref01_Must at h
  refine .sq ?_
  refine .rg (anm e8 4 5 1 rfl rfl <| .nil _) rfl ?_
  refine .sq ?_
  refine be h fun x1 hx1 h => ?_
  refine .rg (u (mv (.t rfl)) <| u (mv (.t rfl)) <| cnf 11000 cf47 (ref01_Put_c hx1) (.c (.t rfl) <| .c (.t rfl) <| .n) rfl rfl rfl <| u (mv (.t rfl)) <| u (ex (.t rfl) rfl rfl) <| u (ex (.t rfl) rfl rfl) <| u (asg (.t rfl)) <| u (asg (.t rfl)) <| .nil _) rfl ?_
  refine .sq ?_
  refine .rg (u (mv (.t rfl)) <| u (asg (.t rfl)) <| .nil _) rfl ?_
  obtain rfl := Option.some.inj h
  refine .ks (l := [(4, .own 0)]) (o := [(0, some (.arr 5 1 (List.map e8 x1.1)))]) (fun i => bif Nat.beq i 0 then 11000 else i) ?_ (.c rfl .n) (.c rfl .n) rfl
  exact .rt Tryz.func25 (.t rfl <| .n) (.c rfl .n) rfl rfl

theorem ref01_Must_r {z : Option Nat} {v : Int} {n : Int} {r : List Int} (h : ref01_Must z v n = some r) :
    AC Tryz.prog 25 [.ro (.int .u64 v), .ro (.int .i64 n)] (.ro (.list 1 (List.map e8 r))) [] := AC.fz (ref01_Must_c h) rfl

theorem ref15_Write_c {z : Option Nat} {l : List Pair} {r : List Int} (h : ref15_Write z l = some r) :
    AC Tryz.prog 26 [.ro (.list 2 (List.map cells_Pair l))] (.own 0) [(0, .arr 5 1 (List.map e8 r))] := by
  refine AC.of Tryz.func26 rfl rfl fun w M0 hM => ?_
  unfold ref15_Write at h
  refine .sq ?_
  refine .rg (anm e8 2 5 1 rfl rfl <| .nil _) rfl ?_
  refine .sq ?_
  refine .rg (anm e8 3 5 1 rfl rfl <| .nil _) rfl ?_
  refine .sq ?_
  refine .sq ?_
  refine .rg (u (asg (.i rfl)) <| .nil _) rfl ?_
  refine .bl ?_
  unfold ref15_Write_l1 at h
  refine .kq (.lo (fun (s : List Int × Int) => ⟨[(0, .ro (.list 2 (List.map cells_Pair l))), (3, .own 3), (4, .ro (.int .i64 s.2))], [(3, some (.arr 5 1 (List.map e8 s.1)))]⟩) h ?_) (.c rfl (.c rfl (.c rfl .n))) (.c rfl .n)
  rintro ⟨v1, v2⟩ u1 h ih1 hx1
  replace h : ref15_Write_s1 z l v1 v2 = _ := h
  unfold ref15_Write_s1 at h
  refine .sq ?_
  refine .sq ?_
  refine .rg (u (mv (.t rfl)) <| u (mv (.t rfl)) <| u (lnm sf23 (.t rfl)) <| u (bc (.t rfl) (.t rfl) rfl rfl) <| .nil _) rfl ?_
  refine .bq h (.t rfl) (fun h => ?_) (fun h => ?_)
  · refine .skp ?_
    refine .sq ?_
    refine .bl ?_
    refine be h fun x3 hx3 h => ?_
    refine be h fun x4 hx4 h => ?_
    refine be h fun x5 hx5 h => ?_
    refine be h fun x6 hx6 h => ?_
    refine be h fun x7 hx7 h => ?_
    refine .rd mixed (u (mv (.t rfl)) <| u (mv (.t rfl)) <| u (mv (.t rfl)) <| u (ia sf23 (.t rfl) (.t rfl) (ix_map cells_Pair hx3)) <| u (fr ff55_0 (.t rfl) rfl) <| u (lr tf24 (.t rfl) rfl) <| u (di (.t rfl) (.i rfl) rfl (by decide)) <| u (cv cv24_5 (.t rfl)) <| u (mv (.t rfl)) <| u (mv (.t rfl)) <| u (ia sf23 (.t rfl) (.t rfl) (ix_map cells_Pair hx4)) <| u (fr ff55_0 (.t rfl) rfl) <| u (lr tf24 (.t rfl) rfl) <| u (di (.t rfl) (.i rfl) rfl (by decide)) <| u (cv cv24_5 (.t rfl)) <| u (mv (.t rfl)) <| u (mv (.t rfl)) <| u (ia sf23 (.t rfl) (.t rfl) (ix_map cells_Pair hx5)) <| u (fr ff55_1 (.t rfl) rfl) <| u (lr tf24 (.t rfl) rfl) <| u (di (.t rfl) (.i rfl) rfl (by decide)) <| u (cv cv24_5 (.t rfl)) <| u (mv (.t rfl)) <| u (mv (.t rfl)) <| u (ia sf23 (.t rfl) (.t rfl) (ix_map cells_Pair hx6)) <| u (fr ff55_1 (.t rfl) rfl) <| u (lr tf24 (.t rfl) rfl) <| u (di (.t rfl) (.i rfl) rfl (by decide)) <| u (cv cv24_5 (.t rfl)) <| bs (F := e8) (l := [(IntKind.u8.wrap (dv .quo .u16 x3.pid 256)), (IntKind.u8.wrap (dv .rem .u16 x4.pid 256)), (IntKind.u8.wrap (dv .quo .u16 x5.mask 256)), (IntKind.u8.wrap (dv .rem .u16 x6.mask 256))]) 40 pf34 (.c (.t rfl) rfl <| .c (.t rfl) rfl <| .c (.t rfl) rfl <| .c (.t rfl) rfl <| .n) rfl (fun _ _ => rfl) rfl rfl <| apo 41 pf34 (.t rfl) rfl (.t rfl) rfl hx7 rfl <| u (asg (.t rfl)) <| .nil _) (by kernel_rfl) rfl ?_
    refine .ib ?_
    refine .rg (u (mv (.t rfl)) <| u (bi (.t rfl) (.i rfl) rfl) <| u (asg (.t rfl)) <| .nil _) rfl ?_
    exact .ks (fun i => bif Nat.beq i 3 then 41 else i) (.il (ih1 (x7, (ar .add .i64 v2 1)) (nxi h))) (.c rfl (.c rfl (.c rfl .n))) (.c rfl .n) rfl
  · refine .xt rfl ?_
    replace h := mpR h hx1
    refine .sq ?_
    refine .rg (u (mv (.t rfl)) <| u (asg (.t rfl)) <| .nil _) rfl ?_
    obtain rfl := Option.some.inj h
    refine .ks (l := [(2, .own 0)]) (o := [(0, some (.arr 5 1 (List.map e8 v1)))]) (fun i => bif Nat.beq i 0 then 3 else i) ?_ (.c rfl .n) (.c rfl .n) rfl
    exact .rt Tryz.func26 (.t rfl <| .n) (.c rfl .n) rfl rfl

theorem ref15_Write_r {z : Option Nat} {l : List Pair} {r : List Int} (h : ref15_Write z l = some r) :
    AC Tryz.prog 26 [.ro (.list 2 (List.map cells_Pair l))] (.ro (.list 1 (List.map e8 r))) [] := AC.fz (ref15_Write_c h) rfl

theorem ref01_PutSigned_c {z : Option Nat} {v : Int} {n : Int} {r : List Int × Int} (h : ref01_PutSigned z v n = some r) :
    AC Tryz.prog 48 [.ro (.int .i64 v), .ro (.int .i64 n)] (.tup [.own 0, .ro (.int .i64 r.2)]) [(0, .arr 5 1 (List.map e8 r.1))] := by
  refine AC.of Tryz.func48 rfl rfl fun w M0 hM => ?_
  unfold ref01_PutSigned at h
  refine .sq ?_
  refine .rg (anm e8 4 5 1 rfl rfl <| u (asg (.i rfl)) <| .nil _) rfl ?_
  refine .sq ?_
  refine .sq ?_
  refine .rg (u (mv (.t rfl)) <| u (bc (.t rfl) (.i rfl) rfl rfl) <| u (mv (.t rfl)) <| gd rfl rfl (fun hB => mv (.t rfl)) <| gd rfl rfl (fun hB => bc (.m rfl hB) (.i rfl) rfl rfl) <| u (pko (.t rfl) (.t rfl)) <| .nil _) rfl ?_
  refine .bq h (.t rfl) (fun h => ?_) (fun h => ?_)
  · refine .sq ?_
    refine .rg (anm e8 100004 5 1 rfl rfl <| u (asg (.i rfl)) <| .nil _) rfl ?_
    obtain rfl := Option.some.inj h
    refine .ks (l := [(4, .own 0), (5, .ro (.int .i64 1))]) (o := [(0, some (.arr 5 1 (List.map e8 [])))]) (fun i => bif Nat.beq i 0 then 100004 else i) ?_ (.c rfl (.c rfl .n)) (.c rfl .n) rfl
    exact .rt Tryz.func48 (.t rfl <| .t rfl <| .n) (.c rfl .n) rfl rfl
  · refine .skp ?_
    refine .sq ?_
    refine .sq ?_
    refine .rg (u (mv (.t rfl)) <| u (bc (.t rfl) (.i rfl) rfl rfl) <| .nil _) rfl ?_
    refine .bq h (.t rfl) (fun h => ?_) (fun h => ?_)
    · refine .sq ?_
      refine be h fun x1 hx1 h => ?_
      refine .rg (u (mv (.t rfl)) <| u (cv cv2_64 (.t rfl)) <| cnf 19000 cf47 (ref01_Put_c hx1) (.c (.t rfl) <| .c (.i rfl) <| .n) rfl rfl rfl <| u (ex (.t rfl) rfl rfl) <| u (ex (.t rfl) rfl rfl) <| u (asg (.t rfl)) <| u (asg (.t rfl)) <| .nil _) rfl ?_
      obtain rfl := Option.some.inj h
      refine .ks (l := [(4, .own 0), (5, .ro (.int .i64 x1.2))]) (o := [(0, some (.arr 5 1 (List.map e8 x1.1)))]) (fun i => bif Nat.beq i 0 then 19000 else i) ?_ (.c rfl (.c rfl .n)) (.c rfl .n) rfl
      exact .rt Tryz.func48 (.t rfl <| .t rfl <| .n) (.c rfl .n) rfl rfl
    · refine .skp ?_
      refine .sq ?_
      refine .rg (u (asg (.i rfl)) <| .nil _) rfl ?_
      refine .sq ?_
      refine .sq ?_
      refine .rg (u (asg (.i rfl)) <| .nil _) rfl ?_
      refine .bl ?_
      unfold ref01_PutSigned_l1 at h
      refine .kq (.lo (fun (s : Int × Int) => ⟨[(0, .ro (.int .i64 v)), (1, .ro (.int .i64 n)), (6, .ro (.int .i64 s.1)), (7, .ro (.int .i64 s.2))], []⟩) h ?_) (.c rfl (.c rfl (.c rfl (.c rfl .n)))) .n
      rintro ⟨v2, v3⟩ u1 h ih1 hx1
      replace h : ref01_PutSigned_s1 z v n v2 v3 = _ := h
      unfold ref01_PutSigned_s1 at h
      refine .sq ?_
      refine .sq ?_
      refine .rg (u (mv (.t rfl)) <| u (mv (.t rfl)) <| u (bc (.t rfl) (.t rfl) rfl rfl) <| .nil _) rfl ?_
      refine .bq h (.t rfl) (fun h => ?_) (fun h => ?_)
      · refine .skp ?_
        refine .sq ?_
        refine .bl ?_
        refine .rg (u (mv (.t rfl)) <| u (bi (.t rfl) (.i rfl) rfl) <| u (asg (.t rfl)) <| .nil _) rfl ?_
        refine .ib ?_
        refine .rg (u (mv (.t rfl)) <| u (bi (.t rfl) (.i rfl) rfl) <| u (asg (.t rfl)) <| .nil _) rfl ?_
        exact .kq (.il (ih1 ((ar .mul .i64 v2 256), (ar .add .i64 v3 1)) (nxi h))) (.c rfl (.c rfl (.c rfl (.c rfl .n)))) .n
      · refine .xt rfl ?_
        replace h := mpR h hx1
        refine .sq ?_
        refine .sq ?_
        refine .rg (u (mv (.t rfl)) <| u (mv (.t rfl)) <| u (di (.t rfl) (.i rfl) rfl (by decide)) <| u (bi (.i rfl) (.t rfl) rfl) <| u (bc (.t rfl) (.t rfl) rfl rfl) <| u (mv (.t rfl)) <| gd rfl rfl (fun hB => mv (.t rfl)) <| gd rfl rfl (fun hB => mv (.t rfl)) <| gd rfl rfl (fun hB => di (.m rfl hB) (.i rfl) rfl (by decide)) <| gd rfl rfl (fun hB => bc (.m rfl hB) (.m rfl hB) rfl rfl) <| u (pko (.t rfl) (.t rfl)) <| .nil _) rfl ?_
        refine .bq h (.t rfl) (fun h => ?_) (fun h => ?_)
        · refine .sq ?_
          refine .rg (anm e8 4 5 1 rfl rfl <| u (asg (.i rfl)) <| .nil _) rfl ?_
          obtain rfl := Option.some.inj h
          refine .ks (l := [(4, .own 0), (5, .ro (.int .i64 6))]) (o := [(0, some (.arr 5 1 (List.map e8 [])))]) (fun i => bif Nat.beq i 0 then 4 else i) ?_ (.c rfl (.c rfl .n)) (.c rfl .n) rfl
          exact .rt Tryz.func48 (.t rfl <| .t rfl <| .n) (.c rfl .n) rfl rfl
        · refine .skp ?_
          refine .sq ?_
          refine .sq ?_
          refine .rg (u (mv (.t rfl)) <| u (bc (.t rfl) (.i rfl) rfl rfl) <| .nil _) rfl ?_
          refine .jq (t := some r) (fun (a : Int) => ⟨[(0, .ro (.int .i64 a)), (1, .ro (.int .i64 n))], []⟩) (fun (a : Int) => ref01_PutSigned_j2 z n a) ?_ (fun J2 => ?_)
          · intro v4 h
            replace h : ref01_PutSigned_j2 z n v4 = _ := h
            unfold ref01_PutSigned_j2 at h
            refine .sq ?_
            refine be h fun x5 hx5 h => ?_
            refine .rg (u (mv (.t rfl)) <| u (cv cv2_64 (.t rfl)) <| u (mv (.t rfl)) <| cnf 48000 cf47 (ref01_Put_c hx5) (.c (.t rfl) <| .c (.t rfl) <| .n) rfl rfl rfl <| u (ex (.t rfl) rfl rfl) <| u (ex (.t rfl) rfl rfl) <| u (asg (.t rfl)) <| u (asg (.t rfl)) <| .nil _) rfl ?_
            obtain rfl := Option.some.inj h
            refine .ks (l := [(4, .own 0), (5, .ro (.int .i64 x5.2))]) (o := [(0, some (.arr 5 1 (List.map e8 x5.1)))]) (fun i => bif Nat.beq i 0 then 48000 else i) ?_ (.c rfl (.c rfl .n)) (.c rfl .n) rfl
            exact .rt Tryz.func48 (.t rfl <| .t rfl <| .n) (.c rfl .n) rfl rfl
          refine .bq h (.t rfl) (fun h => ?_) (fun h => ?_)
          · refine .rg (u (mv (.t rfl)) <| u (mv (.t rfl)) <| u (bi (.t rfl) (.t rfl) rfl) <| u (asg (.t rfl)) <| .nil _) rfl ?_
            exact .kq (J2 (ar .add .i64 v v2) h) (.c rfl (.c rfl .n)) .n
          · refine .skp ?_
            exact .kq (J2 v h) (.c rfl (.c rfl .n)) .n

theorem ref01_PutSigned_r {z : Option Nat} {v : Int} {n : Int} {r : List Int × Int} (h : ref01_PutSigned z v n = some r) :
    AC Tryz.prog 48 [.ro (.int .i64 v), .ro (.int .i64 n)] (.ro (.tup [.list 1 (List.map e8 r.1), .int .i64 r.2])) [] := AC.fz (ref01_PutSigned_c h) rfl

theorem ref18_Write_c {z : Option Nat} {l : List Int} {r : List Int} (h : ref18_Write z l = some r) :
    AC Tryz.prog 49 [.ro (.list 1 (List.map (ei .i64) l))] (.own 0) [(0, .arr 24 1 (List.map (ei .u16) r))] := by
  refine AC.of Tryz.func49 rfl rfl fun w M0 hM => ?_
  unfold ref18_Write at h
  refine .sq ?_
  refine .rg (anm (ei .u16) 2 24 1 rfl rfl <| .nil _) rfl ?_
  refine .sq ?_
  refine .rg (anm (ei .u16) 3 24 1 rfl rfl <| .nil _) rfl ?_
  refine .sq ?_
  refine .rg (u (asg (.i rfl)) <| .nil _) rfl ?_
  refine .sq ?_
  refine .bl ?_
  unfold ref18_Write_l1 at h
  refine .kq (.lo (fun (s : List Int × Int) => ⟨[(0, .ro (.list 1 (List.map (ei .i64) l))), (3, .own 3), (4, .ro (.int .i64 s.2))], [(3, some (.arr 24 1 (List.map (ei .u16) s.1)))]⟩) h ?_) (.c rfl (.c rfl (.c rfl .n))) (.c rfl .n)
  rintro ⟨v1, v2⟩ u1 h ih1 hx1
  replace h : ref18_Write_s1 z l v1 v2 = _ := h
  unfold ref18_Write_s1 at h
  refine .sq ?_
  refine .sq ?_
  refine .rg (u (mv (.t rfl)) <| u (mv (.t rfl)) <| u (lnm sf56 (.t rfl)) <| u (bc (.t rfl) (.t rfl) rfl rfl) <| .nil _) rfl ?_
  refine .bq h (.t rfl) (fun h => ?_) (fun h => ?_)
  · refine .skp ?_
    refine .bl ?_
    refine .sq ?_
    refine .rg (u (asg (.i rfl)) <| .nil _) rfl ?_
    refine .sq ?_
    refine .bl ?_
    unfold ref18_Write_l2 at h
    refine .kq (.lo (fun (s : Int) => ⟨[(0, .ro (.list 1 (List.map (ei .i64) l))), (3, .own 3), (4, .ro (.int .i64 v2)), (5, .ro (.int .i64 s))], [(3, some (.arr 24 1 (List.map (ei .u16) v1)))]⟩) h ?_) (.c rfl (.c rfl (.c rfl (.c rfl .n)))) (.c rfl .n)
    intro v3 u2 h ih2 hx2
    replace h : ref18_Write_s2 z l v1 v2 v3 = _ := h
    unfold ref18_Write_s2 at h
    refine .sq ?_
    refine .sq ?_
    refine be h fun x4 hx4 h => ?_
    refine be h fun x5 hx5 h => ?_
    refine .rd mixed (u (mv (.t rfl)) <| u (mv (.t rfl)) <| u (bi (.t rfl) (.t rfl) rfl) <| u (mv (.t rfl)) <| u (lnm sf56 (.t rfl)) <| u (bc (.t rfl) (.t rfl) rfl rfl) <| u (mv (.t rfl)) <| gd rfl rfl (fun hB => mv (.t rfl)) <| gd rfl rfl (fun hB => mv (.t rfl)) <| gd rfl rfl (fun hB => mv (.t rfl)) <| gd rfl rfl (fun hB => bi (.m rfl hB) (.m rfl hB) rfl) <| gd rfl rfl (fun hB => ia sf56 (.m rfl hB) (.m rfl hB) (ix_map (ei .i64) (gTt hx4 hB))) <| gd rfl rfl (fun hB => lr tf3 (.m rfl hB) rfl) <| gd rfl rfl (fun hB => mv (.t rfl)) <| gd rfl rfl (fun hB => mv (.t rfl)) <| gd rfl rfl (fun hB => ia sf56 (.m rfl hB) (.m rfl hB) (ix_map (ei .i64) (gTt hx5 hB))) <| gd rfl rfl (fun hB => lr tf3 (.m rfl hB) rfl) <| gd rfl rfl (fun hB => bc (.m rfl hB) (.m rfl hB) rfl rfl) <| u (pka (.t rfl) (.t rfl)) <| u (mv (.t rfl)) <| gd rfl rfl (fun hB => mv (.t rfl)) <| gd rfl rfl (fun hB => bc (.m rfl hB) (.i rfl) rfl rfl) <| u (pka (.t rfl) (.t rfl)) <| .nil _) (by kernel_rfl) rfl ?_
    refine .bq h (.t rfl) (fun h => ?_) (fun h => ?_)
    · refine .skp ?_
      refine .bl ?_
      refine .rg (u (mv (.t rfl)) <| u (bi (.t rfl) (.i rfl) rfl) <| u (asg (.t rfl)) <| .nil _) rfl ?_
      refine .ib ?_
      exact .kq (.il (ih2 (ar .add .i64 v3 1) (nxi h))) (.c rfl (.c rfl (.c rfl (.c rfl .n)))) (.c rfl .n)
    · refine .xt rfl ?_
      replace h := mpR h hx2
      refine .sq ?_
      refine .sq ?_
      refine .rg (u (mv (.t rfl)) <| u (bc (.t rfl) (.i rfl) rfl rfl) <| u (mv (.t rfl)) <| gd rfl rfl (fun hB => mv (.t rfl)) <| gd rfl rfl (fun hB => mv (.t rfl)) <| gd rfl rfl (fun hB => bi (.m rfl hB) (.m rfl hB) rfl) <| gd rfl rfl (fun hB => mv (.t rfl)) <| gd rfl rfl (fun hB => lnm sf56 (.m rfl hB)) <| gd rfl rfl (fun hB => bc (.m rfl hB) (.m rfl hB) rfl rfl) <| u (pko (.t rfl) (.t rfl)) <| .nil _) rfl ?_
      refine .bq h (.t rfl) (fun h => ?_) (fun h => ?_)
      · refine .sq ?_
        refine be h fun x6 hx6 h => ?_
        refine be h fun x7 hx7 h => ?_
        refine .rg (u (mv (.t rfl)) <| u (mv (.t rfl)) <| u (mv (.t rfl)) <| u (ia sf56 (.t rfl) (.t rfl) (ix_map (ei .i64) hx6)) <| u (lr tf3 (.t rfl) rfl) <| u (bi (.i rfl) (.t rfl) rfl) <| u (mv (.t rfl)) <| u (bi (.t rfl) (.t rfl) rfl) <| u (cv cv3_24 (.t rfl)) <| bs (F := (ei .u16)) (l := [(IntKind.u16.wrap (ar .add .i64 (ar .mul .i64 8192 x6) v3))]) 60 pf100 (.c (.t rfl) rfl <| .n) rfl (fun _ _ => rfl) rfl rfl <| apo 61 pf100 (.t rfl) rfl (.t rfl) rfl hx7 rfl <| u (asg (.t rfl)) <| .nil _) rfl ?_
        refine .sq ?_
        refine .rg (u (mv (.t rfl)) <| u (mv (.t rfl)) <| u (bi (.t rfl) (.t rfl) rfl) <| u (asg (.t rfl)) <| .nil _) rfl ?_
        refine .xt rfl ?_
        exact .ks (fun i => bif Nat.beq i 3 then 61 else i) (.il (ih1 (x7, (ar .add .i64 v2 v3)) (nxi h))) (.c rfl (.c rfl (.c rfl .n))) (.c rfl .n) rfl
      · refine .skp ?_
        refine .sq ?_
        refine .rg (u (asg .b) <| .nil _) rfl ?_
        refine .sq ?_
        refine .sq ?_
        refine .rg (u (mv (.t rfl)) <| u (asg (.t rfl)) <| .nil _) rfl ?_
        refine .bl ?_
        unfold ref18_Write_l3 at h
        refine .kq (.lo (fun (s : Bool × Int) => ⟨[(0, .ro (.list 1 (List.map (ei .i64) l))), (3, .own 3), (4, .ro (.int .i64 v2)), (6, .ro (.bool s.1)), (7, .ro (.int .i64 s.2))], [(3, some (.arr 24 1 (List.map (ei .u16) v1)))]⟩) h ?_) (.c rfl (.c rfl (.c rfl (.c rfl (.c rfl .n))))) (.c rfl .n)
        rintro ⟨v8, v9⟩ u3 h ih3 hx3
        replace h : ref18_Write_s3 z l v1 v2 v8 v9 = _ := h
        unfold ref18_Write_s3 at h
        refine .sq ?_
        refine .sq ?_
        refine .rg (u (mv (.t rfl)) <| u (mv (.t rfl)) <| u (bi (.t rfl) (.i rfl) rfl) <| u (bc (.t rfl) (.t rfl) rfl rfl) <| u (mv (.t rfl)) <| gd rfl rfl (fun hB => mv (.t rfl)) <| gd rfl rfl (fun hB => mv (.t rfl)) <| gd rfl rfl (fun hB => lnm sf56 (.m rfl hB)) <| gd rfl rfl (fun hB => bc (.m rfl hB) (.m rfl hB) rfl rfl) <| u (pka (.t rfl) (.t rfl)) <| .nil _) rfl ?_
        refine .bq h (.t rfl) (fun h => ?_) (fun h => ?_)
        · refine .skp ?_
          refine .sq ?_
          refine .bl ?_
          refine be h fun x10 hx10 h => ?_
          refine .rg (u (mv (.t rfl)) <| u (mv (.t rfl)) <| gd rfl rfl (fun hB => mv (.t rfl)) <| gd rfl rfl (fun hB => mv (.t rfl)) <| gd rfl rfl (fun hB => ia sf56 (.m rfl hB) (.m rfl hB) (ix_map (ei .i64) (gTt hx10 hB))) <| gd rfl rfl (fun hB => lr tf3 (.m rfl hB) rfl) <| gd rfl rfl (fun hB => bc (.m rfl hB) (.i rfl) rfl rfl) <| u (pka (.t rfl) (.t rfl)) <| u (asg (.t rfl)) <| .nil _) rfl ?_
          refine .ib ?_
          refine .rg (u (mv (.t rfl)) <| u (bi (.t rfl) (.i rfl) rfl) <| u (asg (.t rfl)) <| .nil _) rfl ?_
          exact .kq (.il (ih3 ((v8 && (cm .lss x10 2)), (ar .add .i64 v9 1)) (nxi h))) (.c rfl (.c rfl (.c rfl (.c rfl (.c rfl .n))))) (.c rfl .n)
        · refine .xt rfl ?_
          replace h := mpR h hx3
          refine .sq ?_
          refine .rg (u (asg (.i rfl)) <| u (asg (.i rfl)) <| u (asg (.i rfl)) <| .nil _) rfl ?_
          refine .sq ?_
          refine .sq ?_
          refine .rg (u (mv (.t rfl)) <| .nil _) rfl ?_
          refine .jq (t := some u1) (fun (a : Int × Int × Int) => ⟨[(0, .ro (.list 1 (List.map (ei .i64) l))), (3, .own 3), (4, .ro (.int .i64 v2)), (8, .ro (.int .i64 a.1)), (9, .ro (.int .i64 a.2.1)), (10, .ro (.int .i64 a.2.2))], [(3, some (.arr 24 1 (List.map (ei .u16) v1)))]⟩) (fun (a : Int × Int × Int) => ref18_Write_j4 z l v1 v2 a.1 a.2.1 a.2.2) ?_ (fun J4 => ?_)
          · rintro ⟨v11, v12, v13⟩ h
            replace h : ref18_Write_j4 z l v1 v2 v11 v12 v13 = _ := h
            unfold ref18_Write_j4 at h
            refine .sq ?_
            refine .sq ?_
            refine .rg (u (mv (.t rfl)) <| u (asg (.t rfl)) <| .nil _) rfl ?_
            refine .bl ?_
            unfold ref18_Write_l5 at h
            refine .kq (.lo (fun (s : Int × Int) => ⟨[(0, .ro (.list 1 (List.map (ei .i64) l))), (3, .own 3), (4, .ro (.int .i64 v2)), (8, .ro (.int .i64 v11)), (9, .ro (.int .i64 v12)), (10, .ro (.int .i64 s.1)), (11, .ro (.int .i64 s.2))], [(3, some (.arr 24 1 (List.map (ei .u16) v1)))]⟩) h ?_) (.c rfl (.c rfl (.c rfl (.c rfl (.c rfl (.c rfl (.c rfl .n))))))) (.c rfl .n)
            rintro ⟨v14, v15⟩ u5 h ih5 hx5
            replace h : ref18_Write_s5 z l v1 v2 v11 v12 v14 v15 = _ := h
            unfold ref18_Write_s5 at h
            refine .sq ?_
            refine .sq ?_
            refine .rg (u (mv (.t rfl)) <| u (mv (.t rfl)) <| u (mv (.t rfl)) <| u (bi (.t rfl) (.t rfl) rfl) <| u (bc (.t rfl) (.t rfl) rfl rfl) <| .nil _) rfl ?_
            refine .bq h (.t rfl) (fun h => ?_) (fun h => ?_)
            · refine .skp ?_
              refine .sq ?_
              refine .bl ?_
              refine .sq ?_
              refine .rg (u (mv (.t rfl)) <| u (mv (.t rfl)) <| u (bi (.t rfl) (.t rfl) rfl) <| u (asg (.t rfl)) <| .nil _) rfl ?_
              refine .sq ?_
              refine .rg (u (mv (.t rfl)) <| u (mv (.t rfl)) <| u (lnm sf56 (.t rfl)) <| u (bc (.t rfl) (.t rfl) rfl rfl) <| .nil _) rfl ?_
              refine .jq (t := some u5) (fun (a : Int) => ⟨[(0, .ro (.list 1 (List.map (ei .i64) l))), (3, .own 3), (4, .ro (.int .i64 v2)), (8, .ro (.int .i64 v11)), (9, .ro (.int .i64 v12)), (10, .ro (.int .i64 a)), (11, .ro (.int .i64 v15))], [(3, some (.arr 24 1 (List.map (ei .u16) v1)))]⟩) (fun (a : Int) => ref18_Write_j6 z v15 a) ?_ (fun J6 => ?_)
              · intro v16 h
                replace h : ref18_Write_j6 z v15 v16 = _ := h
                unfold ref18_Write_j6 at h
                refine .ib ?_
                refine .rg (u (mv (.t rfl)) <| u (bi (.t rfl) (.i rfl) rfl) <| u (asg (.t rfl)) <| .nil _) rfl ?_
                exact .kq (.il (ih5 (v16, (ar .add .i64 v15 1)) (nxi h))) (.c rfl (.c rfl (.c rfl (.c rfl (.c rfl (.c rfl (.c rfl .n))))))) (.c rfl .n)
              refine .bq h (.t rfl) (fun h => ?_) (fun h => ?_)
              · refine be h fun x17 hx17 h => ?_
                refine .rg (u (mv (.t rfl)) <| u (mv (.t rfl)) <| u (mv (.t rfl)) <| u (ia sf56 (.t rfl) (.t rfl) (ix_map (ei .i64) hx17)) <| u (lr tf3 (.t rfl) rfl) <| u (bi (.t rfl) (.t rfl) rfl) <| u (asg (.t rfl)) <| .nil _) rfl ?_
                exact .kq (J6 (ar .add .i64 (ar .mul .i64 v12 v14) x17) h) (.c rfl (.c rfl (.c rfl (.c rfl (.c rfl (.c rfl (.c rfl .n))))))) (.c rfl .n)
              · refine .skp ?_
                exact .kq (J6 (ar .mul .i64 v12 v14) h) (.c rfl (.c rfl (.c rfl (.c rfl (.c rfl (.c rfl (.c rfl .n))))))) (.c rfl .n)
            · refine .xt rfl ?_
              replace h := mpR h hx5
              refine .sq ?_
              refine be h fun x18 hx18 h => ?_
              refine .rg (u (mv (.t rfl)) <| u (mv (.t rfl)) <| u (cv cv3_24 (.t rfl)) <| bs (F := (ei .u16)) (l := [(IntKind.u16.wrap v14)]) 111 pf100 (.c (.t rfl) rfl <| .n) rfl (fun _ _ => rfl) rfl rfl <| apo 112 pf100 (.t rfl) rfl (.t rfl) rfl hx18 rfl <| u (asg (.t rfl)) <| .nil _) rfl ?_
              refine .rg (u (mv (.t rfl)) <| u (mv (.t rfl)) <| u (bi (.t rfl) (.t rfl) rfl) <| u (asg (.t rfl)) <| .nil _) rfl ?_
              refine .ib ?_
              exact .ks (fun i => bif Nat.beq i 3 then 112 else i) (.il (ih1 (x18, (ar .add .i64 v2 v11)) (nxi h))) (.c rfl (.c rfl (.c rfl .n))) (.c rfl .n) rfl
          refine .bq h (.t rfl) (fun h => ?_) (fun h => ?_)
          · refine .rg (u (asg (.i rfl)) <| u (asg (.i rfl)) <| u (asg (.i rfl)) <| .nil _) rfl ?_
            exact .kq (J4 (14, 2, 2) h) (.c rfl (.c rfl (.c rfl (.c rfl (.c rfl (.c rfl .n)))))) (.c rfl .n)
          · refine .skp ?_
            exact .kq (J4 (7, 4, 3) h) (.c rfl (.c rfl (.c rfl (.c rfl (.c rfl (.c rfl .n)))))) (.c rfl .n)
  · refine .xt rfl ?_
    replace h := mpR h hx1
    refine .sq ?_
    refine .rg (u (mv (.t rfl)) <| u (asg (.t rfl)) <| .nil _) rfl ?_
    obtain rfl := Option.some.inj h
    refine .ks (l := [(2, .own 0)]) (o := [(0, some (.arr 24 1 (List.map (ei .u16) v1)))]) (fun i => bif Nat.beq i 0 then 3 else i) ?_ (.c rfl .n) (.c rfl .n) rfl
    exact .rt Tryz.func49 (.t rfl <| .n) (.c rfl .n) rfl rfl

theorem ref18_Write_r {z : Option Nat} {l : List Int} {r : List Int} (h : ref18_Write z l = some r) :
    AC Tryz.prog 49 [.ro (.list 1 (List.map (ei .i64) l))] (.ro (.list 1 (List.map (ei .u16) r))) [] := AC.fz (ref18_Write_c h) rfl

theorem ref03_Fill_c {z : Option Nat} {b : List Int} {r : List Int} (h : ref03_Fill z b = some r) :
    AC Tryz.prog 50 [.ro (.list 1 (List.map e8 b))] (.own 0) [(0, .arr 5 1 (List.map e8 r))] := by
  refine AC.of Tryz.func50 rfl rfl fun w M0 hM => ?_
  unfold ref03_Fill at h
  refine .sq ?_
  refine .rg (anm e8 2 5 1 rfl rfl <| .nil _) rfl ?_
  refine .sq ?_
  refine be h fun x1 hx1 h => ?_
  refine .rg (bs (F := e8) (l := ([] : List Int)) 4 pf34 (.n) rfl (fun _ _ => rfl) rfl rfl <| u (mv (.t rfl)) <| ap 6 pf34 (.t rfl) rfl (.t rfl) hx1 rfl <| u (asg (.t rfl)) <| .nil _) rfl ?_
  refine .sq ?_
  refine .bl ?_
  unfold ref03_Fill_l1 at h
  refine .ks (fun i => bif Nat.beq i 3 then 6 else i) (.lo (fun (s : List Int) => ⟨[(3, .own 3)], [(3, some (.arr 5 1 (List.map e8 s)))]⟩) h ?_) (.c rfl .n) (.c rfl .n) rfl
  intro v2 u1 h ih1 hx1
  replace h : ref03_Fill_s1 z v2 = _ := h
  unfold ref03_Fill_s1 at h
  refine .sq ?_
  refine .sq ?_
  refine .rg (u (mv (.t rfl)) <| u (lom sf34 (.t rfl) rfl) <| u (di (.t rfl) (.i rfl) rfl (by decide)) <| u (bc (.t rfl) (.i rfl) rfl rfl) <| .nil _) rfl ?_
  refine .bq h (.t rfl) (fun h => ?_) (fun h => ?_)
  · refine .skp ?_
    refine .bl ?_
    refine be h fun x3 hx3 h => ?_
    refine .rg (u (mv (.t rfl)) <| bs (F := e8) (l := [0]) 12 pf34 (.c (.i rfl) rfl <| .n) rfl (fun _ _ => rfl) rfl rfl <| apo 13 pf34 (.t rfl) rfl (.t rfl) rfl hx3 rfl <| u (asg (.t rfl)) <| .nil _) rfl ?_
    refine .ib ?_
    exact .ks (fun i => bif Nat.beq i 3 then 13 else i) (.il (ih1 x3 (nxi h))) (.c rfl .n) (.c rfl .n) rfl
  · refine .xt rfl ?_
    replace h := mpR h hx1
    refine .sq ?_
    refine .rg (u (mv (.t rfl)) <| u (asg (.t rfl)) <| .nil _) rfl ?_
    obtain rfl := Option.some.inj h
    refine .ks (l := [(2, .own 0)]) (o := [(0, some (.arr 5 1 (List.map e8 v2)))]) (fun i => bif Nat.beq i 0 then 3 else i) ?_ (.c rfl .n) (.c rfl .n) rfl
    exact .rt Tryz.func50 (.t rfl <| .n) (.c rfl .n) rfl rfl

theorem ref03_Fill_r {z : Option Nat} {b : List Int} {r : List Int} (h : ref03_Fill z b = some r) :
    AC Tryz.prog 50 [.ro (.list 1 (List.map e8 b))] (.ro (.list 1 (List.map e8 r))) [] := AC.fz (ref03_Fill_c h) rfl

theorem ref19_Write_c {z : Option Nat} {p_a : Arrive} {r : List Int} (h : ref19_Write z p_a = some r) :
    AC Tryz.prog 27 [.ro (enc_Arrive p_a)] (.ro (.list 1 (List.map e8 r))) [] := by
  refine AC.of Tryz.func27 rfl rfl fun w M0 hM => ?_
  unfold ref19_Write at h
  refine .sq ?_
  refine .rg (bx 1 (.t rfl) rfl rfl <| u (asg (.n (sz := 1) (F := e8))) <| .nil _) rfl ?_
  refine .sq ?_
  refine be h fun x1 hx1 h => ?_
  refine be h fun x2 hx2 h => ?_
  refine be h fun x3 hx3 h => ?_
  refine .rd mixed (u (fa ff27_0 (.t rfl)) <| u (ld tf24 (.t rfl) rfl rfl) <| u (cv cv24_64 (.t rfl)) <| cnf 17000 cf25 (ref01_Must_c hx1) (.c (.t rfl) <| .c (.i rfl) <| .n) rfl rfl rfl <| u (fa ff27_3 (.t rfl)) <| u (ld tf25 (.t rfl) rfl rfl) <| u (lnm sf25 (.t rfl)) <| u (cv cv3_64 (.t rfl)) <| cnf 22000 cf25 (ref01_Must_c hx2) (.c (.t rfl) <| .c (.i rfl) <| .n) rfl rfl rfl <| apo 22 pf34 (.t rfl) rfl (.t rfl) rfl hx3 rfl <| u (asg (.t rfl)) <| .nil _) (by kernel_rfl) rfl ?_
  refine .sq ?_
  refine be h fun x4 hx4 h => ?_
  refine .rg (u (fa ff27_1 (.t rfl)) <| u (ld tf3 (.t rfl) rfl rfl) <| cnf 27000 cf48 (ref01_PutSigned_c hx4) (.c (.t rfl) <| .c (.i rfl) <| .n) rfl rfl rfl <| u (mv (.t rfl)) <| u (ex (.t rfl) rfl rfl) <| u (ex (.t rfl) rfl rfl) <| u (asg (.t rfl)) <| u (asg (.t rfl)) <| .nil _) rfl ?_
  refine .sq ?_
  refine be h fun x5 hx5 h => ?_
  refine .rg (u (mv (.t rfl)) <| u (mv (.t rfl)) <| apo 31 pf34 (.t rfl) rfl (.t rfl) rfl hx5 rfl <| u (asg (.t rfl)) <| .nil _) rfl ?_
  refine .sq ?_
  refine be h fun x6 hx6 h => ?_
  refine .rg (u (mv (.t rfl)) <| u (fa ff27_2 (.t rfl)) <| u (ld tf5 (.t rfl) rfl rfl) <| bs (F := e8) (l := [p_a.count]) 35 pf34 (.c (.t rfl) rfl <| .n) rfl (fun _ _ => rfl) rfl rfl <| apo 36 pf34 (.t rfl) rfl (.t rfl) rfl hx6 rfl <| u (asg (.t rfl)) <| .nil _) rfl ?_
  refine .sq ?_
  refine .rg (anm (ei .i64) 6 3 1 rfl rfl <| .nil _) rfl ?_
  refine .sq ?_
  refine .rg (anm e8 7 5 1 rfl rfl <| .nil _) rfl ?_
  refine .sq ?_
  refine .sq ?_
  refine .rg (u (asg (.i rfl)) <| .nil _) rfl ?_
  refine .bl ?_
  unfold ref19_Write_l1 at h
  refine .kq (.lo (fun (s : List Int × List Int × Int × Arrive) => ⟨[(1, .ptr 1 0), (3, .own 36), (6, .own 6), (7, .own 7), (8, .ro (.int .i64 s.2.2.1))], [(1, some (.box [.ro (.int .u16 s.2.2.2.base), .ro (.int .i64 s.2.2.2.time), .ro (.int .u8 s.2.2.2.count), .ro (.list 2 (List.map cells_Seen s.2.2.2.seen))])), (6, some (.arr 3 1 (List.map (ei .i64) s.1))), (7, some (.arr 5 1 (List.map e8 s.2.1))), (36, some (.arr 5 1 (List.map e8 x6)))]⟩) h ?_) (.c rfl (.c rfl (.c rfl (.c rfl (.c rfl .n))))) (.c rfl (.c rfl (.c rfl (.c rfl .n))))
  rintro ⟨v7, v8, v9, v10⟩ u1 h ih1 hx1
  replace h : ref19_Write_s1 z x6 v7 v8 v9 v10 = _ := h
  unfold ref19_Write_s1 at h
  refine .sq ?_
  refine .sq ?_
  refine .rg (u (mv (.t rfl)) <| u (fa ff27_3 (.t rfl)) <| u (ld tf25 (.t rfl) rfl rfl) <| u (lnm sf25 (.t rfl)) <| u (bc (.t rfl) (.t rfl) rfl rfl) <| .nil _) rfl ?_
  refine .bq h (.t rfl) (fun h => ?_) (fun h => ?_)
  · refine .skp ?_
    refine .sq ?_
    refine .bl ?_
    refine .sq ?_
    refine be h fun x11 hx11 h => ?_
    refine be h fun x12 hx12 h => ?_
    refine .rg (u (mv (.t rfl)) <| u (fa ff27_3 (.t rfl)) <| u (ld tf25 (.t rfl) rfl rfl) <| u (mv (.t rfl)) <| u (ia sf25 (.t rfl) (.t rfl) (ix_map cells_Seen hx11)) <| u (fr ff90_0 (.t rfl) rfl) <| u (lr tf3 (.t rfl) rfl) <| bs (F := (ei .i64)) (l := [x11.what]) 51 pf56 (.c (.t rfl) rfl <| .n) rfl (fun _ _ => rfl) rfl rfl <| apo 52 pf56 (.t rfl) rfl (.t rfl) rfl hx12 rfl <| u (asg (.t rfl)) <| .nil _) rfl ?_
    refine .sq ?_
    refine be h fun x13 hx13 h => ?_
    refine .rg (u (fa ff27_3 (.t rfl)) <| u (ld tf25 (.t rfl) rfl rfl) <| u (mv (.t rfl)) <| u (ia sf25 (.t rfl) (.t rfl) (ix_map cells_Seen hx13)) <| u (fr ff90_0 (.t rfl) rfl) <| u (lr tf3 (.t rfl) rfl) <| u (bc (.t rfl) (.i rfl) rfl rfl) <| .nil _) rfl ?_
    refine .jq (t := some u1) (fun (a : List Int × Arrive) => ⟨[(1, .ptr 1 0), (3, .own 36), (6, .own 52), (7, .own 7), (8, .ro (.int .i64 v9))], [(1, some (.box [.ro (.int .u16 a.2.base), .ro (.int .i64 a.2.time), .ro (.int .u8 a.2.count), .ro (.list 2 (List.map cells_Seen a.2.seen))])), (7, some (.arr 5 1 (List.map e8 a.1))), (36, some (.arr 5 1 (List.map e8 x6))), (52, some (.arr 3 1 (List.map (ei .i64) x12)))]⟩) (fun (a : List Int × Arrive) => ref19_Write_j2 z v9 x12 a.1 a.2) ?_ (fun J2 => ?_)
    · rintro ⟨v14, v15⟩ h
      replace h : ref19_Write_j2 z v9 x12 v14 v15 = _ := h
      unfold ref19_Write_j2 at h
      refine .ib ?_
      refine .rg (u (mv (.t rfl)) <| u (bi (.t rfl) (.i rfl) rfl) <| u (asg (.t rfl)) <| .nil _) rfl ?_
      exact .ks (fun i => bif Nat.beq i 6 then 52 else i) (.il (ih1 (x12, v14, (ar .add .i64 v9 1), v15) (nxi h))) (.c rfl (.c rfl (.c rfl (.c rfl (.c rfl .n))))) (.c rfl (.c rfl (.c rfl (.c rfl .n)))) rfl
    refine .bq h (.t rfl) (fun h => ?_) (fun h => ?_)
    · refine .sq ?_
      refine be h fun x16 hx16 h => ?_
      refine be h fun x17 hx17 h => ?_
      refine .rg (u (fa ff27_3 (.t rfl)) <| u (ld tf25 (.t rfl) rfl rfl) <| u (mv (.t rfl)) <| u (ia sf25 (.t rfl) (.t rfl) (ix_map cells_Seen hx16)) <| u (fr ff90_1 (.t rfl) rfl) <| u (lr tf3 (.t rfl) rfl) <| cnf 68000 cf48 (ref01_PutSigned_c hx17) (.c (.t rfl) <| .c (.i rfl) <| .n) rfl rfl rfl <| u (mv (.t rfl)) <| u (ex (.t rfl) rfl rfl) <| u (ex (.t rfl) rfl rfl) <| u (asg (.t rfl)) <| u (asg (.t rfl)) <| .nil _) rfl ?_
      refine .fz 68000 rfl ?_
      refine be h fun x18 hx18 h => ?_
      refine be h fun x19 hx19 h => ?_
      refine be h fun x20 hx20 h => ?_
      refine .rg (u (mv (.t rfl)) <| u (mv (.t rfl)) <| u (fa ff27_3 (.t rfl)) <| u (ld tf25 (.t rfl) rfl rfl) <| u (mv (.t rfl)) <| u (ia sf25 (.t rfl) (.t rfl) (ix_map cells_Seen hx18)) <| u (fr ff90_0 (.t rfl) rfl) <| u (lr tf3 (.t rfl) rfl) <| u (bi (.i rfl) (.t rfl) rfl) <| u (sl sf34 (.t rfl) (.s (.t rfl)) .n hx19) <| ap 80 pf34 (.t rfl) rfl (.t rfl) hx20 rfl <| u (asg (.t rfl)) <| .nil _) rfl ?_
      exact .ks (fun i => bif Nat.beq i 7 then 80 else i) (J2 (x20, v10) h) (.c rfl (.c rfl (.c rfl (.c rfl (.c rfl .n))))) (.c rfl (.c rfl (.c rfl (.c rfl .n)))) rfl
    · refine .skp ?_
      exact .kq (J2 (v8, v10) h) (.c rfl (.c rfl (.c rfl (.c rfl (.c rfl .n))))) (.c rfl (.c rfl (.c rfl (.c rfl .n))))
  · refine .xt rfl ?_
    replace h := mpR h hx1
    refine .sq ?_
    refine .fz 6 rfl ?_
    refine be h fun x21 hx21 h => ?_
    refine .rg (u (mv (.t rfl)) <| cnf 83000 cf49 (ref18_Write_c hx21) (.c (.t rfl) <| .n) rfl rfl rfl <| u (asg (.t rfl)) <| .nil _) rfl ?_
    refine .sq ?_
    refine .sq ?_
    refine .rg (u (asg (.i rfl)) <| .nil _) rfl ?_
    refine .bl ?_
    unfold ref19_Write_l3 at h
    refine .ks (fun i => bif Nat.beq i 3 then 36 else i) (.lo (fun (s : List Int × Int) => ⟨[(3, .own 3), (7, .own 7), (11, .own 83000), (12, .ro (.int .i64 s.2))], [(3, some (.arr 5 1 (List.map e8 s.1))), (7, some (.arr 5 1 (List.map e8 v8))), (83000, some (.arr 24 1 (List.map (ei .u16) x21)))]⟩) h ?_) (.c rfl (.c rfl (.c rfl (.c rfl .n)))) (.c rfl (.c rfl (.c rfl .n))) rfl
    rintro ⟨v22, v23⟩ u3 h ih3 hx3
    replace h : ref19_Write_s3 z v8 x21 v22 v23 = _ := h
    unfold ref19_Write_s3 at h
    refine .sq ?_
    refine .sq ?_
    refine .rg (u (mv (.t rfl)) <| u (mv (.t rfl)) <| u (lom sf100 (.t rfl) rfl) <| u (bc (.t rfl) (.t rfl) rfl rfl) <| .nil _) rfl ?_
    refine .bq h (.t rfl) (fun h => ?_) (fun h => ?_)
    · refine .skp ?_
      refine .sq ?_
      refine .bl ?_
      refine be h fun x24 hx24 h => ?_
      refine be h fun x25 hx25 h => ?_
      refine be h fun x26 hx26 h => ?_
      refine .rg (u (mv (.t rfl)) <| u (mv (.t rfl)) <| u (mv (.t rfl)) <| u (io sf100 (.t rfl) rfl (.t rfl) (ix_map (ei .u16) hx24)) <| u (le tf24 (.t rfl) rfl (ix_lt (ix_map _ hx24)).2.2 rfl) <| u (cv cv24_64 (.t rfl)) <| cnf 96000 cf25 (ref01_Must_c hx25) (.c (.t rfl) <| .c (.i rfl) <| .n) rfl rfl rfl <| apo 96 pf34 (.t rfl) rfl (.t rfl) rfl hx26 rfl <| u (asg (.t rfl)) <| .nil _) rfl ?_
      refine .ib ?_
      refine .rg (u (mv (.t rfl)) <| u (bi (.t rfl) (.i rfl) rfl) <| u (asg (.t rfl)) <| .nil _) rfl ?_
      exact .ks (fun i => bif Nat.beq i 3 then 96 else i) (.il (ih3 (x26, (ar .add .i64 v23 1)) (nxi h))) (.c rfl (.c rfl (.c rfl (.c rfl .n)))) (.c rfl (.c rfl (.c rfl .n))) rfl
    · refine .xt rfl ?_
      replace h := mpR h hx3
      refine .sq ?_
      refine be h fun x27 hx27 h => ?_
      refine be h fun x28 hx28 h => ?_
      refine .rg (u (mv (.t rfl)) <| u (mv (.t rfl)) <| apo 99 pf34 (.t rfl) rfl (.t rfl) rfl hx27 rfl <| cl [99] cf50 (ref03_Fill_r hx28) (.b (.t rfl) rfl <| .n) (.inl rfl) <| u (asg (.t rfl)) <| .nil _) rfl ?_
      obtain rfl := Option.some.inj h
      exact .rt Tryz.func27 (.t rfl <| .n) .n rfl rfl

theorem ref16_Write_c {z : Option Nat} {l : List Entry} {r : List Int} (h : ref16_Write z l = some r) :
    AC Tryz.prog 28 [.ro (.list 2 (List.map cells_Entry l))] (.own 0) [(0, .arr 5 1 (List.map e8 r))] := by
  refine AC.of Tryz.func28 rfl rfl fun w M0 hM => ?_
  unfold ref16_Write at h
  refine .sq ?_
  refine .rg (anm e8 2 5 1 rfl rfl <| .nil _) rfl ?_
  refine .sq ?_
  refine .rg (anm e8 3 5 1 rfl rfl <| .nil _) rfl ?_
  refine .sq ?_
  refine .sq ?_
  refine .rg (u (asg (.i rfl)) <| .nil _) rfl ?_
  refine .bl ?_
  unfold ref16_Write_l1 at h
  refine .kq (.lo (fun (s : List Int × Int) => ⟨[(0, .ro (.list 2 (List.map cells_Entry l))), (3, .own 3), (4, .ro (.int .i64 s.2))], [(3, some (.arr 5 1 (List.map e8 s.1)))]⟩) h ?_) (.c rfl (.c rfl (.c rfl .n))) (.c rfl .n)
  rintro ⟨v1, v2⟩ u1 h ih1 hx1
  replace h : ref16_Write_s1 z l v1 v2 = _ := h
  unfold ref16_Write_s1 at h
  refine .sq ?_
  refine .sq ?_
  refine .rg (u (mv (.t rfl)) <| u (mv (.t rfl)) <| u (lnm sf28 (.t rfl)) <| u (bc (.t rfl) (.t rfl) rfl rfl) <| .nil _) rfl ?_
  refine .bq h (.t rfl) (fun h => ?_) (fun h => ?_)
  · refine .skp ?_
    refine .sq ?_
    refine .bl ?_
    refine .sq ?_
    refine be h fun x3 hx3 h => ?_
    refine be h fun x4 hx4 h => ?_
    refine be h fun x5 hx5 h => ?_
    refine .rg (u (mv (.t rfl)) <| u (mv (.t rfl)) <| u (mv (.t rfl)) <| u (ia sf28 (.t rfl) (.t rfl) (ix_map cells_Entry hx3)) <| u (fr ff104_0 (.t rfl) rfl) <| u (lr tf22 (.t rfl) rfl) <| u (cv cv22_64 (.t rfl)) <| cnf 19000 cf25 (ref01_Must_c hx4) (.c (.t rfl) <| .c (.i rfl) <| .n) rfl rfl rfl <| apo 19 pf34 (.t rfl) rfl (.t rfl) rfl hx5 rfl <| u (asg (.t rfl)) <| .nil _) rfl ?_
    refine be h fun x6 hx6 h => ?_
    refine be h fun x7 hx7 h => ?_
    refine .rg (u (mv (.t rfl)) <| u (mv (.t rfl)) <| u (mv (.t rfl)) <| u (ia sf28 (.t rfl) (.t rfl) (ix_map cells_Entry hx6)) <| u (fr ff104_1 (.t rfl) rfl) <| u (lr tf5 (.t rfl) rfl) <| bs (F := e8) (l := [x6.seq, 0, 0, 0]) 26 pf34 (.c (.t rfl) rfl <| .c (.i rfl) rfl <| .c (.i rfl) rfl <| .c (.i rfl) rfl <| .n) rfl (fun _ _ => rfl) rfl rfl <| apo 27 pf34 (.t rfl) rfl (.t rfl) rfl hx7 rfl <| u (asg (.t rfl)) <| .nil _) rfl ?_
    refine .ib ?_
    refine .rg (u (mv (.t rfl)) <| u (bi (.t rfl) (.i rfl) rfl) <| u (asg (.t rfl)) <| .nil _) rfl ?_
    exact .ks (fun i => bif Nat.beq i 3 then 27 else i) (.il (ih1 (x7, (ar .add .i64 v2 1)) (nxi h))) (.c rfl (.c rfl (.c rfl .n))) (.c rfl .n) rfl
  · refine .xt rfl ?_
    replace h := mpR h hx1
    refine .sq ?_
    refine .rg (u (mv (.t rfl)) <| u (asg (.t rfl)) <| .nil _) rfl ?_
    obtain rfl := Option.some.inj h
    refine .ks (l := [(2, .own 0)]) (o := [(0, some (.arr 5 1 (List.map e8 v1)))]) (fun i => bif Nat.beq i 0 then 3 else i) ?_ (.c rfl .n) (.c rfl .n) rfl
    exact .rt Tryz.func28 (.t rfl <| .n) (.c rfl .n) rfl rfl

theorem ref16_Write_r {z : Option Nat} {l : List Entry} {r : List Int} (h : ref16_Write z l = some r) :
    AC Tryz.prog 28 [.ro (.list 2 (List.map cells_Entry l))] (.ro (.list 1 (List.map e8 r))) [] := AC.fz (ref16_Write_c h) rfl

theorem ref17_Write_c {z : Option Nat} {p_r : Rate} {r : List Int} (h : ref17_Write z p_r = some r) :
    AC Tryz.prog 29 [.ro (enc_Rate p_r)] (.own 0) [(0, .arr 5 1 (List.map e8 r))] := by
  refine AC.of Tryz.func29 rfl rfl fun w M0 hM => ?_
  unfold ref17_Write at h
  refine .sq ?_
  refine .rg (bx 1 (.t rfl) rfl rfl <| anm e8 2 5 1 rfl rfl <| .nil _) rfl ?_
  refine .sq ?_
  refine .rg (u (fa ff31_2 (.t rfl)) <| u (ld tf29 (.t rfl) rfl rfl) <| u (lnm sf29 (.t rfl)) <| u (cv cv3_5 (.t rfl)) <| bs (F := e8) (l := [82, 69, 77, 66, (IntKind.u8.wrap (p_r.srcs.length : Int))]) 9 pf34 (.c (.i rfl) rfl <| .c (.i rfl) rfl <| .c (.i rfl) rfl <| .c (.i rfl) rfl <| .c (.t rfl) rfl <| .n) rfl (fun _ _ => rfl) rfl rfl <| u (asg (.t rfl)) <| .nil _) rfl ?_
  refine .sq ?_
  refine be h fun x1 hx1 h => ?_
  refine be h fun x2 hx2 h => ?_
  refine .rg (u (mv (.t rfl)) <| u (fa ff31_0 (.t rfl)) <| u (ld tf3 (.t rfl) rfl rfl) <| u (cv cv3_64 (.t rfl)) <| u (bi (.i rfl) (.t rfl) rfl) <| u (fa ff31_1 (.t rfl)) <| u (ld tf22 (.t rfl) rfl rfl) <| u (cv cv22_64 (.t rfl)) <| u (bi (.t rfl) (.t rfl) rfl) <| cnf 20000 cf25 (ref01_Must_c hx1) (.c (.t rfl) <| .c (.i rfl) <| .n) rfl rfl rfl <| apo 20 pf34 (.t rfl) rfl (.t rfl) rfl hx2 rfl <| u (asg (.t rfl)) <| .nil _) rfl ?_
  refine .sq ?_
  refine .sq ?_
  refine .rg (u (asg (.i rfl)) <| .nil _) rfl ?_
  refine .bl ?_
  unfold ref17_Write_l1 at h
  refine .ks (fun i => bif Nat.beq i 3 then 20 else i) (.lo (fun (s : List Int × Int) => ⟨[(1, .ptr 1 0), (3, .own 3), (4, .ro (.int .i64 s.2))], [(1, some (.box [.ro (.int .i64 p_r.exp), .ro (.int .u32 p_r.mant), .ro (.list 1 (List.map (ei .u32) p_r.srcs))])), (3, some (.arr 5 1 (List.map e8 s.1)))]⟩) h ?_) (.c rfl (.c rfl (.c rfl .n))) (.c rfl (.c rfl .n)) rfl
  rintro ⟨v3, v4⟩ u1 h ih1 hx1
  replace h : ref17_Write_s1 z p_r v3 v4 = _ := h
  unfold ref17_Write_s1 at h
  refine .sq ?_
  refine .sq ?_
  refine .rg (u (mv (.t rfl)) <| u (fa ff31_2 (.t rfl)) <| u (ld tf29 (.t rfl) rfl rfl) <| u (lnm sf29 (.t rfl)) <| u (bc (.t rfl) (.t rfl) rfl rfl) <| .nil _) rfl ?_
  refine .bq h (.t rfl) (fun h => ?_) (fun h => ?_)
  · refine .skp ?_
    refine .sq ?_
    refine .bl ?_
    refine be h fun x5 hx5 h => ?_
    refine be h fun x6 hx6 h => ?_
    refine be h fun x7 hx7 h => ?_
    refine .rg (u (mv (.t rfl)) <| u (fa ff31_2 (.t rfl)) <| u (ld tf29 (.t rfl) rfl rfl) <| u (mv (.t rfl)) <| u (ia sf29 (.t rfl) (.t rfl) (ix_map (ei .u32) hx5)) <| u (lr tf22 (.t rfl) rfl) <| u (cv cv22_64 (.t rfl)) <| cnf 36000 cf25 (ref01_Must_c hx6) (.c (.t rfl) <| .c (.i rfl) <| .n) rfl rfl rfl <| apo 36 pf34 (.t rfl) rfl (.t rfl) rfl hx7 rfl <| u (asg (.t rfl)) <| .nil _) rfl ?_
    refine .ib ?_
    refine .rg (u (mv (.t rfl)) <| u (bi (.t rfl) (.i rfl) rfl) <| u (asg (.t rfl)) <| .nil _) rfl ?_
    exact .ks (fun i => bif Nat.beq i 3 then 36 else i) (.il (ih1 (x7, (ar .add .i64 v4 1)) (nxi h))) (.c rfl (.c rfl (.c rfl .n))) (.c rfl (.c rfl .n)) rfl
  · refine .xt rfl ?_
    replace h := mpR h hx1
    refine .sq ?_
    refine .rg (u (mv (.t rfl)) <| u (asg (.t rfl)) <| .nil _) rfl ?_
    obtain rfl := Option.some.inj h
    refine .ks (l := [(2, .own 0)]) (o := [(0, some (.arr 5 1 (List.map e8 v3)))]) (fun i => bif Nat.beq i 0 then 3 else i) ?_ (.c rfl .n) (.c rfl .n) rfl
    exact .rt Tryz.func29 (.t rfl <| .n) (.c rfl .n) rfl rfl

theorem ref17_Write_r {z : Option Nat} {p_r : Rate} {r : List Int} (h : ref17_Write z p_r = some r) :
    AC Tryz.prog 29 [.ro (enc_Rate p_r)] (.ro (.list 1 (List.map e8 r))) [] := AC.fz (ref17_Write_c h) rfl

theorem ref20_Write_c {z : Option Nat} {f : Feed} {r : List Int} (h : ref20_Write z f = some r) :
    AC Tryz.prog 13 [.ro (enc_Feed f)] (.own 0) [(0, .arr 5 1 (List.map e8 r))] := by
  refine AC.of Tryz.func13 rfl rfl fun w M0 hM => ?_
  unfold ref20_Write at h
  refine .sq ?_
  refine .rg (bx 1 (.t rfl) rfl rfl <| anm e8 2 5 1 rfl rfl <| .nil _) rfl ?_
  refine .sq ?_
  refine be h fun x1 hx1 h => ?_
  refine be h fun x2 hx2 h => ?_
  refine be h fun x3 hx3 h => ?_
  refine .rd mixed (u (fa ff33_1 (.t rfl)) <| u (ld tf22 (.t rfl) rfl rfl) <| u (cv cv22_64 (.t rfl)) <| cnf 8000 cf25 (ref01_Must_c hx1) (.c (.t rfl) <| .c (.i rfl) <| .n) rfl rfl rfl <| u (fa ff33_2 (.t rfl)) <| u (ld tf22 (.t rfl) rfl rfl) <| u (cv cv22_64 (.t rfl)) <| cnf 12000 cf25 (ref01_Must_c hx2) (.c (.t rfl) <| .c (.i rfl) <| .n) rfl rfl rfl <| apo 12 pf34 (.t rfl) rfl (.t rfl) rfl hx3 rfl <| u (asg (.t rfl)) <| .nil _) (by kernel_rfl) rfl ?_
  refine .sq ?_
  refine .sq ?_
  refine .rg (u (fa ff33_0 (.t rfl)) <| u (ld tf3 (.t rfl) rfl rfl) <| .nil _) rfl ?_
  refine .bl ?_
  refine .sq ?_
  refine .rg (u (bc (.t rfl) (.i rfl) rfl rfl) <| u (asg (.t rfl)) <| .nil _) rfl ?_
  refine .bq h (.t rfl) (fun h => ?_) (fun h => ?_)
  · refine .sq ?_
    refine be h fun x4 hx4 h => ?_
    refine be h fun x5 hx5 h => ?_
    refine .rg (u (mv (.t rfl)) <| u (fa ff33_3 (.t rfl)) <| u (ld tf23 (.t rfl) rfl rfl) <| cnf 21000 cf26 (ref15_Write_c hx4) (.c (.t rfl) <| .n) rfl rfl rfl <| apo 21 pf34 (.t rfl) rfl (.t rfl) rfl hx5 rfl <| u (asg (.t rfl)) <| .nil _) rfl ?_
    obtain rfl := Option.some.inj h
    refine .ks (l := [(2, .own 0)]) (o := [(0, some (.arr 5 1 (List.map e8 x5)))]) (fun i => bif Nat.beq i 0 then 21 else i) ?_ (.c rfl .n) (.c rfl .n) rfl
    exact .rt Tryz.func13 (.t rfl <| .n) (.c rfl .n) rfl rfl
  · refine .sq ?_
    refine .rg (u (bc (.t rfl) (.i rfl) rfl rfl) <| u (asg (.t rfl)) <| .nil _) rfl ?_
    refine .bq h (.t rfl) (fun h => ?_) (fun h => ?_)
    · refine .sq ?_
      refine be h fun x6 hx6 h => ?_
      refine be h fun x7 hx7 h => ?_
      refine .rg (u (mv (.t rfl)) <| u (fa ff33_4 (.t rfl)) <| u (ld tf27 (.t rfl) rfl rfl) <| cl [] cf27 (ref19_Write_c hx6) (.c (.t rfl) <| .n) (.inl rfl) <| ap 28 pf34 (.t rfl) rfl (.t rfl) hx7 rfl <| u (asg (.t rfl)) <| .nil _) rfl ?_
      obtain rfl := Option.some.inj h
      refine .ks (l := [(2, .own 0)]) (o := [(0, some (.arr 5 1 (List.map e8 x7)))]) (fun i => bif Nat.beq i 0 then 28 else i) ?_ (.c rfl .n) (.c rfl .n) rfl
      exact .rt Tryz.func13 (.t rfl <| .n) (.c rfl .n) rfl rfl
    · refine .sq ?_
      refine .rg (u (bc (.t rfl) (.i rfl) rfl rfl) <| u (asg (.t rfl)) <| .nil _) rfl ?_
      refine .bq h (.t rfl) (fun h => ?_) (fun h => ?_)
      · refine .sq ?_
        refine be h fun x8 hx8 h => ?_
        refine be h fun x9 hx9 h => ?_
        refine .rg (u (mv (.t rfl)) <| u (fa ff33_5 (.t rfl)) <| u (ld tf28 (.t rfl) rfl rfl) <| cnf 35000 cf28 (ref16_Write_c hx8) (.c (.t rfl) <| .n) rfl rfl rfl <| apo 35 pf34 (.t rfl) rfl (.t rfl) rfl hx9 rfl <| u (asg (.t rfl)) <| .nil _) rfl ?_
        obtain rfl := Option.some.inj h
        refine .ks (l := [(2, .own 0)]) (o := [(0, some (.arr 5 1 (List.map e8 x9)))]) (fun i => bif Nat.beq i 0 then 35 else i) ?_ (.c rfl .n) (.c rfl .n) rfl
        exact .rt Tryz.func13 (.t rfl <| .n) (.c rfl .n) rfl rfl
      · refine .sq ?_
        refine .rg (u (bc (.t rfl) (.i rfl) rfl rfl) <| u (asg (.t rfl)) <| .nil _) rfl ?_
        refine .bq h (.t rfl) (fun h => ?_) (fun h => ?_)
        · refine .sq ?_
          refine be h fun x10 hx10 h => ?_
          refine be h fun x11 hx11 h => ?_
          refine .rg (u (mv (.t rfl)) <| u (fa ff33_6 (.t rfl)) <| u (ld tf31 (.t rfl) rfl rfl) <| cnf 42000 cf29 (ref17_Write_c hx10) (.c (.t rfl) <| .n) rfl rfl rfl <| apo 42 pf34 (.t rfl) rfl (.t rfl) rfl hx11 rfl <| u (asg (.t rfl)) <| .nil _) rfl ?_
          obtain rfl := Option.some.inj h
          refine .ks (l := [(2, .own 0)]) (o := [(0, some (.arr 5 1 (List.map e8 x11)))]) (fun i => bif Nat.beq i 0 then 42 else i) ?_ (.c rfl .n) (.c rfl .n) rfl
          exact .rt Tryz.func13 (.t rfl <| .n) (.c rfl .n) rfl rfl
        · refine .skp ?_
          refine .ib ?_
          refine .sq ?_
          refine .rg (u (mv (.t rfl)) <| u (asg (.t rfl)) <| .nil _) rfl ?_
          obtain rfl := Option.some.inj h
          refine .ks (l := [(2, .own 0)]) (o := [(0, some (.arr 5 1 (List.map e8 x3)))]) (fun i => bif Nat.beq i 0 then 12 else i) ?_ (.c rfl .n) (.c rfl .n) rfl
          exact .rt Tryz.func13 (.t rfl <| .n) (.c rfl .n) rfl rfl

theorem ref20_Write_r {z : Option Nat} {f : Feed} {r : List Int} (h : ref20_Write z f = some r) :
    AC Tryz.prog 13 [.ro (enc_Feed f)] (.ro (.list 1 (List.map e8 r))) [] := AC.fz (ref20_Write_c h) rfl

theorem ref01_Get_c {z : Option Nat} {b : List Int} {at_ : Int} {n : Int} {r : Int × Int} (h : ref01_Get z b at_ n = some r) :
    AC Tryz.prog 57 [.ro (.list 1 (List.map e8 b)), .ro (.int .i64 at_), .ro (.int .i64 n)] (.ro (.tup [.int .u64 r.1, .int .i64 r.2])) [] := by
  refine AC.of Tryz.func57 rfl rfl fun w M0 hM => ?_
  unfold ref01_Get at h
  refine .sq ?_
  refine .rg (u (asg (.i rfl)) <| u (asg (.i rfl)) <| .nil _) rfl ?_
  refine .sq ?_
  refine .sq ?_
  refine .rg (u (mv (.t rfl)) <| u (bc (.t rfl) (.i rfl) rfl rfl) <| u (mv (.t rfl)) <| gd rfl rfl (fun hB => mv (.t rfl)) <| gd rfl rfl (fun hB => bc (.m rfl hB) (.i rfl) rfl rfl) <| u (pko (.t rfl) (.t rfl)) <| u (mv (.t rfl)) <| gd rfl rfl (fun hB => mv (.t rfl)) <| gd rfl rfl (fun hB => bc (.m rfl hB) (.i rfl) rfl rfl) <| u (pko (.t rfl) (.t rfl)) <| .nil _) rfl ?_
  refine .bq h (.t rfl) (fun h => ?_) (fun h => ?_)
  · refine .sq ?_
    refine .rg (u (asg (.i rfl)) <| u (asg (.i rfl)) <| .nil _) rfl ?_
    obtain rfl := Option.some.inj h
    exact .rt Tryz.func57 (.t rfl <| .t rfl <| .n) .n rfl rfl
  · refine .skp ?_
    refine .sq ?_
    refine .sq ?_
    refine .rg (u (mv (.t rfl)) <| u (mv (.t rfl)) <| u (lnm sf34 (.t rfl)) <| u (bc (.t rfl) (.t rfl) rfl rfl) <| u (mv (.t rfl)) <| gd rfl rfl (fun hB => mv (.t rfl)) <| gd rfl rfl (fun hB => lnm sf34 (.m rfl hB)) <| gd rfl rfl (fun hB => mv (.t rfl)) <| gd rfl rfl (fun hB => bi (.m rfl hB) (.m rfl hB) rfl) <| gd rfl rfl (fun hB => mv (.t rfl)) <| gd rfl rfl (fun hB => bc (.m rfl hB) (.m rfl hB) rfl rfl) <| u (pko (.t rfl) (.t rfl)) <| .nil _) rfl ?_
    refine .bq h (.t rfl) (fun h => ?_) (fun h => ?_)
    · refine .sq ?_
      refine .rg (u (asg (.i rfl)) <| u (asg (.i rfl)) <| .nil _) rfl ?_
      obtain rfl := Option.some.inj h
      exact .rt Tryz.func57 (.t rfl <| .t rfl <| .n) .n rfl rfl
    · refine .skp ?_
      refine .sq ?_
      refine .rg (u (asg (.i rfl)) <| .nil _) rfl ?_
      refine .sq ?_
      refine .sq ?_
      refine .rg (u (asg (.i rfl)) <| .nil _) rfl ?_
      refine .bl ?_
      unfold ref01_Get_l1 at h
      refine .kq (.lo (fun (s : Int × Int) => ⟨[(0, .ro (.list 1 (List.map e8 b))), (1, .ro (.int .i64 at_)), (2, .ro (.int .i64 n)), (8, .ro (.int .u64 s.1)), (9, .ro (.int .i64 s.2))], []⟩) h ?_) (.c rfl (.c rfl (.c rfl (.c rfl (.c rfl .n))))) .n
      rintro ⟨v1, v2⟩ u1 h ih1 hx1
      replace h : ref01_Get_s1 z b at_ n v1 v2 = _ := h
      unfold ref01_Get_s1 at h
      refine .sq ?_
      refine .sq ?_
      refine .rg (u (mv (.t rfl)) <| u (mv (.t rfl)) <| u (bc (.t rfl) (.t rfl) rfl rfl) <| .nil _) rfl ?_
      refine .bq h (.t rfl) (fun h => ?_) (fun h => ?_)
      · refine .skp ?_
        refine .sq ?_
        refine .bl ?_
        refine be h fun x3 hx3 h => ?_
        refine .rg (u (mv (.t rfl)) <| u (bi (.i rfl) (.t rfl) rfl) <| u (mv (.t rfl)) <| u (mv (.t rfl)) <| u (mv (.t rfl)) <| u (bi (.t rfl) (.t rfl) rfl) <| u (ia sf34 (.t rfl) (.t rfl) (ix_map e8 hx3)) <| u (lr tf5 (.t rfl) rfl) <| u (cv cv5_64 (.t rfl)) <| u (bi (.t rfl) (.t rfl) rfl) <| u (asg (.t rfl)) <| .nil _) rfl ?_
        refine .ib ?_
        refine .rg (u (mv (.t rfl)) <| u (bi (.t rfl) (.i rfl) rfl) <| u (asg (.t rfl)) <| .nil _) rfl ?_
        exact .kq (.il (ih1 ((ar .add .u64 (ar .mul .u64 256 v1) (IntKind.u64.wrap x3)), (ar .add .i64 v2 1)) (nxi h))) (.c rfl (.c rfl (.c rfl (.c rfl (.c rfl .n))))) .n
      · refine .xt rfl ?_
        replace h := mpR h hx1
        refine .sq ?_
        refine .rg (u (mv (.t rfl)) <| u (asg (.t rfl)) <| u (asg (.i rfl)) <| .nil _) rfl ?_
        obtain rfl := Option.some.inj h
        exact .rt Tryz.func57 (.t rfl <| .t rfl <| .n) .n rfl rfl

theorem ref05_Num_c {z : Option Nat} {b : List Int} {at_ : Int} {n : Int} {r : Int} (h : ref05_Num z b at_ n = some r) :
    AC Tryz.prog 32 [.ro (.list 1 (List.map e8 b)), .ro (.int .i64 at_), .ro (.int .i64 n)] (.ro (.int .u32 r)) [] := by
  refine AC.of Tryz.func32 rfl rfl fun w M0 hM => ?_
  unfold ref05_Num at h
  refine .sq ?_
  refine .rg (u (asg (.i rfl)) <| .nil _) rfl ?_
  refine .sq ?_
  refine be h fun x1 hx1 h => ?_
  refine .rg (u (mv (.t rfl)) <| u (mv (.t rfl)) <| u (mv (.t rfl)) <| cl [] cf57 (ref01_Get_c hx1) (.c (.t rfl) <| .c (.t rfl) <| .c (.t rfl) <| .n) (.inl rfl) <| u (mv (.t rfl)) <| u (ex (.t rfl) rfl rfl) <| u (ex (.t rfl) rfl rfl) <| u (asg (.t rfl)) <| u (asg (.t rfl)) <| .nil _) rfl ?_
  refine .sq ?_
  refine .rg (u (mv (.t rfl)) <| u (cv cv64_22 (.t rfl)) <| u (asg (.t rfl)) <| .nil _) rfl ?_
  obtain rfl := Option.some.inj h
  exact .rt Tryz.func32 (.t rfl <| .n) .n rfl rfl

theorem ref15_Read_c {z : Option Nat} {b : List Int} {r : List Pair × Int} (h : ref15_Read z b = some r) :
    AC Tryz.prog 33 [.ro (.list 1 (List.map e8 b))] (.tup [.own 0, .ro (.int .i64 r.2)]) [(0, .arr 55 2 (List.map cells_Pair r.1))] := by
  refine AC.of Tryz.func33 rfl rfl fun w M0 hM => ?_
  unfold ref15_Read at h
  refine .sq ?_
  refine .rg (anm cells_Pair 2 55 2 rfl rfl <| u (asg (.i rfl)) <| .nil _) rfl ?_
  refine .sq ?_
  refine .sq ?_
  refine .rg (u (mv (.t rfl)) <| u (lnm sf34 (.t rfl)) <| u (bc (.t rfl) (.i rfl) rfl rfl) <| u (mv (.t rfl)) <| gd rfl rfl (fun hB => mv (.t rfl)) <| gd rfl rfl (fun hB => lnm sf34 (.m rfl hB)) <| gd rfl rfl (fun hB => di (.m rfl hB) (.i rfl) rfl (by decide)) <| gd rfl rfl (fun hB => bc (.m rfl hB) (.i rfl) rfl rfl) <| u (pko (.t rfl) (.t rfl)) <| .nil _) rfl ?_
  refine .bq h (.t rfl) (fun h => ?_) (fun h => ?_)
  · refine .sq ?_
    refine .rg (anm cells_Pair 100002 55 2 rfl rfl <| u (asg (.i rfl)) <| .nil _) rfl ?_
    obtain rfl := Option.some.inj h
    refine .ks (l := [(2, .own 0), (3, .ro (.int .i64 4))]) (o := [(0, some (.arr 55 2 (List.map cells_Pair [])))]) (fun i => bif Nat.beq i 0 then 100002 else i) ?_ (.c rfl (.c rfl .n)) (.c rfl .n) rfl
    exact .rt Tryz.func33 (.t rfl <| .t rfl <| .n) (.c rfl .n) rfl rfl
  · refine .skp ?_
    refine .sq ?_
    refine .sq ?_
    refine .rg (u (mv (.t rfl)) <| u (lnm sf34 (.t rfl)) <| u (bc (.t rfl) (.i rfl) rfl rfl) <| .nil _) rfl ?_
    refine .bq h (.t rfl) (fun h => ?_) (fun h => ?_)
    · refine .sq ?_
      refine .rg (anm cells_Pair 100002 55 2 rfl rfl <| u (asg (.i rfl)) <| .nil _) rfl ?_
      obtain rfl := Option.some.inj h
      refine .ks (l := [(2, .own 0), (3, .ro (.int .i64 2))]) (o := [(0, some (.arr 55 2 (List.map cells_Pair [])))]) (fun i => bif Nat.beq i 0 then 100002 else i) ?_ (.c rfl (.c rfl .n)) (.c rfl .n) rfl
      exact .rt Tryz.func33 (.t rfl <| .t rfl <| .n) (.c rfl .n) rfl rfl
    · refine .skp ?_
      refine .sq ?_
      refine .rg (anm cells_Pair 4 55 2 rfl rfl <| .nil _) rfl ?_
      refine .sq ?_
      refine .sq ?_
      refine .rg (u (asg (.i rfl)) <| .nil _) rfl ?_
      refine .bl ?_
      unfold ref15_Read_l1 at h
      refine .kq (.lo (fun (s : List Pair × Int) => ⟨[(0, .ro (.list 1 (List.map e8 b))), (4, .own 4), (5, .ro (.int .i64 s.2))], [(4, some (.arr 55 2 (List.map cells_Pair s.1)))]⟩) h ?_) (.c rfl (.c rfl (.c rfl .n))) (.c rfl .n)
      rintro ⟨v1, v2⟩ u1 h ih1 hx1
      replace h : ref15_Read_s1 z b v1 v2 = _ := h
      unfold ref15_Read_s1 at h
      refine .sq ?_
      refine .sq ?_
      refine .rg (u (mv (.t rfl)) <| u (mv (.t rfl)) <| u (lnm sf34 (.t rfl)) <| u (bc (.t rfl) (.t rfl) rfl rfl) <| .nil _) rfl ?_
      refine .bq h (.t rfl) (fun h => ?_) (fun h => ?_)
      · refine .skp ?_
        refine .sq ?_
        refine .bl ?_
        refine be h fun x3 hx3 h => ?_
        refine be h fun x4 hx4 h => ?_
        refine be h fun x5 hx5 h => ?_
        refine be h fun x6 hx6 h => ?_
        refine be h fun x7 hx7 h => ?_
        refine .rd mixed (u (mv (.t rfl)) <| u (mv (.t rfl)) <| u (mv (.t rfl)) <| u (ia sf34 (.t rfl) (.t rfl) (ix_map e8 hx3)) <| u (lr tf5 (.t rfl) rfl) <| u (cv cv5_24 (.t rfl)) <| u (bi (.i rfl) (.t rfl) rfl) <| u (mv (.t rfl)) <| u (mv (.t rfl)) <| u (bi (.t rfl) (.i rfl) rfl) <| u (ia sf34 (.t rfl) (.t rfl) (ix_map e8 hx4)) <| u (lr tf5 (.t rfl) rfl) <| u (cv cv5_24 (.t rfl)) <| u (bi (.t rfl) (.t rfl) rfl) <| u (mv (.t rfl)) <| u (mv (.t rfl)) <| u (bi (.t rfl) (.i rfl) rfl) <| u (ia sf34 (.t rfl) (.t rfl) (ix_map e8 hx5)) <| u (lr tf5 (.t rfl) rfl) <| u (cv cv5_24 (.t rfl)) <| u (bi (.i rfl) (.t rfl) rfl) <| u (mv (.t rfl)) <| u (mv (.t rfl)) <| u (bi (.t rfl) (.i rfl) rfl) <| u (ia sf34 (.t rfl) (.t rfl) (ix_map e8 hx6)) <| u (lr tf5 (.t rfl) rfl) <| u (cv cv5_24 (.t rfl)) <| u (bi (.t rfl) (.t rfl) rfl) <| u (bd bf55 zf55 (.c rfl (.t rfl) rfl rfl rfl <| .c rfl (.t rfl) rfl rfl rfl <| .n) rfl) <| bs (F := cells_Pair) (l := [(Pair.mk (ar .add .u16 (ar .mul .u16 256 (IntKind.u16.wrap x3)) (IntKind.u16.wrap x4)) (ar .add .u16 (ar .mul .u16 256 (IntKind.u16.wrap x5)) (IntKind.u16.wrap x6)))]) 53 pf23 (.c (.t rfl) rfl <| .n) rfl (fun _ _ => rfl) rfl rfl <| apo 54 pf23 (.t rfl) rfl (.t rfl) rfl hx7 rfl <| u (asg (.t rfl)) <| .nil _) (by kernel_rfl) rfl ?_
        refine .ib ?_
        refine .rg (u (mv (.t rfl)) <| u (bi (.t rfl) (.i rfl) rfl) <| u (asg (.t rfl)) <| .nil _) rfl ?_
        exact .ks (fun i => bif Nat.beq i 4 then 54 else i) (.il (ih1 (x7, (ar .add .i64 v2 4)) (nxi h))) (.c rfl (.c rfl (.c rfl .n))) (.c rfl .n) rfl
      · refine .xt rfl ?_
        replace h := mpR h hx1
        refine .sq ?_
        refine .rg (u (mv (.t rfl)) <| u (asg (.t rfl)) <| u (asg (.i rfl)) <| .nil _) rfl ?_
        obtain rfl := Option.some.inj h
        refine .ks (l := [(2, .own 0), (3, .ro (.int .i64 0))]) (o := [(0, some (.arr 55 2 (List.map cells_Pair v1)))]) (fun i => bif Nat.beq i 0 then 4 else i) ?_ (.c rfl (.c rfl .n)) (.c rfl .n) rfl
        exact .rt Tryz.func33 (.t rfl <| .t rfl <| .n) (.c rfl .n) rfl rfl

theorem ref15_Read_r {z : Option Nat} {b : List Int} {r : List Pair × Int} (h : ref15_Read z b = some r) :
    AC Tryz.prog 33 [.ro (.list 1 (List.map e8 b))] (.ro (.tup [.list 2 (List.map cells_Pair r.1), .int .i64 r.2])) [] := AC.fz (ref15_Read_c h) rfl

theorem ref18_Told_c {z : Option Nat} {c : Int} {most : Int} {r : List Int} (h : ref18_Told z c most = some r) :
    AC Tryz.prog 70 [.ro (.int .u16 c), .ro (.int .i64 most)] (.own 0) [(0, .arr 3 1 (List.map (ei .i64) r))] := by
  refine AC.of Tryz.func70 rfl rfl fun w M0 hM => ?_
  unfold ref18_Told at h
  refine .sq ?_
  refine .rg (anm (ei .i64) 4 3 1 rfl rfl <| .nil _) rfl ?_
  refine .sq ?_
  refine .rg (anm (ei .i64) 5 3 1 rfl rfl <| .nil _) rfl ?_
  refine .sq ?_
  refine .rg (u (mv (.t rfl)) <| u (cv cv24_3 (.t rfl)) <| u (asg (.t rfl)) <| .nil _) rfl ?_
  refine .sq ?_
  refine .bl ?_
  refine .sq ?_
  refine .rg (u (mv (.t rfl)) <| u (bc (.t rfl) (.i rfl) rfl rfl) <| u (asg (.t rfl)) <| .nil _) rfl ?_
  refine .jq (t := some r) (fun (a : List Int) => ⟨[(5, .own 5)], [(5, some (.arr 3 1 (List.map (ei .i64) a)))]⟩) (fun (a : List Int) => ref18_Told_j1 z a) ?_ (fun J1 => ?_)
  · intro v1 h
    replace h : ref18_Told_j1 z v1 = _ := h
    unfold ref18_Told_j1 at h
    refine .ib ?_
    refine .sq ?_
    refine .rg (u (mv (.t rfl)) <| u (asg (.t rfl)) <| .nil _) rfl ?_
    obtain rfl := Option.some.inj h
    refine .ks (l := [(4, .own 0)]) (o := [(0, some (.arr 3 1 (List.map (ei .i64) v1)))]) (fun i => bif Nat.beq i 0 then 5 else i) ?_ (.c rfl .n) (.c rfl .n) rfl
    exact .rt Tryz.func70 (.t rfl <| .n) (.c rfl .n) rfl rfl
  refine .bq h (.t rfl) (fun h => ?_) (fun h => ?_)
  · refine .sq ?_
    refine .rg (u (asg (.i rfl)) <| .nil _) rfl ?_
    refine .bl ?_
    unfold ref18_Told_l2 at h
    refine .kq (.lo (fun (s : List Int × Int) => ⟨[(1, .ro (.int .i64 most)), (5, .own 5), (6, .ro (.int .i64 (IntKind.i64.wrap c))), (7, .ro (.int .i64 s.2))], [(5, some (.arr 3 1 (List.map (ei .i64) s.1)))]⟩) h ?_) (.c rfl (.c rfl (.c rfl (.c rfl .n)))) (.c rfl .n)
    rintro ⟨v2, v3⟩ u2 h ih2 hx2
    replace h : ref18_Told_s2 z c most v2 v3 = _ := h
    unfold ref18_Told_s2 at h
    refine .sq ?_
    refine .sq ?_
    refine .rg (u (mv (.t rfl)) <| u (mv (.t rfl)) <| u (di (.t rfl) (.i rfl) rfl (by decide)) <| u (bc (.t rfl) (.t rfl) rfl rfl) <| u (mv (.t rfl)) <| gd rfl rfl (fun hB => mv (.t rfl)) <| gd rfl rfl (fun hB => mv (.t rfl)) <| gd rfl rfl (fun hB => bc (.m rfl hB) (.m rfl hB) rfl rfl) <| u (pka (.t rfl) (.t rfl)) <| .nil _) rfl ?_
    refine .bq h (.t rfl) (fun h => ?_) (fun h => ?_)
    · refine .skp ?_
      refine .sq ?_
      refine .bl ?_
      refine be h fun x4 hx4 h => ?_
      refine .rg (u (mv (.t rfl)) <| u (mv (.t rfl)) <| u (di (.t rfl) (.i rfl) rfl (by decide)) <| bs (F := (ei .i64)) (l := [(dv .quo .i64 (IntKind.i64.wrap c) 8192)]) 49 pf56 (.c (.t rfl) rfl <| .n) rfl (fun _ _ => rfl) rfl rfl <| apo 50 pf56 (.t rfl) rfl (.t rfl) rfl hx4 rfl <| u (asg (.t rfl)) <| .nil _) rfl ?_
      refine .ib ?_
      refine .rg (u (mv (.t rfl)) <| u (bi (.t rfl) (.i rfl) rfl) <| u (asg (.t rfl)) <| .nil _) rfl ?_
      exact .ks (fun i => bif Nat.beq i 5 then 50 else i) (.il (ih2 (x4, (ar .add .i64 v3 1)) (nxi h))) (.c rfl (.c rfl (.c rfl (.c rfl .n)))) (.c rfl .n) rfl
    · refine .xt rfl ?_
      replace h := mpR h hx2
      exact .kq (J1 v2 h) (.c rfl .n) (.c rfl .n)
  · refine .sq ?_
    refine .rg (u (mv (.t rfl)) <| u (bc (.t rfl) (.i rfl) rfl rfl) <| u (asg (.t rfl)) <| .nil _) rfl ?_
    refine .bq h (.t rfl) (fun h => ?_) (fun h => ?_)
    · refine .sq ?_
      refine .rg (u (asg (.i rfl)) <| .nil _) rfl ?_
      refine .sq ?_
      refine .rg (u (asg (.i rfl)) <| .nil _) rfl ?_
      refine .bl ?_
      unfold ref18_Told_l3 at h
      refine .kq (.lo (fun (s : List Int × Int × Int) => ⟨[(1, .ro (.int .i64 most)), (5, .own 5), (6, .ro (.int .i64 (IntKind.i64.wrap c))), (8, .ro (.int .i64 s.2.1)), (9, .ro (.int .i64 s.2.2))], [(5, some (.arr 3 1 (List.map (ei .i64) s.1)))]⟩) h ?_) (.c rfl (.c rfl (.c rfl (.c rfl (.c rfl .n))))) (.c rfl .n)
      rintro ⟨v5, v6, v7⟩ u3 h ih3 hx3
      replace h : ref18_Told_s3 z c most v5 v6 v7 = _ := h
      unfold ref18_Told_s3 at h
      refine .sq ?_
      refine .sq ?_
      refine .rg (u (mv (.t rfl)) <| u (bc (.t rfl) (.i rfl) rfl rfl) <| u (mv (.t rfl)) <| gd rfl rfl (fun hB => mv (.t rfl)) <| gd rfl rfl (fun hB => mv (.t rfl)) <| gd rfl rfl (fun hB => bc (.m rfl hB) (.m rfl hB) rfl rfl) <| u (pka (.t rfl) (.t rfl)) <| .nil _) rfl ?_
      refine .bq h (.t rfl) (fun h => ?_) (fun h => ?_)
      · refine .skp ?_
        refine .sq ?_
        refine .bl ?_
        refine .sq ?_
        refine be h fun x8 hx8 h => ?_
        refine be h fun x9 hx9 h => ?_
        refine .rg (u (mv (.t rfl)) <| u (mv (.t rfl)) <| u (mv (.t rfl)) <| u (dio (.t rfl) (.t rfl) rfl hx8) <| u (di (.t rfl) (.i rfl) rfl (by decide)) <| bs (F := (ei .i64)) (l := [(dv .rem .i64 x8 2)]) 68 pf56 (.c (.t rfl) rfl <| .n) rfl (fun _ _ => rfl) rfl rfl <| apo 69 pf56 (.t rfl) rfl (.t rfl) rfl hx9 rfl <| u (asg (.t rfl)) <| .nil _) rfl ?_
        refine .rg (u (mv (.t rfl)) <| u (di (.t rfl) (.i rfl) rfl (by decide)) <| u (asg (.t rfl)) <| .nil _) rfl ?_
        refine .ib ?_
        refine .rg (u (mv (.t rfl)) <| u (bi (.t rfl) (.i rfl) rfl) <| u (asg (.t rfl)) <| .nil _) rfl ?_
        exact .ks (fun i => bif Nat.beq i 5 then 69 else i) (.il (ih3 (x9, (dv .quo .i64 v6 2), (ar .add .i64 v7 1)) (nxi h))) (.c rfl (.c rfl (.c rfl (.c rfl (.c rfl .n))))) (.c rfl .n) rfl
      · refine .xt rfl ?_
        replace h := mpR h hx3
        exact .kq (J1 v5 h) (.c rfl .n) (.c rfl .n)
    · refine .sq ?_
      refine .rg (u (asg (.i rfl)) <| .nil _) rfl ?_
      refine .sq ?_
      refine .rg (u (asg (.i rfl)) <| .nil _) rfl ?_
      refine .bl ?_
      unfold ref18_Told_l4 at h
      refine .kq (.lo (fun (s : List Int × Int × Int) => ⟨[(1, .ro (.int .i64 most)), (5, .own 5), (6, .ro (.int .i64 (IntKind.i64.wrap c))), (10, .ro (.int .i64 s.2.1)), (11, .ro (.int .i64 s.2.2))], [(5, some (.arr 3 1 (List.map (ei .i64) s.1)))]⟩) h ?_) (.c rfl (.c rfl (.c rfl (.c rfl (.c rfl .n))))) (.c rfl .n)
      rintro ⟨v10, v11, v12⟩ u4 h ih4 hx4
      replace h : ref18_Told_s4 z c most v10 v11 v12 = _ := h
      unfold ref18_Told_s4 at h
      refine .sq ?_
      refine .sq ?_
      refine .rg (u (mv (.t rfl)) <| u (bc (.t rfl) (.i rfl) rfl rfl) <| u (mv (.t rfl)) <| gd rfl rfl (fun hB => mv (.t rfl)) <| gd rfl rfl (fun hB => mv (.t rfl)) <| gd rfl rfl (fun hB => bc (.m rfl hB) (.m rfl hB) rfl rfl) <| u (pka (.t rfl) (.t rfl)) <| .nil _) rfl ?_
      refine .bq h (.t rfl) (fun h => ?_) (fun h => ?_)
      · refine .skp ?_
        refine .sq ?_
        refine .bl ?_
        refine .sq ?_
        refine be h fun x13 hx13 h => ?_
        refine be h fun x14 hx14 h => ?_
        refine .rg (u (mv (.t rfl)) <| u (mv (.t rfl)) <| u (mv (.t rfl)) <| u (dio (.t rfl) (.t rfl) rfl hx13) <| u (di (.t rfl) (.i rfl) rfl (by decide)) <| bs (F := (ei .i64)) (l := [(dv .rem .i64 x13 4)]) 28 pf56 (.c (.t rfl) rfl <| .n) rfl (fun _ _ => rfl) rfl rfl <| apo 29 pf56 (.t rfl) rfl (.t rfl) rfl hx14 rfl <| u (asg (.t rfl)) <| .nil _) rfl ?_
        refine .rg (u (mv (.t rfl)) <| u (di (.t rfl) (.i rfl) rfl (by decide)) <| u (asg (.t rfl)) <| .nil _) rfl ?_
        refine .ib ?_
        refine .rg (u (mv (.t rfl)) <| u (bi (.t rfl) (.i rfl) rfl) <| u (asg (.t rfl)) <| .nil _) rfl ?_
        exact .ks (fun i => bif Nat.beq i 5 then 29 else i) (.il (ih4 (x14, (dv .quo .i64 v11 4), (ar .add .i64 v12 1)) (nxi h))) (.c rfl (.c rfl (.c rfl (.c rfl (.c rfl .n))))) (.c rfl .n) rfl
      · refine .xt rfl ?_
        replace h := mpR h hx4
        exact .kq (J1 v10 h) (.c rfl .n) (.c rfl .n)

theorem ref18_Told_r {z : Option Nat} {c : Int} {most : Int} {r : List Int} (h : ref18_Told z c most = some r) :
    AC Tryz.prog 70 [.ro (.int .u16 c), .ro (.int .i64 most)] (.ro (.list 1 (List.map (ei .i64) r))) [] := AC.fz (ref18_Told_c h) rfl

theorem ref18_Read_c {z : Option Nat} {chunks : List Int} {count : Int} {r : List Int × Int × Int} (h : ref18_Read z chunks count = some r) :
    AC Tryz.prog 58 [.ro (.list 1 (List.map (ei .u16) chunks)), .ro (.int .i64 count)] (.tup [.own 0, .ro (.int .i64 r.2.1), .ro (.int .i64 r.2.2)]) [(0, .arr 3 1 (List.map (ei .i64) r.1))] := by
  refine AC.of Tryz.func58 rfl rfl fun w M0 hM => ?_
  unfold ref18_Read at h
  refine .sq ?_
  refine .rg (anm (ei .i64) 4 3 1 rfl rfl <| u (asg (.i rfl)) <| u (asg (.i rfl)) <| .nil _) rfl ?_
  refine .sq ?_
  refine .sq ?_
  refine .rg (u (mv (.t rfl)) <| u (bc (.t rfl) (.i rfl) rfl rfl) <| u (mv (.t rfl)) <| gd rfl rfl (fun hB => mv (.t rfl)) <| gd rfl rfl (fun hB => bc (.m rfl hB) (.i rfl) rfl rfl) <| u (pko (.t rfl) (.t rfl)) <| .nil _) rfl ?_
  refine .bq h (.t rfl) (fun h => ?_) (fun h => ?_)
  · refine .sq ?_
    refine .rg (anm (ei .i64) 100004 3 1 rfl rfl <| u (asg (.i rfl)) <| u (asg (.i rfl)) <| .nil _) rfl ?_
    obtain rfl := Option.some.inj h
    refine .ks (l := [(4, .own 0), (5, .ro (.int .i64 0)), (6, .ro (.int .i64 1))]) (o := [(0, some (.arr 3 1 (List.map (ei .i64) [])))]) (fun i => bif Nat.beq i 0 then 100004 else i) ?_ (.c rfl (.c rfl (.c rfl .n))) (.c rfl .n) rfl
    exact .rt Tryz.func58 (.t rfl <| .t rfl <| .t rfl <| .n) (.c rfl .n) rfl rfl
  · refine .skp ?_
    refine .sq ?_
    refine .rg (anm (ei .i64) 7 3 1 rfl rfl <| .nil _) rfl ?_
    refine .sq ?_
    refine .rg (u (asg (.i rfl)) <| .nil _) rfl ?_
    refine .sq ?_
    refine .bl ?_
    unfold ref18_Read_l1 at h
    refine .kq (.lo (fun (s : List Int × Int) => ⟨[(0, .ro (.list 1 (List.map (ei .u16) chunks))), (1, .ro (.int .i64 count)), (7, .own 7), (8, .ro (.int .i64 s.2))], [(7, some (.arr 3 1 (List.map (ei .i64) s.1)))]⟩) h ?_) (.c rfl (.c rfl (.c rfl (.c rfl .n)))) (.c rfl .n)
    rintro ⟨v1, v2⟩ u1 h ih1 hx1
    replace h : ref18_Read_s1 z chunks count v1 v2 = _ := h
    unfold ref18_Read_s1 at h
    refine .sq ?_
    refine .sq ?_
    refine .rg (u (mv (.t rfl)) <| u (lom sf56 (.t rfl) rfl) <| u (mv (.t rfl)) <| u (bc (.t rfl) (.t rfl) rfl rfl) <| .nil _) rfl ?_
    refine .bq h (.t rfl) (fun h => ?_) (fun h => ?_)
    · refine .skp ?_
      refine .bl ?_
      refine .sq ?_
      refine .sq ?_
      refine .rg (u (mv (.t rfl)) <| u (mv (.t rfl)) <| u (lnm sf100 (.t rfl)) <| u (bc (.t rfl) (.t rfl) rfl rfl) <| .nil _) rfl ?_
      refine .bq h (.t rfl) (fun h => ?_) (fun h => ?_)
      · refine .sq ?_
        refine .rg (anm (ei .i64) 4 3 1 rfl rfl <| u (asg (.i rfl)) <| u (asg (.i rfl)) <| .nil _) rfl ?_
        replace h := mpR h hx1
        obtain rfl := Option.some.inj h
        refine .ks (l := [(4, .own 0), (5, .ro (.int .i64 0)), (6, .ro (.int .i64 2))]) (o := [(0, some (.arr 3 1 (List.map (ei .i64) [])))]) (fun i => bif Nat.beq i 0 then 4 else i) ?_ (.c rfl (.c rfl (.c rfl .n))) (.c rfl .n) rfl
        exact .rt Tryz.func58 (.t rfl <| .t rfl <| .t rfl <| .n) (.c rfl .n) rfl rfl
      · refine .skp ?_
        refine .sq ?_
        refine be h fun x3 hx3 h => ?_
        refine be h fun x4 hx4 h => ?_
        refine .rg (u (mv (.t rfl)) <| u (mv (.t rfl)) <| u (ia sf100 (.t rfl) (.t rfl) (ix_map (ei .u16) hx3)) <| u (lr tf24 (.t rfl) rfl) <| u (mv (.t rfl)) <| u (mv (.t rfl)) <| u (lom sf56 (.t rfl) rfl) <| u (bi (.t rfl) (.t rfl) rfl) <| cnf 34000 cf70 (ref18_Told_c hx4) (.c (.t rfl) <| .c (.t rfl) <| .n) rfl rfl rfl <| u (asg (.t rfl)) <| .nil _) rfl ?_
        refine .sq ?_
        refine .sq ?_
        refine .rg (u (asg (.i rfl)) <| .nil _) rfl ?_
        refine .bl ?_
        unfold ref18_Read_l2 at h
        refine .kq (.lo (fun (s : Int) => ⟨[(0, .ro (.list 1 (List.map (ei .u16) chunks))), (1, .ro (.int .i64 count)), (7, .own 7), (8, .ro (.int .i64 v2)), (9, .own 34000), (10, .ro (.int .i64 s))], [(7, some (.arr 3 1 (List.map (ei .i64) v1))), (34000, some (.arr 3 1 (List.map (ei .i64) x4)))]⟩) h ?_) (.c rfl (.c rfl (.c rfl (.c rfl (.c rfl (.c rfl .n)))))) (.c rfl (.c rfl .n))
        intro v5 u2 h ih2 hx2
        replace h : ref18_Read_s2 z v1 v2 x4 v5 = _ := h
        unfold ref18_Read_s2 at h
        refine .sq ?_
        refine .sq ?_
        refine .rg (u (mv (.t rfl)) <| u (mv (.t rfl)) <| u (lom sf56 (.t rfl) rfl) <| u (bc (.t rfl) (.t rfl) rfl rfl) <| .nil _) rfl ?_
        refine .bq h (.t rfl) (fun h => ?_) (fun h => ?_)
        · refine .skp ?_
          refine .sq ?_
          refine .bl ?_
          refine .sq ?_
          refine be h fun x6 hx6 h => ?_
          refine .rg (u (mv (.t rfl)) <| u (mv (.t rfl)) <| u (io sf56 (.t rfl) rfl (.t rfl) (ix_map (ei .i64) hx6)) <| u (le tf3 (.t rfl) rfl (ix_lt (ix_map _ hx6)).2.2 rfl) <| u (bc (.t rfl) (.i rfl) rfl rfl) <| .nil _) rfl ?_
          refine .bq h (.t rfl) (fun h => ?_) (fun h => ?_)
          · refine .sq ?_
            refine .rg (anm (ei .i64) 4 3 1 rfl rfl <| u (asg (.i rfl)) <| u (asg (.i rfl)) <| .nil _) rfl ?_
            replace h := mpR h hx2
            replace h := mpR h hx1
            obtain rfl := Option.some.inj h
            refine .ks (l := [(4, .own 0), (5, .ro (.int .i64 0)), (6, .ro (.int .i64 6))]) (o := [(0, some (.arr 3 1 (List.map (ei .i64) [])))]) (fun i => bif Nat.beq i 0 then 4 else i) ?_ (.c rfl (.c rfl (.c rfl .n))) (.c rfl .n) rfl
            exact .rt Tryz.func58 (.t rfl <| .t rfl <| .t rfl <| .n) (.c rfl .n) rfl rfl
          · refine .skp ?_
            refine .ib ?_
            refine .rg (u (mv (.t rfl)) <| u (bi (.t rfl) (.i rfl) rfl) <| u (asg (.t rfl)) <| .nil _) rfl ?_
            exact .kq (.il (ih2 (ar .add .i64 v5 1) (nxi h))) (.c rfl (.c rfl (.c rfl (.c rfl (.c rfl (.c rfl .n)))))) (.c rfl (.c rfl .n))
        · refine .xt rfl ?_
          replace h := mpR h hx2
          refine .sq ?_
          refine be h fun x7 hx7 h => ?_
          refine .rg (u (mv (.t rfl)) <| u (mv (.t rfl)) <| apo 47 pf56 (.t rfl) rfl (.t rfl) rfl hx7 rfl <| u (asg (.t rfl)) <| .nil _) rfl ?_
          refine .rg (u (mv (.t rfl)) <| u (bi (.t rfl) (.i rfl) rfl) <| u (asg (.t rfl)) <| .nil _) rfl ?_
          refine .ib ?_
          exact .ks (fun i => bif Nat.beq i 7 then 47 else i) (.il (ih1 (x7, (ar .add .i64 v2 1)) (nxi h))) (.c rfl (.c rfl (.c rfl (.c rfl .n)))) (.c rfl .n) rfl
    · refine .xt rfl ?_
      replace h := mpR h hx1
      refine .sq ?_
      refine .rg (u (mv (.t rfl)) <| u (mv (.t rfl)) <| u (asg (.t rfl)) <| u (asg (.t rfl)) <| u (asg (.i rfl)) <| .nil _) rfl ?_
      obtain rfl := Option.some.inj h
      refine .ks (l := [(4, .own 0), (5, .ro (.int .i64 v2)), (6, .ro (.int .i64 0))]) (o := [(0, some (.arr 3 1 (List.map (ei .i64) v1)))]) (fun i => bif Nat.beq i 0 then 7 else i) ?_ (.c rfl (.c rfl (.c rfl .n))) (.c rfl .n) rfl
      exact .rt Tryz.func58 (.t rfl <| .t rfl <| .t rfl <| .n) (.c rfl .n) rfl rfl

theorem ref18_Read_r {z : Option Nat} {chunks : List Int} {count : Int} {r : List Int × Int × Int} (h : ref18_Read z chunks count = some r) :
    AC Tryz.prog 58 [.ro (.list 1 (List.map (ei .u16) chunks)), .ro (.int .i64 count)] (.ro (.tup [.list 1 (List.map (ei .i64) r.1), .int .i64 r.2.1, .int .i64 r.2.2])) [] := AC.fz (ref18_Read_c h) rfl

theorem ref01_Signed_c {z : Option Nat} {b : List Int} {at_ : Int} {n : Int} {r : Int × Int} (h : ref01_Signed z b at_ n = some r) :
    AC Tryz.prog 59 [.ro (.list 1 (List.map e8 b)), .ro (.int .i64 at_), .ro (.int .i64 n)] (.ro (.tup [.int .i64 r.1, .int .i64 r.2])) [] := by
  refine AC.of Tryz.func59 rfl rfl fun w M0 hM => ?_
  unfold ref01_Signed at h
  refine .sq ?_
  refine .rg (u (asg (.i rfl)) <| u (asg (.i rfl)) <| .nil _) rfl ?_
  refine .sq ?_
  refine be h fun x1 hx1 h => ?_
  refine .rg (u (mv (.t rfl)) <| u (mv (.t rfl)) <| u (mv (.t rfl)) <| cl [] cf57 (ref01_Get_c hx1) (.c (.t rfl) <| .c (.t rfl) <| .c (.t rfl) <| .n) (.inl rfl) <| u (mv (.t rfl)) <| u (ex (.t rfl) rfl rfl) <| u (ex (.t rfl) rfl rfl) <| u (asg (.t rfl)) <| u (asg (.t rfl)) <| .nil _) rfl ?_
  refine .sq ?_
  refine .sq ?_
  refine .rg (u (mv (.t rfl)) <| u (bc (.t rfl) (.i rfl) rfl rfl) <| u (mv (.t rfl)) <| gd rfl rfl (fun hB => mv (.t rfl)) <| gd rfl rfl (fun hB => bc (.m rfl hB) (.i rfl) rfl rfl) <| u (pko (.t rfl) (.t rfl)) <| .nil _) rfl ?_
  refine .bq h (.t rfl) (fun h => ?_) (fun h => ?_)
  · refine .sq ?_
    refine .rg (u (mv (.t rfl)) <| u (cv cv64_2 (.t rfl)) <| u (mv (.t rfl)) <| u (asg (.t rfl)) <| u (asg (.t rfl)) <| .nil _) rfl ?_
    obtain rfl := Option.some.inj h
    exact .rt Tryz.func59 (.t rfl <| .t rfl <| .n) .n rfl rfl
  · refine .skp ?_
    refine .sq ?_
    refine .rg (u (asg (.i rfl)) <| .nil _) rfl ?_
    refine .sq ?_
    refine .sq ?_
    refine .rg (u (asg (.i rfl)) <| .nil _) rfl ?_
    refine .bl ?_
    unfold ref01_Signed_l1 at h
    refine .kq (.lo (fun (s : Int × Int) => ⟨[(2, .ro (.int .i64 n)), (8, .ro (.int .u64 x1.1)), (10, .ro (.int .i64 s.1)), (11, .ro (.int .i64 s.2))], []⟩) h ?_) (.c rfl (.c rfl (.c rfl (.c rfl .n)))) .n
    rintro ⟨v2, v3⟩ u1 h ih1 hx1
    replace h : ref01_Signed_s1 z n x1 v2 v3 = _ := h
    unfold ref01_Signed_s1 at h
    refine .sq ?_
    refine .sq ?_
    refine .rg (u (mv (.t rfl)) <| u (mv (.t rfl)) <| u (bc (.t rfl) (.t rfl) rfl rfl) <| .nil _) rfl ?_
    refine .bq h (.t rfl) (fun h => ?_) (fun h => ?_)
    · refine .skp ?_
      refine .sq ?_
      refine .bl ?_
      refine .rg (u (mv (.t rfl)) <| u (bi (.t rfl) (.i rfl) rfl) <| u (asg (.t rfl)) <| .nil _) rfl ?_
      refine .ib ?_
      refine .rg (u (mv (.t rfl)) <| u (bi (.t rfl) (.i rfl) rfl) <| u (asg (.t rfl)) <| .nil _) rfl ?_
      exact .kq (.il (ih1 ((ar .mul .i64 v2 256), (ar .add .i64 v3 1)) (nxi h))) (.c rfl (.c rfl (.c rfl (.c rfl .n)))) .n
    · refine .xt rfl ?_
      replace h := mpR h hx1
      refine .sq ?_
      refine .rg (u (mv (.t rfl)) <| u (di (.t rfl) (.i rfl) rfl (by decide)) <| u (asg (.t rfl)) <| .nil _) rfl ?_
      refine .sq ?_
      refine .sq ?_
      refine .rg (u (mv (.t rfl)) <| u (cv cv64_2 (.t rfl)) <| u (mv (.t rfl)) <| u (bc (.t rfl) (.t rfl) rfl rfl) <| .nil _) rfl ?_
      refine .bq h (.t rfl) (fun h => ?_) (fun h => ?_)
      · refine .sq ?_
        refine .rg (u (mv (.t rfl)) <| u (cv cv64_2 (.t rfl)) <| u (mv (.t rfl)) <| u (bi (.i rfl) (.t rfl) rfl) <| u (bi (.t rfl) (.t rfl) rfl) <| u (asg (.t rfl)) <| u (asg (.i rfl)) <| .nil _) rfl ?_
        obtain rfl := Option.some.inj h
        exact .rt Tryz.func59 (.t rfl <| .t rfl <| .n) .n rfl rfl
      · refine .skp ?_
        refine .sq ?_
        refine .rg (u (mv (.t rfl)) <| u (cv cv64_2 (.t rfl)) <| u (asg (.t rfl)) <| u (asg (.i rfl)) <| .nil _) rfl ?_
        obtain rfl := Option.some.inj h
        exact .rt Tryz.func59 (.t rfl <| .t rfl <| .n) .n rfl rfl

theorem ref19_Read_c {z : Option Nat} {b : List Int} {r : Arrive × Int} (h : ref19_Read z b = some r) :
    AC Tryz.prog 34 [.ro (.list 1 (List.map e8 b))] (.ro (.tup [enc_Arrive r.1, .int .i64 r.2])) [] := by
  refine AC.of Tryz.func34 rfl rfl fun w M0 hM => ?_
  unfold ref19_Read at h
  refine .sq ?_
  refine .rg (al 2 zf27 rfl <| u (asg (.i rfl)) <| .nil _) rfl ?_
  refine .sq ?_
  refine .sq ?_
  refine .rg (u (mv (.t rfl)) <| u (lnm sf34 (.t rfl)) <| u (bc (.t rfl) (.i rfl) rfl rfl) <| u (mv (.t rfl)) <| gd rfl rfl (fun hB => mv (.t rfl)) <| gd rfl rfl (fun hB => lnm sf34 (.m rfl hB)) <| gd rfl rfl (fun hB => di (.m rfl hB) (.i rfl) rfl (by decide)) <| gd rfl rfl (fun hB => bc (.m rfl hB) (.i rfl) rfl rfl) <| u (pko (.t rfl) (.t rfl)) <| .nil _) rfl ?_
  refine .bq h (.t rfl) (fun h => ?_) (fun h => ?_)
  · refine .sq ?_
    refine .rg (u (bd bf27 zf27 (.n) rfl) <| st tf27 (.t rfl) rfl (.t rfl) rfl rfl rfl <| u (asg (.i rfl)) <| .nil _) rfl ?_
    obtain rfl := Option.some.inj h
    exact .rt Tryz.func34 (.c tf27 rfl rfl rfl <| .t rfl <| .n) .n rfl rfl
  · refine .skp ?_
    refine .sq ?_
    refine .sq ?_
    refine .rg (u (mv (.t rfl)) <| u (lnm sf34 (.t rfl)) <| u (bc (.t rfl) (.i rfl) rfl rfl) <| .nil _) rfl ?_
    refine .bq h (.t rfl) (fun h => ?_) (fun h => ?_)
    · refine .sq ?_
      refine .rg (u (bd bf27 zf27 (.n) rfl) <| st tf27 (.t rfl) rfl (.t rfl) rfl rfl rfl <| u (asg (.i rfl)) <| .nil _) rfl ?_
      obtain rfl := Option.some.inj h
      exact .rt Tryz.func34 (.c tf27 rfl rfl rfl <| .t rfl <| .n) .n rfl rfl
    · refine .skp ?_
      refine .sq ?_
      refine be h fun x1 hx1 h => ?_
      refine .rg (u (mv (.t rfl)) <| cl [] cf32 (ref05_Num_c hx1) (.c (.t rfl) <| .c (.i rfl) <| .c (.i rfl) <| .n) (.inl rfl) <| u (cv cv22_3 (.t rfl)) <| u (asg (.t rfl)) <| .nil _) rfl ?_
      refine .sq ?_
      refine .sq ?_
      refine .rg (u (mv (.t rfl)) <| u (bc (.t rfl) (.i rfl) rfl rfl) <| .nil _) rfl ?_
      refine .bq h (.t rfl) (fun h => ?_) (fun h => ?_)
      · refine .sq ?_
        refine .rg (u (bd bf27 zf27 (.n) rfl) <| st tf27 (.t rfl) rfl (.t rfl) rfl rfl rfl <| u (asg (.i rfl)) <| .nil _) rfl ?_
        obtain rfl := Option.some.inj h
        exact .rt Tryz.func34 (.c tf27 rfl rfl rfl <| .t rfl <| .n) .n rfl rfl
      · refine .skp ?_
        refine .sq ?_
        refine .rg (anm (ei .u16) 5 24 1 rfl rfl <| .nil _) rfl ?_
        refine .sq ?_
        refine .sq ?_
        refine .rg (u (asg (.i rfl)) <| .nil _) rfl ?_
        refine .bl ?_
        unfold ref19_Read_l1 at h
        refine .kq (.lo (fun (s : List Int × Int) => ⟨[(0, .ro (.list 1 (List.map e8 b))), (2, .ptr 2 0), (4, .ro (.int .i64 (IntKind.i64.wrap x1))), (5, .own 5), (6, .ro (.int .i64 s.2))], [(2, some (.box [.ro (.int .u16 0), .ro (.int .i64 0), .ro (.int .u8 0), .ro (.list 2 (List.map cells_Seen []))])), (5, some (.arr 24 1 (List.map (ei .u16) s.1)))]⟩) h ?_) (.c rfl (.c rfl (.c rfl (.c rfl (.c rfl .n))))) (.c rfl (.c rfl .n))
        rintro ⟨v2, v3⟩ u1 h ih1 hx1
        replace h : ref19_Read_s1 z b x1 v2 v3 = _ := h
        unfold ref19_Read_s1 at h
        refine .sq ?_
        refine .sq ?_
        refine .rg (u (mv (.t rfl)) <| u (mv (.t rfl)) <| u (lnm sf34 (.t rfl)) <| u (bc (.t rfl) (.t rfl) rfl rfl) <| .nil _) rfl ?_
        refine .bq h (.t rfl) (fun h => ?_) (fun h => ?_)
        · refine .skp ?_
          refine .sq ?_
          refine .bl ?_
          refine be h fun x4 hx4 h => ?_
          refine be h fun x5 hx5 h => ?_
          refine .rg (u (mv (.t rfl)) <| u (mv (.t rfl)) <| u (mv (.t rfl)) <| cl [] cf32 (ref05_Num_c hx4) (.c (.t rfl) <| .c (.t rfl) <| .c (.i rfl) <| .n) (.inl rfl) <| u (cv cv22_24 (.t rfl)) <| bs (F := (ei .u16)) (l := [(IntKind.u16.wrap x4)]) 49 pf100 (.c (.t rfl) rfl <| .n) rfl (fun _ _ => rfl) rfl rfl <| apo 50 pf100 (.t rfl) rfl (.t rfl) rfl hx5 rfl <| u (asg (.t rfl)) <| .nil _) rfl ?_
          refine .ib ?_
          refine .rg (u (mv (.t rfl)) <| u (bi (.t rfl) (.i rfl) rfl) <| u (asg (.t rfl)) <| .nil _) rfl ?_
          exact .ks (fun i => bif Nat.beq i 5 then 50 else i) (.il (ih1 (x5, (ar .add .i64 v3 2)) (nxi h))) (.c rfl (.c rfl (.c rfl (.c rfl (.c rfl .n))))) (.c rfl (.c rfl .n)) rfl
        · refine .xt rfl ?_
          replace h := mpR h hx1
          refine .sq ?_
          refine .fz 5 rfl ?_
          refine be h fun x6 hx6 h => ?_
          refine .rg (u (mv (.t rfl)) <| u (mv (.t rfl)) <| cnf 55000 cf58 (ref18_Read_c hx6) (.c (.t rfl) <| .c (.t rfl) <| .n) rfl rfl rfl <| u (mv (.t rfl)) <| u (ex (.t rfl) rfl rfl) <| u (ex (.t rfl) rfl rfl) <| u (ex (.t rfl) rfl rfl) <| u (asg (.t rfl)) <| u (asg (.t rfl)) <| u (asg (.t rfl)) <| .nil _) rfl ?_
          refine .sq ?_
          refine .sq ?_
          refine .rg (u (mv (.t rfl)) <| u (bc (.t rfl) (.i rfl) rfl rfl) <| .nil _) rfl ?_
          refine .bq h (.t rfl) (fun h => ?_) (fun h => ?_)
          · refine .sq ?_
            refine .rg (u (bd bf27 zf27 (.n) rfl) <| u (mv (.t rfl)) <| st tf27 (.t rfl) rfl (.t rfl) rfl rfl rfl <| u (asg (.t rfl)) <| .nil _) rfl ?_
            obtain rfl := Option.some.inj h
            exact .rt Tryz.func34 (.c tf27 rfl rfl rfl <| .t rfl <| .n) .n rfl rfl
          · refine .skp ?_
            refine .sq ?_
            refine .rg (u (mv (.t rfl)) <| u (bi (.i rfl) (.t rfl) rfl) <| u (bi (.i rfl) (.t rfl) rfl) <| u (asg (.t rfl)) <| .nil _) rfl ?_
            refine .sq ?_
            refine be h fun x7 hx7 h => ?_
            refine .rg (u (mv (.t rfl)) <| cl [] cf59 (ref01_Signed_c hx7) (.c (.t rfl) <| .c (.i rfl) <| .c (.i rfl) <| .n) (.inl rfl) <| u (mv (.t rfl)) <| u (ex (.t rfl) rfl rfl) <| u (ex (.t rfl) rfl rfl) <| u (asg (.t rfl)) <| u (asg (.t rfl)) <| .nil _) rfl ?_
            refine .sq ?_
            refine be h fun x8 hx8 h => ?_
            refine be h fun x9 hx9 h => ?_
            refine .rd mixed (u (mv (.t rfl)) <| cl [] cf32 (ref05_Num_c hx8) (.c (.t rfl) <| .c (.i rfl) <| .c (.i rfl) <| .n) (.inl rfl) <| u (cv cv22_24 (.t rfl)) <| u (mv (.t rfl)) <| u (mv (.t rfl)) <| u (ia sf34 (.t rfl) (.i rfl) (ix_map e8 hx9)) <| u (lr tf5 (.t rfl) rfl) <| u (bd bf27 zf27_3 (.c rfl (.t rfl) rfl rfl rfl <| .c rfl (.t rfl) rfl rfl rfl <| .c rfl (.t rfl) rfl rfl rfl <| .n) rfl) <| al 13 zf27_3 rfl <| st tf27 (.t rfl) rfl (.t rfl) rfl rfl rfl <| .nil _) (by kernel_rfl) rfl ?_
            refine .th (F := cells_Seen) 13 3 701303 90 2 rfl rfl rfl ?_
            refine .sq ?_
            refine .sq ?_
            refine .rg (u (asg (.i rfl)) <| .nil _) rfl ?_
            refine .bl ?_
            unfold ref19_Read_l2 at h
            refine .ks (fun i => bif Nat.beq i 10230003 then 701303 else i) (.lo (fun (s : Int × Int × Arrive × Arrive) => ⟨[(0, .ro (.list 1 (List.map e8 b))), (2, .ptr 2 0), (4, .ro (.int .i64 (IntKind.i64.wrap x1))), (7, .own 55000), (10, .ro (.int .i64 s.1)), (13, .ptr 13 0), (14, .ro (.int .i64 s.2.1))], [(2, some (.box [.ro (.int .u16 s.2.2.1.base), .ro (.int .i64 s.2.2.1.time), .ro (.int .u8 s.2.2.1.count), .ro (.list 2 (List.map cells_Seen s.2.2.1.seen))])), (13, some (.box [.ro (.int .u16 s.2.2.2.base), .ro (.int .i64 s.2.2.2.time), .ro (.int .u8 s.2.2.2.count), .own 10230003])), (55000, some (.arr 3 1 (List.map (ei .i64) x6.1))), (10230003, some (.arr 90 2 (List.map cells_Seen s.2.2.2.seen)))]⟩) h ?_) (.c rfl (.c rfl (.c rfl (.c rfl (.c rfl (.c rfl (.c rfl .n))))))) (.c rfl (.c rfl (.c rfl (.c rfl .n)))) rfl
            rintro ⟨v10, v11, v12, v13⟩ u2 h ih2 hx2
            replace h : ref19_Read_s2 z b x1 x6 v10 v11 v12 v13 = _ := h
            unfold ref19_Read_s2 at h
            refine .sq ?_
            refine .sq ?_
            refine .rg (u (mv (.t rfl)) <| u (mv (.t rfl)) <| u (bc (.t rfl) (.t rfl) rfl rfl) <| .nil _) rfl ?_
            refine .bq h (.t rfl) (fun h => ?_) (fun h => ?_)
            · refine .skp ?_
              refine .sq ?_
              refine .bl ?_
              refine .sq ?_
              refine be h fun x14 hx14 h => ?_
              refine .rg (u (mv (.t rfl)) <| u (mv (.t rfl)) <| u (io sf56 (.t rfl) rfl (.t rfl) (ix_map (ei .i64) hx14)) <| u (le tf3 (.t rfl) rfl (ix_lt (ix_map _ hx14)).2.2 rfl) <| u (bd bf90 zf90 (.c rfl (.t rfl) rfl rfl rfl <| .n) rfl) <| al 15 zf90 rfl <| st tf90 (.t rfl) rfl (.t rfl) rfl rfl rfl <| .nil _) rfl ?_
              refine .sq ?_
              refine .sq ?_
              refine .rg (u (mv (.t rfl)) <| u (fa ff90_0 (.t rfl)) <| u (ld tf3 (.t rfl) rfl rfl) <| u (bi (.t rfl) (.t rfl) rfl) <| u (mv (.t rfl)) <| u (lnm sf34 (.t rfl)) <| u (bc (.t rfl) (.t rfl) rfl rfl) <| .nil _) rfl ?_
              refine .bq h (.t rfl) (fun h => ?_) (fun h => ?_)
              · refine .sq ?_
                refine .rg (u (bd bf27 zf27 (.n) rfl) <| st tf27 (.t rfl) rfl (.t rfl) rfl rfl rfl <| u (asg (.i rfl)) <| .nil _) rfl ?_
                replace h := mpR h hx2
                obtain rfl := Option.some.inj h
                exact .rt Tryz.func34 (.c tf27 rfl rfl rfl <| .t rfl <| .n) .n rfl rfl
              · refine .skp ?_
                refine .sq ?_
                refine .sq ?_
                refine .rg (u (fa ff90_0 (.t rfl)) <| u (ld tf3 (.t rfl) rfl rfl) <| u (bc (.t rfl) (.i rfl) rfl rfl) <| .nil _) rfl ?_
                refine .jq (t := some u2) (fun (a : Seen) => ⟨[(0, .ro (.list 1 (List.map e8 b))), (2, .ptr 2 0), (4, .ro (.int .i64 (IntKind.i64.wrap x1))), (7, .own 55000), (10, .ro (.int .i64 v10)), (13, .ptr 13 0), (14, .ro (.int .i64 v11)), (15, .ptr 15 0)], [(2, some (.box [.ro (.int .u16 v12.base), .ro (.int .i64 v12.time), .ro (.int .u8 v12.count), .ro (.list 2 (List.map cells_Seen v12.seen))])), (13, some (.box [.ro (.int .u16 v13.base), .ro (.int .i64 v13.time), .ro (.int .u8 v13.count), .own 10230003])), (15, some (.box [.ro (.int .i64 a.what), .ro (.int .i64 a.delta)])), (55000, some (.arr 3 1 (List.map (ei .i64) x6.1))), (10230003, some (.arr 90 2 (List.map cells_Seen v13.seen)))]⟩) (fun (a : Seen) => ref19_Read_j3 z b v10 v11 v12 v13 a) ?_ (fun J3 => ?_)
                · intro v15 h
                  replace h : ref19_Read_j3 z b v10 v11 v12 v13 v15 = _ := h
                  unfold ref19_Read_j3 at h
                  refine .sq ?_
                  refine .sq ?_
                  refine .rg (u (fa ff90_0 (.t rfl)) <| u (ld tf3 (.t rfl) rfl rfl) <| u (bc (.t rfl) (.i rfl) rfl rfl) <| .nil _) rfl ?_
                  refine .jq (t := some u2) (fun (a : Seen) => ⟨[(0, .ro (.list 1 (List.map e8 b))), (2, .ptr 2 0), (4, .ro (.int .i64 (IntKind.i64.wrap x1))), (7, .own 55000), (10, .ro (.int .i64 v10)), (13, .ptr 13 0), (14, .ro (.int .i64 v11)), (15, .ptr 15 0)], [(2, some (.box [.ro (.int .u16 v12.base), .ro (.int .i64 v12.time), .ro (.int .u8 v12.count), .ro (.list 2 (List.map cells_Seen v12.seen))])), (13, some (.box [.ro (.int .u16 v13.base), .ro (.int .i64 v13.time), .ro (.int .u8 v13.count), .own 10230003])), (15, some (.box [.ro (.int .i64 a.what), .ro (.int .i64 a.delta)])), (55000, some (.arr 3 1 (List.map (ei .i64) x6.1))), (10230003, some (.arr 90 2 (List.map cells_Seen v13.seen)))]⟩) (fun (a : Seen) => ref19_Read_j4 z v10 v11 v12 v13 a) ?_ (fun J4 => ?_)
                  · intro v16 h
                    replace h : ref19_Read_j4 z v10 v11 v12 v13 v16 = _ := h
                    unfold ref19_Read_j4 at h
                    refine .sq ?_
                    refine .rg (u (mv (.t rfl)) <| u (fa ff90_0 (.t rfl)) <| u (ld tf3 (.t rfl) rfl rfl) <| u (bi (.t rfl) (.t rfl) rfl) <| u (asg (.t rfl)) <| .nil _) rfl ?_
                    refine be h fun x17 hx17 h => ?_
                    refine .rg (u (fa ff27_3 (.t rfl)) <| u (ld tf25 (.t rfl) rfl rfl) <| u (ld tf90 (.t rfl) rfl rfl) <| bs (F := cells_Seen) (l := [v16]) 123 pf25 (.c (.t rfl) rfl <| .n) rfl (fun _ _ => rfl) rfl rfl <| apo 124 pf25 (.t rfl) rfl (.t rfl) rfl hx17 rfl <| u (fa ff27_3 (.t rfl)) <| st tf25 (.t rfl) rfl (.t rfl) rfl rfl rfl <| .nil _) rfl ?_
                    refine .ib ?_
                    refine .rg (u (mv (.t rfl)) <| u (bi (.t rfl) (.i rfl) rfl) <| u (asg (.t rfl)) <| .nil _) rfl ?_
                    exact .ks (fun i => bif Nat.beq i 10230003 then 124 else i) (.il (ih2 ((ar .add .i64 v10 v16.what), (ar .add .i64 v11 1), v12, { v13 with seen := x17 }) (nxi h))) (.c rfl (.c rfl (.c rfl (.c rfl (.c rfl (.c rfl (.c rfl .n))))))) (.c rfl (.c rfl (.c rfl (.c rfl .n)))) rfl
                  refine .bq h (.t rfl) (fun h => ?_) (fun h => ?_)
                  · refine .sq ?_
                    refine be h fun x18 hx18 h => ?_
                    refine .rg (u (mv (.t rfl)) <| u (mv (.t rfl)) <| cl [] cf59 (ref01_Signed_c hx18) (.c (.t rfl) <| .c (.t rfl) <| .c (.i rfl) <| .n) (.inl rfl) <| u (mv (.t rfl)) <| u (ex (.t rfl) rfl rfl) <| u (ex (.t rfl) rfl rfl) <| u (asg (.t rfl)) <| u (asg (.t rfl)) <| .nil _) rfl ?_
                    refine .rg (u (mv (.t rfl)) <| u (fa ff90_1 (.t rfl)) <| st tf3 (.t rfl) rfl (.t rfl) rfl rfl rfl <| .nil _) rfl ?_
                    exact .kq (J4 ({ v15 with delta := x18.1 }) h) (.c rfl (.c rfl (.c rfl (.c rfl (.c rfl (.c rfl (.c rfl (.c rfl .n)))))))) (.c rfl (.c rfl (.c rfl (.c rfl (.c rfl .n)))))
                  · refine .skp ?_
                    exact .kq (J4 v15 h) (.c rfl (.c rfl (.c rfl (.c rfl (.c rfl (.c rfl (.c rfl (.c rfl .n)))))))) (.c rfl (.c rfl (.c rfl (.c rfl (.c rfl .n)))))
                refine .bq h (.t rfl) (fun h => ?_) (fun h => ?_)
                · refine be h fun x19 hx19 h => ?_
                  refine .rg (u (mv (.t rfl)) <| u (mv (.t rfl)) <| u (ia sf34 (.t rfl) (.t rfl) (ix_map e8 hx19)) <| u (lr tf5 (.t rfl) rfl) <| u (cv cv5_3 (.t rfl)) <| u (fa ff90_1 (.t rfl)) <| st tf3 (.t rfl) rfl (.t rfl) rfl rfl rfl <| .nil _) rfl ?_
                  exact .kq (J3 (Seen.mk x14 (IntKind.i64.wrap x19)) h) (.c rfl (.c rfl (.c rfl (.c rfl (.c rfl (.c rfl (.c rfl (.c rfl .n)))))))) (.c rfl (.c rfl (.c rfl (.c rfl (.c rfl .n)))))
                · refine .skp ?_
                  exact .kq (J3 (Seen.mk x14 0) h) (.c rfl (.c rfl (.c rfl (.c rfl (.c rfl (.c rfl (.c rfl (.c rfl .n)))))))) (.c rfl (.c rfl (.c rfl (.c rfl (.c rfl .n)))))
            · refine .xt rfl ?_
              replace h := mpR h hx2
              refine .sq ?_
              refine .sq ?_
              refine .rg (u (mv (.t rfl)) <| u (lnm sf34 (.t rfl)) <| u (mv (.t rfl)) <| u (bi (.t rfl) (.t rfl) rfl) <| u (bc (.t rfl) (.i rfl) rfl rfl) <| .nil _) rfl ?_
              refine .bq h (.t rfl) (fun h => ?_) (fun h => ?_)
              · refine .sq ?_
                refine .rg (u (bd bf27 zf27 (.n) rfl) <| st tf27 (.t rfl) rfl (.t rfl) rfl rfl rfl <| u (asg (.i rfl)) <| .nil _) rfl ?_
                obtain rfl := Option.some.inj h
                exact .rt Tryz.func34 (.c tf27 rfl rfl rfl <| .t rfl <| .n) .n rfl rfl
              · refine .skp ?_
                refine .sq ?_
                refine .rg (u (ld tf27 (.t rfl) rfl rfl) <| st tf27 (.t rfl) rfl (.t rfl) rfl rfl rfl <| u (asg (.i rfl)) <| .nil _) rfl ?_
                refine .fz 10230003 rfl ?_
                obtain rfl := Option.some.inj h
                exact .rt Tryz.func34 (.c tf27 rfl rfl rfl <| .t rfl <| .n) .n rfl rfl

theorem ref16_Read_c {z : Option Nat} {b : List Int} {r : List Entry × Int} (h : ref16_Read z b = some r) :
    AC Tryz.prog 35 [.ro (.list 1 (List.map e8 b))] (.tup [.own 0, .ro (.int .i64 r.2)]) [(0, .arr 104 2 (List.map cells_Entry r.1))] := by
  refine AC.of Tryz.func35 rfl rfl fun w M0 hM => ?_
  unfold ref16_Read at h
  refine .sq ?_
  refine .rg (anm cells_Entry 2 104 2 rfl rfl <| u (asg (.i rfl)) <| .nil _) rfl ?_
  refine .sq ?_
  refine .sq ?_
  refine .rg (u (mv (.t rfl)) <| u (lnm sf34 (.t rfl)) <| u (bc (.t rfl) (.i rfl) rfl rfl) <| u (mv (.t rfl)) <| gd rfl rfl (fun hB => mv (.t rfl)) <| gd rfl rfl (fun hB => lnm sf34 (.m rfl hB)) <| gd rfl rfl (fun hB => di (.m rfl hB) (.i rfl) rfl (by decide)) <| gd rfl rfl (fun hB => bc (.m rfl hB) (.i rfl) rfl rfl) <| u (pko (.t rfl) (.t rfl)) <| .nil _) rfl ?_
  refine .bq h (.t rfl) (fun h => ?_) (fun h => ?_)
  · refine .sq ?_
    refine .rg (anm cells_Entry 100002 104 2 rfl rfl <| u (asg (.i rfl)) <| .nil _) rfl ?_
    obtain rfl := Option.some.inj h
    refine .ks (l := [(2, .own 0), (3, .ro (.int .i64 4))]) (o := [(0, some (.arr 104 2 (List.map cells_Entry [])))]) (fun i => bif Nat.beq i 0 then 100002 else i) ?_ (.c rfl (.c rfl .n)) (.c rfl .n) rfl
    exact .rt Tryz.func35 (.t rfl <| .t rfl <| .n) (.c rfl .n) rfl rfl
  · refine .skp ?_
    refine .sq ?_
    refine .sq ?_
    refine .rg (u (mv (.t rfl)) <| u (lnm sf34 (.t rfl)) <| u (bc (.t rfl) (.i rfl) rfl rfl) <| .nil _) rfl ?_
    refine .bq h (.t rfl) (fun h => ?_) (fun h => ?_)
    · refine .sq ?_
      refine .rg (anm cells_Entry 100002 104 2 rfl rfl <| u (asg (.i rfl)) <| .nil _) rfl ?_
      obtain rfl := Option.some.inj h
      refine .ks (l := [(2, .own 0), (3, .ro (.int .i64 2))]) (o := [(0, some (.arr 104 2 (List.map cells_Entry [])))]) (fun i => bif Nat.beq i 0 then 100002 else i) ?_ (.c rfl (.c rfl .n)) (.c rfl .n) rfl
      exact .rt Tryz.func35 (.t rfl <| .t rfl <| .n) (.c rfl .n) rfl rfl
    · refine .skp ?_
      refine .sq ?_
      refine .rg (anm cells_Entry 4 104 2 rfl rfl <| .nil _) rfl ?_
      refine .sq ?_
      refine .sq ?_
      refine .rg (u (asg (.i rfl)) <| .nil _) rfl ?_
      refine .bl ?_
      unfold ref16_Read_l1 at h
      refine .kq (.lo (fun (s : List Entry × Int) => ⟨[(0, .ro (.list 1 (List.map e8 b))), (4, .own 4), (5, .ro (.int .i64 s.2))], [(4, some (.arr 104 2 (List.map cells_Entry s.1)))]⟩) h ?_) (.c rfl (.c rfl (.c rfl .n))) (.c rfl .n)
      rintro ⟨v1, v2⟩ u1 h ih1 hx1
      replace h : ref16_Read_s1 z b v1 v2 = _ := h
      unfold ref16_Read_s1 at h
      refine .sq ?_
      refine .sq ?_
      refine .rg (u (mv (.t rfl)) <| u (mv (.t rfl)) <| u (lnm sf34 (.t rfl)) <| u (bc (.t rfl) (.t rfl) rfl rfl) <| .nil _) rfl ?_
      refine .bq h (.t rfl) (fun h => ?_) (fun h => ?_)
      · refine .skp ?_
        refine .sq ?_
        refine .bl ?_
        refine be h fun x3 hx3 h => ?_
        refine be h fun x4 hx4 h => ?_
        refine be h fun x5 hx5 h => ?_
        refine .rd mixed (u (mv (.t rfl)) <| u (mv (.t rfl)) <| u (mv (.t rfl)) <| cl [] cf32 (ref05_Num_c hx3) (.c (.t rfl) <| .c (.t rfl) <| .c (.i rfl) <| .n) (.inl rfl) <| u (mv (.t rfl)) <| u (mv (.t rfl)) <| u (bi (.t rfl) (.i rfl) rfl) <| u (ia sf34 (.t rfl) (.t rfl) (ix_map e8 hx4)) <| u (lr tf5 (.t rfl) rfl) <| u (bd bf104 zf104 (.c rfl (.t rfl) rfl rfl rfl <| .c rfl (.t rfl) rfl rfl rfl <| .n) rfl) <| bs (F := cells_Entry) (l := [(Entry.mk x3 x4)]) 34 pf28 (.c (.t rfl) rfl <| .n) rfl (fun _ _ => rfl) rfl rfl <| apo 35 pf28 (.t rfl) rfl (.t rfl) rfl hx5 rfl <| u (asg (.t rfl)) <| .nil _) (by kernel_rfl) rfl ?_
        refine .ib ?_
        refine .rg (u (mv (.t rfl)) <| u (bi (.t rfl) (.i rfl) rfl) <| u (asg (.t rfl)) <| .nil _) rfl ?_
        exact .ks (fun i => bif Nat.beq i 4 then 35 else i) (.il (ih1 (x5, (ar .add .i64 v2 8)) (nxi h))) (.c rfl (.c rfl (.c rfl .n))) (.c rfl .n) rfl
      · refine .xt rfl ?_
        replace h := mpR h hx1
        refine .sq ?_
        refine .rg (u (mv (.t rfl)) <| u (asg (.t rfl)) <| u (asg (.i rfl)) <| .nil _) rfl ?_
        obtain rfl := Option.some.inj h
        refine .ks (l := [(2, .own 0), (3, .ro (.int .i64 0))]) (o := [(0, some (.arr 104 2 (List.map cells_Entry v1)))]) (fun i => bif Nat.beq i 0 then 4 else i) ?_ (.c rfl (.c rfl .n)) (.c rfl .n) rfl
        exact .rt Tryz.func35 (.t rfl <| .t rfl <| .n) (.c rfl .n) rfl rfl

theorem ref16_Read_r {z : Option Nat} {b : List Int} {r : List Entry × Int} (h : ref16_Read z b = some r) :
    AC Tryz.prog 35 [.ro (.list 1 (List.map e8 b))] (.ro (.tup [.list 2 (List.map cells_Entry r.1), .int .i64 r.2])) [] := AC.fz (ref16_Read_c h) rfl

theorem ref17_Read_c {z : Option Nat} {b : List Int} {r : Rate × Int} (h : ref17_Read z b = some r) :
    AC Tryz.prog 36 [.ro (.list 1 (List.map e8 b))] (.ro (.tup [enc_Rate r.1, .int .i64 r.2])) [] := by
  refine AC.of Tryz.func36 rfl rfl fun w M0 hM => ?_
  unfold ref17_Read at h
  refine .sq ?_
  refine .rg (al 2 zf31 rfl <| u (asg (.i rfl)) <| .nil _) rfl ?_
  refine .sq ?_
  refine .sq ?_
  refine .rg (u (mv (.t rfl)) <| u (lnm sf34 (.t rfl)) <| u (bc (.t rfl) (.i rfl) rfl rfl) <| u (mv (.t rfl)) <| gd rfl rfl (fun hB => mv (.t rfl)) <| gd rfl rfl (fun hB => lnm sf34 (.m rfl hB)) <| gd rfl rfl (fun hB => di (.m rfl hB) (.i rfl) rfl (by decide)) <| gd rfl rfl (fun hB => bc (.m rfl hB) (.i rfl) rfl rfl) <| u (pko (.t rfl) (.t rfl)) <| .nil _) rfl ?_
  refine .bq h (.t rfl) (fun h => ?_) (fun h => ?_)
  · refine .sq ?_
    refine .rg (u (bd bf31 zf31 (.n) rfl) <| st tf31 (.t rfl) rfl (.t rfl) rfl rfl rfl <| u (asg (.i rfl)) <| .nil _) rfl ?_
    obtain rfl := Option.some.inj h
    exact .rt Tryz.func36 (.c tf31 rfl rfl rfl <| .t rfl <| .n) .n rfl rfl
  · refine .skp ?_
    refine .sq ?_
    refine .sq ?_
    refine .rg (u (mv (.t rfl)) <| u (lnm sf34 (.t rfl)) <| u (bc (.t rfl) (.i rfl) rfl rfl) <| .nil _) rfl ?_
    refine .bq h (.t rfl) (fun h => ?_) (fun h => ?_)
    · refine .sq ?_
      refine .rg (u (bd bf31 zf31 (.n) rfl) <| st tf31 (.t rfl) rfl (.t rfl) rfl rfl rfl <| u (asg (.i rfl)) <| .nil _) rfl ?_
      obtain rfl := Option.some.inj h
      exact .rt Tryz.func36 (.c tf31 rfl rfl rfl <| .t rfl <| .n) .n rfl rfl
    · refine .skp ?_
      refine .sq ?_
      refine .sq ?_
      refine be h fun x1 hx1 h => ?_
      refine be h fun x2 hx2 h => ?_
      refine be h fun x3 hx3 h => ?_
      refine be h fun x4 hx4 h => ?_
      refine .rg (u (mv (.t rfl)) <| u (ia sf34 (.t rfl) (.i rfl) (ix_map e8 hx1)) <| u (lr tf5 (.t rfl) rfl) <| u (bc (.t rfl) (.i rfl) rfl rfl) <| u (mv (.t rfl)) <| gd rfl rfl (fun hB => mv (.t rfl)) <| gd rfl rfl (fun hB => ia sf34 (.m rfl hB) (.i rfl) (ix_map e8 (gTt hx2 (nt hB)))) <| gd rfl rfl (fun hB => lr tf5 (.m rfl hB) rfl) <| gd rfl rfl (fun hB => bc (.m rfl hB) (.i rfl) rfl rfl) <| u (pko (.t rfl) (.t rfl)) <| u (mv (.t rfl)) <| gd rfl rfl (fun hB => mv (.t rfl)) <| gd rfl rfl (fun hB => ia sf34 (.m rfl hB) (.i rfl) (ix_map e8 (gTt hx3 (nt hB)))) <| gd rfl rfl (fun hB => lr tf5 (.m rfl hB) rfl) <| gd rfl rfl (fun hB => bc (.m rfl hB) (.i rfl) rfl rfl) <| u (pko (.t rfl) (.t rfl)) <| u (mv (.t rfl)) <| gd rfl rfl (fun hB => mv (.t rfl)) <| gd rfl rfl (fun hB => ia sf34 (.m rfl hB) (.i rfl) (ix_map e8 (gTt hx4 (nt hB)))) <| gd rfl rfl (fun hB => lr tf5 (.m rfl hB) rfl) <| gd rfl rfl (fun hB => bc (.m rfl hB) (.i rfl) rfl rfl) <| u (pko (.t rfl) (.t rfl)) <| .nil _) rfl ?_
      refine .bq h (.t rfl) (fun h => ?_) (fun h => ?_)
      · refine .sq ?_
        refine .rg (u (bd bf31 zf31 (.n) rfl) <| st tf31 (.t rfl) rfl (.t rfl) rfl rfl rfl <| u (asg (.i rfl)) <| .nil _) rfl ?_
        obtain rfl := Option.some.inj h
        exact .rt Tryz.func36 (.c tf31 rfl rfl rfl <| .t rfl <| .n) .n rfl rfl
      · refine .skp ?_
        refine .sq ?_
        refine be h fun x5 hx5 h => ?_
        refine .rg (u (mv (.t rfl)) <| u (ia sf34 (.t rfl) (.i rfl) (ix_map e8 hx5)) <| u (lr tf5 (.t rfl) rfl) <| u (cv cv5_3 (.t rfl)) <| u (asg (.t rfl)) <| .nil _) rfl ?_
        refine .sq ?_
        refine .sq ?_
        refine .rg (u (mv (.t rfl)) <| u (lnm sf34 (.t rfl)) <| u (bi (.t rfl) (.i rfl) rfl) <| u (di (.t rfl) (.i rfl) rfl (by decide)) <| u (mv (.t rfl)) <| u (bc (.t rfl) (.t rfl) rfl rfl) <| .nil _) rfl ?_
        refine .bq h (.t rfl) (fun h => ?_) (fun h => ?_)
        · refine .sq ?_
          refine .rg (u (bd bf31 zf31 (.n) rfl) <| st tf31 (.t rfl) rfl (.t rfl) rfl rfl rfl <| u (asg (.i rfl)) <| .nil _) rfl ?_
          obtain rfl := Option.some.inj h
          exact .rt Tryz.func36 (.c tf31 rfl rfl rfl <| .t rfl <| .n) .n rfl rfl
        · refine .skp ?_
          refine .sq ?_
          refine .sq ?_
          refine .rg (u (mv (.t rfl)) <| u (lnm sf34 (.t rfl)) <| u (bi (.t rfl) (.i rfl) rfl) <| u (di (.t rfl) (.i rfl) rfl (by decide)) <| u (mv (.t rfl)) <| u (bc (.t rfl) (.t rfl) rfl rfl) <| .nil _) rfl ?_
          refine .bq h (.t rfl) (fun h => ?_) (fun h => ?_)
          · refine .sq ?_
            refine .rg (u (bd bf31 zf31 (.n) rfl) <| st tf31 (.t rfl) rfl (.t rfl) rfl rfl rfl <| u (asg (.i rfl)) <| .nil _) rfl ?_
            obtain rfl := Option.some.inj h
            exact .rt Tryz.func36 (.c tf31 rfl rfl rfl <| .t rfl <| .n) .n rfl rfl
          · refine .skp ?_
            refine .sq ?_
            refine be h fun x6 hx6 h => ?_
            refine .rg (u (mv (.t rfl)) <| cl [] cf32 (ref05_Num_c hx6) (.c (.t rfl) <| .c (.i rfl) <| .c (.i rfl) <| .n) (.inl rfl) <| u (asg (.t rfl)) <| .nil _) rfl ?_
            refine .sq ?_
            refine .rg (u (mv (.t rfl)) <| u (di (.t rfl) (.i rfl) rfl (by decide)) <| u (cv cv22_3 (.t rfl)) <| u (mv (.t rfl)) <| u (di (.t rfl) (.i rfl) rfl (by decide)) <| u (bd bf31 zf31_2 (.c rfl (.t rfl) rfl rfl rfl <| .c rfl (.t rfl) rfl rfl rfl <| .n) rfl) <| al 6 zf31_2 rfl <| st tf31 (.t rfl) rfl (.t rfl) rfl rfl rfl <| .nil _) rfl ?_
            refine .th (F := (ei .u32)) 6 2 700602 22 1 rfl rfl rfl ?_
            refine .sq ?_
            refine .bl ?_
            unfold ref17_Read_l1 at h
            refine .ks (fun i => bif Nat.beq i 10160002 then 700602 else i) (.lo (fun (s : Rate) => ⟨[(0, .ro (.list 1 (List.map e8 b))), (2, .ptr 2 0), (4, .ro (.int .i64 (IntKind.i64.wrap x5))), (6, .ptr 6 0)], [(2, some (.box [.ro (.int .i64 0), .ro (.int .u32 0), .ro (.list 1 (List.map (ei .u32) []))])), (6, some (.box [.ro (.int .i64 s.exp), .ro (.int .u32 s.mant), .own 10160002])), (10160002, some (.arr 22 1 (List.map (ei .u32) s.srcs)))]⟩) h ?_) (.c rfl (.c rfl (.c rfl (.c rfl .n)))) (.c rfl (.c rfl (.c rfl .n))) rfl
            intro v7 u1 h ih1 hx1
            replace h : ref17_Read_s1 z b x5 v7 = _ := h
            unfold ref17_Read_s1 at h
            refine .sq ?_
            refine .sq ?_
            refine .rg (u (fa ff31_0 (.t rfl)) <| u (ld tf3 (.t rfl) rfl rfl) <| u (bc (.t rfl) (.i rfl) rfl rfl) <| u (mv (.t rfl)) <| gd rfl rfl (fun hB => fa ff31_1 (.t rfl)) <| gd rfl rfl (fun hB => ld tf22 (.m rfl hB) rfl rfl) <| gd rfl rfl (fun hB => bc (.m rfl hB) (.i rfl) rfl rfl) <| u (pka (.t rfl) (.t rfl)) <| .nil _) rfl ?_
            refine .bq h (.t rfl) (fun h => ?_) (fun h => ?_)
            · refine .skp ?_
              refine .bl ?_
              refine .sq ?_
              refine .rg (u (fa ff31_1 (.t rfl)) <| u (ld tf22 (.t rfl) rfl rfl) <| u (bi (.i rfl) (.t rfl) rfl) <| u (fa ff31_1 (.t rfl)) <| st tf22 (.t rfl) rfl (.t rfl) rfl rfl rfl <| .nil _) rfl ?_
              refine .rg (u (fa ff31_0 (.t rfl)) <| u (ld tf3 (.t rfl) rfl rfl) <| u (bi (.t rfl) (.i rfl) rfl) <| u (fa ff31_0 (.t rfl)) <| st tf3 (.t rfl) rfl (.t rfl) rfl rfl rfl <| .nil _) rfl ?_
              refine .ib ?_
              exact .kq (.il (ih1 (Rate.mk (ar .sub .i64 v7.exp 1) (ar .mul .u32 2 v7.mant) v7.srcs) (nxi h))) (.c rfl (.c rfl (.c rfl (.c rfl .n)))) (.c rfl (.c rfl (.c rfl .n)))
            · refine .xt rfl ?_
              replace h := mpR h hx1
              refine .sq ?_
              refine .sq ?_
              refine .rg (u (asg (.i rfl)) <| .nil _) rfl ?_
              refine .bl ?_
              unfold ref17_Read_l2 at h
              refine .kq (.lo (fun (s : Int × Rate) => ⟨[(0, .ro (.list 1 (List.map e8 b))), (2, .ptr 2 0), (4, .ro (.int .i64 (IntKind.i64.wrap x5))), (6, .ptr 6 0), (7, .ro (.int .i64 s.1))], [(2, some (.box [.ro (.int .i64 0), .ro (.int .u32 0), .ro (.list 1 (List.map (ei .u32) []))])), (6, some (.box [.ro (.int .i64 s.2.exp), .ro (.int .u32 s.2.mant), .own 10160002])), (10160002, some (.arr 22 1 (List.map (ei .u32) s.2.srcs)))]⟩) h ?_) (.c rfl (.c rfl (.c rfl (.c rfl (.c rfl .n))))) (.c rfl (.c rfl (.c rfl .n)))
              rintro ⟨v8, v9⟩ u2 h ih2 hx2
              replace h : ref17_Read_s2 z b x5 v8 v9 = _ := h
              unfold ref17_Read_s2 at h
              refine .sq ?_
              refine .sq ?_
              refine .rg (u (mv (.t rfl)) <| u (mv (.t rfl)) <| u (bc (.t rfl) (.t rfl) rfl rfl) <| .nil _) rfl ?_
              refine .bq h (.t rfl) (fun h => ?_) (fun h => ?_)
              · refine .skp ?_
                refine .sq ?_
                refine .bl ?_
                refine be h fun x10 hx10 h => ?_
                refine be h fun x11 hx11 h => ?_
                refine .rd mixed (u (fa ff31_2 (.t rfl)) <| u (ld tf29 (.t rfl) rfl rfl) <| u (mv (.t rfl)) <| u (mv (.t rfl)) <| u (bi (.i rfl) (.t rfl) rfl) <| u (bi (.i rfl) (.t rfl) rfl) <| cl [] cf32 (ref05_Num_c hx10) (.c (.t rfl) <| .c (.t rfl) <| .c (.i rfl) <| .n) (.inl rfl) <| bs (F := (ei .u32)) (l := [x10]) 99 pf29 (.c (.t rfl) rfl <| .n) rfl (fun _ _ => rfl) rfl rfl <| apo 100 pf29 (.t rfl) rfl (.t rfl) rfl hx11 rfl <| u (fa ff31_2 (.t rfl)) <| st tf29 (.t rfl) rfl (.t rfl) rfl rfl rfl <| .nil _) (by kernel_rfl) rfl ?_
                refine .ib ?_
                refine .rg (u (mv (.t rfl)) <| u (bi (.t rfl) (.i rfl) rfl) <| u (asg (.t rfl)) <| .nil _) rfl ?_
                exact .ks (fun i => bif Nat.beq i 10160002 then 100 else i) (.il (ih2 ((ar .add .i64 v8 1), { v9 with srcs := x11 }) (nxi h))) (.c rfl (.c rfl (.c rfl (.c rfl (.c rfl .n))))) (.c rfl (.c rfl (.c rfl .n))) rfl
              · refine .xt rfl ?_
                replace h := mpR h hx2
                refine .sq ?_
                refine .rg (u (ld tf31 (.t rfl) rfl rfl) <| st tf31 (.t rfl) rfl (.t rfl) rfl rfl rfl <| u (asg (.i rfl)) <| .nil _) rfl ?_
                refine .fz 10160002 rfl ?_
                obtain rfl := Option.some.inj h
                exact .rt Tryz.func36 (.c tf31 rfl rfl rfl <| .t rfl <| .n) .n rfl rfl

theorem ref20_Read_c {z : Option Nat} {kind : Int} {b : List Int} {r : Feed × Int} (h : ref20_Read z kind b = some r) :
    AC Tryz.prog 15 [.ro (.int .i64 kind), .ro (.list 1 (List.map e8 b))] (.ro (.tup [enc_Feed r.1, .int .i64 r.2])) [] := by
  refine AC.of Tryz.func15 rfl rfl fun w M0 hM => ?_
  unfold ref20_Read at h
  refine .sq ?_
  refine .rg (al 4 zf33 rfl <| u (asg (.i rfl)) <| .nil _) rfl ?_
  refine .sq ?_
  refine .sq ?_
  refine .rg (u (mv (.t rfl)) <| u (bc (.t rfl) (.i rfl) rfl rfl) <| u (mv (.t rfl)) <| gd rfl rfl (fun hB => mv (.t rfl)) <| gd rfl rfl (fun hB => bc (.m rfl hB) (.i rfl) rfl rfl) <| u (pko (.t rfl) (.t rfl)) <| .nil _) rfl ?_
  refine .bq h (.t rfl) (fun h => ?_) (fun h => ?_)
  · refine .sq ?_
    refine .rg (u (bd bf33 zf33 (.n) rfl) <| st tf33 (.t rfl) rfl (.t rfl) rfl rfl rfl <| u (asg (.i rfl)) <| .nil _) rfl ?_
    obtain rfl := Option.some.inj h
    exact .rt Tryz.func15 (.c tf33 rfl rfl rfl <| .t rfl <| .n) .n rfl rfl
  · refine .skp ?_
    refine .sq ?_
    refine .sq ?_
    refine .rg (u (mv (.t rfl)) <| u (lnm sf34 (.t rfl)) <| u (bc (.t rfl) (.i rfl) rfl rfl) <| u (mv (.t rfl)) <| gd rfl rfl (fun hB => mv (.t rfl)) <| gd rfl rfl (fun hB => lnm sf34 (.m rfl hB)) <| gd rfl rfl (fun hB => di (.m rfl hB) (.i rfl) rfl (by decide)) <| gd rfl rfl (fun hB => bc (.m rfl hB) (.i rfl) rfl rfl) <| u (pko (.t rfl) (.t rfl)) <| .nil _) rfl ?_
    refine .bq h (.t rfl) (fun h => ?_) (fun h => ?_)
    · refine .sq ?_
      refine .rg (u (bd bf33 zf33 (.n) rfl) <| st tf33 (.t rfl) rfl (.t rfl) rfl rfl rfl <| u (asg (.i rfl)) <| .nil _) rfl ?_
      obtain rfl := Option.some.inj h
      exact .rt Tryz.func15 (.c tf33 rfl rfl rfl <| .t rfl <| .n) .n rfl rfl
    · refine .skp ?_
      refine .sq ?_
      refine .sq ?_
      refine .rg (u (mv (.t rfl)) <| u (lnm sf34 (.t rfl)) <| u (bc (.t rfl) (.i rfl) rfl rfl) <| .nil _) rfl ?_
      refine .bq h (.t rfl) (fun h => ?_) (fun h => ?_)
      · refine .sq ?_
        refine .rg (u (bd bf33 zf33 (.n) rfl) <| st tf33 (.t rfl) rfl (.t rfl) rfl rfl rfl <| u (asg (.i rfl)) <| .nil _) rfl ?_
        obtain rfl := Option.some.inj h
        exact .rt Tryz.func15 (.c tf33 rfl rfl rfl <| .t rfl <| .n) .n rfl rfl
      · refine .skp ?_
        refine .sq ?_
        refine be h fun x1 hx1 h => ?_
        refine be h fun x2 hx2 h => ?_
        refine .rg (u (mv (.t rfl)) <| u (mv (.t rfl)) <| cl [] cf32 (ref05_Num_c hx1) (.c (.t rfl) <| .c (.i rfl) <| .c (.i rfl) <| .n) (.inl rfl) <| u (mv (.t rfl)) <| cl [] cf32 (ref05_Num_c hx2) (.c (.t rfl) <| .c (.i rfl) <| .c (.i rfl) <| .n) (.inl rfl) <| u (bd bf33 zf33 (.c rfl (.t rfl) rfl rfl rfl <| .c rfl (.t rfl) rfl rfl rfl <| .c rfl (.t rfl) rfl rfl rfl <| .n) rfl) <| al 6 zf33 rfl <| st tf33 (.t rfl) rfl (.t rfl) rfl rfl rfl <| .nil _) rfl ?_
        refine .sq ?_
        refine .rg (u (asg (.i rfl)) <| .nil _) rfl ?_
        refine .sq ?_
        refine .sq ?_
        refine .rg (u (mv (.t rfl)) <| .nil _) rfl ?_
        refine .bl ?_
        refine .sq ?_
        refine .rg (u (bc (.t rfl) (.i rfl) rfl rfl) <| u (asg (.t rfl)) <| .nil _) rfl ?_
        refine .jq (t := some r) (fun (a : Int × Feed) => ⟨[(4, .ptr 4 0), (6, .ptr 6 0), (7, .ro (.int .i64 a.1))], [(4, some (.box [.ro (.int .i64 0), .ro (.int .u32 0), .ro (.int .u32 0), .ro (.list 2 (List.map cells_Pair [])), .ro (.int .u16 0), .ro (.int .i64 0), .ro (.int .u8 0), .ro (.list 2 (List.map cells_Seen [])), .ro (.list 2 (List.map cells_Entry [])), .ro (.int .i64 0), .ro (.int .u32 0), .ro (.list 1 (List.map (ei .u32) []))])), (6, some (.box [.ro (.int .i64 a.2.kind), .ro (.int .u32 a.2.from_), .ro (.int .u32 a.2.of), .ro (.list 2 (List.map cells_Pair a.2.pairs)), .ro (.int .u16 a.2.arrive.base), .ro (.int .i64 a.2.arrive.time), .ro (.int .u8 a.2.arrive.count), .ro (.list 2 (List.map cells_Seen a.2.arrive.seen)), .ro (.list 2 (List.map cells_Entry a.2.entries)), .ro (.int .i64 a.2.rate.exp), .ro (.int .u32 a.2.rate.mant), .ro (.list 1 (List.map (ei .u32) a.2.rate.srcs))]))]⟩) (fun (a : Int × Feed) => ref20_Read_j1 z a.1 a.2) ?_ (fun J1 => ?_)
        · rintro ⟨v3, v4⟩ h
          replace h : ref20_Read_j1 z v3 v4 = _ := h
          unfold ref20_Read_j1 at h
          refine .ib ?_
          refine .sq ?_
          refine .sq ?_
          refine .rg (u (mv (.t rfl)) <| u (bc (.t rfl) (.i rfl) rfl rfl) <| .nil _) rfl ?_
          refine .bq h (.t rfl) (fun h => ?_) (fun h => ?_)
          · refine .sq ?_
            refine .rg (u (bd bf33 zf33 (.n) rfl) <| u (mv (.t rfl)) <| st tf33 (.t rfl) rfl (.t rfl) rfl rfl rfl <| u (asg (.t rfl)) <| .nil _) rfl ?_
            obtain rfl := Option.some.inj h
            exact .rt Tryz.func15 (.c tf33 rfl rfl rfl <| .t rfl <| .n) .n rfl rfl
          · refine .skp ?_
            refine .sq ?_
            refine .rg (u (ld tf33 (.t rfl) rfl rfl) <| st tf33 (.t rfl) rfl (.t rfl) rfl rfl rfl <| u (asg (.i rfl)) <| .nil _) rfl ?_
            obtain rfl := Option.some.inj h
            exact .rt Tryz.func15 (.c tf33 rfl rfl rfl <| .t rfl <| .n) .n rfl rfl
        refine .bq h (.t rfl) (fun h => ?_) (fun h => ?_)
        · refine be h fun x5 hx5 h => ?_
          refine be h fun x6 hx6 h => ?_
          refine .rg (u (mv (.t rfl)) <| u (sl sf34 (.t rfl) (.s (.i rfl)) .n hx5) <| cnf 49000 cf33 (ref15_Read_c hx6) (.c (.t rfl) <| .n) rfl rfl rfl <| u (mv (.t rfl)) <| u (ex (.t rfl) rfl rfl) <| u (ex (.t rfl) rfl rfl) <| u (fa ff33_3 (.t rfl)) <| st tf23 (.t rfl) rfl (.t rfl) rfl rfl rfl <| u (asg (.t rfl)) <| .nil _) rfl ?_
          refine .fz 49000 rfl ?_
          exact .kq (J1 (x6.2, (Feed.mk kind x1 x2 x6.1 (Arrive.mk 0 0 0 []) [] (Rate.mk 0 0 []))) h) (.c rfl (.c rfl (.c rfl .n))) (.c rfl (.c rfl .n))
        · refine .sq ?_
          refine .rg (u (bc (.t rfl) (.i rfl) rfl rfl) <| u (asg (.t rfl)) <| .nil _) rfl ?_
          refine .bq h (.t rfl) (fun h => ?_) (fun h => ?_)
          · refine be h fun x7 hx7 h => ?_
            refine be h fun x8 hx8 h => ?_
            refine .rg (u (mv (.t rfl)) <| u (sl sf34 (.t rfl) (.s (.i rfl)) .n hx7) <| cl [] cf34 (ref19_Read_c hx8) (.c (.t rfl) <| .n) (.inl rfl) <| u (mv (.t rfl)) <| u (ex (.t rfl) rfl rfl) <| u (ex (.t rfl) rfl rfl) <| u (fa ff33_4 (.t rfl)) <| st tf27 (.t rfl) rfl (.t rfl) rfl rfl rfl <| u (asg (.t rfl)) <| .nil _) rfl ?_
            exact .kq (J1 (x8.2, (Feed.mk kind x1 x2 [] x8.1 [] (Rate.mk 0 0 []))) h) (.c rfl (.c rfl (.c rfl .n))) (.c rfl (.c rfl .n))
          · refine .sq ?_
            refine .rg (u (bc (.t rfl) (.i rfl) rfl rfl) <| u (asg (.t rfl)) <| .nil _) rfl ?_
            refine .bq h (.t rfl) (fun h => ?_) (fun h => ?_)
            · refine .sq ?_
              refine .rg (u (mv (.t rfl)) <| u (lnm sf34 (.t rfl)) <| u (bc (.t rfl) (.i rfl) rfl rfl) <| .nil _) rfl ?_
              refine .bq h (.t rfl) (fun h => ?_) (fun h => ?_)
              · refine .rg (u (asg (.i rfl)) <| .nil _) rfl ?_
                exact .kq (J1 (4, (Feed.mk kind x1 x2 [] (Arrive.mk 0 0 0 []) [] (Rate.mk 0 0 []))) h) (.c rfl (.c rfl (.c rfl .n))) (.c rfl (.c rfl .n))
              · refine .skp ?_
                exact .kq (J1 (0, (Feed.mk kind x1 x2 [] (Arrive.mk 0 0 0 []) [] (Rate.mk 0 0 []))) h) (.c rfl (.c rfl (.c rfl .n))) (.c rfl (.c rfl .n))
            · refine .sq ?_
              refine .rg (u (bc (.t rfl) (.i rfl) rfl rfl) <| u (asg (.t rfl)) <| .nil _) rfl ?_
              refine .bq h (.t rfl) (fun h => ?_) (fun h => ?_)
              · refine be h fun x9 hx9 h => ?_
                refine be h fun x10 hx10 h => ?_
                refine .rg (u (mv (.t rfl)) <| u (sl sf34 (.t rfl) (.s (.i rfl)) .n hx9) <| cnf 72000 cf35 (ref16_Read_c hx10) (.c (.t rfl) <| .n) rfl rfl rfl <| u (mv (.t rfl)) <| u (ex (.t rfl) rfl rfl) <| u (ex (.t rfl) rfl rfl) <| u (fa ff33_5 (.t rfl)) <| st tf28 (.t rfl) rfl (.t rfl) rfl rfl rfl <| u (asg (.t rfl)) <| .nil _) rfl ?_
                refine .fz 72000 rfl ?_
                exact .kq (J1 (x10.2, (Feed.mk kind x1 x2 [] (Arrive.mk 0 0 0 []) x10.1 (Rate.mk 0 0 []))) h) (.c rfl (.c rfl (.c rfl .n))) (.c rfl (.c rfl .n))
              · refine be h fun x11 hx11 h => ?_
                refine be h fun x12 hx12 h => ?_
                refine .rg (u (mv (.t rfl)) <| u (sl sf34 (.t rfl) (.s (.i rfl)) .n hx11) <| cl [] cf36 (ref17_Read_c hx12) (.c (.t rfl) <| .n) (.inl rfl) <| u (mv (.t rfl)) <| u (ex (.t rfl) rfl rfl) <| u (ex (.t rfl) rfl rfl) <| u (fa ff33_6 (.t rfl)) <| st tf31 (.t rfl) rfl (.t rfl) rfl rfl rfl <| u (asg (.t rfl)) <| .nil _) rfl ?_
                exact .kq (J1 (x12.2, (Feed.mk kind x1 x2 [] (Arrive.mk 0 0 0 []) [] x12.1)) h) (.c rfl (.c rfl (.c rfl .n))) (.c rfl (.c rfl .n))

theorem ref15_Same_c {z : Option Nat} {p_a : List Pair} {b : List Pair} {r : Bool} (h : ref15_Same z p_a b = some r) :
    AC Tryz.prog 37 [.ro (.list 2 (List.map cells_Pair p_a)), .ro (.list 2 (List.map cells_Pair b))] (.ro (.bool r)) [] := by
  refine AC.of Tryz.func37 rfl rfl fun w M0 hM => ?_
  unfold ref15_Same at h
  refine .sq ?_
  refine .rg (u (asg .b) <| .nil _) rfl ?_
  refine .sq ?_
  refine .sq ?_
  refine .rg (u (mv (.t rfl)) <| u (lnm sf23 (.t rfl)) <| u (mv (.t rfl)) <| u (lnm sf23 (.t rfl)) <| u (bc (.t rfl) (.t rfl) rfl rfl) <| .nil _) rfl ?_
  refine .bq h (.t rfl) (fun h => ?_) (fun h => ?_)
  · refine .sq ?_
    refine .rg (u (asg .b) <| .nil _) rfl ?_
    obtain rfl := Option.some.inj h
    exact .rt Tryz.func37 (.t rfl <| .n) .n rfl rfl
  · refine .skp ?_
    refine .sq ?_
    refine .sq ?_
    refine .rg (u (asg (.i rfl)) <| .nil _) rfl ?_
    refine .bl ?_
    unfold ref15_Same_l1 at h
    refine .kq (.lo (fun (s : Int) => ⟨[(0, .ro (.list 2 (List.map cells_Pair p_a))), (1, .ro (.list 2 (List.map cells_Pair b))), (5, .ro (.int .i64 s))], []⟩) h ?_) (.c rfl (.c rfl (.c rfl .n))) .n
    intro v1 u1 h ih1 hx1
    replace h : ref15_Same_s1 z p_a b v1 = _ := h
    unfold ref15_Same_s1 at h
    refine .sq ?_
    refine .sq ?_
    refine .rg (u (mv (.t rfl)) <| u (mv (.t rfl)) <| u (lnm sf23 (.t rfl)) <| u (bc (.t rfl) (.t rfl) rfl rfl) <| .nil _) rfl ?_
    refine .bq h (.t rfl) (fun h => ?_) (fun h => ?_)
    · refine .skp ?_
      refine .sq ?_
      refine .bl ?_
      refine .sq ?_
      refine be h fun x2 hx2 h => ?_
      refine be h fun x3 hx3 h => ?_
      refine .rd mixed (u (mv (.t rfl)) <| u (mv (.t rfl)) <| u (ia sf23 (.t rfl) (.t rfl) (ix_map cells_Pair hx2)) <| u (lr tf55 (.t rfl) rfl) <| u (mv (.t rfl)) <| u (mv (.t rfl)) <| u (ia sf23 (.t rfl) (.t rfl) (ix_map cells_Pair hx3)) <| u (lr tf55 (.t rfl) rfl) <| u (eqs qf55 (.t rfl) (.t rfl) rfl rfl rfl rfl) <| .nil _) (by kernel_rfl) rfl ?_
      refine .bq h (.t rfl) (fun h => ?_) (fun h => ?_)
      · refine .sq ?_
        refine .rg (u (asg .b) <| .nil _) rfl ?_
        replace h := mpR h hx1
        obtain rfl := Option.some.inj h
        exact .rt Tryz.func37 (.t rfl <| .n) .n rfl rfl
      · refine .skp ?_
        refine .ib ?_
        refine .rg (u (mv (.t rfl)) <| u (bi (.t rfl) (.i rfl) rfl) <| u (asg (.t rfl)) <| .nil _) rfl ?_
        exact .kq (.il (ih1 (ar .add .i64 v1 1) (nxi h))) (.c rfl (.c rfl (.c rfl .n))) .n
    · refine .xt rfl ?_
      replace h := mpR h hx1
      refine .sq ?_
      refine .rg (u (asg .b) <| .nil _) rfl ?_
      obtain rfl := Option.some.inj h
      exact .rt Tryz.func37 (.t rfl <| .n) .n rfl rfl

theorem ref16_Same_c {z : Option Nat} {p_a : List Entry} {b : List Entry} {r : Bool} (h : ref16_Same z p_a b = some r) :
    AC Tryz.prog 38 [.ro (.list 2 (List.map cells_Entry p_a)), .ro (.list 2 (List.map cells_Entry b))] (.ro (.bool r)) [] := by
  refine AC.of Tryz.func38 rfl rfl fun w M0 hM => ?_
  unfold ref16_Same at h
  refine .sq ?_
  refine .rg (u (asg .b) <| .nil _) rfl ?_
  refine .sq ?_
  refine .sq ?_
  refine .rg (u (mv (.t rfl)) <| u (lnm sf28 (.t rfl)) <| u (mv (.t rfl)) <| u (lnm sf28 (.t rfl)) <| u (bc (.t rfl) (.t rfl) rfl rfl) <| .nil _) rfl ?_
  refine .bq h (.t rfl) (fun h => ?_) (fun h => ?_)
  · refine .sq ?_
    refine .rg (u (asg .b) <| .nil _) rfl ?_
    obtain rfl := Option.some.inj h
    exact .rt Tryz.func38 (.t rfl <| .n) .n rfl rfl
  · refine .skp ?_
    refine .sq ?_
    refine .sq ?_
    refine .rg (u (asg (.i rfl)) <| .nil _) rfl ?_
    refine .bl ?_
    unfold ref16_Same_l1 at h
    refine .kq (.lo (fun (s : Int) => ⟨[(0, .ro (.list 2 (List.map cells_Entry p_a))), (1, .ro (.list 2 (List.map cells_Entry b))), (5, .ro (.int .i64 s))], []⟩) h ?_) (.c rfl (.c rfl (.c rfl .n))) .n
    intro v1 u1 h ih1 hx1
    replace h : ref16_Same_s1 z p_a b v1 = _ := h
    unfold ref16_Same_s1 at h
    refine .sq ?_
    refine .sq ?_
    refine .rg (u (mv (.t rfl)) <| u (mv (.t rfl)) <| u (lnm sf28 (.t rfl)) <| u (bc (.t rfl) (.t rfl) rfl rfl) <| .nil _) rfl ?_
    refine .bq h (.t rfl) (fun h => ?_) (fun h => ?_)
    · refine .skp ?_
      refine .sq ?_
      refine .bl ?_
      refine .sq ?_
      refine be h fun x2 hx2 h => ?_
      refine be h fun x3 hx3 h => ?_
      refine .rd mixed (u (mv (.t rfl)) <| u (mv (.t rfl)) <| u (ia sf28 (.t rfl) (.t rfl) (ix_map cells_Entry hx2)) <| u (lr tf104 (.t rfl) rfl) <| u (mv (.t rfl)) <| u (mv (.t rfl)) <| u (ia sf28 (.t rfl) (.t rfl) (ix_map cells_Entry hx3)) <| u (lr tf104 (.t rfl) rfl) <| u (eqs qf104 (.t rfl) (.t rfl) rfl rfl rfl rfl) <| .nil _) (by kernel_rfl) rfl ?_
      refine .bq h (.t rfl) (fun h => ?_) (fun h => ?_)
      · refine .sq ?_
        refine .rg (u (asg .b) <| .nil _) rfl ?_
        replace h := mpR h hx1
        obtain rfl := Option.some.inj h
        exact .rt Tryz.func38 (.t rfl <| .n) .n rfl rfl
      · refine .skp ?_
        refine .ib ?_
        refine .rg (u (mv (.t rfl)) <| u (bi (.t rfl) (.i rfl) rfl) <| u (asg (.t rfl)) <| .nil _) rfl ?_
        exact .kq (.il (ih1 (ar .add .i64 v1 1) (nxi h))) (.c rfl (.c rfl (.c rfl .n))) .n
    · refine .xt rfl ?_
      replace h := mpR h hx1
      refine .sq ?_
      refine .rg (u (asg .b) <| .nil _) rfl ?_
      obtain rfl := Option.some.inj h
      exact .rt Tryz.func38 (.t rfl <| .n) .n rfl rfl

theorem ref20_Same_c {z : Option Nat} {p_a : Feed} {b : Feed} {r : Bool} (h : ref20_Same z p_a b = some r) :
    AC Tryz.prog 17 [.ro (enc_Feed p_a), .ro (enc_Feed b)] (.ro (.bool r)) [] := by
  refine AC.of Tryz.func17 rfl rfl fun w M0 hM => ?_
  unfold ref20_Same at h
  refine .sq ?_
  refine .rg (bx 2 (.t rfl) rfl rfl <| bx 3 (.t rfl) rfl rfl <| u (asg .b) <| .nil _) rfl ?_
  refine .sq ?_
  refine be h fun x1 hx1 h => ?_
  refine be h fun x2 hx2 h => ?_
  refine be h fun x3 hx3 h => ?_
  refine be h fun x4 hx4 h => ?_
  refine .rg (u (fa ff33_0 (.t rfl)) <| u (ld tf3 (.t rfl) rfl rfl) <| u (fa ff33_0 (.t rfl)) <| u (ld tf3 (.t rfl) rfl rfl) <| u (bc (.t rfl) (.t rfl) rfl rfl) <| u (mv (.t rfl)) <| gd rfl rfl (fun hB => fa ff33_1 (.t rfl)) <| gd rfl rfl (fun hB => ld tf22 (.m rfl hB) rfl rfl) <| gd rfl rfl (fun hB => fa ff33_1 (.t rfl)) <| gd rfl rfl (fun hB => ld tf22 (.m rfl hB) rfl rfl) <| gd rfl rfl (fun hB => bc (.m rfl hB) (.m rfl hB) rfl rfl) <| u (pka (.t rfl) (.t rfl)) <| u (mv (.t rfl)) <| gd rfl rfl (fun hB => fa ff33_2 (.t rfl)) <| gd rfl rfl (fun hB => ld tf22 (.m rfl hB) rfl rfl) <| gd rfl rfl (fun hB => fa ff33_2 (.t rfl)) <| gd rfl rfl (fun hB => ld tf22 (.m rfl hB) rfl rfl) <| gd rfl rfl (fun hB => bc (.m rfl hB) (.m rfl hB) rfl rfl) <| u (pka (.t rfl) (.t rfl)) <| u (mv (.t rfl)) <| gd rfl rfl (fun hB => fa ff33_3 (.t rfl)) <| gd rfl rfl (fun hB => ld tf23 (.m rfl hB) rfl rfl) <| gd rfl rfl (fun hB => fa ff33_3 (.t rfl)) <| gd rfl rfl (fun hB => ld tf23 (.m rfl hB) rfl rfl) <| cg rfl rfl cf37 (fun hB => (ref15_Same_c (gTt hx1 hB))) (fun hB => .c (.m rfl hB) <| .c (.m rfl hB) <| .n) (.inl rfl) <| u (pka (.t rfl) (.t rfl)) <| u (mv (.t rfl)) <| gd rfl rfl (fun hB => fa ff33_5 (.t rfl)) <| gd rfl rfl (fun hB => ld tf28 (.m rfl hB) rfl rfl) <| gd rfl rfl (fun hB => fa ff33_5 (.t rfl)) <| gd rfl rfl (fun hB => ld tf28 (.m rfl hB) rfl rfl) <| cg rfl rfl cf38 (fun hB => (ref16_Same_c (gTt hx2 hB))) (fun hB => .c (.m rfl hB) <| .c (.m rfl hB) <| .n) (.inl rfl) <| u (pka (.t rfl) (.t rfl)) <| u (mv (.t rfl)) <| gd rfl rfl (fun hB => fa ff33_6 (.t rfl)) <| gd rfl rfl (fun hB => ld tf31 (.m rfl hB) rfl rfl) <| gd rfl rfl (fun hB => fa ff33_6 (.t rfl)) <| gd rfl rfl (fun hB => ld tf31 (.m rfl hB) rfl rfl) <| cg rfl rfl cf21 (fun hB => (ref17_Same_c (gTt hx3 hB))) (fun hB => .c (.m rfl hB) <| .c (.m rfl hB) <| .n) (.inl rfl) <| u (pka (.t rfl) (.t rfl)) <| u (mv (.t rfl)) <| gd rfl rfl (fun hB => fa ff33_4 (.t rfl)) <| gd rfl rfl (fun hB => ld tf27 (.m rfl hB) rfl rfl) <| gd rfl rfl (fun hB => fa ff33_4 (.t rfl)) <| gd rfl rfl (fun hB => ld tf27 (.m rfl hB) rfl rfl) <| cg rfl rfl cf20 (fun hB => (ref19_Same_c (gTt hx4 hB))) (fun hB => .c (.m rfl hB) <| .c (.m rfl hB) <| .n) (.inl rfl) <| u (pka (.t rfl) (.t rfl)) <| u (asg (.t rfl)) <| .nil _) rfl ?_
  obtain rfl := Option.some.inj h
  exact .rt Tryz.func17 (.t rfl <| .n) .n rfl rfl

theorem ref20_Canon_c {z : Option Nat} {kind : Int} {b : List Int} {r : Bool} (h : ref20_Canon z kind b = some r) :
    AC Tryz.prog 19 [.ro (.int .i64 kind), .ro (.list 1 (List.map e8 b))] (.ro (.bool r)) [] := by
  refine AC.of Tryz.func19 rfl rfl fun w M0 hM => ?_
  unfold ref20_Canon at h
  refine .sq ?_
  refine .rg (u (asg .b) <| .nil _) rfl ?_
  refine .sq ?_
  refine be h fun x1 hx1 h => ?_
  refine .rg (u (mv (.t rfl)) <| u (mv (.t rfl)) <| cl [] cf15 (ref20_Read_c hx1) (.c (.t rfl) <| .c (.t rfl) <| .n) (.inl rfl) <| u (mv (.t rfl)) <| u (ex (.t rfl) rfl rfl) <| u (ex (.t rfl) rfl rfl) <| al 5 zf33 rfl <| st tf33 (.t rfl) rfl (.t rfl) rfl rfl rfl <| u (asg (.t rfl)) <| .nil _) rfl ?_
  refine .sq ?_
  refine be h fun x2 hx2 h => ?_
  refine .rd mixed (u (mv (.t rfl)) <| u (bc (.t rfl) (.i rfl) rfl rfl) <| u (mv (.t rfl)) <| gd rfl rfl (fun hB => ld tf33 (.t rfl) rfl rfl) <| cg rfl rfl cf13 (fun hB => (ref20_Write_r (gTt hx2 hB))) (fun hB => .c (.m rfl hB) <| .n) (.inl rfl) <| gd rfl rfl (fun hB => bt bt34_9 (.m rfl hB)) <| gd rfl rfl (fun hB => mv (.t rfl)) <| gd rfl rfl (fun hB => bt bt34_9 (.m rfl hB)) <| gd rfl rfl (fun hB => sq (.m rfl hB) (.m rfl hB) rfl rfl) <| u (pka (.t rfl) (.t rfl)) <| u (asg (.t rfl)) <| .nil _) (by kernel_rfl) rfl ?_
  obtain rfl := Option.some.inj h
  exact .rt Tryz.func19 (.t rfl <| .n) .n rfl rfl

theorem law20_FeedRight_c {z : Option Nat} {f : Feed} {kind : Int} {count : Int} {b : List Int} {r : Bool} (h : law20_FeedRight z f kind count b = some r) :
    AC Tryz.prog 3 [.ro (enc_Feed f), .ro (.int .i64 kind), .ro (.int .i64 count), .ro (.list 1 (List.map e8 b))] (.ro (.bool r)) [] := by
  refine AC.of Tryz.func3 rfl rfl fun w M0 hM => ?_
  unfold law20_FeedRight at h
  refine .sq ?_
  refine .rg (bx 4 (.t rfl) rfl rfl <| u (asg .b) <| .nil _) rfl ?_
  refine .sq ?_
  refine .sq ?_
  refine .rg (cl [] cf5 law20_awake_k (.n) (.inl rfl) <| u (no (.t rfl)) <| .nil _) rfl ?_
  refine .cf (.t rfl) rfl ?_
  refine .skp ?_
  refine .sq ?_
  refine .sq ?_
  refine .rg (u (ld tf33 (.t rfl) rfl rfl) <| cl [] cf6 (ref20_Short_c f) (.c (.t rfl) <| .n) (.inl rfl) <| u (no (.t rfl)) <| u (mv (.t rfl)) <| gd rfl rfl (fun hB => mv (.t rfl)) <| gd rfl rfl (fun hB => lnm sf34 (.m rfl hB)) <| gd rfl rfl (fun hB => bc (.m rfl hB) (.i rfl) rfl rfl) <| u (pko (.t rfl) (.t rfl)) <| .nil _) rfl ?_
  refine .bq h (.t rfl) (fun h => ?_) (fun h => ?_)
  · refine .sq ?_
    refine .rg (u (asg .b) <| .nil _) rfl ?_
    obtain rfl := Option.some.inj h
    exact .rt Tryz.func3 (.t rfl <| .n) .n rfl rfl
  · refine .skp ?_
    refine .sq ?_
    refine .rg (u (mv (.t rfl)) <| cl [] cf7 (feed_Code_c kind) (.c (.t rfl) <| .n) (.inl rfl) <| u (mv (.t rfl)) <| u (ex (.t rfl) rfl rfl) <| u (ex (.t rfl) rfl rfl) <| u (ex (.t rfl) rfl rfl) <| u (asg (.t rfl)) <| u (asg (.t rfl)) <| u (asg (.t rfl)) <| .nil _) rfl ?_
    refine .sq ?_
    refine be h fun x1 hx1 h => ?_
    refine .rg (u (mv (.t rfl)) <| cl [] cf8 (ref20_Code_c hx1) (.c (.t rfl) <| .n) (.inl rfl) <| u (mv (.t rfl)) <| u (ex (.t rfl) rfl rfl) <| u (ex (.t rfl) rfl rfl) <| u (asg (.t rfl)) <| u (asg (.t rfl)) <| .nil _) rfl ?_
    refine .sq ?_
    refine .sq ?_
    refine be h fun x2 hx2 h => ?_
    refine .rg (u (mv (.t rfl)) <| u (mv (.t rfl)) <| u (bc (.t rfl) (.t rfl) rfl rfl) <| u (mv (.t rfl)) <| gd rfl rfl (fun hB => mv (.t rfl)) <| gd rfl rfl (fun hB => mv (.t rfl)) <| gd rfl rfl (fun hB => bc (.m rfl hB) (.m rfl hB) rfl rfl) <| u (pko (.t rfl) (.t rfl)) <| u (mv (.t rfl)) <| gd rfl rfl (fun hB => mv (.t rfl)) <| gd rfl rfl (fun hB => bc (.m rfl hB) (.i rfl) rfl rfl) <| gd rfl rfl (fun hB => mv (.t rfl)) <| gd rfl rfl (fun hB => bc (.m rfl hB) (.i rfl) rfl rfl) <| gd rfl rfl (fun hB => be2 ub4 (.m rfl hB) (.m rfl hB) rfl) <| u (pko (.t rfl) (.t rfl)) <| u (mv (.t rfl)) <| gd rfl rfl (fun hB => mv (.t rfl)) <| gd rfl rfl (fun hB => bc (.m rfl hB) (.i rfl) rfl rfl) <| gd rfl rfl (fun hB => mv (.m rfl hB)) <| gm rfl rfl (fun hB => mv (.t rfl)) <| gm rfl rfl (fun hB => bc (.m rfl hB) (.i rfl) rfl rfl) <| gd rfl rfl (fun hB => pkam (.m rfl hB) (.t rfl) hB) <| u (pko (.t rfl) (.t rfl)) <| u (mv (.t rfl)) <| gd rfl rfl (fun hB => mv (.t rfl)) <| gd rfl rfl (fun hB => mv (.t rfl)) <| cg rfl rfl cf9 (fun hB => (feed_Kind_c (gTt hx2 (nt hB)))) (fun hB => .c (.m rfl hB) <| .c (.m rfl hB) <| .n) (.inl rfl) <| gd rfl rfl (fun hB => mv (.t rfl)) <| gd rfl rfl (fun hB => mv (.t rfl)) <| cg rfl rfl cf10 (fun hB => (ref20_Kind_c kind count)) (fun hB => .c (.m rfl hB) <| .c (.m rfl hB) <| .n) (.inl rfl) <| gd rfl rfl (fun hB => bc (.m rfl hB) (.m rfl hB) rfl rfl) <| u (pko (.t rfl) (.t rfl)) <| .nil _) rfl ?_
    refine .bq h (.t rfl) (fun h => ?_) (fun h => ?_)
    · refine .sq ?_
      refine .rg (u (asg .b) <| .nil _) rfl ?_
      obtain rfl := Option.some.inj h
      exact .rt Tryz.func3 (.t rfl <| .n) .n rfl rfl
    · refine .skp ?_
      refine .sq ?_
      refine be h fun x3 hx3 h => ?_
      refine .rg (u (ld tf33 (.t rfl) rfl rfl) <| cl [] cf11 (ref20_Right_c hx3) (.c (.t rfl) <| .n) (.inl rfl) <| u (asg (.t rfl)) <| .nil _) rfl ?_
      refine .sq ?_
      refine be h fun x4 hx4 h => ?_
      refine .rg (u (ld tf33 (.t rfl) rfl rfl) <| cnf 78000 cf12 (feed_Write_c hx4) (.c (.t rfl) <| .n) rfl rfl rfl <| u (mv (.t rfl)) <| u (ex (.t rfl) rfl rfl) <| u (ex (.t rfl) rfl rfl) <| u (asg (.t rfl)) <| u (asg (.t rfl)) <| .nil _) rfl ?_
      refine .sq ?_
      refine .sq ?_
      refine .rg (u (mv (.t rfl)) <| .nil _) rfl ?_
      refine .jq (t := some r) (fun (a : Feed) => ⟨[(1, .ro (.int .i64 kind)), (3, .ro (.list 1 (List.map e8 b))), (4, .ptr 4 0), (14, .ro (.bool x3))], [(4, some (.box [.ro (.int .i64 a.kind), .ro (.int .u32 a.from_), .ro (.int .u32 a.of), .ro (.list 2 (List.map cells_Pair a.pairs)), .ro (.int .u16 a.arrive.base), .ro (.int .i64 a.arrive.time), .ro (.int .u8 a.arrive.count), .ro (.list 2 (List.map cells_Seen a.arrive.seen)), .ro (.list 2 (List.map cells_Entry a.entries)), .ro (.int .i64 a.rate.exp), .ro (.int .u32 a.rate.mant), .ro (.list 1 (List.map (ei .u32) a.rate.srcs))]))]⟩) (fun (a : Feed) => law20_FeedRight_j1 z kind b x3 a) ?_ (fun J1 => ?_)
      · intro v5 h
        replace h : law20_FeedRight_j1 z kind b x3 v5 = _ := h
        unfold law20_FeedRight_j1 at h
        refine .sq ?_
        refine be h fun x6 hx6 h => ?_
        refine .rg (u (mv (.t rfl)) <| u (mv (.t rfl)) <| cl [] cf14 (feed_Read_c hx6) (.c (.t rfl) <| .c (.t rfl) <| .n) (.inl rfl) <| u (mv (.t rfl)) <| u (ex (.t rfl) rfl rfl) <| u (ex (.t rfl) rfl rfl) <| al 16 zf33 rfl <| st tf33 (.t rfl) rfl (.t rfl) rfl rfl rfl <| u (asg (.t rfl)) <| .nil _) rfl ?_
        refine .sq ?_
        refine be h fun x7 hx7 h => ?_
        refine .rg (u (mv (.t rfl)) <| u (mv (.t rfl)) <| cl [] cf15 (ref20_Read_c hx7) (.c (.t rfl) <| .c (.t rfl) <| .n) (.inl rfl) <| u (mv (.t rfl)) <| u (ex (.t rfl) rfl rfl) <| u (ex (.t rfl) rfl rfl) <| al 18 zf33 rfl <| st tf33 (.t rfl) rfl (.t rfl) rfl rfl rfl <| u (asg (.t rfl)) <| .nil _) rfl ?_
        refine .sq ?_
        refine be h fun x8 hx8 h => ?_
        refine be h fun x9 hx9 h => ?_
        refine be h fun x10 hx10 h => ?_
        refine be h fun x11 hx11 h => ?_
        refine .rg (u (ld tf33 (.t rfl) rfl rfl) <| cl [] cf16 (feed_Right_c hx8) (.c (.t rfl) <| .n) (.inl rfl) <| u (mv (.t rfl)) <| u (be2 ub4 (.t rfl) (.t rfl) rfl) <| u (mv (.t rfl)) <| gd rfl rfl (fun hB => mv (.t rfl)) <| gd rfl rfl (fun hB => mv (.t rfl)) <| gd rfl rfl (fun hB => bc (.m rfl hB) (.m rfl hB) rfl rfl) <| u (pka (.t rfl) (.t rfl)) <| u (mv (.t rfl)) <| gd rfl rfl (fun hB => ld tf33 (.t rfl) rfl rfl) <| gd rfl rfl (fun hB => ld tf33 (.t rfl) rfl rfl) <| cg rfl rfl cf17 (fun hB => (ref20_Same_c (gTt hx9 hB))) (fun hB => .c (.m rfl hB) <| .c (.m rfl hB) <| .n) (.inl rfl) <| u (pka (.t rfl) (.t rfl)) <| u (mv (.t rfl)) <| gd rfl rfl (fun hB => mv (.t rfl)) <| gd rfl rfl (fun hB => mv (.t rfl)) <| cg rfl rfl cf18 (fun hB => (feed_Canon_c (gTt hx10 hB))) (fun hB => .c (.m rfl hB) <| .c (.m rfl hB) <| .n) (.inl rfl) <| gd rfl rfl (fun hB => mv (.t rfl)) <| gd rfl rfl (fun hB => mv (.t rfl)) <| cg rfl rfl cf19 (fun hB => (ref20_Canon_c (gTt hx11 hB))) (fun hB => .c (.m rfl hB) <| .c (.m rfl hB) <| .n) (.inl rfl) <| gd rfl rfl (fun hB => be2 ub4 (.m rfl hB) (.m rfl hB) rfl) <| u (pka (.t rfl) (.t rfl)) <| u (asg (.t rfl)) <| .nil _) rfl ?_
        obtain rfl := Option.some.inj h
        exact .rt Tryz.func3 (.t rfl <| .n) .n rfl rfl
      refine .bq h (.t rfl) (fun h => ?_) (fun h => ?_)
      · refine .sq ?_
        refine be h fun x12 hx12 h => ?_
        refine .rd mixed (u (mv (.t rfl)) <| u (bc (.t rfl) (.i rfl) rfl rfl) <| u (mv (.t rfl)) <| gd rfl rfl (fun hB => mv (.t rfl)) <| gd rfl rfl (fun hB => bto bt34_9 (.m rfl hB) rfl) <| gd rfl rfl (fun hB => ld tf33 (.t rfl) rfl rfl) <| cg rfl rfl cf13 (fun hB => (ref20_Write_r (gTt hx12 (nt hB)))) (fun hB => .c (.m rfl hB) <| .n) (.inl rfl) <| gd rfl rfl (fun hB => bt bt34_9 (.m rfl hB)) <| gd rfl rfl (fun hB => sq (.m rfl hB) (.m rfl hB) rfl rfl) <| u (pko (.t rfl) (.t rfl)) <| .nil _) (by kernel_rfl) rfl ?_
        refine .bq h (.t rfl) (fun h => ?_) (fun h => ?_)
        · refine .sq ?_
          refine .rg (u (asg .b) <| .nil _) rfl ?_
          obtain rfl := Option.some.inj h
          exact .rt Tryz.func3 (.t rfl <| .n) .n rfl rfl
        · refine .skp ?_
          exact .kq (J1 f h) (.c rfl (.c rfl (.c rfl (.c rfl .n)))) (.c rfl .n)
      · refine .sq ?_
        refine .rg (u (mv (.t rfl)) <| u (bc (.t rfl) (.i rfl) rfl rfl) <| u (mv (.t rfl)) <| gd rfl rfl (fun hB => mv (.t rfl)) <| gd rfl rfl (fun hB => lom sf34 (.m rfl hB) rfl) <| gd rfl rfl (fun hB => bc (.m rfl hB) (.i rfl) rfl rfl) <| u (pko (.t rfl) (.t rfl)) <| .nil _) rfl ?_
        refine .bq h (.t rfl) (fun h => ?_) (fun h => ?_)
        · refine .sq ?_
          refine .rg (u (asg .b) <| .nil _) rfl ?_
          obtain rfl := Option.some.inj h
          exact .rt Tryz.func3 (.t rfl <| .n) .n rfl rfl
        · refine .skp ?_
          exact .kq (J1 f h) (.c rfl (.c rfl (.c rfl (.c rfl .n)))) (.c rfl .n)

end Xb
