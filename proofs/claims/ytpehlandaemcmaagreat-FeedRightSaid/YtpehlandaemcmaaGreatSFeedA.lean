/- Own text: SFeedA. -/
import Derived.Test.YtpehlandaemcmaaGreatSPay
import Derived.Test.YtpehlandaemcmaaGreatSArrA
import Derived.Test.YtpehlandaemcmaaGreatCore16
set_option linter.all false
set_option linter.unusedVariables false
set_option linter.unusedSimpArgs false
set_option linter.unnecessarySimpa false
set_option linter.deprecated false
namespace Xb
open Go

def mW : I_feed_message → Option (List Int)
  | .nil => none
  | .c107 x => if 1 ≤ x.length ∧ x.length ≤ 16380 then some (x.flatMap encP) else none
  | .c111 x => if RightA x.arrive then some (writeA x.arrive) else none
  | .c114 x => if 1 ≤ x.length ∧ x.length ≤ 8190 then some (x.flatMap encE) else none
  | .c118 x => if RightR x.rate then some (writeR x.rate) else none
  | .c120 _ => some []
def mOk : I_feed_message → Prop
  | .nil => False
  | .c107 x => (∀ e, e ∈ x → wf_Pair e) ∧ x.length ≤ 1000000
  | .c111 x => GoodA x.arrive ∧ x.arrive.seen.length ≤ 1000000
  | .c114 x => (∀ e, e ∈ x → wf_Entry e) ∧ x.length ≤ 1000000
  | .c118 x => GoodR x.rate ∧ x.rate.srcs.length ≤ 1000000
  | .c120 _ => True
def kOf : I_feed_message → Int
  | .nil => 0
  | .c107 _ => 1
  | .c111 _ => 2
  | .c120 _ => 3
  | .c114 _ => 4
  | .c118 _ => 5
def wO : Option (List Int) → List Int × Int
  | some w => (w, 0)
  | none => ([], 1)

theorem mW_107 (x : List Pair) : mW (.c107 x) = if 1 ≤ x.length ∧ x.length ≤ 16380 then some (x.flatMap encP) else none := rfl
theorem mW_111 (x : feed_arrivals) : mW (.c111 x) = if RightA x.arrive then some (writeA x.arrive) else none := rfl
theorem mW_114 (x : List Entry) : mW (.c114 x) = if 1 ≤ x.length ∧ x.length ≤ 8190 then some (x.flatMap encE) else none := rfl
theorem mW_118 (x : feed_rate) : mW (.c118 x) = if RightR x.rate then some (writeR x.rate) else none := rfl
theorem bytes_eq {m : I_feed_message} (h : mOk m) : I_feed_message_bytes none m = some (wO (mW m)) := by
  cases m with
  | nil => exact absurd h id
  | c107 x =>
    show feed_pairs_bytes none x = _
    unfold feed_pairs_bytes
    rw [mW_107, bnd (writeN_eq h.1)]
    split <;> rfl
  | c111 x =>
    show feed_arrivals_bytes none x = _
    unfold feed_arrivals_bytes
    rw [mW_111, bnd (awrite_eq h.1 h.2)]
    split <;> rfl
  | c114 x =>
    show feed_entries_bytes none x = _
    unfold feed_entries_bytes
    rw [mW_114, bnd (writeF_eq h.1)]
    split <;> rfl
  | c118 x =>
    show feed_rate_bytes none x = _
    unfold feed_rate_bytes
    rw [mW_118, bnd (writeR_eq h.1 h.2)]
    split <;> rfl
  | c120 x => rfl

def mR (k : Int) (b : List Int) : Except Int I_feed_message :=
  if k = 1 then (if readOkN b then .ok (.c107 ((chunksL 4 b).map decP)) else .error (if b.length = 0 then 2 else 4))
  else if k = 2 then (match readA b with | .ok a => .ok (.c111 ⟨a.1⟩) | .error e => .error e)
  else if k = 4 then (if readOkF b then .ok (.c114 ((chunksL 8 b).map decE)) else .error (if b.length = 0 then 2 else 4))
  else if k = 5 then (match readR b with | .ok r => .ok (.c118 ⟨r⟩) | .error e => .error e)
  else (if 0 < b.length then .error 4 else .ok (.c120 ⟨⟩))
def mC (k : Int) (b : List Int) : Bool := if k = 2 then canonS b else if k = 4 then canonSF b else if k = 5 then canonR b else true

theorem e24 (b : List Int) : (if b.length = 0 then (2 : Int) else 4) ≠ 0 := by split <;> decide
theorem mR_err {k : Int} {b : List Int} {e : Int} (h : mR k b = .error e) : e ≠ 0 := by
  unfold mR at h
  split at h
  · split at h
    · cases h
    · cases h; exact e24 b
  split at h
  · cases hr : readA b with
    | error e' => rw [hr] at h; cases h; exact readA_err hr
    | ok a => rw [hr] at h; cases h
  split at h
  · split at h
    · cases h
    · cases h; exact e24 b
  split at h
  · cases hr : readR b with
    | error e' => rw [hr] at h; cases h; exact readR_err hr
    | ok a => rw [hr] at h; cases h
  split at h
  · cases h; decide
  · cases h

theorem mR_1 (b : List Int) : mR 1 b = if readOkN b then .ok (.c107 ((chunksL 4 b).map decP)) else .error (if b.length = 0 then 2 else 4) := rfl
theorem mR_2 (b : List Int) : mR 2 b = (match readA b with | .ok a => .ok (.c111 ⟨a.1⟩) | .error e => .error e) := rfl
theorem mR_4 (b : List Int) : mR 4 b = if readOkF b then .ok (.c114 ((chunksL 8 b).map decE)) else .error (if b.length = 0 then 2 else 4) := rfl
theorem mR_5 (b : List Int) : mR 5 b = (match readR b with | .ok r => .ok (.c118 ⟨r⟩) | .error e => .error e) := rfl
theorem mR_3 (b : List Int) : mR 3 b = (if 0 < b.length then .error 4 else .ok (.c120 ⟨⟩)) := rfl
def frd (r : Except Int I_feed_message) (x : Option (I_feed_message × Int)) : Prop := match r with | .ok m => x = some (m, 0) | .error e => ∃ m, x = some (m, e)
theorem fr_1 (b : List Int) : feed_read none 1 b = Option.bind (nack_Read none b) fun x1 => some ((I_feed_message.c107 x1.1), x1.2) := by
  unfold feed_read; rw [if_pos (by decide)]
theorem fr_2 (b : List Int) : feed_read none 2 b = Option.bind (arrive_Read none b) fun x2 => some ((I_feed_message.c111 (feed_arrivals.mk x2.1)), x2.2) := by
  unfold feed_read; rw [if_neg (by decide), if_pos (by decide)]
theorem fr_4 (b : List Int) : feed_read none 4 b = Option.bind (fresh_Read none b) fun x3 => some ((I_feed_message.c114 x3.1), x3.2) := by
  unfold feed_read; rw [if_neg (by decide), if_neg (by decide), if_pos (by decide)]
theorem fr_5 (b : List Int) : feed_read none 5 b = Option.bind (remb_Read none b) fun x4 => some ((I_feed_message.c118 (feed_rate.mk x4.1)), x4.2) := by
  unfold feed_read; rw [if_neg (by decide), if_neg (by decide), if_neg (by decide), if_pos (by decide)]
theorem fr_3 (b : List Int) : feed_read none 3 b = if (cm .gtr (b.length : Int) 0) then some ((I_feed_message.c120 (feed_loss.mk )), 4) else some ((I_feed_message.c120 (feed_loss.mk )), 0) := by
  unfold feed_read; rw [if_neg (by decide), if_neg (by decide), if_neg (by decide), if_neg (by decide)]
theorem fread_eq {k : Int} (k1 : 1 ≤ k) (k5 : k ≤ 5) {b : List Int} (hb : oct b) (hl : b.length ≤ 100000) : frd (mR k b) (feed_read none k b) := by
  by_cases h1 : k = 1
  · subst h1
    rw [mR_1, fr_1, bnd (readN_eq hb (by omega))]
    by_cases h : readOkN b
    · simp only [if_pos h]; rfl
    · simp only [if_neg h]; exact ⟨_, rfl⟩
  by_cases h2 : k = 2
  · subst h2
    rw [mR_2, fr_2, bnd (Read_eq hb hl)]
    unfold rdA
    cases hr : readA b with
    | error e => exact ⟨_, rfl⟩
    | ok a => rfl
  by_cases h3 : k = 4
  · subst h3
    rw [mR_4, fr_4, bnd (readF_eq hb (by omega))]
    by_cases h : readOkF b
    · simp only [if_pos h]; rfl
    · simp only [if_neg h]; exact ⟨_, rfl⟩
  by_cases h4 : k = 5
  · subst h4
    rw [mR_5, fr_5, bnd (readR_eq hb (by omega))]
    unfold rdRR
    cases hr : readR b with
    | error e => exact ⟨_, rfl⟩
    | ok a => rfl
  have h5 : k = 3 := by omega
  subst h5
  rw [mR_3, fr_3]
  by_cases h : 0 < b.length
  · have c : cm .gtr (b.length : Int) 0 = true := by rw [cm_gtr]; simpa using h
    rw [c, if_pos h]; exact ⟨_, rfl⟩
  · have c : cm .gtr (b.length : Int) 0 = false := by rw [cm_gtr]; simpa using h
    rw [c, if_neg h]; rfl

/-- what is written comes back -/
theorem m_write {m : I_feed_message} (h : mOk m) {w : List Int} (hw : mW m = some w) :
    oct w ∧ w.length % 4 = 0 ∧ w.length ≤ 65520 ∧ mR (kOf m) w = .ok m ∧ mC (kOf m) w = true := by
  cases m with
  | nil => exact absurd h id
  | c107 x =>
    rw [mW_107] at hw
    split at hw
    · rename_i hl
      cases hw
      have hlen := flat_lenG encP_len x
      have hok : readOkN (x.flatMap encP) := by unfold readOkN; omega
      refine ⟨oct_flat fun e _ => encP_oct e, by omega, by omega, ?_, rfl⟩
      show mR 1 _ = _
      unfold mR
      rw [if_pos rfl, if_pos hok, chunks_encG (by omega) encP_len, map_id_of fun e he => decP_encP (h.1 e he)]
    · cases hw
  | c111 x =>
    rw [mW_111] at hw
    split at hw
    · rename_i hr
      cases hw
      have h1 := write_oct h.1 hr
      have h2 := body_len hr
      have h3 := write_len4 x.arrive
      have h4 := read_write h.1 hr
      refine ⟨h1, h3.1, by omega, ?_, (canon_write h1 h4).2 rfl⟩
      show mR 2 _ = _
      unfold mR
      rw [if_neg (by decide), if_pos rfl, h4]
    · cases hw
  | c114 x =>
    rw [mW_114] at hw
    split at hw
    · rename_i hl
      cases hw
      have hlen := flat_lenG encE_len x
      have hok : readOkF (x.flatMap encE) := by unfold readOkF; omega
      have hoct := enc_allF h.1
      have hmap : ((chunksL 8 (x.flatMap encE)).map decE) = x := by
        rw [chunks_encG (by omega) encE_len, map_id_of fun e he => dec_encF (h.1 e he)]
      refine ⟨hoct, by omega, by omega, ?_, ?_⟩
      · show mR 4 _ = _
        unfold mR
        rw [if_neg (by decide), if_neg (by decide), if_pos rfl, if_pos hok, hmap]
      · show canonSF _ = true
        rw [canon_iffF hoct hok, hmap]
    · cases hw
  | c118 x =>
    rw [mW_118] at hw
    split at hw
    · rename_i hr
      cases hw
      have h1 := writeR_oct hr
      have h3 := writeR_len x.rate
      have h4 := read_writeR h.1 hr
      have h5 := hr.2.2.2.2
      refine ⟨h1, by omega, by omega, ?_, (canon_writeR h1 h4).2 rfl⟩
      show mR 5 _ = _
      unfold mR
      rw [if_neg (by decide), if_neg (by decide), if_neg (by decide), if_pos rfl, h4]
    · cases hw
  | c120 x =>
    cases hw
    refine ⟨fun x hx => absurd hx List.not_mem_nil, rfl, by decide, ?_, rfl⟩
    rfl

theorem m_read {k : Int} (h1 : 1 ≤ k) (h5 : k ≤ 5) {b : List Int} (hb : oct b) (hl : b.length ≤ 65520) {m : I_feed_message} (h : mR k b = .ok m) :
    mOk m ∧ kOf m = k ∧ ∃ w, mW m = some w ∧ (mC k b = true ↔ w = b) := by
  unfold mR at h
  split at h
  · rename_i hk
    split at h
    · rename_i hok
      cases h
      have h3 := hok.2.2
      have hc := chunks_count (n := 4) (by omega) h3
      have hp := hok.1
      have hcl := chunks_len (n := 4) (by omega) h3
      have ho : ∀ c, c ∈ chunksL 4 b → oct c := fun c hc x hx => hb x (chunks_mem hc hx)
      refine ⟨⟨fun e he => ?_, by rw [List.length_map]; omega⟩, hk.symm, b, ?_, by subst hk; exact ⟨fun _ => rfl, fun _ => rfl⟩⟩
      · obtain ⟨c, hc, rfl⟩ := List.mem_map.1 he
        exact decP_ok (hcl c hc) (ho c hc)
      · rw [mW_107, if_pos (by rw [List.length_map]; omega), flat_decG fun c hc => encP_decP (hcl c hc) (ho c hc), chunks_flat (by omega)]
    · cases h
  split at h
  · rename_i _ hk
    cases hr : readA b with
    | error e => rw [hr] at h; cases h
    | ok p =>
      obtain ⟨a, u, n⟩ := p
      rw [hr] at h; cases h
      obtain ⟨k1, k2, k3, k4, k5, k6⟩ := read_ok hb hr
      have hs := k4.2.2.1
      refine ⟨⟨k5, by show a.seen.length ≤ _; omega⟩, hk.symm, writeA a, ?_, ?_⟩
      · rw [mW_111, if_pos k4]
      · subst hk; exact canon_write hb hr
  split at h
  · rename_i _ _ hk
    split at h
    · rename_i hok
      cases h
      have h3 := hok.2.2
      have hc := chunks_count (n := 8) (by omega) h3
      have hp := hok.1
      refine ⟨⟨fun e he => ?_, by rw [List.length_map]; omega⟩, hk.symm, ((chunksL 8 b).map decE).flatMap encE, ?_, ?_⟩
      · obtain ⟨c, hc, rfl⟩ := List.mem_map.1 he
        exact decE_ok (chunks_len (by omega) h3 c hc) fun x hx => hb x (chunks_mem hc hx)
      · rw [mW_114, if_pos (by rw [List.length_map]; omega)]
      · subst hk; exact canon_iffF hb hok
    · cases h
  split at h
  · rename_i _ _ _ hk
    cases hr : readR b with
    | error e => rw [hr] at h; cases h
    | ok r =>
      rw [hr] at h; cases h
      obtain ⟨k1, k2, k3, k4, k5, k6, k7, k8, k9, k10⟩ := readR_ok hb hr
      have hs := k9.2.2.2.2
      refine ⟨⟨k10, by show r.srcs.length ≤ _; omega⟩, hk.symm, writeR r, ?_, ?_⟩
      · rw [mW_118, if_pos k9]
      · subst hk; exact canon_writeR hb hr
  split at h
  · cases h
  · rename_i n1 n2 n4 n5 hz
    cases h
    have hk : k = 3 := by omega
    refine ⟨trivial, hk.symm, [], rfl, ?_⟩
    have : b = [] := List.length_eq_zero_iff.1 (by omega)
    subst this; subst hk
    exact ⟨fun _ => rfl, fun _ => rfl⟩

def zF : Feed := ⟨0, 0, 0, [], ⟨0, 0, 0, []⟩, [], ⟨0, 0, []⟩⟩
def mkF (k a c : Int) : I_feed_message → Feed
  | .nil => ⟨k, a, c, [], ⟨0, 0, 0, []⟩, [], ⟨0, 0, []⟩⟩
  | .c107 x => ⟨k, a, c, x, ⟨0, 0, 0, []⟩, [], ⟨0, 0, []⟩⟩
  | .c111 x => ⟨k, a, c, [], x.arrive, [], ⟨0, 0, []⟩⟩
  | .c114 x => ⟨k, a, c, [], ⟨0, 0, 0, []⟩, x, ⟨0, 0, []⟩⟩
  | .c118 x => ⟨k, a, c, [], ⟨0, 0, 0, []⟩, [], x.rate⟩
  | .c120 _ => ⟨k, a, c, [], ⟨0, 0, 0, []⟩, [], ⟨0, 0, []⟩⟩
theorem put_mk {k a c : Int} {m : I_feed_message} (h : mOk m) : I_feed_message_put_y0 none m ⟨k, a, c, [], ⟨0, 0, 0, []⟩, [], ⟨0, 0, []⟩⟩ = some (mkF k a c m) := by
  cases m with
  | nil => exact absurd h id
  | _ => rfl
theorem msg_of (f : Feed) : feed_messageOf f = if f.kind = 1 then .c107 f.pairs else if f.kind = 2 then .c111 ⟨f.arrive⟩ else if f.kind = 3 then .c120 ⟨⟩ else if f.kind = 4 then .c114 f.entries else if f.kind = 5 then .c118 ⟨f.rate⟩ else .nil := by
  unfold feed_messageOf
  simp only [cm_eql, decide_eq_true_eq]
theorem msg_mk {k a c : Int} {m : I_feed_message} (hk : kOf m = k) : feed_messageOf (mkF k a c m) = m := by
  rw [msg_of]
  cases m with
  | nil => cases hk; rfl
  | c107 x => cases hk; rfl
  | c111 x => cases hk; rfl
  | c114 x => cases hk; rfl
  | c118 x => cases hk; rfl
  | c120 x => cases hk; rfl

theorem noArr_eq (a : Arrive) : feed_noArrive a = decide (a = ⟨0, 0, 0, []⟩) := by
  unfold feed_noArrive
  cases a with
  | mk b t c s =>
    rw [Bool.eq_iff_iff]
    simp only [cm_eql, Bool.and_eq_true, decide_eq_true_eq, Arrive.mk.injEq]
    have : ((s.length : Nat) : Int) = 0 ↔ s = [] := by rw [← List.length_eq_zero_iff]; omega
    rw [this]
    constructor
    · rintro ⟨⟨⟨a, b⟩, c⟩, d⟩; exact ⟨a, b, c, d⟩
    · rintro ⟨a, b, c, d⟩; exact ⟨⟨⟨a, b⟩, c⟩, d⟩
theorem noRate_eq (a : Rate) : feed_noRate a = decide (a = ⟨0, 0, []⟩) := by
  unfold feed_noRate
  cases a with
  | mk e m s =>
    rw [Bool.eq_iff_iff]
    simp only [cm_eql, Bool.and_eq_true, decide_eq_true_eq, Rate.mk.injEq]
    have : ((s.length : Nat) : Int) = 0 ↔ s = [] := by rw [← List.length_eq_zero_iff]; omega
    rw [this]
    constructor
    · rintro ⟨⟨a, b⟩, c⟩; exact ⟨a, b, c⟩
    · rintro ⟨a, b, c⟩; exact ⟨⟨a, b⟩, c⟩
theorem idle_j1 {f : Feed} (h1 : f.pairs.length ≤ 1000000) (h2 : f.entries.length ≤ 1000000) :
    feed_idle_j1 f = decide (f.pairs = [] ∧ f.entries = [] ∧ f.arrive = ⟨0, 0, 0, []⟩ ∧ f.rate = ⟨0, 0, []⟩) := by
  unfold feed_idle_j1
  rw [noArr_eq, noRate_eq, ar_add, w_i64 (by omega) (by omega), cm_eql, Bool.eq_iff_iff]
  simp only [Bool.and_eq_true, decide_eq_true_eq]
  have : (f.pairs.length : Int) + (f.entries.length : Int) = 0 ↔ f.pairs = [] ∧ f.entries = [] := by
    rw [← List.length_eq_zero_iff, ← List.length_eq_zero_iff]; omega
  rw [this]
  constructor
  · rintro ⟨⟨⟨a, b⟩, c⟩, d⟩; exact ⟨a, b, c, d⟩
  · rintro ⟨a, b, c, d⟩; exact ⟨⟨⟨a, b⟩, c⟩, d⟩

theorem idle_eq {f : Feed} (h1 : f.pairs.length ≤ 1000000) (h2 : f.entries.length ≤ 1000000) :
    feed_idle f (feed_messageOf f) = decide (mkF f.kind f.from_ f.of (feed_messageOf f) = f) := by
  unfold feed_idle
  cases f with
  | mk k a c p ar en ra =>
  simp only at h1 h2
  rw [msg_of]
  simp only
  by_cases c1 : k = 1
  · rw [if_pos c1]
    rw [if_pos (by simp [I_feed_message.as107, I_feed_message.as111, I_feed_message.as114, I_feed_message.as118]), idle_j1 (by simp) h2, decide_eq_decide]
    simp only [mkF, Feed.mk.injEq, true_and]
    constructor
    · rintro ⟨a, b, c⟩; exact ⟨b.symm, a.symm, c.symm⟩
    · rintro ⟨a, b, c⟩; exact ⟨b.symm, a.symm, c.symm⟩
  rw [if_neg c1]
  by_cases c2 : k = 2
  · rw [if_pos c2]
    rw [if_neg (by simp [I_feed_message.as107, I_feed_message.as111, I_feed_message.as114, I_feed_message.as118]), if_pos (by simp [I_feed_message.as107, I_feed_message.as111, I_feed_message.as114, I_feed_message.as118]), idle_j1 h1 h2, decide_eq_decide]
    simp only [mkF, Feed.mk.injEq, true_and]
    constructor
    · rintro ⟨a, b, c⟩; exact ⟨a.symm, b.symm, c.symm⟩
    · rintro ⟨a, b, c⟩; exact ⟨a.symm, b.symm, c.symm⟩
  rw [if_neg c2]
  by_cases c3 : k = 3
  · rw [if_pos c3]
    rw [if_neg (by simp [I_feed_message.as107, I_feed_message.as111, I_feed_message.as114, I_feed_message.as118]), if_neg (by simp [I_feed_message.as107, I_feed_message.as111, I_feed_message.as114, I_feed_message.as118]), if_neg (by simp [I_feed_message.as107, I_feed_message.as111, I_feed_message.as114, I_feed_message.as118]), if_neg (by simp [I_feed_message.as107, I_feed_message.as111, I_feed_message.as114, I_feed_message.as118]), idle_j1 h1 h2, decide_eq_decide]
    simp only [mkF, Feed.mk.injEq, true_and]
    constructor
    · rintro ⟨a, b, c, d⟩; exact ⟨a.symm, c.symm, b.symm, d.symm⟩
    · rintro ⟨a, b, c, d⟩; exact ⟨a.symm, c.symm, b.symm, d.symm⟩
  rw [if_neg c3]
  by_cases c4 : k = 4
  · rw [if_pos c4]
    rw [if_neg (by simp [I_feed_message.as107, I_feed_message.as111, I_feed_message.as114, I_feed_message.as118]), if_neg (by simp [I_feed_message.as107, I_feed_message.as111, I_feed_message.as114, I_feed_message.as118]), if_pos (by simp [I_feed_message.as107, I_feed_message.as111, I_feed_message.as114, I_feed_message.as118]), idle_j1 h1 (by simp), decide_eq_decide]
    simp only [mkF, Feed.mk.injEq, true_and]
    constructor
    · rintro ⟨a, b, c⟩; exact ⟨a.symm, b.symm, c.symm⟩
    · rintro ⟨a, b, c⟩; exact ⟨a.symm, b.symm, c.symm⟩
  rw [if_neg c4]
  by_cases c5 : k = 5
  · rw [if_pos c5]
    rw [if_neg (by simp [I_feed_message.as107, I_feed_message.as111, I_feed_message.as114, I_feed_message.as118]), if_neg (by simp [I_feed_message.as107, I_feed_message.as111, I_feed_message.as114, I_feed_message.as118]), if_neg (by simp [I_feed_message.as107, I_feed_message.as111, I_feed_message.as114, I_feed_message.as118]), if_pos (by simp [I_feed_message.as107, I_feed_message.as111, I_feed_message.as114, I_feed_message.as118]), idle_j1 h1 h2, decide_eq_decide]
    simp only [mkF, Feed.mk.injEq, true_and, and_true]
    constructor
    · rintro ⟨a, b, c⟩; exact ⟨a.symm, c.symm, b.symm⟩
    · rintro ⟨a, b, c⟩; exact ⟨a.symm, c.symm, b.symm⟩
  rw [if_neg c5]
  rw [if_neg (by simp [I_feed_message.as107, I_feed_message.as111, I_feed_message.as114, I_feed_message.as118]), if_neg (by simp [I_feed_message.as107, I_feed_message.as111, I_feed_message.as114, I_feed_message.as118]), if_neg (by simp [I_feed_message.as107, I_feed_message.as111, I_feed_message.as114, I_feed_message.as118]), if_neg (by simp [I_feed_message.as107, I_feed_message.as111, I_feed_message.as114, I_feed_message.as118]), idle_j1 h1 h2, decide_eq_decide]
  simp only [mkF, Feed.mk.injEq, true_and]
  constructor
  · rintro ⟨a, b, c, d⟩; exact ⟨a.symm, c.symm, b.symm, d.symm⟩
  · rintro ⟨a, b, c, d⟩; exact ⟨a.symm, c.symm, b.symm, d.symm⟩
end Xb

namespace Xb
open Go

def short (f : Feed) : Prop := f.pairs.length ≤ 1000000 ∧ f.entries.length ≤ 1000000 ∧ f.rate.srcs.length ≤ 1000000 ∧ f.arrive.seen.length ≤ 1000000
def GoodF (f : Feed) : Prop := (0 ≤ f.from_ ∧ f.from_ ≤ 4294967295) ∧ (0 ≤ f.of ∧ f.of ≤ 4294967295) ∧ short f ∧
  (1 ≤ f.kind → f.kind ≤ 5 → mOk (feed_messageOf f))
theorem goodA_of {a : Arrive} (h : wf_Arrive a) : GoodA a := by
  have h1 := in_u16.1 h.1
  have h2 := in_u8.1 h.2.2.1
  exact ⟨h1.1, h1.2, h2.1, h2.2⟩
theorem goodF_of {f : Feed} (h : wf_Feed f) (hs : short f) : GoodF f := by
  refine ⟨in_u32.1 h.2.1, in_u32.1 h.2.2.1, hs, fun k1 k5 => ?_⟩
  obtain ⟨s1, s2, s3, s4⟩ := hs
  rw [msg_of]
  by_cases c1 : f.kind = 1
  · rw [if_pos c1]; exact ⟨h.2.2.2.1.2, s1⟩
  rw [if_neg c1]
  by_cases c2 : f.kind = 2
  · rw [if_pos c2]; exact ⟨goodA_of h.2.2.2.2.1, s4⟩
  rw [if_neg c2]
  by_cases c3 : f.kind = 3
  · rw [if_pos c3]; exact trivial
  rw [if_neg c3]
  by_cases c4 : f.kind = 4
  · rw [if_pos c4]; exact ⟨h.2.2.2.2.2.1.2, s2⟩
  rw [if_neg c4]
  rw [if_pos (show f.kind = 5 by omega)]
  exact ⟨goodR_of h.2.2.2.2.2.2, s3⟩
theorem kOf_msg {f : Feed} (k1 : 1 ≤ f.kind) (k5 : f.kind ≤ 5) : kOf (feed_messageOf f) = f.kind := by
  rw [msg_of]
  by_cases c1 : f.kind = 1
  · rw [if_pos c1, c1]; rfl
  rw [if_neg c1]
  by_cases c2 : f.kind = 2
  · rw [if_pos c2, c2]; rfl
  rw [if_neg c2]
  by_cases c3 : f.kind = 3
  · rw [if_pos c3, c3]; rfl
  rw [if_neg c3]
  by_cases c4 : f.kind = 4
  · rw [if_pos c4, c4]; rfl
  have c5 : f.kind = 5 := by omega
  rw [if_neg c4, if_pos c5, c5]; rfl
theorem nil_msg {f : Feed} (h : ¬ (1 ≤ f.kind ∧ f.kind ≤ 5)) : feed_messageOf f = .nil := by
  rw [msg_of, if_neg (by omega), if_neg (by omega), if_neg (by omega), if_neg (by omega), if_neg (by omega)]
theorem isnil_ok {m : I_feed_message} (h : mOk m) : m.isnil = false := by
  cases m with
  | nil => exact absurd h id
  | _ => rfl

def FeedW (f : Feed) : Option (List Int) :=
  if 1 ≤ f.kind ∧ f.kind ≤ 5 ∧ mkF f.kind f.from_ f.of (feed_messageOf f) = f then (mW (feed_messageOf f)).map (fun w => beN 4 f.from_ ++ beN 4 f.of ++ w) else none
def FeedR (k : Int) (b : List Int) : Except Int Feed :=
  if k < 1 ∨ 5 < k then .error 1 else if 65528 < b.length ∨ b.length % 4 ≠ 0 then .error 4 else if b.length < 8 then .error 2
  else match mR k (b.drop 8) with | .error e => .error e | .ok m => .ok (mkF k (numB (b.take 4)) (numB ((b.drop 4).take 4)) m)
def FeedC (k : Int) (b : List Int) : Bool := match FeedR k b with | .error _ => false | .ok _ => mC k (b.drop 8)
def wB : Option (List Int) → List Int × Bool
  | some w => (w, true)
  | none => ([], false)
def rO : Except Int Feed → Feed × Int
  | .ok f => (f, 0)
  | .error e => (zF, e)

theorem put4 {v : Int} (h : 0 ≤ v ∧ v ≤ 4294967295) : octet_Put (IntKind.u64.wrap v) 4 = some (beN 4 v, 0) := by
  rw [w_u64 (by omega) (by omega)]
  exact put_eq (n := 4) h.1 (by omega) (by omega) (.inr (by omega))

theorem written_eq {f : Feed} (h : GoodF f) : feed_written none f = some (wB (FeedW f)) := by
  obtain ⟨h1, h2, hs, hm⟩ := h
  unfold feed_written FeedW
  by_cases hk : 1 ≤ f.kind ∧ f.kind ≤ 5
  · have hok := hm hk.1 hk.2
    rw [isnil_ok hok, idle_eq hs.1 hs.2.1]
    by_cases hi : mkF f.kind f.from_ f.of (feed_messageOf f) = f
    · rw [if_neg (by rw [decide_eq_true hi]; decide), if_pos (show _ ∧ _ ∧ _ from ⟨hk.1, hk.2, hi⟩), bnd (bytes_eq hok)]
      cases hw : mW (feed_messageOf f) with
      | none =>
        have c : cm .neq ((wO none).2) 0 = true := by decide
        rw [c, if_pos rfl]; rfl
      | some w =>
        have c : cm .neq ((wO (some w)).2) 0 = false := rfl
        obtain ⟨w1, w2, w3, w4, w5⟩ := m_write hok hw
        rw [c, if_neg (by decide), bnd (put4 h1), bnd (put4 h2)]
        have e2 : octet_Join none [beN 4 f.from_, beN 4 f.of, w] = some (beN 4 f.from_ ++ beN 4 f.of ++ w) := by
          unfold octet_Join
          rw [bnd (concat_eq (by simp) (by simp [beN_len]; omega))]
          simp
        show Option.bind (octet_Join none [beN 4 f.from_, beN 4 f.of, w]) _ = _
        rw [bnd e2]; rfl
    · rw [if_pos (by rw [decide_eq_false hi]; decide), if_neg (fun hh => hi hh.2.2)]; rfl
  · rw [nil_msg hk, if_pos (by rfl), if_neg (fun hh => hk ⟨hh.1, hh.2.1⟩)]; rfl

theorem fwrite_eq {f : Feed} (h : GoodF f) : feed_Write none f = some (wO (FeedW f)) := by
  unfold feed_Write
  rw [bnd (written_eq h)]
  cases FeedW f <;> rfl
theorem fright_eq {f : Feed} (h : GoodF f) : feed_Right none f = some (FeedW f).isSome := by
  unfold feed_Right
  rw [bnd (written_eq h)]
  cases FeedW f <;> rfl

theorem code_err (k : Int) : (feed_Code k).2.2 = if k < 1 ∨ 5 < k then 1 else 0 := by
  unfold feed_Code
  simp only [cm_eql, decide_eq_true_eq]
  by_cases c1 : k = 1
  · rw [if_pos c1, if_neg (by omega)]
  by_cases c2 : k = 2
  · rw [if_neg c1, if_pos c2, if_neg (by omega)]
  by_cases c3 : k = 3
  · rw [if_neg c1, if_neg c2, if_pos c3, if_neg (by omega)]
  by_cases c4 : k = 4
  · rw [if_neg c1, if_neg c2, if_neg c3, if_pos c4, if_neg (by omega)]
  by_cases c5 : k = 5
  · rw [if_neg c1, if_neg c2, if_neg c3, if_neg c4, if_pos c5, if_neg (by omega)]
  · rw [if_neg c1, if_neg c2, if_neg c3, if_neg c4, if_neg c5, if_pos (by omega)]

theorem numB4 {b : List Int} (hb : oct b) (at_ : Nat) (h : at_ + 4 ≤ b.length) : 0 ≤ numB ((b.drop at_).take 4) ∧ numB ((b.drop at_).take 4) ≤ 4294967295 := by
  have := numB_bd ((b.drop at_).take 4) ((oct.drop hb at_).take 4)
  rw [show ((b.drop at_).take 4).length = 4 by rw [List.length_take, List.length_drop]; omega] at this
  exact ⟨this.1, by have := this.2; omega⟩

theorem mR_ok {k : Int} (h1 : 1 ≤ k) (h5 : k ≤ 5) {b : List Int} (hb : oct b) (hl : b.length ≤ 65520) {m : I_feed_message} (h : mR k b = .ok m) : mOk m := (m_read h1 h5 hb hl h).1

theorem Fread_eq {k : Int} {b : List Int} (hb : oct b) (hl : b.length ≤ 100000) : feed_Read none k b = some (rO (FeedR k b)) := by
  unfold feed_Read FeedR
  rw [code_err]
  by_cases hk : k < 1 ∨ 5 < k
  · rw [if_pos hk, if_pos hk, if_pos (by decide)]; rfl
  rw [if_neg hk, if_neg hk, if_neg (by decide)]
  by_cases h1 : 65528 < b.length
  · have c1 : cm .gtr (b.length : Int) 65528 = true := by rw [cm_gtr]; simp; omega
    rw [c1, if_pos rfl]
    unfold feed_Read_j1
    rw [if_pos rfl, if_pos (.inl h1)]; rfl
  have c1 : cm .gtr (b.length : Int) 65528 = false := by rw [cm_gtr]; simp; omega
  rw [c1, if_neg (by decide), dv_rem (by omega)]
  unfold feed_Read_j1
  by_cases h2 : b.length % 4 = 0
  · have c2 : cm .gtr ((b.length : Int) % 4) 0 = false := by rw [cm_gtr]; simp; omega
    rw [c2, if_neg (by decide), if_neg (show ¬ (65528 < b.length ∨ b.length % 4 ≠ 0) by omega)]
    by_cases h8 : b.length < 8
    · rw [if_pos (by rw [cm_lss]; exact decide_eq_true (by omega)), if_pos h8]; rfl
    rw [if_neg (by rw [cm_lss]; simp; omega), if_neg h8, bnd (sub_some (by omega) (by omega) (by omega))]
    have ed : (b.drop (8 : Int).toNat).take ((b.length : Int).toNat - (8 : Int).toNat) = b.drop 8 := by
      apply List.take_of_length_le; rw [List.length_drop]; simp
    rw [ed]
    have hd := oct.drop hb 8
    have hdl : (b.drop 8).length ≤ 65520 := by rw [List.length_drop]; omega
    have hf := fread_eq (k := k) (by omega) (by omega) hd (by omega)
    cases hr : mR k (b.drop 8) with
    | error e =>
      rw [hr] at hf
      obtain ⟨m, hf⟩ := hf
      have he := mR_err hr
      rw [bnd hf]
      have c : cm .neq e 0 = true := by rw [cm_neq]; simpa using he
      simp only [c]; rfl
    | ok m =>
      rw [hr] at hf
      have hf' : feed_read none k (b.drop 8) = some (m, 0) := hf
      have hok := mR_ok (by omega) (by omega) hd hdl hr
      rw [bnd hf']
      have c : cm .neq (0 : Int) 0 = false := by decide
      simp only [c]
      have g0 : octet_Get none b 0 4 = some (numB (b.take 4), 0) := get_eq (at_ := 0) (n := 4) (by omega) (by omega) hb (by omega) (by omega)
      have g4 : octet_Get none b 4 4 = some (numB ((b.drop 4).take 4), 0) := get_eq (at_ := 4) (n := 4) (by omega) (by omega) hb (by omega) (by omega)
      have n0 := numB4 hb 0 (by omega)
      have n4 := numB4 hb 4 (by omega)
      rw [List.drop_zero] at n0
      rw [if_neg (by decide), bnd g0, bnd g4]
      simp only
      rw [w_u32 n0.1 n0.2, w_u32 n4.1 n4.2, bnd (put_mk hok)]
      rfl
  · have c2 : cm .gtr ((b.length : Int) % 4) 0 = true := by rw [cm_gtr]; simp; omega
    rw [c2, if_pos rfl, if_pos (show 65528 < b.length ∨ b.length % 4 ≠ 0 from .inr h2)]; rfl

theorem FeedR_err {k : Int} {b : List Int} {e : Int} (h : FeedR k b = .error e) : e ≠ 0 := by
  unfold FeedR at h
  split at h
  · cases h; decide
  split at h
  · cases h; decide
  split at h
  · cases h; decide
  cases hr : mR k (b.drop 8) with
  | error e' => rw [hr] at h; cases h; exact mR_err hr
  | ok m => rw [hr] at h; cases h

theorem canonM {k : Int} {b : List Int} (hb : oct b) (hl : b.length ≤ 65520) :
    (if (cm .eql k 2) then Option.bind (arrive_Canon none b) fun x3 => some x3
     else if (cm .eql k 4) then Option.bind (fresh_Canon none b) fun x4 => some x4
     else if (cm .eql k 5) then Option.bind (remb_Canon none b) fun x5 => some x5 else some true) = some (mC k b) := by
  unfold mC
  by_cases h2 : k = 2
  · rw [if_pos h2, if_pos (by rw [cm_eql]; exact decide_eq_true h2), bnd (acanon_eq hb (by omega))]
  rw [if_neg h2, if_neg (by rw [cm_eql]; simpa using h2)]
  by_cases h4 : k = 4
  · rw [if_pos h4, if_pos (by rw [cm_eql]; exact decide_eq_true h4), bnd (canonF_eq hb (by omega))]
  rw [if_neg h4, if_neg (by rw [cm_eql]; simpa using h4)]
  by_cases h5 : k = 5
  · rw [if_pos h5, if_pos (by rw [cm_eql]; exact decide_eq_true h5), bnd (canonR_eq hb (by omega))]
  rw [if_neg h5, if_neg (by rw [cm_eql]; simpa using h5)]

theorem FeedR_len {k : Int} {b : List Int} {f : Feed} (h : FeedR k b = .ok f) : (1 ≤ k ∧ k ≤ 5) ∧ b.length ≤ 65528 ∧ b.length % 4 = 0 ∧ 8 ≤ b.length ∧
    ∃ m, mR k (b.drop 8) = .ok m ∧ f = mkF k (numB (b.take 4)) (numB ((b.drop 4).take 4)) m := by
  unfold FeedR at h
  split at h
  · cases h
  split at h
  · cases h
  split at h
  · cases h
  cases hr : mR k (b.drop 8) with
  | error e' => rw [hr] at h; cases h
  | ok m => rw [hr] at h; cases h; exact ⟨by omega, by omega, by omega, by omega, m, rfl, rfl⟩

theorem Fcanon_eq {k : Int} {b : List Int} (hb : oct b) (hl : b.length ≤ 100000) : feed_Canon none k b = some (FeedC k b) := by
  unfold feed_Canon FeedC
  rw [bnd (Fread_eq hb hl)]
  cases hr : FeedR k b with
  | error e =>
    have he := FeedR_err hr
    have c : cm .neq ((rO (.error e)).2) 0 = true := by show cm .neq e 0 = true; rw [cm_neq]; simpa using he
    rw [c, if_pos rfl]
  | ok f =>
    obtain ⟨k1, k2, k3, k4, m, k5, k6⟩ := FeedR_len hr
    have c : cm .neq ((rO (.ok f)).2) 0 = false := rfl
    rw [c, if_neg (by decide), bnd (sub_some (by omega) (by omega) (by omega))]
    have ed : (b.drop (8 : Int).toNat).take ((b.length : Int).toNat - (8 : Int).toNat) = b.drop 8 := by
      apply List.take_of_length_le; rw [List.length_drop]; simp
    rw [ed]
    exact canonM (oct.drop hb 8) (by rw [List.length_drop]; omega)

theorem mk_fields (k a c : Int) (m : I_feed_message) : (mkF k a c m).kind = k ∧ (mkF k a c m).from_ = a ∧ (mkF k a c m).of = c := by
  cases m <;> exact ⟨rfl, rfl, rfl⟩
theorem mk_short {k a c : Int} {m : I_feed_message} (h : mOk m) : short (mkF k a c m) := by
  unfold short
  cases m with
  | nil => exact absurd h id
  | c107 x => refine ⟨h.2, ?_, ?_, ?_⟩ <;> simp [mkF]
  | c111 x => refine ⟨?_, ?_, ?_, h.2⟩ <;> simp [mkF]
  | c114 x => refine ⟨?_, h.2, ?_, ?_⟩ <;> simp [mkF]
  | c118 x => refine ⟨?_, ?_, h.2, ?_⟩ <;> simp [mkF]
  | c120 x => refine ⟨?_, ?_, ?_, ?_⟩ <;> simp [mkF]

/-- what is written comes back -/
theorem F_write {f : Feed} (h : GoodF f) {w : List Int} (hw : FeedW f = some w) :
    oct w ∧ w.length % 4 = 0 ∧ 8 ≤ w.length ∧ w.length ≤ 65528 ∧ FeedR f.kind w = .ok f ∧ FeedC f.kind w = true := by
  unfold FeedW at hw
  split at hw
  · rename_i hk
    obtain ⟨k1, k5, hi⟩ := hk
    have hok := h.2.2.2 k1 k5
    cases hm : mW (feed_messageOf f) with
    | none => rw [hm] at hw; cases hw
    | some v =>
      rw [hm, Option.map_some] at hw
      have hw := Option.some.inj hw
      subst hw
      obtain ⟨w1, w2, w3, w4, w5⟩ := m_write hok hm
      rw [kOf_msg k1 k5] at w4 w5
      have hlen : (beN 4 f.from_ ++ beN 4 f.of ++ v).length = 8 + v.length := by simp [beN_len]; omega
      have hd8 : (beN 4 f.from_ ++ beN 4 f.of ++ v).drop 8 = v := List.drop_left' (by simp [beN_len])
      have ht4 : (beN 4 f.from_ ++ beN 4 f.of ++ v).take 4 = beN 4 f.from_ := by
        rw [List.append_assoc]; exact List.take_left' (beN_len 4 _)
      have hd4 : ((beN 4 f.from_ ++ beN 4 f.of ++ v).drop 4).take 4 = beN 4 f.of := by
        rw [List.append_assoc, List.drop_left' (beN_len 4 _)]; exact List.take_left' (beN_len 4 _)
      have h1 := h.1
      have h2 := h.2.1
      have hR : FeedR f.kind (beN 4 f.from_ ++ beN 4 f.of ++ v) = .ok f := by
        unfold FeedR
        rw [if_neg (by omega), if_neg (by omega), if_neg (by omega), hd8, w4, ht4, hd4, num_be 4 _ h1.1 (by omega), num_be 4 _ h2.1 (by omega)]
        simp only [hi]
      refine ⟨((oct_be 4 _).app (oct_be 4 _)).app w1, by omega, by omega, by omega, hR, ?_⟩
      unfold FeedC
      rw [hR]
      simp only [hd8]
      exact w5
  · cases hw

theorem F_read {k : Int} {b : List Int} (hb : oct b) {f : Feed} (h : FeedR k b = .ok f) :
    GoodF f ∧ f.kind = k ∧ ∃ w, FeedW f = some w ∧ (FeedC k b = true ↔ w = b) := by
  obtain ⟨k1, k2, k3, k4, m, k5, k6⟩ := FeedR_len h
  have hd := oct.drop hb 8
  obtain ⟨m1, m2, w, m3, m4⟩ := m_read k1.1 k1.2 hd (by rw [List.length_drop]; omega) k5
  have n0 := numB4 hb 0 (by omega)
  have n4 := numB4 hb 4 (by omega)
  rw [List.drop_zero] at n0
  have hmsg : feed_messageOf f = m := by rw [k6]; exact msg_mk m2
  have hfl := mk_fields k (numB (b.take 4)) (numB ((b.drop 4).take 4)) m
  rw [← k6] at hfl
  obtain ⟨f1, f2, f3⟩ := hfl
  have hfix : mkF f.kind f.from_ f.of (feed_messageOf f) = f := by rw [hmsg, f1, f2, f3, ← k6]
  have hW : FeedW f = some (beN 4 f.from_ ++ beN 4 f.of ++ w) := by
    unfold FeedW
    rw [if_pos ⟨by omega, by omega, hfix⟩, hmsg, m3]; rfl
  refine ⟨⟨by rw [f2]; exact n0, by rw [f3]; exact n4, by rw [k6]; exact mk_short m1, fun _ _ => by rw [hmsg]; exact m1⟩, f1, _, hW, ?_⟩
  have e0 : beN 4 f.from_ = b.take 4 := by
    have := be_num (b.take 4) (oct.take hb 4)
    rw [show (b.take 4).length = 4 by rw [List.length_take]; omega] at this
    rw [f2]; exact this
  have e4 : beN 4 f.of = (b.drop 4).take 4 := by
    have := be_num ((b.drop 4).take 4) ((oct.drop hb 4).take 4)
    rw [show ((b.drop 4).take 4).length = 4 by rw [List.length_take, List.length_drop]; omega] at this
    rw [f3]; exact this
  have eb : b = b.take 4 ++ (b.drop 4).take 4 ++ b.drop 8 := by
    have j1 : b.drop 4 = (b.drop 4).take 4 ++ b.drop 8 := by
      conv => lhs; rw [← List.take_append_drop 4 (b.drop 4)]
      rw [List.drop_drop]
    rw [List.append_assoc, ← j1, List.take_append_drop]
  have hC : FeedC k b = mC k (b.drop 8) := by unfold FeedC; rw [h]
  rw [hC, m4, e0, e4]
  constructor
  · intro e; rw [e]; exact eb.symm
  · intro e
    have e' : b.take 4 ++ (b.drop 4).take 4 ++ w = b.take 4 ++ (b.drop 4).take 4 ++ b.drop 8 := e.trans eb
    exact List.append_cancel_left e'

theorem F_inj {f g : Feed} (hf : GoodF f) (hg : GoodF g) (hk : f.kind = g.kind) {w v : List Int} (h1 : FeedW f = some w) (h2 : FeedW g = some v) : w = v ↔ f = g := by
  constructor
  · intro e
    have a := (F_write hf h1).2.2.2.2.1
    have c := (F_write hg h2).2.2.2.2.1
    rw [e, hk, c] at a
    cases a; rfl
  · intro e; subst e; rw [h1] at h2; cases h2; rfl

theorem same20_eq {a b : Feed} (h : short a) : ref20_Same none a b = some (decide (a = b)) := by
  obtain ⟨h1, h2, h3, h4⟩ := h
  unfold ref20_Same
  rw [sameN_eq _ _ h1, sameF_eq _ _ h2, sameR_eq _ _ h3, same_eq h4]
  cases a with
  | mk k a' c p ar en ra =>
  cases b with
  | mk k' b' c' p' ar' en' ra' =>
  simp only [Feed.mk.injEq, cm_eql]
  by_cases c1 : k = k' <;> by_cases c2 : a' = b' <;> by_cases c3 : c = c' <;> simp only [c1, c2, c3, decide_true, decide_false, Bool.true_and, Bool.and_true, Bool.false_and, Bool.and_false, true_and, false_and, and_false, gTT, gTF, Option.bind_some]
  by_cases c4 : p = p' <;> by_cases c5 : en = en' <;> by_cases c6 : ra = ra' <;> by_cases c7 : ar = ar' <;>
    simp [c4, c5, c6, c7, gT]
end Xb

