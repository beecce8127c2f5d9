/- Own text: SWf. -/
import Derived.Test.YtpehlandaemcmaaGreatSTypes
import Derived.Test.YtpehlandaemcmaaGreatCore16
set_option linter.all false
set_option linter.unusedVariables false
set_option linter.unusedSimpArgs false
set_option linter.unnecessarySimpa false
set_option linter.deprecated false
namespace Xb
open Go

def wf_Pair (x : Pair) : Prop := (inK .u16) x.pid ∧ (inK .u16) x.mask
def wf_Seen (x : Seen) : Prop := (inK .i64) x.what ∧ (inK .i64) x.delta
def wf_Arrive (x : Arrive) : Prop := (inK .u16) x.base ∧ (inK .i64) x.time ∧ (inK .u8) x.count ∧ (fun l : List Seen => l.length ≤ maxLen ∧ ∀ x, x ∈ l → (wf_Seen) x) x.seen
def wf_Entry (x : Entry) : Prop := (inK .u32) x.ssrc ∧ (inK .u8) x.seq
def wf_Rate (x : Rate) : Prop := (inK .i64) x.exp ∧ (inK .u32) x.mant ∧ (fun l : List Int => l.length ≤ maxLen ∧ ∀ x, x ∈ l → (inK .u32) x) x.srcs
def wf_Feed (x : Feed) : Prop := (inK .i64) x.kind ∧ (inK .u32) x.from_ ∧ (inK .u32) x.of ∧ (fun l : List Pair => l.length ≤ maxLen ∧ ∀ x, x ∈ l → (wf_Pair) x) x.pairs ∧ (wf_Arrive) x.arrive ∧ (fun l : List Entry => l.length ≤ maxLen ∧ ∀ x, x ∈ l → (wf_Entry) x) x.entries ∧ (wf_Rate) x.rate

end Xb
