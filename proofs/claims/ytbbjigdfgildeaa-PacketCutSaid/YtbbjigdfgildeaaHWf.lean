/- Own text: HWf. -/
import Derived.Test.YtbbjigdfgildeaaHTypes
import Derived.Test.YtbbjigdfgildeaaCore16
set_option linter.all false
set_option linter.unusedVariables false
set_option linter.unusedSimpArgs false
set_option linter.unnecessarySimpa false
set_option linter.deprecated false
namespace Xb
open Go

def wf_Head (x : Head) : Prop := (fun _ : Bool => True) x.hasPad ∧ (fun _ : Bool => True) x.hasExt ∧ (fun _ : Bool => True) x.marker ∧ (inK .i64) x.type ∧ (inK .u16) x.seq ∧ (inK .u32) x.time ∧ (inK .u32) x.ssrc ∧ (fun l : List Int => l.length ≤ maxLen ∧ ∀ x, x ∈ l → (inK .u32) x) x.csrc
def wf_Packet (x : Packet) : Prop := (wf_Head) x.head ∧ (inK .u16) x.profile ∧ (fun l : List Int => l.length ≤ maxLen ∧ ∀ x, x ∈ l → (inK .u8) x) x.ext ∧ (fun l : List Int => l.length ≤ maxLen ∧ ∀ x, x ∈ l → (inK .u8) x) x.payload ∧ (inK .i64) x.pad

end Xb
