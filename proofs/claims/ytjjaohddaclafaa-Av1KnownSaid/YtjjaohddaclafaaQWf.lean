/- Own text: QWf. -/
import Derived.Test.YtjjaohddaclafaaQTypes
import Derived.Test.YtjjaohddaclafaaCore16
set_option linter.all false
set_option linter.unusedVariables false
set_option linter.unusedSimpArgs false
set_option linter.unnecessarySimpa false
set_option linter.deprecated false
namespace Xb
open Go

def wf_Template (x : Template) : Prop := (inK .i64) x.sid ∧ (inK .i64) x.tid ∧ (fun l : List Int => l.length ≤ maxLen ∧ ∀ x, x ∈ l → (inK .i64) x) x.marks ∧ (fun l : List Int => l.length ≤ maxLen ∧ ∀ x, x ∈ l → (inK .i64) x) x.diffs ∧ (fun l : List Int => l.length ≤ maxLen ∧ ∀ x, x ∈ l → (inK .i64) x) x.chains
def wf_Size (x : Size) : Prop := (inK .i64) x.wide ∧ (inK .i64) x.high
def wf_Structure (x : Structure) : Prop := (inK .i64) x.id_ ∧ (inK .i64) x.targets ∧ (inK .i64) x.chains ∧ (fun l : List Int => l.length ≤ maxLen ∧ ∀ x, x ∈ l → (inK .i64) x) x.protect ∧ (fun l : List Template => l.length ≤ maxLen ∧ ∀ x, x ∈ l → (wf_Template) x) x.templates ∧ (fun l : List Size => l.length ≤ maxLen ∧ ∀ x, x ∈ l → (wf_Size) x) x.sizes
def wf_Frame (x : Frame) : Prop := (fun _ : Bool => True) x.start ∧ (fun _ : Bool => True) x.end_ ∧ (inK .i64) x.template ∧ (inK .i64) x.number ∧ (fun _ : Bool => True) x.hasStructure ∧ (wf_Structure) x.structure_ ∧ (fun _ : Bool => True) x.hasActive ∧ (inK .u32) x.active ∧ (fun _ : Bool => True) x.ownMarks ∧ (fun l : List Int => l.length ≤ maxLen ∧ ∀ x, x ∈ l → (inK .i64) x) x.marks ∧ (fun _ : Bool => True) x.ownDiffs ∧ (fun l : List Int => l.length ≤ maxLen ∧ ∀ x, x ∈ l → (inK .i64) x) x.diffs ∧ (fun _ : Bool => True) x.ownChains ∧ (fun l : List Int => l.length ≤ maxLen ∧ ∀ x, x ∈ l → (inK .i64) x) x.chains

end Xb
