/- Own text: VWf. -/
import Derived.Test.YtecbnklmjehofaaVTypes
import Derived.Test.YtecbnklmjehofaaCore16
set_option linter.all false
set_option linter.unusedVariables false
set_option linter.unusedSimpArgs false
set_option linter.unnecessarySimpa false
set_option linter.deprecated false
namespace Xb
open Go

def wf_Size (x : Size) : Prop := (inK .i64) x.wide ∧ (inK .i64) x.high
def wf_Group (x : Group) : Prop := (inK .i64) x.tid ∧ (fun _ : Bool => True) x.up ∧ (fun l : List Int => l.length ≤ maxLen ∧ ∀ x, x ∈ l → (inK .i64) x) x.refs
def wf_Scale (x : Scale) : Prop := (inK .i64) x.layers ∧ (fun _ : Bool => True) x.hasSizes ∧ (fun l : List Size => l.length ≤ maxLen ∧ ∀ x, x ∈ l → (wf_Size) x) x.sizes ∧ (fun _ : Bool => True) x.hasPics ∧ (fun l : List Group => l.length ≤ maxLen ∧ ∀ x, x ∈ l → (wf_Group) x) x.pics
def wf_Vp9 (x : Vp9) : Prop := (fun _ : Bool => True) x.hasPic ∧ (fun _ : Bool => True) x.wide ∧ (inK .i64) x.pic ∧ (fun _ : Bool => True) x.inter ∧ (fun _ : Bool => True) x.hasLayer ∧ (inK .i64) x.tid ∧ (inK .i64) x.sid ∧ (fun _ : Bool => True) x.up ∧ (fun _ : Bool => True) x.depends ∧ (fun _ : Bool => True) x.flexible ∧ (inK .i64) x.level ∧ (fun l : List Int => l.length ≤ maxLen ∧ ∀ x, x ∈ l → (inK .i64) x) x.refs ∧ (fun _ : Bool => True) x.begin ∧ (fun _ : Bool => True) x.end_ ∧ (fun _ : Bool => True) x.hasScale ∧ (wf_Scale) x.scale ∧ (fun _ : Bool => True) x.notRef

end Xb
