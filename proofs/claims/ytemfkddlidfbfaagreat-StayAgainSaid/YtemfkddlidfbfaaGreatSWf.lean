/- Own text: SWf. -/
import Derived.Test.YtemfkddlidfbfaaGreatSTypes
import Derived.Test.YtemfkddlidfbfaaGreatCore16
set_option linter.all false
set_option linter.unusedVariables false
set_option linter.unusedSimpArgs false
set_option linter.unnecessarySimpa false
set_option linter.deprecated false
namespace Xb
open Go

def wf_GMap (x : GMap) : Prop := (inK .i64) x.from_ ∧ (inK .i64) x.to
def wf_Elem (x : Elem) : Prop := (inK .i64) x.id_ ∧ (fun l : List Int => l.length ≤ maxLen ∧ ∀ x, x ∈ l → (inK .u8) x) x.data
def wf_Plan (x : Plan) : Prop := (fun _ : Bool => True) x.setMarker ∧ (fun _ : Bool => True) x.marker ∧ (fun _ : Bool => True) x.setType ∧ (inK .i64) x.type ∧ (fun _ : Bool => True) x.setSeq ∧ (inK .u16) x.seq ∧ (fun _ : Bool => True) x.setTime ∧ (inK .u32) x.time ∧ (fun _ : Bool => True) x.setSsrc ∧ (inK .u32) x.ssrc ∧ (fun l : List GMap => l.length ≤ maxLen ∧ ∀ x, x ∈ l → (wf_GMap) x) x.maps ∧ (fun l : List Elem => l.length ≤ maxLen ∧ ∀ x, x ∈ l → (wf_Elem) x) x.over ∧ (fun l : List Int => l.length ≤ maxLen ∧ ∀ x, x ∈ l → (inK .i64) x) x.drops ∧ (fun l : List Elem => l.length ≤ maxLen ∧ ∀ x, x ∈ l → (wf_Elem) x) x.adds ∧ (fun _ : Bool => True) x.noPad

end Xb
