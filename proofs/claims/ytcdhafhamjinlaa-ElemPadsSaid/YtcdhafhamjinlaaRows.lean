/-
  No cell of these rows narrows 'for every input' (looked for: loops, veiled, ifaces, maps, wideKeys, modest, calm, conditions, laid).
  DERIVED. THE GIVEN ROWS OF THIS SEAT. 3 by the template 'for every input the law returns true; each argument reads behind the call as it read before'; 0 by the template 'total and deterministic' (their statements: YtcdhafhamjinlaaTotals.lean).
  GIVEN WITH THE SEED: the statements are not yours to turn. If you find one false, say at which input.
  Laid BY PROGRAM, IN A SANDBOX (cutbox-rows.mjs): the forced cells as the released guide's own fill.sh prints them over the translation e44bbe27b1df81ce… (all of the seat's roots in one cut). By AI agents, Wed Nov 11 2026. No macro, syntax, notation, axiom, sorry.
-/
import Derived.Test.YtcdhafhamjinlaaChecked
import GoSem.Claim
import GoSem.ClaimJoined
import GoSem.ClaimMapViews
import Derived.JoinedTies
import Derived.KernelRfl
namespace Go.Proofs.Ytcdhafhamjinlaa
/- THE CELL 'sum', in the pinned program and in every row, IS THE sha256 OF THE DUMP (.gsa) THAT YtcdhafhamjinlaaProg.lean LOADS. Nothing in Lean hashes anything: it is a label: what it is worth is what the hold of that sum in a sandbox is worth. -/
noncomputable def Try.pinned : Pinned := { name := "ytcdhafhamjinlaa", sum := "e44bbe27b1df81ce5991a926ad7e96fa88c671208ddeeefed535716ec9bde756", checked := Try.checked }
namespace Rows
def none {H : Type} : Left H := { results := [], args := [] }

/-- 'crossbarlaw08.ElemRight': WHATEVER THE INPUT: true; the input reads as it did. -/
def elemRightSpec : ChangeSpec := { name := "elemRight", fn := fun _ => fun
  | [d1, d2, d3] => { results := [.lit (.bool true)], args := [d1, d2, d3] }
  | _ => none }
def elemRightRow : OpenClaim := { program := "ytcdhafhamjinlaa", sum := "e44bbe27b1df81ce5991a926ad7e96fa88c671208ddeeefed535716ec9bde756", func := "crossbar/crossbarlaw08.ElemRight", spec := "elemRight", inPlace := ["internal/bytealg.Count", "internal/bytealg.IndexByte", "internal/bytealg.Index"], unfollowed := true, recurses := true, named := ["internal/bytealg.MaxLen"], apart := false }
def ElemRightSaid : Prop := elemRightRow.holds Try.pinned (OpenSpec.ofChange elemRightSpec)

/-- ITS FALSE NEIGHBOUR: 'it returns false'. Refute it at one input. -/
def elemRightWrong : ChangeSpec := { name := "elemRight", fn := fun _ => fun
  | [d1, d2, d3] => { results := [.lit (.bool false)], args := [d1, d2, d3] }
  | _ => none }
def ElemRightWrongFalsely : Prop := elemRightRow.holds Try.pinned (OpenSpec.ofChange elemRightWrong)

/-- 'crossbarlaw08.ElemBack': WHATEVER THE INPUT: true; the input reads as it did. -/
def elemBackSpec : ChangeSpec := { name := "elemBack", fn := fun _ => fun
  | [d1, d2, d3, d4] => { results := [.lit (.bool true)], args := [d1, d2, d3, d4] }
  | _ => none }
def elemBackRow : OpenClaim := { program := "ytcdhafhamjinlaa", sum := "e44bbe27b1df81ce5991a926ad7e96fa88c671208ddeeefed535716ec9bde756", func := "crossbar/crossbarlaw08.ElemBack", spec := "elemBack", inPlace := ["internal/bytealg.Count", "internal/bytealg.IndexByte", "internal/bytealg.Index"], unfollowed := true, recurses := true, named := ["internal/bytealg.MaxLen"], apart := false }
def ElemBackSaid : Prop := elemBackRow.holds Try.pinned (OpenSpec.ofChange elemBackSpec)

/-- ITS FALSE NEIGHBOUR: 'it returns false'. Refute it at one input. -/
def elemBackWrong : ChangeSpec := { name := "elemBack", fn := fun _ => fun
  | [d1, d2, d3, d4] => { results := [.lit (.bool false)], args := [d1, d2, d3, d4] }
  | _ => none }
def ElemBackWrongFalsely : Prop := elemBackRow.holds Try.pinned (OpenSpec.ofChange elemBackWrong)

/-- 'crossbarlaw08.ElemPads': WHATEVER THE INPUT: true; the input reads as it did. -/
def elemPadsSpec : ChangeSpec := { name := "elemPads", fn := fun _ => fun
  | [d1, d2, d3, d4] => { results := [.lit (.bool true)], args := [d1, d2, d3, d4] }
  | _ => none }
def elemPadsRow : OpenClaim := { program := "ytcdhafhamjinlaa", sum := "e44bbe27b1df81ce5991a926ad7e96fa88c671208ddeeefed535716ec9bde756", func := "crossbar/crossbarlaw08.ElemPads", spec := "elemPads", inPlace := ["internal/bytealg.Count", "internal/bytealg.IndexByte", "internal/bytealg.Index"], unfollowed := true, recurses := true, named := ["internal/bytealg.MaxLen"], apart := false }
def ElemPadsSaid : Prop := elemPadsRow.holds Try.pinned (OpenSpec.ofChange elemPadsSpec)

/-- ITS FALSE NEIGHBOUR: 'it returns false'. Refute it at one input. -/
def elemPadsWrong : ChangeSpec := { name := "elemPads", fn := fun _ => fun
  | [d1, d2, d3, d4] => { results := [.lit (.bool false)], args := [d1, d2, d3, d4] }
  | _ => none }
def ElemPadsWrongFalsely : Prop := elemPadsRow.holds Try.pinned (OpenSpec.ofChange elemPadsWrong)

/- THE SECOND FORM. 'bulk': how many values and letters a reading holds, each counted each time it is reached (what is shared counts as often as it is met; a slice's spare places count too). A statement '..UptoSaid' is the law's where the arguments, and the package variables that the reading takes, are together of bulk at most 1048576: NARROWER than '..Said'. Prove '..Said' where nothing that the law and all that it calls make is longer than what came in: it says more and counts as full. Else prove '..UptoSaid'. A law counts once. -/
mutual
def uptoBulk {H : Type} : DataW H → Nat
  | .lit (.string bytes) => bytes.length + 1
  | .lit _ => 1
  | .nil => 1
  | .ptr d => uptoBulk d + 1
  | .slice elems spare => uptoBulkAll elems + uptoBulkAll spare + 1
  | .agg parts => uptoBulkAll parts + 1
  | .iface _ d => uptoBulk d + 1
  | .map entries => uptoBulkEntries entries + 1
  | .held _ => 1
def uptoBulkAll {H : Type} : List (DataW H) → Nat
  | [] => 0
  | d :: r => uptoBulk d + uptoBulkAll r
def uptoBulkEntries {H : Type} : List (Lit × DataW H) → Nat
  | [] => 0
  | x :: r => uptoBulkEntry x + uptoBulkEntries r
def uptoBulkEntry {H : Type} : Lit × DataW H → Nat
  | (.string bytes, d) => bytes.length + uptoBulk d + 1
  | (_, d) => uptoBulk d + 1
 end
def uptoSmall : (H : Type) → List (DataW H) → Bool := fun _ ds => decide (uptoBulkAll ds ≤ 1048576)
def OpenSpec.upto (s : _root_.Go.ChangeSpec) : _root_.Go.OpenSpec := { _root_.Go.OpenSpec.ofChange s with cond := some uptoSmall }

/-- 'crossbarlaw08.ElemRight', WHERE WHAT IT READS IS OF BULK AT MOST 1048576: true; the input reads as it did. -/
def elemRightUptoRow : OpenClaim := { program := "ytcdhafhamjinlaa", sum := "e44bbe27b1df81ce5991a926ad7e96fa88c671208ddeeefed535716ec9bde756", func := "crossbar/crossbarlaw08.ElemRight", spec := "elemRight", inPlace := ["internal/bytealg.Count", "internal/bytealg.IndexByte", "internal/bytealg.Index"], unfollowed := true, recurses := true, named := ["internal/bytealg.MaxLen"], apart := false, narrowed := true }
def ElemRightUptoSaid : Prop := elemRightUptoRow.holds Try.pinned (OpenSpec.upto elemRightSpec)

/-- 'crossbarlaw08.ElemBack', WHERE WHAT IT READS IS OF BULK AT MOST 1048576: true; the input reads as it did. -/
def elemBackUptoRow : OpenClaim := { program := "ytcdhafhamjinlaa", sum := "e44bbe27b1df81ce5991a926ad7e96fa88c671208ddeeefed535716ec9bde756", func := "crossbar/crossbarlaw08.ElemBack", spec := "elemBack", inPlace := ["internal/bytealg.Count", "internal/bytealg.IndexByte", "internal/bytealg.Index"], unfollowed := true, recurses := true, named := ["internal/bytealg.MaxLen"], apart := false, narrowed := true }
def ElemBackUptoSaid : Prop := elemBackUptoRow.holds Try.pinned (OpenSpec.upto elemBackSpec)

/-- 'crossbarlaw08.ElemPads', WHERE WHAT IT READS IS OF BULK AT MOST 1048576: true; the input reads as it did. -/
def elemPadsUptoRow : OpenClaim := { program := "ytcdhafhamjinlaa", sum := "e44bbe27b1df81ce5991a926ad7e96fa88c671208ddeeefed535716ec9bde756", func := "crossbar/crossbarlaw08.ElemPads", spec := "elemPads", inPlace := ["internal/bytealg.Count", "internal/bytealg.IndexByte", "internal/bytealg.Index"], unfollowed := true, recurses := true, named := ["internal/bytealg.MaxLen"], apart := false, narrowed := true }
def ElemPadsUptoSaid : Prop := elemPadsUptoRow.holds Try.pinned (OpenSpec.upto elemPadsSpec)

end Rows
end Go.Proofs.Ytcdhafhamjinlaa
