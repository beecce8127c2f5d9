/-
  No cell of these rows narrows 'for every input' (looked for: loops, veiled, ifaces, maps, wideKeys, modest, calm, conditions, laid).
  DERIVED. THE GIVEN ROWS OF THIS SEAT. 3 by the template 'for every input the law returns true; each argument reads behind the call as it read before'; 0 by the template 'total and deterministic' (their statements: YtemfkddlidfbfaaGreatTotals.lean).
  GIVEN WITH THE SEED: the statements are not yours to turn. If you find one false, say at which input.
  Laid BY PROGRAM, IN A SANDBOX (cutbox-rows.mjs): the forced cells as the released guide's own fill.sh prints them over the translation cc4897f1bb8eafff… (all of the seat's roots in one cut). By AI agents, Wed Nov 11 2026. No macro, syntax, notation, axiom, sorry.
-/
import Derived.Test.YtemfkddlidfbfaaGreatChecked
import GoSem.Claim
import GoSem.ClaimJoined
import GoSem.ClaimMapViews
import Derived.JoinedTies
import Derived.KernelRfl
namespace Go.Proofs.YtemfkddlidfbfaaGreat
/- THE CELL 'sum', in the pinned program and in every row, IS THE sha256 OF THE DUMP (.gsa) THAT YtemfkddlidfbfaaGreatProg.lean LOADS. Nothing in Lean hashes anything: it is a label: what it is worth is what the hold of that sum in a sandbox is worth. -/
noncomputable def Tryz.pinned : Pinned := { name := "ytemfkddlidfbfaagreat", sum := "cc4897f1bb8eafff6dc224b84ee3754a2081ce403299f616cdbb6dbd9ff3cae8", checked := Tryz.checked }
namespace Rows
def none {H : Type} : Left H := { results := [], args := [] }

/-- 'crossbarlaw31.StayRight': WHATEVER THE INPUT: true; the input reads as it did. -/
def stayRightSpec : ChangeSpec := { name := "stayRight", fn := fun _ => fun
  | [d1, d2, d3] => { results := [.lit (.bool true)], args := [d1, d2, d3] }
  | _ => none }
def stayRightRow : OpenClaim := { program := "ytemfkddlidfbfaagreat", sum := "cc4897f1bb8eafff6dc224b84ee3754a2081ce403299f616cdbb6dbd9ff3cae8", func := "crossbar/crossbarlaw31.StayRight", spec := "stayRight", unfollowed := true, recurses := true, apart := false }
def StayRightSaid : Prop := stayRightRow.holds Tryz.pinned (OpenSpec.ofChange stayRightSpec)

/-- ITS FALSE NEIGHBOUR: 'it returns false'. Refute it at one input. -/
def stayRightWrong : ChangeSpec := { name := "stayRight", fn := fun _ => fun
  | [d1, d2, d3] => { results := [.lit (.bool false)], args := [d1, d2, d3] }
  | _ => none }
def StayRightWrongFalsely : Prop := stayRightRow.holds Tryz.pinned (OpenSpec.ofChange stayRightWrong)

/-- 'crossbarlaw31.StayApplies': WHATEVER THE INPUT: true; the input reads as it did. -/
def stayAppliesSpec : ChangeSpec := { name := "stayApplies", fn := fun _ => fun
  | [d1, d2] => { results := [.lit (.bool true)], args := [d1, d2] }
  | _ => none }
def stayAppliesRow : OpenClaim := { program := "ytemfkddlidfbfaagreat", sum := "cc4897f1bb8eafff6dc224b84ee3754a2081ce403299f616cdbb6dbd9ff3cae8", func := "crossbar/crossbarlaw31.StayApplies", spec := "stayApplies", inPlace := ["internal/bytealg.Count", "internal/bytealg.IndexByte", "internal/bytealg.Index"], unfollowed := true, recurses := true, named := ["internal/bytealg.MaxLen"], apart := false }
def StayAppliesSaid : Prop := stayAppliesRow.holds Tryz.pinned (OpenSpec.ofChange stayAppliesSpec)

/-- ITS FALSE NEIGHBOUR: 'it returns false'. Refute it at one input. -/
def stayAppliesWrong : ChangeSpec := { name := "stayApplies", fn := fun _ => fun
  | [d1, d2] => { results := [.lit (.bool false)], args := [d1, d2] }
  | _ => none }
def StayAppliesWrongFalsely : Prop := stayAppliesRow.holds Tryz.pinned (OpenSpec.ofChange stayAppliesWrong)

/-- 'crossbarlaw31.StayAgain': WHATEVER THE INPUT: true; the input reads as it did. -/
def stayAgainSpec : ChangeSpec := { name := "stayAgain", fn := fun _ => fun
  | [d1, d2, d3] => { results := [.lit (.bool true)], args := [d1, d2, d3] }
  | _ => none }
def stayAgainRow : OpenClaim := { program := "ytemfkddlidfbfaagreat", sum := "cc4897f1bb8eafff6dc224b84ee3754a2081ce403299f616cdbb6dbd9ff3cae8", func := "crossbar/crossbarlaw31.StayAgain", spec := "stayAgain", inPlace := ["internal/bytealg.Count", "internal/bytealg.IndexByte", "internal/bytealg.Index"], unfollowed := true, recurses := true, named := ["internal/bytealg.MaxLen"], apart := false }
def StayAgainSaid : Prop := stayAgainRow.holds Tryz.pinned (OpenSpec.ofChange stayAgainSpec)

/-- ITS FALSE NEIGHBOUR: 'it returns false'. Refute it at one input. -/
def stayAgainWrong : ChangeSpec := { name := "stayAgain", fn := fun _ => fun
  | [d1, d2, d3] => { results := [.lit (.bool false)], args := [d1, d2, d3] }
  | _ => none }
def StayAgainWrongFalsely : Prop := stayAgainRow.holds Tryz.pinned (OpenSpec.ofChange stayAgainWrong)

/- THE SECOND FORM. 'bulk': how many values and letters a reading holds, each counted each time it is reached (what is shared counts as often as it is met; a slice's spare places count too). A statement '..UptoSaid' is the law's where the arguments, and the package variables that the reading takes, are together of bulk at most 1048576: NARROWER than '..Said'. Prove '..Said' where nothing that the law and all that it calls make is longer than what came in: it says more and counts as full. Else prove '..UptoSaid'. A law counts once. -/
mutual
def uptoBulk {H : Type} : DataW H → Nat
  | .lit (.string bytes) => bytes.length + 1
  | .lit _ => 1
  | .nil => 1
  | .ptr d => uptoBulk d + 1
  | .slice elems spare => uptoBulkAll elems + uptoBulkAll spare + 1
  | .agg parts => uptoBulkAll parts + 1
  | .iface _ d => uptoBulk d + 1
  | .map entries => uptoBulkEntries entries + 1
  | .held _ => 1
def uptoBulkAll {H : Type} : List (DataW H) → Nat
  | [] => 0
  | d :: r => uptoBulk d + uptoBulkAll r
def uptoBulkEntries {H : Type} : List (Lit × DataW H) → Nat
  | [] => 0
  | x :: r => uptoBulkEntry x + uptoBulkEntries r
def uptoBulkEntry {H : Type} : Lit × DataW H → Nat
  | (.string bytes, d) => bytes.length + uptoBulk d + 1
  | (_, d) => uptoBulk d + 1
 end
def uptoSmall : (H : Type) → List (DataW H) → Bool := fun _ ds => decide (uptoBulkAll ds ≤ 1048576)
def OpenSpec.upto (s : _root_.Go.ChangeSpec) : _root_.Go.OpenSpec := { _root_.Go.OpenSpec.ofChange s with cond := some uptoSmall }

/-- 'crossbarlaw31.StayRight', WHERE WHAT IT READS IS OF BULK AT MOST 1048576: true; the input reads as it did. -/
def stayRightUptoRow : OpenClaim := { program := "ytemfkddlidfbfaagreat", sum := "cc4897f1bb8eafff6dc224b84ee3754a2081ce403299f616cdbb6dbd9ff3cae8", func := "crossbar/crossbarlaw31.StayRight", spec := "stayRight", unfollowed := true, recurses := true, apart := false, narrowed := true }
def StayRightUptoSaid : Prop := stayRightUptoRow.holds Tryz.pinned (OpenSpec.upto stayRightSpec)

/-- 'crossbarlaw31.StayApplies', WHERE WHAT IT READS IS OF BULK AT MOST 1048576: true; the input reads as it did. -/
def stayAppliesUptoRow : OpenClaim := { program := "ytemfkddlidfbfaagreat", sum := "cc4897f1bb8eafff6dc224b84ee3754a2081ce403299f616cdbb6dbd9ff3cae8", func := "crossbar/crossbarlaw31.StayApplies", spec := "stayApplies", inPlace := ["internal/bytealg.Count", "internal/bytealg.IndexByte", "internal/bytealg.Index"], unfollowed := true, recurses := true, named := ["internal/bytealg.MaxLen"], apart := false, narrowed := true }
def StayAppliesUptoSaid : Prop := stayAppliesUptoRow.holds Tryz.pinned (OpenSpec.upto stayAppliesSpec)

/-- 'crossbarlaw31.StayAgain', WHERE WHAT IT READS IS OF BULK AT MOST 1048576: true; the input reads as it did. -/
def stayAgainUptoRow : OpenClaim := { program := "ytemfkddlidfbfaagreat", sum := "cc4897f1bb8eafff6dc224b84ee3754a2081ce403299f616cdbb6dbd9ff3cae8", func := "crossbar/crossbarlaw31.StayAgain", spec := "stayAgain", inPlace := ["internal/bytealg.Count", "internal/bytealg.IndexByte", "internal/bytealg.Index"], unfollowed := true, recurses := true, named := ["internal/bytealg.MaxLen"], apart := false, narrowed := true }
def StayAgainUptoSaid : Prop := stayAgainUptoRow.holds Tryz.pinned (OpenSpec.upto stayAgainSpec)

end Rows
end Go.Proofs.YtemfkddlidfbfaaGreat
