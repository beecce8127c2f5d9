/-
  No cell of these rows narrows 'for every input' (looked for: loops, veiled, ifaces, maps, wideKeys, modest, calm, conditions, laid).
  DERIVED. THE GIVEN ROWS OF THIS SEAT. 3 by the template 'for every input the law returns true; each argument reads behind the call as it read before'; 0 by the template 'total and deterministic' (their statements: YtjfacnghojgkeaaTotals.lean).
  GIVEN WITH THE SEED: the statements are not yours to turn. If you find one false, say at which input.
  Laid BY PROGRAM, IN A SANDBOX (cutbox-rows.mjs): the forced cells as the released guide's own fill.sh prints them over the translation dbeefb2de5f3e3d3… (all of the seat's roots in one cut). By AI agents, Wed Nov 11 2026. No macro, syntax, notation, axiom, sorry.
-/
import Derived.Test.YtjfacnghojgkeaaChecked
import GoSem.Claim
import GoSem.ClaimJoined
import GoSem.ClaimMapViews
import Derived.JoinedTies
import Derived.KernelRfl
namespace Go.Proofs.Ytjfacnghojgkeaa
/- THE CELL 'sum', in the pinned program and in every row, IS THE sha256 OF THE DUMP (.gsa) THAT YtjfacnghojgkeaaProg.lean LOADS. Nothing in Lean hashes anything: it is a label: what it is worth is what the hold of that sum in a sandbox is worth. -/
noncomputable def Try.pinned : Pinned := { name := "ytjfacnghojgkeaa", sum := "dbeefb2de5f3e3d3f4f533473ae5051613e717496d5720c23a290219e0772a3a", checked := Try.checked }
namespace Rows
def none {H : Type} : Left H := { results := [], args := [] }

/-- 'crossbarlaw19.ArriveRight': WHATEVER THE INPUT: true; the input reads as it did. -/
def arriveRightSpec : ChangeSpec := { name := "arriveRight", fn := fun _ => fun
  | [d1, d2, d3] => { results := [.lit (.bool true)], args := [d1, d2, d3] }
  | _ => none }
def arriveRightRow : OpenClaim := { program := "ytjfacnghojgkeaa", sum := "dbeefb2de5f3e3d3f4f533473ae5051613e717496d5720c23a290219e0772a3a", func := "crossbar/crossbarlaw19.ArriveRight", spec := "arriveRight", inPlace := ["internal/bytealg.Count", "internal/bytealg.IndexByte", "internal/bytealg.Index"], unfollowed := true, recurses := true, named := ["internal/bytealg.MaxLen"], apart := false }
def ArriveRightSaid : Prop := arriveRightRow.holds Try.pinned (OpenSpec.ofChange arriveRightSpec)

/-- ITS FALSE NEIGHBOUR: 'it returns false'. Refute it at one input. -/
def arriveRightWrong : ChangeSpec := { name := "arriveRight", fn := fun _ => fun
  | [d1, d2, d3] => { results := [.lit (.bool false)], args := [d1, d2, d3] }
  | _ => none }
def ArriveRightWrongFalsely : Prop := arriveRightRow.holds Try.pinned (OpenSpec.ofChange arriveRightWrong)

/-- 'crossbarlaw19.ArriveBack': WHATEVER THE INPUT: true; the input reads as it did. -/
def arriveBackSpec : ChangeSpec := { name := "arriveBack", fn := fun _ => fun
  | [d1, d2, d3] => { results := [.lit (.bool true)], args := [d1, d2, d3] }
  | _ => none }
def arriveBackRow : OpenClaim := { program := "ytjfacnghojgkeaa", sum := "dbeefb2de5f3e3d3f4f533473ae5051613e717496d5720c23a290219e0772a3a", func := "crossbar/crossbarlaw19.ArriveBack", spec := "arriveBack", inPlace := ["internal/bytealg.Count", "internal/bytealg.IndexByte", "internal/bytealg.Index"], unfollowed := true, recurses := true, named := ["internal/bytealg.MaxLen"], apart := false }
def ArriveBackSaid : Prop := arriveBackRow.holds Try.pinned (OpenSpec.ofChange arriveBackSpec)

/-- ITS FALSE NEIGHBOUR: 'it returns false'. Refute it at one input. -/
def arriveBackWrong : ChangeSpec := { name := "arriveBack", fn := fun _ => fun
  | [d1, d2, d3] => { results := [.lit (.bool false)], args := [d1, d2, d3] }
  | _ => none }
def ArriveBackWrongFalsely : Prop := arriveBackRow.holds Try.pinned (OpenSpec.ofChange arriveBackWrong)

/-- 'crossbarlaw19.ArriveWhen': WHATEVER THE INPUT: true; the input reads as it did. -/
def arriveWhenSpec : ChangeSpec := { name := "arriveWhen", fn := fun _ => fun
  | [d1, d2] => { results := [.lit (.bool true)], args := [d1, d2] }
  | _ => none }
def arriveWhenRow : OpenClaim := { program := "ytjfacnghojgkeaa", sum := "dbeefb2de5f3e3d3f4f533473ae5051613e717496d5720c23a290219e0772a3a", func := "crossbar/crossbarlaw19.ArriveWhen", spec := "arriveWhen", inPlace := ["internal/bytealg.Count", "internal/bytealg.IndexByte", "internal/bytealg.Index"], unfollowed := true, recurses := true, named := ["internal/bytealg.MaxLen"], apart := false }
def ArriveWhenSaid : Prop := arriveWhenRow.holds Try.pinned (OpenSpec.ofChange arriveWhenSpec)

/-- ITS FALSE NEIGHBOUR: 'it returns false'. Refute it at one input. -/
def arriveWhenWrong : ChangeSpec := { name := "arriveWhen", fn := fun _ => fun
  | [d1, d2] => { results := [.lit (.bool false)], args := [d1, d2] }
  | _ => none }
def ArriveWhenWrongFalsely : Prop := arriveWhenRow.holds Try.pinned (OpenSpec.ofChange arriveWhenWrong)

/- THE SECOND FORM. 'bulk': how many values and letters a reading holds, each counted each time it is reached (what is shared counts as often as it is met; a slice's spare places count too). A statement '..UptoSaid' is the law's where the arguments, and the package variables that the reading takes, are together of bulk at most 1048576: NARROWER than '..Said'. Prove '..Said' where nothing that the law and all that it calls make is longer than what came in: it says more and counts as full. Else prove '..UptoSaid'. A law counts once. -/
mutual
def uptoBulk {H : Type} : DataW H → Nat
  | .lit (.string bytes) => bytes.length + 1
  | .lit _ => 1
  | .nil => 1
  | .ptr d => uptoBulk d + 1
  | .slice elems spare => uptoBulkAll elems + uptoBulkAll spare + 1
  | .agg parts => uptoBulkAll parts + 1
  | .iface _ d => uptoBulk d + 1
  | .map entries => uptoBulkEntries entries + 1
  | .held _ => 1
def uptoBulkAll {H : Type} : List (DataW H) → Nat
  | [] => 0
  | d :: r => uptoBulk d + uptoBulkAll r
def uptoBulkEntries {H : Type} : List (Lit × DataW H) → Nat
  | [] => 0
  | x :: r => uptoBulkEntry x + uptoBulkEntries r
def uptoBulkEntry {H : Type} : Lit × DataW H → Nat
  | (.string bytes, d) => bytes.length + uptoBulk d + 1
  | (_, d) => uptoBulk d + 1
 end
def uptoSmall : (H : Type) → List (DataW H) → Bool := fun _ ds => decide (uptoBulkAll ds ≤ 1048576)
def OpenSpec.upto (s : _root_.Go.ChangeSpec) : _root_.Go.OpenSpec := { _root_.Go.OpenSpec.ofChange s with cond := some uptoSmall }

/-- 'crossbarlaw19.ArriveRight', WHERE WHAT IT READS IS OF BULK AT MOST 1048576: true; the input reads as it did. -/
def arriveRightUptoRow : OpenClaim := { program := "ytjfacnghojgkeaa", sum := "dbeefb2de5f3e3d3f4f533473ae5051613e717496d5720c23a290219e0772a3a", func := "crossbar/crossbarlaw19.ArriveRight", spec := "arriveRight", inPlace := ["internal/bytealg.Count", "internal/bytealg.IndexByte", "internal/bytealg.Index"], unfollowed := true, recurses := true, named := ["internal/bytealg.MaxLen"], apart := false, narrowed := true }
def ArriveRightUptoSaid : Prop := arriveRightUptoRow.holds Try.pinned (OpenSpec.upto arriveRightSpec)

/-- 'crossbarlaw19.ArriveBack', WHERE WHAT IT READS IS OF BULK AT MOST 1048576: true; the input reads as it did. -/
def arriveBackUptoRow : OpenClaim := { program := "ytjfacnghojgkeaa", sum := "dbeefb2de5f3e3d3f4f533473ae5051613e717496d5720c23a290219e0772a3a", func := "crossbar/crossbarlaw19.ArriveBack", spec := "arriveBack", inPlace := ["internal/bytealg.Count", "internal/bytealg.IndexByte", "internal/bytealg.Index"], unfollowed := true, recurses := true, named := ["internal/bytealg.MaxLen"], apart := false, narrowed := true }
def ArriveBackUptoSaid : Prop := arriveBackUptoRow.holds Try.pinned (OpenSpec.upto arriveBackSpec)

/-- 'crossbarlaw19.ArriveWhen', WHERE WHAT IT READS IS OF BULK AT MOST 1048576: true; the input reads as it did. -/
def arriveWhenUptoRow : OpenClaim := { program := "ytjfacnghojgkeaa", sum := "dbeefb2de5f3e3d3f4f533473ae5051613e717496d5720c23a290219e0772a3a", func := "crossbar/crossbarlaw19.ArriveWhen", spec := "arriveWhen", inPlace := ["internal/bytealg.Count", "internal/bytealg.IndexByte", "internal/bytealg.Index"], unfollowed := true, recurses := true, named := ["internal/bytealg.MaxLen"], apart := false, narrowed := true }
def ArriveWhenUptoSaid : Prop := arriveWhenUptoRow.holds Try.pinned (OpenSpec.upto arriveWhenSpec)

end Rows
end Go.Proofs.Ytjfacnghojgkeaa
