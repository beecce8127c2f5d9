/-
  No cell of these rows narrows 'for every input' (looked for: loops, veiled, ifaces, maps, wideKeys, modest, calm, conditions, laid).
  DERIVED. THE GIVEN ROWS OF THIS SEAT. 2 by the template 'for every input the law returns true; each argument reads behind the call as it read before'; 0 by the template 'total and deterministic' (their statements: YtpehlandaemcmaaGreatTotals.lean).
  GIVEN WITH THE SEED: the statements are not yours to turn. If you find one false, say at which input.
  Laid BY PROGRAM, IN A SANDBOX (cutbox-rows.mjs): the forced cells as the released guide's own fill.sh prints them over the translation fa5bce604a33b3d9… (all of the seat's roots in one cut). By AI agents, Wed Nov 11 2026. No macro, syntax, notation, axiom, sorry.
-/
import Derived.Test.YtpehlandaemcmaaGreatChecked
import GoSem.Claim
import GoSem.ClaimJoined
import GoSem.ClaimMapViews
import Derived.JoinedTies
import Derived.KernelRfl
namespace Go.Proofs.YtpehlandaemcmaaGreat
/- THE CELL 'sum', in the pinned program and in every row, IS THE sha256 OF THE DUMP (.gsa) THAT YtpehlandaemcmaaGreatProg.lean LOADS. Nothing in Lean hashes anything: it is a label: what it is worth is what the hold of that sum in a sandbox is worth. -/
noncomputable def Tryz.pinned : Pinned := { name := "ytpehlandaemcmaagreat", sum := "fa5bce604a33b3d9fb9e5999399edbbe3c2ea63f1b489995a3cc7db5bb9f952e", checked := Tryz.checked }
namespace Rows
def none {H : Type} : Left H := { results := [], args := [] }

/-- 'crossbarlaw20.FeedRight': WHATEVER THE INPUT: true; the input reads as it did. -/
def feedRightSpec : ChangeSpec := { name := "feedRight", fn := fun _ => fun
  | [d1, d2, d3, d4] => { results := [.lit (.bool true)], args := [d1, d2, d3, d4] }
  | _ => none }
def feedRightRow : OpenClaim := { program := "ytpehlandaemcmaagreat", sum := "fa5bce604a33b3d9fb9e5999399edbbe3c2ea63f1b489995a3cc7db5bb9f952e", func := "crossbar/crossbarlaw20.FeedRight", spec := "feedRight", inPlace := ["internal/bytealg.Count", "internal/bytealg.IndexByte", "internal/bytealg.Index"], unfollowed := true, recurses := true, named := ["internal/bytealg.MaxLen"], apart := false }
def FeedRightSaid : Prop := feedRightRow.holds Tryz.pinned (OpenSpec.ofChange feedRightSpec)

/-- ITS FALSE NEIGHBOUR: 'it returns false'. Refute it at one input. -/
def feedRightWrong : ChangeSpec := { name := "feedRight", fn := fun _ => fun
  | [d1, d2, d3, d4] => { results := [.lit (.bool false)], args := [d1, d2, d3, d4] }
  | _ => none }
def FeedRightWrongFalsely : Prop := feedRightRow.holds Tryz.pinned (OpenSpec.ofChange feedRightWrong)

/-- 'crossbarlaw20.FeedBack': WHATEVER THE INPUT: true; the input reads as it did. -/
def feedBackSpec : ChangeSpec := { name := "feedBack", fn := fun _ => fun
  | [d1, d2, d3, d4] => { results := [.lit (.bool true)], args := [d1, d2, d3, d4] }
  | _ => none }
def feedBackRow : OpenClaim := { program := "ytpehlandaemcmaagreat", sum := "fa5bce604a33b3d9fb9e5999399edbbe3c2ea63f1b489995a3cc7db5bb9f952e", func := "crossbar/crossbarlaw20.FeedBack", spec := "feedBack", inPlace := ["internal/bytealg.Count", "internal/bytealg.IndexByte", "internal/bytealg.Index"], unfollowed := true, recurses := true, named := ["internal/bytealg.MaxLen"], apart := false }
def FeedBackSaid : Prop := feedBackRow.holds Tryz.pinned (OpenSpec.ofChange feedBackSpec)

/-- ITS FALSE NEIGHBOUR: 'it returns false'. Refute it at one input. -/
def feedBackWrong : ChangeSpec := { name := "feedBack", fn := fun _ => fun
  | [d1, d2, d3, d4] => { results := [.lit (.bool false)], args := [d1, d2, d3, d4] }
  | _ => none }
def FeedBackWrongFalsely : Prop := feedBackRow.holds Tryz.pinned (OpenSpec.ofChange feedBackWrong)

/- THE SECOND FORM. 'bulk': how many values and letters a reading holds, each counted each time it is reached (what is shared counts as often as it is met; a slice's spare places count too). A statement '..UptoSaid' is the law's where the arguments, and the package variables that the reading takes, are together of bulk at most 1048576: NARROWER than '..Said'. Prove '..Said' where nothing that the law and all that it calls make is longer than what came in: it says more and counts as full. Else prove '..UptoSaid'. A law counts once. -/
mutual
def uptoBulk {H : Type} : DataW H → Nat
  | .lit (.string bytes) => bytes.length + 1
  | .lit _ => 1
  | .nil => 1
  | .ptr d => uptoBulk d + 1
  | .slice elems spare => uptoBulkAll elems + uptoBulkAll spare + 1
  | .agg parts => uptoBulkAll parts + 1
  | .iface _ d => uptoBulk d + 1
  | .map entries => uptoBulkEntries entries + 1
  | .held _ => 1
def uptoBulkAll {H : Type} : List (DataW H) → Nat
  | [] => 0
  | d :: r => uptoBulk d + uptoBulkAll r
def uptoBulkEntries {H : Type} : List (Lit × DataW H) → Nat
  | [] => 0
  | x :: r => uptoBulkEntry x + uptoBulkEntries r
def uptoBulkEntry {H : Type} : Lit × DataW H → Nat
  | (.string bytes, d) => bytes.length + uptoBulk d + 1
  | (_, d) => uptoBulk d + 1
 end
def uptoSmall : (H : Type) → List (DataW H) → Bool := fun _ ds => decide (uptoBulkAll ds ≤ 1048576)
def OpenSpec.upto (s : _root_.Go.ChangeSpec) : _root_.Go.OpenSpec := { _root_.Go.OpenSpec.ofChange s with cond := some uptoSmall }

/-- 'crossbarlaw20.FeedRight', WHERE WHAT IT READS IS OF BULK AT MOST 1048576: true; the input reads as it did. -/
def feedRightUptoRow : OpenClaim := { program := "ytpehlandaemcmaagreat", sum := "fa5bce604a33b3d9fb9e5999399edbbe3c2ea63f1b489995a3cc7db5bb9f952e", func := "crossbar/crossbarlaw20.FeedRight", spec := "feedRight", inPlace := ["internal/bytealg.Count", "internal/bytealg.IndexByte", "internal/bytealg.Index"], unfollowed := true, recurses := true, named := ["internal/bytealg.MaxLen"], apart := false, narrowed := true }
def FeedRightUptoSaid : Prop := feedRightUptoRow.holds Tryz.pinned (OpenSpec.upto feedRightSpec)

/-- 'crossbarlaw20.FeedBack', WHERE WHAT IT READS IS OF BULK AT MOST 1048576: true; the input reads as it did. -/
def feedBackUptoRow : OpenClaim := { program := "ytpehlandaemcmaagreat", sum := "fa5bce604a33b3d9fb9e5999399edbbe3c2ea63f1b489995a3cc7db5bb9f952e", func := "crossbar/crossbarlaw20.FeedBack", spec := "feedBack", inPlace := ["internal/bytealg.Count", "internal/bytealg.IndexByte", "internal/bytealg.Index"], unfollowed := true, recurses := true, named := ["internal/bytealg.MaxLen"], apart := false, narrowed := true }
def FeedBackUptoSaid : Prop := feedBackUptoRow.holds Tryz.pinned (OpenSpec.upto feedBackSpec)

end Rows
end Go.Proofs.YtpehlandaemcmaaGreat
