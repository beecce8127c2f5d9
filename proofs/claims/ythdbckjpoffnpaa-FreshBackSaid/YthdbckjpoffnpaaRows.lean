/-
  No cell of these rows narrows 'for every input' (looked for: loops, veiled, ifaces, maps, wideKeys, modest, calm, conditions, laid).
  DERIVED. THE GIVEN ROWS OF THIS SEAT. 6 by the template 'for every input the law returns true; each argument reads behind the call as it read before'; 0 by the template 'total and deterministic' (their statements: YthdbckjpoffnpaaTotals.lean).
  GIVEN WITH THE SEED: the statements are not yours to turn. If you find one false, say at which input.
  Laid BY PROGRAM, IN A SANDBOX (cutbox-rows.mjs): the forced cells as the released guide's own fill.sh prints them over the translation 9d4243a1c3195067… (all of the seat's roots in one cut). By AI agents, Wed Nov 11 2026. No macro, syntax, notation, axiom, sorry.
-/
import Derived.Test.YthdbckjpoffnpaaChecked
import GoSem.Claim
import GoSem.ClaimJoined
import GoSem.ClaimMapViews
import Derived.JoinedTies
import Derived.KernelRfl
namespace Go.Proofs.Ythdbckjpoffnpaa
/- THE CELL 'sum', in the pinned program and in every row, IS THE sha256 OF THE DUMP (.gsa) THAT YthdbckjpoffnpaaProg.lean LOADS. Nothing in Lean hashes anything: it is a label: what it is worth is what the hold of that sum in a sandbox is worth. -/
noncomputable def Try.pinned : Pinned := { name := "ythdbckjpoffnpaa", sum := "9d4243a1c319506705ed79159cdb8c76946eda0abd84e97d43428f62e52b6ae7", checked := Try.checked }
namespace Rows
def none {H : Type} : Left H := { results := [], args := [] }

/-- 'crossbarlaw18.ChunkBack': WHATEVER THE INPUT: true; the input reads as it did. -/
def chunkBackSpec : ChangeSpec := { name := "chunkBack", fn := fun _ => fun
  | [d1, d2, d3, d4] => { results := [.lit (.bool true)], args := [d1, d2, d3, d4] }
  | _ => none }
def chunkBackRow : OpenClaim := { program := "ythdbckjpoffnpaa", sum := "9d4243a1c319506705ed79159cdb8c76946eda0abd84e97d43428f62e52b6ae7", func := "crossbar/crossbarlaw18.ChunkBack", spec := "chunkBack", unfollowed := true, recurses := true, apart := false }
def ChunkBackSaid : Prop := chunkBackRow.holds Try.pinned (OpenSpec.ofChange chunkBackSpec)

/-- ITS FALSE NEIGHBOUR: 'it returns false'. Refute it at one input. -/
def chunkBackWrong : ChangeSpec := { name := "chunkBack", fn := fun _ => fun
  | [d1, d2, d3, d4] => { results := [.lit (.bool false)], args := [d1, d2, d3, d4] }
  | _ => none }
def ChunkBackWrongFalsely : Prop := chunkBackRow.holds Try.pinned (OpenSpec.ofChange chunkBackWrong)

/-- 'crossbarlaw18.ChunkFew': WHATEVER THE INPUT: true; the input reads as it did. -/
def chunkFewSpec : ChangeSpec := { name := "chunkFew", fn := fun _ => fun
  | [d1, d2, d3] => { results := [.lit (.bool true)], args := [d1, d2, d3] }
  | _ => none }
def chunkFewRow : OpenClaim := { program := "ythdbckjpoffnpaa", sum := "9d4243a1c319506705ed79159cdb8c76946eda0abd84e97d43428f62e52b6ae7", func := "crossbar/crossbarlaw18.ChunkFew", spec := "chunkFew", unfollowed := true, recurses := true, apart := false }
def ChunkFewSaid : Prop := chunkFewRow.holds Try.pinned (OpenSpec.ofChange chunkFewSpec)

/-- ITS FALSE NEIGHBOUR: 'it returns false'. Refute it at one input. -/
def chunkFewWrong : ChangeSpec := { name := "chunkFew", fn := fun _ => fun
  | [d1, d2, d3] => { results := [.lit (.bool false)], args := [d1, d2, d3] }
  | _ => none }
def ChunkFewWrongFalsely : Prop := chunkFewRow.holds Try.pinned (OpenSpec.ofChange chunkFewWrong)

/-- 'crossbarlaw03.PadRight': WHATEVER THE INPUT: true; the input reads as it did. -/
def padRightSpec : ChangeSpec := { name := "padRight", fn := fun _ => fun
  | [d1, d2] => { results := [.lit (.bool true)], args := [d1, d2] }
  | _ => none }
def padRightRow : OpenClaim := { program := "ythdbckjpoffnpaa", sum := "9d4243a1c319506705ed79159cdb8c76946eda0abd84e97d43428f62e52b6ae7", func := "crossbar/crossbarlaw03.PadRight", spec := "padRight", inPlace := ["internal/bytealg.Count", "internal/bytealg.IndexByte", "internal/bytealg.Index"], named := ["internal/bytealg.MaxLen"], apart := false }
def PadRightSaid : Prop := padRightRow.holds Try.pinned (OpenSpec.ofChange padRightSpec)

/-- ITS FALSE NEIGHBOUR: 'it returns false'. Refute it at one input. -/
def padRightWrong : ChangeSpec := { name := "padRight", fn := fun _ => fun
  | [d1, d2] => { results := [.lit (.bool false)], args := [d1, d2] }
  | _ => none }
def PadRightWrongFalsely : Prop := padRightRow.holds Try.pinned (OpenSpec.ofChange padRightWrong)

/-- 'crossbarlaw03.PadTrail': WHATEVER THE INPUT: true; the input reads as it did. -/
def padTrailSpec : ChangeSpec := { name := "padTrail", fn := fun _ => fun
  | [d1, d2, d3, d4] => { results := [.lit (.bool true)], args := [d1, d2, d3, d4] }
  | _ => none }
def padTrailRow : OpenClaim := { program := "ythdbckjpoffnpaa", sum := "9d4243a1c319506705ed79159cdb8c76946eda0abd84e97d43428f62e52b6ae7", func := "crossbar/crossbarlaw03.PadTrail", spec := "padTrail", inPlace := ["internal/bytealg.Count", "internal/bytealg.IndexByte", "internal/bytealg.Index"], named := ["internal/bytealg.MaxLen"], apart := false }
def PadTrailSaid : Prop := padTrailRow.holds Try.pinned (OpenSpec.ofChange padTrailSpec)

/-- ITS FALSE NEIGHBOUR: 'it returns false'. Refute it at one input. -/
def padTrailWrong : ChangeSpec := { name := "padTrail", fn := fun _ => fun
  | [d1, d2, d3, d4] => { results := [.lit (.bool false)], args := [d1, d2, d3, d4] }
  | _ => none }
def PadTrailWrongFalsely : Prop := padTrailRow.holds Try.pinned (OpenSpec.ofChange padTrailWrong)

/-- 'crossbarlaw03.PadFill': WHATEVER THE INPUT: true; the input reads as it did. -/
def padFillSpec : ChangeSpec := { name := "padFill", fn := fun _ => fun
  | [d] => { results := [.lit (.bool true)], args := [d] }
  | _ => none }
def padFillRow : OpenClaim := { program := "ythdbckjpoffnpaa", sum := "9d4243a1c319506705ed79159cdb8c76946eda0abd84e97d43428f62e52b6ae7", func := "crossbar/crossbarlaw03.PadFill", spec := "padFill", inPlace := ["internal/bytealg.Count", "internal/bytealg.IndexByte", "internal/bytealg.Index"], named := ["internal/bytealg.MaxLen"], apart := false }
def PadFillSaid : Prop := padFillRow.holds Try.pinned (OpenSpec.ofChange padFillSpec)

/-- ITS FALSE NEIGHBOUR: 'it returns false'. Refute it at one input. -/
def padFillWrong : ChangeSpec := { name := "padFill", fn := fun _ => fun
  | [d] => { results := [.lit (.bool false)], args := [d] }
  | _ => none }
def PadFillWrongFalsely : Prop := padFillRow.holds Try.pinned (OpenSpec.ofChange padFillWrong)

/-- 'crossbarlaw16.FreshBack': WHATEVER THE INPUT: true; the input reads as it did. -/
def freshBackSpec : ChangeSpec := { name := "freshBack", fn := fun _ => fun
  | [d1, d2, d3] => { results := [.lit (.bool true)], args := [d1, d2, d3] }
  | _ => none }
def freshBackRow : OpenClaim := { program := "ythdbckjpoffnpaa", sum := "9d4243a1c319506705ed79159cdb8c76946eda0abd84e97d43428f62e52b6ae7", func := "crossbar/crossbarlaw16.FreshBack", spec := "freshBack", inPlace := ["internal/bytealg.Count", "internal/bytealg.IndexByte", "internal/bytealg.Index"], unfollowed := true, recurses := true, named := ["internal/bytealg.MaxLen"], apart := false }
def FreshBackSaid : Prop := freshBackRow.holds Try.pinned (OpenSpec.ofChange freshBackSpec)

/-- ITS FALSE NEIGHBOUR: 'it returns false'. Refute it at one input. -/
def freshBackWrong : ChangeSpec := { name := "freshBack", fn := fun _ => fun
  | [d1, d2, d3] => { results := [.lit (.bool false)], args := [d1, d2, d3] }
  | _ => none }
def FreshBackWrongFalsely : Prop := freshBackRow.holds Try.pinned (OpenSpec.ofChange freshBackWrong)

/- THE SECOND FORM. 'bulk': how many values and letters a reading holds, each counted each time it is reached (what is shared counts as often as it is met; a slice's spare places count too). A statement '..UptoSaid' is the law's where the arguments, and the package variables that the reading takes, are together of bulk at most 1048576: NARROWER than '..Said'. Prove '..Said' where nothing that the law and all that it calls make is longer than what came in: it says more and counts as full. Else prove '..UptoSaid'. A law counts once. -/
mutual
def uptoBulk {H : Type} : DataW H → Nat
  | .lit (.string bytes) => bytes.length + 1
  | .lit _ => 1
  | .nil => 1
  | .ptr d => uptoBulk d + 1
  | .slice elems spare => uptoBulkAll elems + uptoBulkAll spare + 1
  | .agg parts => uptoBulkAll parts + 1
  | .iface _ d => uptoBulk d + 1
  | .map entries => uptoBulkEntries entries + 1
  | .held _ => 1
def uptoBulkAll {H : Type} : List (DataW H) → Nat
  | [] => 0
  | d :: r => uptoBulk d + uptoBulkAll r
def uptoBulkEntries {H : Type} : List (Lit × DataW H) → Nat
  | [] => 0
  | x :: r => uptoBulkEntry x + uptoBulkEntries r
def uptoBulkEntry {H : Type} : Lit × DataW H → Nat
  | (.string bytes, d) => bytes.length + uptoBulk d + 1
  | (_, d) => uptoBulk d + 1
 end
def uptoSmall : (H : Type) → List (DataW H) → Bool := fun _ ds => decide (uptoBulkAll ds ≤ 1048576)
def OpenSpec.upto (s : _root_.Go.ChangeSpec) : _root_.Go.OpenSpec := { _root_.Go.OpenSpec.ofChange s with cond := some uptoSmall }

/-- 'crossbarlaw18.ChunkBack', WHERE WHAT IT READS IS OF BULK AT MOST 1048576: true; the input reads as it did. -/
def chunkBackUptoRow : OpenClaim := { program := "ythdbckjpoffnpaa", sum := "9d4243a1c319506705ed79159cdb8c76946eda0abd84e97d43428f62e52b6ae7", func := "crossbar/crossbarlaw18.ChunkBack", spec := "chunkBack", unfollowed := true, recurses := true, apart := false, narrowed := true }
def ChunkBackUptoSaid : Prop := chunkBackUptoRow.holds Try.pinned (OpenSpec.upto chunkBackSpec)

/-- 'crossbarlaw18.ChunkFew', WHERE WHAT IT READS IS OF BULK AT MOST 1048576: true; the input reads as it did. -/
def chunkFewUptoRow : OpenClaim := { program := "ythdbckjpoffnpaa", sum := "9d4243a1c319506705ed79159cdb8c76946eda0abd84e97d43428f62e52b6ae7", func := "crossbar/crossbarlaw18.ChunkFew", spec := "chunkFew", unfollowed := true, recurses := true, apart := false, narrowed := true }
def ChunkFewUptoSaid : Prop := chunkFewUptoRow.holds Try.pinned (OpenSpec.upto chunkFewSpec)

/-- 'crossbarlaw03.PadRight', WHERE WHAT IT READS IS OF BULK AT MOST 1048576: true; the input reads as it did. -/
def padRightUptoRow : OpenClaim := { program := "ythdbckjpoffnpaa", sum := "9d4243a1c319506705ed79159cdb8c76946eda0abd84e97d43428f62e52b6ae7", func := "crossbar/crossbarlaw03.PadRight", spec := "padRight", inPlace := ["internal/bytealg.Count", "internal/bytealg.IndexByte", "internal/bytealg.Index"], named := ["internal/bytealg.MaxLen"], apart := false, narrowed := true }
def PadRightUptoSaid : Prop := padRightUptoRow.holds Try.pinned (OpenSpec.upto padRightSpec)

/-- 'crossbarlaw03.PadTrail', WHERE WHAT IT READS IS OF BULK AT MOST 1048576: true; the input reads as it did. -/
def padTrailUptoRow : OpenClaim := { program := "ythdbckjpoffnpaa", sum := "9d4243a1c319506705ed79159cdb8c76946eda0abd84e97d43428f62e52b6ae7", func := "crossbar/crossbarlaw03.PadTrail", spec := "padTrail", inPlace := ["internal/bytealg.Count", "internal/bytealg.IndexByte", "internal/bytealg.Index"], named := ["internal/bytealg.MaxLen"], apart := false, narrowed := true }
def PadTrailUptoSaid : Prop := padTrailUptoRow.holds Try.pinned (OpenSpec.upto padTrailSpec)

/-- 'crossbarlaw03.PadFill', WHERE WHAT IT READS IS OF BULK AT MOST 1048576: true; the input reads as it did. -/
def padFillUptoRow : OpenClaim := { program := "ythdbckjpoffnpaa", sum := "9d4243a1c319506705ed79159cdb8c76946eda0abd84e97d43428f62e52b6ae7", func := "crossbar/crossbarlaw03.PadFill", spec := "padFill", inPlace := ["internal/bytealg.Count", "internal/bytealg.IndexByte", "internal/bytealg.Index"], named := ["internal/bytealg.MaxLen"], apart := false, narrowed := true }
def PadFillUptoSaid : Prop := padFillUptoRow.holds Try.pinned (OpenSpec.upto padFillSpec)

/-- 'crossbarlaw16.FreshBack', WHERE WHAT IT READS IS OF BULK AT MOST 1048576: true; the input reads as it did. -/
def freshBackUptoRow : OpenClaim := { program := "ythdbckjpoffnpaa", sum := "9d4243a1c319506705ed79159cdb8c76946eda0abd84e97d43428f62e52b6ae7", func := "crossbar/crossbarlaw16.FreshBack", spec := "freshBack", inPlace := ["internal/bytealg.Count", "internal/bytealg.IndexByte", "internal/bytealg.Index"], unfollowed := true, recurses := true, named := ["internal/bytealg.MaxLen"], apart := false, narrowed := true }
def FreshBackUptoSaid : Prop := freshBackUptoRow.holds Try.pinned (OpenSpec.upto freshBackSpec)

end Rows
end Go.Proofs.Ythdbckjpoffnpaa
