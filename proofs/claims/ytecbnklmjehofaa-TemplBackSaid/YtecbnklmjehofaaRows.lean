/-
  No cell of these rows narrows 'for every input' (looked for: loops, veiled, ifaces, maps, wideKeys, modest, calm, conditions, laid).
  DERIVED. THE GIVEN ROWS OF THIS SEAT. 6 by the template 'for every input the law returns true; each argument reads behind the call as it read before'; 0 by the template 'total and deterministic' (their statements: YtecbnklmjehofaaTotals.lean).
  GIVEN WITH THE SEED: the statements are not yours to turn. If you find one false, say at which input.
  Laid BY PROGRAM, IN A SANDBOX (cutbox-rows.mjs): the forced cells as the released guide's own fill.sh prints them over the translation 4ec34c41878d8494… (all of the seat's roots in one cut). By AI agents, Wed Nov 11 2026. No macro, syntax, notation, axiom, sorry.
-/
import Derived.Test.YtecbnklmjehofaaChecked
import GoSem.Claim
import GoSem.ClaimJoined
import GoSem.ClaimMapViews
import Derived.JoinedTies
import Derived.KernelRfl
namespace Go.Proofs.Ytecbnklmjehofaa
/- THE CELL 'sum', in the pinned program and in every row, IS THE sha256 OF THE DUMP (.gsa) THAT YtecbnklmjehofaaProg.lean LOADS. Nothing in Lean hashes anything: it is a label: what it is worth is what the hold of that sum in a sandbox is worth. -/
noncomputable def Try.pinned : Pinned := { name := "ytecbnklmjehofaa", sum := "4ec34c41878d84940d2f61002061c0a25ac481f5c76ccc53bd6205320e568da0", checked := Try.checked }
namespace Rows
def none {H : Type} : Left H := { results := [], args := [] }

/-- 'crossbarlaw26.TemplRight': WHATEVER THE INPUT: true; the input reads as it did. -/
def templRightSpec : ChangeSpec := { name := "templRight", fn := fun _ => fun
  | [d1, d2, d3, d4, d5] => { results := [.lit (.bool true)], args := [d1, d2, d3, d4, d5] }
  | _ => none }
def templRightRow : OpenClaim := { program := "ytecbnklmjehofaa", sum := "4ec34c41878d84940d2f61002061c0a25ac481f5c76ccc53bd6205320e568da0", func := "crossbar/crossbarlaw26.TemplRight", spec := "templRight", unfollowed := true, recurses := true, apart := false }
def TemplRightSaid : Prop := templRightRow.holds Try.pinned (OpenSpec.ofChange templRightSpec)

/-- ITS FALSE NEIGHBOUR: 'it returns false'. Refute it at one input. -/
def templRightWrong : ChangeSpec := { name := "templRight", fn := fun _ => fun
  | [d1, d2, d3, d4, d5] => { results := [.lit (.bool false)], args := [d1, d2, d3, d4, d5] }
  | _ => none }
def TemplRightWrongFalsely : Prop := templRightRow.holds Try.pinned (OpenSpec.ofChange templRightWrong)

/-- 'crossbarlaw26.TemplBack': WHATEVER THE INPUT: true; the input reads as it did. -/
def templBackSpec : ChangeSpec := { name := "templBack", fn := fun _ => fun
  | [d1, d2, d3, d4, d5] => { results := [.lit (.bool true)], args := [d1, d2, d3, d4, d5] }
  | _ => none }
def templBackRow : OpenClaim := { program := "ytecbnklmjehofaa", sum := "4ec34c41878d84940d2f61002061c0a25ac481f5c76ccc53bd6205320e568da0", func := "crossbar/crossbarlaw26.TemplBack", spec := "templBack", unfollowed := true, recurses := true, apart := false }
def TemplBackSaid : Prop := templBackRow.holds Try.pinned (OpenSpec.ofChange templBackSpec)

/-- ITS FALSE NEIGHBOUR: 'it returns false'. Refute it at one input. -/
def templBackWrong : ChangeSpec := { name := "templBack", fn := fun _ => fun
  | [d1, d2, d3, d4, d5] => { results := [.lit (.bool false)], args := [d1, d2, d3, d4, d5] }
  | _ => none }
def TemplBackWrongFalsely : Prop := templBackRow.holds Try.pinned (OpenSpec.ofChange templBackWrong)

/-- 'crossbarlaw26.TemplReach': WHATEVER THE INPUT: true; the input reads as it did. -/
def templReachSpec : ChangeSpec := { name := "templReach", fn := fun _ => fun
  | [d1, d2, d3, d4] => { results := [.lit (.bool true)], args := [d1, d2, d3, d4] }
  | _ => none }
def templReachRow : OpenClaim := { program := "ytecbnklmjehofaa", sum := "4ec34c41878d84940d2f61002061c0a25ac481f5c76ccc53bd6205320e568da0", func := "crossbar/crossbarlaw26.TemplReach", spec := "templReach", unfollowed := true, recurses := true, apart := false }
def TemplReachSaid : Prop := templReachRow.holds Try.pinned (OpenSpec.ofChange templReachSpec)

/-- ITS FALSE NEIGHBOUR: 'it returns false'. Refute it at one input. -/
def templReachWrong : ChangeSpec := { name := "templReach", fn := fun _ => fun
  | [d1, d2, d3, d4] => { results := [.lit (.bool false)], args := [d1, d2, d3, d4] }
  | _ => none }
def TemplReachWrongFalsely : Prop := templReachRow.holds Try.pinned (OpenSpec.ofChange templReachWrong)

/-- 'crossbarlaw24.Vp9Right': WHATEVER THE INPUT: true; the input reads as it did. -/
def vp9RightSpec : ChangeSpec := { name := "vp9Right", fn := fun _ => fun
  | [d1, d2, d3, d4] => { results := [.lit (.bool true)], args := [d1, d2, d3, d4] }
  | _ => none }
def vp9RightRow : OpenClaim := { program := "ytecbnklmjehofaa", sum := "4ec34c41878d84940d2f61002061c0a25ac481f5c76ccc53bd6205320e568da0", func := "crossbar/crossbarlaw24.Vp9Right", spec := "vp9Right", unfollowed := true, recurses := true, apart := false }
def Vp9RightSaid : Prop := vp9RightRow.holds Try.pinned (OpenSpec.ofChange vp9RightSpec)

/-- ITS FALSE NEIGHBOUR: 'it returns false'. Refute it at one input. -/
def vp9RightWrong : ChangeSpec := { name := "vp9Right", fn := fun _ => fun
  | [d1, d2, d3, d4] => { results := [.lit (.bool false)], args := [d1, d2, d3, d4] }
  | _ => none }
def Vp9RightWrongFalsely : Prop := vp9RightRow.holds Try.pinned (OpenSpec.ofChange vp9RightWrong)

/-- 'crossbarlaw24.Vp9Back': WHATEVER THE INPUT: true; the input reads as it did. -/
def vp9BackSpec : ChangeSpec := { name := "vp9Back", fn := fun _ => fun
  | [d1, d2, d3, d4] => { results := [.lit (.bool true)], args := [d1, d2, d3, d4] }
  | _ => none }
def vp9BackRow : OpenClaim := { program := "ytecbnklmjehofaa", sum := "4ec34c41878d84940d2f61002061c0a25ac481f5c76ccc53bd6205320e568da0", func := "crossbar/crossbarlaw24.Vp9Back", spec := "vp9Back", unfollowed := true, recurses := true, apart := false }
def Vp9BackSaid : Prop := vp9BackRow.holds Try.pinned (OpenSpec.ofChange vp9BackSpec)

/-- ITS FALSE NEIGHBOUR: 'it returns false'. Refute it at one input. -/
def vp9BackWrong : ChangeSpec := { name := "vp9Back", fn := fun _ => fun
  | [d1, d2, d3, d4] => { results := [.lit (.bool false)], args := [d1, d2, d3, d4] }
  | _ => none }
def Vp9BackWrongFalsely : Prop := vp9BackRow.holds Try.pinned (OpenSpec.ofChange vp9BackWrong)

/-- 'crossbarlaw24.Vp9Set': WHATEVER THE INPUT: true; the input reads as it did. -/
def vp9SetSpec : ChangeSpec := { name := "vp9Set", fn := fun _ => fun
  | [d1, d2, d3] => { results := [.lit (.bool true)], args := [d1, d2, d3] }
  | _ => none }
def vp9SetRow : OpenClaim := { program := "ytecbnklmjehofaa", sum := "4ec34c41878d84940d2f61002061c0a25ac481f5c76ccc53bd6205320e568da0", func := "crossbar/crossbarlaw24.Vp9Set", spec := "vp9Set", unfollowed := true, recurses := true, apart := false }
def Vp9SetSaid : Prop := vp9SetRow.holds Try.pinned (OpenSpec.ofChange vp9SetSpec)

/-- ITS FALSE NEIGHBOUR: 'it returns false'. Refute it at one input. -/
def vp9SetWrong : ChangeSpec := { name := "vp9Set", fn := fun _ => fun
  | [d1, d2, d3] => { results := [.lit (.bool false)], args := [d1, d2, d3] }
  | _ => none }
def Vp9SetWrongFalsely : Prop := vp9SetRow.holds Try.pinned (OpenSpec.ofChange vp9SetWrong)

/- THE SECOND FORM. 'bulk': how many values and letters a reading holds, each counted each time it is reached (what is shared counts as often as it is met; a slice's spare places count too). A statement '..UptoSaid' is the law's where the arguments, and the package variables that the reading takes, are together of bulk at most 1048576: NARROWER than '..Said'. Prove '..Said' where nothing that the law and all that it calls make is longer than what came in: it says more and counts as full. Else prove '..UptoSaid'. A law counts once. -/
mutual
def uptoBulk {H : Type} : DataW H → Nat
  | .lit (.string bytes) => bytes.length + 1
  | .lit _ => 1
  | .nil => 1
  | .ptr d => uptoBulk d + 1
  | .slice elems spare => uptoBulkAll elems + uptoBulkAll spare + 1
  | .agg parts => uptoBulkAll parts + 1
  | .iface _ d => uptoBulk d + 1
  | .map entries => uptoBulkEntries entries + 1
  | .held _ => 1
def uptoBulkAll {H : Type} : List (DataW H) → Nat
  | [] => 0
  | d :: r => uptoBulk d + uptoBulkAll r
def uptoBulkEntries {H : Type} : List (Lit × DataW H) → Nat
  | [] => 0
  | x :: r => uptoBulkEntry x + uptoBulkEntries r
def uptoBulkEntry {H : Type} : Lit × DataW H → Nat
  | (.string bytes, d) => bytes.length + uptoBulk d + 1
  | (_, d) => uptoBulk d + 1
 end
def uptoSmall : (H : Type) → List (DataW H) → Bool := fun _ ds => decide (uptoBulkAll ds ≤ 1048576)
def OpenSpec.upto (s : _root_.Go.ChangeSpec) : _root_.Go.OpenSpec := { _root_.Go.OpenSpec.ofChange s with cond := some uptoSmall }

/-- 'crossbarlaw26.TemplRight', WHERE WHAT IT READS IS OF BULK AT MOST 1048576: true; the input reads as it did. -/
def templRightUptoRow : OpenClaim := { program := "ytecbnklmjehofaa", sum := "4ec34c41878d84940d2f61002061c0a25ac481f5c76ccc53bd6205320e568da0", func := "crossbar/crossbarlaw26.TemplRight", spec := "templRight", unfollowed := true, recurses := true, apart := false, narrowed := true }
def TemplRightUptoSaid : Prop := templRightUptoRow.holds Try.pinned (OpenSpec.upto templRightSpec)

/-- 'crossbarlaw26.TemplBack', WHERE WHAT IT READS IS OF BULK AT MOST 1048576: true; the input reads as it did. -/
def templBackUptoRow : OpenClaim := { program := "ytecbnklmjehofaa", sum := "4ec34c41878d84940d2f61002061c0a25ac481f5c76ccc53bd6205320e568da0", func := "crossbar/crossbarlaw26.TemplBack", spec := "templBack", unfollowed := true, recurses := true, apart := false, narrowed := true }
def TemplBackUptoSaid : Prop := templBackUptoRow.holds Try.pinned (OpenSpec.upto templBackSpec)

/-- 'crossbarlaw26.TemplReach', WHERE WHAT IT READS IS OF BULK AT MOST 1048576: true; the input reads as it did. -/
def templReachUptoRow : OpenClaim := { program := "ytecbnklmjehofaa", sum := "4ec34c41878d84940d2f61002061c0a25ac481f5c76ccc53bd6205320e568da0", func := "crossbar/crossbarlaw26.TemplReach", spec := "templReach", unfollowed := true, recurses := true, apart := false, narrowed := true }
def TemplReachUptoSaid : Prop := templReachUptoRow.holds Try.pinned (OpenSpec.upto templReachSpec)

/-- 'crossbarlaw24.Vp9Right', WHERE WHAT IT READS IS OF BULK AT MOST 1048576: true; the input reads as it did. -/
def vp9RightUptoRow : OpenClaim := { program := "ytecbnklmjehofaa", sum := "4ec34c41878d84940d2f61002061c0a25ac481f5c76ccc53bd6205320e568da0", func := "crossbar/crossbarlaw24.Vp9Right", spec := "vp9Right", unfollowed := true, recurses := true, apart := false, narrowed := true }
def Vp9RightUptoSaid : Prop := vp9RightUptoRow.holds Try.pinned (OpenSpec.upto vp9RightSpec)

/-- 'crossbarlaw24.Vp9Back', WHERE WHAT IT READS IS OF BULK AT MOST 1048576: true; the input reads as it did. -/
def vp9BackUptoRow : OpenClaim := { program := "ytecbnklmjehofaa", sum := "4ec34c41878d84940d2f61002061c0a25ac481f5c76ccc53bd6205320e568da0", func := "crossbar/crossbarlaw24.Vp9Back", spec := "vp9Back", unfollowed := true, recurses := true, apart := false, narrowed := true }
def Vp9BackUptoSaid : Prop := vp9BackUptoRow.holds Try.pinned (OpenSpec.upto vp9BackSpec)

/-- 'crossbarlaw24.Vp9Set', WHERE WHAT IT READS IS OF BULK AT MOST 1048576: true; the input reads as it did. -/
def vp9SetUptoRow : OpenClaim := { program := "ytecbnklmjehofaa", sum := "4ec34c41878d84940d2f61002061c0a25ac481f5c76ccc53bd6205320e568da0", func := "crossbar/crossbarlaw24.Vp9Set", spec := "vp9Set", unfollowed := true, recurses := true, apart := false, narrowed := true }
def Vp9SetUptoSaid : Prop := vp9SetUptoRow.holds Try.pinned (OpenSpec.upto vp9SetSpec)

end Rows
end Go.Proofs.Ytecbnklmjehofaa
