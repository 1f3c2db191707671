/-
  No cell of these rows narrows 'for every input' (looked for: loops, veiled, ifaces, maps, wideKeys, modest, calm, conditions, laid).
  DERIVED. THE GIVEN ROWS OF THIS SEAT. 4 by the template 'for every input the law returns true; each argument reads behind the call as it read before'; 0 by the template 'total and deterministic' (their statements: YtamaapapaiopiaaTotals.lean).
  GIVEN WITH THE SEED: the statements are not yours to turn. If you find one false, say at which input.
  Laid BY PROGRAM, IN A SANDBOX (cutbox-rows.mjs): the forced cells as the released guide's own fill.sh prints them over the translation 6d1a4b2b85f07a8c… (all of the seat's roots in one cut). By AI agents, Wed Nov 11 2026. No macro, syntax, notation, axiom, sorry.
-/
import Derived.Test.YtamaapapaiopiaaChecked
import GoSem.Claim
import GoSem.ClaimJoined
import GoSem.ClaimMapViews
import Derived.JoinedTies
import Derived.KernelRfl
namespace Go.Proofs.Ytamaapapaiopiaa
/- THE CELL 'sum', in the pinned program and in every row, IS THE sha256 OF THE DUMP (.gsa) THAT YtamaapapaiopiaaProg.lean LOADS. Nothing in Lean hashes anything: it is a label: what it is worth is what the hold of that sum in a sandbox is worth. -/
noncomputable def Try.pinned : Pinned := { name := "ytamaapapaiopiaa", sum := "6d1a4b2b85f07a8cd79133dc18e7bd4cc22a552d081d1177019fd44dced21194", checked := Try.checked }
namespace Rows
def none {H : Type} : Left H := { results := [], args := [] }

/-- 'sumpterlaw13.NodeReads': WHATEVER THE INPUT: true; the input reads as it did. -/
def nodeReadsSpec : ChangeSpec := { name := "nodeReads", fn := fun _ => fun
  | [d] => { results := [.lit (.bool true)], args := [d] }
  | _ => none }
def nodeReadsRow : OpenClaim := { program := "ytamaapapaiopiaa", sum := "6d1a4b2b85f07a8cd79133dc18e7bd4cc22a552d081d1177019fd44dced21194", func := "sumpter/sumpterlaw13.NodeReads", spec := "nodeReads", inPlace := ["internal/bytealg.abigen_runtime_cmpstring", "slices.overlaps[sumpter/api.Pair]"], unfollowed := true, recurses := true, apart := false }
def NodeReadsSaid : Prop := nodeReadsRow.holds Try.pinned (OpenSpec.ofChange nodeReadsSpec)

/-- ITS FALSE NEIGHBOUR: 'it returns false'. Refute it at one input. -/
def nodeReadsWrong : ChangeSpec := { name := "nodeReads", fn := fun _ => fun
  | [d] => { results := [.lit (.bool false)], args := [d] }
  | _ => none }
def NodeReadsWrongFalsely : Prop := nodeReadsRow.holds Try.pinned (OpenSpec.ofChange nodeReadsWrong)

/-- 'sumpterlaw13.NodeChild': WHATEVER THE INPUT: true; the input reads as it did. -/
def nodeChildSpec : ChangeSpec := { name := "nodeChild", fn := fun _ => fun
  | [d1, d2] => { results := [.lit (.bool true)], args := [d1, d2] }
  | _ => none }
def nodeChildRow : OpenClaim := { program := "ytamaapapaiopiaa", sum := "6d1a4b2b85f07a8cd79133dc18e7bd4cc22a552d081d1177019fd44dced21194", func := "sumpter/sumpterlaw13.NodeChild", spec := "nodeChild", inPlace := ["internal/bytealg.abigen_runtime_cmpstring", "slices.overlaps[sumpter/api.Pair]"], unfollowed := true, recurses := true, apart := false }
def NodeChildSaid : Prop := nodeChildRow.holds Try.pinned (OpenSpec.ofChange nodeChildSpec)

/-- ITS FALSE NEIGHBOUR: 'it returns false'. Refute it at one input. -/
def nodeChildWrong : ChangeSpec := { name := "nodeChild", fn := fun _ => fun
  | [d1, d2] => { results := [.lit (.bool false)], args := [d1, d2] }
  | _ => none }
def NodeChildWrongFalsely : Prop := nodeChildRow.holds Try.pinned (OpenSpec.ofChange nodeChildWrong)

/-- 'sumpterlaw13.NodeWrites': WHATEVER THE INPUT: true; the input reads as it did. -/
def nodeWritesSpec : ChangeSpec := { name := "nodeWrites", fn := fun _ => fun
  | [d1, d2] => { results := [.lit (.bool true)], args := [d1, d2] }
  | _ => none }
def nodeWritesRow : OpenClaim := { program := "ytamaapapaiopiaa", sum := "6d1a4b2b85f07a8cd79133dc18e7bd4cc22a552d081d1177019fd44dced21194", func := "sumpter/sumpterlaw13.NodeWrites", spec := "nodeWrites", inPlace := ["internal/bytealg.abigen_runtime_cmpstring", "slices.overlaps[sumpter/api.Pair]"], unfollowed := true, recurses := true, apart := false }
def NodeWritesSaid : Prop := nodeWritesRow.holds Try.pinned (OpenSpec.ofChange nodeWritesSpec)

/-- ITS FALSE NEIGHBOUR: 'it returns false'. Refute it at one input. -/
def nodeWritesWrong : ChangeSpec := { name := "nodeWrites", fn := fun _ => fun
  | [d1, d2] => { results := [.lit (.bool false)], args := [d1, d2] }
  | _ => none }
def NodeWritesWrongFalsely : Prop := nodeWritesRow.holds Try.pinned (OpenSpec.ofChange nodeWritesWrong)

/-- 'sumpterlaw13.NodeSizes': WHATEVER THE INPUT: true; the input reads as it did. -/
def nodeSizesSpec : ChangeSpec := { name := "nodeSizes", fn := fun _ => fun
  | [d] => { results := [.lit (.bool true)], args := [d] }
  | _ => none }
def nodeSizesRow : OpenClaim := { program := "ytamaapapaiopiaa", sum := "6d1a4b2b85f07a8cd79133dc18e7bd4cc22a552d081d1177019fd44dced21194", func := "sumpter/sumpterlaw13.NodeSizes", spec := "nodeSizes", inPlace := ["internal/bytealg.abigen_runtime_cmpstring", "slices.overlaps[sumpter/api.Pair]"], unfollowed := true, recurses := true, apart := false }
def NodeSizesSaid : Prop := nodeSizesRow.holds Try.pinned (OpenSpec.ofChange nodeSizesSpec)

/-- ITS FALSE NEIGHBOUR: 'it returns false'. Refute it at one input. -/
def nodeSizesWrong : ChangeSpec := { name := "nodeSizes", fn := fun _ => fun
  | [d] => { results := [.lit (.bool false)], args := [d] }
  | _ => none }
def NodeSizesWrongFalsely : Prop := nodeSizesRow.holds Try.pinned (OpenSpec.ofChange nodeSizesWrong)

/- THE SECOND FORM. 'bulk': how many values and letters a reading holds, each counted each time it is reached (what is shared counts as often as it is met; a slice's spare places count too). A statement '..UptoSaid' is the law's where the arguments, and the package variables that the reading takes, are together of bulk at most 1048576: NARROWER than '..Said'. Prove '..Said' where nothing that the law and all that it calls make is longer than what came in: it says more and counts as full. Else prove '..UptoSaid'. A law counts once. -/
mutual
def uptoBulk {H : Type} : DataW H → Nat
  | .lit (.string bytes) => bytes.length + 1
  | .lit _ => 1
  | .nil => 1
  | .ptr d => uptoBulk d + 1
  | .slice elems spare => uptoBulkAll elems + uptoBulkAll spare + 1
  | .agg parts => uptoBulkAll parts + 1
  | .iface _ d => uptoBulk d + 1
  | .map entries => uptoBulkEntries entries + 1
  | .held _ => 1
def uptoBulkAll {H : Type} : List (DataW H) → Nat
  | [] => 0
  | d :: r => uptoBulk d + uptoBulkAll r
def uptoBulkEntries {H : Type} : List (Lit × DataW H) → Nat
  | [] => 0
  | x :: r => uptoBulkEntry x + uptoBulkEntries r
def uptoBulkEntry {H : Type} : Lit × DataW H → Nat
  | (.string bytes, d) => bytes.length + uptoBulk d + 1
  | (_, d) => uptoBulk d + 1
 end
def uptoSmall : (H : Type) → List (DataW H) → Bool := fun _ ds => decide (uptoBulkAll ds ≤ 1048576)
def OpenSpec.upto (s : _root_.Go.ChangeSpec) : _root_.Go.OpenSpec := { _root_.Go.OpenSpec.ofChange s with cond := some uptoSmall }

/-- 'sumpterlaw13.NodeReads', WHERE WHAT IT READS IS OF BULK AT MOST 1048576: true; the input reads as it did. -/
def nodeReadsUptoRow : OpenClaim := { program := "ytamaapapaiopiaa", sum := "6d1a4b2b85f07a8cd79133dc18e7bd4cc22a552d081d1177019fd44dced21194", func := "sumpter/sumpterlaw13.NodeReads", spec := "nodeReads", inPlace := ["internal/bytealg.abigen_runtime_cmpstring", "slices.overlaps[sumpter/api.Pair]"], unfollowed := true, recurses := true, apart := false, narrowed := true }
def NodeReadsUptoSaid : Prop := nodeReadsUptoRow.holds Try.pinned (OpenSpec.upto nodeReadsSpec)

/-- 'sumpterlaw13.NodeChild', WHERE WHAT IT READS IS OF BULK AT MOST 1048576: true; the input reads as it did. -/
def nodeChildUptoRow : OpenClaim := { program := "ytamaapapaiopiaa", sum := "6d1a4b2b85f07a8cd79133dc18e7bd4cc22a552d081d1177019fd44dced21194", func := "sumpter/sumpterlaw13.NodeChild", spec := "nodeChild", inPlace := ["internal/bytealg.abigen_runtime_cmpstring", "slices.overlaps[sumpter/api.Pair]"], unfollowed := true, recurses := true, apart := false, narrowed := true }
def NodeChildUptoSaid : Prop := nodeChildUptoRow.holds Try.pinned (OpenSpec.upto nodeChildSpec)

/-- 'sumpterlaw13.NodeWrites', WHERE WHAT IT READS IS OF BULK AT MOST 1048576: true; the input reads as it did. -/
def nodeWritesUptoRow : OpenClaim := { program := "ytamaapapaiopiaa", sum := "6d1a4b2b85f07a8cd79133dc18e7bd4cc22a552d081d1177019fd44dced21194", func := "sumpter/sumpterlaw13.NodeWrites", spec := "nodeWrites", inPlace := ["internal/bytealg.abigen_runtime_cmpstring", "slices.overlaps[sumpter/api.Pair]"], unfollowed := true, recurses := true, apart := false, narrowed := true }
def NodeWritesUptoSaid : Prop := nodeWritesUptoRow.holds Try.pinned (OpenSpec.upto nodeWritesSpec)

/-- 'sumpterlaw13.NodeSizes', WHERE WHAT IT READS IS OF BULK AT MOST 1048576: true; the input reads as it did. -/
def nodeSizesUptoRow : OpenClaim := { program := "ytamaapapaiopiaa", sum := "6d1a4b2b85f07a8cd79133dc18e7bd4cc22a552d081d1177019fd44dced21194", func := "sumpter/sumpterlaw13.NodeSizes", spec := "nodeSizes", inPlace := ["internal/bytealg.abigen_runtime_cmpstring", "slices.overlaps[sumpter/api.Pair]"], unfollowed := true, recurses := true, apart := false, narrowed := true }
def NodeSizesUptoSaid : Prop := nodeSizesUptoRow.holds Try.pinned (OpenSpec.upto nodeSizesSpec)

end Rows
end Go.Proofs.Ytamaapapaiopiaa
