/-
  No cell of these rows narrows 'for every input' (looked for: loops, veiled, ifaces, maps, wideKeys, modest, calm, conditions, laid).
  DERIVED. THE GIVEN ROWS OF THIS SEAT. 4 by the template 'for every input the law returns true; each argument reads behind the call as it read before'; 0 by the template 'total and deterministic' (their statements: YthnjkakmkmoceaaTotals.lean).
  GIVEN WITH THE SEED: the statements are not yours to turn. If you find one false, say at which input.
  Laid BY PROGRAM, IN A SANDBOX (cutbox-rows.mjs): the forced cells as the released guide's own fill.sh prints them over the translation be4f9f84d8f004eb… (all of the seat's roots in one cut). By AI agents, Wed Nov 11 2026. No macro, syntax, notation, axiom, sorry.
-/
import Derived.Test.YthnjkakmkmoceaaChecked
import GoSem.Claim
import GoSem.ClaimJoined
import GoSem.ClaimMapViews
import Derived.JoinedTies
import Derived.KernelRfl
namespace Go.Proofs.Ythnjkakmkmoceaa
/- THE CELL 'sum', in the pinned program and in every row, IS THE sha256 OF THE DUMP (.gsa) THAT YthnjkakmkmoceaaProg.lean LOADS. Nothing in Lean hashes anything: it is a label: what it is worth is what the hold of that sum in a sandbox is worth. -/
noncomputable def Try.pinned : Pinned := { name := "ythnjkakmkmoceaa", sum := "be4f9f84d8f004eb82a275125f5ea29d2aa40dffa161429ead583fdd240aca26", checked := Try.checked }
namespace Rows
def none {H : Type} : Left H := { results := [], args := [] }

/-- 'sumpterlaw12.BufferFinds': WHATEVER THE INPUT: true; the input reads as it did. -/
def bufferFindsSpec : ChangeSpec := { name := "bufferFinds", fn := fun _ => fun
  | [d1, d2] => { results := [.lit (.bool true)], args := [d1, d2] }
  | _ => none }
def bufferFindsRow : OpenClaim := { program := "ythnjkakmkmoceaa", sum := "be4f9f84d8f004eb82a275125f5ea29d2aa40dffa161429ead583fdd240aca26", func := "sumpter/sumpterlaw12.BufferFinds", spec := "bufferFinds", inPlace := ["internal/bytealg.abigen_runtime_cmpstring", "slices.overlaps[sumpter/api.Pair]"], unfollowed := true, recurses := true, apart := false }
def BufferFindsSaid : Prop := bufferFindsRow.holds Try.pinned (OpenSpec.ofChange bufferFindsSpec)

/-- ITS FALSE NEIGHBOUR: 'it returns false'. Refute it at one input. -/
def bufferFindsWrong : ChangeSpec := { name := "bufferFinds", fn := fun _ => fun
  | [d1, d2] => { results := [.lit (.bool false)], args := [d1, d2] }
  | _ => none }
def BufferFindsWrongFalsely : Prop := bufferFindsRow.holds Try.pinned (OpenSpec.ofChange bufferFindsWrong)

/-- 'sumpterlaw12.BufferWhole': WHATEVER THE INPUT: true; the input reads as it did. -/
def bufferWholeSpec : ChangeSpec := { name := "bufferWhole", fn := fun _ => fun
  | [d1, d2, d3] => { results := [.lit (.bool true)], args := [d1, d2, d3] }
  | _ => none }
def bufferWholeRow : OpenClaim := { program := "ythnjkakmkmoceaa", sum := "be4f9f84d8f004eb82a275125f5ea29d2aa40dffa161429ead583fdd240aca26", func := "sumpter/sumpterlaw12.BufferWhole", spec := "bufferWhole", inPlace := ["internal/bytealg.abigen_runtime_cmpstring", "slices.overlaps[sumpter/api.Pair]"], unfollowed := true, recurses := true, apart := false }
def BufferWholeSaid : Prop := bufferWholeRow.holds Try.pinned (OpenSpec.ofChange bufferWholeSpec)

/-- ITS FALSE NEIGHBOUR: 'it returns false'. Refute it at one input. -/
def bufferWholeWrong : ChangeSpec := { name := "bufferWhole", fn := fun _ => fun
  | [d1, d2, d3] => { results := [.lit (.bool false)], args := [d1, d2, d3] }
  | _ => none }
def BufferWholeWrongFalsely : Prop := bufferWholeRow.holds Try.pinned (OpenSpec.ofChange bufferWholeWrong)

/-- 'sumpterlaw12.BufferTells': WHATEVER THE INPUT: true; the input reads as it did. -/
def bufferTellsSpec : ChangeSpec := { name := "bufferTells", fn := fun _ => fun
  | [d1, d2, d3] => { results := [.lit (.bool true)], args := [d1, d2, d3] }
  | _ => none }
def bufferTellsRow : OpenClaim := { program := "ythnjkakmkmoceaa", sum := "be4f9f84d8f004eb82a275125f5ea29d2aa40dffa161429ead583fdd240aca26", func := "sumpter/sumpterlaw12.BufferTells", spec := "bufferTells", inPlace := ["internal/bytealg.abigen_runtime_cmpstring", "slices.overlaps[sumpter/api.Pair]"], unfollowed := true, recurses := true, apart := false }
def BufferTellsSaid : Prop := bufferTellsRow.holds Try.pinned (OpenSpec.ofChange bufferTellsSpec)

/-- ITS FALSE NEIGHBOUR: 'it returns false'. Refute it at one input. -/
def bufferTellsWrong : ChangeSpec := { name := "bufferTells", fn := fun _ => fun
  | [d1, d2, d3] => { results := [.lit (.bool false)], args := [d1, d2, d3] }
  | _ => none }
def BufferTellsWrongFalsely : Prop := bufferTellsRow.holds Try.pinned (OpenSpec.ofChange bufferTellsWrong)

/-- 'sumpterlaw12.BufferMerged': WHATEVER THE INPUT: true; the input reads as it did. -/
def bufferMergedSpec : ChangeSpec := { name := "bufferMerged", fn := fun _ => fun
  | [d1, d2, d3] => { results := [.lit (.bool true)], args := [d1, d2, d3] }
  | _ => none }
def bufferMergedRow : OpenClaim := { program := "ythnjkakmkmoceaa", sum := "be4f9f84d8f004eb82a275125f5ea29d2aa40dffa161429ead583fdd240aca26", func := "sumpter/sumpterlaw12.BufferMerged", spec := "bufferMerged", inPlace := ["internal/bytealg.abigen_runtime_cmpstring", "slices.overlaps[sumpter/api.Pair]"], unfollowed := true, recurses := true, apart := false }
def BufferMergedSaid : Prop := bufferMergedRow.holds Try.pinned (OpenSpec.ofChange bufferMergedSpec)

/-- ITS FALSE NEIGHBOUR: 'it returns false'. Refute it at one input. -/
def bufferMergedWrong : ChangeSpec := { name := "bufferMerged", fn := fun _ => fun
  | [d1, d2, d3] => { results := [.lit (.bool false)], args := [d1, d2, d3] }
  | _ => none }
def BufferMergedWrongFalsely : Prop := bufferMergedRow.holds Try.pinned (OpenSpec.ofChange bufferMergedWrong)

/- THE SECOND FORM. 'bulk': how many values and letters a reading holds, each counted each time it is reached (what is shared counts as often as it is met; a slice's spare places count too). A statement '..UptoSaid' is the law's where the arguments, and the package variables that the reading takes, are together of bulk at most 1048576: NARROWER than '..Said'. Prove '..Said' where nothing that the law and all that it calls make is longer than what came in: it says more and counts as full. Else prove '..UptoSaid'. A law counts once. -/
mutual
def uptoBulk {H : Type} : DataW H → Nat
  | .lit (.string bytes) => bytes.length + 1
  | .lit _ => 1
  | .nil => 1
  | .ptr d => uptoBulk d + 1
  | .slice elems spare => uptoBulkAll elems + uptoBulkAll spare + 1
  | .agg parts => uptoBulkAll parts + 1
  | .iface _ d => uptoBulk d + 1
  | .map entries => uptoBulkEntries entries + 1
  | .held _ => 1
def uptoBulkAll {H : Type} : List (DataW H) → Nat
  | [] => 0
  | d :: r => uptoBulk d + uptoBulkAll r
def uptoBulkEntries {H : Type} : List (Lit × DataW H) → Nat
  | [] => 0
  | x :: r => uptoBulkEntry x + uptoBulkEntries r
def uptoBulkEntry {H : Type} : Lit × DataW H → Nat
  | (.string bytes, d) => bytes.length + uptoBulk d + 1
  | (_, d) => uptoBulk d + 1
 end
def uptoSmall : (H : Type) → List (DataW H) → Bool := fun _ ds => decide (uptoBulkAll ds ≤ 1048576)
def OpenSpec.upto (s : _root_.Go.ChangeSpec) : _root_.Go.OpenSpec := { _root_.Go.OpenSpec.ofChange s with cond := some uptoSmall }

/-- 'sumpterlaw12.BufferFinds', WHERE WHAT IT READS IS OF BULK AT MOST 1048576: true; the input reads as it did. -/
def bufferFindsUptoRow : OpenClaim := { program := "ythnjkakmkmoceaa", sum := "be4f9f84d8f004eb82a275125f5ea29d2aa40dffa161429ead583fdd240aca26", func := "sumpter/sumpterlaw12.BufferFinds", spec := "bufferFinds", inPlace := ["internal/bytealg.abigen_runtime_cmpstring", "slices.overlaps[sumpter/api.Pair]"], unfollowed := true, recurses := true, apart := false, narrowed := true }
def BufferFindsUptoSaid : Prop := bufferFindsUptoRow.holds Try.pinned (OpenSpec.upto bufferFindsSpec)

/-- 'sumpterlaw12.BufferWhole', WHERE WHAT IT READS IS OF BULK AT MOST 1048576: true; the input reads as it did. -/
def bufferWholeUptoRow : OpenClaim := { program := "ythnjkakmkmoceaa", sum := "be4f9f84d8f004eb82a275125f5ea29d2aa40dffa161429ead583fdd240aca26", func := "sumpter/sumpterlaw12.BufferWhole", spec := "bufferWhole", inPlace := ["internal/bytealg.abigen_runtime_cmpstring", "slices.overlaps[sumpter/api.Pair]"], unfollowed := true, recurses := true, apart := false, narrowed := true }
def BufferWholeUptoSaid : Prop := bufferWholeUptoRow.holds Try.pinned (OpenSpec.upto bufferWholeSpec)

/-- 'sumpterlaw12.BufferTells', WHERE WHAT IT READS IS OF BULK AT MOST 1048576: true; the input reads as it did. -/
def bufferTellsUptoRow : OpenClaim := { program := "ythnjkakmkmoceaa", sum := "be4f9f84d8f004eb82a275125f5ea29d2aa40dffa161429ead583fdd240aca26", func := "sumpter/sumpterlaw12.BufferTells", spec := "bufferTells", inPlace := ["internal/bytealg.abigen_runtime_cmpstring", "slices.overlaps[sumpter/api.Pair]"], unfollowed := true, recurses := true, apart := false, narrowed := true }
def BufferTellsUptoSaid : Prop := bufferTellsUptoRow.holds Try.pinned (OpenSpec.upto bufferTellsSpec)

/-- 'sumpterlaw12.BufferMerged', WHERE WHAT IT READS IS OF BULK AT MOST 1048576: true; the input reads as it did. -/
def bufferMergedUptoRow : OpenClaim := { program := "ythnjkakmkmoceaa", sum := "be4f9f84d8f004eb82a275125f5ea29d2aa40dffa161429ead583fdd240aca26", func := "sumpter/sumpterlaw12.BufferMerged", spec := "bufferMerged", inPlace := ["internal/bytealg.abigen_runtime_cmpstring", "slices.overlaps[sumpter/api.Pair]"], unfollowed := true, recurses := true, apart := false, narrowed := true }
def BufferMergedUptoSaid : Prop := bufferMergedUptoRow.holds Try.pinned (OpenSpec.upto bufferMergedSpec)

end Rows
end Go.Proofs.Ythnjkakmkmoceaa
