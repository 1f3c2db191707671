/-
  No cell of these rows narrows 'for every input' (looked for: loops, veiled, ifaces, maps, wideKeys, modest, calm, conditions, laid).
  DERIVED. THE GIVEN ROWS OF THIS SEAT. 6 by the template 'for every input the law returns true; each argument reads behind the call as it read before'; 0 by the template 'total and deterministic' (their statements: YtmnmpackcjakdaaTotals.lean).
  GIVEN WITH THE SEED: the statements are not yours to turn. If you find one false, say at which input.
  Laid BY PROGRAM, IN A SANDBOX (cutbox-rows.mjs): the forced cells as the released guide's own fill.sh prints them over the translation 3bb7ef672763aeff… (all of the seat's roots in one cut). By AI agents, Wed Nov 11 2026. No macro, syntax, notation, axiom, sorry.
-/
import Derived.Test.YtmnmpackcjakdaaChecked
import GoSem.Claim
import GoSem.ClaimJoined
import GoSem.ClaimMapViews
import Derived.JoinedTies
import Derived.KernelRfl
namespace Go.Proofs.Ytmnmpackcjakdaa
/- THE CELL 'sum', in the pinned program and in every row, IS THE sha256 OF THE DUMP (.gsa) THAT YtmnmpackcjakdaaProg.lean LOADS. Nothing in Lean hashes anything: it is a label: what it is worth is what the hold of that sum in a sandbox is worth. -/
noncomputable def Try.pinned : Pinned := { name := "ytmnmpackcjakdaa", sum := "3bb7ef672763aeff04c9c9ad9e7d822a9bf05148a5ae4d6c11d19bec4544f6f8", checked := Try.checked }
namespace Rows
def none {H : Type} : Left H := { results := [], args := [] }

/-- 'sumpterlaw17.OwnerTurns': WHATEVER THE INPUT: true; the input reads as it did. -/
def ownerTurnsSpec : ChangeSpec := { name := "ownerTurns", fn := fun _ => fun
  | [d1, d2, d3, d4] => { results := [.lit (.bool true)], args := [d1, d2, d3, d4] }
  | _ => none }
def ownerTurnsRow : OpenClaim := { program := "ytmnmpackcjakdaa", sum := "3bb7ef672763aeff04c9c9ad9e7d822a9bf05148a5ae4d6c11d19bec4544f6f8", func := "sumpter/sumpterlaw17.OwnerTurns", spec := "ownerTurns", inPlace := ["internal/bytealg.abigen_runtime_cmpstring", "slices.overlaps[sumpter/api.Owner]", "slices.overlaps[sumpter/api.Pair]"], unfollowed := true, recurses := true, apart := false }
def OwnerTurnsSaid : Prop := ownerTurnsRow.holds Try.pinned (OpenSpec.ofChange ownerTurnsSpec)

/-- ITS FALSE NEIGHBOUR: 'it returns false'. Refute it at one input. -/
def ownerTurnsWrong : ChangeSpec := { name := "ownerTurns", fn := fun _ => fun
  | [d1, d2, d3, d4] => { results := [.lit (.bool false)], args := [d1, d2, d3, d4] }
  | _ => none }
def OwnerTurnsWrongFalsely : Prop := ownerTurnsRow.holds Try.pinned (OpenSpec.ofChange ownerTurnsWrong)

/-- 'sumpterlaw17.OwnerAsks': WHATEVER THE INPUT: true; the input reads as it did. -/
def ownerAsksSpec : ChangeSpec := { name := "ownerAsks", fn := fun _ => fun
  | [d1, d2, d3, d4, d5] => { results := [.lit (.bool true)], args := [d1, d2, d3, d4, d5] }
  | _ => none }
def ownerAsksRow : OpenClaim := { program := "ytmnmpackcjakdaa", sum := "3bb7ef672763aeff04c9c9ad9e7d822a9bf05148a5ae4d6c11d19bec4544f6f8", func := "sumpter/sumpterlaw17.OwnerAsks", spec := "ownerAsks", inPlace := ["internal/bytealg.abigen_runtime_cmpstring", "slices.overlaps[sumpter/api.Owner]", "slices.overlaps[sumpter/api.Pair]"], unfollowed := true, recurses := true, apart := false }
def OwnerAsksSaid : Prop := ownerAsksRow.holds Try.pinned (OpenSpec.ofChange ownerAsksSpec)

/-- ITS FALSE NEIGHBOUR: 'it returns false'. Refute it at one input. -/
def ownerAsksWrong : ChangeSpec := { name := "ownerAsks", fn := fun _ => fun
  | [d1, d2, d3, d4, d5] => { results := [.lit (.bool false)], args := [d1, d2, d3, d4, d5] }
  | _ => none }
def OwnerAsksWrongFalsely : Prop := ownerAsksRow.holds Try.pinned (OpenSpec.ofChange ownerAsksWrong)

/-- 'sumpterlaw17.OwnerOnce': WHATEVER THE INPUT: true; the input reads as it did. -/
def ownerOnceSpec : ChangeSpec := { name := "ownerOnce", fn := fun _ => fun
  | [d1, d2, d3, d4] => { results := [.lit (.bool true)], args := [d1, d2, d3, d4] }
  | _ => none }
def ownerOnceRow : OpenClaim := { program := "ytmnmpackcjakdaa", sum := "3bb7ef672763aeff04c9c9ad9e7d822a9bf05148a5ae4d6c11d19bec4544f6f8", func := "sumpter/sumpterlaw17.OwnerOnce", spec := "ownerOnce", inPlace := ["internal/bytealg.abigen_runtime_cmpstring", "slices.overlaps[sumpter/api.Owner]", "slices.overlaps[sumpter/api.Pair]"], unfollowed := true, recurses := true, apart := false }
def OwnerOnceSaid : Prop := ownerOnceRow.holds Try.pinned (OpenSpec.ofChange ownerOnceSpec)

/-- ITS FALSE NEIGHBOUR: 'it returns false'. Refute it at one input. -/
def ownerOnceWrong : ChangeSpec := { name := "ownerOnce", fn := fun _ => fun
  | [d1, d2, d3, d4] => { results := [.lit (.bool false)], args := [d1, d2, d3, d4] }
  | _ => none }
def OwnerOnceWrongFalsely : Prop := ownerOnceRow.holds Try.pinned (OpenSpec.ofChange ownerOnceWrong)

/-- 'sumpterlaw17.OwnerMoved': WHATEVER THE INPUT: true; the input reads as it did. -/
def ownerMovedSpec : ChangeSpec := { name := "ownerMoved", fn := fun _ => fun
  | [d1, d2, d3, d4] => { results := [.lit (.bool true)], args := [d1, d2, d3, d4] }
  | _ => none }
def ownerMovedRow : OpenClaim := { program := "ytmnmpackcjakdaa", sum := "3bb7ef672763aeff04c9c9ad9e7d822a9bf05148a5ae4d6c11d19bec4544f6f8", func := "sumpter/sumpterlaw17.OwnerMoved", spec := "ownerMoved", inPlace := ["internal/bytealg.abigen_runtime_cmpstring", "slices.overlaps[sumpter/api.Owner]", "slices.overlaps[sumpter/api.Pair]"], unfollowed := true, recurses := true, apart := false }
def OwnerMovedSaid : Prop := ownerMovedRow.holds Try.pinned (OpenSpec.ofChange ownerMovedSpec)

/-- ITS FALSE NEIGHBOUR: 'it returns false'. Refute it at one input. -/
def ownerMovedWrong : ChangeSpec := { name := "ownerMoved", fn := fun _ => fun
  | [d1, d2, d3, d4] => { results := [.lit (.bool false)], args := [d1, d2, d3, d4] }
  | _ => none }
def OwnerMovedWrongFalsely : Prop := ownerMovedRow.holds Try.pinned (OpenSpec.ofChange ownerMovedWrong)

/-- 'sumpterlaw17.OwnerGathers': WHATEVER THE INPUT: true; the input reads as it did. -/
def ownerGathersSpec : ChangeSpec := { name := "ownerGathers", fn := fun _ => fun
  | [d1, d2, d3] => { results := [.lit (.bool true)], args := [d1, d2, d3] }
  | _ => none }
def ownerGathersRow : OpenClaim := { program := "ytmnmpackcjakdaa", sum := "3bb7ef672763aeff04c9c9ad9e7d822a9bf05148a5ae4d6c11d19bec4544f6f8", func := "sumpter/sumpterlaw17.OwnerGathers", spec := "ownerGathers", inPlace := ["internal/bytealg.abigen_runtime_cmpstring", "slices.overlaps[sumpter/api.Owner]", "slices.overlaps[sumpter/api.Pair]"], unfollowed := true, recurses := true, apart := false }
def OwnerGathersSaid : Prop := ownerGathersRow.holds Try.pinned (OpenSpec.ofChange ownerGathersSpec)

/-- ITS FALSE NEIGHBOUR: 'it returns false'. Refute it at one input. -/
def ownerGathersWrong : ChangeSpec := { name := "ownerGathers", fn := fun _ => fun
  | [d1, d2, d3] => { results := [.lit (.bool false)], args := [d1, d2, d3] }
  | _ => none }
def OwnerGathersWrongFalsely : Prop := ownerGathersRow.holds Try.pinned (OpenSpec.ofChange ownerGathersWrong)

/-- 'sumpterlaw17.OwnerWhole': WHATEVER THE INPUT: true; the input reads as it did. -/
def ownerWholeSpec : ChangeSpec := { name := "ownerWhole", fn := fun _ => fun
  | [d1, d2, d3] => { results := [.lit (.bool true)], args := [d1, d2, d3] }
  | _ => none }
def ownerWholeRow : OpenClaim := { program := "ytmnmpackcjakdaa", sum := "3bb7ef672763aeff04c9c9ad9e7d822a9bf05148a5ae4d6c11d19bec4544f6f8", func := "sumpter/sumpterlaw17.OwnerWhole", spec := "ownerWhole", inPlace := ["internal/bytealg.abigen_runtime_cmpstring", "slices.overlaps[sumpter/api.Owner]", "slices.overlaps[sumpter/api.Pair]"], unfollowed := true, recurses := true, apart := false }
def OwnerWholeSaid : Prop := ownerWholeRow.holds Try.pinned (OpenSpec.ofChange ownerWholeSpec)

/-- ITS FALSE NEIGHBOUR: 'it returns false'. Refute it at one input. -/
def ownerWholeWrong : ChangeSpec := { name := "ownerWhole", fn := fun _ => fun
  | [d1, d2, d3] => { results := [.lit (.bool false)], args := [d1, d2, d3] }
  | _ => none }
def OwnerWholeWrongFalsely : Prop := ownerWholeRow.holds Try.pinned (OpenSpec.ofChange ownerWholeWrong)

/- THE SECOND FORM. 'bulk': how many values and letters a reading holds, each counted each time it is reached (what is shared counts as often as it is met; a slice's spare places count too). A statement '..UptoSaid' is the law's where the arguments, and the package variables that the reading takes, are together of bulk at most 1048576: NARROWER than '..Said'. Prove '..Said' where nothing that the law and all that it calls make is longer than what came in: it says more and counts as full. Else prove '..UptoSaid'. A law counts once. -/
mutual
def uptoBulk {H : Type} : DataW H → Nat
  | .lit (.string bytes) => bytes.length + 1
  | .lit _ => 1
  | .nil => 1
  | .ptr d => uptoBulk d + 1
  | .slice elems spare => uptoBulkAll elems + uptoBulkAll spare + 1
  | .agg parts => uptoBulkAll parts + 1
  | .iface _ d => uptoBulk d + 1
  | .map entries => uptoBulkEntries entries + 1
  | .held _ => 1
def uptoBulkAll {H : Type} : List (DataW H) → Nat
  | [] => 0
  | d :: r => uptoBulk d + uptoBulkAll r
def uptoBulkEntries {H : Type} : List (Lit × DataW H) → Nat
  | [] => 0
  | x :: r => uptoBulkEntry x + uptoBulkEntries r
def uptoBulkEntry {H : Type} : Lit × DataW H → Nat
  | (.string bytes, d) => bytes.length + uptoBulk d + 1
  | (_, d) => uptoBulk d + 1
 end
def uptoSmall : (H : Type) → List (DataW H) → Bool := fun _ ds => decide (uptoBulkAll ds ≤ 1048576)
def OpenSpec.upto (s : _root_.Go.ChangeSpec) : _root_.Go.OpenSpec := { _root_.Go.OpenSpec.ofChange s with cond := some uptoSmall }

/-- 'sumpterlaw17.OwnerTurns', WHERE WHAT IT READS IS OF BULK AT MOST 1048576: true; the input reads as it did. -/
def ownerTurnsUptoRow : OpenClaim := { program := "ytmnmpackcjakdaa", sum := "3bb7ef672763aeff04c9c9ad9e7d822a9bf05148a5ae4d6c11d19bec4544f6f8", func := "sumpter/sumpterlaw17.OwnerTurns", spec := "ownerTurns", inPlace := ["internal/bytealg.abigen_runtime_cmpstring", "slices.overlaps[sumpter/api.Owner]", "slices.overlaps[sumpter/api.Pair]"], unfollowed := true, recurses := true, apart := false, narrowed := true }
def OwnerTurnsUptoSaid : Prop := ownerTurnsUptoRow.holds Try.pinned (OpenSpec.upto ownerTurnsSpec)

/-- 'sumpterlaw17.OwnerAsks', WHERE WHAT IT READS IS OF BULK AT MOST 1048576: true; the input reads as it did. -/
def ownerAsksUptoRow : OpenClaim := { program := "ytmnmpackcjakdaa", sum := "3bb7ef672763aeff04c9c9ad9e7d822a9bf05148a5ae4d6c11d19bec4544f6f8", func := "sumpter/sumpterlaw17.OwnerAsks", spec := "ownerAsks", inPlace := ["internal/bytealg.abigen_runtime_cmpstring", "slices.overlaps[sumpter/api.Owner]", "slices.overlaps[sumpter/api.Pair]"], unfollowed := true, recurses := true, apart := false, narrowed := true }
def OwnerAsksUptoSaid : Prop := ownerAsksUptoRow.holds Try.pinned (OpenSpec.upto ownerAsksSpec)

/-- 'sumpterlaw17.OwnerOnce', WHERE WHAT IT READS IS OF BULK AT MOST 1048576: true; the input reads as it did. -/
def ownerOnceUptoRow : OpenClaim := { program := "ytmnmpackcjakdaa", sum := "3bb7ef672763aeff04c9c9ad9e7d822a9bf05148a5ae4d6c11d19bec4544f6f8", func := "sumpter/sumpterlaw17.OwnerOnce", spec := "ownerOnce", inPlace := ["internal/bytealg.abigen_runtime_cmpstring", "slices.overlaps[sumpter/api.Owner]", "slices.overlaps[sumpter/api.Pair]"], unfollowed := true, recurses := true, apart := false, narrowed := true }
def OwnerOnceUptoSaid : Prop := ownerOnceUptoRow.holds Try.pinned (OpenSpec.upto ownerOnceSpec)

/-- 'sumpterlaw17.OwnerMoved', WHERE WHAT IT READS IS OF BULK AT MOST 1048576: true; the input reads as it did. -/
def ownerMovedUptoRow : OpenClaim := { program := "ytmnmpackcjakdaa", sum := "3bb7ef672763aeff04c9c9ad9e7d822a9bf05148a5ae4d6c11d19bec4544f6f8", func := "sumpter/sumpterlaw17.OwnerMoved", spec := "ownerMoved", inPlace := ["internal/bytealg.abigen_runtime_cmpstring", "slices.overlaps[sumpter/api.Owner]", "slices.overlaps[sumpter/api.Pair]"], unfollowed := true, recurses := true, apart := false, narrowed := true }
def OwnerMovedUptoSaid : Prop := ownerMovedUptoRow.holds Try.pinned (OpenSpec.upto ownerMovedSpec)

/-- 'sumpterlaw17.OwnerGathers', WHERE WHAT IT READS IS OF BULK AT MOST 1048576: true; the input reads as it did. -/
def ownerGathersUptoRow : OpenClaim := { program := "ytmnmpackcjakdaa", sum := "3bb7ef672763aeff04c9c9ad9e7d822a9bf05148a5ae4d6c11d19bec4544f6f8", func := "sumpter/sumpterlaw17.OwnerGathers", spec := "ownerGathers", inPlace := ["internal/bytealg.abigen_runtime_cmpstring", "slices.overlaps[sumpter/api.Owner]", "slices.overlaps[sumpter/api.Pair]"], unfollowed := true, recurses := true, apart := false, narrowed := true }
def OwnerGathersUptoSaid : Prop := ownerGathersUptoRow.holds Try.pinned (OpenSpec.upto ownerGathersSpec)

/-- 'sumpterlaw17.OwnerWhole', WHERE WHAT IT READS IS OF BULK AT MOST 1048576: true; the input reads as it did. -/
def ownerWholeUptoRow : OpenClaim := { program := "ytmnmpackcjakdaa", sum := "3bb7ef672763aeff04c9c9ad9e7d822a9bf05148a5ae4d6c11d19bec4544f6f8", func := "sumpter/sumpterlaw17.OwnerWhole", spec := "ownerWhole", inPlace := ["internal/bytealg.abigen_runtime_cmpstring", "slices.overlaps[sumpter/api.Owner]", "slices.overlaps[sumpter/api.Pair]"], unfollowed := true, recurses := true, apart := false, narrowed := true }
def OwnerWholeUptoSaid : Prop := ownerWholeUptoRow.holds Try.pinned (OpenSpec.upto ownerWholeSpec)

end Rows
end Go.Proofs.Ytmnmpackcjakdaa
