/-
  No cell of these rows narrows 'for every input' (looked for: loops, veiled, ifaces, maps, wideKeys, modest, calm, conditions, laid).
  DERIVED. THE GIVEN ROWS OF THIS SEAT. 7 by the template 'for every input the law returns true; each argument reads behind the call as it read before'; 0 by the template 'total and deterministic' (their statements: YtdhadhelcpeiaaaTotals.lean).
  GIVEN WITH THE SEED: the statements are not yours to turn. If you find one false, say at which input.
  Laid BY PROGRAM, IN A SANDBOX (cutbox-rows.mjs): the forced cells as the released guide's own fill.sh prints them over the translation bdc087c966c7d1e0… (all of the seat's roots in one cut). By AI agents, Wed Nov 11 2026. No macro, syntax, notation, axiom, sorry.
-/
import Derived.Test.YtdhadhelcpeiaaaChecked
import GoSem.Claim
import GoSem.ClaimJoined
import GoSem.ClaimMapViews
import Derived.JoinedTies
import Derived.KernelRfl
namespace Go.Proofs.Ytdhadhelcpeiaaa
/- THE CELL 'sum', in the pinned program and in every row, IS THE sha256 OF THE DUMP (.gsa) THAT YtdhadhelcpeiaaaProg.lean LOADS. Nothing in Lean hashes anything: it is a label: what it is worth is what the hold of that sum in a sandbox is worth. -/
noncomputable def Try.pinned : Pinned := { name := "ytdhadhelcpeiaaa", sum := "bdc087c966c7d1e0006c5d7626f356bd0787cb3510894c15b6b4857f4fd3f0b4", checked := Try.checked }
namespace Rows
def none {H : Type} : Left H := { results := [], args := [] }

/-- 'sumpterlaw04.OpApplies': WHATEVER THE INPUT: true; the input reads as it did. -/
def opAppliesSpec : ChangeSpec := { name := "opApplies", fn := fun _ => fun
  | [d1, d2] => { results := [.lit (.bool true)], args := [d1, d2] }
  | _ => none }
def opAppliesRow : OpenClaim := { program := "ytdhadhelcpeiaaa", sum := "bdc087c966c7d1e0006c5d7626f356bd0787cb3510894c15b6b4857f4fd3f0b4", func := "sumpter/sumpterlaw04.OpApplies", spec := "opApplies", inPlace := ["internal/bytealg.abigen_runtime_cmpstring", "slices.overlaps[sumpter/api.Pair]"], unfollowed := true, recurses := true, apart := false }
def OpAppliesSaid : Prop := opAppliesRow.holds Try.pinned (OpenSpec.ofChange opAppliesSpec)

/-- ITS FALSE NEIGHBOUR: 'it returns false'. Refute it at one input. -/
def opAppliesWrong : ChangeSpec := { name := "opApplies", fn := fun _ => fun
  | [d1, d2] => { results := [.lit (.bool false)], args := [d1, d2] }
  | _ => none }
def OpAppliesWrongFalsely : Prop := opAppliesRow.holds Try.pinned (OpenSpec.ofChange opAppliesWrong)

/-- 'sumpterlaw04.OpParts': WHATEVER THE INPUT: true; the input reads as it did. -/
def opPartsSpec : ChangeSpec := { name := "opParts", fn := fun _ => fun
  | [d1, d2, d3] => { results := [.lit (.bool true)], args := [d1, d2, d3] }
  | _ => none }
def opPartsRow : OpenClaim := { program := "ytdhadhelcpeiaaa", sum := "bdc087c966c7d1e0006c5d7626f356bd0787cb3510894c15b6b4857f4fd3f0b4", func := "sumpter/sumpterlaw04.OpParts", spec := "opParts", inPlace := ["internal/bytealg.abigen_runtime_cmpstring", "slices.overlaps[sumpter/api.Pair]"], unfollowed := true, recurses := true, apart := false }
def OpPartsSaid : Prop := opPartsRow.holds Try.pinned (OpenSpec.ofChange opPartsSpec)

/-- ITS FALSE NEIGHBOUR: 'it returns false'. Refute it at one input. -/
def opPartsWrong : ChangeSpec := { name := "opParts", fn := fun _ => fun
  | [d1, d2, d3] => { results := [.lit (.bool false)], args := [d1, d2, d3] }
  | _ => none }
def OpPartsWrongFalsely : Prop := opPartsRow.holds Try.pinned (OpenSpec.ofChange opPartsWrong)

/-- 'sumpterlaw04.OpReads': WHATEVER THE INPUT: true; the input reads as it did. -/
def opReadsSpec : ChangeSpec := { name := "opReads", fn := fun _ => fun
  | [d1, d2] => { results := [.lit (.bool true)], args := [d1, d2] }
  | _ => none }
def opReadsRow : OpenClaim := { program := "ytdhadhelcpeiaaa", sum := "bdc087c966c7d1e0006c5d7626f356bd0787cb3510894c15b6b4857f4fd3f0b4", func := "sumpter/sumpterlaw04.OpReads", spec := "opReads", inPlace := ["internal/bytealg.abigen_runtime_cmpstring", "slices.overlaps[sumpter/api.Pair]"], unfollowed := true, recurses := true, apart := false }
def OpReadsSaid : Prop := opReadsRow.holds Try.pinned (OpenSpec.ofChange opReadsSpec)

/-- ITS FALSE NEIGHBOUR: 'it returns false'. Refute it at one input. -/
def opReadsWrong : ChangeSpec := { name := "opReads", fn := fun _ => fun
  | [d1, d2] => { results := [.lit (.bool false)], args := [d1, d2] }
  | _ => none }
def OpReadsWrongFalsely : Prop := opReadsRow.holds Try.pinned (OpenSpec.ofChange opReadsWrong)

/-- 'sumpterlaw04.OpTwice': WHATEVER THE INPUT: true; the input reads as it did. -/
def opTwiceSpec : ChangeSpec := { name := "opTwice", fn := fun _ => fun
  | [d1, d2] => { results := [.lit (.bool true)], args := [d1, d2] }
  | _ => none }
def opTwiceRow : OpenClaim := { program := "ytdhadhelcpeiaaa", sum := "bdc087c966c7d1e0006c5d7626f356bd0787cb3510894c15b6b4857f4fd3f0b4", func := "sumpter/sumpterlaw04.OpTwice", spec := "opTwice", inPlace := ["internal/bytealg.abigen_runtime_cmpstring", "slices.overlaps[sumpter/api.Pair]"], unfollowed := true, recurses := true, apart := false }
def OpTwiceSaid : Prop := opTwiceRow.holds Try.pinned (OpenSpec.ofChange opTwiceSpec)

/-- ITS FALSE NEIGHBOUR: 'it returns false'. Refute it at one input. -/
def opTwiceWrong : ChangeSpec := { name := "opTwice", fn := fun _ => fun
  | [d1, d2] => { results := [.lit (.bool false)], args := [d1, d2] }
  | _ => none }
def OpTwiceWrongFalsely : Prop := opTwiceRow.holds Try.pinned (OpenSpec.ofChange opTwiceWrong)

/-- 'sumpterlaw04.OpSees': WHATEVER THE INPUT: true; the input reads as it did. -/
def opSeesSpec : ChangeSpec := { name := "opSees", fn := fun _ => fun
  | [d1, d2, d3] => { results := [.lit (.bool true)], args := [d1, d2, d3] }
  | _ => none }
def opSeesRow : OpenClaim := { program := "ytdhadhelcpeiaaa", sum := "bdc087c966c7d1e0006c5d7626f356bd0787cb3510894c15b6b4857f4fd3f0b4", func := "sumpter/sumpterlaw04.OpSees", spec := "opSees", inPlace := ["internal/bytealg.abigen_runtime_cmpstring", "slices.overlaps[sumpter/api.Pair]"], unfollowed := true, recurses := true, apart := false }
def OpSeesSaid : Prop := opSeesRow.holds Try.pinned (OpenSpec.ofChange opSeesSpec)

/-- ITS FALSE NEIGHBOUR: 'it returns false'. Refute it at one input. -/
def opSeesWrong : ChangeSpec := { name := "opSees", fn := fun _ => fun
  | [d1, d2, d3] => { results := [.lit (.bool false)], args := [d1, d2, d3] }
  | _ => none }
def OpSeesWrongFalsely : Prop := opSeesRow.holds Try.pinned (OpenSpec.ofChange opSeesWrong)

/-- 'sumpterlaw04.OpTurns': WHATEVER THE INPUT: true; the input reads as it did. -/
def opTurnsSpec : ChangeSpec := { name := "opTurns", fn := fun _ => fun
  | [d1, d2, d3] => { results := [.lit (.bool true)], args := [d1, d2, d3] }
  | _ => none }
def opTurnsRow : OpenClaim := { program := "ytdhadhelcpeiaaa", sum := "bdc087c966c7d1e0006c5d7626f356bd0787cb3510894c15b6b4857f4fd3f0b4", func := "sumpter/sumpterlaw04.OpTurns", spec := "opTurns", inPlace := ["internal/bytealg.abigen_runtime_cmpstring", "slices.overlaps[sumpter/api.Pair]"], unfollowed := true, recurses := true, apart := false }
def OpTurnsSaid : Prop := opTurnsRow.holds Try.pinned (OpenSpec.ofChange opTurnsSpec)

/-- ITS FALSE NEIGHBOUR: 'it returns false'. Refute it at one input. -/
def opTurnsWrong : ChangeSpec := { name := "opTurns", fn := fun _ => fun
  | [d1, d2, d3] => { results := [.lit (.bool false)], args := [d1, d2, d3] }
  | _ => none }
def OpTurnsWrongFalsely : Prop := opTurnsRow.holds Try.pinned (OpenSpec.ofChange opTurnsWrong)

/-- 'sumpterlaw04.OpChecks': WHATEVER THE INPUT: true; the input reads as it did. -/
def opChecksSpec : ChangeSpec := { name := "opChecks", fn := fun _ => fun
  | [d1, d2, d3] => { results := [.lit (.bool true)], args := [d1, d2, d3] }
  | _ => none }
def opChecksRow : OpenClaim := { program := "ytdhadhelcpeiaaa", sum := "bdc087c966c7d1e0006c5d7626f356bd0787cb3510894c15b6b4857f4fd3f0b4", func := "sumpter/sumpterlaw04.OpChecks", spec := "opChecks", inPlace := ["internal/bytealg.abigen_runtime_cmpstring", "slices.overlaps[sumpter/api.Pair]"], unfollowed := true, recurses := true, apart := false }
def OpChecksSaid : Prop := opChecksRow.holds Try.pinned (OpenSpec.ofChange opChecksSpec)

/-- ITS FALSE NEIGHBOUR: 'it returns false'. Refute it at one input. -/
def opChecksWrong : ChangeSpec := { name := "opChecks", fn := fun _ => fun
  | [d1, d2, d3] => { results := [.lit (.bool false)], args := [d1, d2, d3] }
  | _ => none }
def OpChecksWrongFalsely : Prop := opChecksRow.holds Try.pinned (OpenSpec.ofChange opChecksWrong)

/- THE SECOND FORM. 'bulk': how many values and letters a reading holds, each counted each time it is reached (what is shared counts as often as it is met; a slice's spare places count too). A statement '..UptoSaid' is the law's where the arguments, and the package variables that the reading takes, are together of bulk at most 1048576: NARROWER than '..Said'. Prove '..Said' where nothing that the law and all that it calls make is longer than what came in: it says more and counts as full. Else prove '..UptoSaid'. A law counts once. -/
mutual
def uptoBulk {H : Type} : DataW H → Nat
  | .lit (.string bytes) => bytes.length + 1
  | .lit _ => 1
  | .nil => 1
  | .ptr d => uptoBulk d + 1
  | .slice elems spare => uptoBulkAll elems + uptoBulkAll spare + 1
  | .agg parts => uptoBulkAll parts + 1
  | .iface _ d => uptoBulk d + 1
  | .map entries => uptoBulkEntries entries + 1
  | .held _ => 1
def uptoBulkAll {H : Type} : List (DataW H) → Nat
  | [] => 0
  | d :: r => uptoBulk d + uptoBulkAll r
def uptoBulkEntries {H : Type} : List (Lit × DataW H) → Nat
  | [] => 0
  | x :: r => uptoBulkEntry x + uptoBulkEntries r
def uptoBulkEntry {H : Type} : Lit × DataW H → Nat
  | (.string bytes, d) => bytes.length + uptoBulk d + 1
  | (_, d) => uptoBulk d + 1
 end
def uptoSmall : (H : Type) → List (DataW H) → Bool := fun _ ds => decide (uptoBulkAll ds ≤ 1048576)
def OpenSpec.upto (s : _root_.Go.ChangeSpec) : _root_.Go.OpenSpec := { _root_.Go.OpenSpec.ofChange s with cond := some uptoSmall }

/-- 'sumpterlaw04.OpApplies', WHERE WHAT IT READS IS OF BULK AT MOST 1048576: true; the input reads as it did. -/
def opAppliesUptoRow : OpenClaim := { program := "ytdhadhelcpeiaaa", sum := "bdc087c966c7d1e0006c5d7626f356bd0787cb3510894c15b6b4857f4fd3f0b4", func := "sumpter/sumpterlaw04.OpApplies", spec := "opApplies", inPlace := ["internal/bytealg.abigen_runtime_cmpstring", "slices.overlaps[sumpter/api.Pair]"], unfollowed := true, recurses := true, apart := false, narrowed := true }
def OpAppliesUptoSaid : Prop := opAppliesUptoRow.holds Try.pinned (OpenSpec.upto opAppliesSpec)

/-- 'sumpterlaw04.OpParts', WHERE WHAT IT READS IS OF BULK AT MOST 1048576: true; the input reads as it did. -/
def opPartsUptoRow : OpenClaim := { program := "ytdhadhelcpeiaaa", sum := "bdc087c966c7d1e0006c5d7626f356bd0787cb3510894c15b6b4857f4fd3f0b4", func := "sumpter/sumpterlaw04.OpParts", spec := "opParts", inPlace := ["internal/bytealg.abigen_runtime_cmpstring", "slices.overlaps[sumpter/api.Pair]"], unfollowed := true, recurses := true, apart := false, narrowed := true }
def OpPartsUptoSaid : Prop := opPartsUptoRow.holds Try.pinned (OpenSpec.upto opPartsSpec)

/-- 'sumpterlaw04.OpReads', WHERE WHAT IT READS IS OF BULK AT MOST 1048576: true; the input reads as it did. -/
def opReadsUptoRow : OpenClaim := { program := "ytdhadhelcpeiaaa", sum := "bdc087c966c7d1e0006c5d7626f356bd0787cb3510894c15b6b4857f4fd3f0b4", func := "sumpter/sumpterlaw04.OpReads", spec := "opReads", inPlace := ["internal/bytealg.abigen_runtime_cmpstring", "slices.overlaps[sumpter/api.Pair]"], unfollowed := true, recurses := true, apart := false, narrowed := true }
def OpReadsUptoSaid : Prop := opReadsUptoRow.holds Try.pinned (OpenSpec.upto opReadsSpec)

/-- 'sumpterlaw04.OpTwice', WHERE WHAT IT READS IS OF BULK AT MOST 1048576: true; the input reads as it did. -/
def opTwiceUptoRow : OpenClaim := { program := "ytdhadhelcpeiaaa", sum := "bdc087c966c7d1e0006c5d7626f356bd0787cb3510894c15b6b4857f4fd3f0b4", func := "sumpter/sumpterlaw04.OpTwice", spec := "opTwice", inPlace := ["internal/bytealg.abigen_runtime_cmpstring", "slices.overlaps[sumpter/api.Pair]"], unfollowed := true, recurses := true, apart := false, narrowed := true }
def OpTwiceUptoSaid : Prop := opTwiceUptoRow.holds Try.pinned (OpenSpec.upto opTwiceSpec)

/-- 'sumpterlaw04.OpSees', WHERE WHAT IT READS IS OF BULK AT MOST 1048576: true; the input reads as it did. -/
def opSeesUptoRow : OpenClaim := { program := "ytdhadhelcpeiaaa", sum := "bdc087c966c7d1e0006c5d7626f356bd0787cb3510894c15b6b4857f4fd3f0b4", func := "sumpter/sumpterlaw04.OpSees", spec := "opSees", inPlace := ["internal/bytealg.abigen_runtime_cmpstring", "slices.overlaps[sumpter/api.Pair]"], unfollowed := true, recurses := true, apart := false, narrowed := true }
def OpSeesUptoSaid : Prop := opSeesUptoRow.holds Try.pinned (OpenSpec.upto opSeesSpec)

/-- 'sumpterlaw04.OpTurns', WHERE WHAT IT READS IS OF BULK AT MOST 1048576: true; the input reads as it did. -/
def opTurnsUptoRow : OpenClaim := { program := "ytdhadhelcpeiaaa", sum := "bdc087c966c7d1e0006c5d7626f356bd0787cb3510894c15b6b4857f4fd3f0b4", func := "sumpter/sumpterlaw04.OpTurns", spec := "opTurns", inPlace := ["internal/bytealg.abigen_runtime_cmpstring", "slices.overlaps[sumpter/api.Pair]"], unfollowed := true, recurses := true, apart := false, narrowed := true }
def OpTurnsUptoSaid : Prop := opTurnsUptoRow.holds Try.pinned (OpenSpec.upto opTurnsSpec)

/-- 'sumpterlaw04.OpChecks', WHERE WHAT IT READS IS OF BULK AT MOST 1048576: true; the input reads as it did. -/
def opChecksUptoRow : OpenClaim := { program := "ytdhadhelcpeiaaa", sum := "bdc087c966c7d1e0006c5d7626f356bd0787cb3510894c15b6b4857f4fd3f0b4", func := "sumpter/sumpterlaw04.OpChecks", spec := "opChecks", inPlace := ["internal/bytealg.abigen_runtime_cmpstring", "slices.overlaps[sumpter/api.Pair]"], unfollowed := true, recurses := true, apart := false, narrowed := true }
def OpChecksUptoSaid : Prop := opChecksUptoRow.holds Try.pinned (OpenSpec.upto opChecksSpec)

end Rows
end Go.Proofs.Ytdhadhelcpeiaaa
