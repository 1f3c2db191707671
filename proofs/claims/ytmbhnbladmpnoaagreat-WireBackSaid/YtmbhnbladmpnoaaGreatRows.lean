/-
  No cell of these rows narrows 'for every input' (looked for: loops, veiled, ifaces, maps, wideKeys, modest, calm, conditions, laid).
  DERIVED. THE GIVEN ROWS OF THIS SEAT. 5 by the template 'for every input the law returns true; each argument reads behind the call as it read before'; 0 by the template 'total and deterministic' (their statements: YtmbhnbladmpnoaaGreatTotals.lean).
  GIVEN WITH THE SEED: the statements are not yours to turn. If you find one false, say at which input.
  Laid BY PROGRAM, IN A SANDBOX (cutbox-rows.mjs): the forced cells as the released guide's own fill.sh prints them over the translation e67457f5f266c5e7… (all of the seat's roots in one cut). By AI agents, Wed Nov 11 2026. No macro, syntax, notation, axiom, sorry.
-/
import Derived.Test.YtmbhnbladmpnoaaGreatChecked
import GoSem.Claim
import GoSem.ClaimJoined
import GoSem.ClaimMapViews
import Derived.JoinedTies
import Derived.KernelRfl
namespace Go.Proofs.YtmbhnbladmpnoaaGreat
/- THE CELL 'sum', in the pinned program and in every row, IS THE sha256 OF THE DUMP (.gsa) THAT YtmbhnbladmpnoaaGreatProg.lean LOADS. Nothing in Lean hashes anything: it is a label: what it is worth is what the hold of that sum in a sandbox is worth. -/
noncomputable def Tryz.pinned : Pinned := { name := "ytmbhnbladmpnoaagreat", sum := "e67457f5f266c5e7a148624dd9380e86cab65a4f4e526916abbf2204be94b301", checked := Tryz.checked }
namespace Rows
def none {H : Type} : Left H := { results := [], args := [] }

/-- 'sumpterlaw18.WireWrites': WHATEVER THE INPUT: true; the input reads as it did. -/
def wireWritesSpec : ChangeSpec := { name := "wireWrites", fn := fun _ => fun
  | [d] => { results := [.lit (.bool true)], args := [d] }
  | _ => none }
def wireWritesRow : OpenClaim := { program := "ytmbhnbladmpnoaagreat", sum := "e67457f5f266c5e7a148624dd9380e86cab65a4f4e526916abbf2204be94b301", func := "sumpter/sumpterlaw18.WireWrites", spec := "wireWrites", inPlace := ["internal/bytealg.abigen_runtime_cmpstring", "slices.overlaps[sumpter/api.Pair]"], unfollowed := true, recurses := true, apart := false }
def WireWritesSaid : Prop := wireWritesRow.holds Tryz.pinned (OpenSpec.ofChange wireWritesSpec)

/-- ITS FALSE NEIGHBOUR: 'it returns false'. Refute it at one input. -/
def wireWritesWrong : ChangeSpec := { name := "wireWrites", fn := fun _ => fun
  | [d] => { results := [.lit (.bool false)], args := [d] }
  | _ => none }
def WireWritesWrongFalsely : Prop := wireWritesRow.holds Tryz.pinned (OpenSpec.ofChange wireWritesWrong)

/-- 'sumpterlaw18.WireReads': WHATEVER THE INPUT: true; the input reads as it did. -/
def wireReadsSpec : ChangeSpec := { name := "wireReads", fn := fun _ => fun
  | [d] => { results := [.lit (.bool true)], args := [d] }
  | _ => none }
def wireReadsRow : OpenClaim := { program := "ytmbhnbladmpnoaagreat", sum := "e67457f5f266c5e7a148624dd9380e86cab65a4f4e526916abbf2204be94b301", func := "sumpter/sumpterlaw18.WireReads", spec := "wireReads", inPlace := ["internal/bytealg.abigen_runtime_cmpstring", "slices.overlaps[sumpter/api.Pair]"], unfollowed := true, recurses := true, apart := false }
def WireReadsSaid : Prop := wireReadsRow.holds Tryz.pinned (OpenSpec.ofChange wireReadsSpec)

/-- ITS FALSE NEIGHBOUR: 'it returns false'. Refute it at one input. -/
def wireReadsWrong : ChangeSpec := { name := "wireReads", fn := fun _ => fun
  | [d] => { results := [.lit (.bool false)], args := [d] }
  | _ => none }
def WireReadsWrongFalsely : Prop := wireReadsRow.holds Tryz.pinned (OpenSpec.ofChange wireReadsWrong)

/-- 'sumpterlaw18.WireBodies': WHATEVER THE INPUT: true; the input reads as it did. -/
def wireBodiesSpec : ChangeSpec := { name := "wireBodies", fn := fun _ => fun
  | [d] => { results := [.lit (.bool true)], args := [d] }
  | _ => none }
def wireBodiesRow : OpenClaim := { program := "ytmbhnbladmpnoaagreat", sum := "e67457f5f266c5e7a148624dd9380e86cab65a4f4e526916abbf2204be94b301", func := "sumpter/sumpterlaw18.WireBodies", spec := "wireBodies", inPlace := ["internal/bytealg.abigen_runtime_cmpstring", "slices.overlaps[sumpter/api.Pair]"], unfollowed := true, recurses := true, apart := false }
def WireBodiesSaid : Prop := wireBodiesRow.holds Tryz.pinned (OpenSpec.ofChange wireBodiesSpec)

/-- ITS FALSE NEIGHBOUR: 'it returns false'. Refute it at one input. -/
def wireBodiesWrong : ChangeSpec := { name := "wireBodies", fn := fun _ => fun
  | [d] => { results := [.lit (.bool false)], args := [d] }
  | _ => none }
def WireBodiesWrongFalsely : Prop := wireBodiesRow.holds Tryz.pinned (OpenSpec.ofChange wireBodiesWrong)

/-- 'sumpterlaw18.WireBack': WHATEVER THE INPUT: true; the input reads as it did. -/
def wireBackSpec : ChangeSpec := { name := "wireBack", fn := fun _ => fun
  | [d1, d2] => { results := [.lit (.bool true)], args := [d1, d2] }
  | _ => none }
def wireBackRow : OpenClaim := { program := "ytmbhnbladmpnoaagreat", sum := "e67457f5f266c5e7a148624dd9380e86cab65a4f4e526916abbf2204be94b301", func := "sumpter/sumpterlaw18.WireBack", spec := "wireBack", inPlace := ["internal/bytealg.abigen_runtime_cmpstring", "slices.overlaps[sumpter/api.Pair]"], unfollowed := true, recurses := true, apart := false }
def WireBackSaid : Prop := wireBackRow.holds Tryz.pinned (OpenSpec.ofChange wireBackSpec)

/-- ITS FALSE NEIGHBOUR: 'it returns false'. Refute it at one input. -/
def wireBackWrong : ChangeSpec := { name := "wireBack", fn := fun _ => fun
  | [d1, d2] => { results := [.lit (.bool false)], args := [d1, d2] }
  | _ => none }
def WireBackWrongFalsely : Prop := wireBackRow.holds Tryz.pinned (OpenSpec.ofChange wireBackWrong)

/-- 'sumpterlaw18.WireSpoilt': WHATEVER THE INPUT: true; the input reads as it did. -/
def wireSpoiltSpec : ChangeSpec := { name := "wireSpoilt", fn := fun _ => fun
  | [d1, d2, d3] => { results := [.lit (.bool true)], args := [d1, d2, d3] }
  | _ => none }
def wireSpoiltRow : OpenClaim := { program := "ytmbhnbladmpnoaagreat", sum := "e67457f5f266c5e7a148624dd9380e86cab65a4f4e526916abbf2204be94b301", func := "sumpter/sumpterlaw18.WireSpoilt", spec := "wireSpoilt", inPlace := ["internal/bytealg.abigen_runtime_cmpstring", "slices.overlaps[sumpter/api.Pair]"], unfollowed := true, recurses := true, apart := false }
def WireSpoiltSaid : Prop := wireSpoiltRow.holds Tryz.pinned (OpenSpec.ofChange wireSpoiltSpec)

/-- ITS FALSE NEIGHBOUR: 'it returns false'. Refute it at one input. -/
def wireSpoiltWrong : ChangeSpec := { name := "wireSpoilt", fn := fun _ => fun
  | [d1, d2, d3] => { results := [.lit (.bool false)], args := [d1, d2, d3] }
  | _ => none }
def WireSpoiltWrongFalsely : Prop := wireSpoiltRow.holds Tryz.pinned (OpenSpec.ofChange wireSpoiltWrong)

/- THE SECOND FORM. 'bulk': how many values and letters a reading holds, each counted each time it is reached (what is shared counts as often as it is met; a slice's spare places count too). A statement '..UptoSaid' is the law's where the arguments, and the package variables that the reading takes, are together of bulk at most 1048576: NARROWER than '..Said'. Prove '..Said' where nothing that the law and all that it calls make is longer than what came in: it says more and counts as full. Else prove '..UptoSaid'. A law counts once. -/
mutual
def uptoBulk {H : Type} : DataW H → Nat
  | .lit (.string bytes) => bytes.length + 1
  | .lit _ => 1
  | .nil => 1
  | .ptr d => uptoBulk d + 1
  | .slice elems spare => uptoBulkAll elems + uptoBulkAll spare + 1
  | .agg parts => uptoBulkAll parts + 1
  | .iface _ d => uptoBulk d + 1
  | .map entries => uptoBulkEntries entries + 1
  | .held _ => 1
def uptoBulkAll {H : Type} : List (DataW H) → Nat
  | [] => 0
  | d :: r => uptoBulk d + uptoBulkAll r
def uptoBulkEntries {H : Type} : List (Lit × DataW H) → Nat
  | [] => 0
  | x :: r => uptoBulkEntry x + uptoBulkEntries r
def uptoBulkEntry {H : Type} : Lit × DataW H → Nat
  | (.string bytes, d) => bytes.length + uptoBulk d + 1
  | (_, d) => uptoBulk d + 1
 end
def uptoSmall : (H : Type) → List (DataW H) → Bool := fun _ ds => decide (uptoBulkAll ds ≤ 1048576)
def OpenSpec.upto (s : _root_.Go.ChangeSpec) : _root_.Go.OpenSpec := { _root_.Go.OpenSpec.ofChange s with cond := some uptoSmall }

/-- 'sumpterlaw18.WireWrites', WHERE WHAT IT READS IS OF BULK AT MOST 1048576: true; the input reads as it did. -/
def wireWritesUptoRow : OpenClaim := { program := "ytmbhnbladmpnoaagreat", sum := "e67457f5f266c5e7a148624dd9380e86cab65a4f4e526916abbf2204be94b301", func := "sumpter/sumpterlaw18.WireWrites", spec := "wireWrites", inPlace := ["internal/bytealg.abigen_runtime_cmpstring", "slices.overlaps[sumpter/api.Pair]"], unfollowed := true, recurses := true, apart := false, narrowed := true }
def WireWritesUptoSaid : Prop := wireWritesUptoRow.holds Tryz.pinned (OpenSpec.upto wireWritesSpec)

/-- 'sumpterlaw18.WireReads', WHERE WHAT IT READS IS OF BULK AT MOST 1048576: true; the input reads as it did. -/
def wireReadsUptoRow : OpenClaim := { program := "ytmbhnbladmpnoaagreat", sum := "e67457f5f266c5e7a148624dd9380e86cab65a4f4e526916abbf2204be94b301", func := "sumpter/sumpterlaw18.WireReads", spec := "wireReads", inPlace := ["internal/bytealg.abigen_runtime_cmpstring", "slices.overlaps[sumpter/api.Pair]"], unfollowed := true, recurses := true, apart := false, narrowed := true }
def WireReadsUptoSaid : Prop := wireReadsUptoRow.holds Tryz.pinned (OpenSpec.upto wireReadsSpec)

/-- 'sumpterlaw18.WireBodies', WHERE WHAT IT READS IS OF BULK AT MOST 1048576: true; the input reads as it did. -/
def wireBodiesUptoRow : OpenClaim := { program := "ytmbhnbladmpnoaagreat", sum := "e67457f5f266c5e7a148624dd9380e86cab65a4f4e526916abbf2204be94b301", func := "sumpter/sumpterlaw18.WireBodies", spec := "wireBodies", inPlace := ["internal/bytealg.abigen_runtime_cmpstring", "slices.overlaps[sumpter/api.Pair]"], unfollowed := true, recurses := true, apart := false, narrowed := true }
def WireBodiesUptoSaid : Prop := wireBodiesUptoRow.holds Tryz.pinned (OpenSpec.upto wireBodiesSpec)

/-- 'sumpterlaw18.WireBack', WHERE WHAT IT READS IS OF BULK AT MOST 1048576: true; the input reads as it did. -/
def wireBackUptoRow : OpenClaim := { program := "ytmbhnbladmpnoaagreat", sum := "e67457f5f266c5e7a148624dd9380e86cab65a4f4e526916abbf2204be94b301", func := "sumpter/sumpterlaw18.WireBack", spec := "wireBack", inPlace := ["internal/bytealg.abigen_runtime_cmpstring", "slices.overlaps[sumpter/api.Pair]"], unfollowed := true, recurses := true, apart := false, narrowed := true }
def WireBackUptoSaid : Prop := wireBackUptoRow.holds Tryz.pinned (OpenSpec.upto wireBackSpec)

/-- 'sumpterlaw18.WireSpoilt', WHERE WHAT IT READS IS OF BULK AT MOST 1048576: true; the input reads as it did. -/
def wireSpoiltUptoRow : OpenClaim := { program := "ytmbhnbladmpnoaagreat", sum := "e67457f5f266c5e7a148624dd9380e86cab65a4f4e526916abbf2204be94b301", func := "sumpter/sumpterlaw18.WireSpoilt", spec := "wireSpoilt", inPlace := ["internal/bytealg.abigen_runtime_cmpstring", "slices.overlaps[sumpter/api.Pair]"], unfollowed := true, recurses := true, apart := false, narrowed := true }
def WireSpoiltUptoSaid : Prop := wireSpoiltUptoRow.holds Tryz.pinned (OpenSpec.upto wireSpoiltSpec)

end Rows
end Go.Proofs.YtmbhnbladmpnoaaGreat
