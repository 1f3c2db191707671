/-
  No cell of these rows narrows 'for every input' (looked for: loops, veiled, ifaces, maps, wideKeys, modest, calm, conditions, laid).
  DERIVED. THE GIVEN ROWS OF THIS SEAT. 3 by the template 'for every input the law returns true; each argument reads behind the call as it read before'; 0 by the template 'total and deterministic' (their statements: YtckpcelchhmjcaaGreatTotals.lean).
  GIVEN WITH THE SEED: the statements are not yours to turn. If you find one false, say at which input.
  Laid BY PROGRAM, IN A SANDBOX (cutbox-rows.mjs): the forced cells as the released guide's own fill.sh prints them over the translation a9a1e4d5dc54248f… (all of the seat's roots in one cut). By AI agents, Wed Nov 11 2026. No macro, syntax, notation, axiom, sorry.
-/
import Derived.Test.YtckpcelchhmjcaaGreatChecked
import GoSem.Claim
import GoSem.ClaimJoined
import GoSem.ClaimMapViews
import Derived.JoinedTies
import Derived.KernelRfl
namespace Go.Proofs.YtckpcelchhmjcaaGreat
/- THE CELL 'sum', in the pinned program and in every row, IS THE sha256 OF THE DUMP (.gsa) THAT YtckpcelchhmjcaaGreatProg.lean LOADS. Nothing in Lean hashes anything: it is a label: what it is worth is what the hold of that sum in a sandbox is worth. -/
noncomputable def Tryz.pinned : Pinned := { name := "ytckpcelchhmjcaagreat", sum := "a9a1e4d5dc54248f50e3ff4ae10dab4ac0e3639d20a1594537e948e91a440b93", checked := Tryz.checked }
namespace Rows
def none {H : Type} : Left H := { results := [], args := [] }

/-- 'sumpterlaw19.RecordWrites': WHATEVER THE INPUT: true; the input reads as it did. -/
def recordWritesSpec : ChangeSpec := { name := "recordWrites", fn := fun _ => fun
  | [d1, d2] => { results := [.lit (.bool true)], args := [d1, d2] }
  | _ => none }
def recordWritesRow : OpenClaim := { program := "ytckpcelchhmjcaagreat", sum := "a9a1e4d5dc54248f50e3ff4ae10dab4ac0e3639d20a1594537e948e91a440b93", func := "sumpter/sumpterlaw19.RecordWrites", spec := "recordWrites", inPlace := ["internal/bytealg.abigen_runtime_cmpstring", "slices.overlaps[sumpter/api.Pair]"], unfollowed := true, recurses := true, apart := false }
def RecordWritesSaid : Prop := recordWritesRow.holds Tryz.pinned (OpenSpec.ofChange recordWritesSpec)

/-- ITS FALSE NEIGHBOUR: 'it returns false'. Refute it at one input. -/
def recordWritesWrong : ChangeSpec := { name := "recordWrites", fn := fun _ => fun
  | [d1, d2] => { results := [.lit (.bool false)], args := [d1, d2] }
  | _ => none }
def RecordWritesWrongFalsely : Prop := recordWritesRow.holds Tryz.pinned (OpenSpec.ofChange recordWritesWrong)

/-- 'sumpterlaw19.RecordBack': WHATEVER THE INPUT: true; the input reads as it did. -/
def recordBackSpec : ChangeSpec := { name := "recordBack", fn := fun _ => fun
  | [d1, d2, d3] => { results := [.lit (.bool true)], args := [d1, d2, d3] }
  | _ => none }
def recordBackRow : OpenClaim := { program := "ytckpcelchhmjcaagreat", sum := "a9a1e4d5dc54248f50e3ff4ae10dab4ac0e3639d20a1594537e948e91a440b93", func := "sumpter/sumpterlaw19.RecordBack", spec := "recordBack", inPlace := ["internal/bytealg.abigen_runtime_cmpstring", "slices.overlaps[sumpter/api.Pair]"], unfollowed := true, recurses := true, apart := false }
def RecordBackSaid : Prop := recordBackRow.holds Tryz.pinned (OpenSpec.ofChange recordBackSpec)

/-- ITS FALSE NEIGHBOUR: 'it returns false'. Refute it at one input. -/
def recordBackWrong : ChangeSpec := { name := "recordBack", fn := fun _ => fun
  | [d1, d2, d3] => { results := [.lit (.bool false)], args := [d1, d2, d3] }
  | _ => none }
def RecordBackWrongFalsely : Prop := recordBackRow.holds Tryz.pinned (OpenSpec.ofChange recordBackWrong)

/-- 'sumpterlaw19.RecordCuts': WHATEVER THE INPUT: true; the input reads as it did. -/
def recordCutsSpec : ChangeSpec := { name := "recordCuts", fn := fun _ => fun
  | [d1, d2, d3, d4] => { results := [.lit (.bool true)], args := [d1, d2, d3, d4] }
  | _ => none }
def recordCutsRow : OpenClaim := { program := "ytckpcelchhmjcaagreat", sum := "a9a1e4d5dc54248f50e3ff4ae10dab4ac0e3639d20a1594537e948e91a440b93", func := "sumpter/sumpterlaw19.RecordCuts", spec := "recordCuts", inPlace := ["internal/bytealg.abigen_runtime_cmpstring", "slices.overlaps[sumpter/api.Pair]"], unfollowed := true, recurses := true, apart := false }
def RecordCutsSaid : Prop := recordCutsRow.holds Tryz.pinned (OpenSpec.ofChange recordCutsSpec)

/-- ITS FALSE NEIGHBOUR: 'it returns false'. Refute it at one input. -/
def recordCutsWrong : ChangeSpec := { name := "recordCuts", fn := fun _ => fun
  | [d1, d2, d3, d4] => { results := [.lit (.bool false)], args := [d1, d2, d3, d4] }
  | _ => none }
def RecordCutsWrongFalsely : Prop := recordCutsRow.holds Tryz.pinned (OpenSpec.ofChange recordCutsWrong)

/- THE SECOND FORM. 'bulk': how many values and letters a reading holds, each counted each time it is reached (what is shared counts as often as it is met; a slice's spare places count too). A statement '..UptoSaid' is the law's where the arguments, and the package variables that the reading takes, are together of bulk at most 1048576: NARROWER than '..Said'. Prove '..Said' where nothing that the law and all that it calls make is longer than what came in: it says more and counts as full. Else prove '..UptoSaid'. A law counts once. -/
mutual
def uptoBulk {H : Type} : DataW H → Nat
  | .lit (.string bytes) => bytes.length + 1
  | .lit _ => 1
  | .nil => 1
  | .ptr d => uptoBulk d + 1
  | .slice elems spare => uptoBulkAll elems + uptoBulkAll spare + 1
  | .agg parts => uptoBulkAll parts + 1
  | .iface _ d => uptoBulk d + 1
  | .map entries => uptoBulkEntries entries + 1
  | .held _ => 1
def uptoBulkAll {H : Type} : List (DataW H) → Nat
  | [] => 0
  | d :: r => uptoBulk d + uptoBulkAll r
def uptoBulkEntries {H : Type} : List (Lit × DataW H) → Nat
  | [] => 0
  | x :: r => uptoBulkEntry x + uptoBulkEntries r
def uptoBulkEntry {H : Type} : Lit × DataW H → Nat
  | (.string bytes, d) => bytes.length + uptoBulk d + 1
  | (_, d) => uptoBulk d + 1
 end
def uptoSmall : (H : Type) → List (DataW H) → Bool := fun _ ds => decide (uptoBulkAll ds ≤ 1048576)
def OpenSpec.upto (s : _root_.Go.ChangeSpec) : _root_.Go.OpenSpec := { _root_.Go.OpenSpec.ofChange s with cond := some uptoSmall }

/-- 'sumpterlaw19.RecordWrites', WHERE WHAT IT READS IS OF BULK AT MOST 1048576: true; the input reads as it did. -/
def recordWritesUptoRow : OpenClaim := { program := "ytckpcelchhmjcaagreat", sum := "a9a1e4d5dc54248f50e3ff4ae10dab4ac0e3639d20a1594537e948e91a440b93", func := "sumpter/sumpterlaw19.RecordWrites", spec := "recordWrites", inPlace := ["internal/bytealg.abigen_runtime_cmpstring", "slices.overlaps[sumpter/api.Pair]"], unfollowed := true, recurses := true, apart := false, narrowed := true }
def RecordWritesUptoSaid : Prop := recordWritesUptoRow.holds Tryz.pinned (OpenSpec.upto recordWritesSpec)

/-- 'sumpterlaw19.RecordBack', WHERE WHAT IT READS IS OF BULK AT MOST 1048576: true; the input reads as it did. -/
def recordBackUptoRow : OpenClaim := { program := "ytckpcelchhmjcaagreat", sum := "a9a1e4d5dc54248f50e3ff4ae10dab4ac0e3639d20a1594537e948e91a440b93", func := "sumpter/sumpterlaw19.RecordBack", spec := "recordBack", inPlace := ["internal/bytealg.abigen_runtime_cmpstring", "slices.overlaps[sumpter/api.Pair]"], unfollowed := true, recurses := true, apart := false, narrowed := true }
def RecordBackUptoSaid : Prop := recordBackUptoRow.holds Tryz.pinned (OpenSpec.upto recordBackSpec)

/-- 'sumpterlaw19.RecordCuts', WHERE WHAT IT READS IS OF BULK AT MOST 1048576: true; the input reads as it did. -/
def recordCutsUptoRow : OpenClaim := { program := "ytckpcelchhmjcaagreat", sum := "a9a1e4d5dc54248f50e3ff4ae10dab4ac0e3639d20a1594537e948e91a440b93", func := "sumpter/sumpterlaw19.RecordCuts", spec := "recordCuts", inPlace := ["internal/bytealg.abigen_runtime_cmpstring", "slices.overlaps[sumpter/api.Pair]"], unfollowed := true, recurses := true, apart := false, narrowed := true }
def RecordCutsUptoSaid : Prop := recordCutsUptoRow.holds Tryz.pinned (OpenSpec.upto recordCutsSpec)

end Rows
end Go.Proofs.YtckpcelchhmjcaaGreat
