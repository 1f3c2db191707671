/-
  No cell of these rows narrows 'for every input' (looked for: loops, veiled, ifaces, maps, wideKeys, modest, calm, conditions, laid).
  DERIVED. THE GIVEN ROWS OF THIS SEAT. 8 by the template 'for every input the law returns true; each argument reads behind the call as it read before'; 0 by the template 'total and deterministic' (their statements: YtcahddipgocpfaaTotals.lean).
  GIVEN WITH THE SEED: the statements are not yours to turn. If you find one false, say at which input.
  Laid BY PROGRAM, IN A SANDBOX (cutbox-rows.mjs): the forced cells as the released guide's own fill.sh prints them over the translation 5ec0708b65c9741e… (all of the seat's roots in one cut). By AI agents, Wed Nov 11 2026. No macro, syntax, notation, axiom, sorry.
-/
import Derived.Test.YtcahddipgocpfaaChecked
import GoSem.Claim
import GoSem.ClaimJoined
import GoSem.ClaimMapViews
import Derived.JoinedTies
import Derived.KernelRfl
namespace Go.Proofs.Ytcahddipgocpfaa
/- THE CELL 'sum', in the pinned program and in every row, IS THE sha256 OF THE DUMP (.gsa) THAT YtcahddipgocpfaaProg.lean LOADS. Nothing in Lean hashes anything: it is a label: what it is worth is what the hold of that sum in a sandbox is worth. -/
noncomputable def Try.pinned : Pinned := { name := "ytcahddipgocpfaa", sum := "5ec0708b65c9741e0d355d5d60cd3ec158f18848b8bfdbcebe32c860acfd371d", checked := Try.checked }
namespace Rows
def none {H : Type} : Left H := { results := [], args := [] }

/-- 'sumpterlaw02.SpanChecks': WHATEVER THE INPUT: true; the input reads as it did. -/
def spanChecksSpec : ChangeSpec := { name := "spanChecks", fn := fun _ => fun
  | [d1, d2] => { results := [.lit (.bool true)], args := [d1, d2] }
  | _ => none }
def spanChecksRow : OpenClaim := { program := "ytcahddipgocpfaa", sum := "5ec0708b65c9741e0d355d5d60cd3ec158f18848b8bfdbcebe32c860acfd371d", func := "sumpter/sumpterlaw02.SpanChecks", spec := "spanChecks", apart := false }
def SpanChecksSaid : Prop := spanChecksRow.holds Try.pinned (OpenSpec.ofChange spanChecksSpec)

/-- ITS FALSE NEIGHBOUR: 'it returns false'. Refute it at one input. -/
def spanChecksWrong : ChangeSpec := { name := "spanChecks", fn := fun _ => fun
  | [d1, d2] => { results := [.lit (.bool false)], args := [d1, d2] }
  | _ => none }
def SpanChecksWrongFalsely : Prop := spanChecksRow.holds Try.pinned (OpenSpec.ofChange spanChecksWrong)

/-- 'sumpterlaw02.SpanCuts': WHATEVER THE INPUT: true; the input reads as it did. -/
def spanCutsSpec : ChangeSpec := { name := "spanCuts", fn := fun _ => fun
  | [d1, d2] => { results := [.lit (.bool true)], args := [d1, d2] }
  | _ => none }
def spanCutsRow : OpenClaim := { program := "ytcahddipgocpfaa", sum := "5ec0708b65c9741e0d355d5d60cd3ec158f18848b8bfdbcebe32c860acfd371d", func := "sumpter/sumpterlaw02.SpanCuts", spec := "spanCuts", apart := false }
def SpanCutsSaid : Prop := spanCutsRow.holds Try.pinned (OpenSpec.ofChange spanCutsSpec)

/-- ITS FALSE NEIGHBOUR: 'it returns false'. Refute it at one input. -/
def spanCutsWrong : ChangeSpec := { name := "spanCuts", fn := fun _ => fun
  | [d1, d2] => { results := [.lit (.bool false)], args := [d1, d2] }
  | _ => none }
def SpanCutsWrongFalsely : Prop := spanCutsRow.holds Try.pinned (OpenSpec.ofChange spanCutsWrong)

/-- 'sumpterlaw02.SpanPoints': WHATEVER THE INPUT: true; the input reads as it did. -/
def spanPointsSpec : ChangeSpec := { name := "spanPoints", fn := fun _ => fun
  | [d1, d2] => { results := [.lit (.bool true)], args := [d1, d2] }
  | _ => none }
def spanPointsRow : OpenClaim := { program := "ytcahddipgocpfaa", sum := "5ec0708b65c9741e0d355d5d60cd3ec158f18848b8bfdbcebe32c860acfd371d", func := "sumpter/sumpterlaw02.SpanPoints", spec := "spanPoints", apart := false }
def SpanPointsSaid : Prop := spanPointsRow.holds Try.pinned (OpenSpec.ofChange spanPointsSpec)

/-- ITS FALSE NEIGHBOUR: 'it returns false'. Refute it at one input. -/
def spanPointsWrong : ChangeSpec := { name := "spanPoints", fn := fun _ => fun
  | [d1, d2] => { results := [.lit (.bool false)], args := [d1, d2] }
  | _ => none }
def SpanPointsWrongFalsely : Prop := spanPointsRow.holds Try.pinned (OpenSpec.ofChange spanPointsWrong)

/-- 'sumpterlaw02.SpanParts': WHATEVER THE INPUT: true; the input reads as it did. -/
def spanPartsSpec : ChangeSpec := { name := "spanParts", fn := fun _ => fun
  | [d1, d2, d3] => { results := [.lit (.bool true)], args := [d1, d2, d3] }
  | _ => none }
def spanPartsRow : OpenClaim := { program := "ytcahddipgocpfaa", sum := "5ec0708b65c9741e0d355d5d60cd3ec158f18848b8bfdbcebe32c860acfd371d", func := "sumpter/sumpterlaw02.SpanParts", spec := "spanParts", apart := false }
def SpanPartsSaid : Prop := spanPartsRow.holds Try.pinned (OpenSpec.ofChange spanPartsSpec)

/-- ITS FALSE NEIGHBOUR: 'it returns false'. Refute it at one input. -/
def spanPartsWrong : ChangeSpec := { name := "spanParts", fn := fun _ => fun
  | [d1, d2, d3] => { results := [.lit (.bool false)], args := [d1, d2, d3] }
  | _ => none }
def SpanPartsWrongFalsely : Prop := spanPartsRow.holds Try.pinned (OpenSpec.ofChange spanPartsWrong)

/-- 'sumpterlaw02.SpanNext': WHATEVER THE INPUT: true; the input reads as it did. -/
def spanNextSpec : ChangeSpec := { name := "spanNext", fn := fun _ => fun
  | [d1, d2] => { results := [.lit (.bool true)], args := [d1, d2] }
  | _ => none }
def spanNextRow : OpenClaim := { program := "ytcahddipgocpfaa", sum := "5ec0708b65c9741e0d355d5d60cd3ec158f18848b8bfdbcebe32c860acfd371d", func := "sumpter/sumpterlaw02.SpanNext", spec := "spanNext", apart := false }
def SpanNextSaid : Prop := spanNextRow.holds Try.pinned (OpenSpec.ofChange spanNextSpec)

/-- ITS FALSE NEIGHBOUR: 'it returns false'. Refute it at one input. -/
def spanNextWrong : ChangeSpec := { name := "spanNext", fn := fun _ => fun
  | [d1, d2] => { results := [.lit (.bool false)], args := [d1, d2] }
  | _ => none }
def SpanNextWrongFalsely : Prop := spanNextRow.holds Try.pinned (OpenSpec.ofChange spanNextWrong)

/-- 'sumpterlaw02.SpanMeets': WHATEVER THE INPUT: true; the input reads as it did. -/
def spanMeetsSpec : ChangeSpec := { name := "spanMeets", fn := fun _ => fun
  | [d1, d2] => { results := [.lit (.bool true)], args := [d1, d2] }
  | _ => none }
def spanMeetsRow : OpenClaim := { program := "ytcahddipgocpfaa", sum := "5ec0708b65c9741e0d355d5d60cd3ec158f18848b8bfdbcebe32c860acfd371d", func := "sumpter/sumpterlaw02.SpanMeets", spec := "spanMeets", apart := false }
def SpanMeetsSaid : Prop := spanMeetsRow.holds Try.pinned (OpenSpec.ofChange spanMeetsSpec)

/-- ITS FALSE NEIGHBOUR: 'it returns false'. Refute it at one input. -/
def spanMeetsWrong : ChangeSpec := { name := "spanMeets", fn := fun _ => fun
  | [d1, d2] => { results := [.lit (.bool false)], args := [d1, d2] }
  | _ => none }
def SpanMeetsWrongFalsely : Prop := spanMeetsRow.holds Try.pinned (OpenSpec.ofChange spanMeetsWrong)

/-- 'sumpterlaw02.SpanBoth': WHATEVER THE INPUT: true; the input reads as it did. -/
def spanBothSpec : ChangeSpec := { name := "spanBoth", fn := fun _ => fun
  | [d1, d2, d3, d4] => { results := [.lit (.bool true)], args := [d1, d2, d3, d4] }
  | _ => none }
def spanBothRow : OpenClaim := { program := "ytcahddipgocpfaa", sum := "5ec0708b65c9741e0d355d5d60cd3ec158f18848b8bfdbcebe32c860acfd371d", func := "sumpter/sumpterlaw02.SpanBoth", spec := "spanBoth", apart := false }
def SpanBothSaid : Prop := spanBothRow.holds Try.pinned (OpenSpec.ofChange spanBothSpec)

/-- ITS FALSE NEIGHBOUR: 'it returns false'. Refute it at one input. -/
def spanBothWrong : ChangeSpec := { name := "spanBoth", fn := fun _ => fun
  | [d1, d2, d3, d4] => { results := [.lit (.bool false)], args := [d1, d2, d3, d4] }
  | _ => none }
def SpanBothWrongFalsely : Prop := spanBothRow.holds Try.pinned (OpenSpec.ofChange spanBothWrong)

/-- 'sumpterlaw02.SpanWhole': WHATEVER THE INPUT: true; the input reads as it did. -/
def spanWholeSpec : ChangeSpec := { name := "spanWhole", fn := fun _ => fun
  | [d1, d2, d3, d4] => { results := [.lit (.bool true)], args := [d1, d2, d3, d4] }
  | _ => none }
def spanWholeRow : OpenClaim := { program := "ytcahddipgocpfaa", sum := "5ec0708b65c9741e0d355d5d60cd3ec158f18848b8bfdbcebe32c860acfd371d", func := "sumpter/sumpterlaw02.SpanWhole", spec := "spanWhole", apart := false }
def SpanWholeSaid : Prop := spanWholeRow.holds Try.pinned (OpenSpec.ofChange spanWholeSpec)

/-- ITS FALSE NEIGHBOUR: 'it returns false'. Refute it at one input. -/
def spanWholeWrong : ChangeSpec := { name := "spanWhole", fn := fun _ => fun
  | [d1, d2, d3, d4] => { results := [.lit (.bool false)], args := [d1, d2, d3, d4] }
  | _ => none }
def SpanWholeWrongFalsely : Prop := spanWholeRow.holds Try.pinned (OpenSpec.ofChange spanWholeWrong)

/- THE SECOND FORM. 'bulk': how many values and letters a reading holds, each counted each time it is reached (what is shared counts as often as it is met; a slice's spare places count too). A statement '..UptoSaid' is the law's where the arguments, and the package variables that the reading takes, are together of bulk at most 1048576: NARROWER than '..Said'. Prove '..Said' where nothing that the law and all that it calls make is longer than what came in: it says more and counts as full. Else prove '..UptoSaid'. A law counts once. -/
mutual
def uptoBulk {H : Type} : DataW H → Nat
  | .lit (.string bytes) => bytes.length + 1
  | .lit _ => 1
  | .nil => 1
  | .ptr d => uptoBulk d + 1
  | .slice elems spare => uptoBulkAll elems + uptoBulkAll spare + 1
  | .agg parts => uptoBulkAll parts + 1
  | .iface _ d => uptoBulk d + 1
  | .map entries => uptoBulkEntries entries + 1
  | .held _ => 1
def uptoBulkAll {H : Type} : List (DataW H) → Nat
  | [] => 0
  | d :: r => uptoBulk d + uptoBulkAll r
def uptoBulkEntries {H : Type} : List (Lit × DataW H) → Nat
  | [] => 0
  | x :: r => uptoBulkEntry x + uptoBulkEntries r
def uptoBulkEntry {H : Type} : Lit × DataW H → Nat
  | (.string bytes, d) => bytes.length + uptoBulk d + 1
  | (_, d) => uptoBulk d + 1
 end
def uptoSmall : (H : Type) → List (DataW H) → Bool := fun _ ds => decide (uptoBulkAll ds ≤ 1048576)
def OpenSpec.upto (s : _root_.Go.ChangeSpec) : _root_.Go.OpenSpec := { _root_.Go.OpenSpec.ofChange s with cond := some uptoSmall }

/-- 'sumpterlaw02.SpanChecks', WHERE WHAT IT READS IS OF BULK AT MOST 1048576: true; the input reads as it did. -/
def spanChecksUptoRow : OpenClaim := { program := "ytcahddipgocpfaa", sum := "5ec0708b65c9741e0d355d5d60cd3ec158f18848b8bfdbcebe32c860acfd371d", func := "sumpter/sumpterlaw02.SpanChecks", spec := "spanChecks", apart := false, narrowed := true }
def SpanChecksUptoSaid : Prop := spanChecksUptoRow.holds Try.pinned (OpenSpec.upto spanChecksSpec)

/-- 'sumpterlaw02.SpanCuts', WHERE WHAT IT READS IS OF BULK AT MOST 1048576: true; the input reads as it did. -/
def spanCutsUptoRow : OpenClaim := { program := "ytcahddipgocpfaa", sum := "5ec0708b65c9741e0d355d5d60cd3ec158f18848b8bfdbcebe32c860acfd371d", func := "sumpter/sumpterlaw02.SpanCuts", spec := "spanCuts", apart := false, narrowed := true }
def SpanCutsUptoSaid : Prop := spanCutsUptoRow.holds Try.pinned (OpenSpec.upto spanCutsSpec)

/-- 'sumpterlaw02.SpanPoints', WHERE WHAT IT READS IS OF BULK AT MOST 1048576: true; the input reads as it did. -/
def spanPointsUptoRow : OpenClaim := { program := "ytcahddipgocpfaa", sum := "5ec0708b65c9741e0d355d5d60cd3ec158f18848b8bfdbcebe32c860acfd371d", func := "sumpter/sumpterlaw02.SpanPoints", spec := "spanPoints", apart := false, narrowed := true }
def SpanPointsUptoSaid : Prop := spanPointsUptoRow.holds Try.pinned (OpenSpec.upto spanPointsSpec)

/-- 'sumpterlaw02.SpanParts', WHERE WHAT IT READS IS OF BULK AT MOST 1048576: true; the input reads as it did. -/
def spanPartsUptoRow : OpenClaim := { program := "ytcahddipgocpfaa", sum := "5ec0708b65c9741e0d355d5d60cd3ec158f18848b8bfdbcebe32c860acfd371d", func := "sumpter/sumpterlaw02.SpanParts", spec := "spanParts", apart := false, narrowed := true }
def SpanPartsUptoSaid : Prop := spanPartsUptoRow.holds Try.pinned (OpenSpec.upto spanPartsSpec)

/-- 'sumpterlaw02.SpanNext', WHERE WHAT IT READS IS OF BULK AT MOST 1048576: true; the input reads as it did. -/
def spanNextUptoRow : OpenClaim := { program := "ytcahddipgocpfaa", sum := "5ec0708b65c9741e0d355d5d60cd3ec158f18848b8bfdbcebe32c860acfd371d", func := "sumpter/sumpterlaw02.SpanNext", spec := "spanNext", apart := false, narrowed := true }
def SpanNextUptoSaid : Prop := spanNextUptoRow.holds Try.pinned (OpenSpec.upto spanNextSpec)

/-- 'sumpterlaw02.SpanMeets', WHERE WHAT IT READS IS OF BULK AT MOST 1048576: true; the input reads as it did. -/
def spanMeetsUptoRow : OpenClaim := { program := "ytcahddipgocpfaa", sum := "5ec0708b65c9741e0d355d5d60cd3ec158f18848b8bfdbcebe32c860acfd371d", func := "sumpter/sumpterlaw02.SpanMeets", spec := "spanMeets", apart := false, narrowed := true }
def SpanMeetsUptoSaid : Prop := spanMeetsUptoRow.holds Try.pinned (OpenSpec.upto spanMeetsSpec)

/-- 'sumpterlaw02.SpanBoth', WHERE WHAT IT READS IS OF BULK AT MOST 1048576: true; the input reads as it did. -/
def spanBothUptoRow : OpenClaim := { program := "ytcahddipgocpfaa", sum := "5ec0708b65c9741e0d355d5d60cd3ec158f18848b8bfdbcebe32c860acfd371d", func := "sumpter/sumpterlaw02.SpanBoth", spec := "spanBoth", apart := false, narrowed := true }
def SpanBothUptoSaid : Prop := spanBothUptoRow.holds Try.pinned (OpenSpec.upto spanBothSpec)

/-- 'sumpterlaw02.SpanWhole', WHERE WHAT IT READS IS OF BULK AT MOST 1048576: true; the input reads as it did. -/
def spanWholeUptoRow : OpenClaim := { program := "ytcahddipgocpfaa", sum := "5ec0708b65c9741e0d355d5d60cd3ec158f18848b8bfdbcebe32c860acfd371d", func := "sumpter/sumpterlaw02.SpanWhole", spec := "spanWhole", apart := false, narrowed := true }
def SpanWholeUptoSaid : Prop := spanWholeUptoRow.holds Try.pinned (OpenSpec.upto spanWholeSpec)

end Rows
end Go.Proofs.Ytcahddipgocpfaa
