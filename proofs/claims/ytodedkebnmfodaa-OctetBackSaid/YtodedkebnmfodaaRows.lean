/-
  No cell of these rows narrows 'for every input' (looked for: loops, veiled, ifaces, maps, wideKeys, modest, calm, conditions, laid).
  DERIVED. THE GIVEN ROWS OF THIS SEAT. 9 by the template 'for every input the law returns true; each argument reads behind the call as it read before'; 0 by the template 'total and deterministic' (their statements: YtodedkebnmfodaaTotals.lean).
  GIVEN WITH THE SEED: the statements are not yours to turn. If you find one false, say at which input.
  Laid BY PROGRAM, IN A SANDBOX (cutbox-rows.mjs): the forced cells as the released guide's own fill.sh prints them over the translation ff7f3794116a166d… (all of the seat's roots in one cut). By AI agents, Wed Nov 11 2026. No macro, syntax, notation, axiom, sorry.
-/
import Derived.Test.YtodedkebnmfodaaChecked
import GoSem.Claim
import GoSem.ClaimJoined
import GoSem.ClaimMapViews
import Derived.JoinedTies
import Derived.KernelRfl
namespace Go.Proofs.Ytodedkebnmfodaa
/- THE CELL 'sum', in the pinned program and in every row, IS THE sha256 OF THE DUMP (.gsa) THAT YtodedkebnmfodaaProg.lean LOADS. Nothing in Lean hashes anything: it is a label: what it is worth is what the hold of that sum in a sandbox is worth. -/
noncomputable def Try.pinned : Pinned := { name := "ytodedkebnmfodaa", sum := "ff7f3794116a166d417431f3e27c473bd2b1eb0816080c16f998ae3cf3643fe4", checked := Try.checked }
namespace Rows
def none {H : Type} : Left H := { results := [], args := [] }

/-- 'sumpterlaw01.OctetNumbers': WHATEVER THE INPUT: true; the input reads as it did. -/
def octetNumbersSpec : ChangeSpec := { name := "octetNumbers", fn := fun _ => fun
  | [d1, d2] => { results := [.lit (.bool true)], args := [d1, d2] }
  | _ => none }
def octetNumbersRow : OpenClaim := { program := "ytodedkebnmfodaa", sum := "ff7f3794116a166d417431f3e27c473bd2b1eb0816080c16f998ae3cf3643fe4", func := "sumpter/sumpterlaw01.OctetNumbers", spec := "octetNumbers", recurses := true, apart := false }
def OctetNumbersSaid : Prop := octetNumbersRow.holds Try.pinned (OpenSpec.ofChange octetNumbersSpec)

/-- ITS FALSE NEIGHBOUR: 'it returns false'. Refute it at one input. -/
def octetNumbersWrong : ChangeSpec := { name := "octetNumbers", fn := fun _ => fun
  | [d1, d2] => { results := [.lit (.bool false)], args := [d1, d2] }
  | _ => none }
def OctetNumbersWrongFalsely : Prop := octetNumbersRow.holds Try.pinned (OpenSpec.ofChange octetNumbersWrong)

/-- 'sumpterlaw01.OctetSums': WHATEVER THE INPUT: true; the input reads as it did. -/
def octetSumsSpec : ChangeSpec := { name := "octetSums", fn := fun _ => fun
  | [d] => { results := [.lit (.bool true)], args := [d] }
  | _ => none }
def octetSumsRow : OpenClaim := { program := "ytodedkebnmfodaa", sum := "ff7f3794116a166d417431f3e27c473bd2b1eb0816080c16f998ae3cf3643fe4", func := "sumpter/sumpterlaw01.OctetSums", spec := "octetSums", apart := false }
def OctetSumsSaid : Prop := octetSumsRow.holds Try.pinned (OpenSpec.ofChange octetSumsSpec)

/-- ITS FALSE NEIGHBOUR: 'it returns false'. Refute it at one input. -/
def octetSumsWrong : ChangeSpec := { name := "octetSums", fn := fun _ => fun
  | [d] => { results := [.lit (.bool false)], args := [d] }
  | _ => none }
def OctetSumsWrongFalsely : Prop := octetSumsRow.holds Try.pinned (OpenSpec.ofChange octetSumsWrong)

/-- 'sumpterlaw01.OctetBursts': WHATEVER THE INPUT: true; the input reads as it did. -/
def octetBurstsSpec : ChangeSpec := { name := "octetBursts", fn := fun _ => fun
  | [d1, d2, d3] => { results := [.lit (.bool true)], args := [d1, d2, d3] }
  | _ => none }
def octetBurstsRow : OpenClaim := { program := "ytodedkebnmfodaa", sum := "ff7f3794116a166d417431f3e27c473bd2b1eb0816080c16f998ae3cf3643fe4", func := "sumpter/sumpterlaw01.OctetBursts", spec := "octetBursts", apart := false }
def OctetBurstsSaid : Prop := octetBurstsRow.holds Try.pinned (OpenSpec.ofChange octetBurstsSpec)

/-- ITS FALSE NEIGHBOUR: 'it returns false'. Refute it at one input. -/
def octetBurstsWrong : ChangeSpec := { name := "octetBursts", fn := fun _ => fun
  | [d1, d2, d3] => { results := [.lit (.bool false)], args := [d1, d2, d3] }
  | _ => none }
def OctetBurstsWrongFalsely : Prop := octetBurstsRow.holds Try.pinned (OpenSpec.ofChange octetBurstsWrong)

/-- 'sumpterlaw01.OctetOrder': WHATEVER THE INPUT: true; the input reads as it did. -/
def octetOrderSpec : ChangeSpec := { name := "octetOrder", fn := fun _ => fun
  | [d1, d2] => { results := [.lit (.bool true)], args := [d1, d2] }
  | _ => none }
def octetOrderRow : OpenClaim := { program := "ytodedkebnmfodaa", sum := "ff7f3794116a166d417431f3e27c473bd2b1eb0816080c16f998ae3cf3643fe4", func := "sumpter/sumpterlaw01.OctetOrder", spec := "octetOrder", apart := false }
def OctetOrderSaid : Prop := octetOrderRow.holds Try.pinned (OpenSpec.ofChange octetOrderSpec)

/-- ITS FALSE NEIGHBOUR: 'it returns false'. Refute it at one input. -/
def octetOrderWrong : ChangeSpec := { name := "octetOrder", fn := fun _ => fun
  | [d1, d2] => { results := [.lit (.bool false)], args := [d1, d2] }
  | _ => none }
def OctetOrderWrongFalsely : Prop := octetOrderRow.holds Try.pinned (OpenSpec.ofChange octetOrderWrong)

/-- 'sumpterlaw01.OctetParts': WHATEVER THE INPUT: true; the input reads as it did. -/
def octetPartsSpec : ChangeSpec := { name := "octetParts", fn := fun _ => fun
  | [d1, d2, d3] => { results := [.lit (.bool true)], args := [d1, d2, d3] }
  | _ => none }
def octetPartsRow : OpenClaim := { program := "ytodedkebnmfodaa", sum := "ff7f3794116a166d417431f3e27c473bd2b1eb0816080c16f998ae3cf3643fe4", func := "sumpter/sumpterlaw01.OctetParts", spec := "octetParts", apart := false }
def OctetPartsSaid : Prop := octetPartsRow.holds Try.pinned (OpenSpec.ofChange octetPartsSpec)

/-- ITS FALSE NEIGHBOUR: 'it returns false'. Refute it at one input. -/
def octetPartsWrong : ChangeSpec := { name := "octetParts", fn := fun _ => fun
  | [d1, d2, d3] => { results := [.lit (.bool false)], args := [d1, d2, d3] }
  | _ => none }
def OctetPartsWrongFalsely : Prop := octetPartsRow.holds Try.pinned (OpenSpec.ofChange octetPartsWrong)

/-- 'sumpterlaw01.OctetTexts': WHATEVER THE INPUT: true; the input reads as it did. -/
def octetTextsSpec : ChangeSpec := { name := "octetTexts", fn := fun _ => fun
  | [d1, d2, d3] => { results := [.lit (.bool true)], args := [d1, d2, d3] }
  | _ => none }
def octetTextsRow : OpenClaim := { program := "ytodedkebnmfodaa", sum := "ff7f3794116a166d417431f3e27c473bd2b1eb0816080c16f998ae3cf3643fe4", func := "sumpter/sumpterlaw01.OctetTexts", spec := "octetTexts", recurses := true, apart := false }
def OctetTextsSaid : Prop := octetTextsRow.holds Try.pinned (OpenSpec.ofChange octetTextsSpec)

/-- ITS FALSE NEIGHBOUR: 'it returns false'. Refute it at one input. -/
def octetTextsWrong : ChangeSpec := { name := "octetTexts", fn := fun _ => fun
  | [d1, d2, d3] => { results := [.lit (.bool false)], args := [d1, d2, d3] }
  | _ => none }
def OctetTextsWrongFalsely : Prop := octetTextsRow.holds Try.pinned (OpenSpec.ofChange octetTextsWrong)

/-- 'sumpterlaw01.OctetBack': WHATEVER THE INPUT: true; the input reads as it did. -/
def octetBackSpec : ChangeSpec := { name := "octetBack", fn := fun _ => fun
  | [d1, d2, d3] => { results := [.lit (.bool true)], args := [d1, d2, d3] }
  | _ => none }
def octetBackRow : OpenClaim := { program := "ytodedkebnmfodaa", sum := "ff7f3794116a166d417431f3e27c473bd2b1eb0816080c16f998ae3cf3643fe4", func := "sumpter/sumpterlaw01.OctetBack", spec := "octetBack", apart := false }
def OctetBackSaid : Prop := octetBackRow.holds Try.pinned (OpenSpec.ofChange octetBackSpec)

/-- ITS FALSE NEIGHBOUR: 'it returns false'. Refute it at one input. -/
def octetBackWrong : ChangeSpec := { name := "octetBack", fn := fun _ => fun
  | [d1, d2, d3] => { results := [.lit (.bool false)], args := [d1, d2, d3] }
  | _ => none }
def OctetBackWrongFalsely : Prop := octetBackRow.holds Try.pinned (OpenSpec.ofChange octetBackWrong)

/-- 'sumpterlaw01.OctetFixed': WHATEVER THE INPUT: true; the input reads as it did. -/
def octetFixedSpec : ChangeSpec := { name := "octetFixed", fn := fun _ => fun
  | [d1, d2] => { results := [.lit (.bool true)], args := [d1, d2] }
  | _ => none }
def octetFixedRow : OpenClaim := { program := "ytodedkebnmfodaa", sum := "ff7f3794116a166d417431f3e27c473bd2b1eb0816080c16f998ae3cf3643fe4", func := "sumpter/sumpterlaw01.OctetFixed", spec := "octetFixed", apart := false }
def OctetFixedSaid : Prop := octetFixedRow.holds Try.pinned (OpenSpec.ofChange octetFixedSpec)

/-- ITS FALSE NEIGHBOUR: 'it returns false'. Refute it at one input. -/
def octetFixedWrong : ChangeSpec := { name := "octetFixed", fn := fun _ => fun
  | [d1, d2] => { results := [.lit (.bool false)], args := [d1, d2] }
  | _ => none }
def OctetFixedWrongFalsely : Prop := octetFixedRow.holds Try.pinned (OpenSpec.ofChange octetFixedWrong)

/-- 'sumpterlaw01.OctetCuts': WHATEVER THE INPUT: true; the input reads as it did. -/
def octetCutsSpec : ChangeSpec := { name := "octetCuts", fn := fun _ => fun
  | [d1, d2] => { results := [.lit (.bool true)], args := [d1, d2] }
  | _ => none }
def octetCutsRow : OpenClaim := { program := "ytodedkebnmfodaa", sum := "ff7f3794116a166d417431f3e27c473bd2b1eb0816080c16f998ae3cf3643fe4", func := "sumpter/sumpterlaw01.OctetCuts", spec := "octetCuts", apart := false }
def OctetCutsSaid : Prop := octetCutsRow.holds Try.pinned (OpenSpec.ofChange octetCutsSpec)

/-- ITS FALSE NEIGHBOUR: 'it returns false'. Refute it at one input. -/
def octetCutsWrong : ChangeSpec := { name := "octetCuts", fn := fun _ => fun
  | [d1, d2] => { results := [.lit (.bool false)], args := [d1, d2] }
  | _ => none }
def OctetCutsWrongFalsely : Prop := octetCutsRow.holds Try.pinned (OpenSpec.ofChange octetCutsWrong)

/- THE SECOND FORM. 'bulk': how many values and letters a reading holds, each counted each time it is reached (what is shared counts as often as it is met; a slice's spare places count too). A statement '..UptoSaid' is the law's where the arguments, and the package variables that the reading takes, are together of bulk at most 1048576: NARROWER than '..Said'. Prove '..Said' where nothing that the law and all that it calls make is longer than what came in: it says more and counts as full. Else prove '..UptoSaid'. A law counts once. -/
mutual
def uptoBulk {H : Type} : DataW H → Nat
  | .lit (.string bytes) => bytes.length + 1
  | .lit _ => 1
  | .nil => 1
  | .ptr d => uptoBulk d + 1
  | .slice elems spare => uptoBulkAll elems + uptoBulkAll spare + 1
  | .agg parts => uptoBulkAll parts + 1
  | .iface _ d => uptoBulk d + 1
  | .map entries => uptoBulkEntries entries + 1
  | .held _ => 1
def uptoBulkAll {H : Type} : List (DataW H) → Nat
  | [] => 0
  | d :: r => uptoBulk d + uptoBulkAll r
def uptoBulkEntries {H : Type} : List (Lit × DataW H) → Nat
  | [] => 0
  | x :: r => uptoBulkEntry x + uptoBulkEntries r
def uptoBulkEntry {H : Type} : Lit × DataW H → Nat
  | (.string bytes, d) => bytes.length + uptoBulk d + 1
  | (_, d) => uptoBulk d + 1
 end
def uptoSmall : (H : Type) → List (DataW H) → Bool := fun _ ds => decide (uptoBulkAll ds ≤ 1048576)
def OpenSpec.upto (s : _root_.Go.ChangeSpec) : _root_.Go.OpenSpec := { _root_.Go.OpenSpec.ofChange s with cond := some uptoSmall }

/-- 'sumpterlaw01.OctetNumbers', WHERE WHAT IT READS IS OF BULK AT MOST 1048576: true; the input reads as it did. -/
def octetNumbersUptoRow : OpenClaim := { program := "ytodedkebnmfodaa", sum := "ff7f3794116a166d417431f3e27c473bd2b1eb0816080c16f998ae3cf3643fe4", func := "sumpter/sumpterlaw01.OctetNumbers", spec := "octetNumbers", recurses := true, apart := false, narrowed := true }
def OctetNumbersUptoSaid : Prop := octetNumbersUptoRow.holds Try.pinned (OpenSpec.upto octetNumbersSpec)

/-- 'sumpterlaw01.OctetSums', WHERE WHAT IT READS IS OF BULK AT MOST 1048576: true; the input reads as it did. -/
def octetSumsUptoRow : OpenClaim := { program := "ytodedkebnmfodaa", sum := "ff7f3794116a166d417431f3e27c473bd2b1eb0816080c16f998ae3cf3643fe4", func := "sumpter/sumpterlaw01.OctetSums", spec := "octetSums", apart := false, narrowed := true }
def OctetSumsUptoSaid : Prop := octetSumsUptoRow.holds Try.pinned (OpenSpec.upto octetSumsSpec)

/-- 'sumpterlaw01.OctetBursts', WHERE WHAT IT READS IS OF BULK AT MOST 1048576: true; the input reads as it did. -/
def octetBurstsUptoRow : OpenClaim := { program := "ytodedkebnmfodaa", sum := "ff7f3794116a166d417431f3e27c473bd2b1eb0816080c16f998ae3cf3643fe4", func := "sumpter/sumpterlaw01.OctetBursts", spec := "octetBursts", apart := false, narrowed := true }
def OctetBurstsUptoSaid : Prop := octetBurstsUptoRow.holds Try.pinned (OpenSpec.upto octetBurstsSpec)

/-- 'sumpterlaw01.OctetOrder', WHERE WHAT IT READS IS OF BULK AT MOST 1048576: true; the input reads as it did. -/
def octetOrderUptoRow : OpenClaim := { program := "ytodedkebnmfodaa", sum := "ff7f3794116a166d417431f3e27c473bd2b1eb0816080c16f998ae3cf3643fe4", func := "sumpter/sumpterlaw01.OctetOrder", spec := "octetOrder", apart := false, narrowed := true }
def OctetOrderUptoSaid : Prop := octetOrderUptoRow.holds Try.pinned (OpenSpec.upto octetOrderSpec)

/-- 'sumpterlaw01.OctetParts', WHERE WHAT IT READS IS OF BULK AT MOST 1048576: true; the input reads as it did. -/
def octetPartsUptoRow : OpenClaim := { program := "ytodedkebnmfodaa", sum := "ff7f3794116a166d417431f3e27c473bd2b1eb0816080c16f998ae3cf3643fe4", func := "sumpter/sumpterlaw01.OctetParts", spec := "octetParts", apart := false, narrowed := true }
def OctetPartsUptoSaid : Prop := octetPartsUptoRow.holds Try.pinned (OpenSpec.upto octetPartsSpec)

/-- 'sumpterlaw01.OctetTexts', WHERE WHAT IT READS IS OF BULK AT MOST 1048576: true; the input reads as it did. -/
def octetTextsUptoRow : OpenClaim := { program := "ytodedkebnmfodaa", sum := "ff7f3794116a166d417431f3e27c473bd2b1eb0816080c16f998ae3cf3643fe4", func := "sumpter/sumpterlaw01.OctetTexts", spec := "octetTexts", recurses := true, apart := false, narrowed := true }
def OctetTextsUptoSaid : Prop := octetTextsUptoRow.holds Try.pinned (OpenSpec.upto octetTextsSpec)

/-- 'sumpterlaw01.OctetBack', WHERE WHAT IT READS IS OF BULK AT MOST 1048576: true; the input reads as it did. -/
def octetBackUptoRow : OpenClaim := { program := "ytodedkebnmfodaa", sum := "ff7f3794116a166d417431f3e27c473bd2b1eb0816080c16f998ae3cf3643fe4", func := "sumpter/sumpterlaw01.OctetBack", spec := "octetBack", apart := false, narrowed := true }
def OctetBackUptoSaid : Prop := octetBackUptoRow.holds Try.pinned (OpenSpec.upto octetBackSpec)

/-- 'sumpterlaw01.OctetFixed', WHERE WHAT IT READS IS OF BULK AT MOST 1048576: true; the input reads as it did. -/
def octetFixedUptoRow : OpenClaim := { program := "ytodedkebnmfodaa", sum := "ff7f3794116a166d417431f3e27c473bd2b1eb0816080c16f998ae3cf3643fe4", func := "sumpter/sumpterlaw01.OctetFixed", spec := "octetFixed", apart := false, narrowed := true }
def OctetFixedUptoSaid : Prop := octetFixedUptoRow.holds Try.pinned (OpenSpec.upto octetFixedSpec)

/-- 'sumpterlaw01.OctetCuts', WHERE WHAT IT READS IS OF BULK AT MOST 1048576: true; the input reads as it did. -/
def octetCutsUptoRow : OpenClaim := { program := "ytodedkebnmfodaa", sum := "ff7f3794116a166d417431f3e27c473bd2b1eb0816080c16f998ae3cf3643fe4", func := "sumpter/sumpterlaw01.OctetCuts", spec := "octetCuts", apart := false, narrowed := true }
def OctetCutsUptoSaid : Prop := octetCutsUptoRow.holds Try.pinned (OpenSpec.upto octetCutsSpec)

end Rows
end Go.Proofs.Ytodedkebnmfodaa
