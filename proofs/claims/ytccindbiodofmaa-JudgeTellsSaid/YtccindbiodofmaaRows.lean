/-
  No cell of these rows narrows 'for every input' (looked for: loops, veiled, ifaces, maps, wideKeys, modest, calm, conditions, laid).
  DERIVED. THE GIVEN ROWS OF THIS SEAT. 5 by the template 'for every input the law returns true; each argument reads behind the call as it read before'; 0 by the template 'total and deterministic' (their statements: YtccindbiodofmaaTotals.lean).
  GIVEN WITH THE SEED: the statements are not yours to turn. If you find one false, say at which input.
  Laid BY PROGRAM, IN A SANDBOX (cutbox-rows.mjs): the forced cells as the released guide's own fill.sh prints them over the translation 29280b568775cb37… (all of the seat's roots in one cut). By AI agents, Wed Nov 11 2026. No macro, syntax, notation, axiom, sorry.
-/
import Derived.Test.YtccindbiodofmaaChecked
import GoSem.Claim
import GoSem.ClaimJoined
import GoSem.ClaimMapViews
import Derived.JoinedTies
import Derived.KernelRfl
namespace Go.Proofs.Ytccindbiodofmaa
/- THE CELL 'sum', in the pinned program and in every row, IS THE sha256 OF THE DUMP (.gsa) THAT YtccindbiodofmaaProg.lean LOADS. Nothing in Lean hashes anything: it is a label: what it is worth is what the hold of that sum in a sandbox is worth. -/
noncomputable def Try.pinned : Pinned := { name := "ytccindbiodofmaa", sum := "29280b568775cb371192c48409a01d1d2d13b316798eb98003a4cb88808dfcdd", checked := Try.checked }
namespace Rows
def none {H : Type} : Left H := { results := [], args := [] }

/-- 'sumpterlaw23.JudgeTells': WHATEVER THE INPUT: true; the input reads as it did. -/
def judgeTellsSpec : ChangeSpec := { name := "judgeTells", fn := fun _ => fun
  | [d] => { results := [.lit (.bool true)], args := [d] }
  | _ => none }
def judgeTellsRow : OpenClaim := { program := "ytccindbiodofmaa", sum := "29280b568775cb371192c48409a01d1d2d13b316798eb98003a4cb88808dfcdd", func := "sumpter/sumpterlaw23.JudgeTells", spec := "judgeTells", inPlace := ["internal/bytealg.abigen_runtime_cmpstring", "slices.overlaps[sumpter/api.Pair]"], unfollowed := true, recurses := true, plainKeys := false, apart := false }
def JudgeTellsSaid : Prop := judgeTellsRow.holds Try.pinned (OpenSpec.ofChange judgeTellsSpec)

/-- ITS FALSE NEIGHBOUR: 'it returns false'. Refute it at one input. -/
def judgeTellsWrong : ChangeSpec := { name := "judgeTells", fn := fun _ => fun
  | [d] => { results := [.lit (.bool false)], args := [d] }
  | _ => none }
def JudgeTellsWrongFalsely : Prop := judgeTellsRow.holds Try.pinned (OpenSpec.ofChange judgeTellsWrong)

/-- 'sumpterlaw23.JudgeBegins': WHATEVER THE INPUT: true; the input reads as it did. -/
def judgeBeginsSpec : ChangeSpec := { name := "judgeBegins", fn := fun _ => fun
  | [d1, d2] => { results := [.lit (.bool true)], args := [d1, d2] }
  | _ => none }
def judgeBeginsRow : OpenClaim := { program := "ytccindbiodofmaa", sum := "29280b568775cb371192c48409a01d1d2d13b316798eb98003a4cb88808dfcdd", func := "sumpter/sumpterlaw23.JudgeBegins", spec := "judgeBegins", inPlace := ["internal/bytealg.abigen_runtime_cmpstring", "slices.overlaps[sumpter/api.Pair]"], unfollowed := true, recurses := true, plainKeys := false, apart := false }
def JudgeBeginsSaid : Prop := judgeBeginsRow.holds Try.pinned (OpenSpec.ofChange judgeBeginsSpec)

/-- ITS FALSE NEIGHBOUR: 'it returns false'. Refute it at one input. -/
def judgeBeginsWrong : ChangeSpec := { name := "judgeBegins", fn := fun _ => fun
  | [d1, d2] => { results := [.lit (.bool false)], args := [d1, d2] }
  | _ => none }
def JudgeBeginsWrongFalsely : Prop := judgeBeginsRow.holds Try.pinned (OpenSpec.ofChange judgeBeginsWrong)

/-- 'sumpterlaw23.JudgeForgets': WHATEVER THE INPUT: true; the input reads as it did. -/
def judgeForgetsSpec : ChangeSpec := { name := "judgeForgets", fn := fun _ => fun
  | [d] => { results := [.lit (.bool true)], args := [d] }
  | _ => none }
def judgeForgetsRow : OpenClaim := { program := "ytccindbiodofmaa", sum := "29280b568775cb371192c48409a01d1d2d13b316798eb98003a4cb88808dfcdd", func := "sumpter/sumpterlaw23.JudgeForgets", spec := "judgeForgets", inPlace := ["internal/bytealg.abigen_runtime_cmpstring", "slices.overlaps[sumpter/api.Pair]"], unfollowed := true, recurses := true, plainKeys := false, apart := false }
def JudgeForgetsSaid : Prop := judgeForgetsRow.holds Try.pinned (OpenSpec.ofChange judgeForgetsSpec)

/-- ITS FALSE NEIGHBOUR: 'it returns false'. Refute it at one input. -/
def judgeForgetsWrong : ChangeSpec := { name := "judgeForgets", fn := fun _ => fun
  | [d] => { results := [.lit (.bool false)], args := [d] }
  | _ => none }
def JudgeForgetsWrongFalsely : Prop := judgeForgetsRow.holds Try.pinned (OpenSpec.ofChange judgeForgetsWrong)

/-- 'sumpterlaw23.JudgeMore': WHATEVER THE INPUT: true; the input reads as it did. -/
def judgeMoreSpec : ChangeSpec := { name := "judgeMore", fn := fun _ => fun
  | [d1, d2] => { results := [.lit (.bool true)], args := [d1, d2] }
  | _ => none }
def judgeMoreRow : OpenClaim := { program := "ytccindbiodofmaa", sum := "29280b568775cb371192c48409a01d1d2d13b316798eb98003a4cb88808dfcdd", func := "sumpter/sumpterlaw23.JudgeMore", spec := "judgeMore", inPlace := ["internal/bytealg.abigen_runtime_cmpstring", "slices.overlaps[sumpter/api.Pair]"], unfollowed := true, recurses := true, plainKeys := false, apart := false }
def JudgeMoreSaid : Prop := judgeMoreRow.holds Try.pinned (OpenSpec.ofChange judgeMoreSpec)

/-- ITS FALSE NEIGHBOUR: 'it returns false'. Refute it at one input. -/
def judgeMoreWrong : ChangeSpec := { name := "judgeMore", fn := fun _ => fun
  | [d1, d2] => { results := [.lit (.bool false)], args := [d1, d2] }
  | _ => none }
def JudgeMoreWrongFalsely : Prop := judgeMoreRow.holds Try.pinned (OpenSpec.ofChange judgeMoreWrong)

/-- 'sumpterlaw23.JudgeTurns': WHATEVER THE INPUT: true; the input reads as it did. -/
def judgeTurnsSpec : ChangeSpec := { name := "judgeTurns", fn := fun _ => fun
  | [d1, d2] => { results := [.lit (.bool true)], args := [d1, d2] }
  | _ => none }
def judgeTurnsRow : OpenClaim := { program := "ytccindbiodofmaa", sum := "29280b568775cb371192c48409a01d1d2d13b316798eb98003a4cb88808dfcdd", func := "sumpter/sumpterlaw23.JudgeTurns", spec := "judgeTurns", inPlace := ["internal/bytealg.abigen_runtime_cmpstring", "slices.overlaps[sumpter/api.Pair]"], unfollowed := true, recurses := true, plainKeys := false, apart := false }
def JudgeTurnsSaid : Prop := judgeTurnsRow.holds Try.pinned (OpenSpec.ofChange judgeTurnsSpec)

/-- ITS FALSE NEIGHBOUR: 'it returns false'. Refute it at one input. -/
def judgeTurnsWrong : ChangeSpec := { name := "judgeTurns", fn := fun _ => fun
  | [d1, d2] => { results := [.lit (.bool false)], args := [d1, d2] }
  | _ => none }
def JudgeTurnsWrongFalsely : Prop := judgeTurnsRow.holds Try.pinned (OpenSpec.ofChange judgeTurnsWrong)

/- THE SECOND FORM. 'bulk': how many values and letters a reading holds, each counted each time it is reached (what is shared counts as often as it is met; a slice's spare places count too). A statement '..UptoSaid' is the law's where the arguments, and the package variables that the reading takes, are together of bulk at most 1048576: NARROWER than '..Said'. Prove '..Said' where nothing that the law and all that it calls make is longer than what came in: it says more and counts as full. Else prove '..UptoSaid'. A law counts once. -/
mutual
def uptoBulk {H : Type} : DataW H → Nat
  | .lit (.string bytes) => bytes.length + 1
  | .lit _ => 1
  | .nil => 1
  | .ptr d => uptoBulk d + 1
  | .slice elems spare => uptoBulkAll elems + uptoBulkAll spare + 1
  | .agg parts => uptoBulkAll parts + 1
  | .iface _ d => uptoBulk d + 1
  | .map entries => uptoBulkEntries entries + 1
  | .held _ => 1
def uptoBulkAll {H : Type} : List (DataW H) → Nat
  | [] => 0
  | d :: r => uptoBulk d + uptoBulkAll r
def uptoBulkEntries {H : Type} : List (Lit × DataW H) → Nat
  | [] => 0
  | x :: r => uptoBulkEntry x + uptoBulkEntries r
def uptoBulkEntry {H : Type} : Lit × DataW H → Nat
  | (.string bytes, d) => bytes.length + uptoBulk d + 1
  | (_, d) => uptoBulk d + 1
 end
def uptoSmall : (H : Type) → List (DataW H) → Bool := fun _ ds => decide (uptoBulkAll ds ≤ 1048576)
def OpenSpec.upto (s : _root_.Go.ChangeSpec) : _root_.Go.OpenSpec := { _root_.Go.OpenSpec.ofChange s with cond := some uptoSmall }

/-- 'sumpterlaw23.JudgeTells', WHERE WHAT IT READS IS OF BULK AT MOST 1048576: true; the input reads as it did. -/
def judgeTellsUptoRow : OpenClaim := { program := "ytccindbiodofmaa", sum := "29280b568775cb371192c48409a01d1d2d13b316798eb98003a4cb88808dfcdd", func := "sumpter/sumpterlaw23.JudgeTells", spec := "judgeTells", inPlace := ["internal/bytealg.abigen_runtime_cmpstring", "slices.overlaps[sumpter/api.Pair]"], unfollowed := true, recurses := true, plainKeys := false, apart := false, narrowed := true }
def JudgeTellsUptoSaid : Prop := judgeTellsUptoRow.holds Try.pinned (OpenSpec.upto judgeTellsSpec)

/-- 'sumpterlaw23.JudgeBegins', WHERE WHAT IT READS IS OF BULK AT MOST 1048576: true; the input reads as it did. -/
def judgeBeginsUptoRow : OpenClaim := { program := "ytccindbiodofmaa", sum := "29280b568775cb371192c48409a01d1d2d13b316798eb98003a4cb88808dfcdd", func := "sumpter/sumpterlaw23.JudgeBegins", spec := "judgeBegins", inPlace := ["internal/bytealg.abigen_runtime_cmpstring", "slices.overlaps[sumpter/api.Pair]"], unfollowed := true, recurses := true, plainKeys := false, apart := false, narrowed := true }
def JudgeBeginsUptoSaid : Prop := judgeBeginsUptoRow.holds Try.pinned (OpenSpec.upto judgeBeginsSpec)

/-- 'sumpterlaw23.JudgeForgets', WHERE WHAT IT READS IS OF BULK AT MOST 1048576: true; the input reads as it did. -/
def judgeForgetsUptoRow : OpenClaim := { program := "ytccindbiodofmaa", sum := "29280b568775cb371192c48409a01d1d2d13b316798eb98003a4cb88808dfcdd", func := "sumpter/sumpterlaw23.JudgeForgets", spec := "judgeForgets", inPlace := ["internal/bytealg.abigen_runtime_cmpstring", "slices.overlaps[sumpter/api.Pair]"], unfollowed := true, recurses := true, plainKeys := false, apart := false, narrowed := true }
def JudgeForgetsUptoSaid : Prop := judgeForgetsUptoRow.holds Try.pinned (OpenSpec.upto judgeForgetsSpec)

/-- 'sumpterlaw23.JudgeMore', WHERE WHAT IT READS IS OF BULK AT MOST 1048576: true; the input reads as it did. -/
def judgeMoreUptoRow : OpenClaim := { program := "ytccindbiodofmaa", sum := "29280b568775cb371192c48409a01d1d2d13b316798eb98003a4cb88808dfcdd", func := "sumpter/sumpterlaw23.JudgeMore", spec := "judgeMore", inPlace := ["internal/bytealg.abigen_runtime_cmpstring", "slices.overlaps[sumpter/api.Pair]"], unfollowed := true, recurses := true, plainKeys := false, apart := false, narrowed := true }
def JudgeMoreUptoSaid : Prop := judgeMoreUptoRow.holds Try.pinned (OpenSpec.upto judgeMoreSpec)

/-- 'sumpterlaw23.JudgeTurns', WHERE WHAT IT READS IS OF BULK AT MOST 1048576: true; the input reads as it did. -/
def judgeTurnsUptoRow : OpenClaim := { program := "ytccindbiodofmaa", sum := "29280b568775cb371192c48409a01d1d2d13b316798eb98003a4cb88808dfcdd", func := "sumpter/sumpterlaw23.JudgeTurns", spec := "judgeTurns", inPlace := ["internal/bytealg.abigen_runtime_cmpstring", "slices.overlaps[sumpter/api.Pair]"], unfollowed := true, recurses := true, plainKeys := false, apart := false, narrowed := true }
def JudgeTurnsUptoSaid : Prop := judgeTurnsUptoRow.holds Try.pinned (OpenSpec.upto judgeTurnsSpec)

end Rows
end Go.Proofs.Ytccindbiodofmaa
