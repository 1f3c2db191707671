/- A law's arguments: lists of texts. -/
import Derived.Test.YthnjkakmkmoceaaBuWhole
import Derived.Test.YthnjkakmkmoceaaOpArg
set_option linter.unusedVariables false
set_option linter.unusedSimpArgs false
set_option linter.unusedSectionVars false
namespace Go.Proofs.Ythnjkakmkmoceaa.Ab
open Go Go.ChangeShapes Go.WideShapes

theorem el_str {H : Type} {enc : TypeId × Value → H} {W : World} {base : Nat} {sp : Nat → Bool} {held : Bool} {n : Nat} {cs : List Value} {y : DataW H × List MemPlace} (h : DataW.trod enc Try.prog W base sp held n 9 cs = some y) : ∃ a : BL, cs = strC.enc a := by
  cases n with
  | zero => cases h
  | succ n =>
    obtain ⟨a, e, _, _⟩ := DataW.trod_string Try.underlying9 h
    subst e
    refine ⟨a.data.toList, ?_⟩
    show _ = [sv _]
    rw [← sv_of]

end Go.Proofs.Ythnjkakmkmoceaa.Ab
