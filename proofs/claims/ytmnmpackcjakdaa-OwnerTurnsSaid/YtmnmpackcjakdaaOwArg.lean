/- A law's arguments: lists of owners. -/
import Derived.Test.YtmnmpackcjakdaaOwVal
import Derived.Test.YtmnmpackcjakdaaBArgL
import Derived.ChangeSame
import Derived.WideShapes
set_option linter.unusedVariables false
set_option linter.unusedSimpArgs false
set_option linter.unusedSectionVars false
namespace Go.Proofs.Ytmnmpackcjakdaa.Ab
open Go Go.ChangeShapes Go.WideShapes

theorem cl_intW : Try.prog.cellsOf 3 = 1 := by kernel_rfl
theorem cl_strW : Try.prog.cellsOf 9 = 1 := by kernel_rfl
set_option maxRecDepth 100000 in
theorem el_ow {H : Type} {enc : TypeId × Value → H} {W : World} {base : Nat} {sp : Nat → Bool} {held : Bool} {n : Nat} {cs : List Value} {y : DataW H × List MemPlace} (h : DataW.trod enc Try.prog W base sp held n 30 cs = some y) : ∃ a : Ow, cs = owC.enc a := by
  obtain ⟨xs, m, _, rfl, hl, hlen, hf⟩ := DataW.trod_struct Try.underlying30 h
  have c : Try.prog.cellsOf 30 = 2 := by kernel_rfl
  rw [c] at hl
  match xs, hlen, cs, hl with
  | [y0, y1], _, [c0, c1], _ =>
    have t0 : DataW.trod enc Try.prog W base sp held m 9 (([c0, c1].drop 0).take (Try.prog.cellsOf 9)) = some y0 := hf 0 _ rfl
    have t1 : DataW.trod enc Try.prog W base sp held m 3 (([c0, c1].drop 1).take (Try.prog.cellsOf 3)) = some y1 := hf 1 _ rfl
    rw [cl_strW] at t0
    rw [cl_intW] at t1
    simp only [List.drop_succ_cons, List.drop_zero, List.take_succ_cons, List.take_zero] at t0 t1
    obtain ⟨a, e0, _, _⟩ := DataW.trod_string Try.underlying9 t0
    obtain ⟨b, e1, _, _⟩ := DataW.trod_int Try.underlying3 t1
    simp only [List.cons.injEq, and_true] at e0 e1
    subst e0 e1
    refine ⟨(a.data.toList, b), ?_⟩
    show _ = [sv _, _]
    rw [← sv_of]

end Go.Proofs.Ytmnmpackcjakdaa.Ab
