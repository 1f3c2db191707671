/- A law's arguments: lists of entries. -/
import Derived.Test.YtamaapapaiopiaaEntVal
import Derived.Test.YtamaapapaiopiaaOpArg
set_option linter.unusedVariables false
set_option linter.unusedSimpArgs false
set_option linter.unusedSectionVars false
namespace Go.Proofs.Ytamaapapaiopiaa.Ab
open Go Go.ChangeShapes Go.WideShapes

theorem cl_u64 : Try.prog.cellsOf 62 = 1 := by kernel_rfl
theorem cl_op : Try.prog.cellsOf 64 = 6 := by kernel_rfl
set_option maxRecDepth 100000 in
theorem el_en {H : Type} {enc : TypeId × Value → H} {W : World} {base : Nat} {sp : Nat → Bool} {held : Bool} {n : Nat} {cs : List Value} {y : DataW H × List MemPlace} (h : DataW.trod enc Try.prog W base sp held n 66 cs = some y) : ∃ a : En, cs = enC.enc a := by
  obtain ⟨xs, m, _, rfl, hl, hlen, hf⟩ := DataW.trod_struct Try.underlying66 h
  have c : Try.prog.cellsOf 66 = 7 := by kernel_rfl
  rw [c] at hl
  match xs, hlen, cs, hl with
  | [y0, y1], _, [c0, c1, c2, c3, c4, c5, c6], _ =>
    have t0 : DataW.trod enc Try.prog W base sp held m 62 (([c0, c1, c2, c3, c4, c5, c6].drop 0).take (Try.prog.cellsOf 62)) = some y0 := hf 0 _ rfl
    have t1 : DataW.trod enc Try.prog W base sp held m 64 (([c0, c1, c2, c3, c4, c5, c6].drop 1).take (Try.prog.cellsOf 64)) = some y1 := hf 1 _ rfl
    rw [cl_u64] at t0
    rw [cl_op] at t1
    simp only [List.drop_succ_cons, List.drop_zero, List.take_succ_cons, List.take_zero] at t0 t1
    obtain ⟨k, e0, _, _⟩ := DataW.trod_int Try.underlying62 t0
    obtain ⟨o, e1⟩ := el_op t1
    simp only [List.cons.injEq, and_true] at e0
    subst e0
    exact ⟨(k, o), by rw [e1]; rfl⟩

end Go.Proofs.Ytamaapapaiopiaa.Ab
