/- A law's arguments: operations, pairs, lists of them. -/
import Derived.Test.YtamaapapaiopiaaOpLists
import Derived.Test.YtamaapapaiopiaaBArgL
import Derived.ChangeSame
import Derived.WideShapes
set_option linter.unusedVariables false
set_option linter.unusedSimpArgs false
set_option linter.unusedSectionVars false
namespace Go.Proofs.Ytamaapapaiopiaa.Ab
open Go Go.ChangeShapes Go.WideShapes
set_option maxRecDepth 100000

theorem cl_int : Try.prog.cellsOf 3 = 1 := by kernel_rfl
theorem cl_str : Try.prog.cellsOf 9 = 1 := by kernel_rfl
theorem el_pair {H : Type} {enc : TypeId × Value → H} {W : World} {base : Nat} {sp : Nat → Bool} {held : Bool} {n : Nat} {cs : List Value} {y : DataW H × List MemPlace} (h : DataW.trod enc Try.prog W base sp held n 45 cs = some y) : ∃ a : Rg, cs = prC.enc a := by
  obtain ⟨xs, m, _, rfl, hl, hlen, hf⟩ := DataW.trod_struct Try.underlying45 h
  have c : Try.prog.cellsOf 45 = 2 := by kernel_rfl
  rw [c] at hl
  match xs, hlen, cs, hl with
  | [y0, y1], _, [c0, c1], _ =>
    have t0 : DataW.trod enc Try.prog W base sp held m 9 (([c0, c1].drop 0).take (Try.prog.cellsOf 9)) = some y0 := hf 0 _ rfl
    have t1 : DataW.trod enc Try.prog W base sp held m 9 (([c0, c1].drop 1).take (Try.prog.cellsOf 9)) = some y1 := hf 1 _ rfl
    rw [cl_str] at t0 t1
    simp only [List.drop_succ_cons, List.drop_zero, List.take_succ_cons, List.take_zero] at t0 t1
    obtain ⟨a, e0, _, _⟩ := DataW.trod_string Try.underlying9 t0
    obtain ⟨b, e1, _, _⟩ := DataW.trod_string Try.underlying9 t1
    simp only [List.cons.injEq, and_true] at e0 e1
    subst e0 e1
    refine ⟨(a.data.toList, b.data.toList), ?_⟩
    show _ = [sv _, sv _]
    rw [← sv_of, ← sv_of]
theorem el_op {H : Type} {enc : TypeId × Value → H} {W : World} {base : Nat} {sp : Nat → Bool} {held : Bool} {n : Nat} {cs : List Value} {y : DataW H × List MemPlace} (h : DataW.trod enc Try.prog W base sp held n 64 cs = some y) : ∃ o : OpT, cs = opC.enc o := by
  obtain ⟨xs, m, _, rfl, hl, hlen, hf⟩ := DataW.trod_struct Try.underlying64 h
  have c : Try.prog.cellsOf 64 = 6 := by kernel_rfl
  rw [c] at hl
  match xs, hlen, cs, hl with
  | [y0, y1, y2, y3, y4, y5], _, [c0, c1, c2, c3, c4, c5], _ =>
    have t0 : DataW.trod enc Try.prog W base sp held m 3 (([c0, c1, c2, c3, c4, c5].drop 0).take (Try.prog.cellsOf 3)) = some y0 := hf 0 _ rfl
    have t1 : DataW.trod enc Try.prog W base sp held m 9 (([c0, c1, c2, c3, c4, c5].drop 1).take (Try.prog.cellsOf 9)) = some y1 := hf 1 _ rfl
    have t2 : DataW.trod enc Try.prog W base sp held m 9 (([c0, c1, c2, c3, c4, c5].drop 2).take (Try.prog.cellsOf 9)) = some y2 := hf 2 _ rfl
    have t3 : DataW.trod enc Try.prog W base sp held m 9 (([c0, c1, c2, c3, c4, c5].drop 3).take (Try.prog.cellsOf 9)) = some y3 := hf 3 _ rfl
    have t4 : DataW.trod enc Try.prog W base sp held m 9 (([c0, c1, c2, c3, c4, c5].drop 4).take (Try.prog.cellsOf 9)) = some y4 := hf 4 _ rfl
    have t5 : DataW.trod enc Try.prog W base sp held m 3 (([c0, c1, c2, c3, c4, c5].drop 5).take (Try.prog.cellsOf 3)) = some y5 := hf 5 _ rfl
    rw [cl_int] at t0 t5
    rw [cl_str] at t1 t2 t3 t4
    simp only [List.drop_succ_cons, List.drop_zero, List.take_succ_cons, List.take_zero] at t0 t1 t2 t3 t4 t5
    obtain ⟨k, e0, _, _⟩ := DataW.trod_int Try.underlying3 t0
    obtain ⟨s1, e1, _, _⟩ := DataW.trod_string Try.underlying9 t1
    obtain ⟨s2, e2, _, _⟩ := DataW.trod_string Try.underlying9 t2
    obtain ⟨s3, e3, _, _⟩ := DataW.trod_string Try.underlying9 t3
    obtain ⟨s4, e4, _, _⟩ := DataW.trod_string Try.underlying9 t4
    obtain ⟨k5, e5, _, _⟩ := DataW.trod_int Try.underlying3 t5
    simp only [List.cons.injEq, and_true] at e0 e1 e2 e3 e4 e5
    subst e0 e1 e2 e3 e4 e5
    refine ⟨⟨k, s1.data.toList, s2.data.toList, s3.data.toList, s4.data.toList, k5⟩, ?_⟩
    show _ = [_, sv _, sv _, sv _, sv _, _]
    rw [← sv_of, ← sv_of, ← sv_of, ← sv_of]
theorem open_op {H : Type} {enc : TypeId × Value → H} {W : World} {base : Nat} {sp : Nat → Bool} {held : Bool} {r : Reach} {b0 : Nat} {v : Value} {d : DataW H} {ps : List MemPlace} (hval : Value.okWide Try.prog W r b0 64 v) (hd : DataW.Trod enc Try.prog W base sp held 64 v d ps) : ∃ o : OpT, v = oV o := by
  obtain ⟨cs, rfl, hcs⟩ := okWide_struct Try.underlying64 hval
  obtain ⟨fuel, hf⟩ := hd
  obtain ⟨o, ho⟩ := el_op hf
  refine ⟨o, ?_⟩
  have : cs.toList = oC o := ho
  rw [oV_eq, ← this]
theorem op_rel {κ : Emb} (o : OpT) : VRel κ (oV o) (oV o) := .va (.agg ⟨.l1 (.l0 (.int _ _)), .l1 (.l0 (.string _)), .l1 (.l0 (.string _)), .l1 (.l0 (.string _)), .l1 (.l0 (.string _)), .l1 (.l0 (.int _ _)), trivial⟩)

end Go.Proofs.Ytamaapapaiopiaa.Ab
