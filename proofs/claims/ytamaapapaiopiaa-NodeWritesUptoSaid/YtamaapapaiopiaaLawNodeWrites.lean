/- The row of the law NodeWrites: what the abstract machine says of it, told of the machine. -/
import Derived.Test.YtamaapapaiopiaaRows
import Derived.Test.YtamaapapaiopiaaPk7
import Derived.WalkKit
import Derived.ProofKit
import Derived.OpenShut
import Derived.ShutString
import Derived.ChangeOld
import Derived.Below
import Derived.SizedLaws
import Derived.JoinedCond
import Derived.Deep.CondSized
namespace Go.Proofs.Ytamaapapaiopiaa.nodeWrites
open Go.ChangeShapes Go.WideShapes Go.ChangeAt Go.RowKit
open Go.ChangeMaps (open_string shut_string)
open Go.Proofs.Ytamaapapaiopiaa.Ab (IsRow)
set_option linter.unusedVariables false
theorem own : ownKnob Try.prog.godebug = none := by kernel_rfl
theorem laidOut : laidOutB Try.prog = true := by kernel_rfl
set_option maxRecDepth 100000 in
theorem lifted (os : Os) (started : os.Started) (H : Type) (enc : TypeId × Value → H) (F : Stop.Interp) :
    ReturnsInHanded {} Try.checked os 5 .any ((Rows.OpenSpec.upto Rows.nodeWritesSpec).pre6 enc Try.prog Try.f5 Rows.nodeWritesUptoRow.domain false) (((Rows.OpenSpec.upto Rows.nodeWritesSpec).at F).post enc Try.prog Try.f5 false true false false) := by
  refine returnsInHanded_of_cond_sized (C := Try.checked) (s := Rows.OpenSpec.upto Rows.nodeWritesSpec) (k := Rows.uptoSmall) rfl own started (by kernel_rfl) Try.func5
    (OpenSpec.witness (enc := enc) (C := Try.checked) (s := Rows.OpenSpec.upto Rows.nodeWritesSpec) (k := Rows.uptoSmall) rfl false ⟨#[], #[.agg #[.bool false, .slice none 0 0, .slice none 0 0, .slice none 0 0, .slice none 0 0], .string ByteArray.empty], []⟩ 8 (by kernel_rfl) (by kernel_rfl) (by kernel_rfl) (x := ([.agg [.lit (.bool false), .nil, .nil, .nil, .nil], .lit (.string [])], [], [])) (by kernel_rfl) rfl (by kernel_rfl)) ?_
  intro W base args ds gs before hval0 hW hcnd hk hsz0 _
  show Calls _ _ _ _ fun e W' => ∃ v, e = .returned v ∧ Rows.nodeWritesSpec.post enc Try.prog Try.f5 false true false false W args v W'
  replace hW : DataW.Whole enc Try.prog Try.f5.params.toList Rows.nodeWritesSpec.vars false W args.toList ds gs before := hW
  have hsz : (DataW.weightsEach Try.prog (Try.f5.params.toList ++ Rows.nodeWritesSpec.plain.varTypes Try.prog) (ds ++ gs)).all (· ≤ reachBytes) = true := hsz0
  have hval : ∀ (j : Nat) t v, Try.f5.params[j]? = some t → args[j]? = some v → Value.okWide Try.prog W .any base t v := hval0
  have hW' := hW
  obtain ⟨p, q, hA0, hV, rfl, hfz, hnd⟩ := hW
  have hA : DataW.TrodAll enc Try.prog W 0 (fun _ => true) true Try.f5.params.toList args.toList ds p := hA0
  rw [Try.params5] at hA hval hsz
  obtain ⟨v0, vs0, d0, ds0, p0, q0, hargs, rfl, rfl, h0, r0⟩ := trodAll_cons hA
  obtain ⟨v1, vs1, d1, ds1, p1, q1, rfl, rfl, rfl, h1, r1⟩ := trodAll_cons r0
  obtain ⟨rfl, rfl, rfl⟩ := trodAll_nil r1
  obtain rfl : args = #[v0, v1] := by cases args; simp_all
  obtain ⟨rfl, rfl⟩ := trodVars_none hV
  have q0 : Rows.uptoBulk d0 ≤ 1048576 := Nat.le_trans (Ab.bulk_part (by simp)) (Ab.bulk_bound hk)
  have k0 := h0
  have lt0 : ∀ x ∈ p0, x.block < W.heap.size := by obtain ⟨m, hm⟩ := k0; exact DataW.trod_lt m _ _ _ hm
  obtain ⟨c0, rfl, _⟩ := okWide_struct Try.underlying29 (hval 0 29 v0 rfl rfl)
  have n0 := Ab.open_nestM Ab.opensM_node h0 (Ab.nest_w hsz (j := 0) (t := 29) rfl rfl)
  obtain ⟨a1, rfl, rfl, rfl, y1⟩ := open_string Try.underlying9 (hval 1 9 v1 rfl rfl) h1
  have w1 : a1.size ≤ 140737488351232 := by
    have z := sized_string hsz (j := 1) (t := 9) rfl rfl
    rw [Array.length_toList] at z
    exact z
  clear hA0 hval0 hsz0 hsz
  obtain ⟨a0, K0, u0, b0, e0, le0, s0, ro0, x0⟩ := Ab.sim_nestM n0 (Ab.sim_nil W) rfl
  obtain ⟨sE, hE⟩ := Ab.NodeWrites_law ⟨([] ++ K0)⟩ _ _ b0.1 (Nat.le_trans b0.2 q0) a1 w1
  refine (Ab.law_calls Ab.progOk Ab.libT_ok hE Ab.law13_NodeWrites_ok s0 (Ab.roB_own ro0) (args' := #[.agg c0, .string a1]) ⟨x0, (.va (.l2 (.l1 (.l0 (.string _))))), trivial⟩).mono fun e W' ⟨he, bel⟩ => ?_
  subst he
  exact ⟨_, rfl, _, _, _, [], _, [], hW', trodAll_mk1 (shut_bool Try.underlying4 _), (trodAll_cons_mk (Below.trod laidOut (by kernel_rfl) (of_decide_eq_true (by kernel_rfl)) k0 bel lt0) (trodAll_cons_mk (shut_string Try.underlying9 y1) trodAll_mk0)), rfl, bel.frame _, fun h => by cases h⟩
theorem over : Rows.nodeWritesUptoRow.holds Try.pinned (Rows.OpenSpec.upto Rows.nodeWritesSpec) :=
  OpenClaim.holds_of_cond 5 Try.f5 rfl rfl rfl rfl rfl rfl rfl ⟨rfl, rfl, rfl, rfl, rfl⟩ rfl rfl rfl rfl rfl (by kernel_rfl) Try.func5 (by kernel_rfl)
    (of_decide_eq_true (by kernel_rfl)) (by unfold Func.isWrapper; first | (rw [if_pos (by decide +kernel)]; kernel_rfl) | (rw [if_neg (by decide +kernel)]; exact ⟨rfl, rfl⟩))
    (fun os started H enc _ F => lifted os started H enc F)
theorem proved : Rows.NodeWritesUptoSaid := over
#print axioms proved
end Go.Proofs.Ytamaapapaiopiaa.nodeWrites
namespace Go.Proofs.Ytamaapapaiopiaa
/-- The row, under a short name, for the claim. -/
theorem nodeWrites_holds : Rows.NodeWritesUptoSaid := nodeWrites.proved
end Go.Proofs.Ytamaapapaiopiaa
