/- The row of the law NodeSizes: what the abstract machine says of it, told of the machine. -/
import Derived.Test.YtamaapapaiopiaaRows
import Derived.Test.YtamaapapaiopiaaPk7
import Derived.WalkKit
import Derived.ProofKit
import Derived.OpenShut
import Derived.ShutString
import Derived.ChangeOld
import Derived.Below
import Derived.SizedLaws
import Derived.JoinedCond
import Derived.Deep.CondSized
namespace Go.Proofs.Ytamaapapaiopiaa.nodeSizes
open Go.ChangeShapes Go.WideShapes Go.ChangeAt Go.RowKit
open Go.ChangeMaps (open_string shut_string)
open Go.Proofs.Ytamaapapaiopiaa.Ab (IsRow)
set_option linter.unusedVariables false
theorem own : ownKnob Try.prog.godebug = none := by kernel_rfl
theorem laidOut : laidOutB Try.prog = true := by kernel_rfl
set_option maxRecDepth 100000 in
theorem lifted (os : Os) (started : os.Started) (H : Type) (enc : TypeId × Value → H) (F : Stop.Interp) :
    ReturnsInHanded {} Try.checked os 6 .any ((Rows.OpenSpec.upto Rows.nodeSizesSpec).pre6 enc Try.prog Try.f6 Rows.nodeSizesUptoRow.domain false) (((Rows.OpenSpec.upto Rows.nodeSizesSpec).at F).post enc Try.prog Try.f6 false true false false) := by
  refine returnsInHanded_of_cond_sized (C := Try.checked) (s := Rows.OpenSpec.upto Rows.nodeSizesSpec) (k := Rows.uptoSmall) rfl own started (by kernel_rfl) Try.func6
    (OpenSpec.witness (enc := enc) (C := Try.checked) (s := Rows.OpenSpec.upto Rows.nodeSizesSpec) (k := Rows.uptoSmall) rfl false ⟨#[], #[.agg #[.bool false, .slice none 0 0, .slice none 0 0, .slice none 0 0, .slice none 0 0]], []⟩ 8 (by kernel_rfl) (by kernel_rfl) (by kernel_rfl) (x := ([.agg [.lit (.bool false), .nil, .nil, .nil, .nil]], [], [])) (by kernel_rfl) rfl (by kernel_rfl)) ?_
  intro W base args ds gs before hval0 hW hcnd hk hsz0 _
  show Calls _ _ _ _ fun e W' => ∃ v, e = .returned v ∧ Rows.nodeSizesSpec.post enc Try.prog Try.f6 false true false false W args v W'
  replace hW : DataW.Whole enc Try.prog Try.f6.params.toList Rows.nodeSizesSpec.vars false W args.toList ds gs before := hW
  have hsz : (DataW.weightsEach Try.prog (Try.f6.params.toList ++ Rows.nodeSizesSpec.plain.varTypes Try.prog) (ds ++ gs)).all (· ≤ reachBytes) = true := hsz0
  have hval : ∀ (j : Nat) t v, Try.f6.params[j]? = some t → args[j]? = some v → Value.okWide Try.prog W .any base t v := hval0
  have hW' := hW
  obtain ⟨p, q, hA0, hV, rfl, hfz, hnd⟩ := hW
  have hA : DataW.TrodAll enc Try.prog W 0 (fun _ => true) true Try.f6.params.toList args.toList ds p := hA0
  rw [Try.params6] at hA hval hsz
  obtain ⟨v0, vs0, d0, ds0, p0, q0, hargs, rfl, rfl, h0, r0⟩ := trodAll_cons hA
  obtain ⟨rfl, rfl, rfl⟩ := trodAll_nil r0
  obtain rfl : args = #[v0] := by cases args; simp_all
  obtain ⟨rfl, rfl⟩ := trodVars_none hV
  have q0 : Rows.uptoBulk d0 ≤ 1048576 := Nat.le_trans (Ab.bulk_part (by simp)) (Ab.bulk_bound hk)
  have k0 := h0
  have lt0 : ∀ x ∈ p0, x.block < W.heap.size := by obtain ⟨m, hm⟩ := k0; exact DataW.trod_lt m _ _ _ hm
  obtain ⟨c0, rfl, _⟩ := okWide_struct Try.underlying29 (hval 0 29 v0 rfl rfl)
  have n0 := Ab.open_nestM Ab.opensM_node h0 (Ab.nest_w hsz (j := 0) (t := 29) rfl rfl)
  clear hA0 hval0 hsz0 hsz
  obtain ⟨a0, K0, u0, b0, e0, le0, s0, ro0, x0⟩ := Ab.sim_nestM n0 (Ab.sim_nil W) rfl
  obtain ⟨sE, hE⟩ := Ab.NodeSizes_law ⟨([] ++ K0)⟩ _ _ b0.1 (Nat.le_trans b0.2 q0)
  refine (Ab.law_calls Ab.progOk Ab.libT_ok hE Ab.law13_NodeSizes_ok s0 (Ab.roB_own ro0) (args' := #[.agg c0]) ⟨x0, trivial⟩).mono fun e W' ⟨he, bel⟩ => ?_
  subst he
  exact ⟨_, rfl, _, _, _, [], _, [], hW', trodAll_mk1 (shut_bool Try.underlying4 _), (trodAll_cons_mk (Below.trod laidOut (by kernel_rfl) (of_decide_eq_true (by kernel_rfl)) k0 bel lt0) trodAll_mk0), rfl, bel.frame _, fun h => by cases h⟩
theorem over : Rows.nodeSizesUptoRow.holds Try.pinned (Rows.OpenSpec.upto Rows.nodeSizesSpec) :=
  OpenClaim.holds_of_cond 6 Try.f6 rfl rfl rfl rfl rfl rfl rfl ⟨rfl, rfl, rfl, rfl, rfl⟩ rfl rfl rfl rfl rfl (by kernel_rfl) Try.func6 (by kernel_rfl)
    (of_decide_eq_true (by kernel_rfl)) (by unfold Func.isWrapper; first | (rw [if_pos (by decide +kernel)]; kernel_rfl) | (rw [if_neg (by decide +kernel)]; exact ⟨rfl, rfl⟩))
    (fun os started H enc _ F => lifted os started H enc F)
theorem proved : Rows.NodeSizesUptoSaid := over
#print axioms proved
end Go.Proofs.Ytamaapapaiopiaa.nodeSizes
namespace Go.Proofs.Ytamaapapaiopiaa
/-- The row, under a short name, for the claim. -/
theorem nodeSizes_holds : Rows.NodeSizesUptoSaid := nodeSizes.proved
end Go.Proofs.Ytamaapapaiopiaa
