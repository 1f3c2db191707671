/- The row of the law OpParts: what the abstract machine says of it, told of the machine. -/
import Derived.Test.YtdhadhelcpeiaaaRows
import Derived.Test.YtdhadhelcpeiaaaOpLawB
import Derived.Test.YtdhadhelcpeiaaaBArg
import Derived.Test.YtdhadhelcpeiaaaBSized
import Derived.Test.YtdhadhelcpeiaaaOpArg
import Derived.WalkKit
import Derived.ProofKit
import Derived.OpenShut
import Derived.ShutString
import Derived.ChangeOld
import Derived.Below
import Derived.SizedLaws
namespace Go.Proofs.Ytdhadhelcpeiaaa.opParts
open Go.ChangeShapes Go.WideShapes Go.ChangeAt Go.RowKit
open Go.ChangeMaps (open_string shut_string)
open Go.Proofs.Ytdhadhelcpeiaaa.Ab (IsRow)
set_option linter.unusedVariables false
theorem own : ownKnob Try.prog.godebug = none := by kernel_rfl
theorem laidOut : laidOutB Try.prog = true := by kernel_rfl
set_option maxRecDepth 100000 in
theorem lifted (os : Os) (started : os.Started) (H : Type) (enc : TypeId × Value → H) :
    ReturnsInHanded {} Try.checked os 4 .any (Rows.opPartsSpec.pre6 enc Try.prog Try.f4 Rows.opPartsRow.domain false) (Rows.opPartsSpec.post enc Try.prog Try.f4 false true false false) := by
  refine returnsInHanded_of_change_sized (C := Try.checked) own started (by kernel_rfl) Try.func4
    (ChangeSpec.witness6 (enc := enc) (C := Try.checked) false ⟨#[], #[.slice none 0 0, .slice none 0 0, .int .i64 0], []⟩ 8 (by kernel_rfl) (by kernel_rfl) (by kernel_rfl) (by kernel_rfl)) ?_
  intro W base args ds gs before hval0 hW hcnd hsz0 _
  have hsz : (DataW.weightsEach Try.prog (Try.f4.params.toList ++ Rows.opPartsSpec.plain.varTypes Try.prog) (ds ++ gs)).all (· ≤ reachBytes) = true := hsz0
  have hval : ∀ (j : Nat) t v, Try.f4.params[j]? = some t → args[j]? = some v → Value.okWide Try.prog W .any base t v := hval0
  have hW' := hW
  obtain ⟨p, q, hA0, hV, rfl, hfz, hnd⟩ := hW
  have hA : DataW.TrodAll enc Try.prog W 0 (fun _ => true) true Try.f4.params.toList args.toList ds p := hA0
  rw [Try.params4] at hA hval hsz
  obtain ⟨v0, vs0, d0, ds0, p0, q0, hargs, rfl, rfl, h0, r0⟩ := trodAll_cons hA
  obtain ⟨v1, vs1, d1, ds1, p1, q1, rfl, rfl, rfl, h1, r1⟩ := trodAll_cons r0
  obtain ⟨v2, vs2, d2, ds2, p2, q2, rfl, rfl, rfl, h2, r2⟩ := trodAll_cons r1
  obtain ⟨rfl, rfl, rfl⟩ := trodAll_nil r2
  obtain rfl : args = #[v0, v1, v2] := by cases args; simp_all
  obtain ⟨rfl, rfl⟩ := trodVars_none hV
  obtain ⟨a0, len0, cap0, rfl⟩ := okWide_slice Try.underlying22 (hval 0 22 v0 rfl rfl)
  have k0 := h0
  have lt0 : ∀ x ∈ p0, x.block < W.heap.size := by obtain ⟨m, hm⟩ := k0; exact DataW.trod_lt m _ _ _ hm
  have w0 : Ab.IsList Ab.prC W a0 len0 cap0 := Ab.open_list (C := Ab.prC) Try.underlying22 (by kernel_rfl) (fun n cs y hh => Ab.el_pair hh) h0
  have y0 : len0 * 32 ≤ 140737488351232 := Ab.sized_list (C := Ab.prC) hsz (j := 0) (t := 22) rfl rfl Try.underlying22 (by kernel_rfl) h0
  obtain ⟨a1, len1, cap1, rfl⟩ := okWide_slice Try.underlying23 (hval 1 23 v1 rfl rfl)
  have k1 := h1
  have lt1 : ∀ x ∈ p1, x.block < W.heap.size := by obtain ⟨m, hm⟩ := k1; exact DataW.trod_lt m _ _ _ hm
  have w1 : Ab.IsList Ab.opC W a1 len1 cap1 := Ab.open_list (C := Ab.opC) Try.underlying23 (by kernel_rfl) (fun n cs y hh => Ab.el_op hh) h1
  have y1 : len1 * 80 ≤ 140737488351232 := Ab.sized_list (C := Ab.opC) hsz (j := 1) (t := 23) rfl rfl Try.underlying23 (by kernel_rfl) h1
  obtain ⟨a2, rfl, rfl, rfl, w2⟩ := open_int Try.underlying3 (hval 2 3 v2 rfl rfl) h2
  clear hA0 hval0 hsz0 hsz
  obtain ⟨u0, B0, l0, b0, e0, le0, s0, ro0, x0⟩ := Ab.sim_list (Ab.sim_nil W) rfl w0
  obtain ⟨u1, B1, l1, b1, e1, le1, s1, ro1, x1⟩ := Ab.sim_list s0 ro0 w1
  obtain ⟨sE, hE⟩ := Ab.OpParts_law ⟨(([] ++ [B0]) ++ [B1])⟩ _ _ (Ab.list_more b0) (by omega) _ _ b1 (by omega) a2 w2
  refine (Ab.law_calls Ab.progOk Ab.libT_ok hE Ab.law04_OpParts_ok s1 (Ab.roB_own ro1) (args' := #[.slice a0 len0 cap0, .slice a1 len1 cap1, .int .i64 a2]) ⟨(x0.mono le1), x1, (.va (.l2 (.l1 (.l0 (.int _ _))))), trivial⟩).mono fun e W' ⟨he, bel⟩ => ?_
  subst he
  exact ⟨_, rfl, _, _, _, [], _, [], hW', trodAll_mk1 (shut_bool Try.underlying4 _), (trodAll_cons_mk (Below.trod laidOut (by kernel_rfl) (of_decide_eq_true (by kernel_rfl)) k0 bel lt0) (trodAll_cons_mk (Below.trod laidOut (by kernel_rfl) (of_decide_eq_true (by kernel_rfl)) k1 bel lt1) (trodAll_cons_mk (shut_int Try.underlying3 w2) trodAll_mk0))), rfl, bel.frame _, fun h => by cases h⟩
theorem over : Rows.opPartsRow.holds Try.pinned (OpenSpec.ofChange Rows.opPartsSpec) :=
  OpenClaim.holds_of_wide 4 Try.f4 rfl rfl rfl rfl rfl rfl rfl ⟨rfl, rfl, rfl, rfl, rfl⟩ rfl rfl rfl rfl rfl (by kernel_rfl) Try.func4 (by kernel_rfl)
    (of_decide_eq_true (by kernel_rfl)) (by unfold Func.isWrapper; first | (rw [if_pos (by decide +kernel)]; kernel_rfl) | (rw [if_neg (by decide +kernel)]; exact ⟨rfl, rfl⟩))
    (fun os started H enc _ => lifted os started H enc)
theorem proved : Rows.OpPartsSaid := over
#print axioms proved
end Go.Proofs.Ytdhadhelcpeiaaa.opParts
namespace Go.Proofs.Ytdhadhelcpeiaaa
/-- The row, under a short name, for the claim. -/
theorem opParts_holds : Rows.OpPartsSaid := opParts.proved
end Go.Proofs.Ytdhadhelcpeiaaa
