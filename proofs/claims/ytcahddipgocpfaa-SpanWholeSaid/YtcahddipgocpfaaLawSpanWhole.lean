/- The row of the law SpanWhole: what the abstract machine says of it, told of the machine. -/
import Derived.Test.YtcahddipgocpfaaRows
import Derived.Test.YtcahddipgocpfaaSpLaws2
import Derived.Test.YtcahddipgocpfaaBArg
import Derived.Test.YtcahddipgocpfaaBSized
import Derived.Test.YtcahddipgocpfaaBPair
import Derived.WalkKit
import Derived.ProofKit
import Derived.OpenShut
import Derived.ShutString
import Derived.ChangeOld
import Derived.Below
import Derived.SizedLaws
namespace Go.Proofs.Ytcahddipgocpfaa.spanWhole
open Go.ChangeShapes Go.WideShapes Go.ChangeAt Go.RowKit
open Go.ChangeMaps (open_string shut_string)
open Go.Proofs.Ytcahddipgocpfaa.Ab (IsRow)
set_option linter.unusedVariables false
theorem own : ownKnob Try.prog.godebug = none := by kernel_rfl
theorem laidOut : laidOutB Try.prog = true := by kernel_rfl
set_option maxRecDepth 100000 in
theorem lifted (os : Os) (started : os.Started) (H : Type) (enc : TypeId × Value → H) :
    ReturnsInHanded {} Try.checked os 10 .any (Rows.spanWholeSpec.pre6 enc Try.prog Try.f10 Rows.spanWholeRow.domain false) (Rows.spanWholeSpec.post enc Try.prog Try.f10 false true false false) := by
  refine returnsInHanded_of_change_sized (C := Try.checked) own started (by kernel_rfl) Try.func10
    (ChangeSpec.witness6 (enc := enc) (C := Try.checked) false ⟨#[], #[.agg #[.string ByteArray.empty, .string ByteArray.empty], .agg #[.string ByteArray.empty, .string ByteArray.empty], .agg #[.string ByteArray.empty, .string ByteArray.empty], .string ByteArray.empty], []⟩ 8 (by kernel_rfl) (by kernel_rfl) (by kernel_rfl) (by kernel_rfl)) ?_
  intro W base args ds gs before hval0 hW hcnd hsz0 _
  have hsz : (DataW.weightsEach Try.prog (Try.f10.params.toList ++ Rows.spanWholeSpec.plain.varTypes Try.prog) (ds ++ gs)).all (· ≤ reachBytes) = true := hsz0
  have hval : ∀ (j : Nat) t v, Try.f10.params[j]? = some t → args[j]? = some v → Value.okWide Try.prog W .any base t v := hval0
  have hW' := hW
  obtain ⟨p, q, hA0, hV, rfl, hfz, hnd⟩ := hW
  have hA : DataW.TrodAll enc Try.prog W 0 (fun _ => true) true Try.f10.params.toList args.toList ds p := hA0
  rw [Try.params10] at hA hval hsz
  obtain ⟨v0, vs0, d0, ds0, p0, q0, hargs, rfl, rfl, h0, r0⟩ := trodAll_cons hA
  obtain ⟨v1, vs1, d1, ds1, p1, q1, rfl, rfl, rfl, h1, r1⟩ := trodAll_cons r0
  obtain ⟨v2, vs2, d2, ds2, p2, q2, rfl, rfl, rfl, h2, r2⟩ := trodAll_cons r1
  obtain ⟨v3, vs3, d3, ds3, p3, q3, rfl, rfl, rfl, h3, r3⟩ := trodAll_cons r2
  obtain ⟨rfl, rfl, rfl⟩ := trodAll_nil r3
  obtain rfl : args = #[v0, v1, v2, v3] := by cases args; simp_all
  obtain ⟨rfl, rfl⟩ := trodVars_none hV
  obtain ⟨a0, c0, rfl, rfl, rfl, w0, y0⟩ := Ab.open_pair Try.underlying23 rfl rfl Try.underlying9 Try.underlying9 (by kernel_rfl) (by kernel_rfl) (by kernel_rfl) (hval 0 23 v0 rfl rfl) h0
  obtain ⟨a1, c1, rfl, rfl, rfl, w1, y1⟩ := Ab.open_pair Try.underlying23 rfl rfl Try.underlying9 Try.underlying9 (by kernel_rfl) (by kernel_rfl) (by kernel_rfl) (hval 1 23 v1 rfl rfl) h1
  obtain ⟨a2, c2, rfl, rfl, rfl, w2, y2⟩ := Ab.open_pair Try.underlying23 rfl rfl Try.underlying9 Try.underlying9 (by kernel_rfl) (by kernel_rfl) (by kernel_rfl) (hval 2 23 v2 rfl rfl) h2
  obtain ⟨a3, rfl, rfl, rfl, y3⟩ := open_string Try.underlying9 (hval 3 9 v3 rfl rfl) h3
  have w3 : a3.size ≤ 140737488351232 := by
    have z := sized_string hsz (j := 3) (t := 9) rfl rfl
    rw [Array.length_toList] at z
    exact z
  clear hA0 hval0 hsz0 hsz
  obtain ⟨sE, hE⟩ := Ab.SpanWhole_law ⟨[]⟩ a0 c0 w0 y0 a1 c1 w1 y1 a2 c2 w2 y2 a3 w3
  refine (Ab.law_calls Ab.progOk Ab.lib18_ok hE Ab.law02_SpanWhole_ok (Ab.sim_nil W) (Ab.roB_own rfl) (args' := #[.agg #[.string a0, .string c0], .agg #[.string a1, .string c1], .agg #[.string a2, .string c2], .string a3]) ⟨(.va (.agg ⟨.l1 (.l0 (.string _)), .l1 (.l0 (.string _)), trivial⟩)), (.va (.agg ⟨.l1 (.l0 (.string _)), .l1 (.l0 (.string _)), trivial⟩)), (.va (.agg ⟨.l1 (.l0 (.string _)), .l1 (.l0 (.string _)), trivial⟩)), (.va (.l2 (.l1 (.l0 (.string _))))), trivial⟩).mono fun e W' ⟨he, bel⟩ => ?_
  subst he
  exact ⟨_, rfl, _, _, _, [], _, [], hW', trodAll_mk1 (shut_bool Try.underlying4 _), (trodAll_cons_mk (Ab.shut_pair Try.underlying23 rfl rfl Try.underlying9 Try.underlying9 (by kernel_rfl) (by kernel_rfl) (by kernel_rfl) w0 y0) (trodAll_cons_mk (Ab.shut_pair Try.underlying23 rfl rfl Try.underlying9 Try.underlying9 (by kernel_rfl) (by kernel_rfl) (by kernel_rfl) w1 y1) (trodAll_cons_mk (Ab.shut_pair Try.underlying23 rfl rfl Try.underlying9 Try.underlying9 (by kernel_rfl) (by kernel_rfl) (by kernel_rfl) w2 y2) (trodAll_cons_mk (shut_string Try.underlying9 y3) trodAll_mk0)))), rfl, bel.frame _, fun h => by cases h⟩
theorem over : Rows.spanWholeRow.holds Try.pinned (OpenSpec.ofChange Rows.spanWholeSpec) :=
  OpenClaim.holds_of_wide 10 Try.f10 rfl rfl rfl rfl rfl rfl rfl ⟨rfl, rfl, rfl, rfl, rfl⟩ rfl rfl rfl rfl rfl (by kernel_rfl) Try.func10 (by kernel_rfl)
    (of_decide_eq_true (by kernel_rfl)) (by unfold Func.isWrapper; first | (rw [if_pos (by decide +kernel)]; kernel_rfl) | (rw [if_neg (by decide +kernel)]; exact ⟨rfl, rfl⟩))
    (fun os started H enc _ => lifted os started H enc)
theorem proved : Rows.SpanWholeSaid := over
#print axioms proved
end Go.Proofs.Ytcahddipgocpfaa.spanWhole
namespace Go.Proofs.Ytcahddipgocpfaa
/-- The row, under a short name, for the claim. -/
theorem spanWhole_holds : Rows.SpanWholeSaid := spanWhole.proved
end Go.Proofs.Ytcahddipgocpfaa
