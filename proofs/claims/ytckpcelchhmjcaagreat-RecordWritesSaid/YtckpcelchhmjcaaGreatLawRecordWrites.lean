/- The row of the law RecordWrites: what the abstract machine says of it, told of the machine. -/
import Derived.Test.YtckpcelchhmjcaaGreatRows
import Derived.Test.YtckpcelchhmjcaaGreatPk7
import Derived.WalkKit
import Derived.ProofKit
import Derived.OpenShut
import Derived.ShutString
import Derived.ChangeOld
import Derived.Below
import Derived.SizedLaws
namespace Go.Proofs.YtckpcelchhmjcaaGreat.recordWrites
open Go.ChangeShapes Go.WideShapes Go.ChangeAt Go.RowKit
open Go.ChangeMaps (open_string shut_string)
open Go.Proofs.YtckpcelchhmjcaaGreat.Ab (IsRow)
set_option linter.unusedVariables false
theorem own : ownKnob Tryz.prog.godebug = none := by kernel_rfl
theorem laidOut : laidOutB Tryz.prog = true := by kernel_rfl
set_option maxRecDepth 100000 in
theorem lifted (os : Os) (started : os.Started) (H : Type) (enc : TypeId × Value → H) :
    ReturnsInHanded {} Tryz.checked os 3 .any (Rows.recordWritesSpec.pre6 enc Tryz.prog Tryz.f3 Rows.recordWritesRow.domain false) (Rows.recordWritesSpec.post enc Tryz.prog Tryz.f3 false true false false) := by
  refine returnsInHanded_of_change_sized (C := Tryz.checked) own started (by kernel_rfl) Tryz.func3
    (ChangeSpec.witness6 (enc := enc) (C := Tryz.checked) false ⟨#[], #[.agg #[.int .i64 0, .int .u64 0, .int .u64 0, .int .u64 0, .int .u64 0, .slice none 0 0, .slice none 0 0, .slice none 0 0, .int .u64 0, .int .u64 0, .string ByteArray.empty, .string ByteArray.empty, .int .u64 0, .int .u64 0, .int .u64 0, .string ByteArray.empty, .string ByteArray.empty], .agg #[.int .i64 0, .int .u64 0, .int .u64 0, .int .u64 0, .slice none 0 0, .slice none 0 0, .slice none 0 0]], []⟩ 8 (by kernel_rfl) (by kernel_rfl) (by kernel_rfl) (by kernel_rfl)) ?_
  intro W base args ds gs before hval0 hW hcnd hsz0 _
  have hsz : (DataW.weightsEach Tryz.prog (Tryz.f3.params.toList ++ Rows.recordWritesSpec.plain.varTypes Tryz.prog) (ds ++ gs)).all (· ≤ reachBytes) = true := hsz0
  have hval : ∀ (j : Nat) t v, Tryz.f3.params[j]? = some t → args[j]? = some v → Value.okWide Tryz.prog W .any base t v := hval0
  have hW' := hW
  obtain ⟨p, q, hA0, hV, rfl, hfz, hnd⟩ := hW
  have hA : DataW.TrodAll enc Tryz.prog W 0 (fun _ => true) true Tryz.f3.params.toList args.toList ds p := hA0
  rw [Tryz.params3] at hA hval hsz
  obtain ⟨v0, vs0, d0, ds0, p0, q0, hargs, rfl, rfl, h0, r0⟩ := trodAll_cons hA
  obtain ⟨v1, vs1, d1, ds1, p1, q1, rfl, rfl, rfl, h1, r1⟩ := trodAll_cons r0
  obtain ⟨rfl, rfl, rfl⟩ := trodAll_nil r1
  obtain rfl : args = #[v0, v1] := by cases args; simp_all
  obtain ⟨rfl, rfl⟩ := trodVars_none hV
  have k0 := h0
  have lt0 : ∀ x ∈ p0, x.block < W.heap.size := by obtain ⟨m, hm⟩ := k0; exact DataW.trod_lt m _ _ _ hm
  obtain ⟨c0, rfl, _⟩ := okWide_struct Tryz.underlying31 (hval 0 31 v0 rfl rfl)
  have n0 : Ab.OpensAt W Ab.sdN c0.toList := Ab.open_nest Ab.opens_sd h0 (Ab.nest_w hsz (j := 0) (t := 31) rfl rfl)
  have k1 := h1
  have lt1 : ∀ x ∈ p1, x.block < W.heap.size := by obtain ⟨m, hm⟩ := k1; exact DataW.trod_lt m _ _ _ hm
  obtain ⟨c1, rfl, _⟩ := okWide_struct Tryz.underlying35 (hval 1 35 v1 rfl rfl)
  have n1 : Ab.OpensAt W Ab.cdN c1.toList := Ab.open_nest Ab.opens_cd h1 (Ab.nest_w hsz (j := 1) (t := 35) rfl rfl)
  clear hA0 hval0 hsz0 hsz
  obtain ⟨a0, K0, u0, b0, e0, le0, s0, ro0, x0⟩ := Ab.sim_nest n0 (Ab.sim_nil W) rfl
  obtain ⟨a1, K1, u1, b1, e1, le1, s1, ro1, x1⟩ := Ab.sim_nest n1 s0 ro0
  obtain ⟨sE, hE⟩ := Ab.RecordWrites_law ⟨(([] ++ K0) ++ K1)⟩ _ _ (Ab.NArg.ext b0 (Ab.ext_app _ _)) _ _ b1
  refine (Ab.law_calls Ab.progOk Ab.libT_ok hE Ab.law19_RecordWrites_ok s1 (Ab.roB_own ro1) (args' := #[.agg c0, .agg c1]) ⟨(x0.mono le1), x1, trivial⟩).mono fun e W' ⟨he, bel⟩ => ?_
  subst he
  exact ⟨_, rfl, _, _, _, [], _, [], hW', trodAll_mk1 (shut_bool Tryz.underlying4 _), (trodAll_cons_mk (Below.trod laidOut (by kernel_rfl) (of_decide_eq_true (by kernel_rfl)) k0 bel lt0) (trodAll_cons_mk (Below.trod laidOut (by kernel_rfl) (of_decide_eq_true (by kernel_rfl)) k1 bel lt1) trodAll_mk0)), rfl, bel.frame _, fun h => by cases h⟩
theorem over : Rows.recordWritesRow.holds Tryz.pinned (OpenSpec.ofChange Rows.recordWritesSpec) :=
  OpenClaim.holds_of_wide 3 Tryz.f3 rfl rfl rfl rfl rfl rfl rfl ⟨rfl, rfl, rfl, rfl, rfl⟩ rfl rfl rfl rfl rfl (by kernel_rfl) Tryz.func3 (by kernel_rfl)
    (of_decide_eq_true (by kernel_rfl)) (by unfold Func.isWrapper; first | (rw [if_pos (by decide +kernel)]; kernel_rfl) | (rw [if_neg (by decide +kernel)]; exact ⟨rfl, rfl⟩))
    (fun os started H enc _ => lifted os started H enc)
theorem proved : Rows.RecordWritesSaid := over
#print axioms proved
end Go.Proofs.YtckpcelchhmjcaaGreat.recordWrites
namespace Go.Proofs.YtckpcelchhmjcaaGreat
/-- The row, under a short name, for the claim. -/
theorem recordWrites_holds : Rows.RecordWritesSaid := recordWrites.proved
end Go.Proofs.YtckpcelchhmjcaaGreat
