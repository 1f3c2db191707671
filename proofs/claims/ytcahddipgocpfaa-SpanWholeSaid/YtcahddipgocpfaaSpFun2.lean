/- Keys and ranges: what the functions do, further. -/
import Derived.Test.YtcahddipgocpfaaSpFun
set_option linter.unusedVariables false
set_option linter.unusedSimpArgs false
set_option linter.unusedSectionVars false
namespace Go.Proofs.Ytcahddipgocpfaa.Ab
open Go

theorem z_rv : (Value.agg #[.string ⟨#[]⟩, .string ⟨#[]⟩]) = rv ([], []) := rfl
theorem box_rv (r : Rg) : lbox (rv r) = some (rv r) := rfl
theorem ld_rv (r : Rg) : lload true 2 lptr (rv r) = some (rv r) := rfl
theorem ad_0 : afieldAddr 0 lptr = some (.pointer (some ⟨0, 0, none⟩)) := rfl
theorem ad_1 : afieldAddr 1 lptr = some (.pointer (some ⟨0, 1, none⟩)) := rfl
theorem ld_0 (r : Rg) : lload false 1 lptr (rv r) = some (sv r.1) := rfl
theorem ld_00 (r : Rg) : lload false 1 (.pointer (some ⟨0, 0, none⟩)) (rv r) = some (sv r.1) := rfl
theorem z_rv2 : (Value.agg #[sv [], sv []]) = rv ([], []) := rfl
theorem ld_1 (r : Rg) : lload false 1 (.pointer (some ⟨0, 1, none⟩)) (rv r) = some (sv r.2) := rfl
theorem own_id {α : Type} {s : St} {a : α} : ownR s (a, s) = some (a, s) := by unfold ownR; rw [if_pos (Nat.le_refl _)]
theorem all_run {R : Caller} (s : St) : span_all R s = some (rv ([], []), s) := rfl

theorem geq_bl {P : Program} {t : TypeId} {o1 o2 : Operand} {a b : BL} : abin P .geq t o1 o2 (sv a) (sv b) = some (.bool (!bl a b)) := e_sgeq
theorem Check_run {R : Caller} (hR : ∀ s, R 26 [] s = some (rv ([], []), s)) (r : Rg) (s : St) : span_Check R (rv r) s = some (.int .i64 (eR r), s) := by
  obtain ⟨a, b⟩ := r
  unfold span_Check
  simp only [z_rv, z_rv2, box_rv, ld_rv, span_all_call, hR, own_id, rv_eql, ad_0, ad_1, ld_0, ld_1, nil_sv, e_lenV, len12, e_sneq, geq_bl, Option.bind_some, Option.map_some, getL_0, getL_1, getL_2, getL_3, getL_4, getL_5, getL_6, getL_7, getL_8, getL_9, getL_10, getL_11, getL_12, condV_t, condV_f, guardV_tt, guardV_ff, guardV_tf, guardV_ft, guardV_u, apick_t, apick_f, exV_exit, exV_ret, lookE_same, joinK_eq, seqA_n, seqA_e, seqA_r, e_add, e_sub, e_mul, e_eql, e_neq, e_lss, e_leq, e_gtr, e_geq, e_conv, e_not, e_neg, and_guard, or_guard]
  unfold eR ckR
  by_cases h0 : a = [] ∧ b = []
  · obtain ⟨rfl, rfl⟩ := h0
    rfl
  · have e0 : (a == [] && b == []) = false := by
      cases h1 : (a == []) <;> cases h2 : (b == []) <;> simp_all
    simp only [e0, Option.bind_some, Option.map_some, getL_0, getL_1, getL_2, getL_3, getL_4, getL_5, getL_6, getL_7, getL_8, getL_9, getL_10, getL_11, getL_12, condV_t, condV_f, guardV_tt, guardV_ff, guardV_tf, guardV_ft, guardV_u, apick_t, apick_f, exV_exit, exV_ret, lookE_same, joinK_eq, seqA_n, seqA_e, seqA_r, e_add, e_sub, e_mul, e_eql, e_neq, e_lss, e_leq, e_gtr, e_geq, e_conv, e_not, e_neg, and_guard, or_guard]
    cases h1 : decide (a.length ≤ 12) <;> cases h2 : decide (b.length ≤ 12) <;> cases h3 : (b == []) <;> cases h4 : bl a b <;> simp only [span_Check.j0, h1, h2, h3, h4, Bool.not_true, Bool.not_false, Bool.true_or, Bool.false_or, Bool.or_true, Bool.or_false, Bool.and_true, Bool.and_false, Bool.true_and, Bool.false_and, if_true, if_false, Bool.false_eq_true, z_rv, z_rv2, ld_rv, ld_0, ld_00, ld_1, Option.bind_some, Option.map_some, getL_0, getL_1, getL_2, getL_3, getL_4, getL_5, getL_6, getL_7, getL_8, getL_9, getL_10, getL_11, getL_12, condV_t, condV_f, guardV_tt, guardV_ff, guardV_tf, guardV_ft, guardV_u, apick_t, apick_f, exV_exit, exV_ret, lookE_same, joinK_eq, seqA_n, seqA_e, seqA_r, e_add, e_sub, e_mul, e_eql, e_neq, e_lss, e_leq, e_gtr, e_geq, e_conv, e_not, e_neg, and_guard, or_guard, retV] <;> rfl
theorem refCheck_run {R : Caller} (r : Rg) (s : St) : ref02_Check R (rv r) s = some (.int .i64 (eR r), s) := by
  obtain ⟨a, b⟩ := r
  unfold ref02_Check
  simp only [z_rv, z_rv2, box_rv, ld_rv, ad_0, ad_1, ld_0, ld_1, nil_sv, e_lenV, len12, e_sneq, geq_bl, Option.bind_some, Option.map_some, getL_0, getL_1, getL_2, getL_3, getL_4, getL_5, getL_6, getL_7, getL_8, getL_9, getL_10, getL_11, getL_12, condV_t, condV_f, guardV_tt, guardV_ff, guardV_tf, guardV_ft, guardV_u, apick_t, apick_f, exV_exit, exV_ret, lookE_same, joinK_eq, seqA_n, seqA_e, seqA_r, e_add, e_sub, e_mul, e_eql, e_neq, e_lss, e_leq, e_gtr, e_geq, e_conv, e_not, e_neg, and_guard, or_guard]
  unfold eR ckR
  cases h1 : decide (a.length ≤ 12) <;> cases h2 : decide (b.length ≤ 12) <;> cases h3 : (b == []) <;> cases h4 : bl a b <;> simp only [h1, h2, h3, h4, Bool.not_true, Bool.not_false, Bool.true_or, Bool.false_or, Bool.or_true, Bool.or_false, Bool.and_true, Bool.and_false, Bool.true_and, Bool.false_and, if_true, if_false, Bool.false_eq_true, z_rv, z_rv2, ld_rv, ld_0, ld_00, ld_1, Option.bind_some, Option.map_some, getL_0, getL_1, getL_2, getL_3, getL_4, getL_5, getL_6, getL_7, getL_8, getL_9, getL_10, getL_11, getL_12, condV_t, condV_f, guardV_tt, guardV_ff, guardV_tf, guardV_ft, guardV_u, apick_t, apick_f, exV_exit, exV_ret, lookE_same, joinK_eq, seqA_n, seqA_e, seqA_r, e_add, e_sub, e_mul, e_eql, e_neq, e_lss, e_leq, e_gtr, e_geq, e_conv, e_not, e_neg, and_guard, or_guard, retV] <;> rfl

end Go.Proofs.Ytcahddipgocpfaa.Ab
