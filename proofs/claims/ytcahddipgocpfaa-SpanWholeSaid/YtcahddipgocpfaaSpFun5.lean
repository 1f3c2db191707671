/- Ranges: the reference's answers to what two have in common, and to what covers. -/
import Derived.Test.YtcahddipgocpfaaSpFun4
set_option linter.unusedVariables false
set_option linter.unusedSimpArgs false
set_option linter.unusedSectionVars false
namespace Go.Proofs.Ytcahddipgocpfaa.Ab
open Go

theorem least_below (a b : BL) : leastL a b = if belowL b a then b else a := by
  unfold leastL belowL
  cases h1 : (a == []) <;> cases h2 : (b == []) <;> cases h3 : bl b a <;> simp [bne, h1, h2, h3]
  all_goals simp_all
theorem ckR_len {r : Rg} (h : ckR r = true) : r.1.length ≤ 12 ∧ r.2.length ≤ 12 := by
  unfold ckR at h
  simp only [Bool.and_eq_true, decide_eq_true_eq] at h
  exact h.1
theorem ckR_meet {a b : Rg} (ha : ckR a = true) (hb : ckR b = true) : ckR (maxL a.1 b.1, leastL a.2 b.2) = (leastL a.2 b.2 == [] || bl (maxL a.1 b.1) (leastL a.2 b.2)) := by
  obtain ⟨h1, h2⟩ := ckR_len ha
  obtain ⟨h3, h4⟩ := ckR_len hb
  have h5 : (maxL a.1 b.1).length ≤ 12 := by unfold maxL; split <;> assumption
  have h6 : (leastL a.2 b.2).length ≤ 12 := by unfold leastL; split <;> assumption
  unfold ckR
  simp [h5, h6]
theorem refMeet_run {R : Caller} (hR : ∀ r s, R 15 [rv r] s = some (.int .i64 (eR r), s)) (hB : ∀ a b s, R 28 [sv a, sv b] s = some (.bool (belowL a b), s)) (a b : Rg) (s : St) : ref02_Meet R (rv a) (rv b) s = some (meetV (meetL a b), s) := by
  unfold ref02_Meet meetL
  simp only [z_rv, z_rv2, box_rv, box_z, ld_rv, st_rv, ref02_Check_call, ref02_below_call, hR, hB, own_id, ad_0, ad_1, ld_0, ld_1, st_1, max_sv, ab2, ab0, eR_n, Option.bind_some, Option.map_some, getL_0, getL_1, getL_2, getL_3, getL_4, getL_5, getL_6, getL_7, getL_8, getL_9, getL_10, getL_11, getL_12, condV_t, condV_f, guardV_tt, guardV_ff, guardV_tf, guardV_ft, guardV_u, apick_t, apick_f, exV_exit, exV_ret, lookE_same, joinK_eq, seqA_n, seqA_e, seqA_r, e_add, e_sub, e_mul, e_eql, e_neq, e_lss, e_leq, e_gtr, e_geq, e_conv, e_not, e_neg, and_guard, or_guard]
  cases h1 : ckR a <;> cases h2 : ckR b
  case true.true =>
    rw [ckR_meet h1 h2, least_below]
    cases h3 : belowL b.2 a.2
    · cases h4 : (a.2 == []) <;> cases h5 : bl (maxL a.1 b.1) a.2 <;> simp only [ref02_Meet.j0, h3, h4, h5, box_rv, box_z, ld_rv, st_rv, own_id, ad_0, ad_1, ld_0, ld_1, st_1, nil_sv, e_sneq, geq_bl, ab0, Bool.not_true, Bool.not_false, Bool.true_or, Bool.false_or, Bool.or_true, Bool.or_false, Bool.and_true, Bool.and_false, Bool.true_and, Bool.false_and, if_true, if_false, Bool.false_eq_true, z_rv, z_rv2, ld_rv, st_rv, ld_0, ld_00, ld_1, Option.bind_some, Option.map_some, getL_0, getL_1, getL_2, getL_3, getL_4, getL_5, getL_6, getL_7, getL_8, getL_9, getL_10, getL_11, getL_12, condV_t, condV_f, guardV_tt, guardV_ff, guardV_tf, guardV_ft, guardV_u, apick_t, apick_f, exV_exit, exV_ret, lookE_same, joinK_eq, seqA_n, seqA_e, seqA_r, e_add, e_sub, e_mul, e_eql, e_neq, e_lss, e_leq, e_gtr, e_geq, e_conv, e_not, e_neg, and_guard, or_guard, retV] <;> rfl
    · cases h4 : (b.2 == []) <;> cases h5 : bl (maxL a.1 b.1) b.2 <;> simp only [ref02_Meet.j0, h3, h4, h5, box_rv, box_z, ld_rv, st_rv, own_id, ad_0, ad_1, ld_0, ld_1, st_1, nil_sv, e_sneq, geq_bl, ab0, Bool.not_true, Bool.not_false, Bool.true_or, Bool.false_or, Bool.or_true, Bool.or_false, Bool.and_true, Bool.and_false, Bool.true_and, Bool.false_and, if_true, if_false, Bool.false_eq_true, z_rv, z_rv2, ld_rv, st_rv, ld_0, ld_00, ld_1, Option.bind_some, Option.map_some, getL_0, getL_1, getL_2, getL_3, getL_4, getL_5, getL_6, getL_7, getL_8, getL_9, getL_10, getL_11, getL_12, condV_t, condV_f, guardV_tt, guardV_ff, guardV_tf, guardV_ft, guardV_u, apick_t, apick_f, exV_exit, exV_ret, lookE_same, joinK_eq, seqA_n, seqA_e, seqA_r, e_add, e_sub, e_mul, e_eql, e_neq, e_lss, e_leq, e_gtr, e_geq, e_conv, e_not, e_neg, and_guard, or_guard, retV] <;> rfl
  all_goals simp only [h1, h2, Bool.not_true, Bool.not_false, Bool.true_or, Bool.false_or, Bool.or_true, Bool.or_false, Bool.and_true, Bool.and_false, Bool.true_and, Bool.false_and, if_true, if_false, Bool.false_eq_true, z_rv, z_rv2, ld_rv, st_rv, ld_0, ld_00, ld_1, Option.bind_some, Option.map_some, getL_0, getL_1, getL_2, getL_3, getL_4, getL_5, getL_6, getL_7, getL_8, getL_9, getL_10, getL_11, getL_12, condV_t, condV_f, guardV_tt, guardV_ff, guardV_tf, guardV_ft, guardV_u, apick_t, apick_f, exV_exit, exV_ret, lookE_same, joinK_eq, seqA_n, seqA_e, seqA_r, e_add, e_sub, e_mul, e_eql, e_neq, e_lss, e_leq, e_gtr, e_geq, e_conv, e_not, e_neg, and_guard, or_guard, ld_rv, st_rv, ab0, retV] <;> rfl
theorem refCovers_run {R : Caller} (hR : ∀ r s, R 15 [rv r] s = some (.int .i64 (eR r), s)) (hB : ∀ a b s, R 28 [sv a, sv b] s = some (.bool (belowL a b), s)) (a b : Rg) (s : St) : ref02_Covers R (rv a) (rv b) s = some (.bool (covL a b), s) := by
  unfold ref02_Covers
  simp only [z_rv, z_rv2, box_rv, ld_rv, ref02_Check_call, ref02_below_call, hR, hB, own_id, ad_0, ad_1, ld_0, ld_1, leq_bl, e_seql, eR_0, Option.bind_some, Option.map_some, getL_0, getL_1, getL_2, getL_3, getL_4, getL_5, getL_6, getL_7, getL_8, getL_9, getL_10, getL_11, getL_12, condV_t, condV_f, guardV_tt, guardV_ff, guardV_tf, guardV_ft, guardV_u, apick_t, apick_f, exV_exit, exV_ret, lookE_same, joinK_eq, seqA_n, seqA_e, seqA_r, e_add, e_sub, e_mul, e_eql, e_neq, e_lss, e_leq, e_gtr, e_geq, e_conv, e_not, e_neg, and_guard, or_guard]
  have hl : (leastL a.2 b.2 == b.2) = !belowL a.2 b.2 := by
    unfold leastL belowL
    by_cases h0 : a.2 = b.2
    · rw [h0]
      have := bl_irrefl b.2
      cases h1 : (b.2 == []) <;> simp [bne, h1, this]
    · cases h1 : (a.2 == []) <;> cases h2 : (b.2 == []) <;> cases h3 : bl b.2 a.2 <;> cases h4 : bl a.2 b.2 <;> simp [bne, h1, h2, h3, h4]
      all_goals first
        | (rcases bl_total h0 with g | g <;> simp_all; done)
        | (have := bl_asymm h3; simp_all; done)
        | simp_all
  unfold covL
  rw [hl]
  cases h1 : ckR a <;> cases h2 : ckR b <;> cases h3 : bl b.1 a.1 <;> simp only [h1, h2, h3, Bool.not_true, Bool.not_false, Bool.true_or, Bool.false_or, Bool.or_true, Bool.or_false, Bool.and_true, Bool.and_false, Bool.true_and, Bool.false_and, if_true, if_false, Bool.false_eq_true, z_rv, z_rv2, ld_rv, st_rv, ld_0, ld_00, ld_1, Option.bind_some, Option.map_some, getL_0, getL_1, getL_2, getL_3, getL_4, getL_5, getL_6, getL_7, getL_8, getL_9, getL_10, getL_11, getL_12, condV_t, condV_f, guardV_tt, guardV_ff, guardV_tf, guardV_ft, guardV_u, apick_t, apick_f, exV_exit, exV_ret, lookE_same, joinK_eq, seqA_n, seqA_e, seqA_r, e_add, e_sub, e_mul, e_eql, e_neq, e_lss, e_leq, e_gtr, e_geq, e_conv, e_not, e_neg, and_guard, or_guard, hR, hB, ref02_Check_call, ref02_below_call, own_id, ld_0, ld_1, leq_bl, e_seql, eR_0, retV] <;> rfl

end Go.Proofs.Ytcahddipgocpfaa.Ab
