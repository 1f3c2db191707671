/- Keys and ranges: Has, least, below. -/
import Derived.Test.YtcahddipgocpfaaSpFun2
set_option linter.unusedVariables false
set_option linter.unusedSimpArgs false
set_option linter.unusedSectionVars false
namespace Go.Proofs.Ytcahddipgocpfaa.Ab
open Go

theorem leq_bl {P : Program} {t : TypeId} {o1 o2 : Operand} {a b : BL} : abin P .leq t o1 o2 (sv a) (sv b) = some (.bool (!bl b a)) := by
  rw [e_sleq]
  congr 2
  by_cases h : a = b
  · subst h
    have := bl_irrefl a
    simp only [bl] at this
    simp [this]
  · rcases bl_total h with g | g
    · have g2 := bl_asymm g
      simp only [bl] at g g2 ⊢
      simp [g, g2]
    · have g2 := bl_asymm g
      simp only [bl] at g g2 ⊢
      simp [g, g2, h]
theorem lss_bl {P : Program} {t : TypeId} {o1 o2 : Operand} {a b : BL} : abin P .lss t o1 o2 (sv a) (sv b) = some (.bool (bl a b)) := e_slss
theorem eR_0 {r : Rg} : (eR r == 0) = ckR r := by unfold eR; cases ckR r <;> rfl
theorem eK_0 {k : BL} : (eK k == 0) = ckK k := by unfold eK; cases ckK k <;> rfl
theorem Has_run {R : Caller} (hR : ∀ r s, R 14 [rv r] s = some (.int .i64 (eR r), s)) (hK : ∀ k s, R 12 [sv k] s = some (.int .i64 (eK k), s)) (r : Rg) (k : BL) (s : St) : span_Has R (rv r) (sv k) s = some (.bool (hasR r k), s) := by
  obtain ⟨a, b⟩ := r
  unfold span_Has
  simp only [z_rv, z_rv2, box_rv, ld_rv, span_Check_call, span_CheckKey_call, hR, hK, ad_0, ad_1, ld_0, ld_1, nil_sv, e_seql, leq_bl, lss_bl, eR_0, eK_0, Option.bind_some, Option.map_some, getL_0, getL_1, getL_2, getL_3, getL_4, getL_5, getL_6, getL_7, getL_8, getL_9, getL_10, getL_11, getL_12, condV_t, condV_f, guardV_tt, guardV_ff, guardV_tf, guardV_ft, guardV_u, apick_t, apick_f, exV_exit, exV_ret, lookE_same, joinK_eq, seqA_n, seqA_e, seqA_r, e_add, e_sub, e_mul, e_eql, e_neq, e_lss, e_leq, e_gtr, e_geq, e_conv, e_not, e_neg, and_guard, or_guard]
  unfold hasR
  cases h1 : ckR (a, b) <;> cases h2 : ckK k <;> cases h3 : bl k a <;> cases h4 : (b == []) <;> cases h5 : bl k b <;> simp only [h1, h2, h3, h4, h5, Bool.not_true, Bool.not_false, Bool.true_or, Bool.false_or, Bool.or_true, Bool.or_false, Bool.and_true, Bool.and_false, Bool.true_and, Bool.false_and, if_true, if_false, Bool.false_eq_true, z_rv, z_rv2, ld_rv, ld_0, ld_00, ld_1, Option.bind_some, Option.map_some, getL_0, getL_1, getL_2, getL_3, getL_4, getL_5, getL_6, getL_7, getL_8, getL_9, getL_10, getL_11, getL_12, condV_t, condV_f, guardV_tt, guardV_ff, guardV_tf, guardV_ft, guardV_u, apick_t, apick_f, exV_exit, exV_ret, lookE_same, joinK_eq, seqA_n, seqA_e, seqA_r, e_add, e_sub, e_mul, e_eql, e_neq, e_lss, e_leq, e_gtr, e_geq, e_conv, e_not, e_neg, and_guard, or_guard, retV] <;> rfl
theorem refHas_run {R : Caller} (hR : ∀ r s, R 15 [rv r] s = some (.int .i64 (eR r), s)) (hK : ∀ k s, R 13 [sv k] s = some (.int .i64 (eK k), s)) (r : Rg) (k : BL) (s : St) : ref02_Has R (rv r) (sv k) s = some (.bool (hasR r k), s) := by
  obtain ⟨a, b⟩ := r
  unfold ref02_Has
  simp only [z_rv, z_rv2, box_rv, ld_rv, ref02_Check_call, ref02_CheckKey_call, hR, hK, ad_0, ad_1, ld_0, ld_1, nil_sv, e_seql, geq_bl, lss_bl, eR_0, eK_0, Option.bind_some, Option.map_some, getL_0, getL_1, getL_2, getL_3, getL_4, getL_5, getL_6, getL_7, getL_8, getL_9, getL_10, getL_11, getL_12, condV_t, condV_f, guardV_tt, guardV_ff, guardV_tf, guardV_ft, guardV_u, apick_t, apick_f, exV_exit, exV_ret, lookE_same, joinK_eq, seqA_n, seqA_e, seqA_r, e_add, e_sub, e_mul, e_eql, e_neq, e_lss, e_leq, e_gtr, e_geq, e_conv, e_not, e_neg, and_guard, or_guard]
  unfold hasR
  cases h1 : ckR (a, b) <;> cases h2 : ckK k <;> cases h3 : bl k a <;> cases h4 : (b == []) <;> cases h5 : bl k b <;> simp only [h1, h2, h3, h4, h5, Bool.not_true, Bool.not_false, Bool.true_or, Bool.false_or, Bool.or_true, Bool.or_false, Bool.and_true, Bool.and_false, Bool.true_and, Bool.false_and, if_true, if_false, Bool.false_eq_true, z_rv, z_rv2, ld_rv, ld_0, ld_00, ld_1, Option.bind_some, Option.map_some, getL_0, getL_1, getL_2, getL_3, getL_4, getL_5, getL_6, getL_7, getL_8, getL_9, getL_10, getL_11, getL_12, condV_t, condV_f, guardV_tt, guardV_ff, guardV_tf, guardV_ft, guardV_u, apick_t, apick_f, exV_exit, exV_ret, lookE_same, joinK_eq, seqA_n, seqA_e, seqA_r, e_add, e_sub, e_mul, e_eql, e_neq, e_lss, e_leq, e_gtr, e_geq, e_conv, e_not, e_neg, and_guard, or_guard, retV] <;> rfl

/-- the lesser one of two ends, an empty one being above all -/
def leastL (a b : BL) : BL := if a == [] || (b != [] && bl b a) then b else a
def belowL (a b : BL) : Bool := a != [] && (b == [] || bl a b)
theorem least_run {R : Caller} (a b : BL) (s : St) : span_least R (sv a) (sv b) s = some (sv (leastL a b), s) := by
  unfold span_least
  simp only [nil_sv, e_seql, e_sneq, lss_bl, Option.bind_some, Option.map_some, getL_0, getL_1, getL_2, getL_3, getL_4, getL_5, getL_6, getL_7, getL_8, getL_9, getL_10, getL_11, getL_12, condV_t, condV_f, guardV_tt, guardV_ff, guardV_tf, guardV_ft, guardV_u, apick_t, apick_f, exV_exit, exV_ret, lookE_same, joinK_eq, seqA_n, seqA_e, seqA_r, e_add, e_sub, e_mul, e_eql, e_neq, e_lss, e_leq, e_gtr, e_geq, e_conv, e_not, e_neg, and_guard, or_guard]
  unfold leastL
  cases h1 : (a == []) <;> cases h2 : (b == []) <;> cases h3 : bl b a <;> simp only [bne, h1, h2, h3, Bool.not_true, Bool.not_false, Bool.true_or, Bool.false_or, Bool.or_true, Bool.or_false, Bool.and_true, Bool.and_false, Bool.true_and, Bool.false_and, if_true, if_false, Bool.false_eq_true, z_rv, z_rv2, ld_rv, ld_0, ld_00, ld_1, Option.bind_some, Option.map_some, getL_0, getL_1, getL_2, getL_3, getL_4, getL_5, getL_6, getL_7, getL_8, getL_9, getL_10, getL_11, getL_12, condV_t, condV_f, guardV_tt, guardV_ff, guardV_tf, guardV_ft, guardV_u, apick_t, apick_f, exV_exit, exV_ret, lookE_same, joinK_eq, seqA_n, seqA_e, seqA_r, e_add, e_sub, e_mul, e_eql, e_neq, e_lss, e_leq, e_gtr, e_geq, e_conv, e_not, e_neg, and_guard, or_guard, retV] <;> rfl
theorem below_run {R : Caller} (a b : BL) (s : St) : ref02_below R (sv a) (sv b) s = some (.bool (belowL a b), s) := by
  unfold ref02_below
  simp only [nil_sv, e_seql, e_sneq, lss_bl, Option.bind_some, Option.map_some, getL_0, getL_1, getL_2, getL_3, getL_4, getL_5, getL_6, getL_7, getL_8, getL_9, getL_10, getL_11, getL_12, condV_t, condV_f, guardV_tt, guardV_ff, guardV_tf, guardV_ft, guardV_u, apick_t, apick_f, exV_exit, exV_ret, lookE_same, joinK_eq, seqA_n, seqA_e, seqA_r, e_add, e_sub, e_mul, e_eql, e_neq, e_lss, e_leq, e_gtr, e_geq, e_conv, e_not, e_neg, and_guard, or_guard]
  unfold belowL
  cases h1 : (a == []) <;> cases h2 : (b == []) <;> cases h3 : bl a b <;> simp only [bne, h1, h2, h3, Bool.not_true, Bool.not_false, Bool.true_or, Bool.false_or, Bool.or_true, Bool.or_false, Bool.and_true, Bool.and_false, Bool.true_and, Bool.false_and, if_true, if_false, Bool.false_eq_true, z_rv, z_rv2, ld_rv, ld_0, ld_00, ld_1, Option.bind_some, Option.map_some, getL_0, getL_1, getL_2, getL_3, getL_4, getL_5, getL_6, getL_7, getL_8, getL_9, getL_10, getL_11, getL_12, condV_t, condV_f, guardV_tt, guardV_ff, guardV_tf, guardV_ft, guardV_u, apick_t, apick_f, exV_exit, exV_ret, lookE_same, joinK_eq, seqA_n, seqA_e, seqA_r, e_add, e_sub, e_mul, e_eql, e_neq, e_lss, e_leq, e_gtr, e_geq, e_conv, e_not, e_neg, and_guard, or_guard, retV] <;> rfl

end Go.Proofs.Ytcahddipgocpfaa.Ab
