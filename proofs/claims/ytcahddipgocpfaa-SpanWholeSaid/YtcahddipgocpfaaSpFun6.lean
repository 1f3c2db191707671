/- Ranges: a range in two. -/
import Derived.Test.YtcahddipgocpfaaSpFun5
set_option linter.unusedVariables false
set_option linter.unusedSimpArgs false
set_option linter.unusedSectionVars false
namespace Go.Proofs.Ytcahddipgocpfaa.Ab
open Go

def cutL (r : Rg) (k : BL) : Rg × Rg × Int :=
  if ckR r then (if ckK k then (if k == r.1 || !hasR r k then (([], []), ([], []), 21) else ((r.1, k), (k, r.2), 0)) else (([], []), ([], []), 20)) else (([], []), ([], []), 21)
def cutV (c : Rg × Rg × Int) : Value := .tuple #[rv c.1, rv c.2.1, .int .i64 c.2.2]
theorem eR_f {r : Rg} (h : ckR r = false) : eR r = 21 := by unfold eR; rw [h]; rfl
theorem eK_f {k : BL} (h : ckK k = false) : eK k = 20 := by unfold eK; rw [h]; rfl
theorem Cut_run {R : Caller} (hR : ∀ r s, R 14 [rv r] s = some (.int .i64 (eR r), s)) (hK : ∀ k s, R 12 [sv k] s = some (.int .i64 (eK k), s)) (hH : ∀ r k s, R 16 [rv r, sv k] s = some (.bool (hasR r k), s)) (r : Rg) (k : BL) (s : St) : span_Cut R (rv r) (sv k) s = some (cutV (cutL r k), s) := by
  unfold span_Cut cutL
  simp only [z_rv, z_rv2, box_rv, box_z, ld_rv, st_rv, span_Check_call, span_CheckKey_call, span_Has_call, hR, hK, hH, own_id, ad_0, ad_1, ld_0, ld_1, e_seql, ab2, ab0, eR_n, eK_n, Option.bind_some, Option.map_some, getL_0, getL_1, getL_2, getL_3, getL_4, getL_5, getL_6, getL_7, getL_8, getL_9, getL_10, getL_11, getL_12, condV_t, condV_f, guardV_tt, guardV_ff, guardV_tf, guardV_ft, guardV_u, apick_t, apick_f, exV_exit, exV_ret, lookE_same, joinK_eq, seqA_n, seqA_e, seqA_r, e_add, e_sub, e_mul, e_eql, e_neq, e_lss, e_leq, e_gtr, e_geq, e_conv, e_not, e_neg, and_guard, or_guard]
  cases h1 : ckR r
  · simp only [h1, eR_f h1, Bool.not_false, if_false, Bool.false_eq_true, z_rv, z_rv2, ld_rv, st_rv, ld_0, ld_00, ld_1, Option.bind_some, Option.map_some, getL_0, getL_1, getL_2, getL_3, getL_4, getL_5, getL_6, getL_7, getL_8, getL_9, getL_10, getL_11, getL_12, condV_t, condV_f, guardV_tt, guardV_ff, guardV_tf, guardV_ft, guardV_u, apick_t, apick_f, exV_exit, exV_ret, lookE_same, joinK_eq, seqA_n, seqA_e, seqA_r, e_add, e_sub, e_mul, e_eql, e_neq, e_lss, e_leq, e_gtr, e_geq, e_conv, e_not, e_neg, and_guard, or_guard, ld_rv, st_rv, ab0, retV]; rfl
  cases h2 : ckK k
  · simp only [h1, h2, eK_f h2, Bool.not_false, Bool.not_true, if_false, if_true, Bool.false_eq_true, Option.bind_some, Option.map_some, getL_0, getL_1, getL_2, getL_3, getL_4, getL_5, getL_6, getL_7, getL_8, getL_9, getL_10, getL_11, getL_12, condV_t, condV_f, guardV_tt, guardV_ff, guardV_tf, guardV_ft, guardV_u, apick_t, apick_f, exV_exit, exV_ret, lookE_same, joinK_eq, seqA_n, seqA_e, seqA_r, e_add, e_sub, e_mul, e_eql, e_neq, e_lss, e_leq, e_gtr, e_geq, e_conv, e_not, e_neg, and_guard, or_guard, ld_rv, st_rv, ab0, retV]; rfl
  cases h3 : (k == r.1) <;> cases h4 : hasR r k <;> simp only [h1, h2, h3, h4, Bool.not_true, Bool.not_false, Bool.true_or, Bool.false_or, Bool.or_true, Bool.or_false, if_true, if_false, Bool.false_eq_true, z_rv, z_rv2, ld_rv, st_rv, ld_0, ld_00, ld_1, Option.bind_some, Option.map_some, getL_0, getL_1, getL_2, getL_3, getL_4, getL_5, getL_6, getL_7, getL_8, getL_9, getL_10, getL_11, getL_12, condV_t, condV_f, guardV_tt, guardV_ff, guardV_tf, guardV_ft, guardV_u, apick_t, apick_f, exV_exit, exV_ret, lookE_same, joinK_eq, seqA_n, seqA_e, seqA_r, e_add, e_sub, e_mul, e_eql, e_neq, e_lss, e_leq, e_gtr, e_geq, e_conv, e_not, e_neg, and_guard, or_guard, ld_rv, st_rv, ld_0, ld_1, ad_0, ad_1, ab0, ab2, retV] <;> rfl
theorem cut_has {r : Rg} {k : BL} (h1 : ckR r = true) (h2 : ckK k = true) : (k == r.1 || !hasR r k) = (!bl r.1 k || (r.2 != [] && !bl k r.2)) := by
  unfold hasR
  rw [h1, h2]
  by_cases h : k = r.1
  · subst h
    have := bl_irrefl r.1
    simp [this]
  · have hb : (k == r.1) = false := by simp [h]
    have hx : bl k r.1 = !bl r.1 k := by
      rcases bl_total h with g | g
      · rw [g, bl_asymm g]; rfl
      · rw [g, bl_asymm g]; rfl
    rw [hb, hx]
    cases bl r.1 k <;> cases h4 : (r.2 == []) <;> cases bl k r.2 <;> simp [bne, h4]
theorem refCut_run {R : Caller} (hR : ∀ r s, R 15 [rv r] s = some (.int .i64 (eR r), s)) (hK : ∀ k s, R 13 [sv k] s = some (.int .i64 (eK k), s)) (r : Rg) (k : BL) (s : St) : ref02_Cut R (rv r) (sv k) s = some (cutV (cutL r k), s) := by
  unfold ref02_Cut cutL
  simp only [z_rv, z_rv2, box_rv, box_z, ld_rv, st_rv, ref02_Check_call, ref02_CheckKey_call, hR, hK, own_id, ad_0, ad_1, ld_0, ld_1, nil_sv, leq_bl, geq_bl, e_sneq, ab2, ab0, eR_n, eK_n, Option.bind_some, Option.map_some, getL_0, getL_1, getL_2, getL_3, getL_4, getL_5, getL_6, getL_7, getL_8, getL_9, getL_10, getL_11, getL_12, condV_t, condV_f, guardV_tt, guardV_ff, guardV_tf, guardV_ft, guardV_u, apick_t, apick_f, exV_exit, exV_ret, lookE_same, joinK_eq, seqA_n, seqA_e, seqA_r, e_add, e_sub, e_mul, e_eql, e_neq, e_lss, e_leq, e_gtr, e_geq, e_conv, e_not, e_neg, and_guard, or_guard]
  cases h1 : ckR r
  · simp only [h1, eR_f h1, Bool.not_false, if_false, Bool.false_eq_true, z_rv, z_rv2, ld_rv, st_rv, ld_0, ld_00, ld_1, Option.bind_some, Option.map_some, getL_0, getL_1, getL_2, getL_3, getL_4, getL_5, getL_6, getL_7, getL_8, getL_9, getL_10, getL_11, getL_12, condV_t, condV_f, guardV_tt, guardV_ff, guardV_tf, guardV_ft, guardV_u, apick_t, apick_f, exV_exit, exV_ret, lookE_same, joinK_eq, seqA_n, seqA_e, seqA_r, e_add, e_sub, e_mul, e_eql, e_neq, e_lss, e_leq, e_gtr, e_geq, e_conv, e_not, e_neg, and_guard, or_guard, ld_rv, st_rv, ab0, retV]; rfl
  cases h2 : ckK k
  · simp only [h1, h2, eK_f h2, Bool.not_false, Bool.not_true, if_false, if_true, Bool.false_eq_true, Option.bind_some, Option.map_some, getL_0, getL_1, getL_2, getL_3, getL_4, getL_5, getL_6, getL_7, getL_8, getL_9, getL_10, getL_11, getL_12, condV_t, condV_f, guardV_tt, guardV_ff, guardV_tf, guardV_ft, guardV_u, apick_t, apick_f, exV_exit, exV_ret, lookE_same, joinK_eq, seqA_n, seqA_e, seqA_r, e_add, e_sub, e_mul, e_eql, e_neq, e_lss, e_leq, e_gtr, e_geq, e_conv, e_not, e_neg, and_guard, or_guard, ld_rv, st_rv, ab0, retV]; rfl
  rw [cut_has h1 h2]
  cases h3 : bl r.1 k <;> cases h4 : (r.2 == []) <;> cases h5 : bl k r.2 <;> simp only [bne, h1, h2, h3, h4, h5, Bool.not_true, Bool.not_false, Bool.true_or, Bool.false_or, Bool.or_true, Bool.or_false, Bool.and_true, Bool.and_false, Bool.true_and, Bool.false_and, if_true, if_false, Bool.false_eq_true, z_rv, z_rv2, ld_rv, st_rv, ld_0, ld_00, ld_1, Option.bind_some, Option.map_some, getL_0, getL_1, getL_2, getL_3, getL_4, getL_5, getL_6, getL_7, getL_8, getL_9, getL_10, getL_11, getL_12, condV_t, condV_f, guardV_tt, guardV_ff, guardV_tf, guardV_ft, guardV_u, apick_t, apick_f, exV_exit, exV_ret, lookE_same, joinK_eq, seqA_n, seqA_e, seqA_r, e_add, e_sub, e_mul, e_eql, e_neq, e_lss, e_leq, e_gtr, e_geq, e_conv, e_not, e_neg, and_guard, or_guard, ld_rv, st_rv, ld_0, ld_1, ad_0, ad_1, ab0, ab2, retV] <;> rfl

end Go.Proofs.Ytcahddipgocpfaa.Ab
