/- Ranges: what two have in common, and what covers. -/
import Derived.Test.YtcahddipgocpfaaSpFun3
set_option linter.unusedVariables false
set_option linter.unusedSimpArgs false
set_option linter.unusedSectionVars false
namespace Go.Proofs.Ytcahddipgocpfaa.Ab
open Go

theorem ab2 (x y : BL) : abuild Try.prog 23 [(0, sv x), (1, sv y)] = some (rv (x, y)) := by kernel_rfl
theorem ab0 : abuild Try.prog 23 [] = some (rv ([], [])) := by kernel_rfl
theorem st_rv (x y : Rg) : lstore 2 lptr (rv x) (rv y) = some (rv x) := rfl
theorem st_1 (x : BL) (y : Rg) : lstore 1 (.pointer (some ⟨0, 1, none⟩)) (sv x) (rv y) = some (rv (y.1, x)) := rfl
theorem box_z : lbox (.agg #[(.string ⟨#[]⟩), (.string ⟨#[]⟩)]) = some (rv ([], [])) := rfl
theorem eR_n {r : Rg} : (eR r != 0) = !ckR r := by unfold eR; cases ckR r <;> rfl
theorem eK_n {k : BL} : (eK k != 0) = !ckK k := by unfold eK; cases ckK k <;> rfl

def maxL (a b : BL) : BL := if bl a b then b else a
def meetL (a b : Rg) : Option Rg := if ckR a && ckR b && ckR (maxL a.1 b.1, leastL a.2 b.2) then some (maxL a.1 b.1, leastL a.2 b.2) else none
def meetV : Option Rg → Value
  | some m => .tuple #[rv m, .bool true]
  | none => .tuple #[rv ([], []), .bool false]
theorem max_sv {a b : BL} : amax2 (sv a) (sv b) = some (sv (maxL a b)) := by
  unfold amax2 maxL sv
  simp only [bl]
  split <;> simp_all
theorem Meet_run {R : Caller} (hR : ∀ r s, R 14 [rv r] s = some (.int .i64 (eR r), s)) (hL : ∀ a b s, R 27 [sv a, sv b] s = some (sv (leastL a b), s)) (a b : Rg) (s : St) : span_Meet R (rv a) (rv b) s = some (meetV (meetL a b), s) := by
  unfold span_Meet
  simp only [z_rv, z_rv2, box_rv, box_z, ld_rv, st_rv, span_Check_call, span_least_call, hR, hL, own_id, ad_0, ad_1, ld_0, ld_1, max_sv, ab2, ab0, eR_n, Option.bind_some, Option.map_some, getL_0, getL_1, getL_2, getL_3, getL_4, getL_5, getL_6, getL_7, getL_8, getL_9, getL_10, getL_11, getL_12, condV_t, condV_f, guardV_tt, guardV_ff, guardV_tf, guardV_ft, guardV_u, apick_t, apick_f, exV_exit, exV_ret, lookE_same, joinK_eq, seqA_n, seqA_e, seqA_r, e_add, e_sub, e_mul, e_eql, e_neq, e_lss, e_leq, e_gtr, e_geq, e_conv, e_not, e_neg, and_guard, or_guard]
  unfold meetL
  cases h1 : ckR a <;> cases h2 : ckR b <;> cases h3 : ckR (maxL a.1 b.1, leastL a.2 b.2) <;> simp only [h1, h2, h3, Bool.not_true, Bool.not_false, Bool.true_or, Bool.false_or, Bool.or_true, Bool.or_false, Bool.and_true, Bool.and_false, Bool.true_and, Bool.false_and, if_true, if_false, Bool.false_eq_true, z_rv, z_rv2, ld_rv, ld_0, ld_00, ld_1, Option.bind_some, Option.map_some, getL_0, getL_1, getL_2, getL_3, getL_4, getL_5, getL_6, getL_7, getL_8, getL_9, getL_10, getL_11, getL_12, condV_t, condV_f, guardV_tt, guardV_ff, guardV_tf, guardV_ft, guardV_u, apick_t, apick_f, exV_exit, exV_ret, lookE_same, joinK_eq, seqA_n, seqA_e, seqA_r, e_add, e_sub, e_mul, e_eql, e_neq, e_lss, e_leq, e_gtr, e_geq, e_conv, e_not, e_neg, and_guard, or_guard, ld_rv, st_rv, ab0, retV] <;> rfl

def covL (a b : Rg) : Bool := ckR a && ckR b && !bl b.1 a.1 && leastL a.2 b.2 == b.2
theorem Covers_run {R : Caller} (hR : ∀ r s, R 14 [rv r] s = some (.int .i64 (eR r), s)) (hL : ∀ a b s, R 27 [sv a, sv b] s = some (sv (leastL a b), s)) (a b : Rg) (s : St) : span_Covers R (rv a) (rv b) s = some (.bool (covL a b), s) := by
  unfold span_Covers
  simp only [z_rv, z_rv2, box_rv, ld_rv, span_Check_call, span_least_call, hR, hL, own_id, ad_0, ad_1, ld_0, ld_1, leq_bl, e_seql, eR_0, Option.bind_some, Option.map_some, getL_0, getL_1, getL_2, getL_3, getL_4, getL_5, getL_6, getL_7, getL_8, getL_9, getL_10, getL_11, getL_12, condV_t, condV_f, guardV_tt, guardV_ff, guardV_tf, guardV_ft, guardV_u, apick_t, apick_f, exV_exit, exV_ret, lookE_same, joinK_eq, seqA_n, seqA_e, seqA_r, e_add, e_sub, e_mul, e_eql, e_neq, e_lss, e_leq, e_gtr, e_geq, e_conv, e_not, e_neg, and_guard, or_guard]
  unfold covL
  cases h1 : ckR a <;> cases h2 : ckR b <;> cases h3 : bl b.1 a.1 <;> simp only [h1, h2, h3, Bool.not_true, Bool.not_false, Bool.true_or, Bool.false_or, Bool.or_true, Bool.or_false, Bool.and_true, Bool.and_false, Bool.true_and, Bool.false_and, if_true, if_false, Bool.false_eq_true, z_rv, z_rv2, ld_rv, ld_0, ld_00, ld_1, Option.bind_some, Option.map_some, getL_0, getL_1, getL_2, getL_3, getL_4, getL_5, getL_6, getL_7, getL_8, getL_9, getL_10, getL_11, getL_12, condV_t, condV_f, guardV_tt, guardV_ff, guardV_tf, guardV_ft, guardV_u, apick_t, apick_f, exV_exit, exV_ret, lookE_same, joinK_eq, seqA_n, seqA_e, seqA_r, e_add, e_sub, e_mul, e_eql, e_neq, e_lss, e_leq, e_gtr, e_geq, e_conv, e_not, e_neg, and_guard, or_guard, hR, hL, span_Check_call, span_least_call, own_id, ld_0, ld_1, leq_bl, e_seql, eR_0, retV] <;> rfl

end Go.Proofs.Ytcahddipgocpfaa.Ab
