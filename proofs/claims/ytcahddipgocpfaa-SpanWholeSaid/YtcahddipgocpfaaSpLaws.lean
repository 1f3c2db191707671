/- The laws of keys and ranges that hold both answers side by side. -/
import Derived.Test.YtcahddipgocpfaaSpLive
set_option linter.unusedVariables false
set_option linter.unusedSimpArgs false
set_option linter.unusedSectionVars false
namespace Go.Proofs.Ytcahddipgocpfaa.Ab
open Go

theorem rv_of (a c : ByteArray) : Value.agg #[.string a, .string c] = rv (a.data.toList, c.data.toList) := by
  unfold rv
  rw [← sv_of, ← sv_of]
theorem int_beq (a : Int) : (a == a) = true := beq_self_eq_true a
theorem own_some {α : Type} {s : St} {a : α} : ((some (a, s)).bind (ownR s)) = some (a, s) := own_id

theorem SpanChecks_law (s : St) (a c : ByteArray) (_ : a.size ≤ maxLen) (_ : c.size ≤ maxLen) (k : ByteArray) (_ : k.size ≤ 140737488351232) : ∃ s', (run Try.prog (libL libT) hints) 3 [.agg #[.string a, .string c], .string k] s = some (.bool true, s') := by
  rw [rv_of, sv_of k]
  refine ⟨s, law02_SpanChecks_of rfl ?_⟩
  unfold law02_SpanChecks
  simp only [box_rv, ld_rv, k_live, k_key, k_rkey, k_chk, k_rchk, k_has, k_rhas, own_some, same_bool, beq_self_eq_true, own_id, Option.bind_some, Option.map_some, getL_0, getL_1, getL_2, getL_3, getL_4, getL_5, getL_6, getL_7, getL_8, getL_9, getL_10, getL_11, getL_12, condV_t, condV_f, guardV_tt, guardV_ff, guardV_tf, guardV_ft, guardV_u, apick_t, apick_f, exV_exit, exV_ret, lookE_same, joinK_eq, seqA_n, seqA_e, seqA_r, e_add, e_sub, e_mul, e_eql, e_neq, e_lss, e_leq, e_gtr, e_geq, e_conv, e_not, e_neg, and_guard, or_guard, retV]
  rfl
theorem SpanMeets_law (s : St) (a c : ByteArray) (_ : a.size ≤ maxLen) (_ : c.size ≤ maxLen) (b d : ByteArray) (_ : b.size ≤ maxLen) (_ : d.size ≤ maxLen) : ∃ s', (run Try.prog (libL libT) hints) 8 [.agg #[.string a, .string c], .agg #[.string b, .string d]] s = some (.bool true, s') := by
  rw [rv_of, rv_of]
  refine ⟨s, law02_SpanMeets_of rfl ?_⟩
  unfold law02_SpanMeets
  simp only [z_rv, box_rv, ld_rv, st_rv, rv_eql, k_live, k_meet, k_rmeet, k_cov, k_rcov, x_meet.1, x_meet.2, own_some, same_bool, beq_self_eq_true, Bool.and_self, own_id, Option.bind_some, Option.map_some, getL_0, getL_1, getL_2, getL_3, getL_4, getL_5, getL_6, getL_7, getL_8, getL_9, getL_10, getL_11, getL_12, condV_t, condV_f, guardV_tt, guardV_ff, guardV_tf, guardV_ft, guardV_u, apick_t, apick_f, exV_exit, exV_ret, lookE_same, joinK_eq, seqA_n, seqA_e, seqA_r, e_add, e_sub, e_mul, e_eql, e_neq, e_lss, e_leq, e_gtr, e_geq, e_conv, e_not, e_neg, and_guard, or_guard, retV]
  rfl
theorem SpanCuts_law (s : St) (a c : ByteArray) (_ : a.size ≤ maxLen) (_ : c.size ≤ maxLen) (k : ByteArray) (_ : k.size ≤ 140737488351232) : ∃ s', (run Try.prog (libL libT) hints) 4 [.agg #[.string a, .string c], .string k] s = some (.bool true, s') := by
  rw [rv_of, sv_of k]
  refine ⟨s, law02_SpanCuts_of rfl ?_⟩
  unfold law02_SpanCuts
  simp only [z_rv, box_rv, ld_rv, st_rv, rv_eql, k_live, k_pt, k_rpt, k_cut, k_rcut, x_pt.1, x_pt.2, x_cut.1, x_cut.2.1, x_cut.2.2, own_some, same_bool, beq_self_eq_true, Bool.and_self, own_id, Option.bind_some, Option.map_some, getL_0, getL_1, getL_2, getL_3, getL_4, getL_5, getL_6, getL_7, getL_8, getL_9, getL_10, getL_11, getL_12, condV_t, condV_f, guardV_tt, guardV_ff, guardV_tf, guardV_ft, guardV_u, apick_t, apick_f, exV_exit, exV_ret, lookE_same, joinK_eq, seqA_n, seqA_e, seqA_r, e_add, e_sub, e_mul, e_eql, e_neq, e_lss, e_leq, e_gtr, e_geq, e_conv, e_not, e_neg, and_guard, or_guard, retV]
  rfl

end Go.Proofs.Ytcahddipgocpfaa.Ab
