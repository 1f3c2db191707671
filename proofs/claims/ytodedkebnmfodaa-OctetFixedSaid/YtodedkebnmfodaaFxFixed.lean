/- OctetFixed: what the law says. -/
import Derived.Test.YtodedkebnmfodaaFxEq
set_option linter.unusedVariables false
set_option linter.unusedSimpArgs false
set_option linter.unusedSectionVars false
namespace Go.Proofs.Ytodedkebnmfodaa.Ab
open Go

theorem OctetFixed_law (s : St) (a : Int) (wa : (Lit.int .u32 a).wf = true) (v : Value) (l : List UInt8) (h : bytesOf v s = some l) (hl : l.length ≤ 140737488355328) : ∃ s', (run Try.prog (libL lib16) hints) 10 [.int .u32 a, v] s = some (.bool true, s') := by
  obtain ⟨n, rfl, hn⟩ := wf_u32 wa
  have key : ∃ s', law01_OctetFixed (run Try.prog (libL lib16) hints) (.int .u32 (n : Int)) v s = some (.bool true, s') := by
    unfold law01_OctetFixed
    have hf : ∀ o1 o2, abin Try.prog .eql 43 o1 o2 (fixV n) (fixV n) = some (.bool true) := fun o1 o2 => by
      unfold fixV
      rw [same_fix]
      simp only [beq_self_eq_true, Bool.and_true]
    simp only [k_live, k_ReadFixed h hl, k_refReadFixed h hl, xF_0, xF_1, k_Fixed hn, k_refFixed hn, hf, same_int, Option.bind_some, Option.map_some, getL_0, getL_1, getL_2, getL_3, getL_4, getL_5, getL_6, getL_7, getL_8, getL_9, getL_10, getL_11, getL_12, condV_t, condV_f, guardV_tt, guardV_ff, guardV_tf, guardV_ft, guardV_u, apick_t, apick_f, exV_exit, exV_ret, lookE_same, joinK_eq, seqA_n, seqA_e, seqA_r, e_add, e_sub, e_mul, e_eql, e_neq, e_lss, e_leq, e_gtr, e_geq, e_conv, e_not, e_neg, and_guard, or_guard, retV]
    exact ⟨_, rfl⟩
  obtain ⟨s', h⟩ := key
  exact ⟨s', law01_OctetFixed_of rfl h⟩

end Go.Proofs.Ytodedkebnmfodaa.Ab
