/- OctetOrder: what the law says. -/
import Derived.Test.YtodedkebnmfodaaFxNumbers
import Derived.Test.YtodedkebnmfodaaFxEnc
set_option linter.unusedVariables false
set_option linter.unusedSimpArgs false
set_option linter.unusedSectionVars false
namespace Go.Proofs.Ytodedkebnmfodaa.Ab
open Go

theorem same_bool (o1 o2 : Operand) (a b : Bool) : abin Try.prog .eql 4 o1 o2 (.bool a) (.bool b) = some (.bool (a == b)) := by
  unfold abin
  rw [Try.underlying4]
  rfl
theorem old_bytes {l m : List UInt8} {s : St} : bytesOf (newBytes l s).1 (newBytes m (newBytes l s).2).2 = some l := (newBytes_ext (Nat.le_refl _)).bytes newBytes_bytes

theorem OctetOrder_law (s : St) (a : Int) (wa : (Lit.int .u64 a).wf = true) (b : Int) (wb : (Lit.int .u64 b).wf = true) : ∃ s', (run Try.prog (libL lib16) hints) 6 [.int .u64 a, .int .u64 b] s = some (.bool true, s') := by
  obtain ⟨n, rfl, hn⟩ := wf_u64 wa
  obtain ⟨m, rfl, hm⟩ := wf_u64 wb
  have key : ∃ s', law01_OctetOrder (run Try.prog (libL lib16) hints) (.int .u64 (n : Int)) (.int .u64 (m : Int)) s = some (.bool true, s') := by
    unfold law01_OctetOrder
    have h1 : decide (((enc n).length : Int) < 1) = false := by have := @enc_pos n; simp; omega
    have h2 : decide (((enc n).length : Int) > 10) = false := by have := @enc_len n; simp; omega
    have l1 : ∀ s2, alenV (.slice 5) (newBytes (enc n) s).1 s2 = some (.int .i64 (((enc n).length : Nat) : Int)) := fun s2 => bytes_len newBytes_bytes
    have l2 : ∀ s2, alenV (.slice 5) (newBytes (enc m) (newBytes (enc n) s).2).1 s2 = some (.int .i64 (((enc m).length : Nat) : Int)) := fun s2 => bytes_len newBytes_bytes
    have t1 : abytesToStr (newBytes (enc n) s).1 (newBytes (enc m) (newBytes (enc n) s).2).2 = some (sv (enc n)) := bytes_str old_bytes
    have t2 : abytesToStr (newBytes (enc m) (newBytes (enc n) s).2).1 (newBytes (enc m) (newBytes (enc n) s).2).2 = some (sv (enc m)) := new_str
    have he : ((n : Int) == (m : Int)) = (enc n == enc m) := by
      by_cases e : n = m
      · subst e; simp
      · have : enc n ≠ enc m := fun h => e (enc_inj hn hm h)
        have e2 : ((n : Int) == (m : Int)) = false := by simp; omega
        rw [e2]
        simp [this]
    simp only [k_live, k_Num hn, k_Num hm, l1, l2, h1, h2, Option.bind_some, Option.map_some, getL_0, getL_1, getL_2, getL_3, getL_4, getL_5, getL_6, getL_7, getL_8, getL_9, getL_10, getL_11, getL_12, condV_t, condV_f, guardV_tt, guardV_ff, guardV_tf, guardV_ft, guardV_u, apick_t, apick_f, exV_exit, exV_ret, lookE_same, joinK_eq, seqA_n, seqA_e, seqA_r, e_add, e_sub, e_mul, e_eql, e_neq, e_lss, e_leq, e_gtr, e_geq, e_conv, e_not, e_neg, and_guard, or_guard]
    by_cases hc : n ≤ m
    · have h3 : decide ((n : Int) > (m : Int)) = false := by simp; omega
      have h4 : decide (((enc n).length : Int) ≤ ((enc m).length : Int)) = true := by have := enc_mono hc; simp; omega
      simp only [h3, l1, l2, h4, t1, t2, e_seql, he, same_bool, beq_self_eq_true, Option.bind_some, Option.map_some, getL_0, getL_1, getL_2, getL_3, getL_4, getL_5, getL_6, getL_7, getL_8, getL_9, getL_10, getL_11, getL_12, condV_t, condV_f, guardV_tt, guardV_ff, guardV_tf, guardV_ft, guardV_u, apick_t, apick_f, exV_exit, exV_ret, lookE_same, joinK_eq, seqA_n, seqA_e, seqA_r, e_add, e_sub, e_mul, e_eql, e_neq, e_lss, e_leq, e_gtr, e_geq, e_conv, e_not, e_neg, and_guard, or_guard, retV]
      exact ⟨_, rfl⟩
    · have h3 : decide ((n : Int) > (m : Int)) = true := by simp; omega
      simp only [h3, l1, l2, t1, t2, e_seql, he, same_bool, beq_self_eq_true, Option.bind_some, Option.map_some, getL_0, getL_1, getL_2, getL_3, getL_4, getL_5, getL_6, getL_7, getL_8, getL_9, getL_10, getL_11, getL_12, condV_t, condV_f, guardV_tt, guardV_ff, guardV_tf, guardV_ft, guardV_u, apick_t, apick_f, exV_exit, exV_ret, lookE_same, joinK_eq, seqA_n, seqA_e, seqA_r, e_add, e_sub, e_mul, e_eql, e_neq, e_lss, e_leq, e_gtr, e_geq, e_conv, e_not, e_neg, and_guard, or_guard, retV]
      exact ⟨_, rfl⟩
  obtain ⟨s', h⟩ := key
  exact ⟨s', law01_OctetOrder_of rfl h⟩

end Go.Proofs.Ytodedkebnmfodaa.Ab
