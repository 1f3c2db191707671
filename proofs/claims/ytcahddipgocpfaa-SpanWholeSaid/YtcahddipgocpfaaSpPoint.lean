/- The range of a key: the reference's loop. -/
import Derived.Test.YtcahddipgocpfaaSpLib
set_option linter.unusedVariables false
set_option linter.unusedSimpArgs false
set_option linter.unusedSectionVars false
namespace Go.Proofs.Ytcahddipgocpfaa.Ab
open Go

/-- how many letters stand before the 255s at the end of the first n -/
def stripN (k : BL) : Nat → Nat
  | 0 => 0
  | n + 1 => if k.getD n 0 == 255 then stripN k n else n + 1
theorem idx_sv {k : BL} {n : Nat} (h : n < k.length) : aindexStr (sv k) (.int .i64 (n : Int)) = some (.int .u8 (((k.getD n 0).toNat : Nat) : Int)) := by
  unfold aindexStr sv
  simp [h]
theorem is255 {c : UInt8} : (((c.toNat : Nat) : Int) == 255) = (c == 255) := by
  by_cases h : c = 255
  · subst h; rfl
  · have : c.toNat ≠ 255 := fun e => h (UInt8.toNat_inj.1 e)
    have h2 : (c == 255) = false := by simp [h]
    rw [h2, beq_eq_false_iff_ne]
    omega
theorem refPoint_loop {R : Caller} {k : BL} {c : Value} {s : St} : ∀ (n : Nat), n ≤ k.length → n ≤ 100 → loopL (ref02_Point.b0 R) [sv k, lptr, .int .i64 (n : Int), c] s = some (.exit 0, [sv k, lptr, .int .i64 ((stripN k n : Nat) : Int), c], s) := by
  intro n
  induction n with
  | zero =>
    intro _ _
    rw [loopL_eq]
    have h1 : decide (((0 : Nat) : Int) > 0) = false := rfl
    simp only [ref02_Point.b0, h1, Option.bind_some, Option.map_some, getL_0, getL_1, getL_2, getL_3, getL_4, getL_5, getL_6, getL_7, getL_8, getL_9, getL_10, getL_11, getL_12, condV_t, condV_f, guardV_tt, guardV_ff, guardV_tf, guardV_ft, guardV_u, apick_t, apick_f, exV_exit, exV_ret, lookE_same, joinK_eq, seqA_n, seqA_e, seqA_r, e_add, e_sub, e_mul, e_eql, e_neq, e_lss, e_leq, e_gtr, e_geq, e_conv, e_not, e_neg, and_guard, or_guard]
    rfl
  | succ n IH =>
    intro h h2
    rw [loopL_eq]
    have h1 : decide (((n + 1 : Nat) : Int) > 0) = true := by rw [decide_eq_true_eq]; omega
    have hw : IntKind.wrap .i64 (((n + 1 : Nat) : Int) - 1) = (n : Int) := by rw [wrap_i64 (by omega) (by omega)]; omega
    simp only [ref02_Point.b0, h1, hw, idx_sv (show n < k.length by omega), is255, Option.bind_some, Option.map_some, getL_0, getL_1, getL_2, getL_3, getL_4, getL_5, getL_6, getL_7, getL_8, getL_9, getL_10, getL_11, getL_12, condV_t, condV_f, guardV_tt, guardV_ff, guardV_tf, guardV_ft, guardV_u, apick_t, apick_f, exV_exit, exV_ret, lookE_same, joinK_eq, seqA_n, seqA_e, seqA_r, e_add, e_sub, e_mul, e_eql, e_neq, e_lss, e_leq, e_gtr, e_geq, e_conv, e_not, e_neg, and_guard, or_guard]
    cases h3 : (k.getD n 0 == 255)
    · simp only [h3, Bool.and_false, Bool.and_true, Option.bind_some, Option.map_some, getL_0, getL_1, getL_2, getL_3, getL_4, getL_5, getL_6, getL_7, getL_8, getL_9, getL_10, getL_11, getL_12, condV_t, condV_f, guardV_tt, guardV_ff, guardV_tf, guardV_ft, guardV_u, apick_t, apick_f, exV_exit, exV_ret, lookE_same, joinK_eq, seqA_n, seqA_e, seqA_r, e_add, e_sub, e_mul, e_eql, e_neq, e_lss, e_leq, e_gtr, e_geq, e_conv, e_not, e_neg, and_guard, or_guard, stripN, if_false, Bool.false_eq_true]
    · simp only [h3, hw, Bool.and_true, Option.bind_some, Option.map_some, getL_0, getL_1, getL_2, getL_3, getL_4, getL_5, getL_6, getL_7, getL_8, getL_9, getL_10, getL_11, getL_12, condV_t, condV_f, guardV_tt, guardV_ff, guardV_tf, guardV_ft, guardV_u, apick_t, apick_f, exV_exit, exV_ret, lookE_same, joinK_eq, seqA_n, seqA_e, seqA_r, e_add, e_sub, e_mul, e_eql, e_neq, e_lss, e_leq, e_gtr, e_geq, e_conv, e_not, e_neg, and_guard, or_guard, stripN, if_true]
      exact IH (by omega) (by omega)

end Go.Proofs.Ytcahddipgocpfaa.Ab
