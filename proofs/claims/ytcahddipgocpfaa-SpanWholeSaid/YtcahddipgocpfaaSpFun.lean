/- Keys and ranges: what the functions do. -/
import Derived.Test.YtcahddipgocpfaaSh
import Derived.Test.YtcahddipgocpfaaSpPair
set_option linter.unusedVariables false
set_option linter.unusedSimpArgs false
set_option linter.unusedSectionVars false
namespace Go.Proofs.Ytcahddipgocpfaa.Ab
open Go

/-! ### What they say -/
def ckK (k : BL) : Bool := k != [] && decide (k.length ≤ 12)
def ckR (r : Rg) : Bool := decide (r.1.length ≤ 12) && decide (r.2.length ≤ 12) && (r.2 == [] || bl r.1 r.2)
def eK (k : BL) : Int := if ckK k then 0 else 20
def eR (r : Rg) : Int := if ckR r then 0 else 21
def hasR (r : Rg) (k : BL) : Bool := ckR r && ckK k && !bl k r.1 && (r.2 == [] || bl k r.2)

/-- a function of values, without memory -/
def gP (G : List Value → Option Value) : Sum := fun xs s => (G xs).map fun v => (v, s)
theorem gP_eq {G : List Value → Option Value} {xs : List Value} {v : Value} {s : St} (h : G xs = some v) : gP G xs s = some (v, s) := by simp only [gP, h, Option.map_some]
theorem sumP {lib : Lib} {f : FuncId} {G : List Value → Option Value} (h : ∀ xs v s, G xs = some v → plainV v = true ∧ ∃ t, run Try.prog lib hints f xs s = some (v, t)) : SumOk Try.prog lib hints f (gP G) :=
  SumOk.plain (G := fun xs _ => G xs) fun xs s v hv => h xs v (frzS s) hv
def G1K (F : BL → Value) : List Value → Option Value
  | [v] => (asBl v).map F
  | _ => none
def G1R (F : Rg → Value) : List Value → Option Value
  | [v] => (asRg v).map F
  | _ => none
def G2RK (F : Rg → BL → Value) : List Value → Option Value
  | [v, w] => (asRg v).bind fun r => (asBl w).map fun k => F r k
  | _ => none
def G2RR (F : Rg → Rg → Value) : List Value → Option Value
  | [v, w] => (asRg v).bind fun r => (asRg w).map fun k => F r k
  | _ => none
def G2KK (F : BL → BL → Value) : List Value → Option Value
  | [v, w] => (asBl v).bind fun r => (asBl w).map fun k => F r k
  | _ => none
theorem sum1K {lib : Lib} {f : FuncId} {F : BL → Value} (h : ∀ k s, plainV (F k) = true ∧ ∃ t, run Try.prog lib hints f [sv k] s = some (F k, t)) : SumOk Try.prog lib hints f (gP (G1K F)) := sumP fun xs v s hv => by
  unfold G1K at hv
  split at hv
  · simp only [Option.map_eq_some_iff] at hv
    obtain ⟨k, h1, rfl⟩ := hv
    rw [asBl_some h1]
    exact h k s
  · cases hv
theorem sum1R {lib : Lib} {f : FuncId} {F : Rg → Value} (h : ∀ k s, plainV (F k) = true ∧ ∃ t, run Try.prog lib hints f [rv k] s = some (F k, t)) : SumOk Try.prog lib hints f (gP (G1R F)) := sumP fun xs v s hv => by
  unfold G1R at hv
  split at hv
  · simp only [Option.map_eq_some_iff] at hv
    obtain ⟨k, h1, rfl⟩ := hv
    rw [asRg_some h1]
    exact h k s
  · cases hv
theorem sum2RK {lib : Lib} {f : FuncId} {F : Rg → BL → Value} (h : ∀ r k s, plainV (F r k) = true ∧ ∃ t, run Try.prog lib hints f [rv r, sv k] s = some (F r k, t)) : SumOk Try.prog lib hints f (gP (G2RK F)) := sumP fun xs v s hv => by
  unfold G2RK at hv
  split at hv
  · simp only [Option.bind_eq_some_iff, Option.map_eq_some_iff] at hv
    obtain ⟨r, h1, k, h2, rfl⟩ := hv
    rw [asRg_some h1, asBl_some h2]
    exact h r k s
  · cases hv
theorem sum2RR {lib : Lib} {f : FuncId} {F : Rg → Rg → Value} (h : ∀ r k s, plainV (F r k) = true ∧ ∃ t, run Try.prog lib hints f [rv r, rv k] s = some (F r k, t)) : SumOk Try.prog lib hints f (gP (G2RR F)) := sumP fun xs v s hv => by
  unfold G2RR at hv
  split at hv
  · simp only [Option.bind_eq_some_iff, Option.map_eq_some_iff] at hv
    obtain ⟨r, h1, k, h2, rfl⟩ := hv
    rw [asRg_some h1, asRg_some h2]
    exact h r k s
  · cases hv
theorem sum2KK {lib : Lib} {f : FuncId} {F : BL → BL → Value} (h : ∀ r k s, plainV (F r k) = true ∧ ∃ t, run Try.prog lib hints f [sv r, sv k] s = some (F r k, t)) : SumOk Try.prog lib hints f (gP (G2KK F)) := sumP fun xs v s hv => by
  unfold G2KK at hv
  split at hv
  · simp only [Option.bind_eq_some_iff, Option.map_eq_some_iff] at hv
    obtain ⟨r, h1, k, h2, rfl⟩ := hv
    rw [asBl_some h1, asBl_some h2]
    exact h r k s
  · cases hv

/-! ### Keys -/
theorem nil_sv : (Value.string ⟨#[]⟩) = sv [] := rfl
theorem len12 {k : BL} : decide (((k.length : Nat) : Int) > 12) = !decide (k.length ≤ 12) := by
  by_cases h : k.length ≤ 12
  · simp [h]; omega
  · simp [h]; omega
theorem CheckKey_run {R : Caller} (k : BL) (s : St) : span_CheckKey R (sv k) s = some (.int .i64 (eK k), s) := by
  unfold span_CheckKey eK ckK
  rw [nil_sv]
  simp only [e_seql, e_lenV, len12, Option.bind_some, Option.map_some, getL_0, getL_1, getL_2, getL_3, getL_4, getL_5, getL_6, getL_7, getL_8, getL_9, getL_10, getL_11, getL_12, condV_t, condV_f, guardV_tt, guardV_ff, guardV_tf, guardV_ft, guardV_u, apick_t, apick_f, exV_exit, exV_ret, lookE_same, joinK_eq, seqA_n, seqA_e, seqA_r, e_add, e_sub, e_mul, e_eql, e_neq, e_lss, e_leq, e_gtr, e_geq, e_conv, e_not, e_neg, and_guard, or_guard]
  cases h1 : (k == []) <;> cases h2 : decide (k.length ≤ 12) <;> simp only [bne, h1, h2, Bool.not_true, Bool.not_false, Bool.true_or, Bool.false_or, Bool.or_true, Bool.or_false, Bool.and_true, Bool.and_false, if_true, if_false, Bool.false_eq_true, Option.bind_some, Option.map_some, getL_0, getL_1, getL_2, getL_3, getL_4, getL_5, getL_6, getL_7, getL_8, getL_9, getL_10, getL_11, getL_12, condV_t, condV_f, guardV_tt, guardV_ff, guardV_tf, guardV_ft, guardV_u, apick_t, apick_f, exV_exit, exV_ret, lookE_same, joinK_eq, seqA_n, seqA_e, seqA_r, e_add, e_sub, e_mul, e_eql, e_neq, e_lss, e_leq, e_gtr, e_geq, e_conv, e_not, e_neg, and_guard, or_guard, retV] <;> rfl
theorem refCheckKey_run {R : Caller} (k : BL) (s : St) : ref02_CheckKey R (sv k) s = some (.int .i64 (eK k), s) := by
  unfold ref02_CheckKey eK ckK
  have h0 : decide (((k.length : Nat) : Int) < 1) = (k == []) := by
    cases k with
    | nil => rfl
    | cons x k => simp; omega
  simp only [e_lenV, h0, len12, Option.bind_some, Option.map_some, getL_0, getL_1, getL_2, getL_3, getL_4, getL_5, getL_6, getL_7, getL_8, getL_9, getL_10, getL_11, getL_12, condV_t, condV_f, guardV_tt, guardV_ff, guardV_tf, guardV_ft, guardV_u, apick_t, apick_f, exV_exit, exV_ret, lookE_same, joinK_eq, seqA_n, seqA_e, seqA_r, e_add, e_sub, e_mul, e_eql, e_neq, e_lss, e_leq, e_gtr, e_geq, e_conv, e_not, e_neg, and_guard, or_guard]
  cases h1 : (k == []) <;> cases h2 : decide (k.length ≤ 12) <;> simp only [bne, h1, h2, Bool.not_true, Bool.not_false, Bool.true_or, Bool.false_or, Bool.or_true, Bool.or_false, Bool.and_true, Bool.and_false, if_true, if_false, Bool.false_eq_true, Option.bind_some, Option.map_some, getL_0, getL_1, getL_2, getL_3, getL_4, getL_5, getL_6, getL_7, getL_8, getL_9, getL_10, getL_11, getL_12, condV_t, condV_f, guardV_tt, guardV_ff, guardV_tf, guardV_ft, guardV_u, apick_t, apick_f, exV_exit, exV_ret, lookE_same, joinK_eq, seqA_n, seqA_e, seqA_r, e_add, e_sub, e_mul, e_eql, e_neq, e_lss, e_leq, e_gtr, e_geq, e_conv, e_not, e_neg, and_guard, or_guard, retV] <;> rfl

end Go.Proofs.Ytcahddipgocpfaa.Ab
