/- Pairs of strings: as values, and compared. -/
import Derived.Test.YtamaapapaiopiaaLib0
import Derived.Test.YtamaapapaiopiaaBOrd
import Derived.Test.YtamaapapaiopiaaSh
set_option linter.unusedVariables false
set_option linter.unusedSimpArgs false
set_option linter.unusedSectionVars false
namespace Go.Proofs.Ytamaapapaiopiaa.Ab
open Go

theorem pr_bind {P : Program} {α β : Type} (m : Sem α) (f : α → Sem β) : pureRun P (m >>= f) = (pureRun P m).bind fun a => pureRun P (f a) := by
  show pureRun P (Sem.bind m f) = _
  induction m with
  | pure a => rfl
  | program k ih => simp only [Sem.bind, pureRun]; exact ih P
  | _ => rfl
theorem pr_pure {P : Program} {α : Type} (a : α) : pureRun P (Pure.pure a : Sem α) = some a := rfl
theorem pr_program {P : Program} : pureRun P (program : Sem Program) = some P := rfl
theorem pr_und {P : Program} {t : TypeId} {d : TypeDesc} (h : P.underlying t = some d) : pureRun P (underlying t) = some d := by
  unfold underlying
  rw [pr_bind, pr_program]
  simp only [Option.bind_some, h]
  rfl
theorem pr_str {P : Program} {d : Nat} {t : TypeId} {a b : ByteArray} (h : P.underlying t = some .string) : pureRun P (Op.equalIn (d + 1) t (.string a) (.string b)) = some (a == b) := by
  unfold Op.equalIn
  rw [pr_bind, pr_und h]
  simp only [Option.bind_some, pr_pure]

abbrev BL := List UInt8
abbrev Rg := BL × BL
def rv (r : Rg) : Value := .agg #[sv r.1, sv r.2]
def asBl : Value → Option BL
  | .string a => some a.data.toList
  | _ => none
def asRg : Value → Option Rg
  | .agg cs => match cs.toList with
    | [.string a, .string b] => some (a.data.toList, b.data.toList)
    | _ => none
  | _ => none
theorem asBl_sv {l : BL} : asBl (sv l) = some l := rfl
theorem asRg_rv {r : Rg} : asRg (rv r) = some r := rfl
theorem asBl_some {v : Value} {l : BL} (h : asBl v = some l) : v = sv l := by
  unfold asBl at h
  split at h
  · cases h; exact sv_of _
  · cases h
theorem asRg_some {v : Value} {r : Rg} (h : asRg v = some r) : v = rv r := by
  unfold asRg at h
  split at h
  · rename_i cs
    split at h
    · rename_i a b e
      cases h
      obtain ⟨l⟩ := cs
      simp only at e
      subst e
      unfold rv
      rw [← sv_of, ← sv_of]
    · cases h
  · cases h

theorem bytes_beq {a b : BL} : ((⟨a.toArray⟩ : ByteArray) == ⟨b.toArray⟩) = (a == b) := by
  show (a.toArray == b.toArray) = (a == b)
  simp

theorem rv_eql (o1 o2 : Operand) (a b : Rg) : abin Try.prog .eql 74 o1 o2 (rv a) (rv b) = some (.bool (a.1 == b.1 && a.2 == b.2)) := by
  have hu := pr_und Try.underlying74
  have hg : pureRun Try.prog (eqGuard .eql 74 o1 o2 (.agg #[sv a.1, sv a.2]) (.agg #[sv b.1, sv b.2])) = some () := by kernel_rfl
  have hh : Try.prog.stoodInHeld 74 = false := by kernel_rfl
  have hp : ∀ x y : BL, pureRun Try.prog (part 9 #[sv x, sv y] 0) = some (sv x) ∧ pureRun Try.prog (part 9 #[sv x, sv y] 1) = some (sv y) := fun x y => by
    refine ⟨?_, ?_⟩ <;> kernel_rfl
  have he : ∀ (n : Nat) (x y : BL), pureRun Try.prog (Op.equalIn (n + 1) 9 (sv x) (sv y)) = some (x == y) := fun n x y => by
    unfold sv
    rw [pr_str Try.underlying9, bytes_beq]
  unfold abin aggBin rv
  simp only
  have hc : (constOk (.agg #[sv a.1, sv a.2]) && constOk (.agg #[sv b.1, sv b.2])) = true := rfl
  rw [if_pos hc, pr_bind, hg]
  simp only [Option.bind_some, binOp]
  rw [pr_bind]
  have key : pureRun Try.prog (Op.equal 74 (.agg #[sv a.1, sv a.2]) (.agg #[sv b.1, sv b.2])) = some (a.1 == b.1 && a.2 == b.2) := by
    unfold Op.equal Op.maxDepth Op.equalIn
    rw [pr_bind, hu]
    simp only [Option.bind_some]
    rw [pr_bind, pr_program]
    simp only [Option.bind_some, hh, Bool.false_eq_true, if_false, pr_bind]
    have hLo : ("Lo" ≠ "_") = True := by simp
    have hHi : ("Hi" ≠ "_") = True := by simp
    simp only [List.forIn_toArray, List.forIn_cons, List.forIn_nil]
    cases h1 : (a.1 == b.1)
    · simp only [Option.bind_some, pr_bind, pr_pure, Nat.reduceAdd, hLo, hHi, if_true, (hp _ _).1, (hp _ _).2, he, Bool.not_true, Bool.not_false, Bool.false_eq_true, if_false, Bool.true_and, Bool.false_and, Bool.and_true, h1]
    cases h2 : (a.2 == b.2)
    · simp only [Option.bind_some, pr_bind, pr_pure, Nat.reduceAdd, hLo, hHi, if_true, (hp _ _).1, (hp _ _).2, he, Bool.not_true, Bool.not_false, Bool.false_eq_true, if_false, Bool.true_and, Bool.false_and, Bool.and_true, h1, h2]
    · simp only [Option.bind_some, pr_bind, pr_pure, Nat.reduceAdd, hLo, hHi, if_true, (hp _ _).1, (hp _ _).2, he, Bool.not_true, Bool.not_false, Bool.false_eq_true, if_false, Bool.true_and, Bool.false_and, Bool.and_true, h1, h2]
  rw [key]
  rfl

theorem rv_neq (o1 o2 : Operand) (a b : Rg) : abin Try.prog .neq 74 o1 o2 (rv a) (rv b) = some (.bool (!(a.1 == b.1 && a.2 == b.2))) := by
  have hu := pr_und Try.underlying74
  have hg : pureRun Try.prog (eqGuard .neq 74 o1 o2 (.agg #[sv a.1, sv a.2]) (.agg #[sv b.1, sv b.2])) = some () := by kernel_rfl
  have h0 := rv_eql o1 o2 a b
  have hg0 : pureRun Try.prog (eqGuard .eql 74 o1 o2 (.agg #[sv a.1, sv a.2]) (.agg #[sv b.1, sv b.2])) = some () := by kernel_rfl
  unfold abin aggBin rv at h0 ⊢
  simp only at h0 ⊢
  have hc : (constOk (.agg #[sv a.1, sv a.2]) && constOk (.agg #[sv b.1, sv b.2])) = true := rfl
  rw [if_pos hc, pr_bind, hg0] at h0
  rw [if_pos hc, pr_bind, hg]
  simp only [Option.bind_some, binOp, pr_bind, pr_pure] at h0 ⊢
  cases e : pureRun Try.prog (Op.equal 74 (.agg #[sv a.1, sv a.2]) (.agg #[sv b.1, sv b.2])) with
  | none => rw [e] at h0; cases h0
  | some r =>
    rw [e] at h0
    simp only [Option.bind_some] at h0 ⊢
    cases h0
    rfl

end Go.Proofs.Ytamaapapaiopiaa.Ab

/- Keys and ranges: what the functions do. -/
namespace Go.Proofs.Ytamaapapaiopiaa.Ab
open Go

/-! ### What they say -/
def ckK (k : BL) : Bool := k != [] && decide (k.length ≤ 12)
def ckR (r : Rg) : Bool := decide (r.1.length ≤ 12) && decide (r.2.length ≤ 12) && (r.2 == [] || bl r.1 r.2)
def eK (k : BL) : Int := if ckK k then 0 else 20
def eR (r : Rg) : Int := if ckR r then 0 else 21
def hasR (r : Rg) (k : BL) : Bool := ckR r && ckK k && !bl k r.1 && (r.2 == [] || bl k r.2)

/-- a function of values, without memory -/
def gP (G : List Value → Option Value) : Sum := fun xs s => (G xs).map fun v => (v, s)
theorem gP_eq {G : List Value → Option Value} {xs : List Value} {v : Value} {s : St} (h : G xs = some v) : gP G xs s = some (v, s) := by simp only [gP, h, Option.map_some]
theorem sumP {lib : Lib} {f : FuncId} {G : List Value → Option Value} (h : ∀ xs v s, G xs = some v → plainV v = true ∧ ∃ t, run Try.prog lib hints f xs s = some (v, t)) : SumOk Try.prog lib hints f (gP G) :=
  SumOk.plain (G := fun xs _ => G xs) fun xs s v hv => h xs v (frzS s) hv
def G1K (F : BL → Value) : List Value → Option Value
  | [v] => (asBl v).map F
  | _ => none
def G1R (F : Rg → Value) : List Value → Option Value
  | [v] => (asRg v).map F
  | _ => none
def G2RK (F : Rg → BL → Value) : List Value → Option Value
  | [v, w] => (asRg v).bind fun r => (asBl w).map fun k => F r k
  | _ => none
def G2RR (F : Rg → Rg → Value) : List Value → Option Value
  | [v, w] => (asRg v).bind fun r => (asRg w).map fun k => F r k
  | _ => none
def G2KK (F : BL → BL → Value) : List Value → Option Value
  | [v, w] => (asBl v).bind fun r => (asBl w).map fun k => F r k
  | _ => none
theorem sum1K {lib : Lib} {f : FuncId} {F : BL → Value} (h : ∀ k s, plainV (F k) = true ∧ ∃ t, run Try.prog lib hints f [sv k] s = some (F k, t)) : SumOk Try.prog lib hints f (gP (G1K F)) := sumP fun xs v s hv => by
  unfold G1K at hv
  split at hv
  · simp only [Option.map_eq_some_iff] at hv
    obtain ⟨k, h1, rfl⟩ := hv
    rw [asBl_some h1]
    exact h k s
  · cases hv
theorem sum1R {lib : Lib} {f : FuncId} {F : Rg → Value} (h : ∀ k s, plainV (F k) = true ∧ ∃ t, run Try.prog lib hints f [rv k] s = some (F k, t)) : SumOk Try.prog lib hints f (gP (G1R F)) := sumP fun xs v s hv => by
  unfold G1R at hv
  split at hv
  · simp only [Option.map_eq_some_iff] at hv
    obtain ⟨k, h1, rfl⟩ := hv
    rw [asRg_some h1]
    exact h k s
  · cases hv
theorem sum2RK {lib : Lib} {f : FuncId} {F : Rg → BL → Value} (h : ∀ r k s, plainV (F r k) = true ∧ ∃ t, run Try.prog lib hints f [rv r, sv k] s = some (F r k, t)) : SumOk Try.prog lib hints f (gP (G2RK F)) := sumP fun xs v s hv => by
  unfold G2RK at hv
  split at hv
  · simp only [Option.bind_eq_some_iff, Option.map_eq_some_iff] at hv
    obtain ⟨r, h1, k, h2, rfl⟩ := hv
    rw [asRg_some h1, asBl_some h2]
    exact h r k s
  · cases hv
theorem sum2RR {lib : Lib} {f : FuncId} {F : Rg → Rg → Value} (h : ∀ r k s, plainV (F r k) = true ∧ ∃ t, run Try.prog lib hints f [rv r, rv k] s = some (F r k, t)) : SumOk Try.prog lib hints f (gP (G2RR F)) := sumP fun xs v s hv => by
  unfold G2RR at hv
  split at hv
  · simp only [Option.bind_eq_some_iff, Option.map_eq_some_iff] at hv
    obtain ⟨r, h1, k, h2, rfl⟩ := hv
    rw [asRg_some h1, asRg_some h2]
    exact h r k s
  · cases hv
theorem sum2KK {lib : Lib} {f : FuncId} {F : BL → BL → Value} (h : ∀ r k s, plainV (F r k) = true ∧ ∃ t, run Try.prog lib hints f [sv r, sv k] s = some (F r k, t)) : SumOk Try.prog lib hints f (gP (G2KK F)) := sumP fun xs v s hv => by
  unfold G2KK at hv
  split at hv
  · simp only [Option.bind_eq_some_iff, Option.map_eq_some_iff] at hv
    obtain ⟨r, h1, k, h2, rfl⟩ := hv
    rw [asBl_some h1, asBl_some h2]
    exact h r k s
  · cases hv

/-! ### Keys -/
theorem nil_sv : (Value.string ⟨#[]⟩) = sv [] := rfl
theorem len12 {k : BL} : decide (((k.length : Nat) : Int) > 12) = !decide (k.length ≤ 12) := by
  by_cases h : k.length ≤ 12
  · simp [h]; omega
  · simp [h]; omega
theorem CheckKey_run {R : Caller} (k : BL) (s : St) : span_CheckKey R (sv k) s = some (.int .i64 (eK k), s) := by
  unfold span_CheckKey eK ckK
  rw [nil_sv]
  simp only [e_seql, e_lenV, len12, n_bind, n_map, getL_0, getL_1, getL_2, getL_3, getL_4, getL_5, getL_6, getL_7, getL_8, getL_9, getL_10, getL_11, getL_12, condV_t, condV_f, guardV_tt, guardV_ff, guardV_tf, guardV_ft, guardV_u, apick_t, apick_f, exV_exit, exV_ret, lookE_same, joinK_eq, seqA_n, seqA_e, seqA_r, e_add, e_sub, e_mul, e_eql, e_neq, e_lss, e_leq, e_gtr, e_geq, e_conv, e_not, e_neg, and_guard, or_guard]
  cases h1 : (k == []) <;> cases h2 : decide (k.length ≤ 12) <;> simp only [bne, h1, h2, Bool.not_true, Bool.not_false, Bool.true_or, Bool.false_or, Bool.or_true, Bool.or_false, Bool.and_true, Bool.and_false, if_true, if_false, Bool.false_eq_true, n_bind, n_map, getL_0, getL_1, getL_2, getL_3, getL_4, getL_5, getL_6, getL_7, getL_8, getL_9, getL_10, getL_11, getL_12, condV_t, condV_f, guardV_tt, guardV_ff, guardV_tf, guardV_ft, guardV_u, apick_t, apick_f, exV_exit, exV_ret, lookE_same, joinK_eq, seqA_n, seqA_e, seqA_r, e_add, e_sub, e_mul, e_eql, e_neq, e_lss, e_leq, e_gtr, e_geq, e_conv, e_not, e_neg, and_guard, or_guard, retV] <;> rfl
theorem refCheckKey_run {R : Caller} (k : BL) (s : St) : ref02_CheckKey R (sv k) s = some (.int .i64 (eK k), s) := by
  unfold ref02_CheckKey eK ckK
  have h0 : decide (((k.length : Nat) : Int) < 1) = (k == []) := by
    cases k with
    | nil => rfl
    | cons x k => simp; omega
  simp only [e_lenV, h0, len12, n_bind, n_map, getL_0, getL_1, getL_2, getL_3, getL_4, getL_5, getL_6, getL_7, getL_8, getL_9, getL_10, getL_11, getL_12, condV_t, condV_f, guardV_tt, guardV_ff, guardV_tf, guardV_ft, guardV_u, apick_t, apick_f, exV_exit, exV_ret, lookE_same, joinK_eq, seqA_n, seqA_e, seqA_r, e_add, e_sub, e_mul, e_eql, e_neq, e_lss, e_leq, e_gtr, e_geq, e_conv, e_not, e_neg, and_guard, or_guard]
  cases h1 : (k == []) <;> cases h2 : decide (k.length ≤ 12) <;> simp only [bne, h1, h2, Bool.not_true, Bool.not_false, Bool.true_or, Bool.false_or, Bool.or_true, Bool.or_false, Bool.and_true, Bool.and_false, if_true, if_false, Bool.false_eq_true, n_bind, n_map, getL_0, getL_1, getL_2, getL_3, getL_4, getL_5, getL_6, getL_7, getL_8, getL_9, getL_10, getL_11, getL_12, condV_t, condV_f, guardV_tt, guardV_ff, guardV_tf, guardV_ft, guardV_u, apick_t, apick_f, exV_exit, exV_ret, lookE_same, joinK_eq, seqA_n, seqA_e, seqA_r, e_add, e_sub, e_mul, e_eql, e_neq, e_lss, e_leq, e_gtr, e_geq, e_conv, e_not, e_neg, and_guard, or_guard, retV] <;> rfl
end Go.Proofs.Ytamaapapaiopiaa.Ab

/- Keys and ranges: what the functions do, further. -/
namespace Go.Proofs.Ytamaapapaiopiaa.Ab
open Go

theorem z_rv : (Value.agg #[.string ⟨#[]⟩, .string ⟨#[]⟩]) = rv ([], []) := rfl
theorem box_rv (r : Rg) : lbox (rv r) = some (rv r) := rfl
theorem ld_rv (r : Rg) : lload true 2 lptr (rv r) = some (rv r) := rfl
theorem ad_0 : afieldAddr 0 lptr = some (.pointer (some ⟨0, 0, none⟩)) := rfl
theorem ad_1 : afieldAddr 1 lptr = some (.pointer (some ⟨0, 1, none⟩)) := rfl
theorem ld_0 (r : Rg) : lload false 1 lptr (rv r) = some (sv r.1) := rfl
theorem ld_00 (r : Rg) : lload false 1 (.pointer (some ⟨0, 0, none⟩)) (rv r) = some (sv r.1) := rfl
theorem z_rv2 : (Value.agg #[sv [], sv []]) = rv ([], []) := rfl
theorem ld_1 (r : Rg) : lload false 1 (.pointer (some ⟨0, 1, none⟩)) (rv r) = some (sv r.2) := rfl
theorem own_id {α : Type} {s : St} {a : α} : ownR s (a, s) = some (a, s) := by unfold ownR; rw [if_pos (Nat.le_refl _)]
theorem all_run {R : Caller} (s : St) : span_all R s = some (rv ([], []), s) := rfl

theorem geq_bl {P : Program} {t : TypeId} {o1 o2 : Operand} {a b : BL} : abin P .geq t o1 o2 (sv a) (sv b) = some (.bool (!bl a b)) := e_sgeq
theorem Check_run {R : Caller} (hR : ∀ s, R 88 [] s = some (rv ([], []), s)) (r : Rg) (s : St) : span_Check R (rv r) s = some (.int .i64 (eR r), s) := by
  obtain ⟨a, b⟩ := r
  unfold span_Check
  simp only [z_rv, z_rv2, box_rv, ld_rv, span_all_call, hR, own_id, rv_eql, ad_0, ad_1, ld_0, ld_1, nil_sv, e_lenV, len12, e_sneq, geq_bl, n_bind, n_map, getL_0, getL_1, getL_2, getL_3, getL_4, getL_5, getL_6, getL_7, getL_8, getL_9, getL_10, getL_11, getL_12, condV_t, condV_f, guardV_tt, guardV_ff, guardV_tf, guardV_ft, guardV_u, apick_t, apick_f, exV_exit, exV_ret, lookE_same, joinK_eq, seqA_n, seqA_e, seqA_r, e_add, e_sub, e_mul, e_eql, e_neq, e_lss, e_leq, e_gtr, e_geq, e_conv, e_not, e_neg, and_guard, or_guard]
  unfold eR ckR
  by_cases h0 : a = [] ∧ b = []
  · obtain ⟨rfl, rfl⟩ := h0
    rfl
  · have e0 : (a == [] && b == []) = false := by
      cases h1 : (a == []) <;> cases h2 : (b == []) <;> simp_all
    simp only [e0, n_bind, n_map, getL_0, getL_1, getL_2, getL_3, getL_4, getL_5, getL_6, getL_7, getL_8, getL_9, getL_10, getL_11, getL_12, condV_t, condV_f, guardV_tt, guardV_ff, guardV_tf, guardV_ft, guardV_u, apick_t, apick_f, exV_exit, exV_ret, lookE_same, joinK_eq, seqA_n, seqA_e, seqA_r, e_add, e_sub, e_mul, e_eql, e_neq, e_lss, e_leq, e_gtr, e_geq, e_conv, e_not, e_neg, and_guard, or_guard]
    cases h1 : decide (a.length ≤ 12) <;> cases h2 : decide (b.length ≤ 12) <;> cases h3 : (b == []) <;> cases h4 : bl a b <;> simp only [span_Check.j0, h1, h2, h3, h4, Bool.not_true, Bool.not_false, Bool.true_or, Bool.false_or, Bool.or_true, Bool.or_false, Bool.and_true, Bool.and_false, Bool.true_and, Bool.false_and, if_true, if_false, Bool.false_eq_true, z_rv, z_rv2, ld_rv, ld_0, ld_00, ld_1, n_bind, n_map, getL_0, getL_1, getL_2, getL_3, getL_4, getL_5, getL_6, getL_7, getL_8, getL_9, getL_10, getL_11, getL_12, condV_t, condV_f, guardV_tt, guardV_ff, guardV_tf, guardV_ft, guardV_u, apick_t, apick_f, exV_exit, exV_ret, lookE_same, joinK_eq, seqA_n, seqA_e, seqA_r, e_add, e_sub, e_mul, e_eql, e_neq, e_lss, e_leq, e_gtr, e_geq, e_conv, e_not, e_neg, and_guard, or_guard, retV] <;> rfl
theorem refCheck_run {R : Caller} (r : Rg) (s : St) : ref02_Check R (rv r) s = some (.int .i64 (eR r), s) := by
  obtain ⟨a, b⟩ := r
  unfold ref02_Check
  simp only [z_rv, z_rv2, box_rv, ld_rv, ad_0, ad_1, ld_0, ld_1, nil_sv, e_lenV, len12, e_sneq, geq_bl, n_bind, n_map, getL_0, getL_1, getL_2, getL_3, getL_4, getL_5, getL_6, getL_7, getL_8, getL_9, getL_10, getL_11, getL_12, condV_t, condV_f, guardV_tt, guardV_ff, guardV_tf, guardV_ft, guardV_u, apick_t, apick_f, exV_exit, exV_ret, lookE_same, joinK_eq, seqA_n, seqA_e, seqA_r, e_add, e_sub, e_mul, e_eql, e_neq, e_lss, e_leq, e_gtr, e_geq, e_conv, e_not, e_neg, and_guard, or_guard]
  unfold eR ckR
  cases h1 : decide (a.length ≤ 12) <;> cases h2 : decide (b.length ≤ 12) <;> cases h3 : (b == []) <;> cases h4 : bl a b <;> simp only [h1, h2, h3, h4, Bool.not_true, Bool.not_false, Bool.true_or, Bool.false_or, Bool.or_true, Bool.or_false, Bool.and_true, Bool.and_false, Bool.true_and, Bool.false_and, if_true, if_false, Bool.false_eq_true, z_rv, z_rv2, ld_rv, ld_0, ld_00, ld_1, n_bind, n_map, getL_0, getL_1, getL_2, getL_3, getL_4, getL_5, getL_6, getL_7, getL_8, getL_9, getL_10, getL_11, getL_12, condV_t, condV_f, guardV_tt, guardV_ff, guardV_tf, guardV_ft, guardV_u, apick_t, apick_f, exV_exit, exV_ret, lookE_same, joinK_eq, seqA_n, seqA_e, seqA_r, e_add, e_sub, e_mul, e_eql, e_neq, e_lss, e_leq, e_gtr, e_geq, e_conv, e_not, e_neg, and_guard, or_guard, retV] <;> rfl
end Go.Proofs.Ytamaapapaiopiaa.Ab

/- Keys and ranges: Has, least, below. -/
namespace Go.Proofs.Ytamaapapaiopiaa.Ab
open Go

theorem leq_bl {P : Program} {t : TypeId} {o1 o2 : Operand} {a b : BL} : abin P .leq t o1 o2 (sv a) (sv b) = some (.bool (!bl b a)) := by
  rw [e_sleq]
  congr 2
  by_cases h : a = b
  · subst h
    have := bl_irrefl a
    simp only [bl] at this
    simp [this]
  · rcases bl_total h with g | g
    · have g2 := bl_asymm g
      simp only [bl] at g g2 ⊢
      simp [g, g2]
    · have g2 := bl_asymm g
      simp only [bl] at g g2 ⊢
      simp [g, g2, h]
theorem lss_bl {P : Program} {t : TypeId} {o1 o2 : Operand} {a b : BL} : abin P .lss t o1 o2 (sv a) (sv b) = some (.bool (bl a b)) := e_slss
theorem eR_0 {r : Rg} : (eR r == 0) = ckR r := by unfold eR; cases ckR r <;> rfl
theorem eK_0 {k : BL} : (eK k == 0) = ckK k := by unfold eK; cases ckK k <;> rfl
theorem Has_run {R : Caller} (hR : ∀ r s, R 82 [rv r] s = some (.int .i64 (eR r), s)) (hK : ∀ k s, R 30 [sv k] s = some (.int .i64 (eK k), s)) (r : Rg) (k : BL) (s : St) : span_Has R (rv r) (sv k) s = some (.bool (hasR r k), s) := by
  obtain ⟨a, b⟩ := r
  unfold span_Has
  simp only [z_rv, z_rv2, box_rv, ld_rv, span_Check_call, span_CheckKey_call, hR, hK, ad_0, ad_1, ld_0, ld_1, nil_sv, e_seql, leq_bl, lss_bl, eR_0, eK_0, n_bind, n_map, getL_0, getL_1, getL_2, getL_3, getL_4, getL_5, getL_6, getL_7, getL_8, getL_9, getL_10, getL_11, getL_12, condV_t, condV_f, guardV_tt, guardV_ff, guardV_tf, guardV_ft, guardV_u, apick_t, apick_f, exV_exit, exV_ret, lookE_same, joinK_eq, seqA_n, seqA_e, seqA_r, e_add, e_sub, e_mul, e_eql, e_neq, e_lss, e_leq, e_gtr, e_geq, e_conv, e_not, e_neg, and_guard, or_guard]
  unfold hasR
  cases h1 : ckR (a, b) <;> cases h2 : ckK k <;> cases h3 : bl k a <;> cases h4 : (b == []) <;> cases h5 : bl k b <;> simp only [h1, h2, h3, h4, h5, Bool.not_true, Bool.not_false, Bool.true_or, Bool.false_or, Bool.or_true, Bool.or_false, Bool.and_true, Bool.and_false, Bool.true_and, Bool.false_and, if_true, if_false, Bool.false_eq_true, z_rv, z_rv2, ld_rv, ld_0, ld_00, ld_1, n_bind, n_map, getL_0, getL_1, getL_2, getL_3, getL_4, getL_5, getL_6, getL_7, getL_8, getL_9, getL_10, getL_11, getL_12, condV_t, condV_f, guardV_tt, guardV_ff, guardV_tf, guardV_ft, guardV_u, apick_t, apick_f, exV_exit, exV_ret, lookE_same, joinK_eq, seqA_n, seqA_e, seqA_r, e_add, e_sub, e_mul, e_eql, e_neq, e_lss, e_leq, e_gtr, e_geq, e_conv, e_not, e_neg, and_guard, or_guard, retV] <;> rfl
theorem refHas_run {R : Caller} (hR : ∀ r s, R 72 [rv r] s = some (.int .i64 (eR r), s)) (hK : ∀ k s, R 69 [sv k] s = some (.int .i64 (eK k), s)) (r : Rg) (k : BL) (s : St) : ref02_Has R (rv r) (sv k) s = some (.bool (hasR r k), s) := by
  obtain ⟨a, b⟩ := r
  unfold ref02_Has
  simp only [z_rv, z_rv2, box_rv, ld_rv, ref02_Check_call, ref02_CheckKey_call, hR, hK, ad_0, ad_1, ld_0, ld_1, nil_sv, e_seql, geq_bl, lss_bl, eR_0, eK_0, n_bind, n_map, getL_0, getL_1, getL_2, getL_3, getL_4, getL_5, getL_6, getL_7, getL_8, getL_9, getL_10, getL_11, getL_12, condV_t, condV_f, guardV_tt, guardV_ff, guardV_tf, guardV_ft, guardV_u, apick_t, apick_f, exV_exit, exV_ret, lookE_same, joinK_eq, seqA_n, seqA_e, seqA_r, e_add, e_sub, e_mul, e_eql, e_neq, e_lss, e_leq, e_gtr, e_geq, e_conv, e_not, e_neg, and_guard, or_guard]
  unfold hasR
  cases h1 : ckR (a, b) <;> cases h2 : ckK k <;> cases h3 : bl k a <;> cases h4 : (b == []) <;> cases h5 : bl k b <;> simp only [h1, h2, h3, h4, h5, Bool.not_true, Bool.not_false, Bool.true_or, Bool.false_or, Bool.or_true, Bool.or_false, Bool.and_true, Bool.and_false, Bool.true_and, Bool.false_and, if_true, if_false, Bool.false_eq_true, z_rv, z_rv2, ld_rv, ld_0, ld_00, ld_1, n_bind, n_map, getL_0, getL_1, getL_2, getL_3, getL_4, getL_5, getL_6, getL_7, getL_8, getL_9, getL_10, getL_11, getL_12, condV_t, condV_f, guardV_tt, guardV_ff, guardV_tf, guardV_ft, guardV_u, apick_t, apick_f, exV_exit, exV_ret, lookE_same, joinK_eq, seqA_n, seqA_e, seqA_r, e_add, e_sub, e_mul, e_eql, e_neq, e_lss, e_leq, e_gtr, e_geq, e_conv, e_not, e_neg, and_guard, or_guard, retV] <;> rfl

/-- the lesser one of two ends, an empty one being above all -/
def leastL (a b : BL) : BL := if a == [] || (b != [] && bl b a) then b else a
def belowL (a b : BL) : Bool := a != [] && (b == [] || bl a b)
theorem least_run {R : Caller} (a b : BL) (s : St) : span_least R (sv a) (sv b) s = some (sv (leastL a b), s) := by
  unfold span_least
  simp only [nil_sv, e_seql, e_sneq, lss_bl, n_bind, n_map, getL_0, getL_1, getL_2, getL_3, getL_4, getL_5, getL_6, getL_7, getL_8, getL_9, getL_10, getL_11, getL_12, condV_t, condV_f, guardV_tt, guardV_ff, guardV_tf, guardV_ft, guardV_u, apick_t, apick_f, exV_exit, exV_ret, lookE_same, joinK_eq, seqA_n, seqA_e, seqA_r, e_add, e_sub, e_mul, e_eql, e_neq, e_lss, e_leq, e_gtr, e_geq, e_conv, e_not, e_neg, and_guard, or_guard]
  unfold leastL
  cases h1 : (a == []) <;> cases h2 : (b == []) <;> cases h3 : bl b a <;> simp only [bne, h1, h2, h3, Bool.not_true, Bool.not_false, Bool.true_or, Bool.false_or, Bool.or_true, Bool.or_false, Bool.and_true, Bool.and_false, Bool.true_and, Bool.false_and, if_true, if_false, Bool.false_eq_true, z_rv, z_rv2, ld_rv, ld_0, ld_00, ld_1, n_bind, n_map, getL_0, getL_1, getL_2, getL_3, getL_4, getL_5, getL_6, getL_7, getL_8, getL_9, getL_10, getL_11, getL_12, condV_t, condV_f, guardV_tt, guardV_ff, guardV_tf, guardV_ft, guardV_u, apick_t, apick_f, exV_exit, exV_ret, lookE_same, joinK_eq, seqA_n, seqA_e, seqA_r, e_add, e_sub, e_mul, e_eql, e_neq, e_lss, e_leq, e_gtr, e_geq, e_conv, e_not, e_neg, and_guard, or_guard, retV] <;> rfl
theorem below_run {R : Caller} (a b : BL) (s : St) : ref02_below R (sv a) (sv b) s = some (.bool (belowL a b), s) := by
  unfold ref02_below
  simp only [nil_sv, e_seql, e_sneq, lss_bl, n_bind, n_map, getL_0, getL_1, getL_2, getL_3, getL_4, getL_5, getL_6, getL_7, getL_8, getL_9, getL_10, getL_11, getL_12, condV_t, condV_f, guardV_tt, guardV_ff, guardV_tf, guardV_ft, guardV_u, apick_t, apick_f, exV_exit, exV_ret, lookE_same, joinK_eq, seqA_n, seqA_e, seqA_r, e_add, e_sub, e_mul, e_eql, e_neq, e_lss, e_leq, e_gtr, e_geq, e_conv, e_not, e_neg, and_guard, or_guard]
  unfold belowL
  cases h1 : (a == []) <;> cases h2 : (b == []) <;> cases h3 : bl a b <;> simp only [bne, h1, h2, h3, Bool.not_true, Bool.not_false, Bool.true_or, Bool.false_or, Bool.or_true, Bool.or_false, Bool.and_true, Bool.and_false, Bool.true_and, Bool.false_and, if_true, if_false, Bool.false_eq_true, z_rv, z_rv2, ld_rv, ld_0, ld_00, ld_1, n_bind, n_map, getL_0, getL_1, getL_2, getL_3, getL_4, getL_5, getL_6, getL_7, getL_8, getL_9, getL_10, getL_11, getL_12, condV_t, condV_f, guardV_tt, guardV_ff, guardV_tf, guardV_ft, guardV_u, apick_t, apick_f, exV_exit, exV_ret, lookE_same, joinK_eq, seqA_n, seqA_e, seqA_r, e_add, e_sub, e_mul, e_eql, e_neq, e_lss, e_leq, e_gtr, e_geq, e_conv, e_not, e_neg, and_guard, or_guard, retV] <;> rfl
end Go.Proofs.Ytamaapapaiopiaa.Ab

/- Ranges: what two have in common, and what covers. -/
namespace Go.Proofs.Ytamaapapaiopiaa.Ab
open Go

theorem ab2 (x y : BL) : abuild Try.prog 74 [(0, sv x), (1, sv y)] = some (rv (x, y)) := by kernel_rfl
theorem ab0 : abuild Try.prog 74 [] = some (rv ([], [])) := by kernel_rfl
theorem st_rv (x y : Rg) : lstore 2 lptr (rv x) (rv y) = some (rv x) := rfl
theorem st_1 (x : BL) (y : Rg) : lstore 1 (.pointer (some ⟨0, 1, none⟩)) (sv x) (rv y) = some (rv (y.1, x)) := rfl
theorem box_z : lbox (.agg #[(.string ⟨#[]⟩), (.string ⟨#[]⟩)]) = some (rv ([], [])) := rfl
theorem eR_n {r : Rg} : (eR r != 0) = !ckR r := by unfold eR; cases ckR r <;> rfl
theorem eK_n {k : BL} : (eK k != 0) = !ckK k := by unfold eK; cases ckK k <;> rfl

def maxL (a b : BL) : BL := if bl a b then b else a
def meetL (a b : Rg) : Option Rg := if ckR a && ckR b && ckR (maxL a.1 b.1, leastL a.2 b.2) then some (maxL a.1 b.1, leastL a.2 b.2) else none
def meetV : Option Rg → Value
  | some m => .tuple #[rv m, .bool true]
  | none => .tuple #[rv ([], []), .bool false]
theorem max_sv {a b : BL} : amax2 (sv a) (sv b) = some (sv (maxL a b)) := by
  unfold amax2 maxL sv
  simp only [bl]
  split <;> simp_all

def covL (a b : Rg) : Bool := ckR a && ckR b && !bl b.1 a.1 && leastL a.2 b.2 == b.2
theorem Covers_run {R : Caller} (hR : ∀ r s, R 82 [rv r] s = some (.int .i64 (eR r), s)) (hL : ∀ a b s, R 83 [sv a, sv b] s = some (sv (leastL a b), s)) (a b : Rg) (s : St) : span_Covers R (rv a) (rv b) s = some (.bool (covL a b), s) := by
  unfold span_Covers
  simp only [z_rv, z_rv2, box_rv, ld_rv, span_Check_call, span_least_call, hR, hL, own_id, ad_0, ad_1, ld_0, ld_1, leq_bl, e_seql, eR_0, n_bind, n_map, getL_0, getL_1, getL_2, getL_3, getL_4, getL_5, getL_6, getL_7, getL_8, getL_9, getL_10, getL_11, getL_12, condV_t, condV_f, guardV_tt, guardV_ff, guardV_tf, guardV_ft, guardV_u, apick_t, apick_f, exV_exit, exV_ret, lookE_same, joinK_eq, seqA_n, seqA_e, seqA_r, e_add, e_sub, e_mul, e_eql, e_neq, e_lss, e_leq, e_gtr, e_geq, e_conv, e_not, e_neg, and_guard, or_guard]
  unfold covL
  cases h1 : ckR a <;> cases h2 : ckR b <;> cases h3 : bl b.1 a.1 <;> simp only [h1, h2, h3, Bool.not_true, Bool.not_false, Bool.true_or, Bool.false_or, Bool.or_true, Bool.or_false, Bool.and_true, Bool.and_false, Bool.true_and, Bool.false_and, if_true, if_false, Bool.false_eq_true, z_rv, z_rv2, ld_rv, ld_0, ld_00, ld_1, n_bind, n_map, getL_0, getL_1, getL_2, getL_3, getL_4, getL_5, getL_6, getL_7, getL_8, getL_9, getL_10, getL_11, getL_12, condV_t, condV_f, guardV_tt, guardV_ff, guardV_tf, guardV_ft, guardV_u, apick_t, apick_f, exV_exit, exV_ret, lookE_same, joinK_eq, seqA_n, seqA_e, seqA_r, e_add, e_sub, e_mul, e_eql, e_neq, e_lss, e_leq, e_gtr, e_geq, e_conv, e_not, e_neg, and_guard, or_guard, hR, hL, span_Check_call, span_least_call, own_id, ld_0, ld_1, leq_bl, e_seql, eR_0, retV] <;> rfl
end Go.Proofs.Ytamaapapaiopiaa.Ab

/- Ranges: the reference's answers to what two have in common, and to what covers. -/
namespace Go.Proofs.Ytamaapapaiopiaa.Ab
open Go

theorem least_below (a b : BL) : leastL a b = if belowL b a then b else a := by
  unfold leastL belowL
  cases h1 : (a == []) <;> cases h2 : (b == []) <;> cases h3 : bl b a <;> simp [bne, h1, h2, h3]
  all_goals simp_all
theorem ckR_len {r : Rg} (h : ckR r = true) : r.1.length ≤ 12 ∧ r.2.length ≤ 12 := by
  unfold ckR at h
  simp only [Bool.and_eq_true, decide_eq_true_eq] at h
  exact h.1
theorem ckR_meet {a b : Rg} (ha : ckR a = true) (hb : ckR b = true) : ckR (maxL a.1 b.1, leastL a.2 b.2) = (leastL a.2 b.2 == [] || bl (maxL a.1 b.1) (leastL a.2 b.2)) := by
  obtain ⟨h1, h2⟩ := ckR_len ha
  obtain ⟨h3, h4⟩ := ckR_len hb
  have h5 : (maxL a.1 b.1).length ≤ 12 := by unfold maxL; split <;> assumption
  have h6 : (leastL a.2 b.2).length ≤ 12 := by unfold leastL; split <;> assumption
  unfold ckR
  simp [h5, h6]
theorem refCovers_run {R : Caller} (hR : ∀ r s, R 72 [rv r] s = some (.int .i64 (eR r), s)) (hB : ∀ a b s, R 73 [sv a, sv b] s = some (.bool (belowL a b), s)) (a b : Rg) (s : St) : ref02_Covers R (rv a) (rv b) s = some (.bool (covL a b), s) := by
  unfold ref02_Covers
  simp only [z_rv, z_rv2, box_rv, ld_rv, ref02_Check_call, ref02_below_call, hR, hB, own_id, ad_0, ad_1, ld_0, ld_1, leq_bl, e_seql, eR_0, n_bind, n_map, getL_0, getL_1, getL_2, getL_3, getL_4, getL_5, getL_6, getL_7, getL_8, getL_9, getL_10, getL_11, getL_12, condV_t, condV_f, guardV_tt, guardV_ff, guardV_tf, guardV_ft, guardV_u, apick_t, apick_f, exV_exit, exV_ret, lookE_same, joinK_eq, seqA_n, seqA_e, seqA_r, e_add, e_sub, e_mul, e_eql, e_neq, e_lss, e_leq, e_gtr, e_geq, e_conv, e_not, e_neg, and_guard, or_guard]
  have hl : (leastL a.2 b.2 == b.2) = !belowL a.2 b.2 := by
    unfold leastL belowL
    by_cases h0 : a.2 = b.2
    · rw [h0]
      have := bl_irrefl b.2
      cases h1 : (b.2 == []) <;> simp [bne, h1, this]
    · cases h1 : (a.2 == []) <;> cases h2 : (b.2 == []) <;> cases h3 : bl b.2 a.2 <;> cases h4 : bl a.2 b.2 <;> simp [bne, h1, h2, h3, h4]
      all_goals first
        | (rcases bl_total h0 with g | g <;> simp_all; done)
        | (have := bl_asymm h3; simp_all; done)
        | simp_all
  unfold covL
  rw [hl]
  cases h1 : ckR a <;> cases h2 : ckR b <;> cases h3 : bl b.1 a.1 <;> simp only [h1, h2, h3, Bool.not_true, Bool.not_false, Bool.true_or, Bool.false_or, Bool.or_true, Bool.or_false, Bool.and_true, Bool.and_false, Bool.true_and, Bool.false_and, if_true, if_false, Bool.false_eq_true, z_rv, z_rv2, ld_rv, st_rv, ld_0, ld_00, ld_1, n_bind, n_map, getL_0, getL_1, getL_2, getL_3, getL_4, getL_5, getL_6, getL_7, getL_8, getL_9, getL_10, getL_11, getL_12, condV_t, condV_f, guardV_tt, guardV_ff, guardV_tf, guardV_ft, guardV_u, apick_t, apick_f, exV_exit, exV_ret, lookE_same, joinK_eq, seqA_n, seqA_e, seqA_r, e_add, e_sub, e_mul, e_eql, e_neq, e_lss, e_leq, e_gtr, e_geq, e_conv, e_not, e_neg, and_guard, or_guard, hR, hB, ref02_Check_call, ref02_below_call, own_id, ld_0, ld_1, leq_bl, e_seql, eR_0, retV] <;> rfl
end Go.Proofs.Ytamaapapaiopiaa.Ab

/- Ranges: a range in two. -/
namespace Go.Proofs.Ytamaapapaiopiaa.Ab
open Go

def cutL (r : Rg) (k : BL) : Rg × Rg × Int :=
  if ckR r then (if ckK k then (if k == r.1 || !hasR r k then (([], []), ([], []), 21) else ((r.1, k), (k, r.2), 0)) else (([], []), ([], []), 20)) else (([], []), ([], []), 21)
def cutV (c : Rg × Rg × Int) : Value := .tuple #[rv c.1, rv c.2.1, .int .i64 c.2.2]
theorem eR_f {r : Rg} (h : ckR r = false) : eR r = 21 := by unfold eR; rw [h]; rfl
theorem eK_f {k : BL} (h : ckK k = false) : eK k = 20 := by unfold eK; rw [h]; rfl
theorem cut_has {r : Rg} {k : BL} (h1 : ckR r = true) (h2 : ckK k = true) : (k == r.1 || !hasR r k) = (!bl r.1 k || (r.2 != [] && !bl k r.2)) := by
  unfold hasR
  rw [h1, h2]
  by_cases h : k = r.1
  · subst h
    have := bl_irrefl r.1
    simp [this]
  · have hb : (k == r.1) = false := by simp [h]
    have hx : bl k r.1 = !bl r.1 k := by
      rcases bl_total h with g | g
      · rw [g, bl_asymm g]; rfl
      · rw [g, bl_asymm g]; rfl
    rw [hb, hx]
    cases bl r.1 k <;> cases h4 : (r.2 == []) <;> cases bl k r.2 <;> simp [bne, h4]
end Go.Proofs.Ytamaapapaiopiaa.Ab

/- What is known of the functions of keys and ranges: told as sums. -/
namespace Go.Proofs.Ytamaapapaiopiaa.Ab
open Go

theorem progOk : progW Try.prog = true := by kernel_rfl
def gKey : Sum := gP (G1K fun k => .int .i64 (eK k))
def gChk : Sum := gP (G1R fun r => .int .i64 (eR r))
def gHas : Sum := gP (G2RK fun r k => .bool (hasR r k))
def gLeast : Sum := gP (G2KK fun a b => sv (leastL a b))
def gBelow : Sum := gP (G2KK fun a b => .bool (belowL a b))
def gMeet : Sum := gP (G2RR fun a b => meetV (meetL a b))
def gCov : Sum := gP (G2RR fun a b => .bool (covL a b))
def gCut : Sum := gP (G2RK fun r k => cutV (cutL r k))
def G0 (v : Value) : List Value → Option Value
  | [] => some v
  | _ => none
def gAll : Sum := gP (G0 (rv ([], [])))
theorem key_eq {k : BL} {s : St} : gKey [sv k] s = some (.int .i64 (eK k), s) := rfl
theorem chk_eq {r : Rg} {s : St} : gChk [rv r] s = some (.int .i64 (eR r), s) := rfl
theorem has_eq {r : Rg} {k : BL} {s : St} : gHas [rv r, sv k] s = some (.bool (hasR r k), s) := rfl
theorem least_eq {a b : BL} {s : St} : gLeast [sv a, sv b] s = some (sv (leastL a b), s) := rfl
theorem below_eq {a b : BL} {s : St} : gBelow [sv a, sv b] s = some (.bool (belowL a b), s) := rfl
theorem meet_eq {a b : Rg} {s : St} : gMeet [rv a, rv b] s = some (meetV (meetL a b), s) := rfl
theorem cov_eq {a b : Rg} {s : St} : gCov [rv a, rv b] s = some (.bool (covL a b), s) := rfl
theorem cut_eq {r : Rg} {k : BL} {s : St} : gCut [rv r, sv k] s = some (cutV (cutL r k), s) := rfl
theorem all_eq {s : St} : gAll [] s = some (rv ([], []), s) := rfl
theorem meet_plain (m : Option Rg) : plainV (meetV m) = true := by cases m <;> rfl

def mR : Option Rg → Rg
  | some m => m
  | none => ([], [])
theorem x_meet {m : Option Rg} : aextract 0 (meetV m) = some (rv (mR m)) ∧ aextract 1 (meetV m) = some (.bool m.isSome) := by cases m <;> exact ⟨rfl, rfl⟩

end Go.Proofs.Ytamaapapaiopiaa.Ab

/- The range of a key: the reference's loop. -/
namespace Go.Proofs.Ytamaapapaiopiaa.Ab
open Go

/-- how many letters stand before the 255s at the end of the first n -/
def stripN (k : BL) : Nat → Nat
  | 0 => 0
  | n + 1 => if k.getD n 0 == 255 then stripN k n else n + 1
theorem idx_sv {k : BL} {n : Nat} (h : n < k.length) : aindexStr (sv k) (.int .i64 (n : Int)) = some (.int .u8 (((k.getD n 0).toNat : Nat) : Int)) := by
  unfold aindexStr sv
  simp [h]
theorem is255 {c : UInt8} : (((c.toNat : Nat) : Int) == 255) = (c == 255) := by
  by_cases h : c = 255
  · subst h; rfl
  · have : c.toNat ≠ 255 := fun e => h (UInt8.toNat_inj.1 e)
    have h2 : (c == 255) = false := by simp [h]
    rw [h2, beq_eq_false_iff_ne]
    omega
end Go.Proofs.Ytamaapapaiopiaa.Ab

/- The range of a key: what both functions do. -/
namespace Go.Proofs.Ytamaapapaiopiaa.Ab
open Go

/-! ### Strings, and rows -/
theorem sv_app {a b : BL} : ((⟨a.toArray⟩ : ByteArray) ++ ⟨b.toArray⟩) = ⟨(a ++ b).toArray⟩ := by
  apply ByteArray.ext
  rw [ByteArray.data_append]
  simp
theorem e_sadd {P : Program} {t : TypeId} {o1 o2 : Operand} {a b : BL} (h : a.length + b.length ≤ 9223372036854775807) : abin P .add t o1 o2 (sv a) (sv b) = some (sv (a ++ b)) := by
  simp only [abin, strBin, sv, sv_app]
  rw [if_pos]
  simpa [ByteArray.size] using h
theorem sv_cut {k : BL} {n : Nat} (h : n ≤ k.length) : asliceStrV (sv k) none (some (.int .i64 (n : Int))) none = some (sv (k.take n)) := by
  have e : (⟨k.toArray⟩ : ByteArray).extract 0 n = ⟨(k.take n).toArray⟩ := by
    apply ByteArray.ext
    rw [ByteArray.data_extract]
    simp
  unfold asliceStrV sv asliceStr abound
  simp only [Int.toNat_natCast, Option.bind_some]
  rw [if_pos (by omega)]
  simp only [Option.bind_some]
  rw [if_pos ⟨Nat.zero_le _, by simpa [ByteArray.size] using h⟩, e]
theorem cv_bytes {k : BL} {s : St} (h : k.length ≤ 140737488355328) : convBytes (sv k) s = some (.slice (some ⟨s.heap.length, 0, none⟩) k.length k.length, s.push (.row 1 (bv k) .act)) := by
  unfold convBytes sv
  simp only
  rw [if_pos (by simpa [ByteArray.size] using h)]
  simp [ByteArray.size, bytesV_eq]
theorem ix_row {b n c i : Nat} (h : i < n) : aindexS 1 (.slice (some ⟨b, 0, none⟩) n c) (.int .i64 (i : Int)) = some (.pointer (some ⟨b, i, none⟩)) := by
  unfold aindexS
  simp only [Int.toNat_natCast, Nat.zero_add, Nat.mul_one]
  rw [if_pos (by omega)]
theorem ld_row {s : St} {b i : Nat} {k : BL} (h : readRow s b = some (bv k)) (hi : i < k.length) : aload false 1 (.pointer (some ⟨b, i, none⟩)) s = some (.int .u8 (((k.getD i 0).toNat : Nat) : Int)) := by
  unfold aload
  simp [h, bv, hi]
theorem cut_row {b n c m : Nat} (h : m ≤ c) : asliceV 1 (.slice (some ⟨b, 0, none⟩) n c) none (some (.int .i64 (m : Int))) none = some (.slice (some ⟨b, 0, none⟩) m c) := by
  unfold asliceV asliceSl abound
  simp only [Int.toNat_natCast, Option.isNone_none, Bool.true_or, if_true, Option.bind_some]
  rw [if_pos (by omega)]
  simp only [Option.bind_some]
  rw [if_pos (by omega)]
  simp [cutRow]
theorem str_row {s : St} {b n c : Nat} {k : BL} (h : readRow s b = some (bv k)) (hn : n ≤ k.length) (hc : n ≤ c) : abytesToStr (.slice (some ⟨b, 0, none⟩) n c) s = some (sv (k.take n)) := by
  apply bytes_str
  unfold bytesOf cellsOf
  simp only
  rw [if_pos hc]
  unfold readN
  rw [h]
  simp only [Option.bind_some, Nat.zero_add, Nat.mul_one, bv_length]
  rw [if_pos hn]
  simp only [Option.bind_some, List.drop_zero, ← bv_take]
  exact ubs_bv _
theorem st_row {s : St} {b i n : Nat} {cs : List Value} {v : Value} (h : s.heap[b]? = some (.row n cs .act)) (hi : i < cs.length) (hv : cellsV v = [v]) (hl : isLeaf v = true) : astore 1 (.pointer (some ⟨b, i, none⟩)) v s = some (s.putB b (.row n (cs.set i v) .act)) := by
  have h2 : putCells cs i [v] = cs.set i v := by
    unfold putCells
    rw [List.set_eq_take_append_cons_drop, if_pos hi]
    simp
  unfold astore writeN
  simp only [hv, List.length_singleton, List.all_cons, hl, List.all_nil, Bool.and_self, true_and, if_true, h]
  rw [if_pos (by omega), h2]

/-! ### The range of a key -/
def ptR (k : BL) : Rg := if k.length < 12 then (k, k ++ [0]) else match stripN k 12 with
  | 0 => (k, [])
  | n + 1 => (k, k.take n ++ [k.getD n 0 + 1])
def ptL (k : BL) : Rg × Int := if ckK k then (ptR k, 0) else (([], []), 20)
def ptV (p : Rg × Int) : Value := .tuple #[rv p.1, .int .i64 p.2]
theorem ckK_len {k : BL} (h : ckK k = true) : k.length ≤ 12 ∧ k ≠ [] := by
  unfold ckK at h
  simp at h
  exact ⟨h.2, h.1⟩
theorem ab1 (x : BL) : abuild Try.prog 74 [(0, sv x)] = some (rv (x, [])) := by kernel_rfl
theorem s_0 : (Value.string ⟨#[0]⟩) = sv [0] := rfl
theorem strip_le {k : BL} : ∀ n, stripN k n ≤ n
  | 0 => Nat.le_refl _
  | n + 1 => by
    unfold stripN
    split
    · exact Nat.le_succ_of_le (strip_le n)
    · exact Nat.le_refl _
theorem strip_ne {k : BL} {m : Nat} : ∀ {n}, stripN k n = m + 1 → k.getD m 0 ≠ 255
  | 0, h => by cases h
  | n + 1, h => by
    unfold stripN at h
    split at h
    · exact strip_ne h
    · rename_i h2
      cases h
      simpa using h2
theorem inc_u8 {c : UInt8} (h : c ≠ 255) : IntKind.wrap .u8 ((c.toNat : Int) + 1) = (((c + 1).toNat : Nat) : Int) := by
  have h1 : c.toNat < 256 := c.toNat_lt
  have h2 : c.toNat ≠ 255 := fun e => h (UInt8.toNat_inj.1 e)
  rw [wrap_u8 (by omega) (by omega)]
  rw [UInt8.toNat_add]
  have : (1 : UInt8).toNat = 1 := rfl
  omega

/-- one byte as a string -/
theorem one_str {s : St} {c : UInt8} : ∃ r, abuildSl 1 [(.int .u8 0)] 1 [(0, .int .u8 ((c.toNat : Nat) : Int))] s = some r ∧ s.heap.length ≤ r.2.heap.length ∧ abytesToStr r.1 r.2 = some (sv [c]) := by
  refine ⟨(.slice (some ⟨s.heap.length, 0, none⟩) 1 1, s.push (.row 1 (bv [c]) .act)), rfl, by simp [St.push], ?_⟩
  exact str_row (k := [c]) (n := 1) (by unfold readRow; rw [push_get]) (Nat.le_refl _) (Nat.le_refl _)
end Go.Proofs.Ytamaapapaiopiaa.Ab

/- Strings have ranks: what is plain of keys and ranges. -/
namespace Go.Proofs.Ytamaapapaiopiaa.Ab
open Go

theorem cnt_lt {p q : BL → Bool} {a : BL} (h : ∀ x, p x = true → q x = true) (hq : q a = true) (hp : p a = false) : ∀ {L : List BL}, a ∈ L → (L.filter p).length < (L.filter q).length
  | [], h => by cases h
  | x :: L, hm => by
    have mono : ∀ L : List BL, (L.filter p).length ≤ (L.filter q).length := by
      intro L
      induction L with
      | nil => simp
      | cons y L ih =>
        simp only [List.filter_cons]
        cases h1 : p y
        · cases h2 : q y <;> simp <;> omega
        · rw [h y h1]; simp; omega
    simp only [List.filter_cons]
    by_cases e : a = x
    · subst e
      rw [hq, hp]
      have := mono L
      simp; omega
    · have hm2 : a ∈ L := by
        rcases List.mem_cons.1 hm with h | h
        · exact absurd h e
        · exact h
      have := cnt_lt h hq hp hm2
      cases h1 : p x
      · cases h2 : q x <;> simp <;> omega
      · rw [h x h1]; simp; omega
def rk (L : List BL) (x : BL) : Nat := (([] :: L).filter fun y => bl y x).length
theorem rk_lt {L : List BL} {a b : BL} (ha : a ∈ [] :: L) (h : bl a b = true) : rk L a < rk L b :=
  cnt_lt (p := fun y => bl y a) (q := fun y => bl y b) (fun x hx => bl_trans hx h) h (bl_irrefl a) ha
theorem rk_nil {L : List BL} : rk L [] = 0 := by simp [rk, bl_nil_r]
/-- any strings, as whole numbers -/
theorem rank (L : List BL) : ∃ f : BL → Nat, f [] = 0 ∧ (∀ a ∈ L, (a == []) = decide (f a = 0)) ∧ ∀ a ∈ L, ∀ b ∈ L, bl a b = decide (f a < f b) ∧ (a == b) = decide (f a = f b) := by
  refine ⟨rk L, rk_nil, ?_, ?_⟩
  · intro a ha
    by_cases e : a = []
    · subst e; simp [rk_nil]
    · have := rk_lt (L := L) (List.mem_cons_self ..) (bl_nil_l e)
      have e2 : (a == []) = false := by simp [e]
      rw [e2]
      symm
      rw [decide_eq_false_iff_not]
      omega
  · intro a ha b hb
    have ha := List.mem_cons_of_mem [] ha
    have hb := List.mem_cons_of_mem [] hb
    by_cases e : a = b
    · subst e
      simp [bl_irrefl]
    · have e2 : (a == b) = false := by simp [e]
      rw [e2]
      rcases bl_total e with h | h
      · have := rk_lt ha h
        rw [h]
        constructor
        · symm; rw [decide_eq_true_eq]; exact this
        · symm; rw [decide_eq_false_iff_not]; omega
      · have := rk_lt hb h
        rw [bl_asymm h]
        constructor
        · symm; rw [decide_eq_false_iff_not]; omega
        · symm; rw [decide_eq_false_iff_not]; omega

theorem meet_comm (a b : Rg) : meetL a b = meetL b a := by
  obtain ⟨a1, a2⟩ := a
  obtain ⟨b1, b2⟩ := b
  have e1 : maxL a1 b1 = maxL b1 a1 := by
    unfold maxL
    by_cases e : a1 = b1
    · rw [e]
    · rcases bl_total e with h | h <;> simp [h, bl_asymm h]
  have e2 : leastL a2 b2 = leastL b2 a2 := by
    unfold leastL
    by_cases e : a2 = b2
    · rw [e]
    · rcases bl_total e with h | h
      · cases h1 : (a2 == []) <;> cases h2 : (b2 == []) <;> simp_all [bl_asymm h]
      · cases h1 : (a2 == []) <;> cases h2 : (b2 == []) <;> simp_all [bl_asymm h]
  unfold meetL
  simp only [e1, e2, Bool.and_comm (ckR (a1, a2))]

def lst (x y : Nat) : Nat := if x = 0 ∨ (y ≠ 0 ∧ y < x) then y else x
theorem f_max {f : BL → Nat} {a b : BL} (h : bl a b = decide (f a < f b)) : f (maxL a b) = if f a < f b then f b else f a := by
  unfold maxL
  rw [h]
  by_cases g : f a < f b <;> simp [g]
theorem f_least {f : BL → Nat} {a b : BL} (h : bl b a = decide (f b < f a)) (ha : (a == []) = decide (f a = 0)) (hb : (b == []) = decide (f b = 0)) : f (leastL a b) = lst (f a) (f b) := by
  unfold leastL lst
  rw [h, ha]
  have e : (b != []) = !decide (f b = 0) := by rw [← hb]; rfl
  rw [e]
  by_cases g : f b < f a <;> by_cases g1 : f a = 0 <;> by_cases g2 : f b = 0 <;> simp [g, g1, g2]
theorem has_iff {r : Rg} {k : BL} (hr : ckR r = true) (hk : ckK k = true) : hasR r k = (!bl k r.1 && (r.2 == [] || bl k r.2)) := by
  unfold hasR; rw [hr, hk]; rfl
theorem meet_iff {a b : Rg} (ha : ckR a = true) (hb : ckR b = true) : meetL a b = if (leastL a.2 b.2 == [] || bl (maxL a.1 b.1) (leastL a.2 b.2)) = true then some (maxL a.1 b.1, leastL a.2 b.2) else none := by
  unfold meetL
  rw [ha, hb, ckR_meet ha hb]
  rfl
theorem ckR_lt {r : Rg} (h : ckR r = true) : (r.2 == [] || bl r.1 r.2) = true := by
  unfold ckR at h
  simp only [Bool.and_eq_true] at h
  exact h.2
theorem meet_ck {a b m : Rg} (h : meetL a b = some m) : ckR a = true ∧ ckR b = true ∧ ckR m = true ∧ m = (maxL a.1 b.1, leastL a.2 b.2) := by
  unfold meetL at h
  split at h
  · rename_i h2
    simp only [Bool.and_eq_true] at h2
    cases h
    exact ⟨h2.1.1, h2.1.2, h2.2, rfl⟩
  · cases h

theorem both_has (a b : Rg) (k : BL) : (hasR a k && hasR b k) = ((meetL a b).isSome && hasR (mR (meetL a b)) k) := by
  by_cases ha : ckR a = true
  · by_cases hb : ckR b = true
    · by_cases hk : ckK k = true
      · have ca := ckR_lt ha
        have cb := ckR_lt hb
        have hm := meet_iff ha hb
        have hx : meetL a b ≠ none → ckR (maxL a.1 b.1, leastL a.2 b.2) = true := fun h => by
          cases e : meetL a b with
          | none => exact absurd e h
          | some m =>
            obtain ⟨_, _, h3, h4⟩ := meet_ck e
            rw [← h4]; exact h3
        obtain ⟨f, h0, hz, h⟩ := rank [a.1, a.2, b.1, b.2, k, maxL a.1 b.1, leastL a.2 b.2]
        simp only [List.mem_cons, List.not_mem_nil, or_false, forall_eq_or_imp, forall_eq] at h hz
        have fm : f (maxL a.1 b.1) = if f a.1 < f b.1 then f b.1 else f a.1 := f_max (by simp only [h])
        have fl : f (leastL a.2 b.2) = lst (f a.2) (f b.2) := f_least (by simp only [h]) (by simp only [hz]) (by simp only [hz])
        rw [has_iff ha hk, has_iff hb hk]
        cases e : meetL a b with
        | none =>
          rw [e] at hm
          simp only [h, hz, fm, fl] at hm ca cb ⊢
          unfold lst at hm
          clear h hz hx h0
          simp at hm ca cb ⊢
          grind
        | some m =>
          have h3 := hx (by rw [e]; simp)
          obtain ⟨_, _, _, h4⟩ := meet_ck e
          rw [e] at hm
          simp only [mR, h4, has_iff h3 hk]
          simp only [h, hz, fm, fl] at ca cb hm ⊢
          unfold lst at hm ⊢
          clear h hz hx h0
          simp at hm ca cb ⊢
          grind
      · simp [hasR, hk]
    · simp [hb, hasR, meetL]
  · simp [ha, hasR, meetL]

end Go.Proofs.Ytamaapapaiopiaa.Ab

/- What is plain of keys and ranges, further. -/
namespace Go.Proofs.Ytamaapapaiopiaa.Ab
open Go

theorem cov_iff {a b : Rg} : covL a b = true ↔ ckR a = true ∧ ckR b = true ∧ bl b.1 a.1 = false ∧ leastL a.2 b.2 = b.2 := by
  unfold covL
  simp only [Bool.and_eq_true, Bool.not_eq_true', beq_iff_eq, and_assoc]
theorem max_of {x y : BL} (h : bl y x = false) : maxL x y = y := by
  unfold maxL
  by_cases e : x = y
  · subst e; simp
  · rcases bl_total e with g | g
    · simp [g]
    · rw [h] at g; cases g
theorem cov_meet {a b : Rg} (h : covL a b = true) : meetL a b = some b := by
  obtain ⟨h1, h2, h3, h4⟩ := cov_iff.1 h
  unfold meetL
  rw [max_of h3, h4, h1, h2]
  rfl
theorem cov_all {a : Rg} : covL ([], []) a = ckR a := by
  unfold covL
  have h1 : ckR ([], []) = true := by decide
  have h2 : leastL [] a.2 = a.2 := by simp [leastL]
  simp only [h1, bl_nil_r, h2, beq_self_eq_true]
  cases ckR a <;> rfl
theorem has_all {k : BL} : hasR ([], []) k = ckK k := by
  unfold hasR
  have h1 : ckR ([], []) = true := by decide
  simp only [h1, bl_nil_r]
  cases ckK k <;> rfl
theorem least_iff {x y : BL} : leastL x y = y ↔ x = [] ∨ (y ≠ [] ∧ (bl y x = true ∨ x = y)) := by
  unfold leastL
  by_cases h1 : x = []
  · subst h1; simp
  · by_cases h2 : y = []
    · subst h2; simp [h1]
    · by_cases h3 : x = y
      · subst h3; simp [bl_irrefl, h1]
      · cases h4 : bl y x <;> simp [h1, h2, h3, h4]
theorem cov_trans {a b c : Rg} (h : covL a b = true) (g : covL b c = true) : covL a c = true := by
  obtain ⟨h1, h2, h3, h4⟩ := cov_iff.1 h
  obtain ⟨g1, g2, g3, g4⟩ := cov_iff.1 g
  rw [least_iff] at h4 g4
  refine cov_iff.2 ⟨h1, g2, ?_, least_iff.2 ?_⟩
  · cases e : bl c.1 a.1 with
    | false => rfl
    | true =>
      by_cases e1 : a.1 = b.1
      · rw [← e1] at g3; rw [g3] at e; cases e
      · rcases bl_total e1 with k | k
        · rw [bl_trans e k] at g3; cases g3
        · rw [k] at h3; cases h3
  · rcases h4 with h4 | ⟨h4, h5⟩
    · exact .inl h4
    · rcases g4 with g4 | ⟨g4, g5⟩
      · exact absurd g4 h4
      · refine .inr ⟨g4, ?_⟩
        rcases h5 with h5 | h5
        · rcases g5 with g5 | g5
          · exact .inl (bl_trans g5 h5)
          · rw [← g5]; exact .inl h5
        · rw [h5]; exact g5
theorem cov_anti {a b : Rg} (h : covL a b = true) (g : covL b a = true) : a = b := by
  obtain ⟨h1, h2, h3, h4⟩ := cov_iff.1 h
  obtain ⟨g1, g2, g3, g4⟩ := cov_iff.1 g
  rw [least_iff] at h4 g4
  apply Prod.ext
  · by_cases e : a.1 = b.1
    · exact e
    · rcases bl_total e with k | k
      · rw [k] at g3; cases g3
      · rw [k] at h3; cases h3
  · rcases h4 with h4 | ⟨h4, h5⟩
    · rcases g4 with g4 | ⟨g4, g5⟩
      · rw [h4, g4]
      · exact absurd h4 g4
    · rcases g4 with g4 | ⟨g4, g5⟩
      · exact absurd g4 h4
      · rcases h5 with h5 | h5
        · rcases g5 with g5 | g5
          · rw [bl_asymm h5] at g5; cases g5
          · exact g5.symm
        · exact h5

theorem max_assoc (x y z : BL) : maxL (maxL x y) z = maxL x (maxL y z) := by
  obtain ⟨f, h0, hz, h⟩ := rank [x, y, z]
  simp only [List.mem_cons, List.not_mem_nil, or_false, forall_eq_or_imp, forall_eq] at h
  unfold maxL
  by_cases h1 : f x < f y <;> by_cases h2 : f y < f z <;> by_cases h3 : f x < f z <;> simp [h, h1, h2, h3] <;> omega
theorem least_assoc (x y z : BL) : leastL (leastL x y) z = leastL x (leastL y z) := by
  obtain ⟨f, h0, hz, h⟩ := rank [x, y, z]
  simp only [List.mem_cons, List.not_mem_nil, or_false, forall_eq_or_imp, forall_eq] at h hz
  have hne : (x != []) = !decide (f x = 0) ∧ (y != []) = !decide (f y = 0) ∧ (z != []) = !decide (f z = 0) := ⟨congrArg not hz.1, congrArg not hz.2.1, congrArg not hz.2.2⟩
  unfold leastL
  by_cases h1 : f x = 0 <;> by_cases h2 : f y = 0 <;> by_cases h3 : f z = 0 <;> by_cases h4 : f y < f x <;> by_cases h5 : f z < f y <;> by_cases h6 : f z < f x <;> simp [h, hz, hne, h1, h2, h3, h4, h5, h6] <;> omega
theorem meet_parts {a b c x y : Rg} (h : meetL a b = some x) (g : meetL b c = some y) : meetL x c = meetL a y := by
  obtain ⟨h1, h2, h3, h4⟩ := meet_ck h
  obtain ⟨g1, g2, g3, g4⟩ := meet_ck g
  unfold meetL
  rw [h1, h3, g2, g3, h4, g4]
  simp only [max_assoc, least_assoc]

theorem cut_facts {a : Rg} {k at_ : BL} (h1 : ckR a = true) (h2 : ckK at_ = true) (h3 : (at_ == a.1 || !hasR a at_) = false) : (hasR a k == (hasR (a.1, at_) k != hasR (at_, a.2) k)) = true ∧ (!hasR (a.1, at_) k || !hasR (at_, a.2) k) = true := by
  rw [cut_has h1 h2] at h3
  simp only [Bool.or_eq_false_iff, Bool.not_eq_false', Bool.and_eq_false_iff] at h3
  obtain ⟨h4, h5⟩ := h3
  have hl := ckR_len h1
  have hk := ckK_len h2
  have c1 : ckR (a.1, at_) = true := by
    unfold ckR
    simp [h4, hl.1, hk.1]
  have c2 : ckR (at_, a.2) = true := by
    unfold ckR
    rcases h5 with h5 | h5
    · have : a.2 = [] := by simpa [bne] using h5
      simp [hk.1, this]
    · simp [hk.1, hl.2, h5]
  by_cases hk : ckK k = true
  · rw [has_iff h1 hk, has_iff c1 hk, has_iff c2 hk]
    have hne : (at_ == []) = false := by simp [(ckK_len h2).2]
    obtain ⟨f, h0, hz, h⟩ := rank [a.1, a.2, at_, k]
    simp only [List.mem_cons, List.not_mem_nil, or_false, forall_eq_or_imp, forall_eq] at h hz
    have ca := ckR_lt h1
    have e2 : (a.2 != []) = !decide (f a.2 = 0) := congrArg not hz.2.1
    simp only [h, hz, e2] at h4 h5 ca hne ⊢
    clear h hz h0
    simp at h4 h5 ca hne ⊢
    grind
  · simp [hasR, hk]

/-! ### The range of one key -/
theorem top_eq : ∀ {v o : BL}, (∀ c ∈ v, c = 255) → bl o v = false → o.length ≤ v.length → o = v
  | [], [], _, _, _ => rfl
  | [], _ :: _, _, _, h => by simp at h
  | _ :: _, [], _, h, _ => by cases h
  | c :: v, y :: o, hv, h, hl => by
    have hc := hv c (List.mem_cons_self ..)
    subst hc
    have h1 : ¬ (y.toNat < (255 : UInt8).toNat ∨ (y = 255 ∧ bl o v = true)) := fun g => by rw [bl_cons.2 g] at h; cases h
    have h2 : (255 : UInt8).toNat = 255 := rfl
    have h3 := y.toNat_lt
    have hy : y = 255 := UInt8.toNat_inj.1 (by omega)
    subst hy
    rw [top_eq (v := v) (o := o) (fun c hc => hv c (List.mem_cons_of_mem _ hc)) (by
      cases e : bl o v with
      | false => rfl
      | true => exact absurd (.inr ⟨rfl, e⟩) h1) (by simpa using hl)]
theorem between {x : UInt8} (hx : x ≠ 255) {v : BL} (hv : ∀ c ∈ v, c = 255) : ∀ {u o : BL}, bl o (u ++ x :: v) = false → bl o (u ++ [x + 1]) = true → o.length ≤ (u ++ x :: v).length → o = u ++ x :: v
  | [], [], h, _, _ => by cases h
  | [], y :: o, h, g, hl => by
    have hx1 : (x + 1).toNat = x.toNat + 1 := by
      have h1 := x.toNat_lt
      have h2 : x.toNat ≠ 255 := fun e => hx (UInt8.toNat_inj.1 e)
      rw [UInt8.toNat_add]
      have : (1 : UInt8).toNat = 1 := rfl
      omega
    have h1 : ¬ (y.toNat < x.toNat ∨ (y = x ∧ bl o v = true)) := fun g => by rw [List.nil_append, bl_cons.2 g] at h; cases h
    rw [List.nil_append, bl_cons] at g
    rw [bl_nil_r] at g
    have hy : y = x := UInt8.toNat_inj.1 (by
      rcases g with g | ⟨_, g⟩
      · omega
      · cases g)
    subst hy
    rw [top_eq (v := v) (o := o) hv (by
      cases e : bl o v with
      | false => rfl
      | true => exact absurd (.inr ⟨rfl, e⟩) h1) (by simpa using hl)]
    rfl
  | _ :: _, [], h, _, _ => by cases h
  | c :: u, y :: o, h, g, hl => by
    have h1 : ¬ (y.toNat < c.toNat ∨ (y = c ∧ bl o (u ++ x :: v) = true)) := fun g => by rw [List.cons_append, bl_cons.2 g] at h; cases h
    rw [List.cons_append, bl_cons] at g
    have hy : y = c := by
      rcases g with g | g
      · exact absurd (.inl g) h1
      · exact g.1
    subst hy
    have g2 : bl o (u ++ [x + 1]) = true := by
      rcases g with g | g
      · omega
      · exact g.2
    rw [between hx hv (u := u) (o := o) (by
      cases e : bl o (u ++ x :: v) with
      | false => rfl
      | true => exact absurd (.inr ⟨rfl, e⟩) h1) g2 (by simpa using hl)]
    rfl
theorem above {x : UInt8} (hx : x ≠ 255) {v : BL} : ∀ {u : BL}, bl (u ++ x :: v) (u ++ [x + 1]) = true
  | [] => by
    rw [List.nil_append, List.nil_append, bl_cons]
    left
    have h1 := x.toNat_lt
    have h2 : x.toNat ≠ 255 := fun e => hx (UInt8.toNat_inj.1 e)
    rw [UInt8.toNat_add]
    have : (1 : UInt8).toNat = 1 := rfl
    omega
  | c :: u => by
    rw [List.cons_append, List.cons_append, bl_cons]
    exact .inr ⟨rfl, above hx⟩
theorem strip_all {k : BL} : ∀ {n i : Nat}, stripN k n ≤ i → i < n → k.getD i 0 = 255
  | 0, _, _, h => by omega
  | n + 1, i, h, g => by
    unfold stripN at h
    split at h
    · rename_i h2
      by_cases e : i = n
      · subst e; simpa using h2
      · exact strip_all h (by omega)
    · omega
theorem strip_drop {k : BL} (h : k.length = 12) : ∀ c ∈ k.drop (stripN k 12), c = 255 := by
  intro c hc
  obtain ⟨j, hj, e⟩ := List.getElem_of_mem hc
  rw [List.getElem_drop] at e
  simp only [List.length_drop] at hj
  have := strip_all (k := k) (n := 12) (i := stripN k 12 + j) (by omega) (by omega)
  rw [← e]
  simpa [show stripN k 12 + j < k.length by omega] using this
theorem pt_facts {k : BL} (h : ckK k = true) : (ptR k).1 = k ∧ ckR (ptR k) = true ∧ (∀ o, o.length ≤ 12 → bl o k = false → ((ptR k).2 == [] || bl o (ptR k).2) = true → o = k) ∧ ((ptR k).2 == [] || bl k (ptR k).2) = true := by
  obtain ⟨h1, h2⟩ := ckK_len h
  by_cases h4 : k.length < 12
  · have e : ptR k = (k, k ++ [0]) := by unfold ptR; rw [if_pos h4]
    rw [e]
    have h5 : bl k (k ++ [0]) = true := by rw [bl_zero]; simp
    refine ⟨rfl, ?_, ?_, ?_⟩
    · unfold ckR
      simp [h5]
      omega
    · intro o ho g1 g2
      have : (k ++ [0] == []) = false := by simp
      simp only [this, Bool.false_or] at g2
      rw [bl_zero, g1] at g2
      simpa using g2
    · simp only [h5, Bool.or_true]
  · have h6 : k.length = 12 := by omega
    have e : ptR k = match stripN k 12 with
      | 0 => (k, [])
      | n + 1 => (k, k.take n ++ [k.getD n 0 + 1]) := by unfold ptR; rw [if_neg h4] <;> cases stripN k 12 <;> rfl
    have hd := strip_drop h6
    have hne := fun m => strip_ne (k := k) (m := m) (n := 12)
    have hle := strip_le (k := k) 12
    rw [e]
    generalize stripN k 12 = n at hd hne hle
    cases n with
    | zero =>
      refine ⟨rfl, ?_, ?_, rfl⟩
      · unfold ckR; simp; omega
      · intro o ho g1 _
        exact top_eq (by simpa using hd) g1 (by omega)
    | succ n =>
      have hx := hne n rfl
      have hk : k = k.take n ++ k.getD n 0 :: k.drop (n + 1) := by
        have hn : n < k.length := by omega
        have : k.getD n 0 = k[n] := by simp [hn]
        rw [this, List.getElem_cons_drop, List.take_append_drop]
      have g5 : bl k (k.take n ++ [k.getD n 0 + 1]) = true := by
        have := above hx (u := k.take n) (v := k.drop (n + 1))
        rw [← hk] at this
        exact this
      refine ⟨rfl, ?_, ?_, ?_⟩
      · unfold ckR
        simp only [g5]
        simp
        omega
      · intro o ho g1 g2
        have e0 : (k.take n ++ [k.getD n 0 + 1] == []) = false := by simp
        simp only [e0, Bool.false_or] at g2
        have := between hx hd (u := k.take n) (o := o) (by rw [← hk]; exact g1) g2 (by rw [← hk]; omega)
        rw [← hk] at this
        exact this
      · simp only [g5, Bool.or_true]

end Go.Proofs.Ytamaapapaiopiaa.Ab
