/- Texts of this proof, packed: SpAll, StrCmp, BIns, OpCmp, OpVal, BList, OpLists, BArgL, BNest, OwVal, OwArg, OpArg, RcVal, BList2, BList3, BOwn, BRead, RcFun, FxNum, FxOct, FxRead, FxOctT, OctNum, BLive, RcLive, RcLib, RcRead, RcRead2, SamePr, SameVal, RcChk. -/
import Derived.Test.YtckpcelchhmjcaaGreatPk4
import Derived.Lib.Strings
import Derived.Lib.Bytealg
import Derived.Lib.Overlaps
import Derived.Lib.AppendZerosOnto
import Derived.Deep.DeepAppendWide
import Derived.Shelf.Spec.SlicesInsert
import Derived.ChangeArms
import Derived.DataReads
import Derived.SizedLaws
import Derived.ChangeSame
import Derived.WideShapes
set_option linter.unusedVariables false
set_option linter.unusedSimpArgs false
set_option linter.unusedSectionVars false
/- Pairs of strings: as values, and compared. -/
namespace Go.Proofs.YtckpcelchhmjcaaGreat.Ab
open Go

theorem pr_bind {P : Program} {α β : Type} (m : Sem α) (f : α → Sem β) : pureRun P (m >>= f) = (pureRun P m).bind fun a => pureRun P (f a) := by
  show pureRun P (Sem.bind m f) = _
  induction m with
  | pure a => rfl
  | program k ih => simp only [Sem.bind, pureRun]; exact ih P
  | _ => rfl
theorem pr_pure {P : Program} {α : Type} (a : α) : pureRun P (Pure.pure a : Sem α) = some a := rfl
theorem pr_program {P : Program} : pureRun P (program : Sem Program) = some P := rfl
theorem pr_und {P : Program} {t : TypeId} {d : TypeDesc} (h : P.underlying t = some d) : pureRun P (underlying t) = some d := by
  unfold underlying
  rw [pr_bind, pr_program]
  simp only [Option.bind_some, h]
  rfl
theorem pr_str {P : Program} {d : Nat} {t : TypeId} {a b : ByteArray} (h : P.underlying t = some .string) : pureRun P (Op.equalIn (d + 1) t (.string a) (.string b)) = some (a == b) := by
  unfold Op.equalIn
  rw [pr_bind, pr_und h]
  simp only [Option.bind_some, pr_pure]

abbrev BL := List UInt8
abbrev Rg := BL × BL
def rv (r : Rg) : Value := .agg #[sv r.1, sv r.2]
def asBl : Value → Option BL
  | .string a => some a.data.toList
  | _ => none
def asRg : Value → Option Rg
  | .agg cs => match cs.toList with
    | [.string a, .string b] => some (a.data.toList, b.data.toList)
    | _ => none
  | _ => none
theorem asBl_some {v : Value} {l : BL} (h : asBl v = some l) : v = sv l := by
  unfold asBl at h
  split at h
  · cases h; exact sv_of _
  · cases h
theorem asRg_some {v : Value} {r : Rg} (h : asRg v = some r) : v = rv r := by
  unfold asRg at h
  split at h
  · rename_i cs
    split at h
    · rename_i a b e
      cases h
      obtain ⟨l⟩ := cs
      simp only at e
      subst e
      unfold rv
      rw [← sv_of, ← sv_of]
    · cases h
  · cases h

theorem bytes_beq {a b : BL} : ((⟨a.toArray⟩ : ByteArray) == ⟨b.toArray⟩) = (a == b) := by
  show (a.toArray == b.toArray) = (a == b)
  simp

theorem rv_eql (o1 o2 : Operand) (a b : Rg) : abin Tryz.prog .eql 27 o1 o2 (rv a) (rv b) = some (.bool (a.1 == b.1 && a.2 == b.2)) := by
  have hu := pr_und Tryz.underlying27
  have hg : pureRun Tryz.prog (eqGuard .eql 27 o1 o2 (.agg #[sv a.1, sv a.2]) (.agg #[sv b.1, sv b.2])) = some () := by kernel_rfl
  have hh : Tryz.prog.stoodInHeld 27 = false := by kernel_rfl
  have hp : ∀ x y : BL, pureRun Tryz.prog (part 9 #[sv x, sv y] 0) = some (sv x) ∧ pureRun Tryz.prog (part 9 #[sv x, sv y] 1) = some (sv y) := fun x y => by
    refine ⟨?_, ?_⟩ <;> kernel_rfl
  have he : ∀ (n : Nat) (x y : BL), pureRun Tryz.prog (Op.equalIn (n + 1) 9 (sv x) (sv y)) = some (x == y) := fun n x y => by
    unfold sv
    rw [pr_str Tryz.underlying9, bytes_beq]
  unfold abin aggBin rv
  simp only
  have hc : (constOk (.agg #[sv a.1, sv a.2]) && constOk (.agg #[sv b.1, sv b.2])) = true := rfl
  rw [if_pos hc, pr_bind, hg]
  simp only [Option.bind_some, binOp]
  rw [pr_bind]
  have key : pureRun Tryz.prog (Op.equal 27 (.agg #[sv a.1, sv a.2]) (.agg #[sv b.1, sv b.2])) = some (a.1 == b.1 && a.2 == b.2) := by
    unfold Op.equal Op.maxDepth Op.equalIn
    rw [pr_bind, hu]
    simp only [Option.bind_some]
    rw [pr_bind, pr_program]
    simp only [Option.bind_some, hh, Bool.false_eq_true, if_false, pr_bind]
    have hLo : ("Lo" ≠ "_") = True := by simp
    have hHi : ("Hi" ≠ "_") = True := by simp
    simp only [List.forIn_toArray, List.forIn_cons, List.forIn_nil]
    cases h1 : (a.1 == b.1)
    · simp only [Option.bind_some, pr_bind, pr_pure, Nat.reduceAdd, hLo, hHi, if_true, (hp _ _).1, (hp _ _).2, he, Bool.not_true, Bool.not_false, Bool.false_eq_true, if_false, Bool.true_and, Bool.false_and, Bool.and_true, h1]
    cases h2 : (a.2 == b.2)
    · simp only [Option.bind_some, pr_bind, pr_pure, Nat.reduceAdd, hLo, hHi, if_true, (hp _ _).1, (hp _ _).2, he, Bool.not_true, Bool.not_false, Bool.false_eq_true, if_false, Bool.true_and, Bool.false_and, Bool.and_true, h1, h2]
    · simp only [Option.bind_some, pr_bind, pr_pure, Nat.reduceAdd, hLo, hHi, if_true, (hp _ _).1, (hp _ _).2, he, Bool.not_true, Bool.not_false, Bool.false_eq_true, if_false, Bool.true_and, Bool.false_and, Bool.and_true, h1, h2]
  rw [key]
  rfl

theorem rv_neq (o1 o2 : Operand) (a b : Rg) : abin Tryz.prog .neq 27 o1 o2 (rv a) (rv b) = some (.bool (!(a.1 == b.1 && a.2 == b.2))) := by
  have hu := pr_und Tryz.underlying27
  have hg : pureRun Tryz.prog (eqGuard .neq 27 o1 o2 (.agg #[sv a.1, sv a.2]) (.agg #[sv b.1, sv b.2])) = some () := by kernel_rfl
  have h0 := rv_eql o1 o2 a b
  have hg0 : pureRun Tryz.prog (eqGuard .eql 27 o1 o2 (.agg #[sv a.1, sv a.2]) (.agg #[sv b.1, sv b.2])) = some () := by kernel_rfl
  unfold abin aggBin rv at h0 ⊢
  simp only at h0 ⊢
  have hc : (constOk (.agg #[sv a.1, sv a.2]) && constOk (.agg #[sv b.1, sv b.2])) = true := rfl
  rw [if_pos hc, pr_bind, hg0] at h0
  rw [if_pos hc, pr_bind, hg]
  simp only [Option.bind_some, binOp, pr_bind, pr_pure] at h0 ⊢
  cases e : pureRun Tryz.prog (Op.equal 27 (.agg #[sv a.1, sv a.2]) (.agg #[sv b.1, sv b.2])) with
  | none => rw [e] at h0; cases h0
  | some r =>
    rw [e] at h0
    simp only [Option.bind_some] at h0 ⊢
    cases h0
    rfl

end Go.Proofs.YtckpcelchhmjcaaGreat.Ab

/- Keys and ranges: what the functions do. -/
namespace Go.Proofs.YtckpcelchhmjcaaGreat.Ab
open Go

/-! ### What they say -/
def ckK (k : BL) : Bool := k != [] && decide (k.length ≤ 12)
def ckR (r : Rg) : Bool := decide (r.1.length ≤ 12) && decide (r.2.length ≤ 12) && (r.2 == [] || bl r.1 r.2)
def eK (k : BL) : Int := if ckK k then 0 else 20
def eR (r : Rg) : Int := if ckR r then 0 else 21
/-- a function of values, without memory -/
def gP (G : List Value → Option Value) : Sum := fun xs s => (G xs).map fun v => (v, s)
theorem sumP {lib : Lib} {f : FuncId} {G : List Value → Option Value} (h : ∀ xs v s, G xs = some v → plainV v = true ∧ ∃ t, run Tryz.prog lib hints f xs s = some (v, t)) : SumOk Tryz.prog lib hints f (gP G) :=
  SumOk.plain (G := fun xs _ => G xs) fun xs s v hv => h xs v (frzS s) hv
def G1K (F : BL → Value) : List Value → Option Value
  | [v] => (asBl v).map F
  | _ => none
def G1R (F : Rg → Value) : List Value → Option Value
  | [v] => (asRg v).map F
  | _ => none
theorem sum1K {lib : Lib} {f : FuncId} {F : BL → Value} (h : ∀ k s, plainV (F k) = true ∧ ∃ t, run Tryz.prog lib hints f [sv k] s = some (F k, t)) : SumOk Tryz.prog lib hints f (gP (G1K F)) := sumP fun xs v s hv => by
  unfold G1K at hv
  split at hv
  · simp only [Option.map_eq_some_iff] at hv
    obtain ⟨k, h1, rfl⟩ := hv
    rw [asBl_some h1]
    exact h k s
  · cases hv
theorem sum1R {lib : Lib} {f : FuncId} {F : Rg → Value} (h : ∀ k s, plainV (F k) = true ∧ ∃ t, run Tryz.prog lib hints f [rv k] s = some (F k, t)) : SumOk Tryz.prog lib hints f (gP (G1R F)) := sumP fun xs v s hv => by
  unfold G1R at hv
  split at hv
  · simp only [Option.map_eq_some_iff] at hv
    obtain ⟨k, h1, rfl⟩ := hv
    rw [asRg_some h1]
    exact h k s
  · cases hv
/-! ### Keys -/
theorem nil_sv : (Value.string ⟨#[]⟩) = sv [] := rfl
theorem len12 {k : BL} : decide (((k.length : Nat) : Int) > 12) = !decide (k.length ≤ 12) := by
  by_cases h : k.length ≤ 12
  · simp [h]; omega
  · simp [h]; omega
theorem CheckKey_run {R : Caller} (k : BL) (s : St) : span_CheckKey R (sv k) s = some (.int .i64 (eK k), s) := by
  unfold span_CheckKey eK ckK
  rw [nil_sv]
  simp only [e_seql, e_lenV, len12, n_bind, n_map, getL_0, getL_1, getL_2, getL_3, getL_4, getL_5, getL_6, getL_7, getL_8, getL_9, getL_10, getL_11, getL_12, condV_t, condV_f, guardV_tt, guardV_ff, guardV_tf, guardV_ft, guardV_u, apick_t, apick_f, exV_exit, exV_ret, lookE_same, joinK_eq, seqA_n, seqA_e, seqA_r, e_add, e_sub, e_mul, e_eql, e_neq, e_lss, e_leq, e_gtr, e_geq, e_conv, e_not, e_neg, and_guard, or_guard]
  cases h1 : (k == []) <;> cases h2 : decide (k.length ≤ 12) <;> simp only [bne, h1, h2, Bool.not_true, Bool.not_false, Bool.true_or, Bool.false_or, Bool.or_true, Bool.or_false, Bool.and_true, Bool.and_false, if_true, if_false, Bool.false_eq_true, n_bind, n_map, getL_0, getL_1, getL_2, getL_3, getL_4, getL_5, getL_6, getL_7, getL_8, getL_9, getL_10, getL_11, getL_12, condV_t, condV_f, guardV_tt, guardV_ff, guardV_tf, guardV_ft, guardV_u, apick_t, apick_f, exV_exit, exV_ret, lookE_same, joinK_eq, seqA_n, seqA_e, seqA_r, e_add, e_sub, e_mul, e_eql, e_neq, e_lss, e_leq, e_gtr, e_geq, e_conv, e_not, e_neg, and_guard, or_guard, retV] <;> rfl
theorem refCheckKey_run {R : Caller} (k : BL) (s : St) : ref02_CheckKey R (sv k) s = some (.int .i64 (eK k), s) := by
  unfold ref02_CheckKey eK ckK
  have h0 : decide (((k.length : Nat) : Int) < 1) = (k == []) := by
    cases k with
    | nil => rfl
    | cons x k => simp; omega
  simp only [e_lenV, h0, len12, n_bind, n_map, getL_0, getL_1, getL_2, getL_3, getL_4, getL_5, getL_6, getL_7, getL_8, getL_9, getL_10, getL_11, getL_12, condV_t, condV_f, guardV_tt, guardV_ff, guardV_tf, guardV_ft, guardV_u, apick_t, apick_f, exV_exit, exV_ret, lookE_same, joinK_eq, seqA_n, seqA_e, seqA_r, e_add, e_sub, e_mul, e_eql, e_neq, e_lss, e_leq, e_gtr, e_geq, e_conv, e_not, e_neg, and_guard, or_guard]
  cases h1 : (k == []) <;> cases h2 : decide (k.length ≤ 12) <;> simp only [bne, h1, h2, Bool.not_true, Bool.not_false, Bool.true_or, Bool.false_or, Bool.or_true, Bool.or_false, Bool.and_true, Bool.and_false, if_true, if_false, Bool.false_eq_true, n_bind, n_map, getL_0, getL_1, getL_2, getL_3, getL_4, getL_5, getL_6, getL_7, getL_8, getL_9, getL_10, getL_11, getL_12, condV_t, condV_f, guardV_tt, guardV_ff, guardV_tf, guardV_ft, guardV_u, apick_t, apick_f, exV_exit, exV_ret, lookE_same, joinK_eq, seqA_n, seqA_e, seqA_r, e_add, e_sub, e_mul, e_eql, e_neq, e_lss, e_leq, e_gtr, e_geq, e_conv, e_not, e_neg, and_guard, or_guard, retV] <;> rfl
end Go.Proofs.YtckpcelchhmjcaaGreat.Ab

/- Keys and ranges: what the functions do, further. -/
namespace Go.Proofs.YtckpcelchhmjcaaGreat.Ab
open Go

theorem z_rv : (Value.agg #[.string ⟨#[]⟩, .string ⟨#[]⟩]) = rv ([], []) := rfl
theorem box_rv (r : Rg) : lbox (rv r) = some (rv r) := rfl
theorem ld_rv (r : Rg) : lload true 2 lptr (rv r) = some (rv r) := rfl
theorem ad_0 : afieldAddr 0 lptr = some (.pointer (some ⟨0, 0, none⟩)) := rfl
theorem ad_1 : afieldAddr 1 lptr = some (.pointer (some ⟨0, 1, none⟩)) := rfl
theorem ld_0 (r : Rg) : lload false 1 lptr (rv r) = some (sv r.1) := rfl
theorem ld_00 (r : Rg) : lload false 1 (.pointer (some ⟨0, 0, none⟩)) (rv r) = some (sv r.1) := rfl
theorem z_rv2 : (Value.agg #[sv [], sv []]) = rv ([], []) := rfl
theorem ld_1 (r : Rg) : lload false 1 (.pointer (some ⟨0, 1, none⟩)) (rv r) = some (sv r.2) := rfl
theorem own_id {α : Type} {s : St} {a : α} : ownR s (a, s) = some (a, s) := by unfold ownR; rw [if_pos (Nat.le_refl _)]
theorem all_run {R : Caller} (s : St) : span_all R s = some (rv ([], []), s) := rfl

theorem geq_bl {P : Program} {t : TypeId} {o1 o2 : Operand} {a b : BL} : abin P .geq t o1 o2 (sv a) (sv b) = some (.bool (!bl a b)) := e_sgeq
theorem Check_run {R : Caller} (hR : ∀ s, R 104 [] s = some (rv ([], []), s)) (r : Rg) (s : St) : span_Check R (rv r) s = some (.int .i64 (eR r), s) := by
  obtain ⟨a, b⟩ := r
  unfold span_Check
  simp only [z_rv, z_rv2, box_rv, ld_rv, span_all_call, hR, own_id, rv_eql, ad_0, ad_1, ld_0, ld_1, nil_sv, e_lenV, len12, e_sneq, geq_bl, n_bind, n_map, getL_0, getL_1, getL_2, getL_3, getL_4, getL_5, getL_6, getL_7, getL_8, getL_9, getL_10, getL_11, getL_12, condV_t, condV_f, guardV_tt, guardV_ff, guardV_tf, guardV_ft, guardV_u, apick_t, apick_f, exV_exit, exV_ret, lookE_same, joinK_eq, seqA_n, seqA_e, seqA_r, e_add, e_sub, e_mul, e_eql, e_neq, e_lss, e_leq, e_gtr, e_geq, e_conv, e_not, e_neg, and_guard, or_guard]
  unfold eR ckR
  by_cases h0 : a = [] ∧ b = []
  · obtain ⟨rfl, rfl⟩ := h0
    rfl
  · have e0 : (a == [] && b == []) = false := by
      cases h1 : (a == []) <;> cases h2 : (b == []) <;> simp_all
    simp only [e0, n_bind, n_map, getL_0, getL_1, getL_2, getL_3, getL_4, getL_5, getL_6, getL_7, getL_8, getL_9, getL_10, getL_11, getL_12, condV_t, condV_f, guardV_tt, guardV_ff, guardV_tf, guardV_ft, guardV_u, apick_t, apick_f, exV_exit, exV_ret, lookE_same, joinK_eq, seqA_n, seqA_e, seqA_r, e_add, e_sub, e_mul, e_eql, e_neq, e_lss, e_leq, e_gtr, e_geq, e_conv, e_not, e_neg, and_guard, or_guard]
    cases h1 : decide (a.length ≤ 12) <;> cases h2 : decide (b.length ≤ 12) <;> cases h3 : (b == []) <;> cases h4 : bl a b <;> simp only [span_Check.j0, h1, h2, h3, h4, Bool.not_true, Bool.not_false, Bool.true_or, Bool.false_or, Bool.or_true, Bool.or_false, Bool.and_true, Bool.and_false, Bool.true_and, Bool.false_and, if_true, if_false, Bool.false_eq_true, z_rv, z_rv2, ld_rv, ld_0, ld_00, ld_1, n_bind, n_map, getL_0, getL_1, getL_2, getL_3, getL_4, getL_5, getL_6, getL_7, getL_8, getL_9, getL_10, getL_11, getL_12, condV_t, condV_f, guardV_tt, guardV_ff, guardV_tf, guardV_ft, guardV_u, apick_t, apick_f, exV_exit, exV_ret, lookE_same, joinK_eq, seqA_n, seqA_e, seqA_r, e_add, e_sub, e_mul, e_eql, e_neq, e_lss, e_leq, e_gtr, e_geq, e_conv, e_not, e_neg, and_guard, or_guard, retV] <;> rfl
theorem refCheck_run {R : Caller} (r : Rg) (s : St) : ref02_Check R (rv r) s = some (.int .i64 (eR r), s) := by
  obtain ⟨a, b⟩ := r
  unfold ref02_Check
  simp only [z_rv, z_rv2, box_rv, ld_rv, ad_0, ad_1, ld_0, ld_1, nil_sv, e_lenV, len12, e_sneq, geq_bl, n_bind, n_map, getL_0, getL_1, getL_2, getL_3, getL_4, getL_5, getL_6, getL_7, getL_8, getL_9, getL_10, getL_11, getL_12, condV_t, condV_f, guardV_tt, guardV_ff, guardV_tf, guardV_ft, guardV_u, apick_t, apick_f, exV_exit, exV_ret, lookE_same, joinK_eq, seqA_n, seqA_e, seqA_r, e_add, e_sub, e_mul, e_eql, e_neq, e_lss, e_leq, e_gtr, e_geq, e_conv, e_not, e_neg, and_guard, or_guard]
  unfold eR ckR
  cases h1 : decide (a.length ≤ 12) <;> cases h2 : decide (b.length ≤ 12) <;> cases h3 : (b == []) <;> cases h4 : bl a b <;> simp only [h1, h2, h3, h4, Bool.not_true, Bool.not_false, Bool.true_or, Bool.false_or, Bool.or_true, Bool.or_false, Bool.and_true, Bool.and_false, Bool.true_and, Bool.false_and, if_true, if_false, Bool.false_eq_true, z_rv, z_rv2, ld_rv, ld_0, ld_00, ld_1, n_bind, n_map, getL_0, getL_1, getL_2, getL_3, getL_4, getL_5, getL_6, getL_7, getL_8, getL_9, getL_10, getL_11, getL_12, condV_t, condV_f, guardV_tt, guardV_ff, guardV_tf, guardV_ft, guardV_u, apick_t, apick_f, exV_exit, exV_ret, lookE_same, joinK_eq, seqA_n, seqA_e, seqA_r, e_add, e_sub, e_mul, e_eql, e_neq, e_lss, e_leq, e_gtr, e_geq, e_conv, e_not, e_neg, and_guard, or_guard, retV] <;> rfl
end Go.Proofs.YtckpcelchhmjcaaGreat.Ab

/- Keys and ranges: Has, least, below. -/
namespace Go.Proofs.YtckpcelchhmjcaaGreat.Ab
open Go

end Go.Proofs.YtckpcelchhmjcaaGreat.Ab

/- Ranges: what two have in common, and what covers. -/
namespace Go.Proofs.YtckpcelchhmjcaaGreat.Ab
open Go

theorem ab2 (x y : BL) : abuild Tryz.prog 27 [(0, sv x), (1, sv y)] = some (rv (x, y)) := by kernel_rfl
theorem eR_n {r : Rg} : (eR r != 0) = !ckR r := by unfold eR; cases ckR r <;> rfl
theorem eK_n {k : BL} : (eK k != 0) = !ckK k := by unfold eK; cases ckK k <;> rfl

end Go.Proofs.YtckpcelchhmjcaaGreat.Ab

/- Ranges: the reference's answers to what two have in common, and to what covers. -/
namespace Go.Proofs.YtckpcelchhmjcaaGreat.Ab
open Go

end Go.Proofs.YtckpcelchhmjcaaGreat.Ab

/- Ranges: a range in two. -/
namespace Go.Proofs.YtckpcelchhmjcaaGreat.Ab
open Go

end Go.Proofs.YtckpcelchhmjcaaGreat.Ab

/- What is known of the functions of keys and ranges: told as sums. -/
namespace Go.Proofs.YtckpcelchhmjcaaGreat.Ab
open Go

theorem progOk : progW Tryz.prog = true := by kernel_rfl
def gKey : Sum := gP (G1K fun k => .int .i64 (eK k))
def gChk : Sum := gP (G1R fun r => .int .i64 (eR r))
def G0 (v : Value) : List Value → Option Value
  | [] => some v
  | _ => none
def gAll : Sum := gP (G0 (rv ([], [])))
theorem key_eq {k : BL} {s : St} : gKey [sv k] s = some (.int .i64 (eK k), s) := rfl
theorem chk_eq {r : Rg} {s : St} : gChk [rv r] s = some (.int .i64 (eR r), s) := rfl
theorem all_eq {s : St} : gAll [] s = some (rv ([], []), s) := rfl
end Go.Proofs.YtckpcelchhmjcaaGreat.Ab

/- The range of a key: the reference's loop. -/
namespace Go.Proofs.YtckpcelchhmjcaaGreat.Ab
open Go

end Go.Proofs.YtckpcelchhmjcaaGreat.Ab

/- The range of a key: what both functions do. -/
namespace Go.Proofs.YtckpcelchhmjcaaGreat.Ab
open Go

/-! ### Strings, and rows -/
/-! ### The range of a key -/
end Go.Proofs.YtckpcelchhmjcaaGreat.Ab

/- Strings have ranks: what is plain of keys and ranges. -/
namespace Go.Proofs.YtckpcelchhmjcaaGreat.Ab
open Go

end Go.Proofs.YtckpcelchhmjcaaGreat.Ab

/- What is plain of keys and ranges, further. -/
namespace Go.Proofs.YtckpcelchhmjcaaGreat.Ab
open Go

/-! ### The range of one key -/
theorem top_eq : ∀ {v o : BL}, (∀ c ∈ v, c = 255) → bl o v = false → o.length ≤ v.length → o = v
  | [], [], _, _, _ => rfl
  | [], _ :: _, _, _, h => by simp at h
  | _ :: _, [], _, h, _ => by cases h
  | c :: v, y :: o, hv, h, hl => by
    have hc := hv c (List.mem_cons_self ..)
    subst hc
    have h1 : ¬ (y.toNat < (255 : UInt8).toNat ∨ (y = 255 ∧ bl o v = true)) := fun g => by rw [bl_cons.2 g] at h; cases h
    have h2 : (255 : UInt8).toNat = 255 := rfl
    have h3 := y.toNat_lt
    have hy : y = 255 := UInt8.toNat_inj.1 (by omega)
    subst hy
    rw [top_eq (v := v) (o := o) (fun c hc => hv c (List.mem_cons_of_mem _ hc)) (by
      cases e : bl o v with
      | false => rfl
      | true => exact absurd (.inr ⟨rfl, e⟩) h1) (by simpa using hl)]
theorem between {x : UInt8} (hx : x ≠ 255) {v : BL} (hv : ∀ c ∈ v, c = 255) : ∀ {u o : BL}, bl o (u ++ x :: v) = false → bl o (u ++ [x + 1]) = true → o.length ≤ (u ++ x :: v).length → o = u ++ x :: v
  | [], [], h, _, _ => by cases h
  | [], y :: o, h, g, hl => by
    have hx1 : (x + 1).toNat = x.toNat + 1 := by
      have h1 := x.toNat_lt
      have h2 : x.toNat ≠ 255 := fun e => hx (UInt8.toNat_inj.1 e)
      rw [UInt8.toNat_add]
      have : (1 : UInt8).toNat = 1 := rfl
      omega
    have h1 : ¬ (y.toNat < x.toNat ∨ (y = x ∧ bl o v = true)) := fun g => by rw [List.nil_append, bl_cons.2 g] at h; cases h
    rw [List.nil_append, bl_cons] at g
    rw [bl_nil_r] at g
    have hy : y = x := UInt8.toNat_inj.1 (by
      rcases g with g | ⟨_, g⟩
      · omega
      · cases g)
    subst hy
    rw [top_eq (v := v) (o := o) hv (by
      cases e : bl o v with
      | false => rfl
      | true => exact absurd (.inr ⟨rfl, e⟩) h1) (by simpa using hl)]
    rfl
  | _ :: _, [], h, _, _ => by cases h
  | c :: u, y :: o, h, g, hl => by
    have h1 : ¬ (y.toNat < c.toNat ∨ (y = c ∧ bl o (u ++ x :: v) = true)) := fun g => by rw [List.cons_append, bl_cons.2 g] at h; cases h
    rw [List.cons_append, bl_cons] at g
    have hy : y = c := by
      rcases g with g | g
      · exact absurd (.inl g) h1
      · exact g.1
    subst hy
    have g2 : bl o (u ++ [x + 1]) = true := by
      rcases g with g | g
      · omega
      · exact g.2
    rw [between hx hv (u := u) (o := o) (by
      cases e : bl o (u ++ x :: v) with
      | false => rfl
      | true => exact absurd (.inr ⟨rfl, e⟩) h1) g2 (by simpa using hl)]
    rfl
theorem above {x : UInt8} (hx : x ≠ 255) {v : BL} : ∀ {u : BL}, bl (u ++ x :: v) (u ++ [x + 1]) = true
  | [] => by
    rw [List.nil_append, List.nil_append, bl_cons]
    left
    have h1 := x.toNat_lt
    have h2 : x.toNat ≠ 255 := fun e => hx (UInt8.toNat_inj.1 e)
    rw [UInt8.toNat_add]
    have : (1 : UInt8).toNat = 1 := rfl
    omega
  | c :: u => by
    rw [List.cons_append, List.cons_append, bl_cons]
    exact .inr ⟨rfl, above hx⟩
end Go.Proofs.YtckpcelchhmjcaaGreat.Ab

/- Compared strings: known by the kit's walk. -/
namespace Go.Proofs.YtckpcelchhmjcaaGreat.Ab
open Go Go.RowKit Go.Lib

theorem libOk_direct {P : Program} (hprog : progW P = true) {l : List (FuncId × Sum)} (hl : LibOk P (libL l)) {f : FuncId} {g : Sum} (hok : funcOk P f = true)
    (hg : LibOk P (libL l) → ∀ args s v s', g args s = some (v, s') → ∀ wb ι w (args' : Array Value), Sim wb ι s.heap w → All2 (VRel ι) args args'.toList → Calls P f args' w fun e w' => ∃ v', e = .returned v' ∧ After wb ι s.heap w s'.heap v v' w') : LibOk P (libL ((f, g) :: l)) := by
  intro f' g' hf' args s v s' h wb ι w args' hs ha
  simp only [libL] at hf'
  split at hf'
  · rename_i hff
    cases hf'
    subst hff
    exact hg hl args s v s' h wb ι w args' hs ha
  · exact hl f' g' hf' args s v s' h wb ι w args' hs ha

/-! ### Strings compared -/
set_option maxHeartbeats 1000000 in
set_option maxRecDepth 100000 in
theorem CompareString_calls (a b : ByteArray) (w : World) :
    Calls Tryz.prog 160 #[.string a, .string b] w fun e w' => e = .returned (.int .i64 (Lib.compareBytes a.data.toList b.data.toList)) ∧ w' = w := by
  go_enter Tryz.func160, Tryz.ntmps160
  go_wp2
  rw [run_callFunc_extern Tryz.func162 (by kernel_rfl) (by kernel_rfl) (by kernel_rfl) (e := Extern.BytealgCompare.compare) (by kernel_rfl), Lib.run_compareString]
  simp only [Result.andThen]
  rw [Oper.upon_value]
  go_wp2
  go_ret
  exact ⟨rfl, rfl⟩
end Go.Proofs.YtckpcelchhmjcaaGreat.Ab

/- slices.Insert within a slice: what the kit's walk shows of the model, told of the abstract machine. -/
namespace Go.Proofs.YtckpcelchhmjcaaGreat.Ab
open Go

/-! ### A row is another one, at its place -/
/-- what the walks show -/
structure InsWalk (P : Program) (f : FuncId) (t e tI ov : TypeId) (nn wd : Nat) : Prop where
  ht : P.underlying t = some (.slice e)
  hI : P.underlying tI = some (.int .i64)
  hn : sizeT P e = some nn
  hw : bytesT P e = some wd
  hz : ∃ z, zeroT P e = some z ∧ (cellsV z).length = nn
  hn2 : 2 ≤ nn
  hw0 : 0 < wd
  hov : ∀ (w : World) (a b : Addr) (la ca lb cb : Nat), a.block ≠ b.block → ∀ tA tB kA kB, w.shape? a.block = some (tA, kA) → w.shape? b.block = some (tB, kB) → kB ≠ 0 → w.frozen? a = false → w.frozen? { block := a.block, off := kA } = false →
    (callFunc ov #[.slice (some a) la ca, .slice (some b) lb cb]).run P w = .ok (.value (.bool false)) w
  walkD : ∀ (b off n c i vb voff m vc : Nat) (w : World), i < n → 0 < m → n + m ≤ c → n + m ≤ 9223372036854775807 →
    (∀ lb cb, (callFunc ov #[.slice (some ⟨vb, voff, none⟩) m vc, .slice (some ⟨b, off + (i + m) * nn, none⟩) lb cb]).run P w = .ok (.value (.bool false)) w) →
    ∀ (W1 : World) (r1 : Value), (∀ ty dc sc, (Builtin.copy_ #[t, t] ty #[.slice (some ⟨b, off + (i + m) * nn, none⟩) (n + m - (i + m)) dc, .slice (some ⟨b, off + i * nn, none⟩) (n + m - i) sc]).run P w.drew = .ok r1 W1) →
    ∀ (W2 : World) (r2 : Value), (∀ ty dc, (Builtin.copy_ #[t, t] ty #[.slice (some ⟨b, off + i * nn, none⟩) (n + m - i) dc, .slice (some ⟨vb, voff, none⟩) m vc]).run P W1 = .ok r2 W2) →
    Calls P f #[.slice (some ⟨b, off, none⟩) n c, .int .i64 i, .slice (some ⟨vb, voff, none⟩) m vc] w fun e w' => e = .returned (.slice (some ⟨b, off, none⟩) (n + m) c) ∧ w' = W2
  walkE : ∀ (b off n c i vb voff m vc : Nat) (w : World), i < n → 0 < m → n ≤ c → c < n + m → n + m ≤ 9223372036854775807 →
    ∀ (W0 : World) (N cap : Nat), n + m ≤ cap → (∀ ty, (Builtin.append_ #[t, tI] ty #[.slice (some ⟨b, off, none⟩) i c, .int .i64 ((n : Int) + (m : Int) - (i : Int))]).run P w = .ok (.slice (some ⟨N, 0, none⟩) (n + m) cap) W0) →
    ∀ (W1 : World) (r1 : Value), (∀ ty dc, (Builtin.copy_ #[t, t] ty #[.slice (some ⟨N, i * nn, none⟩) (n + m - i) dc, .slice (some ⟨vb, voff, none⟩) m vc]).run P W0 = .ok r1 W1) →
    ∀ (W2 : World) (r2 : Value), (∀ ty dc sc, (Builtin.copy_ #[t, t] ty #[.slice (some ⟨N, (i + m) * nn, none⟩) (n + m - (i + m)) dc, .slice (some ⟨b, off + i * nn, none⟩) (n - i) sc]).run P W1.drew = .ok r2 W2) →
    Calls P f #[.slice (some ⟨b, off, none⟩) n c, .int .i64 i, .slice (some ⟨vb, voff, none⟩) m vc] w fun e w' => e = .returned (.slice (some ⟨N, 0, none⟩) (n + m) cap) ∧ w' = W2

end Go.Proofs.YtckpcelchhmjcaaGreat.Ab

/- slices.Insert of pairs: known by the kit's walks. -/
namespace Go.Proofs.YtckpcelchhmjcaaGreat.Ab
open Go Go.RowKit Go.Lib Go.Shelf

/-! ### slices.Insert -/
set_option maxHeartbeats 4000000 in
set_option maxRecDepth 100000 in
theorem InsD (b off n c i vb voff m vc : Nat) (w : World) (hi : i < n) (hm : 0 < m) (hroom : n + m ≤ c) (hc63 : n + m ≤ 9223372036854775807)
    (hov : ∀ lb cb, (callFunc 158 #[.slice (some ⟨vb, voff, none⟩) m vc, .slice (some ⟨b, off + (i + m) * 2, none⟩) lb cb]).run Tryz.prog w = .ok (.value (.bool false)) w)
    (W1 : World) (r1 : Value) (hcp1 : ∀ ty dc sc, (Builtin.copy_ #[144, 144] ty #[.slice (some ⟨b, off + (i + m) * 2, none⟩) (n + m - (i + m)) dc, .slice (some ⟨b, off + i * 2, none⟩) (n + m - i) sc]).run Tryz.prog w.drew = .ok r1 W1)
    (W2 : World) (r2 : Value) (hcp2 : ∀ ty dc, (Builtin.copy_ #[144, 144] ty #[.slice (some ⟨b, off + i * 2, none⟩) (n + m - i) dc, .slice (some ⟨vb, voff, none⟩) m vc]).run Tryz.prog W1 = .ok r2 W2) :
    Calls Tryz.prog 151 #[.slice (some ⟨b, off, none⟩) n c, .int .i64 i, .slice (some ⟨vb, voff, none⟩) m vc] w fun e w' => e = .returned (.slice (some ⟨b, off, none⟩) (n + m) c) ∧ w' = W2 := by
  have hz1 : ¬ ((m : Int) = 0) := by omega
  have hz2 : ¬ ((i : Int) = (n : Int)) := by omega
  have hsz : (Tryz.prog.info? 150).map (·.size) = some 2 := by kernel_rfl
  have hw1 : IntKind.i64.wrap ((i : Int) + (m : Int)) = (i : Int) + (m : Int) := by rw [IntKind.wrap_i64]; omega
  have hb1 : (0 : Int) ≤ (i : Int) + (m : Int) := by omega
  have hin : i ≤ n := by omega
  have htn : ((i : Int) + (m : Int)).toNat = i + m := by omega
  have hb2 : ¬ (c = i + m) := by omega
  have hb3 : (i : Int) ≤ (n : Int) + (m : Int) := by omega
  have hb4 : ¬ (c = i) := by omega
  have mixed : Tryz.prog.follows .mixedOrders = true := by kernel_rfl
  go_enter Tryz.func151, Tryz.ntmps151
  go_wp2_with (simp only [hov])
  go_region_law_o (refine step_copy_runI rfl _ _ 144 144 rfl _ _ (by simp [Act.eval, Act.put]) (by simp [Act.eval, Act.put]) (hcp1 _ _ _) ?_)
  go_wp2_with (at_builtin; refine wpList_copy_runI _ rfl _ _ 144 144 rfl _ _ rfl rfl (hcp2 _ _) ?_)
  go_ret
  exact ⟨rfl, rfl⟩
set_option maxHeartbeats 4000000 in
set_option maxRecDepth 100000 in
theorem InsE (b off n c i vb voff m vc : Nat) (w : World) (hi : i < n) (hm : 0 < m) (hnc : n ≤ c) (hroom : c < n + m) (hc63 : n + m ≤ 9223372036854775807)
    (W0 : World) (N cap : Nat) (hcap : n + m ≤ cap) (hap : ∀ ty, (Builtin.append_ #[144, 3] ty #[.slice (some ⟨b, off, none⟩) i c, .int .i64 ((n : Int) + (m : Int) - (i : Int))]).run Tryz.prog w = .ok (.slice (some ⟨N, 0, none⟩) (n + m) cap) W0)
    (W1 : World) (r1 : Value) (hcp1 : ∀ ty dc, (Builtin.copy_ #[144, 144] ty #[.slice (some ⟨N, i * 2, none⟩) (n + m - i) dc, .slice (some ⟨vb, voff, none⟩) m vc]).run Tryz.prog W0 = .ok r1 W1)
    (W2 : World) (r2 : Value) (hcp2 : ∀ ty dc sc, (Builtin.copy_ #[144, 144] ty #[.slice (some ⟨N, (i + m) * 2, none⟩) (n + m - (i + m)) dc, .slice (some ⟨b, off + i * 2, none⟩) (n - i) sc]).run Tryz.prog W1.drew = .ok r2 W2) :
    Calls Tryz.prog 151 #[.slice (some ⟨b, off, none⟩) n c, .int .i64 i, .slice (some ⟨vb, voff, none⟩) m vc] w fun e w' => e = .returned (.slice (some ⟨N, 0, none⟩) (n + m) cap) ∧ w' = W2 := by
  have hz1 : ¬ ((m : Int) = 0) := by omega
  have hz2 : ¬ ((i : Int) = (n : Int)) := by omega
  have hz3 : (c : Int) < (n : Int) + (m : Int) := by omega
  have hsz : (Tryz.prog.info? 150).map (·.size) = some 2 := by kernel_rfl
  have hw1 : IntKind.i64.wrap ((i : Int) + (m : Int)) = (i : Int) + (m : Int) := by rw [IntKind.wrap_i64]; omega
  have hb1 : (0 : Int) ≤ (i : Int) + (m : Int) := by omega
  have hin : i ≤ n := by omega
  have hb3 : (i : Int) ≤ (n : Int) := by omega
  have hb5 : ¬ (cap = i + m) := by omega
  have hb6 : ¬ (c = i) := by omega
  have htn : ((i : Int) + (m : Int)).toNat = i + m := by omega
  have mixed : Tryz.prog.follows .mixedOrders = true := by kernel_rfl
  go_enter Tryz.func151, Tryz.ntmps151
  go_wp2_with (first
    | (at_builtin; refine Lib.wpList_append_run _ rfl _ _ _ _ rfl _ _ rfl rfl _ _ (hap _) ?_)
    | (at_builtin; refine wpList_copy_runI _ rfl _ _ 144 144 rfl _ _ rfl rfl (hcp1 _ _) ?_)
    | (at_builtin; refine wpList_copy_runI _ rfl _ _ 144 144 rfl _ _ rfl rfl (hcp2 _ _ _) ?_))
  go_region_law_o (refine step_copy_runI rfl _ _ 144 144 rfl (.slice (some ⟨N, (i + m) * 2, none⟩) (n + m - (i + m)) (cap - (i + m))) (.slice (some ⟨b, off + i * 2, none⟩) (n - i) (c - i)) (by simp [Act.eval, Act.put, hb5, hb6]) (by simp [Act.eval, Act.put, hb5, hb6]) (hcp2 3 (cap - (i + m)) (c - i)) ?_)
  go_wp2
  go_ret
  exact ⟨rfl, rfl⟩
end Go.Proofs.YtckpcelchhmjcaaGreat.Ab

/- Operations, as values; the kinds' forms. -/
namespace Go.Proofs.YtckpcelchhmjcaaGreat.Ab
open Go

/-- a || b && c, a && (b || c), as they are worked out -/
theorem or_and {β : Type} {a b c : Bool} {s : St} {K : List Value × St → Value → Option β} :
    ((guardV (.bool a) false (some ([.bool b], s)) (some ([undef], s))).bind fun q => (guardV (getL q.1 0) true (some ([.bool c], q.2)) (some ([undef], q.2))).bind fun q2 => (guardV (.bool a) false ((apick (getL q.1 0) (getL q2.1 0) (.bool false)).bind fun v => some ([v], q2.2)) (some ([undef], q2.2))).bind fun q3 => (apick (.bool a) (.bool true) (getL q3.1 0)).bind (K q3)) = K ([if a = true then undef else .bool (b && c)], s) (.bool (a || (b && c))) := by
  cases a <;> cases b <;> cases c <;> rfl
theorem and_or {β : Type} {a b c : Bool} {s : St} {K : List Value × St → Value → Option β} :
    ((guardV (.bool a) true (some ([.bool b], s)) (some ([undef], s))).bind fun q => (guardV (getL q.1 0) false (some ([.bool c], q.2)) (some ([undef], q.2))).bind fun q2 => (guardV (.bool a) true ((apick (getL q.1 0) (.bool true) (getL q2.1 0)).bind fun v => some ([v], q2.2)) (some ([undef], q2.2))).bind fun q3 => (apick (.bool a) (getL q3.1 0) (.bool false)).bind (K q3)) = K ([if a = true then .bool (b || c) else undef], s) (.bool (a && (b || c))) := by
  cases a <;> cases b <;> cases c <;> rfl
theorem condV_if {b : Bool} {β : Type} {x y : Option β} : condV (.bool b) x y = if b = true then x else y := by cases b <;> rfl
theorem ret1 {v : Value} {s : St} (h : noTup v = true := by rfl) : retV [v] s = some (v, s) := by simp [retV, h, resPack]

structure OpT where
  kind : Int
  key : BL
  val : BL
  lo : BL
  hi : BL
  most : Int
def oC (o : OpT) : List Value := [.int .i64 o.kind, sv o.key, sv o.val, sv o.lo, sv o.hi, .int .i64 o.most]
def oV (o : OpT) : Value := .agg #[.int .i64 o.kind, sv o.key, sv o.val, sv o.lo, sv o.hi, .int .i64 o.most]
def asOp : Value → Option OpT
  | .agg cs => match cs.toList with
    | [.int .i64 k, .string a, .string b, .string c, .string d, .int .i64 m] => some ⟨k, a.data.toList, b.data.toList, c.data.toList, d.data.toList, m⟩
    | _ => none
  | _ => none
theorem asOp_some {v : Value} {o : OpT} (h : asOp v = some o) : v = oV o := by
  unfold asOp at h
  split at h
  · rename_i cs
    split at h
    · rename_i k a b c d m e
      cases h
      obtain ⟨l⟩ := cs
      simp only at e
      subst e
      unfold oV
      rw [← sv_of, ← sv_of, ← sv_of, ← sv_of]
    · cases h
  · cases h
theorem o_box (o : OpT) : lbox (oV o) = some (oV o) := rfl
theorem o_all (o : OpT) : lload true 6 lptr (oV o) = some (oV o) := rfl
theorem o_0 (o : OpT) : lload false 1 lptr (oV o) = some (.int .i64 o.kind) := rfl
theorem o_1 (o : OpT) : lload false 1 (.pointer (some ⟨0, 1, none⟩)) (oV o) = some (sv o.key) := rfl
theorem o_2 (o : OpT) : lload false 1 (.pointer (some ⟨0, 2, none⟩)) (oV o) = some (sv o.val) := rfl
theorem o_3 (o : OpT) : lload false 1 (.pointer (some ⟨0, 3, none⟩)) (oV o) = some (sv o.lo) := rfl
theorem o_4 (o : OpT) : lload false 1 (.pointer (some ⟨0, 4, none⟩)) (oV o) = some (sv o.hi) := rfl
theorem o_5 (o : OpT) : lload false 1 (.pointer (some ⟨0, 5, none⟩)) (oV o) = some (.int .i64 o.most) := rfl
theorem p_0 : afieldAddr 0 lptr = some lptr := rfl
theorem p_1 : afieldAddr 1 lptr = some (.pointer (some ⟨0, 1, none⟩)) := rfl
theorem p_2 : afieldAddr 2 lptr = some (.pointer (some ⟨0, 2, none⟩)) := rfl
theorem p_3 : afieldAddr 3 lptr = some (.pointer (some ⟨0, 3, none⟩)) := rfl
theorem p_5 : afieldAddr 5 lptr = some (.pointer (some ⟨0, 5, none⟩)) := rfl

def G1O (F : OpT → Value) : List Value → Option Value
  | [v] => (asOp v).map F
  | _ => none
theorem sum1O {lib : Lib} {f : FuncId} {F : OpT → Value} (h : ∀ o s, plainV (F o) = true ∧ ∃ t, run Tryz.prog lib hints f [oV o] s = some (F o, t)) : SumOk Tryz.prog lib hints f (gP (G1O F)) := sumP fun xs v s hv => by
  unfold G1O at hv
  split at hv
  · simp only [Option.map_eq_some_iff] at hv
    obtain ⟨k, h1, rfl⟩ := hv
    rw [asOp_some h1]
    exact h k s
  · cases hv
def G1I (F : Int → Value) : List Value → Option Value
  | [.int .i64 k] => some (F k)
  | _ => none
theorem sum1I {lib : Lib} {f : FuncId} {F : Int → Value} (h : ∀ k s, plainV (F k) = true ∧ ∃ t, run Tryz.prog lib hints f [.int .i64 k] s = some (F k, t)) : SumOk Tryz.prog lib hints f (gP (G1I F)) := sumP fun xs v s hv => by
  unfold G1I at hv
  split at hv
  · cases hv
    exact h _ s
  · cases hv
theorem sum0 {lib : Lib} {f : FuncId} {v : Value} (h : ∀ s, plainV v = true ∧ ∃ t, run Tryz.prog lib hints f [] s = some (v, t)) : SumOk Tryz.prog lib hints f (gP (G0 v)) := sumP fun xs u s hv => by
  unfold G0 at hv
  split at hv
  · cases hv
    exact h s
  · cases hv

/-! ### The forms -/
def formC : Int → List Value
  | 1 => [.bool true, .bool false, .bool false, .bool false, .bool false, .func (.func 145) #[] #[]]
  | 2 => [.bool true, .bool true, .bool false, .bool false, .bool true, .func (.func 146) #[] #[]]
  | 3 => [.bool true, .bool false, .bool false, .bool false, .bool true, .func (.func 147) #[] #[]]
  | 4 => [.bool false, .bool false, .bool true, .bool true, .bool false, .func (.func 148) #[] #[]]
  | 5 => [.bool false, .bool false, .bool true, .bool false, .bool true, .func (.func 149) #[] #[]]
  | _ => [.bool false, .bool false, .bool false, .bool false, .bool false, .nilFunc]
def formV (k : Int) : Value := .agg (formC k).toArray
def formsV : Value := .agg (formC 0 ++ formC 1 ++ formC 2 ++ formC 3 ++ formC 4 ++ formC 5).toArray
def okKind (k : Int) : Bool := decide (1 ≤ k) && decide (k ≤ 5)
theorem kinds {k : Int} (h : okKind k = true) : k = 1 ∨ k = 2 ∨ k = 3 ∨ k = 4 ∨ k = 5 := by
  unfold okKind at h
  simp at h
  omega
theorem noKind {k : Int} (h : okKind k = false) : formV k = formV 0 := by
  have : k ≠ 1 ∧ k ≠ 2 ∧ k ≠ 3 ∧ k ≠ 4 ∧ k ≠ 5 := by
    unfold okKind at h
    simp at h
    refine ⟨?_, ?_, ?_, ?_, ?_⟩ <;> (rintro rfl; revert h; decide)
  unfold formV formC
  obtain ⟨h1, h2, h3, h4, h5⟩ := this
  split <;> simp_all
theorem forms_run {R : Caller} (s : St) : op_forms R s = some (formsV, s) := by kernel_rfl
def fmV (k : Int) : Value := .tuple #[formV k, .bool (okKind k)]
theorem formOf_run {R : Caller} (hF : ∀ s, R 137 [] s = some (formsV, s)) (k : Int) (s : St) : op_formOf R (.int .i64 k) s = some (fmV k, s) := by
  unfold op_formOf fmV
  cases h : okKind k
  · rw [noKind h]
    unfold okKind at h
    have h2 : (decide (k < 1) || decide (k > 5)) = true := by
      simp at h ⊢
      omega
    cases h1 : decide (k < 1) <;> rw [h1] at h2
    · have h3 : decide (k > 5) = true := by simpa using h2
      simp only [e_lss, e_gtr, h1, h3, n_bind, n_map, getL_0, getL_1, getL_2, getL_3, getL_4, getL_5, getL_6, getL_7, getL_8, getL_9, getL_10, getL_11, getL_12, condV_t, condV_f, guardV_tt, guardV_ff, guardV_tf, guardV_ft, guardV_u, apick_t, apick_f, exV_exit, exV_ret, lookE_same, joinK_eq, seqA_n, seqA_e, seqA_r, e_add, e_sub, e_mul, e_eql, e_neq, e_lss, e_leq, e_gtr, e_geq, e_conv, e_not, e_neg, and_guard, or_guard, retV]
      rfl
    · simp only [e_lss, e_gtr, h1, n_bind, n_map, getL_0, getL_1, getL_2, getL_3, getL_4, getL_5, getL_6, getL_7, getL_8, getL_9, getL_10, getL_11, getL_12, condV_t, condV_f, guardV_tt, guardV_ff, guardV_tf, guardV_ft, guardV_u, apick_t, apick_f, exV_exit, exV_ret, lookE_same, joinK_eq, seqA_n, seqA_e, seqA_r, e_add, e_sub, e_mul, e_eql, e_neq, e_lss, e_leq, e_gtr, e_geq, e_conv, e_not, e_neg, and_guard, or_guard, retV]
      rfl
  · have h1 : decide (k < 1) = false := by rcases kinds h with rfl | rfl | rfl | rfl | rfl <;> rfl
    have h2 : decide (k > 5) = false := by rcases kinds h with rfl | rfl | rfl | rfl | rfl <;> rfl
    have h3 : aindexAgg true 6 6 formsV (.int .i64 k) = some (formV k) := by rcases kinds h with rfl | rfl | rfl | rfl | rfl <;> rfl
    have h4 : lstore 6 lptr (formV k) (.agg #[(.bool false), (.bool false), (.bool false), (.bool false), (.bool false), .nilFunc]) = some (formV k) := by rcases kinds h with rfl | rfl | rfl | rfl | rfl <;> rfl
    have h5 : lload true 6 lptr (formV k) = some (formV k) := by rcases kinds h with rfl | rfl | rfl | rfl | rfl <;> rfl
    simp only [e_lss, e_gtr, h1, h2, op_forms_call, hF, h3, h4, h5, n_bind, n_map, getL_0, getL_1, getL_2, getL_3, getL_4, getL_5, getL_6, getL_7, getL_8, getL_9, getL_10, getL_11, getL_12, condV_t, condV_f, guardV_tt, guardV_ff, guardV_tf, guardV_ft, guardV_u, apick_t, apick_f, exV_exit, exV_ret, lookE_same, joinK_eq, seqA_n, seqA_e, seqA_r, e_add, e_sub, e_mul, e_eql, e_neq, e_lss, e_leq, e_gtr, e_geq, e_conv, e_not, e_neg, and_guard, or_guard, retV]
    rfl
theorem form_plain (k : Int) : plainV (fmV k) = true := by
  unfold fmV
  cases h : okKind k
  · rw [noKind h]; rfl
  · rcases kinds h with rfl | rfl | rfl | rfl | rfl <;> rfl
theorem x_fm (k : Int) : aextract 0 (fmV k) = some (formV k) ∧ aextract 1 (fmV k) = some (.bool (okKind k)) := ⟨rfl, rfl⟩
def gForms : Sum := gP (G0 formsV)
def gFm : Sum := gP (G1I fmV)
theorem forms_eq {s : St} : gForms [] s = some (formsV, s) := rfl
theorem fm_eq {k : Int} {s : St} : gFm [.int .i64 k] s = some (fmV k, s) := rfl

/-! ### What may be -/
def keyed (k : Int) : Bool := k == 1 || k == 2 || k == 3
def ranged (k : Int) : Bool := k == 4 || k == 5
def wrt (k : Int) : Bool := k == 2 || k == 3 || k == 5
def ckO (o : OpT) : Int :=
  if !okKind o.kind || (keyed o.kind && (o.lo != [] || o.hi != [])) || (ranged o.kind && o.key != []) || (o.kind != 2 && o.val != []) || (o.kind != 4 && o.most != 0) then 40
  else if keyed o.kind && !ckK o.key then 20
  else if !decide (o.val.length ≤ 16) then 2
  else if ranged o.kind && !ckR (o.lo, o.hi) then 21
  else if o.kind == 4 && (decide (o.most < 1) || decide (o.most > 4)) then 1
  else 0
theorem ckO_bad {o : OpT} (h : okKind o.kind = false) : ckO o = 40 := by unfold ckO; rw [h]; rfl
theorem of_run {R : Caller} (o : OpT) (s : St) : op_of R (oV o) s = some (rv (o.lo, o.hi), s) := by
  unfold op_of
  simp only [o_box, o_3, o_4, ab2, n_bind, n_map, getL_0, getL_1, getL_2, getL_3, getL_4, getL_5, getL_6, getL_7, getL_8, getL_9, getL_10, getL_11, getL_12, condV_t, condV_f, guardV_tt, guardV_ff, guardV_tf, guardV_ft, guardV_u, apick_t, apick_f, exV_exit, exV_ret, lookE_same, joinK_eq, seqA_n, seqA_e, seqA_r, e_add, e_sub, e_mul, e_eql, e_neq, e_lss, e_leq, e_gtr, e_geq, e_conv, e_not, e_neg, and_guard, or_guard, retV]
  rfl
theorem len16 {k : BL} : decide (((k.length : Nat) : Int) > 16) = !decide (k.length ≤ 16) := by
  by_cases h : k.length ≤ 16
  · simp [h]; omega
  · simp [h]; omega
theorem f_ld (k : Int) (h : okKind k = true) : lstore 6 lptr (formV k) (.agg #[(.bool false), (.bool false), (.bool false), (.bool false), (.bool false), .nilFunc]) = some (formV k) ∧
    lload false 1 lptr (formV k) = some (.bool (keyed k)) ∧ lload false 1 (.pointer (some ⟨0, 1, none⟩)) (formV k) = some (.bool (k == 2)) ∧ lload false 1 (.pointer (some ⟨0, 2, none⟩)) (formV k) = some (.bool (ranged k)) ∧ lload false 1 (.pointer (some ⟨0, 3, none⟩)) (formV k) = some (.bool (k == 4)) ∧ lload false 1 (.pointer (some ⟨0, 4, none⟩)) (formV k) = some (.bool (wrt k)) := by
  rcases kinds h with rfl | rfl | rfl | rfl | rfl <;> exact ⟨rfl, rfl, rfl, rfl, rfl, rfl⟩
theorem CheckOp_run {R : Caller} (hF : ∀ k s, R 107 [.int .i64 k] s = some (fmV k, s)) (hO : ∀ o s, R 108 [oV o] s = some (rv (o.lo, o.hi), s)) (hR : ∀ r s, R 36 [rv r] s = some (.int .i64 (eR r), s)) (hK : ∀ k s, R 103 [sv k] s = some (.int .i64 (eK k), s)) (o : OpT) (s : St) : op_CheckOp R (oV o) s = some (.int .i64 (ckO o), s) := by
  unfold op_CheckOp
  simp only [o_box, o_0, op_formOf_call, hF, (x_fm _).1, (x_fm _).2, n_bind, n_map, getL_0, getL_1, getL_2, getL_3, getL_4, getL_5, getL_6, getL_7, getL_8, getL_9, getL_10, getL_11, getL_12, condV_t, condV_f, guardV_tt, guardV_ff, guardV_tf, guardV_ft, guardV_u, apick_t, apick_f, exV_exit, exV_ret, lookE_same, joinK_eq, seqA_n, seqA_e, seqA_r, e_add, e_sub, e_mul, e_eql, e_neq, e_lss, e_leq, e_gtr, e_geq, e_conv, e_not, e_neg, and_guard, or_guard]
  cases hk : okKind o.kind
  · rw [noKind hk, ckO_bad hk]
    have h1 : lstore 6 lptr (formV 0) (.agg #[(.bool false), (.bool false), (.bool false), (.bool false), (.bool false), .nilFunc]) = some (formV 0) := rfl
    simp only [h1, Bool.not_false, n_bind, n_map, getL_0, getL_1, getL_2, getL_3, getL_4, getL_5, getL_6, getL_7, getL_8, getL_9, getL_10, getL_11, getL_12, condV_t, condV_f, guardV_tt, guardV_ff, guardV_tf, guardV_ft, guardV_u, apick_t, apick_f, exV_exit, exV_ret, lookE_same, joinK_eq, seqA_n, seqA_e, seqA_r, e_add, e_sub, e_mul, e_eql, e_neq, e_lss, e_leq, e_gtr, e_geq, e_conv, e_not, e_neg, and_guard, or_guard, op_CheckOp.j0, retV]
    rfl
  obtain ⟨f0, f1, f2, f3, f4, f5⟩ := f_ld o.kind hk
  have hrk : ranged o.kind = !keyed o.kind := by rcases kinds hk with h | h | h | h | h <;> rw [h] <;> rfl
  have hne : ∀ a b : BL, (!(a == [] && b == [])) = (a != [] || b != []) := fun a b => by simp [bne, Bool.not_and]
  have rne : ∀ (o1 o2 : Operand) (r : Rg), abin Tryz.prog .neq 27 o1 o2 (rv r) (.agg #[sv [], sv []]) = some (.bool (r.1 != [] || r.2 != [])) := fun o1 o2 r => by
    rw [z_rv2, rv_neq, hne]
  have hck : ckO o = if (keyed o.kind && (o.lo != [] || o.hi != [])) || (!keyed o.kind && o.key != []) || (o.kind != 2 && o.val != []) || (o.kind != 4 && o.most != 0) then 40
      else if keyed o.kind && !ckK o.key then 20
      else if !decide (o.val.length ≤ 16) then 2
      else if !keyed o.kind && !ckR (o.lo, o.hi) then 21
      else if o.kind == 4 && (decide (o.most < 1) || decide (o.most > 4)) then 1
      else 0 := by
    unfold ckO
    rw [hk, hrk]
    rfl
  rw [hck]
  have hb2 : (o.kind != 2) = !(o.kind == 2) := rfl
  have hb4 : (o.kind != 4) = !(o.kind == 4) := rfl
  rw [hrk] at f3
  rw [hb2, hb4]
  generalize keyed o.kind = kd at *
  generalize (o.kind == 2) = k2 at *
  generalize (o.kind == 4) = k4 at *
  have hj : ∀ b, op_CheckOp.j0 R [lptr, lptr, .bool b, oV o, formV o.kind] s = some (.int .i64 (if b then 40 else if kd && !ckK o.key then 20
      else if !decide (o.val.length ≤ 16) then 2
      else if !kd && !ckR (o.lo, o.hi) then 21
      else if k4 && (decide (o.most < 1) || decide (o.most > 4)) then 1
      else 0), s) := fun b => by
    unfold op_CheckOp.j0
    cases b
    · simp only [p_0, p_1, p_2, p_3, p_5, o_all, o_1, o_2, o_5, f1, f3, f4, e_lenV, len16, span_CheckKey_call, hK, op_of_call, hO, span_Check_call, hR, eK_n, eR_n, n_bind, n_map, getL_0, getL_1, getL_2, getL_3, getL_4, getL_5, getL_6, getL_7, getL_8, getL_9, getL_10, getL_11, getL_12, condV_t, condV_f, guardV_tt, guardV_ff, guardV_tf, guardV_ft, guardV_u, apick_t, apick_f, exV_exit, exV_ret, lookE_same, joinK_eq, seqA_n, seqA_e, seqA_r, e_add, e_sub, e_mul, e_eql, e_neq, e_lss, e_leq, e_gtr, e_geq, e_conv, e_not, e_neg, and_guard, or_guard]
      cases kd <;> cases h1 : ckK o.key <;> cases h2 : decide (o.val.length ≤ 16) <;> cases h3 : ckR (o.lo, o.hi) <;> cases k4 <;> cases h4 : decide (o.most < 1) <;> cases h5 : decide (o.most > 4) <;>
        simp only [h1, h2, h3, h4, h5, f1, f3, f4, o_1, o_2, o_5, o_all, e_lenV, len16, eK_n, eR_n, op_of_call, hO, span_Check_call, hR, Bool.not_true, Bool.not_false, Bool.and_true, Bool.and_false, Bool.true_and, Bool.false_and, Bool.or_true, Bool.or_false, Bool.true_or, Bool.false_or, if_true, if_false, Bool.false_eq_true, n_bind, n_map, getL_0, getL_1, getL_2, getL_3, getL_4, getL_5, getL_6, getL_7, getL_8, getL_9, getL_10, getL_11, getL_12, condV_t, condV_f, guardV_tt, guardV_ff, guardV_tf, guardV_ft, guardV_u, apick_t, apick_f, exV_exit, exV_ret, lookE_same, joinK_eq, seqA_n, seqA_e, seqA_r, e_add, e_sub, e_mul, e_eql, e_neq, e_lss, e_leq, e_gtr, e_geq, e_conv, e_not, e_neg, and_guard, or_guard, retV] <;> rfl
    · simp only [n_bind, n_map, getL_0, getL_1, getL_2, getL_3, getL_4, getL_5, getL_6, getL_7, getL_8, getL_9, getL_10, getL_11, getL_12, condV_t, condV_f, guardV_tt, guardV_ff, guardV_tf, guardV_ft, guardV_u, apick_t, apick_f, exV_exit, exV_ret, lookE_same, joinK_eq, seqA_n, seqA_e, seqA_r, e_add, e_sub, e_mul, e_eql, e_neq, e_lss, e_leq, e_gtr, e_geq, e_conv, e_not, e_neg, and_guard, or_guard, retV]
      rfl
  simp only [nil_sv, f0, f1, f2, f3, f4, o_1, o_2, o_5, o_all, e_sneq, rne, op_of_call, hO, Bool.not_true, hj, n_bind, n_map, getL_0, getL_1, getL_2, getL_3, getL_4, getL_5, getL_6, getL_7, getL_8, getL_9, getL_10, getL_11, getL_12, condV_t, condV_f, guardV_tt, guardV_ff, guardV_tf, guardV_ft, guardV_u, apick_t, apick_f, exV_exit, exV_ret, lookE_same, joinK_eq, seqA_n, seqA_e, seqA_r, e_add, e_sub, e_mul, e_eql, e_neq, e_lss, e_leq, e_gtr, e_geq, e_conv, e_not, e_neg, and_guard, or_guard]
  cases kd <;> cases h1 : (o.key == []) <;> cases k2 <;> cases h2 : (o.val == []) <;> cases h3 : (o.lo != [] || o.hi != []) <;> cases k4 <;> cases h4 : (o.most != 0) <;>
    simp only [h1, h2, h3, h4, f0, f1, f2, f3, f4, o_1, o_2, o_5, o_all, e_sneq, rne, op_of_call, hO, hj, bne, Bool.not_true, Bool.not_false, Bool.and_true, Bool.and_false, Bool.true_and, Bool.false_and, Bool.or_true, Bool.or_false, Bool.true_or, Bool.false_or, if_true, if_false, Bool.false_eq_true, n_bind, n_map, getL_0, getL_1, getL_2, getL_3, getL_4, getL_5, getL_6, getL_7, getL_8, getL_9, getL_10, getL_11, getL_12, condV_t, condV_f, guardV_tt, guardV_ff, guardV_tf, guardV_ft, guardV_u, apick_t, apick_f, exV_exit, exV_ret, lookE_same, joinK_eq, seqA_n, seqA_e, seqA_r, e_add, e_sub, e_mul, e_eql, e_neq, e_lss, e_leq, e_gtr, e_geq, e_conv, e_not, e_neg, and_guard, or_guard]

end Go.Proofs.YtckpcelchhmjcaaGreat.Ab

/- Operations: the reference's answers, what they write, what they touch. -/
namespace Go.Proofs.YtckpcelchhmjcaaGreat.Ab
open Go

set_option maxHeartbeats 2000000 in
theorem refCheckOp_run {R : Caller} (hR : ∀ r s, R 49 [rv r] s = some (.int .i64 (eR r), s)) (hK : ∀ k s, R 110 [sv k] s = some (.int .i64 (eK k), s)) (o : OpT) (s : St) : ref04_CheckOp R (oV o) s = some (.int .i64 (ckO o), s) := by
  cases hk : okKind o.kind
  · rw [ckO_bad hk]
    have : (o.kind == 1) = false ∧ (o.kind == 2) = false ∧ (o.kind == 3) = false ∧ (o.kind == 4) = false ∧ (o.kind == 5) = false := by
      unfold okKind at hk
      refine ⟨?_, ?_, ?_, ?_, ?_⟩ <;> (rw [beq_eq_false_iff_ne]; intro e; rw [e] at hk; revert hk; decide)
    obtain ⟨k1, k2, k3, k4, k5⟩ := this
    unfold ref04_CheckOp
    simp only [o_box, o_0, k1, k2, k3, k4, k5, Bool.not_false, n_bind, n_map, getL_0, getL_1, getL_2, getL_3, getL_4, getL_5, getL_6, getL_7, getL_8, getL_9, getL_10, getL_11, getL_12, condV_t, condV_f, guardV_tt, guardV_ff, guardV_tf, guardV_ft, guardV_u, apick_t, apick_f, exV_exit, exV_ret, lookE_same, joinK_eq, seqA_n, seqA_e, seqA_r, e_add, e_sub, e_mul, e_eql, e_neq, e_lss, e_leq, e_gtr, e_geq, e_conv, e_not, e_neg, and_guard, or_guard, retV]
    rfl
  · obtain ⟨k, key, val, lo, hi, most⟩ := o
    simp only at hk
    have k11 : ((1 : Int) == 1) = true := rfl
    have k12 : ((1 : Int) == 2) = false := rfl
    have k13 : ((1 : Int) == 3) = false := rfl
    have k14 : ((1 : Int) == 4) = false := rfl
    have k15 : ((1 : Int) == 5) = false := rfl
    have k21 : ((2 : Int) == 1) = false := rfl
    have k22 : ((2 : Int) == 2) = true := rfl
    have k24 : ((2 : Int) == 4) = false := rfl
    have k25 : ((2 : Int) == 5) = false := rfl
    have k31 : ((3 : Int) == 1) = false := rfl
    have k32 : ((3 : Int) == 2) = false := rfl
    have k33 : ((3 : Int) == 3) = true := rfl
    have k34 : ((3 : Int) == 4) = false := rfl
    have k35 : ((3 : Int) == 5) = false := rfl
    have k41 : ((4 : Int) == 1) = false := rfl
    have k42 : ((4 : Int) == 2) = false := rfl
    have k43 : ((4 : Int) == 3) = false := rfl
    have k44 : ((4 : Int) == 4) = true := rfl
    have k51 : ((5 : Int) == 1) = false := rfl
    have k52 : ((5 : Int) == 2) = false := rfl
    have k53 : ((5 : Int) == 3) = false := rfl
    have k54 : ((5 : Int) == 4) = false := rfl
    have k55 : ((5 : Int) == 5) = true := rfl
    unfold ref04_CheckOp ckO
    rw [hk]
    have n12 : ((1 : Int) != 2) = true := rfl
    have n14 : ((1 : Int) != 4) = true := rfl
    have n22 : ((2 : Int) != 2) = false := rfl
    have n24 : ((2 : Int) != 4) = true := rfl
    have n32 : ((3 : Int) != 2) = true := rfl
    have n34 : ((3 : Int) != 4) = true := rfl
    have n42 : ((4 : Int) != 2) = true := rfl
    have n44 : ((4 : Int) != 4) = false := rfl
    have n52 : ((5 : Int) != 2) = true := rfl
    have n54 : ((5 : Int) != 4) = true := rfl
    have hb : ∀ a b : BL, (a != b) = !(a == b) := fun _ _ => rfl
    have rI : ∀ (n : Int) (s : St), retV [.int .i64 n] s = some (.int .i64 n, s) := fun _ _ => rfl
    have hif : ∀ (c : Bool) (n m : Int), (if c = true then some ((Value.int .i64 n), s) else some (.int .i64 m, s)) = some (.int .i64 (if c = true then n else m), s) := fun c n m => by cases c <;> rfl
    rcases kinds hk with rfl | rfl | rfl | rfl | rfl
    all_goals simp only [o_box, o_0, o_1, o_2, o_3, o_4, o_5, nil_sv, e_sneq, keyed, ranged, hb, k11, k12, k13, k14, k15, k21, k22, k24, k25, k31, k32, k33, k34, k35, k41, k42, k43, k44, k51, k52, k53, k54, k55, n12, n14, n22, n24, n32, n34, n42, n44, n52, n54, Bool.not_true, Bool.not_false, Bool.and_true, Bool.and_false, Bool.true_and, Bool.false_and, Bool.or_true, Bool.or_false, Bool.true_or, Bool.false_or, Bool.or_self, Bool.and_self, if_true, if_false, Bool.false_eq_true, ref02_CheckKey_call, hK, ref02_Check_call, hR, e_lenV, len16, ab2, or_and, and_or, eK_n, eR_n, Option.bind_assoc, n_bind, n_map, getL_0, getL_1, getL_2, getL_3, getL_4, getL_5, getL_6, getL_7, getL_8, getL_9, getL_10, getL_11, getL_12, condV_t, condV_f, guardV_tt, guardV_ff, guardV_tf, guardV_ft, guardV_u, apick_t, apick_f, exV_exit, exV_ret, lookE_same, joinK_eq, seqA_n, seqA_e, seqA_r, e_add, e_sub, e_mul, e_eql, e_neq, e_lss, e_leq, e_gtr, e_geq, e_conv, e_not, e_neg, and_guard, or_guard, rI, condV_if, hif]

end Go.Proofs.YtckpcelchhmjcaaGreat.Ab

/- Lists of plain things, in a slice: of so many cells each. -/
namespace Go.Proofs.YtckpcelchhmjcaaGreat.Ab
open Go

/-- how a thing lies in cells -/
structure Cod (α : Type) where
  n : Nat
  enc : α → List Value
  pos : 0 < n
  len : ∀ a, (enc a).length = n
  inj : ∀ a b, enc a = enc b → a = b
  leaf : ∀ a, (enc a).all leafOk = true

section
variable {α : Type} (C : Cod α)
def encL (l : List α) : List Value := l.flatMap C.enc
theorem encL_cons (a : α) (l : List α) : encL C (a :: l) = C.enc a ++ encL C l := rfl
theorem encL_len : ∀ (l : List α), (encL C l).length = l.length * C.n
  | [] => by simp [encL]
  | a :: l => by rw [encL_cons, List.length_append, C.len, encL_len l, List.length_cons, Nat.add_mul]; omega
theorem encL_drop : ∀ (l : List α) (i : Nat), (encL C l).drop (i * C.n) = encL C (l.drop i)
  | l, 0 => by simp
  | [], i + 1 => by simp [encL]
  | a :: l, i + 1 => by
    rw [encL_cons, show (i + 1) * C.n = C.n + i * C.n by rw [Nat.add_mul]; omega, ← List.drop_drop, List.drop_left' (C.len a), encL_drop l i, List.drop_succ_cons]
theorem encL_inj : ∀ {l m : List α}, encL C l = encL C m → l = m
  | [], [], _ => rfl
  | [], a :: m, h => by
    have h1 := congrArg List.length h
    rw [encL_len, encL_len, List.length_cons, Nat.add_mul] at h1
    have := C.pos
    simp only [List.length_nil, Nat.zero_mul] at h1
    omega
  | a :: l, [], h => by
    have h1 := congrArg List.length h
    rw [encL_len, encL_len, List.length_cons, Nat.add_mul] at h1
    have := C.pos
    simp only [List.length_nil, Nat.zero_mul] at h1
    omega
  | a :: l, b :: m, h => by
    rw [encL_cons, encL_cons] at h
    have h1 := (List.append_inj h (by rw [C.len, C.len])).1
    have h2 := (List.append_inj h (by rw [C.len, C.len])).2
    rw [C.inj _ _ h1, encL_inj h2]

open Classical in
noncomputable def decL (cs : List Value) : Option (List α) := if h : ∃ l, cs = encL C l then some (Classical.choose h) else none
theorem decL_enc (l : List α) : decL C (encL C l) = some l := by
  unfold decL
  have h : ∃ m, encL C l = encL C m := ⟨l, rfl⟩
  rw [dif_pos h]
  congr 1
  exact (encL_inj C (Classical.choose_spec h)).symm
theorem decL_some {cs : List Value} {l : List α} (h : decL C cs = some l) : cs = encL C l := by
  unfold decL at h
  split at h
  · rename_i hh
    cases h
    exact Classical.choose_spec hh
  · cases h

/-- what a slice holds -/
noncomputable def listOf (v : Value) (s : St) : Option (List α) := (cellsOf C.n v s).bind (decL C)
theorem listOf_iff {v : Value} {s : St} {l : List α} : listOf C v s = some l ↔ cellsOf C.n v s = some (encL C l) := by
  unfold listOf
  constructor
  · intro h
    simp only [Option.bind_eq_some_iff] at h
    obtain ⟨cs, h1, h2⟩ := h
    rw [h1, decL_some C h2]
  · intro h
    rw [h]
    exact decL_enc C l
variable {C}
theorem list_frz {v : Value} {s : St} : listOf C v (frzS s) = listOf C v s := by unfold listOf; rw [cellsOf_frz]
theorem list_shape {v : Value} {s : St} {l : List α} (h : listOf C v s = some l) : ∃ a cap, v = .slice a l.length cap := by
  obtain ⟨a, len, cap, rfl, h2⟩ := cellsOf_len ((listOf_iff C).1 h)
  rw [encL_len] at h2
  have := C.pos
  have : len = l.length := (Nat.eq_of_mul_eq_mul_right this h2).symm
  subst this
  exact ⟨a, cap, rfl⟩
theorem list_len {v : Value} {s s2 : St} {l : List α} (h : listOf C v s = some l) {e : TypeId} : alenV (.slice e) v s2 = some (.int .i64 ((l.length : Nat) : Int)) := by
  obtain ⟨a, cap, rfl⟩ := list_shape h
  rfl
theorem list_nil (s : St) : listOf C (.slice none 0 0) s = some [] := (listOf_iff C).2 rfl
/-- an element -/
theorem list_at {v : Value} {s : St} {l : List α} (h : listOf C v s = some l) {i : Nat} (hi : i < l.length) {k : IntKind} {n : Nat} (hn : n = C.n) : ∃ p, aindexS n v (.int k (i : Int)) = some p ∧ aload true n p s = some (.agg (C.enc l[i]).toArray) := by
  subst hn
  have hc := (listOf_iff C).1 h
  have hle : (i + 1) * C.n ≤ (encL C l).length := by rw [encL_len]; exact Nat.mul_le_mul_right _ hi
  obtain ⟨p, h1, _, h3⟩ := cells_at hc C.pos hle (k := k)
  refine ⟨p, h1, ?_⟩
  rw [h3]
  congr 2
  rw [encL_drop]
  have : l.drop i = l[i] :: l.drop (i + 1) := by rw [List.getElem_cons_drop]
  rw [this, encL_cons, List.take_left' (C.len _)]
/-- a part of an element -/
theorem list_field {v : Value} {s : St} {l : List α} (h : listOf C v s = some l) {i j : Nat} (hi : i < l.length) {c : Value} (hc : (C.enc l[i])[j]? = some c) {k : IntKind} {n : Nat} (hn : n = C.n) : ∃ p, aindexS n v (.int k (i : Int)) = some p ∧ ∃ q, afieldAddr j p = some q ∧ aload false 1 q s = some c := by
  subst hn
  have hcs := (listOf_iff C).1 h
  unfold cellsOf at hcs
  split at hcs
  · have := congrArg (Option.map List.length) hcs
    simp only [Option.map_some, List.length_nil, encL_len, Option.some.injEq] at this
    have h2 := C.pos
    have h3 : 0 < l.length * C.n := Nat.mul_pos (by omega) h2
    omega
  · rename_i b o len cap
    split at hcs
    case isFalse => cases hcs
    obtain ⟨row, h1, h2, h3⟩ := readN_some hcs
    have hlen : len = l.length := by
      have := congrArg List.length h3
      rw [encL_len] at this
      simp at this
      have h4 := C.pos
      have h5 : len * C.n = l.length * C.n := by omega
      exact Nat.eq_of_mul_eq_mul_right h4 h5
    subst hlen
    refine ⟨.pointer (some ⟨b, o + i * C.n, none⟩), by simp [aindexS, hi], .pointer (some ⟨b, o + i * C.n + j, none⟩), rfl, ?_⟩
    simp only [aload, h1, Option.bind_some, Bool.false_eq_true, if_false]
    have hj : j < C.n := by
      have := (List.getElem?_eq_some_iff.1 hc).1
      rw [C.len] at this
      exact this
    have h4 : (encL C l)[i * C.n + j]? = some c := by
      rw [← List.getElem?_drop, encL_drop]
      have : l.drop i = l[i] :: l.drop (i + 1) := by rw [List.getElem_cons_drop]
      rw [this, encL_cons, List.getElem?_append_left (by rw [C.len]; exact hj)]
      exact hc
    have h6 : i * C.n + C.n ≤ l.length * C.n := by rw [← Nat.succ_mul]; exact Nat.mul_le_mul_right _ hi
    rw [h3, List.getElem?_take_of_lt (by omega), List.getElem?_drop] at h4
    rw [Nat.add_assoc]
    exact h4
  · cases hcs
/-! ### Lists of one's own -/
/-- in a row of one's own, from block N on, with room behind -/
def OwnC (C : Cod α) (N : Nat) (s : St) (v : Value) (l : List α) : Prop :=
  (v = .slice none 0 0 ∧ l = []) ∨ ∃ b cap rest, v = .slice (some ⟨b, 0, none⟩) l.length cap ∧ N ≤ b ∧ s.heap[b]? = some (.row C.n (encL C l ++ rest) .act) ∧ (encL C l ++ rest).length = cap * C.n ∧ rest.all leafOk = true
theorem OwnC.cap_le {N : Nat} {s : St} {b len cap : Nat} {rest : List Value} {l : List α} (h : (encL C l ++ rest).length = cap * C.n) : l.length ≤ cap := by
  rw [List.length_append, encL_len] at h
  have := C.pos
  exact Nat.le_of_mul_le_mul_right (by omega : l.length * C.n ≤ cap * C.n) this
theorem OwnC.list {N : Nat} {s : St} {v : Value} {l : List α} (h : OwnC C N s v l) : listOf C v s = some l := by
  rcases h with ⟨rfl, rfl⟩ | ⟨b, cap, rest, rfl, h1, h2, h3, _⟩
  · exact list_nil s
  · refine (listOf_iff C).2 ?_
    have hle := OwnC.cap_le (N := N) (s := s) (b := b) (len := l.length) h3
    simp only [cellsOf, if_pos hle]
    unfold readN Ab.readRow
    rw [h2]
    simp only [Option.bind_some]
    have e : (encL C l).length = l.length * C.n := encL_len C l
    rw [if_pos (by rw [List.length_append]; omega), List.drop_zero, ← e, List.take_left]
theorem leaf_isLeaf {l : List Value} (h : l.all leafOk = true) : l.all isLeaf = true := by
  rw [List.all_eq_true] at h ⊢
  intro v hv
  have := h v hv
  cases v <;> first | rfl | (simp [leafOk] at this)
end

end Go.Proofs.YtckpcelchhmjcaaGreat.Ab

/- Lists of operations, and maps: which may be; what operations touch. -/
namespace Go.Proofs.YtckpcelchhmjcaaGreat.Ab
open Go

theorem sv_inj {a b : BL} (h : sv a = sv b) : a = b := by
  unfold sv at h
  injection h with h
  have := congrArg (fun x : ByteArray => x.data.toList) h
  simpa using this
theorem int_inj {k : IntKind} {a b : Int} (h : Value.int k a = .int k b) : a = b := by injection h
def prC : Cod Rg where
  n := 2
  enc r := [sv r.1, sv r.2]
  pos := by decide
  len _ := rfl
  inj a b h := by
    simp only [List.cons.injEq, and_true] at h
    exact Prod.ext (sv_inj h.1) (sv_inj h.2)
  leaf _ := rfl
def opC : Cod OpT where
  n := 6
  enc := oC
  pos := by decide
  len _ := rfl
  inj a b h := by
    obtain ⟨a1, a2, a3, a4, a5, a6⟩ := a
    obtain ⟨b1, b2, b3, b4, b5, b6⟩ := b
    simp only [oC, List.cons.injEq, and_true] at h
    obtain ⟨h1, h2, h3, h4, h5, h6⟩ := h
    rw [int_inj h1, sv_inj h2, sv_inj h3, sv_inj h4, sv_inj h5, int_inj h6]
  leaf _ := rfl
theorem inc_i64 {n : Nat} (h : n < 140737488355328) : IntKind.wrap .i64 ((n : Int) + 1) = ((n + 1 : Nat) : Int) := by rw [wrap_i64 (by omega) (by omega)]; omega
/-! ### All operations -/
/-! ### Functions of a list alone -/
noncomputable def gL {α : Type} (C : Cod α) (F : List α → Value) : Sum := fun xs s => (match xs with | [v] => (listOf C v s).bind fun l => if l.length < 140737488355328 then some (F l) else none | _ => none).map fun v => (v, s)
theorem gL_eq {α : Type} {C : Cod α} {F : List α → Value} {v : Value} {s : St} {l : List α} (h : listOf C v s = some l) (hl : l.length < 140737488355328) : gL C F [v] s = some (F l, s) := by
  simp only [gL, h, Option.bind_some, if_pos hl, Option.map_some]
theorem gL_sum {α : Type} {C : Cod α} {F : List α → Value} {lib : Lib} {f : FuncId} (hp : ∀ l, plainV (F l) = true) (h : ∀ v s l, listOf C v s = some l → l.length < 140737488355328 → ∃ t, run Tryz.prog lib hints f [v] s = some (F l, t)) : SumOk Tryz.prog lib hints f (gL C F) :=
  SumOk.plain (G := fun xs s => match xs with | [v] => (listOf C v s).bind fun l => if l.length < 140737488355328 then some (F l) else none | _ => none) fun xs s v hh => by
    split at hh
    · rename_i v0
      simp only [Option.bind_eq_some_iff] at hh
      obtain ⟨l, h1, h2⟩ := hh
      split at h2
      · rename_i hl
        cases h2
        exact ⟨hp l, h v0 (frzS s) l (by rw [list_frz]; exact h1) hl⟩
      · cases h2
    · cases hh
theorem many {n : Nat} : (((n : Nat) : Int) == 0 || decide (((n : Nat) : Int) > 4)) = decide (n = 0 ∨ 4 < n) := by
  by_cases h : n = 0
  · subst h; rfl
  · have h1 : (((n : Nat) : Int) == 0) = false := by rw [beq_eq_false_iff_ne]; omega
    rw [h1]
    simp [h]
    omega

/-! ### Maps -/
end Go.Proofs.YtckpcelchhmjcaaGreat.Ab

/- A law's arguments in memory: lists of plain things. -/
namespace Go.Proofs.YtckpcelchhmjcaaGreat.Ab
open Go Go.ChangeShapes Go.WideShapes

theorem choose_list {α : Type} {p : Nat → α → Prop} : ∀ n, (∀ i, i < n → ∃ a, p i a) → ∃ l : List α, l.length = n ∧ ∀ (i : Nat) (h : i < l.length), p i l[i]
  | 0, _ => ⟨[], rfl, fun i h => by simp at h⟩
  | n + 1, h => by
    obtain ⟨l, h1, h2⟩ := choose_list n fun i hi => h i (by omega)
    obtain ⟨a, ha⟩ := h n (by omega)
    refine ⟨l ++ [a], by simp [h1], fun i hi => ?_⟩
    by_cases c : i < l.length
    · rw [List.getElem_append_left c]
      exact h2 i c
    · have : i = n := by simp at hi; omega
      subst this
      rw [List.getElem_append_right (by omega)]
      simpa [h1] using ha
theorem add_add (x : Addr) (a b : Nat) : (x.add a).add b = x.add (a + b) := by
  unfold Addr.add
  split <;> split <;> simp_all <;> omega

end Go.Proofs.YtckpcelchhmjcaaGreat.Ab

/- A law's arguments that hold others: slices in slices, structs of slices. How each thing lies in cells, and in what these point to; that an argument is such a thing. -/
namespace Go.Proofs.YtckpcelchhmjcaaGreat.Ab
open Go Go.ChangeShapes Go.WideShapes

structure NCod (α : Type) where
  n : Nat
  rel : α → St → List Value → Prop
  len : ∀ {a s cs}, rel a s cs → cs.length = n
  ext : ∀ {a s t cs}, rel a s cs → Ext s.heap.length s t → rel a t cs

def ListN {α : Type} (C : NCod α) (B : Nat) (l : List α) (s : St) (v : Value) : Prop :=
  l.length * B ≤ reachBytes ∧ ((v = .slice none 0 0 ∧ l = []) ∨ ∃ (b : Nat) (css : List (List Value)) (st : Stat) (k : Nat), v = .slice (some ⟨b, 0, none⟩) l.length l.length ∧ s.heap[b]? = some (.row k css.flatten st) ∧ st ≠ .dead ∧ All2 (fun a c => C.rel a s c) l css)

namespace NCod
def ofC {α : Type} (C : Cod α) (Pr : α → Prop) : NCod α where
  n := C.n
  rel a s cs := cs = C.enc a ∧ Pr a
  len h := by rw [h.1]; exact C.len _
  ext h _ := h
def list {α : Type} (C : NCod α) (B : Nat) : NCod (List α) where
  n := 1
  rel l s cs := ∃ v, cs = [v] ∧ ListN C B l s v
  len h := by obtain ⟨v, rfl, _⟩ := h; rfl
  ext h hx := by
    obtain ⟨v, rfl, h1, h2⟩ := h
    refine ⟨v, rfl, h1, ?_⟩
    rcases h2 with h2 | ⟨b, css, st, k, g1, g2, g3, g4⟩
    · exact .inl h2
    · exact .inr ⟨b, css, st, k, g1, by rw [hx.2 b (List.getElem?_eq_some_iff.1 g2).1]; exact g2, g3, g4.mono fun a c h => C.ext h hx⟩
def unit : NCod Unit where
  n := 0
  rel _ _ cs := cs = []
  len h := by rw [h]; rfl
  ext h _ := h
def pair {α β : Type} (A : NCod α) (B : NCod β) : NCod (α × β) where
  n := A.n + B.n
  rel p s cs := ∃ c d, cs = c ++ d ∧ A.rel p.1 s c ∧ B.rel p.2 s d
  len h := by obtain ⟨c, d, rfl, h1, h2⟩ := h; rw [List.length_append, A.len h1, B.len h2]
  ext h hx := by obtain ⟨c, d, rfl, h1, h2⟩ := h; exact ⟨c, d, rfl, A.ext h1 hx, B.ext h2 hx⟩
def map {α β : Type} (A : NCod α) (f : β → α) : NCod β where
  n := A.n
  rel b s cs := A.rel (f b) s cs
  len h := A.len h
  ext h hx := A.ext h hx
end NCod

/-! ### Arguments are opened -/
def OpensAt {α : Type} (W : World) (C : NCod α) (cs : List Value) : Prop := ∀ (ι : Emb) (H : List Blk), Sim W.heap.size ι H W → H.all roB = true →
  ∃ (a : α) (K : List Blk) (κ : Emb) (cs' : List Value), ι.le κ ∧ Sim W.heap.size κ (H ++ K) W ∧ (H ++ K).all roB = true ∧ All2 (L2 κ) cs' cs ∧ C.rel a ⟨H ++ K⟩ cs'
def Opens {α : Type} (P : Program) (C : NCod α) (t : TypeId) : Prop := ∀ (Hn : Type) (enc : TypeId × Value → Hn) (W : World) (n : Nat) (cs : List Value) (y : DataW Hn × List MemPlace), DataW.trod enc P W 0 (fun _ => true) true n t cs = some y → (∀ k ∈ y.1.weights P t, k ≤ reachBytes) → OpensAt W C cs

theorem opens_leaf {α : Type} {W : World} {C : Cod α} {Pr : α → Prop} {cs : List Value} (h : ∃ a, cs = C.enc a ∧ Pr a) : OpensAt W (.ofC C Pr) cs := by
  obtain ⟨a, rfl, hp⟩ := h
  intro ι H hs hro
  exact ⟨a, [], ι, C.enc a, .refl _, by rw [List.append_nil]; exact hs, by rw [List.append_nil]; exact hro, leafOks_rel (C.leaf a), rfl, hp⟩
theorem opens_map {α β : Type} {W : World} {A : NCod α} {f : β → α} {g : α → β} (hfg : ∀ a, f (g a) = a) {cs : List Value} (h : OpensAt W A cs) : OpensAt W (A.map f) cs := by
  intro ι H hs hro
  obtain ⟨a, K, κ, cs', h1, h2, h3, h4, h5⟩ := h ι H hs hro
  exact ⟨g a, K, κ, cs', h1, h2, h3, h4, by show A.rel (f (g a)) _ _; rw [hfg]; exact h5⟩
theorem opens_unit {W : World} : OpensAt W .unit [] := by
  intro ι H hs hro
  exact ⟨(), [], ι, [], .refl _, by rw [List.append_nil]; exact hs, by rw [List.append_nil]; exact hro, trivial, rfl⟩
theorem ext_app (H K : List Blk) : Ext H.length ⟨H⟩ ⟨H ++ K⟩ := ⟨by simp, fun b hb => by simp only; rw [List.getElem?_append_left hb]⟩
theorem opens_pair {α β : Type} {W : World} {A : NCod α} {B : NCod β} {c d : List Value} (h : OpensAt W A c) (g : OpensAt W B d) : OpensAt W (A.pair B) (c ++ d) := by
  intro ι H hs hro
  obtain ⟨a, K, κ, c', h1, h2, h3, h4, h5⟩ := h ι H hs hro
  obtain ⟨b, K2, κ2, d', g1, g2, g3, g4, g5⟩ := g κ (H ++ K) h2 h3
  refine ⟨(a, b), K ++ K2, κ2, c' ++ d', h1.trans g1, by rw [← List.append_assoc]; exact g2, by rw [← List.append_assoc]; exact g3, (h4.mono fun _ _ h => h.mono g1).append g4, c', d', rfl, ?_, by rw [← List.append_assoc]; exact g5⟩
  rw [← List.append_assoc]
  exact A.ext h5 (ext_app _ _)
/-- so many things, one behind another -/
theorem opens_many {α : Type} {W : World} {C : NCod α} : ∀ (ls : List (List Value)), (∀ c ∈ ls, OpensAt W C c) → ∀ (ι : Emb) (H : List Blk), Sim W.heap.size ι H W → H.all roB = true →
    ∃ (l : List α) (K : List Blk) (κ : Emb) (css : List (List Value)), ι.le κ ∧ Sim W.heap.size κ (H ++ K) W ∧ (H ++ K).all roB = true ∧ All2 (L2 κ) css.flatten ls.flatten ∧ All2 (fun a c => C.rel a ⟨H ++ K⟩ c) l css ∧ l.length = ls.length
  | [], _, ι, H, hs, hro => ⟨[], [], ι, [], .refl _, by rw [List.append_nil]; exact hs, by rw [List.append_nil]; exact hro, trivial, trivial, rfl⟩
  | c :: ls, h, ι, H, hs, hro => by
    obtain ⟨a, K, κ, c', h1, h2, h3, h4, h5⟩ := h c (List.mem_cons_self ..) ι H hs hro
    obtain ⟨l, K2, κ2, css, g1, g2, g3, g4, g5, g6⟩ := opens_many ls (fun x hx => h x (List.mem_cons_of_mem _ hx)) κ (H ++ K) h2 h3
    refine ⟨a :: l, K ++ K2, κ2, c' :: css, h1.trans g1, by rw [← List.append_assoc]; exact g2, by rw [← List.append_assoc]; exact g3, ?_, ⟨?_, ?_⟩, by simp [g6]⟩
    · rw [List.flatten_cons, List.flatten_cons]
      exact (h4.mono fun _ _ h => h.mono g1).append g4
    · rw [← List.append_assoc]
      exact C.ext h5 (ext_app _ _)
    · rw [← List.append_assoc]
      exact g5
theorem weights_all {Hn : Type} {P : Program} {e : TypeId} : ∀ {l : List (DataW Hn)} {d : DataW Hn}, d ∈ l → ∀ k ∈ d.weights P e, k ∈ DataW.weightsAll P e l
  | x :: l, d, h, k, hk => by
    simp only [DataW.weightsAll, List.mem_append]
    rcases List.mem_cons.1 h with rfl | h
    · exact .inl hk
    · exact .inr (weights_all h k hk)
theorem opens_list {α : Type} {P : Program} {C : NCod α} {t e : TypeId} {B : Nat} (hu : P.underlying t = some (.slice e)) (hc : P.cellsOf e = C.n) (hpos : 0 < C.n) (hB : P.bytesOf e = B) (h : Opens P C e) : Opens P (C.list B) t := by
  intro Hn enc W n cs y hy hw ι H hs hro
  rcases DataW.trod_slice hu hy with ⟨rfl, rfl⟩ | ⟨x, len, cap, elems, rest, m, _, rfl, rfl, _, hle, hm, hlen, he, hsp, _⟩
  · exact ⟨[], [], ι, [.slice none 0 0], .refl _, by rw [List.append_nil]; exact hs, by rw [List.append_nil]; exact hro, ⟨.l1 (.l0 .snil), trivial⟩, _, rfl, by simp, .inl ⟨rfl, rfl⟩⟩
  · obtain ⟨hr1, hr2⟩ := hsp rfl
    have hwt : (elems.length + rest.length) * B ≤ reachBytes := by
      have := hw ((elems.length + rest.length) * P.bytesOf e) (by simp [DataW.weights, hu])
      rwa [hB] at this
    have hwe : ∀ z ∈ elems, ∀ k ∈ z.1.weights P e, k ≤ reachBytes := fun z hz k hk => hw k (by
      simp only [DataW.weights, hu, List.mem_cons, List.mem_append]
      exact .inr (.inl (weights_all (List.mem_map_of_mem (f := (·.1)) hz) k hk)))
    have each : ∀ i, i < len → ∃ c z, W.cells? 0 (x.add (i * C.n)) C.n = some c ∧ OpensAt W C c := fun i hi => by
      have h1 := he i hi
      rw [List.getElem?_eq_getElem (by omega), hc, Option.bind_eq_some_iff] at h1
      obtain ⟨c, h2, h3⟩ := h1
      exact ⟨c, c, h2, h Hn enc W m c _ h3 (hwe _ (List.getElem_mem _))⟩
    obtain ⟨ls, hl1, hl2⟩ := choose_list (α := List Value) (p := fun i c => W.cells? 0 (x.add (i * C.n)) C.n = some c ∧ OpensAt W C c) len fun i hi => by
      obtain ⟨c, _, h1, h2⟩ := each i hi
      exact ⟨c, h1, h2⟩
    obtain ⟨l, K, κ, css, k1, k2, k3, k4, k5, k6⟩ := opens_many ls (fun c hc2 => by
      obtain ⟨i, hi, rfl⟩ := List.getElem_of_mem hc2
      exact (hl2 i hi).2) ι H hs hro
    have hcell : ∀ i, i < cap → ∃ v, W.cell? (x.add i) = some v := fun i hi => by
      have hq : i / C.n < cap := Nat.lt_of_le_of_lt (Nat.div_le_self _ _) hi
      have hj : i % C.n < C.n := Nat.mod_lt _ hpos
      have hsplit : i = i / C.n * C.n + i % C.n := by
        have := Nat.div_add_mod i C.n
        rw [Nat.mul_comm] at this
        exact this.symm
      have key : ∃ c, W.cells? 0 (x.add (i / C.n * C.n)) C.n = some c := by
        by_cases c : i / C.n < len
        · exact ⟨_, (hl2 _ (by omega)).1⟩
        · have := hr2 (i / C.n - len) (by omega)
          rw [show len + (i / C.n - len) = i / C.n by omega, List.getElem?_eq_getElem (by omega), hc, Option.bind_eq_some_iff] at this
          obtain ⟨c, h2, _⟩ := this
          exact ⟨c, h2⟩
      obtain ⟨c, hcc⟩ := key
      obtain ⟨_, h5, h6⟩ := World.cells?_some hcc
      have h7 := h6 _ hj
      rw [add_add, ← hsplit] at h7
      rw [h7]
      exact ⟨_, List.getElem?_eq_getElem (by omega)⟩
    have hflat : ∀ (ls : List (List Value)) (o : Nat), (∀ (i : Nat) (hi : i < ls.length), W.cells? 0 (x.add ((o + i) * C.n)) C.n = some ls[i]) → ∀ i v, ls.flatten[i]? = some v → W.cell? (x.add (o * C.n + i)) = some v := by
      intro ls
      induction ls with
      | nil => intro o _ i v hv; simp at hv
      | cons c ls ih =>
        intro o ho i v hv
        obtain ⟨_, h5, h6⟩ := World.cells?_some (ho 0 (by simp))
        rw [List.flatten_cons] at hv
        by_cases c1 : i < c.length
        · rw [List.getElem?_append_left c1] at hv
          have := h6 i (by simp at h5; omega)
          rw [add_add, Nat.add_zero] at this
          rw [this]
          exact hv
        · rw [List.getElem?_append_right (by omega)] at hv
          have := ih (o + 1) (fun i hi => by
            have := ho (i + 1) (by simp; omega)
            rw [show o + 1 + i = o + (i + 1) by omega]
            simpa using this) _ v hv
          simp only [List.getElem_cons_zero] at h5
          rw [h5, Nat.add_mul, Nat.one_mul] at this
          rwa [show o * C.n + C.n + (i - C.n) = o * C.n + i by omega] at this
    have hfl := hflat ls 0 (fun i hi => by rw [Nat.zero_add]; exact (hl2 i hi).1)
    obtain ⟨κ2, r1, r2, r3, r4⟩ := sim_row k2 k3 (cells := css.flatten) (.inr ⟨x, rfl, hle, hcell, fun i v hv => by
      obtain ⟨v', g1, g2⟩ := k4.get i v hv
      refine ⟨v', ?_, g2⟩
      have := hfl i v' g1
      rwa [Nat.zero_mul, Nat.zero_add] at this⟩)
    have hll : l.length = len := by rw [k6, hl1]
    refine ⟨l, K ++ [.row 0 css.flatten .ro], κ2, [sliceArg (H ++ K).length (some x) len], k1.trans r1, by rw [← List.append_assoc]; exact r2, by rw [← List.append_assoc]; exact r3, ⟨?_, trivial⟩, _, rfl, ?_, .inr ⟨(H ++ K).length, css, .ro, 0, ?_, ?_, by simp, ?_⟩⟩
    · cases r4 with
      | va r4 => cases r4 with
        | l2 r4 => exact r4
    · rw [hll]
      exact Nat.le_trans (Nat.mul_le_mul_right _ (by omega)) hwt
    · rw [hll]; rfl
    · rw [← List.append_assoc]
      simp
    · rw [← List.append_assoc]
      exact All2.mono (R := fun a c => C.rel a ⟨H ++ K⟩ c) (fun a c h => C.ext (s := ⟨H ++ K⟩) h (ext_app (H ++ K) _)) k5
/-- the parts of a struct: each at its place -/
def OpensF {α : Type} (P : Program) (C : NCod α) (fs : List Field) (off : Nat) : Prop := ∀ (Hn : Type) (enc : TypeId × Value → Hn) (W : World) (n : Nat) (cs : List Value) (xs : List (DataW Hn × List MemPlace)), cs.length = off + C.n → xs.length = fs.length →
  (∀ (i : Nat) (f : Field), fs[i]? = some f → DataW.trod enc P W 0 (fun _ => true) true n f.type ((cs.drop f.offset).take (P.cellsOf f.type)) = xs[i]?) → (∀ k ∈ DataW.weightsEach P (fs.map (·.type)) (xs.map (·.1)), k ≤ reachBytes) → OpensAt W C (cs.drop off)
theorem opensF_nil {P : Program} {off : Nat} : OpensF P .unit [] off := by
  intro Hn enc W n cs xs hl _ _ _
  have : cs.drop off = [] := List.drop_eq_nil_of_le (by rw [hl]; exact Nat.le_refl _)
  rw [this]
  exact opens_unit
theorem opensF_cons {α β : Type} {P : Program} {A : NCod α} {B : NCod β} {f : Field} {fs : List Field} {off : Nat} (ho : f.offset = off) (hn : P.cellsOf f.type = A.n) (h : Opens P A f.type) (g : OpensF P B fs (off + A.n)) : OpensF P (A.pair B) (f :: fs) off := by
  intro Hn enc W n cs xs hl hx hf hw
  cases xs with
  | nil => simp at hx
  | cons x xs =>
    have h0 := hf 0 f rfl
    rw [ho, hn] at h0
    have hA := h Hn enc W n _ x h0 fun k hk => hw k (by simp only [List.map_cons, DataW.weightsEach, List.mem_append]; exact .inl hk)
    have hl2 : (A.pair B).n = A.n + B.n := rfl
    have hB := g Hn enc W n cs xs (by rw [hl, hl2]; omega) (by simpa using hx) (fun i f' hi => by have := hf (i + 1) f' (by simpa using hi); simpa using this) fun k hk => hw k (by simp only [List.map_cons, DataW.weightsEach, List.mem_append]; exact .inr hk)
    have hsp : cs.drop off = (cs.drop off).take A.n ++ cs.drop (off + A.n) := by rw [← List.drop_drop, List.take_append_drop]
    rw [hsp]
    exact opens_pair hA hB
theorem opens_struct {α : Type} {P : Program} {C : NCod α} {t : TypeId} {fs : Array Field} (hu : P.underlying t = some (.struct fs)) (hn : P.cellsOf t = C.n) (h : OpensF P C fs.toList 0) : Opens P C t := by
  intro Hn enc W n cs y hy hw
  obtain ⟨xs, m, _, rfl, hl, hlen, hf⟩ := DataW.trod_struct hu hy
  have := h Hn enc W m cs xs (by rw [hl, hn, Nat.zero_add]) (by simpa using hlen) (fun i f hi => hf i f (by simpa using hi)) fun k hk => hw k (by simp only [DataW.weights, hu]; exact hk)
  rwa [List.drop_zero] at this

/-! ### Leaves -/
def intC (k : IntKind) : Cod Int where
  n := 1
  enc i := [.int k i]
  pos := by decide
  len _ := rfl
  inj a b h := by simpa using h
  leaf _ := rfl
def blnC : Cod Bool where
  n := 1
  enc b := [.bool b]
  pos := by decide
  len _ := rfl
  inj a b h := by simpa using h
  leaf _ := rfl
def strgC : Cod (List UInt8) where
  n := 1
  enc k := [sv k]
  pos := by decide
  len _ := rfl
  inj a b h := by
    simp only [sv, List.cons.injEq, Value.string.injEq, ByteArray.mk.injEq, and_true] at h
    have := congrArg Array.toList h
    simpa using this
  leaf _ := rfl
theorem opens_int {P : Program} {t : TypeId} {k : IntKind} (hu : P.underlying t = some (.int k)) : Opens P (.ofC (intC k) fun i => (Lit.int k i).wf = true) t := by
  intro Hn enc W n cs y hy hw
  obtain ⟨i, rfl, _, h⟩ := DataW.trod_int hu hy
  exact opens_leaf ⟨i, rfl, h⟩
theorem opens_bool {P : Program} {t : TypeId} (hu : P.underlying t = some .bool) : Opens P (.ofC blnC fun _ => True) t := by
  intro Hn enc W n cs y hy hw
  obtain ⟨i, rfl, _⟩ := DataW.trod_bool hu hy
  exact opens_leaf ⟨i, rfl, trivial⟩
theorem opens_string {P : Program} {t : TypeId} (hu : P.underlying t = some .string) : Opens P (.ofC strgC fun k => k.length ≤ reachBytes) t := by
  intro Hn enc W n cs y hy hw
  obtain ⟨i, rfl, hyy, _⟩ := DataW.trod_string hu hy
  subst hyy
  refine opens_leaf ⟨i.data.toList, ?_, hw _ (by simp [DataW.weights])⟩
  show _ = [sv _]
  rw [← sv_of]

/-! ### A law's argument -/
/-- a struct -/
def NArg {α : Type} (C : NCod α) (a : α) (s : St) (v : Value) : Prop := ∃ cs, v = .agg cs.toArray ∧ C.rel a s cs
theorem NArg.ext {α : Type} {C : NCod α} {a : α} {s t : St} {v : Value} (h : NArg C a s v) (hx : Ext s.heap.length s t) : NArg C a t v := by
  obtain ⟨cs, rfl, h1⟩ := h
  exact ⟨cs, rfl, C.ext h1 hx⟩
theorem ListN.ext {α : Type} {C : NCod α} {B : Nat} {l : List α} {s t : St} {v : Value} (h : ListN C B l s v) (hx : Ext s.heap.length s t) : ListN C B l t v := by
  obtain ⟨v', e, h1⟩ := (C.list B).ext (s := s) (t := t) (cs := [v]) ⟨v, rfl, h⟩ hx
  cases e
  exact h1
theorem nest_w {Hn : Type} {P : Program} {ts : List TypeId} {ds : List (DataW Hn)} (h : (DataW.weightsEach P ts ds).all (· ≤ reachBytes) = true) {j : Nat} {t : TypeId} {d : DataW Hn} (ht : ts[j]? = some t) (hd : ds[j]? = some d) : ∀ k ∈ d.weights P t, k ≤ reachBytes := fun k hk => by
  have := List.all_eq_true.1 h _ (DataW.weights_mem_each ht hd k hk)
  simpa using this
theorem open_nest {α : Type} {Hn : Type} {enc : TypeId × Value → Hn} {P : Program} {W : World} {C : NCod α} {t : TypeId} (hO : Opens P C t) {v : Value} {d : DataW Hn} {ps : List MemPlace} (h : DataW.Trod enc P W 0 (fun _ => true) true t v d ps) (hw : ∀ k ∈ d.weights P t, k ≤ reachBytes) : OpensAt W C v.cells.toList := by
  obtain ⟨fuel, hf⟩ := h
  exact hO Hn enc W fuel _ _ hf hw
theorem sim_nest {α : Type} {W : World} {C : NCod α} {cs : Array Value} (hO : OpensAt W C cs.toList) {ι : Emb} {H : List Blk} (h : Sim W.heap.size ι H W) (hro : H.all roB = true) :
    ∃ (a : α) (K : List Blk) (v : Value), NArg C a ⟨H ++ K⟩ v ∧ ∃ κ, ι.le κ ∧ Sim W.heap.size κ (H ++ K) W ∧ (H ++ K).all roB = true ∧ VRel κ v (.agg cs) := by
  obtain ⟨a, K, κ, cs', h1, h2, h3, h4, h5⟩ := hO ι H h hro
  exact ⟨a, K, _, ⟨cs', rfl, h5⟩, κ, h1, h2, h3, .va (.agg (by simpa using h4))⟩
/-- a list of plain things, as elsewhere -/
theorem ListN.plain {α : Type} {C : Cod α} {Pr : α → Prop} {B : Nat} {l : List α} {s : St} {v : Value} (h : ListN (.ofC C Pr) B l s v) : listOf C v s = some l ∧ (∀ a ∈ l, Pr a) ∧ l.length * B ≤ 140737488351232 := by
  obtain ⟨h1, h2⟩ := h
  rcases h2 with ⟨rfl, rfl⟩ | ⟨b, css, st, k, rfl, g2, g3, g4⟩
  · exact ⟨list_nil s, fun a ha => (by cases ha), h1⟩
  · have key : ∀ {l : List α} {css : List (List Value)}, All2 (fun a c => (NCod.ofC C Pr).rel a s c) l css → css.flatten = encL C l ∧ ∀ a ∈ l, Pr a := by
      intro l
      induction l with
      | nil => intro css h; cases css with
        | nil => exact ⟨rfl, fun a ha => by cases ha⟩
        | cons => exact h.elim
      | cons a l ih => intro css h; cases css with
        | nil => exact h.elim
        | cons c css =>
          obtain ⟨⟨e, hp⟩, h2⟩ := h
          obtain ⟨i1, i2⟩ := ih h2
          refine ⟨by rw [List.flatten_cons, i1, encL_cons, e], fun x hx => ?_⟩
          rcases List.mem_cons.1 hx with rfl | hx
          · exact hp
          · exact i2 x hx
    obtain ⟨k1, k2⟩ := key g4
    refine ⟨(listOf_iff C).2 ?_, k2, h1⟩
    have hr : readRow s b = some (encL C l) := by
      unfold Ab.readRow
      rw [g2, k1]
      cases st with
      | dead => exact absurd rfl g3
      | act => rfl
      | ro => rfl
    simp only [cellsOf, Nat.le_refl, if_true, readN, hr, Option.bind_some, Nat.zero_add]
    rw [if_pos (by rw [encL_len]; exact Nat.le_refl _), List.drop_zero, ← encL_len C, List.take_length]

end Go.Proofs.YtckpcelchhmjcaaGreat.Ab

/- Owners: as values; which may be; what one has. -/
namespace Go.Proofs.YtckpcelchhmjcaaGreat.Ab
open Go

theorem ret_1 {v : Value} {s : St} (h : noTup v = true := by rfl) : retV [v] s = some (v, s) := by simp [retV, h, resPack]
theorem inc_i {i : Nat} (h : i < 140737488355328) : IntKind.wrap .i64 ((i : Int) + 1) = ((i + 1 : Nat) : Int) := by rw [wrap_i64 (by omega) (by omega)]; omega
theorem dec_i {i : Nat} (h : i < 140737488355328) : IntKind.wrap .i64 (((i + 1 : Nat) : Int) - 1) = ((i : Nat) : Int) := by rw [wrap_i64 (by omega) (by omega)]; omega

abbrev Ow := BL × Int
def owV (o : Ow) : Value := .agg #[sv o.1, .int .i64 o.2]
def owC : Cod Ow where
  n := 2
  enc o := [sv o.1, .int .i64 o.2]
  pos := by decide
  len _ := rfl
  inj := by
    rintro ⟨a, i⟩ ⟨b, j⟩ h
    simp only [sv, List.cons.injEq, Value.string.injEq, Value.int.injEq, true_and, and_true, ByteArray.mk.injEq, true_and] at h
    have := congrArg Array.toList h.1
    simp only at this
    rw [Prod.mk.injEq]
    exact ⟨this, h.2⟩
  leaf _ := rfl
theorem ow_enc (o : Ow) : Value.agg (owC.enc o).toArray = owV o := rfl
theorem w_st (o p : Ow) : lstore 2 lptr (owV o) (owV p) = some (owV o) := rfl
theorem w_z : (Value.agg #[(.string ⟨#[]⟩), (.int .i64 0)]) = owV ([], 0) := rfl
theorem w_z2 : (Value.agg #[sv [], (.int .i64 0)]) = owV ([], 0) := rfl
theorem w_1 (o : Ow) : lload false 1 (.pointer (some ⟨0, 1, none⟩)) (owV o) = some (.int .i64 o.2) := rfl
theorem w_0 (o : Ow) : lload false 1 lptr (owV o) = some (sv o.1) := rfl
theorem w_box (o : Ow) : lbox (owV o) = some (owV o) := rfl
/-! ### Which may be -/
def shOk (n : Int) : Bool := !(decide (n < 1)) && !(decide (n > 4))
def okF : Option BL → List Ow → Bool
  | _, [] => true
  | none, o :: l => shOk o.2 && okF (some o.1) l
  | some p, o :: l => shOk o.2 && (ckK o.1 && bl p o.1) && okF (some o.1) l
def okO (l : List Ow) : Bool := match l with
  | [] => false
  | o :: r => decide (r.length < 6) && o.1 == [] && okF none (o :: r)
def eO (l : List Ow) : Int := if okO l then 0 else 170
theorem eO_0 {l : List Ow} : (eO l == 0) = okO l := by unfold eO; cases okO l <;> rfl
def prevO (l : List Ow) : Nat → Option BL
  | 0 => none
  | i + 1 => l[i]?.map (·.1)
theorem drop_nx {α : Type} {l rest : List α} {o : α} {i : Nat} (h : l.drop i = o :: rest) : ∃ hi : i < l.length, l[i] = o ∧ l.drop (i + 1) = rest := by
  have hi : i < l.length := by
    rcases Nat.lt_or_ge i l.length with g | g
    · exact g
    · rw [List.drop_eq_nil_of_le g] at h; cases h
  rw [← List.getElem_cons_drop (h := hi)] at h
  exact ⟨hi, (List.cons.inj h).1, (List.cons.inj h).2⟩

theorem owner_Check_one {R : Caller} (hK : ∀ k s, R 103 [sv k] s = some (.int .i64 (eK k), s)) {v : Value} {s : St} {l : List Ow} (h : listOf owC v s = some l) {i : Nat} (hi : i < l.length) (hl : l.length < 140737488355328) :
    owner_Check.b0 R [v, v, .int .i64 ((l.length : Nat) : Int), .int .i64 (i : Int)] s = if (shOk l[i].2 && (match prevO l i with | none => true | some p => ckK l[i].1 && bl p l[i].1)) = true then some (.normal, [v, v, .int .i64 ((l.length : Nat) : Int), .int .i64 ((i + 1 : Nat) : Int)], s) else some (.ret, [.int .i64 170], s) := by
  have h1 : decide ((i : Int) < ((l.length : Nat) : Int)) = true := by simp; omega
  obtain ⟨p, g1, g2⟩ := list_at h hi (k := .i64) (n := 2) rfl
  rw [ow_enc] at g2
  unfold owner_Check.b0
  simp only [getL_0, getL_1, getL_2, getL_3, e_lss, h1, n_bind, condV_t, g1, g2, nil_sv, w_z, w_z2, w_st, w_1]
  have hsh : shOk l[i].2 = (!(decide (l[i].2 < 1)) && !(decide (l[i].2 > 4))) := rfl
  rw [hsh]
  cases c1 : decide (l[i].2 < 1)
  · cases c2 : decide (l[i].2 > 4)
    · cases i with
      | zero =>
        have c3 : decide (((0 : Nat) : Int) > 0) = false := rfl
        simp only [prevO, w_1, e_gtr, c1, c2, c3, n_bind, n_map, getL_0, getL_1, getL_2, getL_3, getL_4, getL_5, getL_6, getL_7, getL_8, getL_9, getL_10, getL_11, getL_12, condV_t, condV_f, guardV_tt, guardV_ff, guardV_tf, guardV_ft, guardV_u, apick_t, apick_f, exV_exit, exV_ret, lookE_same, joinK_eq, seqA_n, seqA_e, seqA_r, e_add, e_sub, e_mul, e_eql, e_neq, e_lss, e_leq, e_gtr, e_geq, e_conv, e_not, e_neg, and_guard, or_guard, own_id, inc_i (show 0 < 140737488355328 by omega), Bool.not_false, Bool.and_self, if_true]
      | succ j =>
        have c3 : decide (((j + 1 : Nat) : Int) > 0) = true := decide_eq_true (by omega)
        have hj : j < l.length := by omega
        obtain ⟨q, f1, q2, f2, f3⟩ := list_field h hj (j := 0) (c := sv l[j].1) rfl (k := .i64) (n := 2) rfl
        have hp : prevO l (j + 1) = some l[j].1 := by simp only [prevO, List.getElem?_eq_getElem hj, Option.map_some]
        rw [hp]
        cases c4 : ckK l[j + 1].1
        · simp only [w_0, w_1, e_gtr, c1, c2, c3, n_bind, n_map, getL_0, getL_1, getL_2, getL_3, getL_4, getL_5, getL_6, getL_7, getL_8, getL_9, getL_10, getL_11, getL_12, condV_t, condV_f, guardV_tt, guardV_ff, guardV_tf, guardV_ft, guardV_u, apick_t, apick_f, exV_exit, exV_ret, lookE_same, joinK_eq, seqA_n, seqA_e, seqA_r, e_add, e_sub, e_mul, e_eql, e_neq, e_lss, e_leq, e_gtr, e_geq, e_conv, e_not, e_neg, and_guard, or_guard, own_id, span_CheckKey_call, hK, eK_n, c4, Bool.not_false, Bool.not_true, Bool.and_self, Bool.false_and, Bool.and_false, Bool.false_eq_true, if_false]
        · cases c5 : bl l[j].1 l[j + 1].1
          · simp only [w_0, w_1, e_gtr, c1, c2, c3, c4, c5, n_bind, n_map, getL_0, getL_1, getL_2, getL_3, getL_4, getL_5, getL_6, getL_7, getL_8, getL_9, getL_10, getL_11, getL_12, condV_t, condV_f, guardV_tt, guardV_ff, guardV_tf, guardV_ft, guardV_u, apick_t, apick_f, exV_exit, exV_ret, lookE_same, joinK_eq, seqA_n, seqA_e, seqA_r, e_add, e_sub, e_mul, e_eql, e_neq, e_lss, e_leq, e_gtr, e_geq, e_conv, e_not, e_neg, and_guard, or_guard, own_id, span_CheckKey_call, hK, eK_n, dec_i (show j < 140737488355328 by omega), f1, f2, f3, geq_bl, Bool.not_false, Bool.not_true, Bool.and_self, Bool.false_and, Bool.and_false, Bool.false_eq_true, if_false]
          · simp only [w_0, w_1, e_gtr, c1, c2, c3, c4, c5, n_bind, n_map, getL_0, getL_1, getL_2, getL_3, getL_4, getL_5, getL_6, getL_7, getL_8, getL_9, getL_10, getL_11, getL_12, condV_t, condV_f, guardV_tt, guardV_ff, guardV_tf, guardV_ft, guardV_u, apick_t, apick_f, exV_exit, exV_ret, lookE_same, joinK_eq, seqA_n, seqA_e, seqA_r, e_add, e_sub, e_mul, e_eql, e_neq, e_lss, e_leq, e_gtr, e_geq, e_conv, e_not, e_neg, and_guard, or_guard, own_id, span_CheckKey_call, hK, eK_n, dec_i (show j < 140737488355328 by omega), f1, f2, f3, geq_bl, inc_i (show j + 1 < 140737488355328 by omega), Bool.not_false, Bool.not_true, Bool.and_self, Bool.false_and, Bool.and_false, Bool.false_eq_true, if_true]
    · simp only [w_1, e_gtr, c1, c2, n_bind, n_map, getL_0, getL_1, getL_2, getL_3, getL_4, getL_5, getL_6, getL_7, getL_8, getL_9, getL_10, getL_11, getL_12, condV_t, condV_f, guardV_tt, guardV_ff, guardV_tf, guardV_ft, guardV_u, apick_t, apick_f, exV_exit, exV_ret, lookE_same, joinK_eq, seqA_n, seqA_e, seqA_r, e_add, e_sub, e_mul, e_eql, e_neq, e_lss, e_leq, e_gtr, e_geq, e_conv, e_not, e_neg, and_guard, or_guard, own_id, Bool.not_false, Bool.not_true, Bool.and_false, Bool.false_and, Bool.false_eq_true, if_false]
  · simp only [c1, n_bind, n_map, getL_0, getL_1, getL_2, getL_3, getL_4, getL_5, getL_6, getL_7, getL_8, getL_9, getL_10, getL_11, getL_12, condV_t, condV_f, guardV_tt, guardV_ff, guardV_tf, guardV_ft, guardV_u, apick_t, apick_f, exV_exit, exV_ret, lookE_same, joinK_eq, seqA_n, seqA_e, seqA_r, e_add, e_sub, e_mul, e_eql, e_neq, e_lss, e_leq, e_gtr, e_geq, e_conv, e_not, e_neg, and_guard, or_guard, own_id, Bool.not_true, Bool.false_and, Bool.false_eq_true, if_false]
theorem owner_Check_loop {R : Caller} (hK : ∀ k s, R 103 [sv k] s = some (.int .i64 (eK k), s)) {v : Value} {s : St} {l : List Ow} (h : listOf owC v s = some l) (hl : l.length < 140737488355328) : ∀ (rest : List Ow) (i : Nat), l.drop i = rest → i ≤ l.length →
    loopL (owner_Check.b0 R) [v, v, .int .i64 ((l.length : Nat) : Int), .int .i64 (i : Int)] s = if okF (prevO l i) rest = true then some (.exit 0, [], s) else some (.ret, [.int .i64 170], s) := by
  intro rest
  induction rest with
  | nil =>
    intro i hi hle
    have h1 : decide ((i : Int) < ((l.length : Nat) : Int)) = false := by
      have := List.drop_eq_nil_iff.1 hi
      simp; omega
    rw [loopL_eq]
    simp only [owner_Check.b0, h1, n_bind, n_map, getL_0, getL_1, getL_2, getL_3, getL_4, getL_5, getL_6, getL_7, getL_8, getL_9, getL_10, getL_11, getL_12, condV_t, condV_f, guardV_tt, guardV_ff, guardV_tf, guardV_ft, guardV_u, apick_t, apick_f, exV_exit, exV_ret, lookE_same, joinK_eq, seqA_n, seqA_e, seqA_r, e_add, e_sub, e_mul, e_eql, e_neq, e_lss, e_leq, e_gtr, e_geq, e_conv, e_not, e_neg, and_guard, or_guard, okF, if_true]
  | cons o rest ih =>
    intro i hi hle
    obtain ⟨hlt, he, hd⟩ := drop_nx hi
    rw [loopL_eq, owner_Check_one hK h hlt hl, he]
    have hn : prevO l (i + 1) = some o.1 := by simp only [prevO, List.getElem?_eq_getElem hlt, he, Option.map_some]
    have key := ih (i + 1) hd (by omega)
    rw [hn] at key
    cases hp : prevO l i with
    | none =>
      simp only [okF, Bool.and_true]
      by_cases c : shOk o.2 = true
      · simp only [c, Bool.true_and, if_true, seqA_n, key]
      · have c2 : shOk o.2 = false := by simpa using c
        simp only [c2, Bool.false_and, Bool.false_eq_true, if_false, seqA_r]
    | some p =>
      simp only [okF]
      by_cases c : (shOk o.2 && (ckK o.1 && bl p o.1)) = true
      · simp only [c, Bool.true_and, if_true, seqA_n, key]
      · have c2 : (shOk o.2 && (ckK o.1 && bl p o.1)) = false := by simpa using c
        simp only [c2, Bool.false_and, Bool.false_eq_true, if_false, seqA_r]
theorem owner_Check_run {R : Caller} (hK : ∀ k s, R 103 [sv k] s = some (.int .i64 (eK k), s)) {v : Value} {s : St} {l : List Ow} (h : listOf owC v s = some l) (hl : l.length < 140737488355328) : owner_Check R v s = some (.int .i64 (eO l), s) := by
  have key := owner_Check_loop hK h hl l 0 rfl (Nat.zero_le _)
  rw [show ((0 : Nat) : Int) = 0 from rfl] at key
  unfold owner_Check eO okO
  cases l with
  | nil =>
    have c1 : ∀ e s2, alenV (.slice e) v s2 = some (.int .i64 0) := fun e s2 => list_len h
    have z0 : decide ((0 : Int) < 1) = true := rfl
    have z1 : ((0 : Int) == 0) = true := rfl
    simp only [c1, z0, z1, n_bind, n_map, getL_0, getL_1, getL_2, getL_3, getL_4, getL_5, getL_6, getL_7, getL_8, getL_9, getL_10, getL_11, getL_12, condV_t, condV_f, guardV_tt, guardV_ff, guardV_tf, guardV_ft, guardV_u, apick_t, apick_f, exV_exit, exV_ret, lookE_same, joinK_eq, seqA_n, seqA_e, seqA_r, e_add, e_sub, e_mul, e_eql, e_neq, e_lss, e_leq, e_gtr, e_geq, e_conv, e_not, e_neg, and_guard, or_guard, retV]
    rfl
  | cons o r =>
    have c1 : (((o :: r).length : Int) == 0) = false := by simp only [List.length_cons, beq_eq_false_iff_ne]; omega
    have c1b : decide (((o :: r).length : Int) < 1) = false := by simp only [List.length_cons, decide_eq_false_iff_not]; omega
    have c2 : decide (((o :: r).length : Int) > 6) = !decide (r.length < 6) := by
      by_cases g : r.length < 6
      · simp only [g, decide_true, Bool.not_true, decide_eq_false_iff_not, List.length_cons]; omega
      · simp only [g, decide_false, Bool.not_false, decide_eq_true_eq, List.length_cons]; omega
    obtain ⟨p, f1, q, f2, f3⟩ := list_field h (i := 0) (by simp) (j := 0) (c := sv o.1) rfl (k := .i64) (n := 2) rfl
    have f1' : aindexS 2 v (.int .i64 0) = some p := f1
    simp only [list_len h, c1, c1b, c2, nil_sv, n_bind, n_map, getL_0, getL_1, getL_2, getL_3, getL_4, getL_5, getL_6, getL_7, getL_8, getL_9, getL_10, getL_11, getL_12, condV_t, condV_f, guardV_tt, guardV_ff, guardV_tf, guardV_ft, guardV_u, apick_t, apick_f, exV_exit, exV_ret, lookE_same, joinK_eq, seqA_n, seqA_e, seqA_r, e_add, e_sub, e_mul, e_eql, e_neq, e_lss, e_leq, e_gtr, e_geq, e_conv, e_not, e_neg, and_guard, or_guard]
    rcases Bool.eq_false_or_eq_true (decide (r.length < 6)) with g1 | g1
    · rcases Bool.eq_false_or_eq_true (o.1 == []) with g2 | g2
      · simp only [g1, Bool.not_true, n_bind, n_map, getL_0, getL_1, getL_2, getL_3, getL_4, getL_5, getL_6, getL_7, getL_8, getL_9, getL_10, getL_11, getL_12, condV_t, condV_f, guardV_tt, guardV_ff, guardV_tf, guardV_ft, guardV_u, apick_t, apick_f, exV_exit, exV_ret, lookE_same, joinK_eq, seqA_n, seqA_e, seqA_r, e_add, e_sub, e_mul, e_eql, e_neq, e_lss, e_leq, e_gtr, e_geq, e_conv, e_not, e_neg, and_guard, or_guard, f1', f2, f3, e_sneq, g2, list_len h, key]
        simp only [prevO, Bool.true_and]
        rcases Bool.eq_false_or_eq_true (okF none (o :: r)) with g3 | g3
        · simp only [g3, if_true, n_bind, n_map, getL_0, getL_1, getL_2, getL_3, getL_4, getL_5, getL_6, getL_7, getL_8, getL_9, getL_10, getL_11, getL_12, condV_t, condV_f, guardV_tt, guardV_ff, guardV_tf, guardV_ft, guardV_u, apick_t, apick_f, exV_exit, exV_ret, lookE_same, joinK_eq, seqA_n, seqA_e, seqA_r, e_add, e_sub, e_mul, e_eql, e_neq, e_lss, e_leq, e_gtr, e_geq, e_conv, e_not, e_neg, and_guard, or_guard, retV]
          rfl
        · simp only [g3, Bool.false_eq_true, if_false, n_bind, n_map, getL_0, getL_1, getL_2, getL_3, getL_4, getL_5, getL_6, getL_7, getL_8, getL_9, getL_10, getL_11, getL_12, condV_t, condV_f, guardV_tt, guardV_ff, guardV_tf, guardV_ft, guardV_u, apick_t, apick_f, exV_exit, exV_ret, lookE_same, joinK_eq, seqA_n, seqA_e, seqA_r, e_add, e_sub, e_mul, e_eql, e_neq, e_lss, e_leq, e_gtr, e_geq, e_conv, e_not, e_neg, and_guard, or_guard, retV]
          rfl
      · simp only [g1, Bool.not_true, n_bind, n_map, getL_0, getL_1, getL_2, getL_3, getL_4, getL_5, getL_6, getL_7, getL_8, getL_9, getL_10, getL_11, getL_12, condV_t, condV_f, guardV_tt, guardV_ff, guardV_tf, guardV_ft, guardV_u, apick_t, apick_f, exV_exit, exV_ret, lookE_same, joinK_eq, seqA_n, seqA_e, seqA_r, e_add, e_sub, e_mul, e_eql, e_neq, e_lss, e_leq, e_gtr, e_geq, e_conv, e_not, e_neg, and_guard, or_guard, f1', f2, f3, e_sneq, g2, Bool.not_false, Bool.and_false, Bool.false_and, Bool.false_eq_true, if_false, retV]
        rfl
    · simp only [g1, Bool.not_false, n_bind, n_map, getL_0, getL_1, getL_2, getL_3, getL_4, getL_5, getL_6, getL_7, getL_8, getL_9, getL_10, getL_11, getL_12, condV_t, condV_f, guardV_tt, guardV_ff, guardV_tf, guardV_ft, guardV_u, apick_t, apick_f, exV_exit, exV_ret, lookE_same, joinK_eq, seqA_n, seqA_e, seqA_r, e_add, e_sub, e_mul, e_eql, e_neq, e_lss, e_leq, e_gtr, e_geq, e_conv, e_not, e_neg, and_guard, or_guard, Bool.false_and, Bool.false_eq_true, if_false, retV]
      rfl
theorem ref17_Check_one {R : Caller} (hK : ∀ k s, R 110 [sv k] s = some (.int .i64 (eK k), s)) {v : Value} {s : St} {l : List Ow} (h : listOf owC v s = some l) {i : Nat} (hi : i < l.length) (hl : l.length < 140737488355328) :
    ref17_Check.b0 R [v, v, .int .i64 ((l.length : Nat) : Int), .int .i64 (i : Int)] s = if (shOk l[i].2 && (match prevO l i with | none => true | some p => ckK l[i].1 && bl p l[i].1)) = true then some (.normal, [v, v, .int .i64 ((l.length : Nat) : Int), .int .i64 ((i + 1 : Nat) : Int)], s) else some (.ret, [.int .i64 170], s) := by
  have h1 : decide ((i : Int) < ((l.length : Nat) : Int)) = true := by simp; omega
  obtain ⟨p, g1, g2⟩ := list_at h hi (k := .i64) (n := 2) rfl
  rw [ow_enc] at g2
  unfold ref17_Check.b0
  simp only [getL_0, getL_1, getL_2, getL_3, e_lss, h1, n_bind, condV_t, g1, g2, nil_sv, w_z, w_z2, w_st, w_1]
  have hsh : shOk l[i].2 = (!(decide (l[i].2 < 1)) && !(decide (l[i].2 > 4))) := rfl
  rw [hsh]
  cases c1 : decide (l[i].2 < 1)
  · cases c2 : decide (l[i].2 > 4)
    · cases i with
      | zero =>
        have c3 : decide (((0 : Nat) : Int) > 0) = false := rfl
        simp only [prevO, w_1, e_gtr, c1, c2, c3, n_bind, n_map, getL_0, getL_1, getL_2, getL_3, getL_4, getL_5, getL_6, getL_7, getL_8, getL_9, getL_10, getL_11, getL_12, condV_t, condV_f, guardV_tt, guardV_ff, guardV_tf, guardV_ft, guardV_u, apick_t, apick_f, exV_exit, exV_ret, lookE_same, joinK_eq, seqA_n, seqA_e, seqA_r, e_add, e_sub, e_mul, e_eql, e_neq, e_lss, e_leq, e_gtr, e_geq, e_conv, e_not, e_neg, and_guard, or_guard, own_id, inc_i (show 0 < 140737488355328 by omega), Bool.not_false, Bool.and_self, if_true]
      | succ j =>
        have c3 : decide (((j + 1 : Nat) : Int) > 0) = true := decide_eq_true (by omega)
        have hj : j < l.length := by omega
        obtain ⟨q, f1, q2, f2, f3⟩ := list_field h hj (j := 0) (c := sv l[j].1) rfl (k := .i64) (n := 2) rfl
        have hp : prevO l (j + 1) = some l[j].1 := by simp only [prevO, List.getElem?_eq_getElem hj, Option.map_some]
        rw [hp]
        cases c4 : ckK l[j + 1].1
        · simp only [w_0, w_1, e_gtr, c1, c2, c3, n_bind, n_map, getL_0, getL_1, getL_2, getL_3, getL_4, getL_5, getL_6, getL_7, getL_8, getL_9, getL_10, getL_11, getL_12, condV_t, condV_f, guardV_tt, guardV_ff, guardV_tf, guardV_ft, guardV_u, apick_t, apick_f, exV_exit, exV_ret, lookE_same, joinK_eq, seqA_n, seqA_e, seqA_r, e_add, e_sub, e_mul, e_eql, e_neq, e_lss, e_leq, e_gtr, e_geq, e_conv, e_not, e_neg, and_guard, or_guard, own_id, ref02_CheckKey_call, hK, eK_n, c4, Bool.not_false, Bool.not_true, Bool.and_self, Bool.false_and, Bool.and_false, Bool.false_eq_true, if_false]
        · cases c5 : bl l[j].1 l[j + 1].1
          · simp only [w_0, w_1, e_gtr, c1, c2, c3, c4, c5, n_bind, n_map, getL_0, getL_1, getL_2, getL_3, getL_4, getL_5, getL_6, getL_7, getL_8, getL_9, getL_10, getL_11, getL_12, condV_t, condV_f, guardV_tt, guardV_ff, guardV_tf, guardV_ft, guardV_u, apick_t, apick_f, exV_exit, exV_ret, lookE_same, joinK_eq, seqA_n, seqA_e, seqA_r, e_add, e_sub, e_mul, e_eql, e_neq, e_lss, e_leq, e_gtr, e_geq, e_conv, e_not, e_neg, and_guard, or_guard, own_id, ref02_CheckKey_call, hK, eK_n, dec_i (show j < 140737488355328 by omega), f1, f2, f3, geq_bl, Bool.not_false, Bool.not_true, Bool.and_self, Bool.false_and, Bool.and_false, Bool.false_eq_true, if_false]
          · simp only [w_0, w_1, e_gtr, c1, c2, c3, c4, c5, n_bind, n_map, getL_0, getL_1, getL_2, getL_3, getL_4, getL_5, getL_6, getL_7, getL_8, getL_9, getL_10, getL_11, getL_12, condV_t, condV_f, guardV_tt, guardV_ff, guardV_tf, guardV_ft, guardV_u, apick_t, apick_f, exV_exit, exV_ret, lookE_same, joinK_eq, seqA_n, seqA_e, seqA_r, e_add, e_sub, e_mul, e_eql, e_neq, e_lss, e_leq, e_gtr, e_geq, e_conv, e_not, e_neg, and_guard, or_guard, own_id, ref02_CheckKey_call, hK, eK_n, dec_i (show j < 140737488355328 by omega), f1, f2, f3, geq_bl, inc_i (show j + 1 < 140737488355328 by omega), Bool.not_false, Bool.not_true, Bool.and_self, Bool.false_and, Bool.and_false, Bool.false_eq_true, if_true]
    · simp only [w_1, e_gtr, c1, c2, n_bind, n_map, getL_0, getL_1, getL_2, getL_3, getL_4, getL_5, getL_6, getL_7, getL_8, getL_9, getL_10, getL_11, getL_12, condV_t, condV_f, guardV_tt, guardV_ff, guardV_tf, guardV_ft, guardV_u, apick_t, apick_f, exV_exit, exV_ret, lookE_same, joinK_eq, seqA_n, seqA_e, seqA_r, e_add, e_sub, e_mul, e_eql, e_neq, e_lss, e_leq, e_gtr, e_geq, e_conv, e_not, e_neg, and_guard, or_guard, own_id, Bool.not_false, Bool.not_true, Bool.and_false, Bool.false_and, Bool.false_eq_true, if_false]
  · simp only [c1, n_bind, n_map, getL_0, getL_1, getL_2, getL_3, getL_4, getL_5, getL_6, getL_7, getL_8, getL_9, getL_10, getL_11, getL_12, condV_t, condV_f, guardV_tt, guardV_ff, guardV_tf, guardV_ft, guardV_u, apick_t, apick_f, exV_exit, exV_ret, lookE_same, joinK_eq, seqA_n, seqA_e, seqA_r, e_add, e_sub, e_mul, e_eql, e_neq, e_lss, e_leq, e_gtr, e_geq, e_conv, e_not, e_neg, and_guard, or_guard, own_id, Bool.not_true, Bool.false_and, Bool.false_eq_true, if_false]
theorem ref17_Check_loop {R : Caller} (hK : ∀ k s, R 110 [sv k] s = some (.int .i64 (eK k), s)) {v : Value} {s : St} {l : List Ow} (h : listOf owC v s = some l) (hl : l.length < 140737488355328) : ∀ (rest : List Ow) (i : Nat), l.drop i = rest → i ≤ l.length →
    loopL (ref17_Check.b0 R) [v, v, .int .i64 ((l.length : Nat) : Int), .int .i64 (i : Int)] s = if okF (prevO l i) rest = true then some (.exit 0, [], s) else some (.ret, [.int .i64 170], s) := by
  intro rest
  induction rest with
  | nil =>
    intro i hi hle
    have h1 : decide ((i : Int) < ((l.length : Nat) : Int)) = false := by
      have := List.drop_eq_nil_iff.1 hi
      simp; omega
    rw [loopL_eq]
    simp only [ref17_Check.b0, h1, n_bind, n_map, getL_0, getL_1, getL_2, getL_3, getL_4, getL_5, getL_6, getL_7, getL_8, getL_9, getL_10, getL_11, getL_12, condV_t, condV_f, guardV_tt, guardV_ff, guardV_tf, guardV_ft, guardV_u, apick_t, apick_f, exV_exit, exV_ret, lookE_same, joinK_eq, seqA_n, seqA_e, seqA_r, e_add, e_sub, e_mul, e_eql, e_neq, e_lss, e_leq, e_gtr, e_geq, e_conv, e_not, e_neg, and_guard, or_guard, okF, if_true]
  | cons o rest ih =>
    intro i hi hle
    obtain ⟨hlt, he, hd⟩ := drop_nx hi
    rw [loopL_eq, ref17_Check_one hK h hlt hl, he]
    have hn : prevO l (i + 1) = some o.1 := by simp only [prevO, List.getElem?_eq_getElem hlt, he, Option.map_some]
    have key := ih (i + 1) hd (by omega)
    rw [hn] at key
    cases hp : prevO l i with
    | none =>
      simp only [okF, Bool.and_true]
      by_cases c : shOk o.2 = true
      · simp only [c, Bool.true_and, if_true, seqA_n, key]
      · have c2 : shOk o.2 = false := by simpa using c
        simp only [c2, Bool.false_and, Bool.false_eq_true, if_false, seqA_r]
    | some p =>
      simp only [okF]
      by_cases c : (shOk o.2 && (ckK o.1 && bl p o.1)) = true
      · simp only [c, Bool.true_and, if_true, seqA_n, key]
      · have c2 : (shOk o.2 && (ckK o.1 && bl p o.1)) = false := by simpa using c
        simp only [c2, Bool.false_and, Bool.false_eq_true, if_false, seqA_r]
theorem ref17_Check_run {R : Caller} (hK : ∀ k s, R 110 [sv k] s = some (.int .i64 (eK k), s)) {v : Value} {s : St} {l : List Ow} (h : listOf owC v s = some l) (hl : l.length < 140737488355328) : ref17_Check R v s = some (.int .i64 (eO l), s) := by
  have key := ref17_Check_loop hK h hl l 0 rfl (Nat.zero_le _)
  rw [show ((0 : Nat) : Int) = 0 from rfl] at key
  unfold ref17_Check eO okO
  cases l with
  | nil =>
    have c1 : ∀ e s2, alenV (.slice e) v s2 = some (.int .i64 0) := fun e s2 => list_len h
    have z0 : decide ((0 : Int) < 1) = true := rfl
    have z1 : ((0 : Int) == 0) = true := rfl
    simp only [c1, z0, z1, n_bind, n_map, getL_0, getL_1, getL_2, getL_3, getL_4, getL_5, getL_6, getL_7, getL_8, getL_9, getL_10, getL_11, getL_12, condV_t, condV_f, guardV_tt, guardV_ff, guardV_tf, guardV_ft, guardV_u, apick_t, apick_f, exV_exit, exV_ret, lookE_same, joinK_eq, seqA_n, seqA_e, seqA_r, e_add, e_sub, e_mul, e_eql, e_neq, e_lss, e_leq, e_gtr, e_geq, e_conv, e_not, e_neg, and_guard, or_guard, retV]
    rfl
  | cons o r =>
    have c1 : (((o :: r).length : Int) == 0) = false := by simp only [List.length_cons, beq_eq_false_iff_ne]; omega
    have c1b : decide (((o :: r).length : Int) < 1) = false := by simp only [List.length_cons, decide_eq_false_iff_not]; omega
    have c2 : decide (((o :: r).length : Int) > 6) = !decide (r.length < 6) := by
      by_cases g : r.length < 6
      · simp only [g, decide_true, Bool.not_true, decide_eq_false_iff_not, List.length_cons]; omega
      · simp only [g, decide_false, Bool.not_false, decide_eq_true_eq, List.length_cons]; omega
    obtain ⟨p, f1, q, f2, f3⟩ := list_field h (i := 0) (by simp) (j := 0) (c := sv o.1) rfl (k := .i64) (n := 2) rfl
    have f1' : aindexS 2 v (.int .i64 0) = some p := f1
    simp only [list_len h, c1, c1b, c2, nil_sv, n_bind, n_map, getL_0, getL_1, getL_2, getL_3, getL_4, getL_5, getL_6, getL_7, getL_8, getL_9, getL_10, getL_11, getL_12, condV_t, condV_f, guardV_tt, guardV_ff, guardV_tf, guardV_ft, guardV_u, apick_t, apick_f, exV_exit, exV_ret, lookE_same, joinK_eq, seqA_n, seqA_e, seqA_r, e_add, e_sub, e_mul, e_eql, e_neq, e_lss, e_leq, e_gtr, e_geq, e_conv, e_not, e_neg, and_guard, or_guard]
    rcases Bool.eq_false_or_eq_true (decide (r.length < 6)) with g1 | g1
    · rcases Bool.eq_false_or_eq_true (o.1 == []) with g2 | g2
      · simp only [g1, Bool.not_true, n_bind, n_map, getL_0, getL_1, getL_2, getL_3, getL_4, getL_5, getL_6, getL_7, getL_8, getL_9, getL_10, getL_11, getL_12, condV_t, condV_f, guardV_tt, guardV_ff, guardV_tf, guardV_ft, guardV_u, apick_t, apick_f, exV_exit, exV_ret, lookE_same, joinK_eq, seqA_n, seqA_e, seqA_r, e_add, e_sub, e_mul, e_eql, e_neq, e_lss, e_leq, e_gtr, e_geq, e_conv, e_not, e_neg, and_guard, or_guard, f1', f2, f3, e_sneq, g2, list_len h, key]
        simp only [prevO, Bool.true_and]
        rcases Bool.eq_false_or_eq_true (okF none (o :: r)) with g3 | g3
        · simp only [g3, if_true, n_bind, n_map, getL_0, getL_1, getL_2, getL_3, getL_4, getL_5, getL_6, getL_7, getL_8, getL_9, getL_10, getL_11, getL_12, condV_t, condV_f, guardV_tt, guardV_ff, guardV_tf, guardV_ft, guardV_u, apick_t, apick_f, exV_exit, exV_ret, lookE_same, joinK_eq, seqA_n, seqA_e, seqA_r, e_add, e_sub, e_mul, e_eql, e_neq, e_lss, e_leq, e_gtr, e_geq, e_conv, e_not, e_neg, and_guard, or_guard, retV]
          rfl
        · simp only [g3, Bool.false_eq_true, if_false, n_bind, n_map, getL_0, getL_1, getL_2, getL_3, getL_4, getL_5, getL_6, getL_7, getL_8, getL_9, getL_10, getL_11, getL_12, condV_t, condV_f, guardV_tt, guardV_ff, guardV_tf, guardV_ft, guardV_u, apick_t, apick_f, exV_exit, exV_ret, lookE_same, joinK_eq, seqA_n, seqA_e, seqA_r, e_add, e_sub, e_mul, e_eql, e_neq, e_lss, e_leq, e_gtr, e_geq, e_conv, e_not, e_neg, and_guard, or_guard, retV]
          rfl
      · simp only [g1, Bool.not_true, n_bind, n_map, getL_0, getL_1, getL_2, getL_3, getL_4, getL_5, getL_6, getL_7, getL_8, getL_9, getL_10, getL_11, getL_12, condV_t, condV_f, guardV_tt, guardV_ff, guardV_tf, guardV_ft, guardV_u, apick_t, apick_f, exV_exit, exV_ret, lookE_same, joinK_eq, seqA_n, seqA_e, seqA_r, e_add, e_sub, e_mul, e_eql, e_neq, e_lss, e_leq, e_gtr, e_geq, e_conv, e_not, e_neg, and_guard, or_guard, f1', f2, f3, e_sneq, g2, Bool.not_false, Bool.and_false, Bool.false_and, Bool.false_eq_true, if_false, retV]
        rfl
    · simp only [g1, Bool.not_false, n_bind, n_map, getL_0, getL_1, getL_2, getL_3, getL_4, getL_5, getL_6, getL_7, getL_8, getL_9, getL_10, getL_11, getL_12, condV_t, condV_f, guardV_tt, guardV_ff, guardV_tf, guardV_ft, guardV_u, apick_t, apick_f, exV_exit, exV_ret, lookE_same, joinK_eq, seqA_n, seqA_e, seqA_r, e_add, e_sub, e_mul, e_eql, e_neq, e_lss, e_leq, e_gtr, e_geq, e_conv, e_not, e_neg, and_guard, or_guard, Bool.false_and, Bool.false_eq_true, if_false, retV]
      rfl
end Go.Proofs.YtckpcelchhmjcaaGreat.Ab

/- A law's arguments: lists of owners. -/
namespace Go.Proofs.YtckpcelchhmjcaaGreat.Ab
open Go Go.ChangeShapes Go.WideShapes

theorem cl_intW : Tryz.prog.cellsOf 3 = 1 := by kernel_rfl
theorem cl_strW : Tryz.prog.cellsOf 9 = 1 := by kernel_rfl
set_option maxRecDepth 100000 in
theorem el_ow {H : Type} {enc : TypeId × Value → H} {W : World} {base : Nat} {sp : Nat → Bool} {held : Bool} {n : Nat} {cs : List Value} {y : DataW H × List MemPlace} (h : DataW.trod enc Tryz.prog W base sp held n 54 cs = some y) : ∃ a : Ow, cs = owC.enc a := by
  obtain ⟨xs, m, _, rfl, hl, hlen, hf⟩ := DataW.trod_struct Tryz.underlying54 h
  have c : Tryz.prog.cellsOf 54 = 2 := by kernel_rfl
  rw [c] at hl
  match xs, hlen, cs, hl with
  | [y0, y1], _, [c0, c1], _ =>
    have t0 : DataW.trod enc Tryz.prog W base sp held m 9 (([c0, c1].drop 0).take (Tryz.prog.cellsOf 9)) = some y0 := hf 0 _ rfl
    have t1 : DataW.trod enc Tryz.prog W base sp held m 3 (([c0, c1].drop 1).take (Tryz.prog.cellsOf 3)) = some y1 := hf 1 _ rfl
    rw [cl_strW] at t0
    rw [cl_intW] at t1
    simp only [List.drop_succ_cons, List.drop_zero, List.take_succ_cons, List.take_zero] at t0 t1
    obtain ⟨a, e0, _, _⟩ := DataW.trod_string Tryz.underlying9 t0
    obtain ⟨b, e1, _, _⟩ := DataW.trod_int Tryz.underlying3 t1
    simp only [List.cons.injEq, and_true] at e0 e1
    subst e0 e1
    refine ⟨(a.data.toList, b), ?_⟩
    show _ = [sv _, _]
    rw [← sv_of]

end Go.Proofs.YtckpcelchhmjcaaGreat.Ab

/- A law's arguments: operations, pairs, lists of them. -/
namespace Go.Proofs.YtckpcelchhmjcaaGreat.Ab
open Go Go.ChangeShapes Go.WideShapes
set_option maxRecDepth 100000

theorem cl_int : Tryz.prog.cellsOf 3 = 1 := by kernel_rfl
theorem cl_str : Tryz.prog.cellsOf 9 = 1 := by kernel_rfl
theorem el_pair {H : Type} {enc : TypeId × Value → H} {W : World} {base : Nat} {sp : Nat → Bool} {held : Bool} {n : Nat} {cs : List Value} {y : DataW H × List MemPlace} (h : DataW.trod enc Tryz.prog W base sp held n 150 cs = some y) : ∃ a : Rg, cs = prC.enc a := by
  obtain ⟨xs, m, _, rfl, hl, hlen, hf⟩ := DataW.trod_struct Tryz.underlying150 h
  have c : Tryz.prog.cellsOf 150 = 2 := by kernel_rfl
  rw [c] at hl
  match xs, hlen, cs, hl with
  | [y0, y1], _, [c0, c1], _ =>
    have t0 : DataW.trod enc Tryz.prog W base sp held m 9 (([c0, c1].drop 0).take (Tryz.prog.cellsOf 9)) = some y0 := hf 0 _ rfl
    have t1 : DataW.trod enc Tryz.prog W base sp held m 9 (([c0, c1].drop 1).take (Tryz.prog.cellsOf 9)) = some y1 := hf 1 _ rfl
    rw [cl_str] at t0 t1
    simp only [List.drop_succ_cons, List.drop_zero, List.take_succ_cons, List.take_zero] at t0 t1
    obtain ⟨a, e0, _, _⟩ := DataW.trod_string Tryz.underlying9 t0
    obtain ⟨b, e1, _, _⟩ := DataW.trod_string Tryz.underlying9 t1
    simp only [List.cons.injEq, and_true] at e0 e1
    subst e0 e1
    refine ⟨(a.data.toList, b.data.toList), ?_⟩
    show _ = [sv _, sv _]
    rw [← sv_of, ← sv_of]
theorem el_op {H : Type} {enc : TypeId × Value → H} {W : World} {base : Nat} {sp : Nat → Bool} {held : Bool} {n : Nat} {cs : List Value} {y : DataW H × List MemPlace} (h : DataW.trod enc Tryz.prog W base sp held n 72 cs = some y) : ∃ o : OpT, cs = opC.enc o := by
  obtain ⟨xs, m, _, rfl, hl, hlen, hf⟩ := DataW.trod_struct Tryz.underlying72 h
  have c : Tryz.prog.cellsOf 72 = 6 := by kernel_rfl
  rw [c] at hl
  match xs, hlen, cs, hl with
  | [y0, y1, y2, y3, y4, y5], _, [c0, c1, c2, c3, c4, c5], _ =>
    have t0 : DataW.trod enc Tryz.prog W base sp held m 3 (([c0, c1, c2, c3, c4, c5].drop 0).take (Tryz.prog.cellsOf 3)) = some y0 := hf 0 _ rfl
    have t1 : DataW.trod enc Tryz.prog W base sp held m 9 (([c0, c1, c2, c3, c4, c5].drop 1).take (Tryz.prog.cellsOf 9)) = some y1 := hf 1 _ rfl
    have t2 : DataW.trod enc Tryz.prog W base sp held m 9 (([c0, c1, c2, c3, c4, c5].drop 2).take (Tryz.prog.cellsOf 9)) = some y2 := hf 2 _ rfl
    have t3 : DataW.trod enc Tryz.prog W base sp held m 9 (([c0, c1, c2, c3, c4, c5].drop 3).take (Tryz.prog.cellsOf 9)) = some y3 := hf 3 _ rfl
    have t4 : DataW.trod enc Tryz.prog W base sp held m 9 (([c0, c1, c2, c3, c4, c5].drop 4).take (Tryz.prog.cellsOf 9)) = some y4 := hf 4 _ rfl
    have t5 : DataW.trod enc Tryz.prog W base sp held m 3 (([c0, c1, c2, c3, c4, c5].drop 5).take (Tryz.prog.cellsOf 3)) = some y5 := hf 5 _ rfl
    rw [cl_int] at t0 t5
    rw [cl_str] at t1 t2 t3 t4
    simp only [List.drop_succ_cons, List.drop_zero, List.take_succ_cons, List.take_zero] at t0 t1 t2 t3 t4 t5
    obtain ⟨k, e0, _, _⟩ := DataW.trod_int Tryz.underlying3 t0
    obtain ⟨s1, e1, _, _⟩ := DataW.trod_string Tryz.underlying9 t1
    obtain ⟨s2, e2, _, _⟩ := DataW.trod_string Tryz.underlying9 t2
    obtain ⟨s3, e3, _, _⟩ := DataW.trod_string Tryz.underlying9 t3
    obtain ⟨s4, e4, _, _⟩ := DataW.trod_string Tryz.underlying9 t4
    obtain ⟨k5, e5, _, _⟩ := DataW.trod_int Tryz.underlying3 t5
    simp only [List.cons.injEq, and_true] at e0 e1 e2 e3 e4 e5
    subst e0 e1 e2 e3 e4 e5
    refine ⟨⟨k, s1.data.toList, s2.data.toList, s3.data.toList, s4.data.toList, k5⟩, ?_⟩
    show _ = [_, sv _, sv _, sv _, sv _, _]
    rw [← sv_of, ← sv_of, ← sv_of, ← sv_of]
end Go.Proofs.YtckpcelchhmjcaaGreat.Ab

/- States of shards and of the coordinator: how they lie in memory; a law's arguments. -/
namespace Go.Proofs.YtckpcelchhmjcaaGreat.Ab
open Go Go.ChangeShapes Go.WideShapes
set_option maxRecDepth 100000

abbrev Ho := Int × List OpT
abbrev De := Int × Int × Int × Int × List Int
abbrev Rs := Bool × BL × List Rg
abbrev La := Int × Int × Int × List Rs
abbrev wfN (k : IntKind) : NCod Int := .ofC (intC k) fun i => (Lit.int k i).wf = true
abbrev stN : NCod BL := .ofC strgC fun k => k.length ≤ reachBytes
def hoN : NCod Ho := .map (.pair (wfN .u64) (.pair (.list (.ofC opC fun _ => True) 80) .unit)) fun h => (h.1, h.2, ())
def deN : NCod De := .map (.pair (wfN .u64) (.pair (wfN .i64) (.pair (wfN .u64) (.pair (wfN .u64) (.pair (.list (wfN .i64) 8) .unit))))) fun d => (d.1, d.2.1, d.2.2.1, d.2.2.2.1, d.2.2.2.2, ())
def rsN : NCod Rs := .map (.pair (.ofC blnC fun _ => True) (.pair stN (.pair (.list (.ofC prC fun _ => True) 32) .unit))) fun r => (r.1, r.2.1, r.2.2, ())
def laN : NCod La := .map (.pair (wfN .i64) (.pair (wfN .u64) (.pair (wfN .u64) (.pair (.list rsN 48) .unit)))) fun l => (l.1, l.2.1, l.2.2.1, l.2.2.2, ())
structure Sd where
  id : Int
  boot : Int
  ver : Int
  epoch : Int
  move : Int
  owners : List Ow
  held : List Ho
  fin : List Int
  low : Int
  frozen : Int
  cold : Rg
  im : Int
  ia : Int
  inx : Int
  ir : Rg
structure Cd where
  shards : Int
  boot : Int
  ver : Int
  epoch : Int
  owners : List Ow
  decided : List De
  last : List La
abbrev rgN : NCod Rg := .ofC prC fun _ => True
abbrev inN : NCod (Int × Int × Int × Rg) := .map (.pair (wfN .u64) (.pair (wfN .u64) (.pair (wfN .u64) (.pair rgN .unit)))) fun i => (i.1, i.2.1, i.2.2.1, i.2.2.2, ())
abbrev owsN : NCod (List Ow) := .list (.ofC owC fun _ => True) 24
def sdN : NCod Sd := .map (.pair (wfN .i64) (.pair (wfN .u64) (.pair (wfN .u64) (.pair (wfN .u64) (.pair (wfN .u64) (.pair owsN (.pair (.list hoN 32) (.pair (.list (wfN .u64) 8) (.pair (wfN .u64) (.pair (wfN .u64) (.pair rgN (.pair inN .unit))))))))))))
  fun s => (s.id, s.boot, s.ver, s.epoch, s.move, s.owners, s.held, s.fin, s.low, s.frozen, s.cold, (s.im, s.ia, s.inx, s.ir), ())
def cdN : NCod Cd := .map (.pair (wfN .i64) (.pair (wfN .u64) (.pair (wfN .u64) (.pair (wfN .u64) (.pair owsN (.pair (.list deN 56) (.pair (.list laN 48) .unit)))))))
  fun c => (c.shards, c.boot, c.ver, c.epoch, c.owners, c.decided, c.last, ())

/-! ### They are opened -/
theorem opens_prR : Opens Tryz.prog (.ofC prC fun _ => True) 150 := fun Hn enc W n cs y hy hw => by
  obtain ⟨a, rfl⟩ := el_pair hy
  exact opens_leaf ⟨a, rfl, trivial⟩
theorem opens_opR : Opens Tryz.prog (.ofC opC fun _ => True) 72 := fun Hn enc W n cs y hy hw => by
  obtain ⟨a, rfl⟩ := el_op hy
  exact opens_leaf ⟨a, rfl, trivial⟩
theorem opens_owR : Opens Tryz.prog (.ofC owC fun _ => True) 54 := fun Hn enc W n cs y hy hw => by
  obtain ⟨a, rfl⟩ := el_ow hy
  exact opens_leaf ⟨a, rfl, trivial⟩
theorem Opens.map {α β : Type} {P : Program} {A : NCod α} {f : β → α} {t : TypeId} (g : α → β) (hfg : ∀ a, f (g a) = a) (h : Opens P A t) : Opens P (A.map f) t := fun Hn enc W n cs y hy hw => opens_map (g := g) hfg (h Hn enc W n cs y hy hw)
theorem opens_rgR : Opens Tryz.prog rgN 27 := fun Hn enc W n cs y hy hw => by
  have h := opens_struct (C := .pair stN (.pair stN .unit)) Tryz.underlying27 (by kernel_rfl) (opensF_cons rfl (by kernel_rfl) (opens_string Tryz.underlying9) (opensF_cons rfl (by kernel_rfl) (opens_string Tryz.underlying9) opensF_nil)) Hn enc W n cs y hy hw
  intro ι H hs hro
  obtain ⟨a, K, κ, cs', h1, h2, h3, h4, c, d, rfl, ⟨rfl, _⟩, c2, d2, rfl, ⟨rfl, _⟩, rfl⟩ := h ι H hs hro
  exact ⟨(a.1, a.2.1), K, κ, _, h1, h2, h3, h4, rfl, trivial⟩
theorem opens_ho : Opens Tryz.prog hoN 64 :=
  Opens.map (fun p => (p.1, p.2.1)) (fun _ => rfl) (opens_struct Tryz.underlying64 (by kernel_rfl) (opensF_cons rfl (by kernel_rfl) (opens_int Tryz.underlying22) (opensF_cons rfl (by kernel_rfl) (opens_list Tryz.underlying62 (by kernel_rfl) (by decide) (by kernel_rfl) opens_opR) opensF_nil)))
theorem opens_de : Opens Tryz.prog deN 77 :=
  Opens.map (fun p => (p.1, p.2.1, p.2.2.1, p.2.2.2.1, p.2.2.2.2.1)) (fun _ => rfl) (opens_struct Tryz.underlying77 (by kernel_rfl) (opensF_cons rfl (by kernel_rfl) (opens_int Tryz.underlying22) (opensF_cons rfl (by kernel_rfl) (opens_int Tryz.underlying3) (opensF_cons rfl (by kernel_rfl) (opens_int Tryz.underlying22) (opensF_cons rfl (by kernel_rfl) (opens_int Tryz.underlying22)
    (opensF_cons rfl (by kernel_rfl) (opens_list Tryz.underlying75 (by kernel_rfl) (by decide) (by kernel_rfl) (opens_int Tryz.underlying3)) opensF_nil))))))
theorem opens_rs : Opens Tryz.prog rsN 146 :=
  Opens.map (fun p => (p.1, p.2.1, p.2.2.1)) (fun _ => rfl) (opens_struct Tryz.underlying146 (by kernel_rfl) (opensF_cons rfl (by kernel_rfl) (opens_bool Tryz.underlying4) (opensF_cons rfl (by kernel_rfl) (opens_string Tryz.underlying9) (opensF_cons rfl (by kernel_rfl) (opens_list Tryz.underlying144 (by kernel_rfl) (by decide) (by kernel_rfl) opens_prR) opensF_nil))))
theorem opens_la : Opens Tryz.prog laN 82 :=
  Opens.map (fun p => (p.1, p.2.1, p.2.2.1, p.2.2.2.1)) (fun _ => rfl) (opens_struct Tryz.underlying82 (by kernel_rfl) (opensF_cons rfl (by kernel_rfl) (opens_int Tryz.underlying3) (opensF_cons rfl (by kernel_rfl) (opens_int Tryz.underlying22) (opensF_cons rfl (by kernel_rfl) (opens_int Tryz.underlying22)
    (opensF_cons rfl (by kernel_rfl) (opens_list Tryz.underlying80 (by kernel_rfl) (by decide) (by kernel_rfl) opens_rs) opensF_nil)))))
theorem opens_ows : Opens Tryz.prog owsN 23 := opens_list Tryz.underlying23 (by kernel_rfl) (by decide) (by kernel_rfl) opens_owR
theorem opens_in : Opens Tryz.prog inN 29 :=
  Opens.map (fun p => (p.1, p.2.1, p.2.2.1, p.2.2.2.1)) (fun _ => rfl) (opens_struct Tryz.underlying29 (by kernel_rfl) (opensF_cons rfl (by kernel_rfl) (opens_int Tryz.underlying22) (opensF_cons rfl (by kernel_rfl) (opens_int Tryz.underlying22) (opensF_cons rfl (by kernel_rfl) (opens_int Tryz.underlying22) (opensF_cons rfl (by kernel_rfl) opens_rgR opensF_nil)))))
theorem opens_sd : Opens Tryz.prog sdN 31 :=
  Opens.map (fun p => ⟨p.1, p.2.1, p.2.2.1, p.2.2.2.1, p.2.2.2.2.1, p.2.2.2.2.2.1, p.2.2.2.2.2.2.1, p.2.2.2.2.2.2.2.1, p.2.2.2.2.2.2.2.2.1, p.2.2.2.2.2.2.2.2.2.1, p.2.2.2.2.2.2.2.2.2.2.1, p.2.2.2.2.2.2.2.2.2.2.2.1.1, p.2.2.2.2.2.2.2.2.2.2.2.1.2.1, p.2.2.2.2.2.2.2.2.2.2.2.1.2.2.1, p.2.2.2.2.2.2.2.2.2.2.2.1.2.2.2⟩) (fun _ => rfl)
    (opens_struct Tryz.underlying31 (by kernel_rfl)
      (opensF_cons rfl (by kernel_rfl) (opens_int Tryz.underlying3) (opensF_cons rfl (by kernel_rfl) (opens_int Tryz.underlying22) (opensF_cons rfl (by kernel_rfl) (opens_int Tryz.underlying22) (opensF_cons rfl (by kernel_rfl) (opens_int Tryz.underlying22) (opensF_cons rfl (by kernel_rfl) (opens_int Tryz.underlying22)
        (opensF_cons rfl (by kernel_rfl) opens_ows (opensF_cons rfl (by kernel_rfl) (opens_list Tryz.underlying24 (by kernel_rfl) (by decide) (by kernel_rfl) opens_ho) (opensF_cons rfl (by kernel_rfl) (opens_list Tryz.underlying25 (by kernel_rfl) (by decide) (by kernel_rfl) (opens_int Tryz.underlying22))
          (opensF_cons rfl (by kernel_rfl) (opens_int Tryz.underlying22) (opensF_cons rfl (by kernel_rfl) (opens_int Tryz.underlying22) (opensF_cons rfl (by kernel_rfl) opens_rgR (opensF_cons rfl (by kernel_rfl) opens_in opensF_nil)))))))))))))
theorem opens_cd : Opens Tryz.prog cdN 35 :=
  Opens.map (fun p => ⟨p.1, p.2.1, p.2.2.1, p.2.2.2.1, p.2.2.2.2.1, p.2.2.2.2.2.1, p.2.2.2.2.2.2.1⟩) (fun _ => rfl)
    (opens_struct Tryz.underlying35 (by kernel_rfl)
      (opensF_cons rfl (by kernel_rfl) (opens_int Tryz.underlying3) (opensF_cons rfl (by kernel_rfl) (opens_int Tryz.underlying22) (opensF_cons rfl (by kernel_rfl) (opens_int Tryz.underlying22) (opensF_cons rfl (by kernel_rfl) (opens_int Tryz.underlying22)
        (opensF_cons rfl (by kernel_rfl) opens_ows (opensF_cons rfl (by kernel_rfl) (opens_list Tryz.underlying32 (by kernel_rfl) (by decide) (by kernel_rfl) opens_de) (opensF_cons rfl (by kernel_rfl) (opens_list Tryz.underlying33 (by kernel_rfl) (by decide) (by kernel_rfl) opens_la) opensF_nil))))))))

end Go.Proofs.YtckpcelchhmjcaaGreat.Ab

/- Lists of one's own that are written into, shortened, made longer. -/
namespace Go.Proofs.YtckpcelchhmjcaaGreat.Ab
open Go

def blkOf : Value → Option Nat
  | .slice (some a) _ _ => some a.block
  | _ => none
/-- nothing has changed but in one block -/
def Keep (B : Option Nat) (s t : St) : Prop := s.heap.length ≤ t.heap.length ∧ ∀ c, c < s.heap.length → B ≠ some c → t.heap[c]? = s.heap[c]?
def Fresh (s : St) (v v' : Value) : Prop := blkOf v' = blkOf v ∨ ∀ c, blkOf v' = some c → s.heap.length ≤ c
theorem Keep.refl (B : Option Nat) (s : St) : Keep B s s := ⟨Nat.le_refl _, fun _ _ _ => rfl⟩
theorem Keep.ext {N : Nat} {v : Value} {s t : St} (h : Keep (blkOf v) s t) (hN : N ≤ s.heap.length) (hb : ∀ c, blkOf v = some c → N ≤ c) : Ext N s t :=
  ⟨h.1, fun c hc => h.2 c (by omega) fun e => by have := hb c e; omega⟩
theorem Ext.keep {B : Option Nat} {s t : St} (h : Ext s.heap.length s t) : Keep B s t := ⟨h.1, fun c hc _ => h.2 c hc⟩
theorem putB_get {s : St} {b : Nat} {B : Blk} (h : b < s.heap.length) : (s.putB b B).heap[b]? = some B := by
  simp only [St.putB]
  rw [List.getElem?_set_self h]
theorem putB_keep {s : St} {b : Nat} {B : Blk} : Keep (some b) s (s.putB b B) := ⟨by simp [St.putB], fun c _ hc => by
  simp only [St.putB]
  rw [List.getElem?_set_ne (fun e => hc (by rw [e]))]⟩
theorem Keep.trans {B : Option Nat} {s t u : St} (h : Keep B s t) (g : Keep B t u) : Keep B s u := ⟨Nat.le_trans h.1 g.1, fun c hc hB => (g.2 c (Nat.lt_of_lt_of_le hc h.1) hB).trans (h.2 c hc hB)⟩
/-- a list that lies elsewhere -/
theorem Keep.list {α : Type} {C : Cod α} {B : Option Nat} {s t : St} (h : Keep B s t) {v : Value} {l : List α} (hv : listOf C v s = some l) (hb : ∀ c, blkOf v = some c → B ≠ some c) : listOf C v t = some l := by
  refine (listOf_iff C).2 ?_
  have hc := (listOf_iff C).1 hv
  unfold cellsOf at hc ⊢
  split at hc
  · exact hc
  · rename_i b o len cap
    split at hc
    case isFalse => cases hc
    rename_i hlc
    rw [if_pos hlc]
    unfold readN at hc ⊢
    cases hr : Ab.readRow s b with
    | none => rw [hr] at hc; cases hc
    | some row =>
      have hlt := readRow_lt hr
      have : Ab.readRow t b = Ab.readRow s b := by
        unfold Ab.readRow
        rw [h.2 b hlt (hb b rfl)]
      rw [this]; exact hc
  · cases hc

section
variable {α : Type} {C : Cod α}
theorem OwnC.blk {N : Nat} {s : St} {v : Value} {l : List α} (h : OwnC C N s v l) : ∀ c, blkOf v = some c → N ≤ c ∧ c < s.heap.length := by
  intro c hc
  rcases h with ⟨rfl, _⟩ | ⟨b, cap, rest, rfl, h1, h2, _⟩
  · cases hc
  · cases hc
    exact ⟨h1, (List.getElem?_eq_some_iff.1 h2).1⟩
theorem OwnC.mono {N M : Nat} {s : St} {v : Value} {l : List α} (h : OwnC C N s v l) (hM : M ≤ N) : OwnC C M s v l := by
  rcases h with h | ⟨b, cap, rest, e, h1, h2⟩
  · exact .inl h
  · exact .inr ⟨b, cap, rest, e, by omega, h2⟩
theorem OwnC.keep {N : Nat} {B : Option Nat} {s t : St} {v : Value} {l : List α} (h : OwnC C N s v l) (k : Keep B s t) (hb : ∀ c, blkOf v = some c → B ≠ some c) : OwnC C N t v l := by
  rcases h with h | ⟨b, cap, rest, rfl, h1, h2, h3⟩
  · exact .inl h
  · exact .inr ⟨b, cap, rest, rfl, h1, by rw [k.2 b (List.getElem?_eq_some_iff.1 h2).1 (hb b rfl)]; exact h2, h3⟩
theorem OwnC.notup {N : Nat} {s : St} {v : Value} {l : List α} (h : OwnC C N s v l) : noTup v = true := by
  rcases h with ⟨rfl, _⟩ | ⟨b, cap, rest, rfl, _⟩ <;> rfl

end

end Go.Proofs.YtckpcelchhmjcaaGreat.Ab

/- Rows of one's own: parts of an element; what an 'append' leaves as it was. -/
namespace Go.Proofs.YtckpcelchhmjcaaGreat.Ab
open Go

theorem aappend_keep {n w : Nat} {x y : Value} {s : St} {v' : Value} {t : St} (h : aappend n w x y s = some (v', t)) : Keep (blkOf x) s t ∧ Fresh s x v' := by
  unfold aappend at h
  split at h
  case isFalse => cases h
  simp only [Option.bind_eq_some_iff] at h
  obtain ⟨m, hm, new, hn, h⟩ := h
  split at h
  · split at h
    case isFalse => cases h
    split at h
    · cases h; exact ⟨.refl _ _, .inl rfl⟩
    · cases h
      exact ⟨(Ext.push _ (Nat.le_refl _) _).keep, .inr fun c hc => by cases hc; exact Nat.le_refl _⟩
  · rename_i b o len cap
    split at h
    case isFalse => cases h
    split at h
    · split at h
      · cases h; exact ⟨.refl _ _, .inl rfl⟩
      · simp only [Option.map_eq_some_iff] at h
        obtain ⟨s2, h2, h3⟩ := h
        cases h3
        unfold writeN at h2
        split at h2
        · split at h2
          case isFalse => cases h2
          cases h2
          exact ⟨putB_keep, .inl rfl⟩
        · cases h2
    · split at h
      · split at h
        case isFalse => cases h
        cases h
        refine ⟨putB_keep.trans (Ext.push _ (Nat.le_refl _) _).keep, .inr fun c hc => ?_⟩
        cases hc
        exact Nat.le_refl _
      · cases h
  · cases h
theorem Own.keep {N n : Nat} {B : Option Nat} {s t : St} {v : Value} {cs : List Value} (h : Own N n s v cs) (k : Keep B s t) (hb : ∀ c, blkOf v = some c → B ≠ some c) : Own N n t v cs := by
  rcases h with h | ⟨b, len, rfl, h1, h2, h3⟩
  · exact .inl h
  · exact .inr ⟨b, len, rfl, h1, by rw [k.2 b (List.getElem?_eq_some_iff.1 h2).1 (hb b rfl)]; exact h2, h3⟩
theorem Own.blk {N n : Nat} {s : St} {v : Value} {cs : List Value} (h : Own N n s v cs) : ∀ c, blkOf v = some c → N ≤ c ∧ c < s.heap.length := by
  intro c hc
  rcases h with ⟨rfl, _⟩ | ⟨b, len, rfl, h1, h2, h3⟩
  · cases hc
  · cases hc; exact ⟨h1, (List.getElem?_eq_some_iff.1 h2).1⟩
theorem Own.notup {N n : Nat} {s : St} {v : Value} {cs : List Value} (h : Own N n s v cs) : noTup v = true := by
  rcases h with ⟨rfl, _⟩ | ⟨b, len, rfl, _⟩ <;> rfl
end Go.Proofs.YtckpcelchhmjcaaGreat.Ab

/- Things of one's own that hold others: slices in slices, each row of one's own. -/
namespace Go.Proofs.YtckpcelchhmjcaaGreat.Ab
open Go

/-- how a thing lies in cells, whose rows are one's own: blocks from lo on, below hi -/
structure OCod (α : Type) where
  C : NCod α
  own : Nat → Nat → α → St → List Value → Prop
  rel : ∀ {lo hi a s cs}, own lo hi a s cs → C.rel a s cs
  keep : ∀ {lo hi a s t cs}, own lo hi a s cs → (∀ b, lo ≤ b → b < hi → t.heap[b]? = s.heap[b]?) → own lo hi a t cs
  mono : ∀ {lo hi lo' hi' a s cs}, own lo hi a s cs → lo' ≤ lo → hi ≤ hi' → own lo' hi' a s cs
  leaf : ∀ {lo hi a s cs}, own lo hi a s cs → cs.all isLeaf = true

def OList {α : Type} (O : OCod α) (B : Nat) (lo hi : Nat) (l : List α) (s : St) (v : Value) : Prop :=
  l.length * B ≤ reachBytes ∧ ((v = .slice none 0 0 ∧ l = []) ∨ ∃ (b : Nat) (css : List (List Value)), v = .slice (some ⟨b, 0, none⟩) l.length l.length ∧ lo ≤ b ∧ b < hi ∧ 0 < l.length ∧ s.heap[b]? = some (.row O.C.n css.flatten .act) ∧ All2 (fun a c => O.own lo b a s c) l css)

theorem flat_len {α : Type} {O : OCod α} {lo b : Nat} {s : St} : ∀ {l : List α} {css : List (List Value)}, All2 (fun a c => O.own lo b a s c) l css → css.flatten.length = l.length * O.C.n ∧ css.flatten.all isLeaf = true
  | [], [], _ => ⟨by simp, rfl⟩
  | a :: l, c :: css, ⟨h1, h2⟩ => by
    obtain ⟨g1, g2⟩ := flat_len h2
    refine ⟨?_, ?_⟩
    · rw [List.flatten_cons, List.length_append, g1, O.C.len (O.rel h1), List.length_cons, Nat.add_mul]; omega
    · rw [List.flatten_cons, List.all_append, O.leaf h1, g2]; rfl

theorem OList.listN {α : Type} {O : OCod α} {B lo hi : Nat} {l : List α} {s : St} {v : Value} (h : OList O B lo hi l s v) : ListN O.C B l s v := by
  obtain ⟨h1, h2⟩ := h
  refine ⟨h1, ?_⟩
  rcases h2 with h2 | ⟨b, css, g1, _, _, _, g2, g3⟩
  · exact .inl h2
  · exact .inr ⟨b, css, .act, _, g1, g2, by simp, g3.mono fun a c h => O.rel h⟩
theorem OList.keep {α : Type} {O : OCod α} {B lo hi : Nat} {l : List α} {s t : St} {v : Value} (h : OList O B lo hi l s v) (k : ∀ b, lo ≤ b → b < hi → t.heap[b]? = s.heap[b]?) : OList O B lo hi l t v := by
  obtain ⟨h1, h2⟩ := h
  refine ⟨h1, ?_⟩
  rcases h2 with h2 | ⟨b, css, g1, g2, g3, g4, g5, g6⟩
  · exact .inl h2
  · exact .inr ⟨b, css, g1, g2, g3, g4, by rw [k b g2 g3]; exact g5, g6.mono fun a c h => O.keep h fun b' h1 h2 => k b' h1 (by omega)⟩
theorem OList.mono {α : Type} {O : OCod α} {B lo hi lo' hi' : Nat} {l : List α} {s : St} {v : Value} (h : OList O B lo hi l s v) (h1 : lo' ≤ lo) (h2 : hi ≤ hi') : OList O B lo' hi' l s v := by
  obtain ⟨h3, h4⟩ := h
  refine ⟨h3, ?_⟩
  rcases h4 with h4 | ⟨b, css, g1, g2, g3, g4, g5, g6⟩
  · exact .inl h4
  · exact .inr ⟨b, css, g1, by omega, by omega, g4, g5, g6.mono fun a c h => O.mono h h1 (Nat.le_refl _)⟩
theorem OList.leaf {α : Type} {O : OCod α} {B lo hi : Nat} {l : List α} {s : St} {v : Value} (h : OList O B lo hi l s v) : isLeaf v = true := by
  rcases h.2 with ⟨rfl, _⟩ | ⟨b, css, rfl, _⟩ <;> rfl
theorem OList.nil {α : Type} {O : OCod α} {B lo hi : Nat} {s : St} : OList O B lo hi ([] : List α) s (.slice none 0 0) := ⟨by simp, .inl ⟨rfl, rfl⟩⟩
theorem OList.own {α : Type} {O : OCod α} {B lo hi : Nat} {l : List α} {s : St} {v : Value} (h : OList O B lo hi l s v) : ∃ css : List (List Value), Own lo O.C.n s v css.flatten ∧ css.flatten.length = l.length * O.C.n := by
  rcases h.2 with ⟨rfl, rfl⟩ | ⟨b, css, rfl, g2, g3, g4, g5, g6⟩
  · exact ⟨[], .inl ⟨rfl, rfl⟩, by simp⟩
  · have := (flat_len g6).1
    exact ⟨css, .inr ⟨b, l.length, rfl, g2, g5, this, g4⟩, this⟩

namespace OCod
def ofC {α : Type} (C : Cod α) (Pr : α → Prop) : OCod α where
  C := .ofC C Pr
  own _ _ a s cs := cs = C.enc a ∧ Pr a
  rel h := h
  keep h _ := h
  mono h _ _ := h
  leaf h := by rw [h.1]; exact leaf_isLeaf (C.leaf _)
def list {α : Type} (O : OCod α) (B : Nat) : OCod (List α) where
  C := O.C.list B
  own lo hi l s cs := ∃ v, cs = [v] ∧ OList O B lo hi l s v
  rel h := by obtain ⟨v, rfl, h⟩ := h; exact ⟨v, rfl, h.listN⟩
  keep h k := by obtain ⟨v, rfl, h⟩ := h; exact ⟨v, rfl, h.keep k⟩
  mono h h1 h2 := by obtain ⟨v, rfl, h⟩ := h; exact ⟨v, rfl, h.mono h1 h2⟩
  leaf h := by obtain ⟨v, rfl, h⟩ := h; simp [h.leaf]
def unit : OCod Unit where
  C := .unit
  own _ _ _ _ cs := cs = []
  rel h := h
  keep h _ := h
  mono h _ _ := h
  leaf h := by rw [h]; rfl
def pair {α β : Type} (A : OCod α) (B : OCod β) : OCod (α × β) where
  C := A.C.pair B.C
  own lo hi p s cs := ∃ c d m, cs = c ++ d ∧ lo ≤ m ∧ m ≤ hi ∧ A.own lo m p.1 s c ∧ B.own m hi p.2 s d
  rel h := by obtain ⟨c, d, m, rfl, _, _, h1, h2⟩ := h; exact ⟨c, d, rfl, A.rel h1, B.rel h2⟩
  keep h k := by obtain ⟨c, d, m, rfl, g1, g2, h1, h2⟩ := h; exact ⟨c, d, m, rfl, g1, g2, A.keep h1 fun b e1 e2 => k b e1 (by omega), B.keep h2 fun b e1 e2 => k b (by omega) e2⟩
  mono h k1 k2 := by obtain ⟨c, d, m, rfl, g1, g2, h1, h2⟩ := h; exact ⟨c, d, m, rfl, by omega, by omega, A.mono h1 k1 (Nat.le_refl _), B.mono h2 (Nat.le_refl _) k2⟩
  leaf h := by obtain ⟨c, d, m, rfl, _, _, h1, h2⟩ := h; rw [List.all_append, A.leaf h1, B.leaf h2]; rfl
def map {α β : Type} (A : OCod α) (f : β → α) : OCod β where
  C := A.C.map f
  own lo hi b s cs := A.own lo hi (f b) s cs
  rel h := A.rel h
  keep h k := A.keep h k
  mono h h1 h2 := A.mono h h1 h2
  leaf h := A.leaf h
end OCod

/-- one more element: the row is a new one -/
theorem own_push {N n w : Nat} {s : St} {x : Value} {cells z : List Value} {v : Value} (h : Own N n s x cells) (hN : N ≤ s.heap.length) (hw : 0 < w) (hn : 0 < n) (hn2 : n ≤ 16777216) (hz : z.length = n) (hzl : z.all isLeaf = true) (hv : (cellsV v).length = n) (hvl : (cellsV v).all isLeaf = true) {len : Nat} (hlen : cells.length = len * n)
    (hb : (len + 1) * w ≤ 140737488355328) : ∃ r, abuildSl n z 1 [(0, v)] s = some r ∧ ∃ b t, aappend n w x r.1 r.2 = some (.slice (some ⟨b, 0, none⟩) (len + 1) (len + 1), t) ∧ t.heap[b]? = some (.row n (cells ++ cellsV v) .act) ∧ s.heap.length ≤ b ∧ t.heap.length = b + 1 ∧ Keep (blkOf x) s t := by
  have h1 : abuildSl n z 1 [(0, v)] s = some (.slice (some ⟨s.heap.length, 0, none⟩) 1 1, s.push (.row n (cellsV v) .act)) := by
    have hrep : repCells z 1 = z := by simp [repCells]
    have hput : putCells z 0 (cellsV v) = cellsV v := by simp [putCells, hv, hz]
    unfold abuildSl
    rw [if_pos ⟨by omega, hz, hzl⟩]
    simp only [hrep, afill, placeA, Nat.zero_mul]
    rw [if_pos ⟨hv, by omega, hvl⟩, hput]
    rfl
  refine ⟨_, h1, ?_⟩
  have hcells : cellsOf n (.slice (some ⟨s.heap.length, 0, none⟩) 1 1) (s.push (.row n (cellsV v) .act)) = some (cellsV v) := by
    simp only [cellsOf, Nat.le_refl, if_true, readN, Ab.readRow, push_get, Option.bind_some]
    rw [if_pos (by omega), List.drop_zero, Nat.one_mul, ← hv, List.take_length]
  have hroom : roomA (len + 1) w := .inl hb
  have hk0 : Keep (blkOf x) s (s.push (.row n (cellsV v) .act)) := (Ext.push _ (Nat.le_refl _) _).keep
  unfold aappend
  rw [if_pos hw]
  simp only [lenV, Option.bind_some, elems_of hcells]
  rcases h with ⟨rfl, rfl⟩ | ⟨b, len', rfl, g1, g2, g3, g4⟩
  · have hl0 : len = 0 := by
      have : len * n = 0 := by simpa using hlen.symm
      rcases Nat.mul_eq_zero.1 this with h | h <;> omega
    subst hl0
    simp only
    rw [if_pos (by simpa using hroom), if_neg (by omega)]
    refine ⟨_, _, rfl, by simpa using push_get, by rw [push_len]; omega, push_len, hk0.trans (Ext.push _ (Nat.le_refl _) _).keep⟩
  · obtain rfl : len' = len := Nat.eq_of_mul_eq_mul_right hn (by omega)
    simp only
    have hbl : b < s.heap.length := (List.getElem?_eq_some_iff.1 g2).1
    rw [if_pos hroom, if_neg (by omega), push_old hbl, g2]
    simp only
    rw [if_pos ⟨trivial, trivial, by omega⟩]
    refine ⟨_, _, rfl, ?_, by rw [push_len]; omega, ?_, ?_⟩
    · have e : (s.push (.row n (cellsV v) .act)).heap.length = ((s.push (.row n (cellsV v) .act)).putB b (.row n cells .dead)).heap.length := by simp [St.putB]
      rw [e]
      exact push_get
    · rw [push_len]; simp [St.putB]
    · refine hk0.trans ((putB_keep (b := b)).trans (Ext.push _ (Nat.le_refl _) _).keep)
theorem All2.snoc {α β : Type} {R : α → β → Prop} : ∀ {l : List α} {m : List β} {a : α} {b : β}, All2 R l m → R a b → All2 R (l ++ [a]) (m ++ [b])
  | [], [], _, _, _, h => ⟨h, trivial⟩
  | _ :: _, _ :: _, _, _, ⟨h1, h2⟩, h => ⟨h1, All2.snoc h2 h⟩
theorem OList.push {α : Type} {O : OCod α} {B lo hi m n w : Nat} {l : List α} {a : α} {s0 s : St} {x : Value} {z : List Value} {v : Value} (h : OList O B lo hi l s x) (hhi : hi ≤ m) (hm : m ≤ s.heap.length) (hlo : lo ≤ hi) (ha : O.own m s.heap.length a s (cellsV v))
    (hw : 0 < w) (hn : n = O.C.n) (hpos : 0 < n) (hn2 : n ≤ 16777216) (hz : z.length = n) (hzl : z.all isLeaf = true) (hb : (l.length + 1) * w ≤ 140737488355328) (hb2 : (l.length + 1) * B ≤ reachBytes) :
    ∃ r, abuildSl n z 1 [(0, v)] s = some r ∧ ∃ v' t, aappend n w x r.1 r.2 = some (v', t) ∧ OList O B lo t.heap.length (l ++ [a]) t v' ∧ s.heap.length ≤ t.heap.length ∧ (∀ b, b < s.heap.length → (b < lo ∨ hi ≤ b) → t.heap[b]? = s.heap[b]?) ∧ noTup v' = true := by
  subst hn
  have hv : (cellsV v).length = O.C.n := O.C.len (O.rel ha)
  obtain ⟨css, hown, hlen, hall, hblk⟩ : ∃ css : List (List Value), Own lo O.C.n s x css.flatten ∧ css.flatten.length = l.length * O.C.n ∧ (∀ b', s.heap.length ≤ b' → ∀ t : St, Keep (blkOf x) s t → All2 (fun a c => O.own lo b' a t c) l css) ∧ (∀ c, blkOf x = some c → lo ≤ c ∧ c < hi) := by
    rcases h.2 with ⟨rfl, rfl⟩ | ⟨b, css, rfl, g2, g3, g4, g5, g6⟩
    · exact ⟨[], .inl ⟨rfl, rfl⟩, by simp, fun _ _ _ _ => trivial, fun c hc => by cases hc⟩
    · have := (flat_len g6).1
      refine ⟨css, .inr ⟨b, l.length, rfl, g2, g5, this, g4⟩, this, fun b' hb' t k => g6.mono fun a c h => O.mono (O.keep h fun b2 h1 h2 => k.2 b2 (by omega) fun e => by have e2 : b = b2 := Option.some.inj e; omega) (Nat.le_refl _) (by omega), fun c hc => by cases hc; exact ⟨g2, g3⟩⟩
  obtain ⟨r, h1, b, t, h2, h3, h4, h5, h6⟩ := own_push (w := w) hown (by omega) hw hpos hn2 hz hzl hv (O.leaf ha) hlen hb
  refine ⟨r, h1, _, t, h2, ⟨by simpa using hb2, .inr ⟨b, css ++ [cellsV v], by simp, by omega, by omega, by simp, by simpa using h3, ?_⟩⟩, h6.1, fun c hc hor => h6.2 c hc fun e => ?_, rfl⟩
  · refine (hall b h4 t h6).snoc (O.mono (O.keep ha fun b2 g1 g2 => h6.2 b2 g2 fun e => ?_) (by omega) h4)
    have := (hblk b2 e).2
    omega
  · have := hblk c e
    omega

end Go.Proofs.YtckpcelchhmjcaaGreat.Ab

/- Readers: a row of one's own with what is left of some bytes and the first error; what reads is told by a parser. -/
namespace Go.Proofs.YtckpcelchhmjcaaGreat.Ab
open Go

/-! ### Parsers -/
def Par (α : Type) := List UInt8 → Except Int (α × List UInt8)
namespace Par
def pure {α : Type} (a : α) : Par α := fun r => .ok (a, r)
def fail {α : Type} (e : Int) : Par α := fun _ => .error e
def bind {α β : Type} (p : Par α) (q : α → Par β) : Par β := fun r => match p r with
  | .ok (a, r') => q a r'
  | .error e => .error e
def map {α β : Type} (p : Par α) (f : α → β) : Par β := p.bind fun a => .pure (f a)
def rep {α : Type} (p : Par α) : Nat → Par (List α)
  | 0 => .pure []
  | k + 1 => p.bind fun a => (rep p k).bind fun l => .pure (a :: l)
end Par
/-- a reader goes from x (what is left, the first error) to y, and gives a -/
structure Does {α : Type} (p : Par α) (x : List UInt8 × Int) (a : α) (y : List UInt8 × Int) : Prop where
  err : x.2 ≠ 0 → y.2 = x.2
  ok : x.2 = 0 → ∀ a0 r0, p x.1 = .ok (a0, r0) → y = (r0, 0) ∧ a = a0
  bad : x.2 = 0 → ∀ e, p x.1 = .error e → y.2 = e ∧ e ≠ 0
section
variable {α β : Type} {x y z : List UInt8 × Int} {a : α} {b : β}
theorem Does.pure {a : α} : Does (.pure a) x a x := ⟨fun _ => rfl, fun h a0 r0 h1 => by cases h1; exact ⟨by rw [← h], rfl⟩, fun _ e h => by cases h⟩
theorem Does.bind {p : Par α} {q : α → Par β} (h : Does p x a y) (g : Does (q a) y b z) : Does (p.bind q) x b z := by
  refine ⟨fun hx => ?_, fun hx a0 r0 h1 => ?_, fun hx e h1 => ?_⟩
  · have := h.err hx
    rw [g.err (by rw [this]; exact hx), this]
  · unfold Par.bind at h1
    cases hp : p x.1 with
    | error e => rw [hp] at h1; cases h1
    | ok t =>
      obtain ⟨a1, r1⟩ := t
      rw [hp] at h1
      obtain ⟨rfl, rfl⟩ := h.ok hx a1 r1 hp
      exact g.ok rfl a0 r0 h1
  · unfold Par.bind at h1
    cases hp : p x.1 with
    | error e' =>
      rw [hp] at h1
      cases h1
      obtain ⟨h2, h3⟩ := h.bad hx e hp
      rw [g.err (by rw [h2]; exact h3), h2]
      exact ⟨rfl, h3⟩
    | ok t =>
      obtain ⟨a1, r1⟩ := t
      rw [hp] at h1
      obtain ⟨rfl, rfl⟩ := h.ok hx a1 r1 hp
      exact g.bad rfl e h1
theorem Does.map {p : Par α} {f : α → β} (h : Does p x a y) : Does (p.map f) x (f a) y := h.bind .pure
theorem Does.cons {p : Par α} {k : Nat} {m : List α} (h : Does p x a y) (g : Does (p.rep k) y m z) : Does (p.rep (k + 1)) x (a :: m) z := h.bind (g.bind .pure)
theorem Does.fail {e : Int} (he : e ≠ 0) (h : y.2 = if x.2 = 0 then e else x.2) : Does (.fail e) x a y := by
  refine ⟨fun hx => (by rw [h, if_neg hx]), fun _ _ _ h => (by cases h), fun hx e' h1 => ?_⟩
  have e1 : e = e' := by injection h1
  subst e1
  rw [h, if_pos hx]
  exact ⟨rfl, he⟩
theorem Does.same {p : Par α} {a1 a2 : α} {x y1 y2 : List UInt8 × Int} (h : Does p x a1 y1) (g : Does p x a2 y2) (hx : x.2 = 0) : y1.2 = y2.2 ∧ (y1.2 = 0 → a1 = a2 ∧ y1 = y2) := by
  cases hp : p x.1 with
  | error e =>
    obtain ⟨h1, h2⟩ := h.bad hx e hp
    obtain ⟨g1, g2⟩ := g.bad hx e hp
    exact ⟨by rw [h1, g1], fun h => absurd (h1 ▸ h) h2⟩
  | ok t =>
    obtain ⟨a0, r0⟩ := t
    obtain ⟨rfl, rfl⟩ := h.ok hx a0 r0 hp
    obtain ⟨rfl, rfl⟩ := g.ok hx _ r0 hp
    exact ⟨rfl, fun _ => ⟨rfl, rfl⟩⟩
end

/-! ### The reader in memory -/
abbrev rp (N : Nat) : Value := .pointer (some ⟨N, 0, none⟩)
structure RdV (N : Nat) (s : St) (v : Value) (x : List UInt8 × Int) : Prop where
  blk : s.heap[N]? = some (.row 0 [v, .int .i64 x.2] .act)
  byt : bytesOf v s = some x.1
  apart : ∀ c, blkOf v = some c → c < N
  small : x.1.length ≤ 140737488355328
def Rd (N : Nat) (s : St) (x : List UInt8 × Int) : Prop := ∃ v, RdV N s v x
def setR (N : Nat) (v : Value) (e : Int) (s : St) : St := s.putB N (.row 0 [v, .int .i64 e] .act)
section
variable {N : Nat} {s t : St} {v u : Value} {x : List UInt8 × Int}
theorem RdV.lt (h : RdV N s v x) : N < s.heap.length := (List.getElem?_eq_some_iff.1 h.blk).1
theorem RdV.row (h : RdV N s v x) : readRow s N = some [v, .int .i64 x.2] := by unfold Ab.readRow; rw [h.blk]
theorem blk_slice {v : Value} {s : St} {l : List UInt8} (h : bytesOf v s = some l) : isLeaf v = true ∧ cellsV v = [v] ∧ noTup v = true := by
  unfold bytesOf at h
  simp only [Option.bind_eq_some_iff] at h
  obtain ⟨cs, h1, _⟩ := h
  obtain ⟨a, len, cap, rfl, _⟩ := cellsOf_len h1
  exact ⟨rfl, rfl, rfl⟩
theorem RdV.st0 (h : RdV N s v x) (h1 : isLeaf u = true) (h2 : cellsV u = [u]) : astore 1 (rp N) u s = some (setR N u x.2 s) := by
  simp [astore, h1, h2, writeN, h.blk, putCells, setR]
theorem keep_bytes {B : Nat} (h : Keep (some B) s t) {l : List UInt8} (hv : bytesOf v s = some l) (hb : blkOf v ≠ some B) : bytesOf v t = some l := by
  unfold bytesOf at hv ⊢
  simp only [Option.bind_eq_some_iff] at hv ⊢
  obtain ⟨cs, h1, h2⟩ := hv
  refine ⟨cs, ?_, h2⟩
  unfold cellsOf at h1 ⊢
  split at h1
  · exact h1
  · rename_i b o len cap
    split at h1
    case isFalse => cases h1
    rename_i hlc
    rw [if_pos hlc]
    unfold readN at h1 ⊢
    have hbb : b ≠ B := fun e => hb (by rw [e]; rfl)
    cases hr : readRow s b with
    | none => rw [hr] at h1; cases h1
    | some row =>
      have : readRow t b = readRow s b := by unfold Ab.readRow; rw [h.2 b (readRow_lt hr) (fun e => hbb (Option.some.inj e).symm)]
      rw [this]
      exact h1
  · cases h1
theorem setR_keep {e : Int} : Keep (some N) s (setR N u e s) := putB_keep
theorem RdV.set (h : RdV N s v x) {y : List UInt8 × Int} (hu : bytesOf u s = some y.1) (ha : ∀ c, blkOf u = some c → c < N) (hl : y.1.length ≤ 140737488355328) : RdV N (setR N u y.2 s) u y := ⟨putB_get h.lt, keep_bytes setR_keep hu (fun e => Nat.lt_irrefl _ (ha _ e)), ha, hl⟩
theorem bytes_drop {l : List UInt8} (h : bytesOf v s = some l) {i : Nat} (hi : i ≤ l.length) {k : IntKind} : ∃ u, asliceV 1 v (some (.int k (i : Int))) none none = some u ∧ bytesOf u s = some (l.drop i) ∧ ∀ c, blkOf u = some c → blkOf v = some c := by
  obtain ⟨u, h1, h2⟩ := bytes_slice h (lo := some (.int k (i : Int))) (hi := none) (mx := none) (i := i) (j := l.length) (by simp [abound]) rfl hi (Nat.le_refl _) (.inl rfl)
  refine ⟨u, h1, by rw [h2, List.take_of_length_le (by simp)], fun c hc => ?_⟩
  unfold asliceV at h1
  split at h1
  case h_2 => cases h1
  rename_i a len cap
  unfold asliceSl at h1
  split at h1
  case isFalse => cases h1
  simp only [Option.bind_eq_some_iff] at h1
  obtain ⟨m, _, hh, _, ll, _, h1⟩ := h1
  split at h1
  case isFalse => cases h1
  unfold cutRow at h1
  split at h1
  · cases h1; cases hc
  · cases h1; exact hc
  · cases h1
/-- what is left is less -/
theorem RdV.drop (h : RdV N s v x) {i : Nat} (hi : i ≤ x.1.length) {k : IntKind} : ∃ u, asliceV 1 v (some (.int k (i : Int))) none none = some u ∧ astore 1 (rp N) u s = some (setR N u x.2 s) ∧ Rd N (setR N u x.2 s) (x.1.drop i, x.2) := by
  obtain ⟨u, h1, h2, h3⟩ := bytes_drop h.byt hi (k := k)
  obtain ⟨g1, g2, _⟩ := blk_slice h2
  refine ⟨u, h1, h.st0 g1 g2, u, h.set (y := (x.1.drop i, x.2)) h2 (fun c e => h.apart c (h3 _ e)) (by have := h.small; simp; omega)⟩
end
theorem bytes_same {s t : St} {v : Value} {l : List UInt8} (h : bytesOf v s = some l) (k : ∀ c, blkOf v = some c → t.heap[c]? = s.heap[c]?) : bytesOf v t = some l := by
  unfold bytesOf at h ⊢
  simp only [Option.bind_eq_some_iff] at h ⊢
  obtain ⟨cs, h1, h2⟩ := h
  refine ⟨cs, ?_, h2⟩
  unfold cellsOf at h1 ⊢
  split at h1
  · exact h1
  · rename_i b o len cap
    split at h1
    case isFalse => cases h1
    rename_i hlc
    rw [if_pos hlc]
    unfold readN Ab.readRow at h1 ⊢
    rw [k b rfl]
    exact h1
  · cases h1
theorem Rd.keep {N : Nat} {s t : St} {x : List UInt8 × Int} (h : Rd N s x) (k : ∀ b, b ≤ N → t.heap[b]? = s.heap[b]?) : Rd N t x := by
  obtain ⟨v, h⟩ := h
  exact ⟨v, ⟨by rw [k N (Nat.le_refl _)]; exact h.blk, bytes_same h.byt fun c hc => k c (Nat.le_of_lt (h.apart c hc)), h.apart, h.small⟩⟩
theorem Rd.ext {N : Nat} {s t : St} {x : List UInt8 × Int} (h : Rd N s x) (k : Ext s.heap.length s t) : Rd N t x := h.keep fun b hb => k.2 b (by obtain ⟨v, h⟩ := h; have := h.lt; omega)
theorem Rd.lt {N : Nat} {s : St} {x : List UInt8 × Int} (h : Rd N s x) : N < s.heap.length := by obtain ⟨v, h⟩ := h; exact h.lt

/-! ### What reads -/
def Shape (ag : Bool) (u : Value) (cs : List Value) : Prop := match ag with
  | true => u = .agg cs.toArray
  | false => cs = [u]
theorem Shape.cells {ag : Bool} {u : Value} {cs : List Value} (h : Shape ag u cs) (hl : cs.all isLeaf = true) : cellsV u = cs ∧ noTup u = true := by
  cases ag with
  | true =>
    have h : u = .agg cs.toArray := h
    subst h
    exact ⟨by simp [cellsV], rfl⟩
  | false =>
    have h : cs = [u] := h
    subst h
    simp at hl
    cases u <;> first | exact ⟨rfl, rfl⟩ | (simp [isLeaf] at hl)
def Reads {α : Type} (N : Nat) (f : St → Option (Value × St)) (ag : Bool) (O : OCod α) (p : Par α) : Prop :=
  ∀ (s : St) (x : List UInt8 × Int), Rd N s x → ∃ (a : α) (u : Value) (cs : List Value) (s' : St) (y : List UInt8 × Int), f s = some (u, s') ∧ Rd N s' y ∧ Keep (some N) s s' ∧ Shape ag u cs ∧ O.own s.heap.length s'.heap.length a s' cs ∧ Does p x a y
/-- of the blocks below M none but N has changed -/
def FrM (N M : Nat) (s t : St) : Prop := s.heap.length ≤ t.heap.length ∧ ∀ c, c < M → c ≠ N → t.heap[c]? = s.heap[c]?
theorem FrM.refl (N M : Nat) (s : St) : FrM N M s s := ⟨Nat.le_refl _, fun _ _ _ => rfl⟩
theorem FrM.trans {N M : Nat} {s t u : St} (h : FrM N M s t) (g : FrM N M t u) : FrM N M s u := ⟨Nat.le_trans h.1 g.1, fun c h1 h2 => (g.2 c h1 h2).trans (h.2 c h1 h2)⟩
theorem FrM.keep {N : Nat} {s t : St} (h : FrM N s.heap.length s t) : Keep (some N) s t := ⟨h.1, fun c h1 h2 => h.2 c h1 fun e => h2 (by rw [e])⟩
theorem FrM.ext {N M : Nat} {s t : St} (h : Ext s.heap.length s t) (hM : M ≤ s.heap.length) : FrM N M s t := ⟨h.1, fun c h1 h2 => h.2 c (by omega)⟩
theorem putB_ne {s : St} {b c : Nat} {B : Blk} (h : c ≠ b) : (s.putB b B).heap[c]? = s.heap[c]? := by simp only [St.putB]; rw [List.getElem?_set_ne (by omega)]
theorem Rd.put {N b : Nat} {s : St} {B : Blk} {x : List UInt8 × Int} (h : Rd N s x) (hb : N < b) : Rd N (s.putB b B) x := h.keep fun c hc => putB_ne (by omega)
theorem Rd.push {N : Nat} {s : St} {B : Blk} {x : List UInt8 × Int} (h : Rd N s x) : Rd N (s.push B) x := h.keep fun c hc => push_old (by have := h.lt; omega)
theorem ld_cell {s : St} {B n i : Nat} {cells : List Value} {st : Stat} {c : Value} (h : s.heap[B]? = some (.row n cells st)) (hst : st ≠ .dead) (hc : cells[i]? = some c) : aload false 1 (.pointer (some ⟨B, i, none⟩)) s = some c := by
  have : readRow s B = some cells := by
    unfold Ab.readRow
    rw [h]
    cases st with
    | dead => exact absurd rfl hst
    | act => rfl
    | ro => rfl
  simp [aload, this, hc]
theorem st_cell {s : St} {B n i : Nat} {cells : List Value} {v : Value} (h : s.heap[B]? = some (.row n cells .act)) (hi : i < cells.length) (hv : isLeaf v = true) (hc : cellsV v = [v]) : astore 1 (.pointer (some ⟨B, i, none⟩)) v s = some (s.putB B (.row n (cells.set i v) .act)) := by
  have hput : putCells cells i [v] = cells.set i v := by
    unfold putCells
    rw [List.set_eq_take_append_cons_drop, if_pos hi]
    simp
  simp [astore, hc, hv, writeN, h, hput, Nat.succ_le_of_lt hi]
/-! ### Numbers that are none below nothing -/
end Go.Proofs.YtckpcelchhmjcaaGreat.Ab

/- Lists that are looked through: whether one has something; whether they rise. -/
namespace Go.Proofs.YtckpcelchhmjcaaGreat.Ab
open Go

theorem listN_leafR {α : Type} {C : NCod α} {B : Nat} {l : List α} {s : St} {v : Value} (h : ListN C B l s v) : isLeaf v = true := by
  rcases h.2 with ⟨rfl, _⟩ | ⟨b, css, st, k, rfl, _⟩ <;> rfl
theorem listN_lenR {α : Type} {C : NCod α} {B : Nat} {l : List α} {s : St} {v : Value} (h : ListN C B l s v) (t : TypeId) (s2 : St) : alenV (.slice t) v s2 = some (.int .i64 ((l.length : Nat) : Int)) := by
  rcases h.2 with ⟨rfl, rfl⟩ | ⟨b, css, st, k, rfl, _⟩ <;> rfl
theorem flatN {α : Type} {C : NCod α} {s : St} : ∀ {l : List α} {css : List (List Value)}, All2 (fun a c => C.rel a s c) l css → css.flatten.length = l.length * C.n ∧ ∀ (i : Nat) (hi : i < l.length), ∃ c, (css.flatten.drop (i * C.n)).take C.n = c ∧ C.rel l[i] s c
  | [], [], _ => ⟨by simp, fun i hi => by simp at hi⟩
  | a :: l, c :: css, ⟨h1, h2⟩ => by
    have hl := C.len h1
    obtain ⟨g1, g2⟩ := flatN h2
    refine ⟨by rw [List.flatten_cons, List.length_append, g1, hl, List.length_cons, Nat.add_mul]; omega, fun i hi => ?_⟩
    cases i with
    | zero => exact ⟨c, by rw [List.flatten_cons, Nat.zero_mul, List.drop_zero, ← hl, List.take_left], h1⟩
    | succ i =>
      obtain ⟨c', e1, e2⟩ := g2 i (by simpa using hi)
      refine ⟨c', ?_, e2⟩
      rw [List.flatten_cons, Nat.add_mul, Nat.one_mul, ← hl, Nat.add_comm, ← List.drop_drop, List.drop_left, hl]
      exact e1
theorem listN_row {α : Type} {C : NCod α} {B : Nat} {l : List α} {s : St} {v : Value} (h : ListN C B l s v) {i : Nat} (hi : i < l.length) : ∃ (b : Nat) (cells : List Value) (c : List Value), v = .slice (some ⟨b, 0, none⟩) l.length l.length ∧ readRow s b = some cells ∧ cells.length = l.length * C.n ∧ (cells.drop (i * C.n)).take C.n = c ∧ C.rel l[i] s c := by
  rcases h.2 with ⟨rfl, rfl⟩ | ⟨b, css, st, k, rfl, h2, h3, h4⟩
  · simp at hi
  · obtain ⟨g1, g2⟩ := flatN h4
    obtain ⟨c, e1, e2⟩ := g2 i hi
    refine ⟨b, css.flatten, c, rfl, ?_, g1, e1, e2⟩
    unfold Ab.readRow
    rw [h2]
    cases st with
    | dead => exact absurd rfl h3
    | act => rfl
    | ro => rfl
/-- an element is loaded -/
theorem listN_get {α : Type} {C : NCod α} {B : Nat} {l : List α} {s : St} {v : Value} (h : ListN C B l s v) {i : Nat} (hi : i < l.length) {n : Nat} (hn : n = C.n) {ag : Bool} (hag : ag = true ∨ n = 1) : ∃ p u cs, aindexS n v (.int .i64 (i : Int)) = some p ∧ aload ag n p s = some u ∧ aload ag n p (frzS s) = some u ∧ Shape ag u cs ∧ C.rel l[i] s cs := by
  subst hn
  obtain ⟨b, cells, c, rfl, h1, h2, h3, h4⟩ := listN_row h hi
  have h1f : readRow (frzS s) b = some cells := by rw [readRow_frz]; exact h1
  have hle : (i + 1) * C.n ≤ cells.length := by rw [h2]; exact Nat.mul_le_mul_right _ hi
  rw [Nat.add_mul, Nat.one_mul] at hle
  have hidx : aindexS C.n (.slice (some ⟨b, 0, none⟩) l.length l.length) (.int .i64 (i : Int)) = some (.pointer (some ⟨b, i * C.n, none⟩)) := by simp [aindexS]; omega
  have hcl := C.len h4
  cases ag with
  | true =>
    refine ⟨_, .agg c.toArray, c, hidx, ?_, ?_, rfl, h4⟩
    · simp only [aload, if_true, readN, h1, Option.bind_some]
      rw [if_pos hle, h3]
      rfl
    · simp only [aload, if_true, readN, h1f, Option.bind_some]
      rw [if_pos hle, h3]
      rfl
  | false =>
    have hn1 : C.n = 1 := by
      rcases hag with h | h
      · cases h
      · exact h
    rw [hn1] at hcl
    obtain ⟨x, rfl⟩ := List.length_eq_one_iff.1 hcl
    have hx : cells[i * C.n]? = some x := by
      have := congrArg (fun l => l[0]?) h3
      rw [hn1] at this
      simpa [hn1] using this
    refine ⟨_, x, [x], hidx, ?_, ?_, rfl, h4⟩
    · simp only [aload, Bool.false_eq_true, if_false, h1, Option.bind_some, hx]
    · simp only [aload, Bool.false_eq_true, if_false, h1f, Option.bind_some, hx]

/-! ### Whether there is one -/
/-- what a function says of an element, at whatever later time -/
def Asks {α : Type} (R : Caller) (C : NCod α) (ag : Bool) (s0 : St) (l : List α) (fv : Value) (p : α → Bool) : Prop :=
  ∀ a ∈ l, ∀ t u cs, Ext s0.heap.length s0 t → C.rel a t cs → Shape ag u cs → ∃ t', callV Tryz.prog R fv [u] t = some (.bool (p a), t') ∧ Ext t.heap.length t t'
noncomputable def idxFB (n : Nat) (ag : Bool) (R : Caller) (T : List Value) (s : St) : Res :=
(abin Tryz.prog .lss 3 (.tmp 8) (.tmp 7) (getL T 3) (getL T 2)).bind fun v1 =>
condV v1
 ((aindexS n (getL T 0) (getL T 3)).bind fun v2 =>
(aload ag n v2 s).bind fun v3 =>
(callV Tryz.prog R (getL T 1) [v3] s).bind fun r4 =>
condV r4.1
 (some (.ret, [(getL T 3)], r4.2))
 ((abin Tryz.prog .add 3 (.tmp 8) (.const (.int .i64 1)) (getL T 3) (.int .i64 1)).bind fun v5 =>
some (.normal, [(getL T 0), (getL T 1), (getL T 2), v5], r4.2)))
 (some (.exit 0, [], s))
def idxP {α : Type} (p : α → Bool) : Nat → List α → Option Nat
  | _, [] => none
  | i, a :: l => if p a = true then some i else idxP p (i + 1) l
theorem idxP_any {α : Type} {p : α → Bool} : ∀ {l : List α} {i : Nat}, (idxP p i l).isSome = l.any p
  | [], _ => rfl
  | a :: l, i => by
    simp only [idxP, List.any_cons]
    cases p a with
    | true => rfl
    | false => simpa using idxP_any (l := l) (i := i + 1)
theorem idx_loop {α : Type} {R : Caller} {C : NCod α} {n : Nat} {ag : Bool} (hn : n = C.n) (hag : ag = true ∨ n = 1) {B : Nat} {s0 : St} {v fv : Value} {l : List α} {p : α → Bool} (h : ListN C B l s0 v) (hl : l.length < 140737488355328) (hp : Asks R C ag s0 l fv p) : ∀ (rest : List α) (i : Nat) (s : St), l.drop i = rest → i ≤ l.length → Ext s0.heap.length s0 s →
    ∃ t, loopL (idxFB n ag R) [v, fv, .int .i64 ((l.length : Nat) : Int), .int .i64 (i : Int)] s = (match idxP p i rest with | some k => some (.ret, [.int .i64 (k : Int)], t) | none => some (.exit 0, [], t)) ∧ Ext s0.heap.length s0 t := by
  intro rest
  induction rest with
  | nil =>
    intro i s hi hle hx
    have h1 : decide ((i : Int) < ((l.length : Nat) : Int)) = false := by
      have := List.drop_eq_nil_iff.1 hi
      simp; omega
    refine ⟨s, ?_, hx⟩
    rw [loopL_eq]
    simp only [idxFB, h1, idxP, n_bind, n_map, getL_0, getL_1, getL_2, getL_3, getL_4, getL_5, getL_6, getL_7, getL_8, getL_9, getL_10, getL_11, getL_12, condV_t, condV_f, guardV_tt, guardV_ff, guardV_tf, guardV_ft, guardV_u, apick_t, apick_f, exV_exit, exV_ret, lookE_same, joinK_eq, seqA_n, seqA_e, seqA_r, e_add, e_sub, e_mul, e_eql, e_neq, e_lss, e_leq, e_gtr, e_geq, e_conv, e_not, e_neg, and_guard, or_guard]
  | cons a rest ih =>
    intro i s hi hle hx
    obtain ⟨hlt, he, hd⟩ := drop_nx hi
    have h1 : decide ((i : Int) < ((l.length : Nat) : Int)) = true := by simp; omega
    obtain ⟨q, u, cs, h2, h3, _, h4, h5⟩ := listN_get (h.ext hx) hlt hn hag
    rw [he] at h5
    obtain ⟨t, g1, g2⟩ := hp a (by rw [← he]; exact List.getElem_mem _) s u cs hx h5 h4
    rcases Bool.eq_false_or_eq_true (p a) with c | c
    · refine ⟨t, ?_, hx.trans (g2.less hx.1)⟩
      rw [loopL_eq]
      simp only [idxFB, h1, h2, h3, g1, c, idxP, if_true, n_bind, n_map, getL_0, getL_1, getL_2, getL_3, getL_4, getL_5, getL_6, getL_7, getL_8, getL_9, getL_10, getL_11, getL_12, condV_t, condV_f, guardV_tt, guardV_ff, guardV_tf, guardV_ft, guardV_u, apick_t, apick_f, exV_exit, exV_ret, lookE_same, joinK_eq, seqA_n, seqA_e, seqA_r, e_add, e_sub, e_mul, e_eql, e_neq, e_lss, e_leq, e_gtr, e_geq, e_conv, e_not, e_neg, and_guard, or_guard]
    · obtain ⟨t2, f1, f2⟩ := ih (i + 1) t hd (by omega) (hx.trans (g2.less hx.1))
      refine ⟨t2, ?_, f2⟩
      rw [loopL_eq]
      simp only [idxFB, h1, h2, h3, g1, c, idxP, Bool.false_eq_true, if_false, inc_i (show i < 140737488355328 by omega), n_bind, n_map, getL_0, getL_1, getL_2, getL_3, getL_4, getL_5, getL_6, getL_7, getL_8, getL_9, getL_10, getL_11, getL_12, condV_t, condV_f, guardV_tt, guardV_ff, guardV_tf, guardV_ft, guardV_u, apick_t, apick_f, exV_exit, exV_ret, lookE_same, joinK_eq, seqA_n, seqA_e, seqA_r, e_add, e_sub, e_mul, e_eql, e_neq, e_lss, e_leq, e_gtr, e_geq, e_conv, e_not, e_neg, and_guard, or_guard]
      exact f1
/-- both functions, whatever they are called -/
theorem contains_gen {α : Type} {R : Caller} {C : NCod α} {n : Nat} {ag : Bool} (hn : n = C.n) (hag : ag = true ∨ n = 1) {B : Nat} {s0 : St} {v fv : Value} {l : List α} {p : α → Bool} {t1 : TypeId} (h : ListN C B l s0 v) (hl : l.length < 140737488355328) (hp : Asks R C ag s0 l fv p) :
    ∃ (k : Int) (t : St), ((alenV (.slice t1) v s0).bind fun v0 => (loopL (idxFB n ag R) [v, fv, v0, (.int .i64 0)] s0).bind fun r6 => exV r6.1 [(0, retV [(.int .i64 (-1))] r6.2.2)] (retV [(getL r6.2.1 0)] r6.2.2)) = some (.int .i64 k, t) ∧ decide (k ≥ 0) = l.any p ∧ Ext s0.heap.length s0 t := by
  obtain ⟨t, h1, h2⟩ := idx_loop hn hag h hl hp l 0 s0 rfl (Nat.zero_le _) (.refl _ _)
  rw [show ((0 : Nat) : Int) = 0 from rfl] at h1
  have ha := idxP_any (p := p) (l := l) (i := 0)
  cases hk : idxP p 0 l with
  | none =>
    rw [hk] at h1 ha
    refine ⟨-1, t, ?_, by rw [← ha]; rfl, h2⟩
    simp only [listN_lenR h, h1, ret_1 (v := .int .i64 (-1)) rfl, n_bind, n_map, getL_0, getL_1, getL_2, getL_3, getL_4, getL_5, getL_6, getL_7, getL_8, getL_9, getL_10, getL_11, getL_12, condV_t, condV_f, guardV_tt, guardV_ff, guardV_tf, guardV_ft, guardV_u, apick_t, apick_f, exV_exit, exV_ret, lookE_same, joinK_eq, seqA_n, seqA_e, seqA_r, e_add, e_sub, e_mul, e_eql, e_neq, e_lss, e_leq, e_gtr, e_geq, e_conv, e_not, e_neg, and_guard, or_guard]
  | some k =>
    rw [hk] at h1 ha
    refine ⟨(k : Int), t, ?_, by rw [← ha]; simp, h2⟩
    simp only [listN_lenR h, h1, ret_1 (v := .int .i64 (k : Int)) rfl, n_bind, n_map, getL_0, getL_1, getL_2, getL_3, getL_4, getL_5, getL_6, getL_7, getL_8, getL_9, getL_10, getL_11, getL_12, condV_t, condV_f, guardV_tt, guardV_ff, guardV_tf, guardV_ft, guardV_u, apick_t, apick_f, exV_exit, exV_ret, lookE_same, joinK_eq, seqA_n, seqA_e, seqA_r, e_add, e_sub, e_mul, e_eql, e_neq, e_lss, e_leq, e_gtr, e_geq, e_conv, e_not, e_neg, and_guard, or_guard]

/-! ### Whether they rise -/
def risesK {α : Type} (key : α → Int) : Option Int → List α → Bool
  | _, [] => true
  | none, a :: l => risesK key (some (key a)) l
  | some k, a :: l => decide (k < key a) && risesK key (some (key a)) l
def Keys {α : Type} (R : Caller) (C : NCod α) (ag : Bool) (s0 : St) (l : List α) (fv : Value) (key : α → Int) : Prop :=
  ∀ a ∈ l, ∀ u cs, C.rel a s0 cs → Shape ag u cs → ∀ t, callV Tryz.prog R fv [u] t = some (.int .u64 (key a), t)
noncomputable def risB (n : Nat) (ag : Bool) (R : Caller) (T : List Value) (s : St) : Res :=
(abin Tryz.prog .lss 3 (.tmp 8) (.tmp 7) (getL T 3) (getL T 2)).bind fun v1 =>
condV v1
 ((abin Tryz.prog .gtr 3 (.tmp 11) (.const (.int .i64 0)) (getL T 3) (.int .i64 0)).bind fun v2 =>
(guardV v2 true (some ([(getL T 1)], s)) (some ([undef], s))).bind fun q3 =>
(guardV v2 true (some ([(getL T 0)], q3.2)) (some ([undef], q3.2))).bind fun q4 =>
(guardV v2 true (some ([(getL T 3)], q4.2)) (some ([undef], q4.2))).bind fun q5 =>
(guardV v2 true ((abin Tryz.prog .sub 3 (.tmp 16) (.const (.int .i64 1)) (getL q5.1 0) (.int .i64 1)).bind fun v6 =>
some ([v6], q5.2)) (some ([undef], q5.2))).bind fun q7 =>
(guardV v2 true ((aindexS n (getL q4.1 0) (getL q7.1 0)).bind fun v8 =>
some ([v8], q7.2)) (some ([undef], q7.2))).bind fun q9 =>
(guardV v2 true ((aload ag n (getL q9.1 0) (frzS q9.2)).bind fun v26 =>
some (v26, (frzS q9.2))) (some (undef, (frzS q9.2)))).bind fun r10 =>
((guardV v2 true ((callV Tryz.prog R (getL q3.1 0) [r10.1] (frzS q9.2)).bind fun r25 =>
some (r25.1, r25.2)) (some (undef, (frzS q9.2)))).map (quietR q9.2)).bind fun r11 =>
(guardV v2 true (some ([(getL T 1)], r11.2)) (some ([undef], r11.2))).bind fun q12 =>
(guardV v2 true (some ([(getL T 0)], q12.2)) (some ([undef], q12.2))).bind fun q13 =>
(guardV v2 true (some ([(getL T 3)], q13.2)) (some ([undef], q13.2))).bind fun q14 =>
(guardV v2 true ((aindexS n (getL q13.1 0) (getL q14.1 0)).bind fun v15 =>
some ([v15], q14.2)) (some ([undef], q14.2))).bind fun q16 =>
(guardV v2 true ((aload ag n (getL q16.1 0) (frzS q16.2)).bind fun v24 =>
some (v24, (frzS q16.2))) (some (undef, (frzS q16.2)))).bind fun r17 =>
((guardV v2 true ((callV Tryz.prog R (getL q12.1 0) [r17.1] q16.2).bind fun r23 =>
some (r23.1, r23.2)) (some (undef, q16.2))).bind (ownR q16.2)).bind fun r18 =>
(guardV v2 true ((abin Tryz.prog .geq 22 (.tmp 20) (.tmp 26) r11.1 r18.1).bind fun v19 =>
some ([v19], r18.2)) (some ([undef], r18.2))).bind fun q20 =>
(apick v2 (getL q20.1 0) (.bool false)).bind fun v21 =>
condV v21
 (some (.ret, [(.bool false)], q20.2))
 ((abin Tryz.prog .add 3 (.tmp 8) (.const (.int .i64 1)) (getL T 3) (.int .i64 1)).bind fun v22 =>
some (.normal, [(getL T 0), (getL T 1), (getL T 2), v22], q20.2)))
 (some (.exit 0, [], s))
def prevK {α : Type} (key : α → Int) (l : List α) : Nat → Option Int
  | 0 => none
  | i + 1 => l[i]?.map key
theorem quiet_frzR {α : Type} {v : α} {s : St} : quietR s (v, frzS s) = (v, s) := by
  have := frzS_len s
  unfold quietR
  simp only
  rw [List.drop_eq_nil_of_le (by omega), List.append_nil]
theorem own_sameR {α : Type} {s : St} {a : α} : ownR s (a, s) = some (a, s) := by unfold ownR; rw [if_pos (Nat.le_refl _)]
theorem ris_loop {α : Type} {R : Caller} {C : NCod α} {n : Nat} {ag : Bool} (hn : n = C.n) (hag : ag = true ∨ n = 1) {B : Nat} {s : St} {v fv : Value} {l : List α} {key : α → Int} (h : ListN C B l s v) (hl : l.length < 140737488355328) (hk : Keys R C ag s l fv key) : ∀ (rest : List α) (i : Nat), l.drop i = rest → i ≤ l.length →
    loopL (risB n ag R) [v, fv, .int .i64 ((l.length : Nat) : Int), .int .i64 (i : Int)] s = if risesK key (prevK key l i) rest = true then some (.exit 0, [], s) else some (.ret, [.bool false], s) := by
  intro rest
  induction rest with
  | nil =>
    intro i hi hle
    have h1 : decide ((i : Int) < ((l.length : Nat) : Int)) = false := by
      have := List.drop_eq_nil_iff.1 hi
      simp; omega
    have e : risesK key (prevK key l i) [] = true := by cases prevK key l i <;> rfl
    rw [loopL_eq, e]
    simp only [risB, h1, if_true, n_bind, n_map, getL_0, getL_1, getL_2, getL_3, getL_4, getL_5, getL_6, getL_7, getL_8, getL_9, getL_10, getL_11, getL_12, condV_t, condV_f, guardV_tt, guardV_ff, guardV_tf, guardV_ft, guardV_u, apick_t, apick_f, exV_exit, exV_ret, lookE_same, joinK_eq, seqA_n, seqA_e, seqA_r, e_add, e_sub, e_mul, e_eql, e_neq, e_lss, e_leq, e_gtr, e_geq, e_conv, e_not, e_neg, and_guard, or_guard]
  | cons a rest ih =>
    intro i hi hle
    obtain ⟨hlt, he, hd⟩ := drop_nx hi
    have h1 : decide ((i : Int) < ((l.length : Nat) : Int)) = true := by simp; omega
    obtain ⟨q, u, cs, h2, h3, h3f, h4, h5⟩ := listN_get h hlt hn hag
    rw [he] at h5
    have g1 := hk a (by rw [← he]; exact List.getElem_mem _) u cs h5 h4
    have hnx : prevK key l (i + 1) = some (key a) := by simp only [prevK, List.getElem?_eq_getElem hlt, he, Option.map_some]
    have nx := ih (i + 1) hd (by omega)
    rw [hnx] at nx
    rw [loopL_eq]
    cases i with
    | zero =>
      have c3 : decide (((0 : Nat) : Int) > 0) = false := rfl
      simp only [risB, h1, c3, Option.map_some, quiet_frzR, own_sameR, inc_i (show 0 < 140737488355328 by omega), prevK, risesK, n_bind, n_map, getL_0, getL_1, getL_2, getL_3, getL_4, getL_5, getL_6, getL_7, getL_8, getL_9, getL_10, getL_11, getL_12, condV_t, condV_f, guardV_tt, guardV_ff, guardV_tf, guardV_ft, guardV_u, apick_t, apick_f, exV_exit, exV_ret, lookE_same, joinK_eq, seqA_n, seqA_e, seqA_r, e_add, e_sub, e_mul, e_eql, e_neq, e_lss, e_leq, e_gtr, e_geq, e_conv, e_not, e_neg, and_guard, or_guard]
      exact nx
    | succ j =>
      have c3 : decide (((j + 1 : Nat) : Int) > 0) = true := decide_eq_true (by omega)
      have hj : j < l.length := by omega
      obtain ⟨q2, u2, cs2, f2, f3, f3f, f4, f5⟩ := listN_get h hj hn hag
      have g2 := hk l[j] (List.getElem_mem _) u2 cs2 f5 f4
      have hp : prevK key l (j + 1) = some (key l[j]) := by simp only [prevK, List.getElem?_eq_getElem hj, Option.map_some]
      have hge : decide (key l[j] ≥ key a) = !decide (key l[j] < key a) := by
        rw [← decide_not]
        exact decide_eq_decide.2 (by omega)
      rw [hp]
      simp only [risesK]
      rcases Bool.eq_false_or_eq_true (decide (key l[j] < key a)) with c4 | c4
      · simp only [risB, h1, c3, dec_i (show j < 140737488355328 by omega), f2, f3f, g2, h2, h3f, g1, Option.map_some, quiet_frzR, own_sameR, hge, c4, Bool.not_true, Bool.true_and, inc_i (show j + 1 < 140737488355328 by omega), n_bind, n_map, getL_0, getL_1, getL_2, getL_3, getL_4, getL_5, getL_6, getL_7, getL_8, getL_9, getL_10, getL_11, getL_12, condV_t, condV_f, guardV_tt, guardV_ff, guardV_tf, guardV_ft, guardV_u, apick_t, apick_f, exV_exit, exV_ret, lookE_same, joinK_eq, seqA_n, seqA_e, seqA_r, e_add, e_sub, e_mul, e_eql, e_neq, e_lss, e_leq, e_gtr, e_geq, e_conv, e_not, e_neg, and_guard, or_guard]
        exact nx
      · simp only [risB, h1, c3, dec_i (show j < 140737488355328 by omega), f2, f3f, g2, h2, h3f, g1, Option.map_some, quiet_frzR, own_sameR, hge, c4, Bool.not_false, Bool.false_and, Bool.false_eq_true, if_false, n_bind, n_map, getL_0, getL_1, getL_2, getL_3, getL_4, getL_5, getL_6, getL_7, getL_8, getL_9, getL_10, getL_11, getL_12, condV_t, condV_f, guardV_tt, guardV_ff, guardV_tf, guardV_ft, guardV_u, apick_t, apick_f, exV_exit, exV_ret, lookE_same, joinK_eq, seqA_n, seqA_e, seqA_r, e_add, e_sub, e_mul, e_eql, e_neq, e_lss, e_leq, e_gtr, e_geq, e_conv, e_not, e_neg, and_guard, or_guard]
theorem rises_gen {α : Type} {R : Caller} {C : NCod α} {n : Nat} {ag : Bool} (hn : n = C.n) (hag : ag = true ∨ n = 1) {B : Nat} {s : St} {v fv : Value} {l : List α} {key : α → Int} {t1 : TypeId} (h : ListN C B l s v) (hl : l.length < 140737488355328) (hk : Keys R C ag s l fv key) :
    ((alenV (.slice t1) v s).bind fun v0 => (loopL (risB n ag R) [v, fv, v0, (.int .i64 0)] s).bind fun r27 => exV r27.1 [(0, retV [(.bool true)] r27.2.2)] (retV [(getL r27.2.1 0)] r27.2.2)) = some (.bool (risesK key none l), s) := by
  have h1 := ris_loop hn hag h hl hk l 0 rfl (Nat.zero_le _)
  rw [show ((0 : Nat) : Int) = 0 from rfl, show prevK key l 0 = none from rfl] at h1
  cases hc : risesK key none l with
  | true =>
    rw [hc, if_pos rfl] at h1
    simp only [listN_lenR h, h1, ret_1 (v := .bool true) rfl, n_bind, n_map, getL_0, getL_1, getL_2, getL_3, getL_4, getL_5, getL_6, getL_7, getL_8, getL_9, getL_10, getL_11, getL_12, condV_t, condV_f, guardV_tt, guardV_ff, guardV_tf, guardV_ft, guardV_u, apick_t, apick_f, exV_exit, exV_ret, lookE_same, joinK_eq, seqA_n, seqA_e, seqA_r, e_add, e_sub, e_mul, e_eql, e_neq, e_lss, e_leq, e_gtr, e_geq, e_conv, e_not, e_neg, and_guard, or_guard]
  | false =>
    rw [hc, if_neg (by simp)] at h1
    simp only [listN_lenR h, h1, ret_1 (v := .bool false) rfl, n_bind, n_map, getL_0, getL_1, getL_2, getL_3, getL_4, getL_5, getL_6, getL_7, getL_8, getL_9, getL_10, getL_11, getL_12, condV_t, condV_f, guardV_tt, guardV_ff, guardV_tf, guardV_ft, guardV_u, apick_t, apick_f, exV_exit, exV_ret, lookE_same, joinK_eq, seqA_n, seqA_e, seqA_r, e_add, e_sub, e_mul, e_eql, e_neq, e_lss, e_leq, e_gtr, e_geq, e_conv, e_not, e_neg, and_guard, or_guard]

end Go.Proofs.YtckpcelchhmjcaaGreat.Ab

/- Numbers as bytes: what the program's functions do. -/
namespace Go.Proofs.YtckpcelchhmjcaaGreat.Ab
open Go

/-- the number that bytes begin with, from the i-th byte on -/
def rdN : Nat → Nat → List UInt8 → Option (Nat × Nat × Int)
  | _, _, [] => none
  | i, n, c :: l =>
    if i = 9 ∧ 1 < c.toNat then some (0, 0, 11)
    else if c.toNat < 128 then (if c.toNat = 0 ∧ 0 < i then some (0, 0, 11) else some (n + c.toNat % 128 * 2 ^ (7 * i), i + 1, 0))
    else rdN (i + 1) (n + c.toNat % 128 * 2 ^ (7 * i)) l
def readNum (l : List UInt8) : Nat × Nat × Int := (rdN 0 0 l).getD (0, 0, 10)

theorem and127 (c : Nat) : c &&& 127 = c % 128 := Nat.and_two_pow_sub_one_eq_mod c 7
theorem or_add {n m i : Nat} (h : n < 2 ^ i) : n ||| m * 2 ^ i = n + m * 2 ^ i := by
  rw [Nat.mul_comm, Nat.or_comm, ← Nat.two_pow_add_eq_or_of_lt h, Nat.add_comm]

theorem ReadNum_loop {R : Caller} {s : St} {v : Value} {l : List UInt8} (h : bytesOf v s = some l) : ∀ (rest : List UInt8) (i n : Nat), i ≤ 9 → l.drop i = rest → n < 2 ^ (7 * i) →
    loopL (octet_ReadNum.b0 R) [.int .u64 (n : Int), v, .int .i64 ((l.length : Nat) : Int), .int .i64 (i : Int)] s =
      match rdN i n rest with
      | none => some (.exit 0, [], s)
      | some r => some (.ret, [.int .u64 (r.1 : Int), .int .i64 (r.2.1 : Int), .int .i64 r.2.2], s)
  | [], i, n, hi, hr, hn => by
    have hle : l.length ≤ i := List.drop_eq_nil_iff.1 hr
    rw [loopL_eq]
    have hc : decide ((i : Int) < ((l.length : Nat) : Int)) = false := by simp; omega
    simp only [octet_ReadNum.b0, n_bind, n_map, getL_0, getL_1, getL_2, getL_3, getL_4, getL_5, getL_6, getL_7, getL_8, getL_9, getL_10, getL_11, getL_12, condV_t, condV_f, guardV_tt, guardV_ff, guardV_tf, guardV_ft, guardV_u, apick_t, apick_f, exV_exit, exV_ret, lookE_same, joinK_eq, seqA_n, seqA_e, seqA_r, e_add, e_sub, e_mul, e_eql, e_neq, e_lss, e_leq, e_gtr, e_geq, e_conv, e_not, e_neg, and_guard, or_guard, hc]
    rfl
  | c :: rest, i, n, hi, hr, hn => by
    have hlt : i < l.length := by
      rcases Nat.lt_or_ge i l.length with hh | hh
      · exact hh
      · rw [List.drop_eq_nil_of_le hh] at hr; cases hr
    have hci : l[i] = c := by
      have := List.drop_eq_getElem_cons hlt
      rw [hr] at this
      exact (List.cons.inj this).1.symm
    have hrest : l.drop (i + 1) = rest := by
      have := List.drop_eq_getElem_cons hlt
      rw [hr] at this
      exact (List.cons.inj this).2.symm
    obtain ⟨p, hp1, hp2⟩ := bytes_at h hlt (k := .i64)
    rw [hci] at hp2
    have hcl := c.toNat_lt
    rw [loopL_eq]
    have hc : decide ((i : Int) < ((l.length : Nat) : Int)) = true := by simp; omega
    simp only [octet_ReadNum.b0, n_bind, n_map, getL_0, getL_1, getL_2, getL_3, getL_4, getL_5, getL_6, getL_7, getL_8, getL_9, getL_10, getL_11, getL_12, condV_t, condV_f, guardV_tt, guardV_ff, guardV_tf, guardV_ft, guardV_u, apick_t, apick_f, exV_exit, exV_ret, lookE_same, joinK_eq, seqA_n, seqA_e, seqA_r, e_add, e_sub, e_mul, e_eql, e_neq, e_lss, e_leq, e_gtr, e_geq, e_conv, e_not, e_neg, and_guard, or_guard, hc, hp1, hp2]
    have hw1 : IntKind.wrap .i64 (7 * (i : Int)) = ((7 * i : Nat) : Int) := by rw [wrap_i64 (by omega) (by omega)]; push_cast; rfl
    have hw2 : IntKind.wrap .i64 ((i : Int) + 1) = ((i + 1 : Nat) : Int) := by rw [wrap_i64 (by omega) (by omega)]; push_cast; rfl
    have h127 : (127 : Int) = ((127 : Nat) : Int) := rfl
    rw [h127]
    simp only [u_and (k := .u8) rfl (show c.toNat < 2 ^ IntKind.bits .u8 from hcl) (show 127 < 2 ^ IntKind.bits .u8 by decide), and127, n_bind, n_map, getL_0, getL_1, getL_2, getL_3, getL_4, getL_5, getL_6, getL_7, getL_8, getL_9, getL_10, getL_11, getL_12, condV_t, condV_f, guardV_tt, guardV_ff, guardV_tf, guardV_ft, guardV_u, apick_t, apick_f, exV_exit, exV_ret, lookE_same, joinK_eq, seqA_n, seqA_e, seqA_r, e_add, e_sub, e_mul, e_eql, e_neq, e_lss, e_leq, e_gtr, e_geq, e_conv, e_not, e_neg, and_guard, or_guard, hw1, hw2]
    by_cases h9 : i = 9 ∧ 1 < c.toNat
    · have hb : (((i : Int) == 9) && decide ((c.toNat : Int) > 1)) = true := by simp; omega
      simp only [hb, n_bind, n_map, getL_0, getL_1, getL_2, getL_3, getL_4, getL_5, getL_6, getL_7, getL_8, getL_9, getL_10, getL_11, getL_12, condV_t, condV_f, guardV_tt, guardV_ff, guardV_tf, guardV_ft, guardV_u, apick_t, apick_f, exV_exit, exV_ret, lookE_same, joinK_eq, seqA_n, seqA_e, seqA_r, e_add, e_sub, e_mul, e_eql, e_neq, e_lss, e_leq, e_gtr, e_geq, e_conv, e_not, e_neg, and_guard, or_guard, rdN, if_pos h9]
      rfl
    · have hb : (((i : Int) == 9) && decide ((c.toNat : Int) > 1)) = false := by
        rw [Bool.eq_false_iff]; simp; omega
      have hc128 : c.toNat % 128 < 128 := Nat.mod_lt _ (by omega)
      have hconv : IntKind.wrap .u64 ((c.toNat % 128 : Nat) : Int) = ((c.toNat % 128 : Nat) : Int) := uwrap rfl (Nat.lt_trans hc128 (by decide))
      have hpow : c.toNat % 128 * 2 ^ (7 * i) < 2 ^ 64 ∧ n + c.toNat % 128 * 2 ^ (7 * i) < 2 ^ (7 * (i + 1)) := by
        refine ⟨?_, ?_⟩
        · by_cases h8 : i ≤ 8
          · calc c.toNat % 128 * 2 ^ (7 * i) < 128 * 2 ^ (7 * i) := Nat.mul_lt_mul_of_pos_right hc128 (Nat.two_pow_pos _)
              _ ≤ 128 * 2 ^ 56 := Nat.mul_le_mul_left _ (Nat.pow_le_pow_right (by omega) (by omega))
              _ < 2 ^ 64 := by decide
          · have e9 : i = 9 := by omega
            have : c.toNat ≤ 1 := by omega
            subst e9
            have h1 : c.toNat % 128 ≤ 1 := by omega
            calc c.toNat % 128 * 2 ^ (7 * 9) ≤ 1 * 2 ^ (7 * 9) := Nat.mul_le_mul_right _ h1
              _ < 2 ^ 64 := by decide
        · have e : 2 ^ (7 * (i + 1)) = 128 * 2 ^ (7 * i) := by rw [show 7 * (i + 1) = 7 + 7 * i by omega, Nat.pow_add]
          rw [e]
          have : (c.toNat % 128 + 1) * 2 ^ (7 * i) ≤ 128 * 2 ^ (7 * i) := Nat.mul_le_mul_right _ (by omega)
          rw [Nat.add_mul] at this
          omega
      have hshl : ∀ t ox oy, abin Tryz.prog .shl t ox oy (.int .u64 ((c.toNat % 128 : Nat) : Int)) (.int .i64 ((7 * i : Nat) : Int)) = some (.int .u64 ((c.toNat % 128 * 2 ^ (7 * i) : Nat) : Int)) := fun t ox oy => by
        rw [u_shl rfl, show c.toNat % 128 * 2 ^ (7 * i) % 2 ^ IntKind.bits .u64 = c.toNat % 128 * 2 ^ (7 * i) from Nat.mod_eq_of_lt hpow.1]
      have hn64 : n < 2 ^ IntKind.bits .u64 := Nat.lt_of_lt_of_le hn (Nat.pow_le_pow_right (by omega) (show 7 * i ≤ 64 by omega))
      have hor : ∀ t ox oy, abin Tryz.prog .or t ox oy (.int .u64 (n : Int)) (.int .u64 ((c.toNat % 128 * 2 ^ (7 * i) : Nat) : Int)) = some (.int .u64 ((n + c.toNat % 128 * 2 ^ (7 * i) : Nat) : Int)) := fun t ox oy => by
        rw [u_or rfl hn64 hpow.1, or_add hn]
      have hlt128 : decide ((c.toNat : Int) < 128) = decide (c.toNat < 128) := decide_eq_decide.2 (by omega)
      simp only [hb, n_bind, n_map, getL_0, getL_1, getL_2, getL_3, getL_4, getL_5, getL_6, getL_7, getL_8, getL_9, getL_10, getL_11, getL_12, condV_t, condV_f, guardV_tt, guardV_ff, guardV_tf, guardV_ft, guardV_u, apick_t, apick_f, exV_exit, exV_ret, lookE_same, joinK_eq, seqA_n, seqA_e, seqA_r, e_add, e_sub, e_mul, e_eql, e_neq, e_lss, e_leq, e_gtr, e_geq, e_conv, e_not, e_neg, and_guard, or_guard, hconv, hshl, hor, hlt128]
      rw [rdN, if_neg h9]
      by_cases h1 : c.toNat < 128
      · simp only [decide_eq_true h1, n_bind, n_map, getL_0, getL_1, getL_2, getL_3, getL_4, getL_5, getL_6, getL_7, getL_8, getL_9, getL_10, getL_11, getL_12, condV_t, condV_f, guardV_tt, guardV_ff, guardV_tf, guardV_ft, guardV_u, apick_t, apick_f, exV_exit, exV_ret, lookE_same, joinK_eq, seqA_n, seqA_e, seqA_r, e_add, e_sub, e_mul, e_eql, e_neq, e_lss, e_leq, e_gtr, e_geq, e_conv, e_not, e_neg, and_guard, or_guard, if_pos h1]
        by_cases h2 : c.toNat = 0 ∧ 0 < i
        · have hb2 : (((c.toNat : Int) == 0) && decide ((i : Int) > 0)) = true := by simp; omega
          simp only [hb2, n_bind, n_map, getL_0, getL_1, getL_2, getL_3, getL_4, getL_5, getL_6, getL_7, getL_8, getL_9, getL_10, getL_11, getL_12, condV_t, condV_f, guardV_tt, guardV_ff, guardV_tf, guardV_ft, guardV_u, apick_t, apick_f, exV_exit, exV_ret, lookE_same, joinK_eq, seqA_n, seqA_e, seqA_r, e_add, e_sub, e_mul, e_eql, e_neq, e_lss, e_leq, e_gtr, e_geq, e_conv, e_not, e_neg, and_guard, or_guard, if_pos h2]
          rfl
        · have hb2 : (((c.toNat : Int) == 0) && decide ((i : Int) > 0)) = false := by
            rw [Bool.eq_false_iff]; simp; omega
          simp only [hb2, n_bind, n_map, getL_0, getL_1, getL_2, getL_3, getL_4, getL_5, getL_6, getL_7, getL_8, getL_9, getL_10, getL_11, getL_12, condV_t, condV_f, guardV_tt, guardV_ff, guardV_tf, guardV_ft, guardV_u, apick_t, apick_f, exV_exit, exV_ret, lookE_same, joinK_eq, seqA_n, seqA_e, seqA_r, e_add, e_sub, e_mul, e_eql, e_neq, e_lss, e_leq, e_gtr, e_geq, e_conv, e_not, e_neg, and_guard, or_guard, if_neg h2]
      · simp only [decide_eq_false h1, n_bind, n_map, getL_0, getL_1, getL_2, getL_3, getL_4, getL_5, getL_6, getL_7, getL_8, getL_9, getL_10, getL_11, getL_12, condV_t, condV_f, guardV_tt, guardV_ff, guardV_tf, guardV_ft, guardV_u, apick_t, apick_f, exV_exit, exV_ret, lookE_same, joinK_eq, seqA_n, seqA_e, seqA_r, e_add, e_sub, e_mul, e_eql, e_neq, e_lss, e_leq, e_gtr, e_geq, e_conv, e_not, e_neg, and_guard, or_guard, if_neg h1]
        by_cases h8 : i ≤ 8
        · exact ReadNum_loop h rest (i + 1) _ (by omega) hrest hpow.2
        · omega

theorem ReadNum_run {R : Caller} {s : St} {v : Value} {l : List UInt8} (h : bytesOf v s = some l) : octet_ReadNum R v s = some (.tuple #[.int .u64 ((readNum l).1 : Int), .int .i64 ((readNum l).2.1 : Int), .int .i64 (readNum l).2.2], s) := by
  have := ReadNum_loop (R := R) h l 0 0 (by omega) rfl (by simp)
  unfold octet_ReadNum readNum
  simp only [bytes_len h, n_bind, n_map, getL_0, getL_1, getL_2, getL_3, getL_4, getL_5, getL_6, getL_7, getL_8, getL_9, getL_10, getL_11, getL_12, condV_t, condV_f, guardV_tt, guardV_ff, guardV_tf, guardV_ft, guardV_u, apick_t, apick_f, exV_exit, exV_ret, lookE_same, joinK_eq, seqA_n, seqA_e, seqA_r, e_add, e_sub, e_mul, e_eql, e_neq, e_lss, e_leq, e_gtr, e_geq, e_conv, e_not, e_neg, and_guard, or_guard]
  rw [show (0 : Int) = ((0 : Nat) : Int) from rfl, this]
  cases rdN 0 0 l with
  | none => rfl
  | some r => rfl

/-! ### A number's bytes -/
def encF : Nat → Nat → List UInt8
  | 0, _ => []
  | k + 1, n => if n < 128 then [UInt8.ofNat n] else UInt8.ofNat (n % 128 + 128) :: encF k (n / 128)
def enc (n : Nat) : List UInt8 := encF 10 n
theorem encF_len : ∀ (k n : Nat), (encF k n).length ≤ k
  | 0, _ => by simp [encF]
  | k + 1, n => by
    simp only [encF]
    split
    · simp
    · simp [encF_len k (n / 128)]
theorem encF_ne {k n : Nat} : encF (k + 1) n ≠ [] := by
  simp only [encF]
  split <;> simp
theorem enc_ne {n : Nat} : enc n ≠ [] := encF_ne
theorem enc_len {n : Nat} : (enc n).length ≤ 10 := encF_len 10 n
theorem ofNat_toNat {n : Nat} (h : n < 256) : ((UInt8.ofNat n).toNat : Nat) = n := by simp; omega
theorem bv_one {n : Nat} (h : n < 256) : bv [UInt8.ofNat n] = [.int .u8 ((n : Nat) : Int)] := by
  simp only [bv, List.map_cons, List.map_nil, ofNat_toNat h]
theorem or128 (n : Nat) : n % 256 ||| 128 = n % 128 + 128 := by
  have h : n % 256 = n % 128 + 128 * (n / 128 % 2) := by omega
  rw [h]
  rcases Nat.mod_two_eq_zero_or_one (n / 128) with e | e
  · rw [e, Nat.mul_zero, Nat.add_zero]
    have := or_add (n := n % 128) (m := 1) (i := 7) (Nat.mod_lt _ (by decide))
    simpa using this
  · rw [e, Nat.mul_one]
    have := or_add (n := n % 128) (m := 1) (i := 7) (Nat.mod_lt _ (by decide))
    have h2 : n % 128 + 128 = n % 128 ||| 128 := by simpa using this.symm
    rw [h2, Nat.or_assoc, Nat.or_self]

theorem Num_loop {R : Caller} {N : Nat} : ∀ (k n : Nat) (acc : List UInt8) (s : St) (out : Value), n < 128 ^ (k + 1) → n < 2 ^ 64 → acc.length + k ≤ 100 → Own N 1 s out (bv acc) → N ≤ s.heap.length →
    ∃ (m : Nat) (out' : Value) (s' : St) (pre : List UInt8), loopL (octet_Num.b0 R) [.int .u64 (n : Int), out] s = some (.exit 0, [.int .u64 (m : Int), out'], s') ∧ m < 128 ∧ Own N 1 s' out' (bv (acc ++ pre)) ∧ encF (k + 1) n = pre ++ [UInt8.ofNat m] ∧ Ext N s s' ∧ N ≤ s'.heap.length ∧ pre.length ≤ k
  | 0, n, acc, s, out, h1, h2, h3, h4, h5 => by
    rw [loopL_eq]
    have hc : decide ((n : Int) ≥ 128) = false := by simp; omega
    simp only [octet_Num.b0, n_bind, n_map, getL_0, getL_1, getL_2, getL_3, getL_4, getL_5, getL_6, getL_7, getL_8, getL_9, getL_10, getL_11, getL_12, condV_t, condV_f, guardV_tt, guardV_ff, guardV_tf, guardV_ft, guardV_u, apick_t, apick_f, exV_exit, exV_ret, lookE_same, joinK_eq, seqA_n, seqA_e, seqA_r, e_add, e_sub, e_mul, e_eql, e_neq, e_lss, e_leq, e_gtr, e_geq, e_conv, e_not, e_neg, and_guard, or_guard, hc]
    exact ⟨n, out, s, [], rfl, by simpa using h1, by simpa using h4, by simp [encF]; omega, .refl _ _, h5, by simp⟩
  | k + 1, n, acc, s, out, h1, h2, h3, h4, h5 => by
    rw [loopL_eq]
    by_cases hn : n < 128
    · have hc : decide ((n : Int) ≥ 128) = false := by simp; omega
      simp only [octet_Num.b0, n_bind, n_map, getL_0, getL_1, getL_2, getL_3, getL_4, getL_5, getL_6, getL_7, getL_8, getL_9, getL_10, getL_11, getL_12, condV_t, condV_f, guardV_tt, guardV_ff, guardV_tf, guardV_ft, guardV_u, apick_t, apick_f, exV_exit, exV_ret, lookE_same, joinK_eq, seqA_n, seqA_e, seqA_r, e_add, e_sub, e_mul, e_eql, e_neq, e_lss, e_leq, e_gtr, e_geq, e_conv, e_not, e_neg, and_guard, or_guard, hc]
      exact ⟨n, out, s, [], rfl, hn, by simpa using h4, by rw [encF, if_pos hn]; rfl, .refl _ _, h5, by simp⟩
    · have hc : decide ((n : Int) ≥ 128) = true := by simp; omega
      have hu : ∀ t ox oy, abin Tryz.prog .or t ox oy (.int .u8 ((n % 256 : Nat) : Int)) (.int .u8 (128 : Int)) = some (.int .u8 ((n % 128 + 128 : Nat) : Int)) := fun t ox oy => by
        rw [show (128 : Int) = ((128 : Nat) : Int) from rfl, u_or rfl (show n % 256 < 2 ^ 8 from Nat.mod_lt _ (by decide)) (show 128 < 2 ^ 8 by decide), or128]
      have hs : ∀ t ox oy, abin Tryz.prog .shr t ox oy (.int .u64 (n : Int)) (.int .u64 (7 : Int)) = some (.int .u64 ((n / 128 : Nat) : Int)) := fun t ox oy => by
        rw [show (7 : Int) = ((7 : Nat) : Int) from rfl, u_shr (show n < 2 ^ 64 from h2)]
      obtain ⟨r, g1, v', s', g2, g3, g4⟩ := own_add (w := 1) (z := [.int .u8 0]) (v := .int .u8 ((n % 128 + 128 : Nat) : Int)) h4 h5 (by omega) (by omega) (by omega) rfl rfl rfl rfl (by rw [bv_length]; omega)
      simp only [octet_Num.b0, n_bind, n_map, getL_0, getL_1, getL_2, getL_3, getL_4, getL_5, getL_6, getL_7, getL_8, getL_9, getL_10, getL_11, getL_12, condV_t, condV_f, guardV_tt, guardV_ff, guardV_tf, guardV_ft, guardV_u, apick_t, apick_f, exV_exit, exV_ret, lookE_same, joinK_eq, seqA_n, seqA_e, seqA_r, e_add, e_sub, e_mul, e_eql, e_neq, e_lss, e_leq, e_gtr, e_geq, e_conv, e_not, e_neg, and_guard, or_guard, hc, wrapu8, hu, g1, g2, hs]
      have h5' : N ≤ s'.heap.length := Nat.le_trans h5 g4.1
      have hacc : bv acc ++ cellsV (.int .u8 ((n % 128 + 128 : Nat) : Int)) = bv (acc ++ [UInt8.ofNat (n % 128 + 128)]) := by
        rw [bv_append, bv_one (by omega)]; rfl
      rw [hacc] at g3
      obtain ⟨m, out', s2, pre, f1, f2, f3, f4, f5, f6, f7⟩ := Num_loop k (n / 128) (acc ++ [UInt8.ofNat (n % 128 + 128)]) s' v' (by rw [Nat.pow_succ] at h1; omega) (by omega) (by simp; omega) g3 h5'
      refine ⟨m, out', s2, UInt8.ofNat (n % 128 + 128) :: pre, f1, f2, by simpa using f3, ?_, g4.trans f5, f6, by simp; omega⟩
      rw [encF, if_neg hn, f4]
      rfl

theorem Num_run {R : Caller} {n : Nat} (hn : n < 2 ^ 64) (s : St) : ∃ v s', octet_Num R (.int .u64 (n : Int)) s = some (v, s') ∧ Own s.heap.length 1 s' v (bv (enc n)) ∧ Ext s.heap.length s s' := by
  obtain ⟨m, out', s2, pre, f1, f2, f3, f4, f5, f6, f7⟩ := Num_loop (R := R) (N := s.heap.length) 9 n [] s (.slice none 0 0) (Nat.lt_of_lt_of_le hn (by decide)) hn (by simp) (Own.nil _ _ _) (Nat.le_refl _)
  obtain ⟨r, g1, v', s', g2, g3, g4⟩ := own_add (w := 1) (z := [.int .u8 0]) (v := .int .u8 ((m : Nat) : Int)) f3 f6 (by omega) (by omega) (by omega) rfl rfl rfl rfl (by rw [bv_length]; simp; omega)
  have hm : m % 256 = m := by omega
  unfold octet_Num
  simp only [f1, n_bind, n_map, getL_0, getL_1, getL_2, getL_3, getL_4, getL_5, getL_6, getL_7, getL_8, getL_9, getL_10, getL_11, getL_12, condV_t, condV_f, guardV_tt, guardV_ff, guardV_tf, guardV_ft, guardV_u, apick_t, apick_f, exV_exit, exV_ret, lookE_same, joinK_eq, seqA_n, seqA_e, seqA_r, e_add, e_sub, e_mul, e_eql, e_neq, e_lss, e_leq, e_gtr, e_geq, e_conv, e_not, e_neg, and_guard, or_guard, wrapu8, hm, g1, g2]
  have hacc : bv ([] ++ pre) ++ cellsV (.int .u8 ((m : Nat) : Int)) = bv (enc n) := by
    unfold enc
    rw [f4, List.nil_append, bv_append, bv_one (by omega)]; rfl
  rw [hacc] at g3
  refine ⟨v', s', ?_, g3, f5.trans g4⟩
  rcases g3 with ⟨rfl, _⟩ | ⟨b, len, rfl, _⟩ <;> rfl

theorem refNum_run {lib : Lib} (hl : lib 95 = none) : ∀ (k n : Nat), n < 128 ^ (k + 1) → n < 2 ^ 64 → k ≤ 50 → ∀ (s : St), ∃ v s', run Tryz.prog lib hints 95 [.int .u64 (n : Int)] s = some (v, s') ∧ Own s.heap.length 1 s' v (bv (encF (k + 1) n)) ∧ Ext s.heap.length s s' := by
  intro k
  induction k with
  | zero =>
    intro n h1 h2 _ s
    have hn : n < 128 := by simpa using h1
    have hc : decide ((n : Int) < 128) = true := by simp; omega
    have hm : n % 256 = n := by omega
    have hb : abuildSl 1 [.int .u8 0] 1 [(0, .int .u8 ((n : Nat) : Int))] s = some (newBytes [UInt8.ofNat n] s) := by
      unfold newBytes
      rw [bv_one (by omega)]
      rfl
    refine ⟨_, _, ref01_Num_of hl (r := newBytes [UInt8.ofNat n] s) ?_, ?_, newBytes_ext (Nat.le_refl _)⟩
    · unfold ref01_Num
      simp only [n_bind, n_map, getL_0, getL_1, getL_2, getL_3, getL_4, getL_5, getL_6, getL_7, getL_8, getL_9, getL_10, getL_11, getL_12, condV_t, condV_f, guardV_tt, guardV_ff, guardV_tf, guardV_ft, guardV_u, apick_t, apick_f, exV_exit, exV_ret, lookE_same, joinK_eq, seqA_n, seqA_e, seqA_r, e_add, e_sub, e_mul, e_eql, e_neq, e_lss, e_leq, e_gtr, e_geq, e_conv, e_not, e_neg, and_guard, or_guard, hc, wrapu8, hm, hb]
      rfl
    · rw [encF, if_pos hn]
      exact newBytes_own (Nat.le_refl _) (by simp)
  | succ k ih =>
    intro n h1 h2 hk s
    by_cases hn : n < 128
    · have hc : decide ((n : Int) < 128) = true := by simp; omega
      have hm : n % 256 = n := by omega
      have hb : abuildSl 1 [.int .u8 0] 1 [(0, .int .u8 ((n : Nat) : Int))] s = some (newBytes [UInt8.ofNat n] s) := by
        unfold newBytes
        rw [bv_one (by omega)]
        rfl
      refine ⟨_, _, ref01_Num_of hl (r := newBytes [UInt8.ofNat n] s) ?_, ?_, newBytes_ext (Nat.le_refl _)⟩
      · unfold ref01_Num
        simp only [n_bind, n_map, getL_0, getL_1, getL_2, getL_3, getL_4, getL_5, getL_6, getL_7, getL_8, getL_9, getL_10, getL_11, getL_12, condV_t, condV_f, guardV_tt, guardV_ff, guardV_tf, guardV_ft, guardV_u, apick_t, apick_f, exV_exit, exV_ret, lookE_same, joinK_eq, seqA_n, seqA_e, seqA_r, e_add, e_sub, e_mul, e_eql, e_neq, e_lss, e_leq, e_gtr, e_geq, e_conv, e_not, e_neg, and_guard, or_guard, hc, wrapu8, hm, hb]
        rfl
      · rw [encF, if_pos hn]
        exact newBytes_own (Nat.le_refl _) (by simp)
    · have hc : decide ((n : Int) < 128) = false := by simp; omega
      have hrem : ∀ t ox oy, abin Tryz.prog .rem t ox oy (.int .u64 (n : Int)) (.int .u64 (128 : Int)) = some (.int .u64 ((n % 128 : Nat) : Int)) := fun t ox oy => by
        rw [e_rem (by decide)]; rfl
      have hquo : ∀ t ox oy, abin Tryz.prog .quo t ox oy (.int .u64 (n : Int)) (.int .u64 (128 : Int)) = some (.int .u64 ((n / 128 : Nat) : Int)) := fun t ox oy => by
        rw [e_quo (by decide)]
        have : (n : Int).tdiv 128 = ((n / 128 : Nat) : Int) := rfl
        rw [this, wrapu64, Nat.mod_eq_of_lt (by omega)]
      have hm : n % 128 % 256 = n % 128 := by omega
      have hw : IntKind.wrap .u8 (((n % 128 : Nat) : Int) + 128) = ((n % 128 + 128 : Nat) : Int) := by
        rw [show (((n % 128 : Nat) : Int) + 128) = ((n % 128 + 128 : Nat) : Int) by omega, wrapu8, Nat.mod_eq_of_lt (by omega)]
      have hb : abuildSl 1 [.int .u8 0] 1 [(0, .int .u8 ((n % 128 + 128 : Nat) : Int))] s = some (newBytes [UInt8.ofNat (n % 128 + 128)] s) := by
        unfold newBytes
        rw [bv_one (by omega)]
        rfl
      obtain ⟨v, s', g1, g2, g3⟩ := ih (n / 128) (by rw [Nat.pow_succ] at h1; omega) (by omega) (by omega) (newBytes [UInt8.ofNat (n % 128 + 128)] s).2
      have hO : Own s.heap.length 1 s' (newBytes [UInt8.ofNat (n % 128 + 128)] s).1 (bv [UInt8.ofNat (n % 128 + 128)]) :=
        .inr ⟨s.heap.length, 1, rfl, Nat.le_refl _, by rw [g3.2 _ (by simp [newBytes, St.push])]; exact push_get, by simp [bv], by omega⟩
      have hle : s.heap.length ≤ s'.heap.length := Nat.le_trans (by simp [newBytes, St.push]) g3.1
      have hlen := encF_len (k + 1) (n / 128)
      obtain ⟨v2, s2, f1, f2, f3⟩ := own_append (w := 1) hO hle (by omega) (by omega) (y := v) (m := (encF (k + 1) (n / 128)).length) (by
        rcases g2 with ⟨rfl, e⟩ | ⟨b, len, rfl, _, _, e, _⟩
        · rw [bv_inj (m := []) e]; rfl
        · rw [bv_length, Nat.mul_one] at e; rw [e]; rfl) (elems_of g2.cells) (by rw [bv_length, Nat.mul_one]) (by rw [bv_length, bv_length]; simp; omega)
      refine ⟨v2, s2, ref01_Num_of hl (r := (v2, s2)) ?_, ?_, ((newBytes_ext (Nat.le_refl _)).trans (g3.less (by simp [newBytes, St.push]))).trans f3⟩
      · unfold ref01_Num
        simp only [n_bind, n_map, getL_0, getL_1, getL_2, getL_3, getL_4, getL_5, getL_6, getL_7, getL_8, getL_9, getL_10, getL_11, getL_12, condV_t, condV_f, guardV_tt, guardV_ff, guardV_tf, guardV_ft, guardV_u, apick_t, apick_f, exV_exit, exV_ret, lookE_same, joinK_eq, seqA_n, seqA_e, seqA_r, e_add, e_sub, e_mul, e_eql, e_neq, e_lss, e_leq, e_gtr, e_geq, e_conv, e_not, e_neg, and_guard, or_guard, hc, hrem, wrapu8, hm, hw, hb, hquo, ref01_Num_call, g1, f1]
        rcases f2 with ⟨rfl, _⟩ | ⟨b, len, rfl, _⟩ <;> rfl
      · rw [encF, if_neg hn, ← List.singleton_append, bv_append]
        exact f2

end Go.Proofs.YtckpcelchhmjcaaGreat.Ab

/- Texts, numbers in four bytes, and what is known of the octet functions. -/
namespace Go.Proofs.YtckpcelchhmjcaaGreat.Ab
open Go

/-! ### Numbers: as they are known -/
def tup3 (n k : Nat) (e : Int) : Value := .tuple #[.int .u64 (n : Int), .int .i64 (k : Int), .int .i64 e]
def gReadNum : Sum := fun xs s => (match xs with | [v] => (bytesOf v s).map fun l => tup3 (readNum l).1 (readNum l).2.1 (readNum l).2.2 | _ => none).map fun v => (v, s)
def gNum : Sum := fun xs s => (match xs with | [.int .u64 a] => if 0 ≤ a ∧ a < 18446744073709551616 then some (enc a.toNat) else none | _ => none).map fun l => newBytes l s

theorem gReadNum_eq {v : Value} {s : St} {l : List UInt8} (h : bytesOf v s = some l) : gReadNum [v] s = some (tup3 (readNum l).1 (readNum l).2.1 (readNum l).2.2, s) := by
  simp only [gReadNum, h, Option.map_some]
theorem gNum_eq {n : Nat} {s : St} (h : n < 18446744073709551616) : gNum [.int .u64 (n : Int)] s = some (newBytes (enc n) s) := by
  simp only [gNum]
  rw [if_pos (by omega)]
  rfl

theorem ReadNum_sum {lib : Lib} (hl : lib 125 = none) : SumOk Tryz.prog lib hints 125 gReadNum :=
  SumOk.plain (G := fun xs s => match xs with | [v] => (bytesOf v s).map fun l => tup3 (readNum l).1 (readNum l).2.1 (readNum l).2.2 | _ => none) fun xs s v h => by
    split at h
    · simp only [Option.map_eq_some_iff] at h
      obtain ⟨l, hl2, rfl⟩ := h
      exact ⟨rfl, _, octet_ReadNum_of hl (ReadNum_run (by rw [bytesOf_frz]; exact hl2))⟩
    · cases h
theorem Num_sum {lib : Lib} (hl : lib 94 = none) : SumOk Tryz.prog lib hints 94 gNum :=
  SumOk.bytes (G := fun xs _ => match xs with | [.int .u64 a] => if 0 ≤ a ∧ a < 18446744073709551616 then some (enc a.toNat) else none | _ => none) fun xs s l h => by
    split at h
    · rename_i a
      split at h
      · rename_i ha
        cases h
        obtain ⟨n, rfl⟩ := Int.eq_ofNat_of_zero_le ha.1
        obtain ⟨v, s', h1, h2, _⟩ := Num_run (R := run Tryz.prog lib hints) (n := n) (by omega) (frzS s)
        rw [frzS_len] at h2
        exact ⟨enc_ne, v, s', octet_Num_of hl h1, h2⟩
      · cases h
    · cases h
theorem refNum_sum {lib : Lib} (hl : lib 95 = none) : SumOk Tryz.prog lib hints 95 gNum :=
  SumOk.bytes (G := fun xs _ => match xs with | [.int .u64 a] => if 0 ≤ a ∧ a < 18446744073709551616 then some (enc a.toNat) else none | _ => none) fun xs s l h => by
    split at h
    · rename_i a
      split at h
      · rename_i ha
        cases h
        obtain ⟨n, rfl⟩ := Int.eq_ofNat_of_zero_le ha.1
        have hn : n < 18446744073709551616 := by omega
        obtain ⟨v, s', h1, h2, _⟩ := refNum_run hl 9 n (Nat.lt_of_lt_of_le hn (by decide)) hn (by omega) (frzS s)
        rw [frzS_len] at h2
        exact ⟨enc_ne, v, s', h1, h2⟩
      · cases h
    · cases h

/-! ### The reference's reading of numbers -/
theorem rdN_k : ∀ {l : List UInt8} {i n : Nat} {r : Nat × Nat × Int}, rdN i n l = some r → (r.2.2 = 0 ∨ r.2.2 = 11) ∧ (r.2.2 ≠ 0 → r.1 = 0 ∧ r.2.1 = 0) ∧ (r.2.2 = 0 → i < r.2.1 ∧ r.2.1 ≤ i + l.length)
  | [], i, n, r, h => by simp [rdN] at h
  | c :: l, i, n, r, h => by
    simp only [rdN] at h
    split at h
    · cases h; simp
    · split at h
      · split at h
        · cases h; simp
        · cases h; simp
      · obtain ⟨h1, h2, h3⟩ := rdN_k h
        refine ⟨h1, h2, fun e => ?_⟩
        have := h3 e
        simp
        omega
theorem readNum_k (l : List UInt8) : (readNum l).2.2 = 0 → 0 < (readNum l).2.1 ∧ (readNum l).2.1 ≤ l.length := by
  unfold readNum
  cases h : rdN 0 0 l with
  | none => intro e; simp at e
  | some r => intro e; have := (rdN_k h).2.2 e; simp at this ⊢; omega

/-! ### Texts -/
theorem readNum_lt (l : List UInt8) : (readNum l).1 < 18446744073709551616 := by
  have key : ∀ (l : List UInt8) (i n : Nat) (r : Nat × Nat × Int), i ≤ 9 → n < 2 ^ (7 * i) → rdN i n l = some r → r.1 < 18446744073709551616 := by
    intro l
    induction l with
    | nil => intro i n r _ _ h; simp [rdN] at h
    | cons c l ih =>
      intro i n r hi hn h
      have hc128 : c.toNat % 128 < 128 := Nat.mod_lt _ (by omega)
      simp only [rdN] at h
      split at h
      · cases h; simp
      · rename_i h9
        have e : 2 ^ (7 * (i + 1)) = 128 * 2 ^ (7 * i) := by rw [show 7 * (i + 1) = 7 + 7 * i by omega, Nat.pow_add]
        have hnext : n + c.toNat % 128 * 2 ^ (7 * i) < 2 ^ (7 * (i + 1)) := by
          rw [e]
          have : (c.toNat % 128 + 1) * 2 ^ (7 * i) ≤ 128 * 2 ^ (7 * i) := Nat.mul_le_mul_right _ (by omega)
          rw [Nat.add_mul] at this
          omega
        split at h
        · rename_i hlt
          split at h
          · cases h; simp
          · cases h
            show n + c.toNat % 128 * 2 ^ (7 * i) < 18446744073709551616
            by_cases h8 : i ≤ 8
            · exact Nat.lt_of_lt_of_le hnext (Nat.le_trans (Nat.pow_le_pow_right (by omega) (show 7 * (i + 1) ≤ 63 by omega)) (by decide))
            · have e9 : i = 9 := by omega
              subst e9
              have h1 : c.toNat % 128 ≤ 1 := by omega
              have h2 : c.toNat % 128 * 2 ^ (7 * 9) ≤ 1 * 2 ^ (7 * 9) := Nat.mul_le_mul_right _ h1
              have h3 : (2 : Nat) ^ (7 * 9) = 9223372036854775808 := by decide
              omega
        · have hi8 : i ≤ 8 := by omega
          exact ih (i + 1) _ r (by omega) hnext h
  unfold readNum
  cases h : rdN 0 0 l with
  | none => simp
  | some r => exact key l 0 0 r (by omega) (by simp) h


end Go.Proofs.YtckpcelchhmjcaaGreat.Ab

/- The two ways to read a number are one. -/
namespace Go.Proofs.YtckpcelchhmjcaaGreat.Ab
open Go

/-- the value, whatever the bytes -/
def hn : List UInt8 → Nat
  | [] => 0
  | c :: l => hn l * 128 + c.toNat % 128
def High (l : List UInt8) : Prop := ∀ c ∈ l, 128 ≤ c.toNat
/-- as numbers are written -/
def Canon (u : List UInt8) : Prop := ∃ pre c, u = pre ++ [c] ∧ High pre ∧ c.toNat < 128 ∧ (c.toNat = 0 → pre = [])

theorem hn_encF : ∀ (k n : Nat), n < 128 ^ k → hn (encF k n) = n
  | 0, n, h => by simp at h; subst h; rfl
  | k + 1, n, h => by
    simp only [encF]
    split
    · simp only [hn, ofNat_toNat (show n < 256 by omega)]; omega
    · rw [Nat.pow_succ] at h
      simp only [hn, ofNat_toNat (show n % 128 + 128 < 256 by omega), hn_encF k (n / 128) (by omega)]
      omega
theorem encF_canon : ∀ (k n : Nat), n < 128 ^ (k + 1) → ∃ pre c, encF (k + 1) n = pre ++ [c] ∧ High pre ∧ c.toNat < 128 ∧ (c.toNat = 0 → n = 0 ∧ pre = [])
  | 0, n, h => by
    have hn : n < 128 := by simpa using h
    refine ⟨[], UInt8.ofNat n, by simp [encF, hn], fun c hc => by simp at hc, by rw [ofNat_toNat (by omega)]; exact hn, fun e => ⟨by rw [ofNat_toNat (by omega)] at e; exact e, rfl⟩⟩
  | k + 1, n, h => by
    by_cases hn : n < 128
    · refine ⟨[], UInt8.ofNat n, by simp [encF, hn], fun c hc => by simp at hc, by rw [ofNat_toNat (by omega)]; exact hn, fun e => ⟨by rw [ofNat_toNat (by omega)] at e; exact e, rfl⟩⟩
    · rw [Nat.pow_succ] at h
      obtain ⟨pre, c, h1, h2, h3, h4⟩ := encF_canon k (n / 128) (by omega)
      refine ⟨UInt8.ofNat (n % 128 + 128) :: pre, c, by rw [encF, if_neg hn, h1]; rfl, fun x hx => ?_, h3, fun e => ?_⟩
      · rcases List.mem_cons.1 hx with rfl | hx
        · rw [ofNat_toNat (by omega)]; omega
        · exact h2 x hx
      · have := (h4 e).1; omega
theorem enc_canon {n : Nat} (h : n < 18446744073709551616) : Canon (enc n) := by
  obtain ⟨pre, c, h1, h2, h3, h4⟩ := encF_canon 9 n (Nat.lt_of_lt_of_le h (by decide))
  exact ⟨pre, c, h1, h2, h3, fun e => (h4 e).2⟩
theorem hn_append : ∀ (pre l : List UInt8), hn (pre ++ l) = hn pre + 128 ^ pre.length * hn l
  | [], l => by simp [hn]
  | c :: pre, l => by
    simp only [List.cons_append, hn, hn_append pre l, List.length_cons, Nat.pow_succ]
    rw [Nat.add_mul, Nat.mul_assoc, Nat.mul_comm (hn l) 128, ← Nat.mul_assoc]
    omega

theorem rdN_low : ∀ (pre : List UInt8) (c : UInt8) (rest : List UInt8) (i n : Nat), High pre → c.toNat < 128 → i + pre.length ≤ 9 →
    rdN i n (pre ++ c :: rest) = if i + pre.length = 9 ∧ 1 < c.toNat then some (0, 0, 11) else if c.toNat = 0 ∧ 0 < i + pre.length then some (0, 0, 11) else some (n + 2 ^ (7 * i) * hn (pre ++ [c]), i + pre.length + 1, 0)
  | [], c, rest, i, n, _, hc, hi => by
    simp only [List.nil_append, rdN, List.length_nil, Nat.add_zero]
    split
    · rfl
    · split
      · rfl
      · simp only [hn, Nat.zero_mul, Nat.zero_add]
        rw [Nat.mul_comm]
  | x :: pre, c, rest, i, n, hp, hc, hi => by
    have hx : 128 ≤ x.toNat := hp x (by simp)
    simp only [List.length_cons] at hi
    rw [List.cons_append, rdN, if_neg (by omega), if_neg (by omega), rdN_low pre c rest (i + 1) _ (fun y hy => hp y (by simp [hy])) hc (by omega)]
    simp only [List.length_cons]
    rw [show i + 1 + pre.length = i + (pre.length + 1) by omega]
    split
    · rfl
    · split
      · rfl
      · congr 2
        simp only [List.cons_append, hn]
        rw [show 7 * (i + 1) = 7 + 7 * i by omega, Nat.pow_add, Nat.mul_add, Nat.add_assoc]
        congr 1
        rw [Nat.mul_comm (x.toNat % 128), Nat.add_comm, show (2 : Nat) ^ 7 = 128 from rfl, ← Nat.mul_assoc, Nat.mul_comm 128 (2 ^ (7 * i)), Nat.mul_assoc, Nat.mul_comm 128, Nat.mul_assoc]
theorem rdN_high : ∀ (l : List UInt8) (i n : Nat), i ≤ 9 → High (l.take (10 - i)) → rdN i n l = if i + l.length ≤ 9 then none else some (0, 0, 11)
  | [], i, n, hi, _ => by simp [rdN, hi]
  | x :: l, i, n, hi, hp => by
    obtain ⟨k, hk⟩ : ∃ k, 10 - i = k + 1 := ⟨9 - i, by omega⟩
    rw [hk] at hp
    have hx : 128 ≤ x.toNat := hp x (by simp)
    by_cases h9 : i = 9
    · subst h9
      rw [rdN, if_pos ⟨rfl, by omega⟩, if_neg (by simp)]
    · rw [rdN, if_neg (by omega), if_neg (by omega), rdN_high l (i + 1) _ (by omega) (fun y hy => hp y (by
        rw [show 10 - (i + 1) = k by omega] at hy
        simp [hy]))]
      simp only [List.length_cons]
      rw [show i + 1 + l.length = i + (l.length + 1) by omega]

end Go.Proofs.YtckpcelchhmjcaaGreat.Ab

/- Texts. -/
namespace Go.Proofs.YtckpcelchhmjcaaGreat.Ab
open Go

def readText (l : List UInt8) (most : Int) : List UInt8 × Nat × Int :=
  if (readNum l).2.2 ≠ 0 then ([], 0, (readNum l).2.2)
  else if most < 0 ∨ most < (readNum l).1 then ([], 0, 2)
  else if l.length - (readNum l).2.1 < (readNum l).1 then ([], 0, 10)
  else ((l.drop (readNum l).2.1).take (readNum l).1, (readNum l).2.1 + (readNum l).1, 0)
def tupT (t : List UInt8) (k : Nat) (e : Int) : Value := .tuple #[.string ⟨t.toArray⟩, .int .i64 (k : Int), .int .i64 e]

theorem ReadText_run {R : Caller} (hR : ∀ xs s, R 125 xs s = gReadNum xs s) {s : St} {v : Value} {l : List UInt8} (h : bytesOf v s = some l) (hl : l.length ≤ 150000000000000) {most : Int} (hm1 : -9223372036854775808 ≤ most) (hm2 : most < 9223372036854775808) :
    octet_ReadText R v (.int .i64 most) s = some (tupT (readText l most).1 (readText l most).2.1 (readText l most).2.2, s) := by
  have hk := readNum_k l
  have hn := readNum_lt l
  unfold octet_ReadText
  simp only [octet_ReadNum_call, hR, gReadNum_eq h, n_bind, n_map, getL_0, getL_1, getL_2, getL_3, getL_4, getL_5, getL_6, getL_7, getL_8, getL_9, getL_10, getL_11, getL_12, condV_t, condV_f, guardV_tt, guardV_ff, guardV_tf, guardV_ft, guardV_u, apick_t, apick_f, exV_exit, exV_ret, lookE_same, joinK_eq, seqA_n, seqA_e, seqA_r, e_add, e_sub, e_mul, e_eql, e_neq, e_lss, e_leq, e_gtr, e_geq, e_conv, e_not, e_neg, and_guard, or_guard, tup3]
  simp only [aextract, List.getElem?_cons_zero, List.getElem?_cons_succ, isTup, Bool.false_eq_true, if_false, n_bind, n_map, getL_0, getL_1, getL_2, getL_3, getL_4, getL_5, getL_6, getL_7, getL_8, getL_9, getL_10, getL_11, getL_12, condV_t, condV_f, guardV_tt, guardV_ff, guardV_tf, guardV_ft, guardV_u, apick_t, apick_f, exV_exit, exV_ret, lookE_same, joinK_eq, seqA_n, seqA_e, seqA_r, e_add, e_sub, e_mul, e_eql, e_neq, e_lss, e_leq, e_gtr, e_geq, e_conv, e_not, e_neg, and_guard, or_guard]
  unfold readText
  generalize readNum l = r at *
  obtain ⟨n, k, e⟩ := r
  simp only at hk hn ⊢
  by_cases he : e = 0
  · subst he
    have hk := hk rfl
    have hb0 : ((0 : Int) != 0) = false := rfl
    simp only [hb0, n_bind, n_map, getL_0, getL_1, getL_2, getL_3, getL_4, getL_5, getL_6, getL_7, getL_8, getL_9, getL_10, getL_11, getL_12, condV_t, condV_f, guardV_tt, guardV_ff, guardV_tf, guardV_ft, guardV_u, apick_t, apick_f, exV_exit, exV_ret, lookE_same, joinK_eq, seqA_n, seqA_e, seqA_r, e_add, e_sub, e_mul, e_eql, e_neq, e_lss, e_leq, e_gtr, e_geq, e_conv, e_not, e_neg, and_guard, or_guard, ne_eq, not_true_eq_false, if_false]
    by_cases hmn : most < 0 ∨ most < (n : Int)
    · have hb : (decide (most < 0) || decide ((n : Int) > IntKind.wrap .u64 most)) = true := by
        by_cases h0 : most < 0
        · simp [h0]
        · rw [wrap_u64 (by omega) (by omega)]; simp; omega
      simp only [hb, n_bind, n_map, getL_0, getL_1, getL_2, getL_3, getL_4, getL_5, getL_6, getL_7, getL_8, getL_9, getL_10, getL_11, getL_12, condV_t, condV_f, guardV_tt, guardV_ff, guardV_tf, guardV_ft, guardV_u, apick_t, apick_f, exV_exit, exV_ret, lookE_same, joinK_eq, seqA_n, seqA_e, seqA_r, e_add, e_sub, e_mul, e_eql, e_neq, e_lss, e_leq, e_gtr, e_geq, e_conv, e_not, e_neg, and_guard, or_guard, if_pos hmn]
      rfl
    · have hb : (decide (most < 0) || decide ((n : Int) > IntKind.wrap .u64 most)) = false := by
        rw [wrap_u64 (by omega) (by omega)]; simp; omega
      have hsub : IntKind.wrap .i64 (((l.length : Nat) : Int) - (k : Int)) = ((l.length - k : Nat) : Int) := by rw [wrap_i64 (by omega) (by omega)]; omega
      have hsub2 : IntKind.wrap .u64 ((l.length - k : Nat) : Int) = ((l.length - k : Nat) : Int) := wrap_u64 (by omega) (by omega)
      simp only [hb, n_bind, n_map, getL_0, getL_1, getL_2, getL_3, getL_4, getL_5, getL_6, getL_7, getL_8, getL_9, getL_10, getL_11, getL_12, condV_t, condV_f, guardV_tt, guardV_ff, guardV_tf, guardV_ft, guardV_u, apick_t, apick_f, exV_exit, exV_ret, lookE_same, joinK_eq, seqA_n, seqA_e, seqA_r, e_add, e_sub, e_mul, e_eql, e_neq, e_lss, e_leq, e_gtr, e_geq, e_conv, e_not, e_neg, and_guard, or_guard, if_neg hmn, bytes_len h, hsub, hsub2]
      by_cases hs : l.length - k < n
      · have hb2 : decide ((n : Int) > ((l.length - k : Nat) : Int)) = true := by simp; omega
        simp only [hb2, n_bind, n_map, getL_0, getL_1, getL_2, getL_3, getL_4, getL_5, getL_6, getL_7, getL_8, getL_9, getL_10, getL_11, getL_12, condV_t, condV_f, guardV_tt, guardV_ff, guardV_tf, guardV_ft, guardV_u, apick_t, apick_f, exV_exit, exV_ret, lookE_same, joinK_eq, seqA_n, seqA_e, seqA_r, e_add, e_sub, e_mul, e_eql, e_neq, e_lss, e_leq, e_gtr, e_geq, e_conv, e_not, e_neg, and_guard, or_guard, if_pos hs]
        rfl
      · have hb2 : decide ((n : Int) > ((l.length - k : Nat) : Int)) = false := by simp; omega
        have hw1 : IntKind.wrap .i64 (n : Int) = (n : Int) := wrap_i64 (by omega) (by omega)
        have hw2 : IntKind.wrap .i64 ((k : Int) + (n : Int)) = ((k + n : Nat) : Int) := by rw [wrap_i64 (by omega) (by omega)]; push_cast; rfl
        obtain ⟨u, hu1, hu2⟩ := bytes_slice h (lo := some (.int .i64 (k : Int))) (hi := some (.int .i64 ((k + n : Nat) : Int))) (mx := none) (i := k) (j := k + n) (by simp [abound]) (by simp [abound]; omega) (by omega) (by omega) (.inl rfl)
        simp only [hb2, n_bind, n_map, getL_0, getL_1, getL_2, getL_3, getL_4, getL_5, getL_6, getL_7, getL_8, getL_9, getL_10, getL_11, getL_12, condV_t, condV_f, guardV_tt, guardV_ff, guardV_tf, guardV_ft, guardV_u, apick_t, apick_f, exV_exit, exV_ret, lookE_same, joinK_eq, seqA_n, seqA_e, seqA_r, e_add, e_sub, e_mul, e_eql, e_neq, e_lss, e_leq, e_gtr, e_geq, e_conv, e_not, e_neg, and_guard, or_guard, if_neg hs, hw1, hw2, hu1, bytes_str hu2]
        rw [show k + n - k = n by omega]
        rfl
  · have hb0 : (e != 0) = true := by simpa using he
    simp only [hb0, n_bind, n_map, getL_0, getL_1, getL_2, getL_3, getL_4, getL_5, getL_6, getL_7, getL_8, getL_9, getL_10, getL_11, getL_12, condV_t, condV_f, guardV_tt, guardV_ff, guardV_tf, guardV_ft, guardV_u, apick_t, apick_f, exV_exit, exV_ret, lookE_same, joinK_eq, seqA_n, seqA_e, seqA_r, e_add, e_sub, e_mul, e_eql, e_neq, e_lss, e_leq, e_gtr, e_geq, e_conv, e_not, e_neg, and_guard, or_guard, ne_eq, he, not_false_eq_true, if_true]
    rfl

def textB (t : ByteArray) : List UInt8 := enc t.size ++ t.data.toList
theorem textB_ne {t : ByteArray} : textB t ≠ [] := by unfold textB; simp [enc_ne]
theorem Text_run {R : Caller} (hR : ∀ xs s, R 94 xs s = gNum xs s) {t : ByteArray} (ht : t.size ≤ 140737488300000) (s : St) : ∃ v s', octet_Text R (.string t) s = some (v, s') ∧ Own s.heap.length 1 s' v (bv (textB t)) ∧ Ext s.heap.length s s' := by
  have hO := newBytes_own (N := s.heap.length) (l := enc t.size) (s := s) (Nat.le_refl _) enc_ne
  have hE := newBytes_ext (N := s.heap.length) (l := enc t.size) (s := s) (Nat.le_refl _)
  have hlen := @enc_len t.size
  have hbl : (bytesV t).length = t.size := by simp [bytesV]
  obtain ⟨v, s', h1, h2, h3⟩ := own_append (w := 1) hO (by simp [newBytes, St.push]) (by omega) (by omega) (y := .string t) (m := t.size) rfl (show elemsOf 1 (.string t) _ = some (bytesV t) from rfl) (by rw [hbl]; omega) (by rw [bv_length, hbl]; omega)
  unfold octet_Text
  have hw : IntKind.wrap .u64 ((t.size : Nat) : Int) = ((t.size : Nat) : Int) := wrap_u64 (by omega) (by omega)
  simp only [e_lenS, n_bind, n_map, getL_0, getL_1, getL_2, getL_3, getL_4, getL_5, getL_6, getL_7, getL_8, getL_9, getL_10, getL_11, getL_12, condV_t, condV_f, guardV_tt, guardV_ff, guardV_tf, guardV_ft, guardV_u, apick_t, apick_f, exV_exit, exV_ret, lookE_same, joinK_eq, seqA_n, seqA_e, seqA_r, e_add, e_sub, e_mul, e_eql, e_neq, e_lss, e_leq, e_gtr, e_geq, e_conv, e_not, e_neg, and_guard, or_guard, octet_Num_call]
  rw [hw, hR, gNum_eq (show t.size < 18446744073709551616 by omega)]
  simp only [n_bind, n_map, getL_0, getL_1, getL_2, getL_3, getL_4, getL_5, getL_6, getL_7, getL_8, getL_9, getL_10, getL_11, getL_12, condV_t, condV_f, guardV_tt, guardV_ff, guardV_tf, guardV_ft, guardV_u, apick_t, apick_f, exV_exit, exV_ret, lookE_same, joinK_eq, seqA_n, seqA_e, seqA_r, e_add, e_sub, e_mul, e_eql, e_neq, e_lss, e_leq, e_gtr, e_geq, e_conv, e_not, e_neg, and_guard, or_guard, h1]
  rw [bytesV_eq, ← bv_append] at h2
  refine ⟨v, s', ?_, h2, hE.trans h3⟩
  rcases h2 with ⟨rfl, _⟩ | ⟨b, len, rfl, _⟩ <;> rfl
theorem refText_run {R : Caller} (hR : ∀ xs s, R 95 xs s = gNum xs s) {t : ByteArray} (ht : t.size ≤ 140737488300000) (s : St) : ∃ v s', ref01_Text R (.string t) s = some (v, s') ∧ Own s.heap.length 1 s' v (bv (textB t)) ∧ Ext s.heap.length s s' := by
  have hO := newBytes_own (N := s.heap.length) (l := enc t.size) (s := s) (Nat.le_refl _) enc_ne
  have hE := newBytes_ext (N := s.heap.length) (l := enc t.size) (s := s) (Nat.le_refl _)
  have hlen := @enc_len t.size
  have hbl : (bytesV t).length = t.size := by simp [bytesV]
  obtain ⟨v, s', h1, h2, h3⟩ := own_append (w := 1) hO (by simp [newBytes, St.push]) (by omega) (by omega) (y := .string t) (m := t.size) rfl (show elemsOf 1 (.string t) _ = some (bytesV t) from rfl) (by rw [hbl]; omega) (by rw [bv_length, hbl]; omega)
  unfold ref01_Text
  have hw : IntKind.wrap .u64 ((t.size : Nat) : Int) = ((t.size : Nat) : Int) := wrap_u64 (by omega) (by omega)
  simp only [e_lenS, n_bind, n_map, getL_0, getL_1, getL_2, getL_3, getL_4, getL_5, getL_6, getL_7, getL_8, getL_9, getL_10, getL_11, getL_12, condV_t, condV_f, guardV_tt, guardV_ff, guardV_tf, guardV_ft, guardV_u, apick_t, apick_f, exV_exit, exV_ret, lookE_same, joinK_eq, seqA_n, seqA_e, seqA_r, e_add, e_sub, e_mul, e_eql, e_neq, e_lss, e_leq, e_gtr, e_geq, e_conv, e_not, e_neg, and_guard, or_guard, ref01_Num_call]
  rw [hw, hR, gNum_eq (show t.size < 18446744073709551616 by omega)]
  simp only [n_bind, n_map, getL_0, getL_1, getL_2, getL_3, getL_4, getL_5, getL_6, getL_7, getL_8, getL_9, getL_10, getL_11, getL_12, condV_t, condV_f, guardV_tt, guardV_ff, guardV_tf, guardV_ft, guardV_u, apick_t, apick_f, exV_exit, exV_ret, lookE_same, joinK_eq, seqA_n, seqA_e, seqA_r, e_add, e_sub, e_mul, e_eql, e_neq, e_lss, e_leq, e_gtr, e_geq, e_conv, e_not, e_neg, and_guard, or_guard, h1]
  rw [bytesV_eq, ← bv_append] at h2
  refine ⟨v, s', ?_, h2, hE.trans h3⟩
  rcases h2 with ⟨rfl, _⟩ | ⟨b, len, rfl, _⟩ <;> rfl

end Go.Proofs.YtckpcelchhmjcaaGreat.Ab

/- Numbers and texts as bytes: what is known of the functions of layer 1. -/
namespace Go.Proofs.YtckpcelchhmjcaaGreat.Ab
open Go

def gReadText : Sum := fun xs s => (match xs with | [v, .int .i64 m] => if -9223372036854775808 ≤ m ∧ m < 9223372036854775808 then (bytesOf v s).bind fun l => if l.length ≤ 150000000000000 then some (tupT (readText l m).1 (readText l m).2.1 (readText l m).2.2) else none else none | _ => none).map fun v => (v, s)
theorem readText_sum {lib : Lib} {f : FuncId} (h : ∀ v s l m, bytesOf v s = some l → l.length ≤ 150000000000000 → -9223372036854775808 ≤ m → m < 9223372036854775808 → run Tryz.prog lib hints f [v, .int .i64 m] s = some (tupT (readText l m).1 (readText l m).2.1 (readText l m).2.2, s)) : SumOk Tryz.prog lib hints f gReadText :=
  SumOk.plain (G := fun xs s => match xs with | [v, .int .i64 m] => if -9223372036854775808 ≤ m ∧ m < 9223372036854775808 then (bytesOf v s).bind fun l => if l.length ≤ 150000000000000 then some (tupT (readText l m).1 (readText l m).2.1 (readText l m).2.2) else none else none | _ => none) fun xs s v hh => by
    split at hh
    · rename_i v0 m
      split at hh
      · rename_i hm
        simp only [Option.bind_eq_some_iff] at hh
        obtain ⟨l, h1, h2⟩ := hh
        split at h2
        · rename_i hl
          cases h2
          exact ⟨rfl, _, h v0 (frzS s) l m (by rw [bytesOf_frz]; exact h1) hl hm.1 hm.2⟩
        · cases h2
      · cases hh
    · cases hh

def gText : Sum := fun xs s => (match xs with | [.string t] => if t.size ≤ 140737488300000 then some (textB t) else none | _ => none).map fun l => newBytes l s
theorem gText_eq {t : ByteArray} {s : St} (h : t.size ≤ 140737488300000) : gText [.string t] s = some (newBytes (textB t) s) := by
  simp only [gText, if_pos h, Option.map_some]
theorem text_sum {lib : Lib} {f : FuncId} (h : ∀ t s, t.size ≤ 140737488300000 → ∃ v s', run Tryz.prog lib hints f [.string t] s = some (v, s') ∧ Own s.heap.length 1 s' v (bv (textB t))) : SumOk Tryz.prog lib hints f gText :=
  SumOk.bytes (G := fun xs _ => match xs with | [.string t] => if t.size ≤ 140737488300000 then some (textB t) else none | _ => none) fun xs s l hh => by
    split at hh
    · rename_i t
      split at hh
      · rename_i ht
        cases hh
        obtain ⟨v, s', h1, h2⟩ := h t (frzS s) ht
        rw [frzS_len] at h2
        exact ⟨textB_ne, v, s', h1, h2⟩
      · cases hh
    · cases hh

theorem text_known {lib : Lib} (hl : lib 130 = none) (hN : lib 94 = some gNum) : SumOk Tryz.prog lib hints 130 gText := text_sum fun t s ht => by
  obtain ⟨v, s', h1, h2, _⟩ := Text_run (R := run Tryz.prog lib hints) (fun xs s => known hN) ht s
  exact ⟨v, s', octet_Text_of hl h1, h2⟩
theorem refText_known {lib : Lib} (hl : lib 96 = none) (hN : lib 95 = some gNum) : SumOk Tryz.prog lib hints 96 gText := text_sum fun t s ht => by
  obtain ⟨v, s', h1, h2, _⟩ := refText_run (R := run Tryz.prog lib hints) (fun xs s => known hN) ht s
  exact ⟨v, s', ref01_Text_of hl h1, h2⟩
theorem readText_known {lib : Lib} (hl : lib 140 = none) (hN : lib 125 = some gReadNum) : SumOk Tryz.prog lib hints 140 gReadText := readText_sum fun v s l m h hl2 h1 h2 => octet_ReadText_of hl (ReadText_run (fun xs s => known hN) h hl2 h1 h2)
theorem bytes_lenV {s : St} {v : Value} {l : List UInt8} (h : bytesOf v s = some l) : lenV v = some l.length := by
  have h2 := bytes_len h (e := 0) (s2 := s)
  unfold bytesOf cellsOf at h
  split at h
  · simp only [Option.bind_some] at h
    cases h
    rfl
  · rw [e_len] at h2
    simp only [lenV]
    simp only [Option.some.injEq, Value.int.injEq, true_and] at h2
    congr 1
    omega
  · cases h
theorem bytes_elems {s : St} {v : Value} {l : List UInt8} (h : bytesOf v s = some l) : elemsOf 1 v s = some (bv l) := by
  unfold bytesOf at h
  simp only [Option.bind_eq_some_iff] at h
  obtain ⟨cs, h1, h2⟩ := h
  rw [elems_of h1, ubs_some h2]
/-- bytes appended to bytes of one's own -/
theorem own_more {N : Nat} {s : St} {x v : Value} {l m : List UInt8} (h : Own N 1 s x (bv l)) (hN : N ≤ s.heap.length) (hv : bytesOf v s = some m) (hb : l.length + m.length ≤ 140737488355328) :
    ∃ v' s', aappend 1 1 x v s = some (v', s') ∧ Own N 1 s' v' (bv (l ++ m)) ∧ Ext N s s' := by
  rw [bv_append]
  exact own_append h hN (by omega) (by omega) (bytes_lenV hv) (bytes_elems hv) (by rw [bv_length]; omega) (by rw [bv_length, bv_length]; omega)
/-- a byte written -/
theorem own_store {N : Nat} {s : St} {v : Value} {l : List UInt8} (h : Own N 1 s v (bv l)) {i : Nat} (hi : i < l.length) (x : UInt8) {k : IntKind} :
    ∃ p s', aindexS 1 v (.int k (i : Int)) = some p ∧ aload false 1 p s = some (.int .u8 ((l[i].toNat : Nat) : Int)) ∧ astore 1 p (.int .u8 ((x.toNat : Nat) : Int)) s = some s' ∧ Own N 1 s' v (bv (l.set i x)) ∧ Ext N s s' := by
  obtain ⟨p, h1, h2⟩ := bytes_at h.bytes hi (k := k)
  rcases h with ⟨_, h3⟩ | ⟨b, len, rfl, h4, h5, h6, h7⟩
  · have : l = [] := bv_inj (m := []) h3
    subst this
    simp at hi
  · rw [bv_length, Nat.mul_one] at h6
    have hp : p = .pointer (some ⟨b, i, none⟩) := by
      have : aindexS 1 (.slice (some ⟨b, 0, none⟩) len len) (.int k (i : Int)) = some (.pointer (some ⟨b, i, none⟩)) := by simp [aindexS]; omega
      rw [this] at h1
      exact (Option.some.inj h1).symm
    subst hp
    have hput : putCells (bv l) i [Value.int .u8 ((x.toNat : Nat) : Int)] = bv (l.set i x) := by
      have e : bv (l.set i x) = (bv l).set i (.int .u8 ((x.toNat : Nat) : Int)) := by simp only [bv, List.map_set]
      rw [e, List.set_eq_take_append_cons_drop, if_pos (by rw [bv_length]; exact hi)]
      simp only [putCells, List.length_cons, List.length_nil, List.append_assoc, List.singleton_append]
    refine ⟨_, s.putB b (.row 1 (bv (l.set i x)) .act), h1, h2, ?_, .inr ⟨b, len, rfl, h4, ?_, by rw [bv_length, List.length_set]; omega, h7⟩, ?_⟩
    · unfold astore
      simp only [cellsV, List.length_cons, List.length_nil, List.all_cons, List.all_nil, isLeaf]
      unfold writeN
      rw [h5]
      simp only [List.length_cons, List.length_nil, bv_length, hput]
      rw [if_pos (by simp), if_pos (by omega)]
    · have hb : b < s.heap.length := (List.getElem?_eq_some_iff.1 h5).1
      simp only [St.putB]
      rw [List.getElem?_set_self hb]
    · refine ⟨by simp [St.putB], fun c hc => ?_⟩
      simp only [St.putB]
      rw [List.getElem?_set_ne (by omega)]
/-- what is said of older bytes stays -/
theorem Ext.old {N : Nat} {s s' : St} (h : Ext N s s') {s0 : St} (h0 : Ext s0.heap.length s0 s) (hN : N = s0.heap.length) {v : Value} {l : List UInt8} (hv : bytesOf v s0 = some l) : bytesOf v s' = some l := by
  subst hN
  exact (h0.trans h).bytes hv

end Go.Proofs.YtckpcelchhmjcaaGreat.Ab

/- A function of no arguments, run by the kernel on an empty heap. -/
namespace Go.Proofs.YtckpcelchhmjcaaGreat.Ab
open Go

theorem Sim.empty (w : World) : Sim w.heap.size (fun _ => none) [] w where
  dom b x h := by cases h
  row b n cells st h := by simp at h
  map b es clock h := by simp at h
  excl a b h := by simp [ownB] at h
  size := Nat.le_refl _
  loc b n cells st h := by simp at h

def saysTrue (r : Option (Value × St)) : Bool := match r with
  | some (.bool true, _) => true
  | _ => false
theorem closed_calls {P : Program} {lib : Lib} {hints : Hints} (hprog : progW P = true) (hlib : LibOk P lib) {f : FuncId} (hok : funcOk P f = true) {j : Nat} (h : saysTrue (fnB P lib hints j f [] ⟨[]⟩) = true)
    {s : St} {wb : Nat} {ι : Emb} {w : World} {args' : Array Value} (hs : Sim wb ι s.heap w) (ha : All2 (VRel ι) [] args'.toList) : Calls P f args' w fun e w' => ∃ v', e = .returned v' ∧ After wb ι s.heap w s.heap (.bool true) v' w' := by
  unfold saysTrue at h
  split at h
  case h_2 => cases h
  rename_i t hr
  refine (fnB_sound hprog hlib j f [] ⟨[]⟩ _ _ hr hok w.heap.size (fun _ => none) w args' (Sim.empty w) (by
    obtain ⟨l⟩ := args'
    cases l with
    | nil => trivial
    | cons => exact ha.elim)).mono fun e w' ⟨v', he, κ, h1, h2, h3⟩ => ⟨v', he, ?_⟩
  have hsame : ∀ c, c < w.heap.size → w'.heap[c]? = w.heap[c]? := fun c hc => h2.keep c hc fun a y ha => by simp [ownB] at ha
  refine ⟨ι, hs.later hsame h2.size, ⟨.refl _, fun _ _ => rfl, fun b x hx hb => absurd (hs.dom b x hx) (by omega), fun c hc _ => hsame c hc, h2.size, h2.os, h2.tape, h2.output, Nat.le_refl _, fun _ _ h => h⟩, ?_⟩
  have : v' = .bool true := h3.inv_bool
  subst this
  exact .va (.l2 (.l1 (.l0 (.bool _))))

end Go.Proofs.YtckpcelchhmjcaaGreat.Ab

/- The chapter's examples: run by the kernel. -/
namespace Go.Proofs.YtckpcelchhmjcaaGreat.Ab
open Go

theorem live_says : saysTrue (fnB Tryz.prog (libL []) hints 60 6 [] ⟨[]⟩) = true := by kernel_rfl
def gTrue : Sum := gP (G0 (.bool true))
theorem true_eq {s : St} : gTrue [] s = some (.bool true, s) := rfl
theorem live_known {l : List (FuncId × Sum)} (_ : LibOk Tryz.prog (libL l)) : ∀ args s v s', gTrue args s = some (v, s') → ∀ wb ι w (args' : Array Value), Sim wb ι s.heap w → All2 (VRel ι) args args'.toList → Calls Tryz.prog 6 args' w fun e w' => ∃ v', e = .returned v' ∧ After wb ι s.heap w s'.heap v v' w' := by
  intro args s v s' h wb ι w args' hs ha
  unfold gTrue gP G0 at h
  simp only [Option.map_eq_some_iff] at h
  obtain ⟨u, h, e⟩ := h
  cases e
  split at h
  · cases h
    exact closed_calls progOk (libOk_nil _) law19_live_ok live_says hs ha
  · cases h
end Go.Proofs.YtckpcelchhmjcaaGreat.Ab

/- What is known at layer 19, level by level. -/
namespace Go.Proofs.YtckpcelchhmjcaaGreat.Ab
open Go

noncomputable def gEOr : Sum := gL owC fun l => .int .i64 (eO l)
def gOf : Sum := gP (G1O fun o => rv (o.lo, o.hi))
def gCkO : Sum := gP (G1O fun o => .int .i64 (ckO o))
theorem of_eq {o : OpT} {s : St} : gOf [oV o] s = some (rv (o.lo, o.hi), s) := rfl
theorem ckO_eq {o : OpT} {s : St} : gCkO [oV o] s = some (.int .i64 (ckO o), s) := rfl
def lib0 : List (FuncId × Sum) := []
theorem lib0_ok : LibOk Tryz.prog (libL lib0) := libOk_nil _
noncomputable def lib1 : List (FuncId × Sum) := (103, gKey) :: lib0
theorem lib1_ok : LibOk Tryz.prog (libL lib1) := libOk_cons progOk lib0_ok span_CheckKey_ok (sum1K fun k s => ⟨rfl, s, span_CheckKey_of rfl (CheckKey_run k s)⟩)
noncomputable def lib2 : List (FuncId × Sum) := (104, gAll) :: lib1
theorem lib2_ok : LibOk Tryz.prog (libL lib2) := libOk_cons progOk lib1_ok span_all_ok (sum0 fun s => ⟨rfl, s, span_all_of rfl (all_run s)⟩)
noncomputable def lib3 : List (FuncId × Sum) := (36, gChk) :: lib2
theorem lib3_ok : LibOk Tryz.prog (libL lib3) := libOk_cons progOk lib2_ok span_Check_ok (sum1R fun r s => ⟨rfl, s, span_Check_of rfl (Check_run (fun s => (known (g := gAll) rfl).trans all_eq) r s)⟩)
noncomputable def lib4 : List (FuncId × Sum) := (137, gForms) :: lib3
theorem lib4_ok : LibOk Tryz.prog (libL lib4) := libOk_cons progOk lib3_ok op_forms_ok (sum0 fun s => ⟨rfl, s, op_forms_of rfl (forms_run s)⟩)
noncomputable def lib5 : List (FuncId × Sum) := (107, gFm) :: lib4
theorem lib5_ok : LibOk Tryz.prog (libL lib5) := libOk_cons progOk lib4_ok op_formOf_ok (sum1I fun k s => ⟨form_plain k, s, op_formOf_of rfl (formOf_run (fun s => (known (g := gForms) rfl).trans forms_eq) k s)⟩)
noncomputable def lib6 : List (FuncId × Sum) := (108, gOf) :: lib5
theorem lib6_ok : LibOk Tryz.prog (libL lib6) := libOk_cons progOk lib5_ok op_of_ok (sum1O fun o s => ⟨rfl, s, op_of_of rfl (of_run o s)⟩)
noncomputable def lib7 : List (FuncId × Sum) := (41, gCkO) :: lib6
theorem lib7_ok : LibOk Tryz.prog (libL lib7) := libOk_cons progOk lib6_ok op_CheckOp_ok (sum1O fun o s => ⟨rfl, s, op_CheckOp_of rfl (CheckOp_run (fun k s => (known (g := gFm) rfl).trans fm_eq) (fun o s => (known (g := gOf) rfl).trans of_eq) (fun r s => (known (g := gChk) rfl).trans chk_eq) (fun k s => (known (g := gKey) rfl).trans key_eq) o s)⟩)
noncomputable def lib8 : List (FuncId × Sum) := (35, gEOr) :: lib7
theorem lib8_ok : LibOk Tryz.prog (libL lib8) := libOk_cons progOk lib7_ok owner_Check_ok (gL_sum (fun _ => rfl) fun v s l h hl => ⟨s, owner_Check_of rfl (owner_Check_run (fun k s => (known (g := gKey) rfl).trans key_eq) h hl)⟩)
noncomputable def lib9 : List (FuncId × Sum) := (110, gKey) :: lib8
theorem lib9_ok : LibOk Tryz.prog (libL lib9) := libOk_cons progOk lib8_ok ref02_CheckKey_ok (sum1K fun k s => ⟨rfl, s, ref02_CheckKey_of rfl (refCheckKey_run k s)⟩)
noncomputable def lib10 : List (FuncId × Sum) := (49, gChk) :: lib9
theorem lib10_ok : LibOk Tryz.prog (libL lib10) := libOk_cons progOk lib9_ok ref02_Check_ok (sum1R fun r s => ⟨rfl, s, ref02_Check_of rfl (refCheck_run r s)⟩)
noncomputable def lib11 : List (FuncId × Sum) := (48, gEOr) :: lib10
theorem lib11_ok : LibOk Tryz.prog (libL lib11) := libOk_cons progOk lib10_ok ref17_Check_ok (gL_sum (fun _ => rfl) fun v s l h hl => ⟨s, ref17_Check_of rfl (ref17_Check_run (fun k s => (known (g := gKey) rfl).trans key_eq) h hl)⟩)
noncomputable def lib12 : List (FuncId × Sum) := (111, gCkO) :: lib11
theorem lib12_ok : LibOk Tryz.prog (libL lib12) := libOk_cons progOk lib11_ok ref04_CheckOp_ok (sum1O fun o s => ⟨rfl, s, ref04_CheckOp_of rfl (refCheckOp_run (fun r s => (known (g := gChk) rfl).trans chk_eq) (fun k s => (known (g := gKey) rfl).trans key_eq) o s)⟩)
noncomputable def lib13 : List (FuncId × Sum) := (94, gNum) :: lib12
theorem lib13_ok : LibOk Tryz.prog (libL lib13) := libOk_cons progOk lib12_ok octet_Num_ok (Num_sum rfl)
noncomputable def lib14 : List (FuncId × Sum) := (95, gNum) :: lib13
theorem lib14_ok : LibOk Tryz.prog (libL lib14) := libOk_cons progOk lib13_ok ref01_Num_ok (refNum_sum rfl)
noncomputable def lib15 : List (FuncId × Sum) := (125, gReadNum) :: lib14
theorem lib15_ok : LibOk Tryz.prog (libL lib15) := libOk_cons progOk lib14_ok octet_ReadNum_ok (ReadNum_sum rfl)
noncomputable def lib16 : List (FuncId × Sum) := (140, gReadText) :: lib15
theorem lib16_ok : LibOk Tryz.prog (libL lib16) := libOk_cons progOk lib15_ok octet_ReadText_ok (readText_known rfl rfl)
noncomputable def lib17 : List (FuncId × Sum) := (130, gText) :: lib16
theorem lib17_ok : LibOk Tryz.prog (libL lib17) := libOk_cons progOk lib16_ok octet_Text_ok (text_known rfl rfl)
noncomputable def lib18 : List (FuncId × Sum) := (96, gText) :: lib17
theorem lib18_ok : LibOk Tryz.prog (libL lib18) := libOk_cons progOk lib17_ok ref01_Text_ok (refText_known rfl rfl)
noncomputable def lib19 : List (FuncId × Sum) := (6, gTrue) :: lib18
theorem lib19_ok : LibOk Tryz.prog (libL lib19) := libOk_direct progOk lib18_ok law19_live_ok (fun hl => live_known hl)
noncomputable abbrev libT := lib19
theorem libT_ok : LibOk Tryz.prog (libL libT) := lib19_ok
theorem k_live {s : St} : (run Tryz.prog (libL libT) hints) 6 [] s = some (.bool true, s) := (known (g := gTrue) rfl).trans true_eq
theorem k_chk (r : Rg) (s : St) : (run Tryz.prog (libL libT) hints) 36 [rv r] s = some (.int .i64 (eR r), s) := (known (g := gChk) rfl).trans chk_eq
theorem k_key (k : BL) (s : St) : (run Tryz.prog (libL libT) hints) 103 [sv k] s = some (.int .i64 (eK k), s) := (known (g := gKey) rfl).trans key_eq
theorem k_ckO (o : OpT) (s : St) : (run Tryz.prog (libL libT) hints) 41 [oV o] s = some (.int .i64 (ckO o), s) := (known (g := gCkO) rfl).trans ckO_eq
theorem k_chkO {v : Value} {s : St} {l : List Ow} (h : listOf owC v s = some l) (hl : l.length < 140737488355328) : (run Tryz.prog (libL libT) hints) 35 [v] s = some (.int .i64 (eO l), s) := (known (g := gEOr) rfl).trans (gL_eq h hl)

end Go.Proofs.YtckpcelchhmjcaaGreat.Ab

/- States are read: what each function of the program's reader reads. -/
namespace Go.Proofs.YtckpcelchhmjcaaGreat.Ab
open Go

def pNumR : Par Nat := fun r => if (readNum r).2.2 ≠ 0 then .error (readNum r).2.2 else .ok ((readNum r).1, r.drop (readNum r).2.1)
def pIntR : Par Nat := pNumR.bind fun n => if 255 < n then .fail 11 else .pure n
def pFlagR : Par Bool := fun r => match r with
  | [] => .error 10
  | c :: r => if 1 < c.toNat then .error 11 else .ok (c.toNat == 1, r)
def pText (most : Int) : Par BL := fun r => if (readText r most).2.2 = 2 then .error 11 else if (readText r most).2.2 ≠ 0 then .error (readText r most).2.2 else .ok ((readText r most).1, r.drop (readText r most).2.1)
section
variable {N : Nat} {s : St} {v : Value} {x : BL × Int}
end

end Go.Proofs.YtckpcelchhmjcaaGreat.Ab

/- States are read: lists. -/
namespace Go.Proofs.YtckpcelchhmjcaaGreat.Ab
open Go

noncomputable def manyB (n w : Nat) (z : List Value) (R : Caller) (T : List Value) (s : St) : Res :=
(abin Tryz.prog .gtr 3 (.tmp 9) (.const (.int .i64 0)) (getL T 3) (.int .i64 0)).bind fun v1 =>
(guardV v1 true ((anilCheck (getL T 0)).bind fun v2 =>
(afieldAddr 1 v2).bind fun v3 =>
(aload false 1 v3 s).bind fun v4 =>
(abin Tryz.prog .eql 38 (.tmp 15) (.const (.int .i64 0)) v4 (.int .i64 0)).bind fun v5 =>
some ([v5], s)) (some ([undef], s))).bind fun q6 =>
(apick v1 (getL q6.1 0) (.bool false)).bind fun v7 =>
condV v7
 ((callV Tryz.prog R (getL T 1) [] q6.2).bind fun r8 =>
(abuildSl n z 1 [(0, r8.1)] r8.2).bind fun r9 =>
(aappend n w (getL T 2) r9.1 r9.2).bind fun r10 =>
(abin Tryz.prog .sub 3 (.tmp 18) (.const (.int .i64 1)) (getL T 3) (.int .i64 1)).bind fun v11 =>
some (.normal, [(getL T 0), (getL T 1), r10.1, v11], r10.2))
 (some (.exit 0, [(getL T 2)], q6.2))

/-- a number, and so many of something -/
def pMany {α : Type} (p : Par α) : Par (List α) := pIntR.bind fun k => p.rep k
theorem Reads.run {α : Type} {N : Nat} {f g : St → Option (Value × St)} {ag : Bool} {O : OCod α} {p : Par α} (h : Reads N f ag O p) (hfg : ∀ s r, f s = some r → g s = some r) : Reads N g ag O p := by
  intro s x hx
  obtain ⟨a, u, cs, s', y, g1, g2⟩ := h s x hx
  exact ⟨a, u, cs, s', y, hfg s _ g1, g2⟩

end Go.Proofs.YtckpcelchhmjcaaGreat.Ab

/- Pairs, maps: whether two are the same. -/
namespace Go.Proofs.YtckpcelchhmjcaaGreat.Ab
open Go

end Go.Proofs.YtckpcelchhmjcaaGreat.Ab

/- Structs: whether two are the same. -/
namespace Go.Proofs.YtckpcelchhmjcaaGreat.Ab
open Go

def FieldsEq (P : Program) (d : Nat) (xs ys : Array Value) : List Field → List Bool → Prop
  | [], [] => True
  | f :: fs, e :: es => f.name ≠ "_" ∧ (∃ p q, pureRun P (part f.type xs f.offset) = some p ∧ pureRun P (part f.type ys f.offset) = some q ∧ pureRun P (Op.equalIn d f.type p q) = some e) ∧ FieldsEq P d xs ys fs es
  | _, _ => False
theorem forIn_fields {P : Program} {d : Nat} {xs ys : Array Value} : ∀ {fs : List Field} {es : List Bool}, FieldsEq P d xs ys fs es →
    pureRun P (ForIn.forIn fs ((none, ()) : Option Bool × Unit) (fun f __s =>
      if f.name ≠ "_" then do
        let __do_lift ← part f.type xs f.offset
        let __do_lift_1 ← part f.type ys f.offset
        let __do_lift ← Op.equalIn d f.type __do_lift __do_lift_1
        if (!__do_lift) = true then Pure.pure (ForInStep.done (some false, ()))
        else Pure.pure (ForInStep.yield (none, ()))
      else Pure.pure (ForInStep.yield (none, ()))) : Sem (Option Bool × Unit)) = some (if es.all id = true then none else some false, ())
  | [], [], _ => rfl
  | f :: fs, e :: es, ⟨hn, ⟨p, q, h1, h2, h3⟩, h⟩ => by
    have ih := forIn_fields h
    rw [List.forIn_cons, pr_bind, if_pos hn, pr_bind, h1, Option.bind_some, pr_bind, h2, Option.bind_some, pr_bind, h3, Option.bind_some]
    cases e with
    | false => rfl
    | true =>
      simp only [Bool.not_true, Bool.false_eq_true, if_false, pr_pure, Option.bind_some]
      rw [ih]
      rfl
theorem pr_struct {P : Program} {t : TypeId} {fs : Array Field} {d : Nat} {xs ys : Array Value} (hu : P.underlying t = some (.struct fs)) (hh : P.stoodInHeld t = false) {es : List Bool} (h : FieldsEq P d xs ys fs.toList es) : pureRun P (Op.equalIn (d + 1) t (.agg xs) (.agg ys)) = some (es.all id) := by
  unfold Op.equalIn
  rw [pr_bind, pr_und hu]
  simp only [Option.bind_some]
  rw [pr_bind, pr_program]
  simp only [Option.bind_some, hh, Bool.false_eq_true, if_false, pr_bind]
  have := forIn_fields h
  obtain ⟨l⟩ := fs
  simp only [List.forIn_toArray] at this ⊢
  rw [this]
  simp only [Option.bind_some]
  cases es.all id <;> rfl
theorem ab_eqlS {P : Program} {t : TypeId} {ox oy : Operand} {xs ys : List Value} {b : Bool} (hx : xs.all leafOk = true) (hy : ys.all leafOk = true) (hg : pureRun P (eqGuard .eql t ox oy (.agg xs.toArray) (.agg ys.toArray)) = some ()) (h : pureRun P (Op.equal t (.agg xs.toArray) (.agg ys.toArray)) = some b) : abin P .eql t ox oy (.agg xs.toArray) (.agg ys.toArray) = some (.bool b) := by
  unfold abin aggBin
  simp only
  have hc : (constOk (.agg xs.toArray) && constOk (.agg ys.toArray)) = true := by simp only [constOk, hx, hy, Bool.and_self]
  rw [if_pos hc, pr_bind, hg]
  simp only [Option.bind_some, binOp, pr_bind, h, pr_pure]
theorem in_str (n : Nat) (x y : BL) : pureRun Tryz.prog (Op.equalIn (n + 1) 9 (sv x) (sv y)) = some (x == y) := by
  unfold sv
  rw [pr_str Tryz.underlying9, bytes_beq]
theorem in_int {n : Nat} {t : TypeId} {k : IntKind} {x y : Int} (h : Tryz.prog.underlying t = some (.int k)) : pureRun Tryz.prog (Op.equalIn (n + 1) t (.int k x) (.int k y)) = some (x == y) := by
  unfold Op.equalIn
  rw [pr_bind, pr_und h]
  simp only [Option.bind_some, if_true, pr_pure]
end Go.Proofs.YtckpcelchhmjcaaGreat.Ab

/- Which state of a shard may be. -/
namespace Go.Proofs.YtckpcelchhmjcaaGreat.Ab
open Go

theorem call_cap {R : Caller} {f : FuncId} (h : funcOk Tryz.prog f = true) {fs cs xs : List Value} {s : St} : callV Tryz.prog R (.func (.func f) fs.toArray cs.toArray) xs s = R f (fs ++ xs ++ cs) s := by
  simp [callV, h]
theorem ad_atR {B i j : Nat} : afieldAddr i (.pointer (some ⟨B, j, none⟩)) = some (.pointer (some ⟨B, j + i, none⟩)) := rfl
theorem ext_get {s t : St} {b : Nat} {B : Blk} (h : s.heap[b]? = some B) (hx : Ext s.heap.length s t) : t.heap[b]? = some B := by
  rw [hx.2 b (List.getElem?_eq_some_iff.1 h).1]
  exact h
theorem ld_two {s : St} {B n i : Nat} {cells : List Value} {st : Stat} {a b : Value} (h : s.heap[B]? = some (.row n cells st)) (hst : st ≠ .dead) (ha : cells[i]? = some a) (hb : cells[i + 1]? = some b) : aload true 2 (.pointer (some ⟨B, i, none⟩)) s = some (.agg #[a, b]) := by
  have hr : readRow s B = some cells := by
    unfold Ab.readRow
    rw [h]
    cases st with
    | dead => exact absurd rfl hst
    | act => rfl
    | ro => rfl
  obtain ⟨h1, h2⟩ := List.getElem?_eq_some_iff.1 hb
  obtain ⟨h3, h4⟩ := List.getElem?_eq_some_iff.1 ha
  simp only [aload, if_true, readN, hr, Option.bind_some]
  rw [if_pos (by omega)]
  have : (cells.drop i).take 2 = [a, b] := by
    rw [List.drop_eq_getElem_cons h3, List.drop_eq_getElem_cons h1, h4, h2]
    rfl
  rw [this]
  rfl

/-! ### A state in memory -/
def sdCells (d : Sd) (ow he fi : Value) : List Value := [.int .i64 d.id, .int .u64 d.boot, .int .u64 d.ver, .int .u64 d.epoch, .int .u64 d.move, ow, he, fi, .int .u64 d.low, .int .u64 d.frozen, sv d.cold.1, sv d.cold.2, .int .u64 d.im, .int .u64 d.ia, .int .u64 d.inx, sv d.ir.1, sv d.ir.2]
structure SdIn (d : Sd) (s : St) (ow he fi : Value) : Prop where
  ow : ListN (.ofC owC fun _ => True) 24 d.owners s ow
  he : ListN hoN 32 d.held s he
  fi : ListN (wfN .u64) 8 d.fin s fi
  wid : (Lit.int .i64 d.id).wf = true
  wboot : (Lit.int .u64 d.boot).wf = true
  wver : (Lit.int .u64 d.ver).wf = true
  wepoch : (Lit.int .u64 d.epoch).wf = true
  wmove : (Lit.int .u64 d.move).wf = true
  wlow : (Lit.int .u64 d.low).wf = true
  wfrozen : (Lit.int .u64 d.frozen).wf = true
  wim : (Lit.int .u64 d.im).wf = true
  wia : (Lit.int .u64 d.ia).wf = true
  winx : (Lit.int .u64 d.inx).wf = true
theorem SdIn.ext {d : Sd} {s t : St} {ow he fi : Value} (h : SdIn d s ow he fi) (hx : Ext s.heap.length s t) : SdIn d t ow he fi :=
  ⟨h.ow.ext hx, h.he.ext hx, h.fi.ext hx, h.wid, h.wboot, h.wver, h.wepoch, h.wmove, h.wlow, h.wfrozen, h.wim, h.wia, h.winx⟩
theorem sd_inv {d : Sd} {s : St} {cs : List Value} (h : sdN.rel d s cs) : ∃ ow he fi, cs = sdCells d ow he fi ∧ SdIn d s ow he fi := by
  obtain ⟨_, _, rfl, ⟨rfl, w0⟩, _, _, rfl, ⟨rfl, w1⟩, _, _, rfl, ⟨rfl, w2⟩, _, _, rfl, ⟨rfl, w3⟩, _, _, rfl, ⟨rfl, w4⟩, _, _, rfl, ⟨ow, rfl, how⟩, _, _, rfl, ⟨he, rfl, hhe⟩, _, _, rfl, ⟨fi, rfl, hfi⟩, _, _, rfl, ⟨rfl, w5⟩, _, _, rfl, ⟨rfl, w6⟩, _, _, rfl, ⟨rfl, _⟩, _, _, rfl, ⟨_, _, rfl, ⟨rfl, w7⟩, _, _, rfl, ⟨rfl, w8⟩, _, _, rfl, ⟨rfl, w9⟩, _, _, rfl, ⟨rfl, _⟩, rfl⟩, rfl⟩ := h
  exact ⟨ow, he, fi, rfl, how, hhe, hfi, w0, w1, w2, w3, w4, w5, w6, w7, w8, w9⟩
theorem SdIn.rel {d : Sd} {s : St} {ow he fi : Value} (h : SdIn d s ow he fi) : sdN.rel d s (sdCells d ow he fi) :=
  ⟨_, _, rfl, ⟨rfl, h.wid⟩, _, _, rfl, ⟨rfl, h.wboot⟩, _, _, rfl, ⟨rfl, h.wver⟩, _, _, rfl, ⟨rfl, h.wepoch⟩, _, _, rfl, ⟨rfl, h.wmove⟩, _, _, rfl, ⟨ow, rfl, h.ow⟩, _, _, rfl, ⟨he, rfl, h.he⟩, _, _, rfl, ⟨fi, rfl, h.fi⟩, _, _, rfl, ⟨rfl, h.wlow⟩, _, _, rfl, ⟨rfl, h.wfrozen⟩, _, _, rfl, ⟨rfl, trivial⟩, _, _, rfl, ⟨_, _, rfl, ⟨rfl, h.wim⟩, _, _, rfl, ⟨rfl, h.wia⟩, _, _, rfl, ⟨rfl, h.winx⟩, _, _, rfl, ⟨rfl, trivial⟩, rfl⟩, rfl⟩
theorem sd_leaf {d : Sd} {s : St} {ow he fi : Value} (h : SdIn d s ow he fi) : (sdCells d ow he fi).all isLeaf = true := by
  have h1 := listN_leafR h.ow
  have h2 := listN_leafR h.he
  have h3 := listN_leafR h.fi
  simp only [sdCells, List.all_cons, h1, h2, h3, List.all_nil]
  rfl

/-! ### The closures of CheckShard -/
theorem ho_inv {h : Ho} {s : St} {cs : List Value} (r : hoN.rel h s cs) : ∃ o, cs = [.int .u64 h.1, o] ∧ (Lit.int .u64 h.1).wf = true ∧ ListN (.ofC opC fun _ => True) 80 h.2 s o := by
  obtain ⟨_, _, rfl, ⟨rfl, w⟩, _, _, rfl, ⟨o, rfl, h1⟩, rfl⟩ := r
  exact ⟨o, rfl, w, h1⟩
theorem lbox_cs {cs : List Value} (h : cs.all isLeaf = true) : lbox (.agg cs.toArray) = some (.agg cs.toArray) := by
  have hc : cellsV (.agg cs.toArray) = cs := by simp [cellsV]
  unfold lbox
  rw [hc, if_pos h]
theorem op_shape {o : OpT} {t : St} {u : Value} {cs : List Value} (h : (NCod.ofC opC fun _ => True).rel o t cs) (g : Shape true u cs) : u = oV o := by
  obtain ⟨rfl, _⟩ := h
  exact g
theorem chk1_asks {s0 : St} {l : List OpT} : Asks (run Tryz.prog (libL libT) hints) (.ofC opC fun _ => True) true s0 l (.func (.func 40) #[] #[]) fun o => !(ckO o == 0) := by
  intro o _ t u cs _ hr hs
  obtain rfl := op_shape hr hs
  refine ⟨t, ?_, .refl _ _⟩
  rw [record_CheckShard_1_1_call]
  refine record_CheckShard_1_1_of rfl ?_
  have hb : lbox (oV o) = some (oV o) := rfl
  have hl : lload true 6 lptr (oV o) = some (oV o) := rfl
  have hne : (ckO o != 0) = !(ckO o == 0) := rfl
  unfold record_CheckShard_1_1
  simp only [hb, hl, op_CheckOp_call, k_ckO, hne, n_bind, n_map, getL_0, getL_1, getL_2, getL_3, getL_4, getL_5, getL_6, getL_7, getL_8, getL_9, getL_10, getL_11, getL_12, condV_t, condV_f, guardV_tt, guardV_ff, guardV_tf, guardV_ft, guardV_u, apick_t, apick_f, exV_exit, exV_ret, lookE_same, joinK_eq, seqA_n, seqA_e, seqA_r, e_add, e_sub, e_mul, e_eql, e_neq, e_lss, e_leq, e_gtr, e_geq, e_conv, e_not, e_neg, and_guard, or_guard]
  exact ret1 rfl
theorem contains_op {s : St} {v fv : Value} {l : List OpT} {p : OpT → Bool} (h : ListN (.ofC opC fun _ => True) 80 l s v) (hp : Asks (run Tryz.prog (libL libT) hints) (.ofC opC fun _ => True) true s l fv p) : ∃ t, (run Tryz.prog (libL libT) hints) 39 [v, fv] s = some (.bool (l.any p), t) ∧ Ext s.heap.length s t := by
  have hl : l.length < 140737488355328 := by
    have h1 : l.length * 80 ≤ 140737488351232 := h.1
    omega
  obtain ⟨k, t, h1, h2, h3⟩ := contains_gen (t1 := 72) (n := 6) rfl (.inl rfl) h hl hp
  refine ⟨t, slices_ContainsFunc_api_Op_api_Op_of rfl ?_, h3⟩
  have h4 := slices_IndexFunc_api_Op_api_Op_of (lib := libL libT) rfl h1
  unfold slices_ContainsFunc_api_Op_api_Op
  simp only [slices_IndexFunc_api_Op_api_Op_call, h4, h2, n_bind, n_map, getL_0, getL_1, getL_2, getL_3, getL_4, getL_5, getL_6, getL_7, getL_8, getL_9, getL_10, getL_11, getL_12, condV_t, condV_f, guardV_tt, guardV_ff, guardV_tf, guardV_ft, guardV_u, apick_t, apick_f, exV_exit, exV_ret, lookE_same, joinK_eq, seqA_n, seqA_e, seqA_r, e_add, e_sub, e_mul, e_eql, e_neq, e_lss, e_leq, e_gtr, e_geq, e_conv, e_not, e_neg, and_guard, or_guard]
  exact ret1 rfl
/-- a number is in a list -/
theorem index_loop {R : Caller} {s : St} {v : Value} {l : List Int} {x : Int} (h : ListN (wfN .u64) 8 l s v) (hl : l.length < 140737488355328) : ∀ (rest : List Int) (i : Nat), l.drop i = rest → i ≤ l.length →
    loopL (slices_Index_uint64_uint64.b0 R) [v, .int .u64 x, .int .i64 ((l.length : Nat) : Int), .int .i64 (i : Int)] s = match idxP (fun n => x == n) i rest with | some k => some (.ret, [.int .i64 (k : Int)], s) | none => some (.exit 0, [], s) := by
  intro rest
  induction rest with
  | nil =>
    intro i hi hle
    have h1 : decide ((i : Int) < ((l.length : Nat) : Int)) = false := by
      have := List.drop_eq_nil_iff.1 hi
      simp; omega
    rw [loopL_eq]
    simp only [slices_Index_uint64_uint64.b0, h1, idxP, n_bind, n_map, getL_0, getL_1, getL_2, getL_3, getL_4, getL_5, getL_6, getL_7, getL_8, getL_9, getL_10, getL_11, getL_12, condV_t, condV_f, guardV_tt, guardV_ff, guardV_tf, guardV_ft, guardV_u, apick_t, apick_f, exV_exit, exV_ret, lookE_same, joinK_eq, seqA_n, seqA_e, seqA_r, e_add, e_sub, e_mul, e_eql, e_neq, e_lss, e_leq, e_gtr, e_geq, e_conv, e_not, e_neg, and_guard, or_guard]
  | cons a rest ih =>
    intro i hi hle
    obtain ⟨hlt, he, hd⟩ := drop_nx hi
    have h1 : decide ((i : Int) < ((l.length : Nat) : Int)) = true := by simp; omega
    obtain ⟨q, u, cs, h2, h3, _, h4, h5⟩ := listN_get h hlt (n := 1) rfl (ag := false) (.inr rfl)
    rw [he] at h5
    have hu : u = .int .u64 a := by
      obtain ⟨e, _⟩ := h5
      have h4 : cs = [u] := h4
      rw [h4] at e
      exact (List.cons.inj e).1
    subst hu
    have nx := ih (i + 1) hd (by omega)
    rw [loopL_eq]
    rcases Bool.eq_false_or_eq_true (x == a) with c | c
    · simp only [slices_Index_uint64_uint64.b0, h1, h2, h3, c, idxP, if_true, n_bind, n_map, getL_0, getL_1, getL_2, getL_3, getL_4, getL_5, getL_6, getL_7, getL_8, getL_9, getL_10, getL_11, getL_12, condV_t, condV_f, guardV_tt, guardV_ff, guardV_tf, guardV_ft, guardV_u, apick_t, apick_f, exV_exit, exV_ret, lookE_same, joinK_eq, seqA_n, seqA_e, seqA_r, e_add, e_sub, e_mul, e_eql, e_neq, e_lss, e_leq, e_gtr, e_geq, e_conv, e_not, e_neg, and_guard, or_guard]
    · simp only [slices_Index_uint64_uint64.b0, h1, h2, h3, c, idxP, Bool.false_eq_true, if_false, inc_i (show i < 140737488355328 by omega), n_bind, n_map, getL_0, getL_1, getL_2, getL_3, getL_4, getL_5, getL_6, getL_7, getL_8, getL_9, getL_10, getL_11, getL_12, condV_t, condV_f, guardV_tt, guardV_ff, guardV_tf, guardV_ft, guardV_u, apick_t, apick_f, exV_exit, exV_ret, lookE_same, joinK_eq, seqA_n, seqA_e, seqA_r, e_add, e_sub, e_mul, e_eql, e_neq, e_lss, e_leq, e_gtr, e_geq, e_conv, e_not, e_neg, and_guard, or_guard]
      exact nx
theorem contains_u {s : St} {v : Value} {l : List Int} {x : Int} (h : ListN (wfN .u64) 8 l s v) : (run Tryz.prog (libL libT) hints) 38 [v, .int .u64 x] s = some (.bool (l.any fun n => x == n), s) := by
  have hl : l.length < 140737488355328 := by
    have h1 : l.length * 8 ≤ 140737488351232 := h.1
    omega
  have k1 := index_loop (R := (run Tryz.prog (libL libT) hints)) (x := x) h hl l 0 rfl (Nat.zero_le _)
  rw [show ((0 : Nat) : Int) = 0 from rfl] at k1
  have ha := idxP_any (p := fun n => x == n) (l := l) (i := 0)
  have hidx : ∃ k : Int, (run Tryz.prog (libL libT) hints) 105 [v, .int .u64 x] s = some (.int .i64 k, s) ∧ decide (k ≥ 0) = l.any fun n => x == n := by
    cases hk : idxP (fun n => x == n) 0 l with
    | none =>
      rw [hk] at k1 ha
      refine ⟨-1, slices_Index_uint64_uint64_of rfl ?_, by rw [← ha]; rfl⟩
      unfold slices_Index_uint64_uint64
      simp only [listN_lenR h, k1, ret_1 (v := .int .i64 (-1)) rfl, n_bind, n_map, getL_0, getL_1, getL_2, getL_3, getL_4, getL_5, getL_6, getL_7, getL_8, getL_9, getL_10, getL_11, getL_12, condV_t, condV_f, guardV_tt, guardV_ff, guardV_tf, guardV_ft, guardV_u, apick_t, apick_f, exV_exit, exV_ret, lookE_same, joinK_eq, seqA_n, seqA_e, seqA_r, e_add, e_sub, e_mul, e_eql, e_neq, e_lss, e_leq, e_gtr, e_geq, e_conv, e_not, e_neg, and_guard, or_guard]
    | some k =>
      rw [hk] at k1 ha
      refine ⟨(k : Int), slices_Index_uint64_uint64_of rfl ?_, by rw [← ha]; simp⟩
      unfold slices_Index_uint64_uint64
      simp only [listN_lenR h, k1, ret_1 (v := .int .i64 (k : Int)) rfl, n_bind, n_map, getL_0, getL_1, getL_2, getL_3, getL_4, getL_5, getL_6, getL_7, getL_8, getL_9, getL_10, getL_11, getL_12, condV_t, condV_f, guardV_tt, guardV_ff, guardV_tf, guardV_ft, guardV_u, apick_t, apick_f, exV_exit, exV_ret, lookE_same, joinK_eq, seqA_n, seqA_e, seqA_r, e_add, e_sub, e_mul, e_eql, e_neq, e_lss, e_leq, e_gtr, e_geq, e_conv, e_not, e_neg, and_guard, or_guard]
  obtain ⟨k, h1, h2⟩ := hidx
  refine slices_Contains_uint64_uint64_of rfl ?_
  unfold slices_Contains_uint64_uint64
  simp only [slices_Index_uint64_uint64_call, h1, h2, n_bind, n_map, getL_0, getL_1, getL_2, getL_3, getL_4, getL_5, getL_6, getL_7, getL_8, getL_9, getL_10, getL_11, getL_12, condV_t, condV_f, guardV_tt, guardV_ff, guardV_tf, guardV_ft, guardV_u, apick_t, apick_f, exV_exit, exV_ret, lookE_same, joinK_eq, seqA_n, seqA_e, seqA_r, e_add, e_sub, e_mul, e_eql, e_neq, e_lss, e_leq, e_gtr, e_geq, e_conv, e_not, e_neg, and_guard, or_guard]
  exact ret1 rfl
def badHo (fin : List Int) (h : Ho) : Bool := ((((h.2.length : Int) == 0) || decide ((h.2.length : Int) > 24)) || fin.any (fun n => h.1 == n)) || h.2.any fun o => !(ckO o == 0)
theorem bad_asks {d : Sd} {s1 : St} {N : Nat} {ow he fi : Value} (hN : s1.heap[N]? = some (.row 0 (sdCells d ow he fi) .act)) (hs : SdIn d s1 ow he fi) : Asks (run Tryz.prog (libL libT) hints) hoN true s1 d.held (.func (.func 37) #[] #[.pointer (some ⟨N, 0, none⟩)]) (badHo d.fin) := by
  intro h _ t u cs hx hr hsh
  have hsh : u = .agg cs.toArray := hsh
  subst hsh
  obtain ⟨o, rfl, w, ho⟩ := ho_inv hr
  have hl : lbox (.agg #[.int .u64 h.1, o]) = some (.agg #[.int .u64 h.1, o]) := lbox_cs (cs := [.int .u64 h.1, o]) (by simp only [List.all_cons, listN_leafR ho, List.all_nil]; rfl)
  have l0 : lload false 1 lptr (.agg #[.int .u64 h.1, o]) = some (.int .u64 h.1) := rfl
  have l1 : lload false 1 (.pointer (some ⟨0, 1, none⟩)) (.agg #[.int .u64 h.1, o]) = some o := rfl
  have f7 : aload false 1 (.pointer (some ⟨N, 7, none⟩)) t = some fi := ld_cell (ext_get hN hx) (by simp) rfl
  have hc := contains_u (x := h.1) (hs.fi.ext hx)
  obtain ⟨t2, g1, g2⟩ := contains_op ho (chk1_asks (s0 := t) (l := h.2))
  have hcall : callV Tryz.prog (run Tryz.prog (libL libT) hints) (.func (.func 37) #[] #[.pointer (some ⟨N, 0, none⟩)]) [.agg [.int .u64 h.1, o].toArray] t = (run Tryz.prog (libL libT) hints) 37 [.agg #[.int .u64 h.1, o], .pointer (some ⟨N, 0, none⟩)] t := call_cap (fs := []) (cs := [.pointer (some ⟨N, 0, none⟩)]) record_CheckShard_1_ok
  rw [hcall]
  unfold badHo
  have len := listN_lenR ho
  have hr : ∀ b s, retV [.bool b] s = some (.bool b, s) := fun b s => ret1 rfl
  rcases Bool.eq_false_or_eq_true (((((h.2.length : Nat) : Int) == 0) || decide (((h.2.length : Nat) : Int) > 24)) || d.fin.any fun n => h.1 == n) with c | c
  · refine ⟨t, record_CheckShard_1_of rfl ?_, .refl _ _⟩
    unfold record_CheckShard_1
    simp only [hl, l1, len, ad_atR, Nat.zero_add, f7, l0, slices_Contains_uint64_uint64_call, hc, n_bind, n_map, getL_0, getL_1, getL_2, getL_3, getL_4, getL_5, getL_6, getL_7, getL_8, getL_9, getL_10, getL_11, getL_12, condV_t, condV_f, guardV_tt, guardV_ff, guardV_tf, guardV_ft, guardV_u, apick_t, apick_f, exV_exit, exV_ret, lookE_same, joinK_eq, seqA_n, seqA_e, seqA_r, e_add, e_sub, e_mul, e_eql, e_neq, e_lss, e_leq, e_gtr, e_geq, e_conv, e_not, e_neg, and_guard, or_guard, c, hr, Bool.true_or]
  · refine ⟨t2, record_CheckShard_1_of rfl ?_, g2⟩
    unfold record_CheckShard_1
    simp only [hl, l1, len, ad_atR, Nat.zero_add, f7, l0, slices_Contains_uint64_uint64_call, hc, n_bind, n_map, getL_0, getL_1, getL_2, getL_3, getL_4, getL_5, getL_6, getL_7, getL_8, getL_9, getL_10, getL_11, getL_12, condV_t, condV_f, guardV_tt, guardV_ff, guardV_tf, guardV_ft, guardV_u, apick_t, apick_f, exV_exit, exV_ret, lookE_same, joinK_eq, seqA_n, seqA_e, seqA_r, e_add, e_sub, e_mul, e_eql, e_neq, e_lss, e_leq, e_gtr, e_geq, e_conv, e_not, e_neg, and_guard, or_guard, c, slices_ContainsFunc_api_Op_api_Op_call, g1, hr, Bool.false_or]

end Go.Proofs.YtckpcelchhmjcaaGreat.Ab
