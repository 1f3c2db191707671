/- Texts of this proof, packed: OpLists, BList2, OpAll, OpPure, BList3, SamePr, OpAll2, OpLib, BLive, JuLive, BArgL, BNest, BOwn, BRead, LnGet, OpArg, SameVal. -/
import Derived.Test.YtccindbiodofmaaPk4
import Derived.ChangeArms
import Derived.DataReads
import Derived.SizedLaws
import Derived.ChangeSame
import Derived.WideShapes
set_option linter.unusedVariables false
set_option linter.unusedSimpArgs false
set_option linter.unusedSectionVars false
/- Lists of operations, and maps: which may be; what operations touch. -/
namespace Go.Proofs.Ytccindbiodofmaa.Ab
open Go

theorem sv_inj {a b : BL} (h : sv a = sv b) : a = b := by
  unfold sv at h
  injection h with h
  have := congrArg (fun x : ByteArray => x.data.toList) h
  simpa using this
theorem int_inj {k : IntKind} {a b : Int} (h : Value.int k a = .int k b) : a = b := by injection h
def prC : Cod Rg where
  n := 2
  enc r := [sv r.1, sv r.2]
  pos := by decide
  len _ := rfl
  inj a b h := by
    simp only [List.cons.injEq, and_true] at h
    exact Prod.ext (sv_inj h.1) (sv_inj h.2)
  leaf _ := rfl
def opC : Cod OpT where
  n := 6
  enc := oC
  pos := by decide
  len _ := rfl
  inj a b h := by
    obtain ⟨a1, a2, a3, a4, a5, a6⟩ := a
    obtain ⟨b1, b2, b3, b4, b5, b6⟩ := b
    simp only [oC, List.cons.injEq, and_true] at h
    obtain ⟨h1, h2, h3, h4, h5, h6⟩ := h
    rw [int_inj h1, sv_inj h2, sv_inj h3, sv_inj h4, sv_inj h5, int_inj h6]
  leaf _ := rfl
theorem pr_enc (r : Rg) : Value.agg (prC.enc r).toArray = rv r := rfl
theorem op_enc (o : OpT) : Value.agg (opC.enc o).toArray = oV o := rfl
theorem inc_i64 {n : Nat} (h : n < 140737488355328) : IntKind.wrap .i64 ((n : Int) + 1) = ((n + 1 : Nat) : Int) := by rw [wrap_i64 (by omega) (by omega)]; omega
theorem drop_get {α : Type} {l rest : List α} {a : α} {i : Nat} (h : l.drop i = a :: rest) : ∃ hi : i < l.length, l[i] = a ∧ l.drop (i + 1) = rest := by
  have hi : i < l.length := by
    rcases Nat.lt_or_ge i l.length with h1 | h1
    · exact h1
    · rw [List.drop_eq_nil_of_le h1] at h; cases h
  refine ⟨hi, ?_, ?_⟩
  · rw [List.drop_eq_getElem_cons hi] at h
    exact (List.cons.inj h).1
  · rw [List.drop_eq_getElem_cons hi] at h
    exact (List.cons.inj h).2

/-! ### All operations -/
def allE : List OpT → Int
  | [] => 0
  | o :: l => if ckO o = 0 then allE l else ckO o
theorem allE_cons (o : OpT) (l : List OpT) : allE (o :: l) = if ckO o = 0 then allE l else ckO o := rfl
def chkE (l : List OpT) : Int := if l.length = 0 ∨ 4 < l.length then 3 else allE l
def endR (e : Int) : Ex × List Value := if e = 0 then (.exit 0, []) else (.ret, [.int .i64 e])
theorem all_loop {R : Caller} (hC : ∀ o s, R 53 [oV o] s = some (.int .i64 (ckO o), s)) {v : Value} {s : St} {l : List OpT} (h : listOf opC v s = some l) (hl : l.length < 140737488355328) : ∀ (rest : List OpT) (i : Nat), l.drop i = rest → i ≤ l.length →
    loopL (op_all.b0 R) [v, .int .i64 ((l.length : Nat) : Int), .int .i64 (i : Int)] s = some ((endR (allE rest)).1, (endR (allE rest)).2, s) := by
  intro rest
  induction rest with
  | nil =>
    intro i hi hle
    have h1 : decide ((i : Int) < ((l.length : Nat) : Int)) = false := by
      have := List.drop_eq_nil_iff.1 hi
      simp; omega
    rw [loopL_eq]
    simp only [op_all.b0, h1, n_bind, n_map, getL_0, getL_1, getL_2, getL_3, getL_4, getL_5, getL_6, getL_7, getL_8, getL_9, getL_10, getL_11, getL_12, condV_t, condV_f, guardV_tt, guardV_ff, guardV_tf, guardV_ft, guardV_u, apick_t, apick_f, exV_exit, exV_ret, lookE_same, joinK_eq, seqA_n, seqA_e, seqA_r, e_add, e_sub, e_mul, e_eql, e_neq, e_lss, e_leq, e_gtr, e_geq, e_conv, e_not, e_neg, and_guard, or_guard]
    rfl
  | cons o rest ih =>
    intro i hi hle
    obtain ⟨hlt, he, hd⟩ := drop_get hi
    have h1 : decide ((i : Int) < ((l.length : Nat) : Int)) = true := by simp; omega
    obtain ⟨p, h2, h3⟩ := list_at h hlt (k := .i64) (n := 6) rfl
    rw [op_enc, he] at h3
    rw [loopL_eq]
    simp only [op_all.b0, h1, h2, h3, o_st, o_all, op_CheckOp_call, hC, n_bind, n_map, getL_0, getL_1, getL_2, getL_3, getL_4, getL_5, getL_6, getL_7, getL_8, getL_9, getL_10, getL_11, getL_12, condV_t, condV_f, guardV_tt, guardV_ff, guardV_tf, guardV_ft, guardV_u, apick_t, apick_f, exV_exit, exV_ret, lookE_same, joinK_eq, seqA_n, seqA_e, seqA_r, e_add, e_sub, e_mul, e_eql, e_neq, e_lss, e_leq, e_gtr, e_geq, e_conv, e_not, e_neg, and_guard, or_guard]
    by_cases h4 : ckO o = 0
    · have h5 : (ckO o != 0) = false := by simp [h4]
      simp only [h5, inc_i64 (show i < 140737488355328 by omega), n_bind, n_map, getL_0, getL_1, getL_2, getL_3, getL_4, getL_5, getL_6, getL_7, getL_8, getL_9, getL_10, getL_11, getL_12, condV_t, condV_f, guardV_tt, guardV_ff, guardV_tf, guardV_ft, guardV_u, apick_t, apick_f, exV_exit, exV_ret, lookE_same, joinK_eq, seqA_n, seqA_e, seqA_r, e_add, e_sub, e_mul, e_eql, e_neq, e_lss, e_leq, e_gtr, e_geq, e_conv, e_not, e_neg, and_guard, or_guard]
      rw [ih (i + 1) hd (by omega)]
      rw [allE_cons, if_pos h4]
    · have h5 : (ckO o != 0) = true := by simp [h4]
      simp only [h5, n_bind, n_map, getL_0, getL_1, getL_2, getL_3, getL_4, getL_5, getL_6, getL_7, getL_8, getL_9, getL_10, getL_11, getL_12, condV_t, condV_f, guardV_tt, guardV_ff, guardV_tf, guardV_ft, guardV_u, apick_t, apick_f, exV_exit, exV_ret, lookE_same, joinK_eq, seqA_n, seqA_e, seqA_r, e_add, e_sub, e_mul, e_eql, e_neq, e_lss, e_leq, e_gtr, e_geq, e_conv, e_not, e_neg, and_guard, or_guard]
      rw [allE_cons, if_neg h4]
      unfold endR
      rw [if_neg h4]
theorem all_run' {R : Caller} (hC : ∀ o s, R 53 [oV o] s = some (.int .i64 (ckO o), s)) {v : Value} {s : St} {l : List OpT} (h : listOf opC v s = some l) (hl : l.length < 140737488355328) : op_all R v s = some (.int .i64 (allE l), s) := by
  have h1 := all_loop hC h hl l 0 rfl (Nat.zero_le _)
  rw [show ((0 : Nat) : Int) = 0 from rfl] at h1
  unfold op_all
  simp only [list_len h, h1, n_bind, n_map, getL_0, getL_1, getL_2, getL_3, getL_4, getL_5, getL_6, getL_7, getL_8, getL_9, getL_10, getL_11, getL_12, condV_t, condV_f, guardV_tt, guardV_ff, guardV_tf, guardV_ft, guardV_u, apick_t, apick_f, exV_exit, exV_ret, lookE_same, joinK_eq, seqA_n, seqA_e, seqA_r, e_add, e_sub, e_mul, e_eql, e_neq, e_lss, e_leq, e_gtr, e_geq, e_conv, e_not, e_neg, and_guard, or_guard]
  unfold endR
  by_cases h2 : allE l = 0
  · simp only [if_pos h2, n_bind, n_map, getL_0, getL_1, getL_2, getL_3, getL_4, getL_5, getL_6, getL_7, getL_8, getL_9, getL_10, getL_11, getL_12, condV_t, condV_f, guardV_tt, guardV_ff, guardV_tf, guardV_ft, guardV_u, apick_t, apick_f, exV_exit, exV_ret, lookE_same, joinK_eq, seqA_n, seqA_e, seqA_r, e_add, e_sub, e_mul, e_eql, e_neq, e_lss, e_leq, e_gtr, e_geq, e_conv, e_not, e_neg, and_guard, or_guard, retV, h2]
    rfl
  · simp only [if_neg h2, n_bind, n_map, getL_0, getL_1, getL_2, getL_3, getL_4, getL_5, getL_6, getL_7, getL_8, getL_9, getL_10, getL_11, getL_12, condV_t, condV_f, guardV_tt, guardV_ff, guardV_tf, guardV_ft, guardV_u, apick_t, apick_f, exV_exit, exV_ret, lookE_same, joinK_eq, seqA_n, seqA_e, seqA_r, e_add, e_sub, e_mul, e_eql, e_neq, e_lss, e_leq, e_gtr, e_geq, e_conv, e_not, e_neg, and_guard, or_guard, retV]
    rfl
theorem refAll_loop {R : Caller} (hC : ∀ o s, R 32 [oV o] s = some (.int .i64 (ckO o), s)) {v : Value} {s : St} {l : List OpT} (h : listOf opC v s = some l) (hl : l.length < 140737488355328) : ∀ (rest : List OpT) (i : Nat), l.drop i = rest → i ≤ l.length →
    loopL (ref04_All.b0 R) [v, .int .i64 ((l.length : Nat) : Int), .int .i64 (i : Int)] s = some ((endR (allE rest)).1, (endR (allE rest)).2, s) := by
  intro rest
  induction rest with
  | nil =>
    intro i hi hle
    have h1 : decide ((i : Int) < ((l.length : Nat) : Int)) = false := by
      have := List.drop_eq_nil_iff.1 hi
      simp; omega
    rw [loopL_eq]
    simp only [ref04_All.b0, h1, n_bind, n_map, getL_0, getL_1, getL_2, getL_3, getL_4, getL_5, getL_6, getL_7, getL_8, getL_9, getL_10, getL_11, getL_12, condV_t, condV_f, guardV_tt, guardV_ff, guardV_tf, guardV_ft, guardV_u, apick_t, apick_f, exV_exit, exV_ret, lookE_same, joinK_eq, seqA_n, seqA_e, seqA_r, e_add, e_sub, e_mul, e_eql, e_neq, e_lss, e_leq, e_gtr, e_geq, e_conv, e_not, e_neg, and_guard, or_guard]
    rfl
  | cons o rest ih =>
    intro i hi hle
    obtain ⟨hlt, he, hd⟩ := drop_get hi
    have h1 : decide ((i : Int) < ((l.length : Nat) : Int)) = true := by simp; omega
    obtain ⟨p, h2, h3⟩ := list_at h hlt (k := .i64) (n := 6) rfl
    rw [op_enc, he] at h3
    rw [loopL_eq]
    simp only [ref04_All.b0, h1, h2, h3, o_st, o_all, ref04_CheckOp_call, hC, n_bind, n_map, getL_0, getL_1, getL_2, getL_3, getL_4, getL_5, getL_6, getL_7, getL_8, getL_9, getL_10, getL_11, getL_12, condV_t, condV_f, guardV_tt, guardV_ff, guardV_tf, guardV_ft, guardV_u, apick_t, apick_f, exV_exit, exV_ret, lookE_same, joinK_eq, seqA_n, seqA_e, seqA_r, e_add, e_sub, e_mul, e_eql, e_neq, e_lss, e_leq, e_gtr, e_geq, e_conv, e_not, e_neg, and_guard, or_guard]
    by_cases h4 : ckO o = 0
    · have h5 : (ckO o != 0) = false := by simp [h4]
      simp only [h5, inc_i64 (show i < 140737488355328 by omega), n_bind, n_map, getL_0, getL_1, getL_2, getL_3, getL_4, getL_5, getL_6, getL_7, getL_8, getL_9, getL_10, getL_11, getL_12, condV_t, condV_f, guardV_tt, guardV_ff, guardV_tf, guardV_ft, guardV_u, apick_t, apick_f, exV_exit, exV_ret, lookE_same, joinK_eq, seqA_n, seqA_e, seqA_r, e_add, e_sub, e_mul, e_eql, e_neq, e_lss, e_leq, e_gtr, e_geq, e_conv, e_not, e_neg, and_guard, or_guard]
      rw [ih (i + 1) hd (by omega)]
      rw [allE_cons, if_pos h4]
    · have h5 : (ckO o != 0) = true := by simp [h4]
      simp only [h5, n_bind, n_map, getL_0, getL_1, getL_2, getL_3, getL_4, getL_5, getL_6, getL_7, getL_8, getL_9, getL_10, getL_11, getL_12, condV_t, condV_f, guardV_tt, guardV_ff, guardV_tf, guardV_ft, guardV_u, apick_t, apick_f, exV_exit, exV_ret, lookE_same, joinK_eq, seqA_n, seqA_e, seqA_r, e_add, e_sub, e_mul, e_eql, e_neq, e_lss, e_leq, e_gtr, e_geq, e_conv, e_not, e_neg, and_guard, or_guard]
      rw [allE_cons, if_neg h4]
      unfold endR
      rw [if_neg h4]
theorem refAll_run {R : Caller} (hC : ∀ o s, R 32 [oV o] s = some (.int .i64 (ckO o), s)) {v : Value} {s : St} {l : List OpT} (h : listOf opC v s = some l) (hl : l.length < 140737488355328) : ref04_All R v s = some (.int .i64 (allE l), s) := by
  have h1 := refAll_loop hC h hl l 0 rfl (Nat.zero_le _)
  rw [show ((0 : Nat) : Int) = 0 from rfl] at h1
  unfold ref04_All
  simp only [list_len h, h1, n_bind, n_map, getL_0, getL_1, getL_2, getL_3, getL_4, getL_5, getL_6, getL_7, getL_8, getL_9, getL_10, getL_11, getL_12, condV_t, condV_f, guardV_tt, guardV_ff, guardV_tf, guardV_ft, guardV_u, apick_t, apick_f, exV_exit, exV_ret, lookE_same, joinK_eq, seqA_n, seqA_e, seqA_r, e_add, e_sub, e_mul, e_eql, e_neq, e_lss, e_leq, e_gtr, e_geq, e_conv, e_not, e_neg, and_guard, or_guard]
  unfold endR
  by_cases h2 : allE l = 0
  · simp only [if_pos h2, n_bind, n_map, getL_0, getL_1, getL_2, getL_3, getL_4, getL_5, getL_6, getL_7, getL_8, getL_9, getL_10, getL_11, getL_12, condV_t, condV_f, guardV_tt, guardV_ff, guardV_tf, guardV_ft, guardV_u, apick_t, apick_f, exV_exit, exV_ret, lookE_same, joinK_eq, seqA_n, seqA_e, seqA_r, e_add, e_sub, e_mul, e_eql, e_neq, e_lss, e_leq, e_gtr, e_geq, e_conv, e_not, e_neg, and_guard, or_guard, retV, h2]
    rfl
  · simp only [if_neg h2, n_bind, n_map, getL_0, getL_1, getL_2, getL_3, getL_4, getL_5, getL_6, getL_7, getL_8, getL_9, getL_10, getL_11, getL_12, condV_t, condV_f, guardV_tt, guardV_ff, guardV_tf, guardV_ft, guardV_u, apick_t, apick_f, exV_exit, exV_ret, lookE_same, joinK_eq, seqA_n, seqA_e, seqA_r, e_add, e_sub, e_mul, e_eql, e_neq, e_lss, e_leq, e_gtr, e_geq, e_conv, e_not, e_neg, and_guard, or_guard, retV]
    rfl

/-! ### Functions of a list alone -/
noncomputable def gL {α : Type} (C : Cod α) (F : List α → Value) : Sum := fun xs s => (match xs with | [v] => (listOf C v s).bind fun l => if l.length < 140737488355328 then some (F l) else none | _ => none).map fun v => (v, s)
theorem gL_eq {α : Type} {C : Cod α} {F : List α → Value} {v : Value} {s : St} {l : List α} (h : listOf C v s = some l) (hl : l.length < 140737488355328) : gL C F [v] s = some (F l, s) := by
  simp only [gL, h, Option.bind_some, if_pos hl, Option.map_some]
theorem gL_sum {α : Type} {C : Cod α} {F : List α → Value} {lib : Lib} {f : FuncId} (hp : ∀ l, plainV (F l) = true) (h : ∀ v s l, listOf C v s = some l → l.length < 140737488355328 → ∃ t, run Try.prog lib hints f [v] s = some (F l, t)) : SumOk Try.prog lib hints f (gL C F) :=
  SumOk.plain (G := fun xs s => match xs with | [v] => (listOf C v s).bind fun l => if l.length < 140737488355328 then some (F l) else none | _ => none) fun xs s v hh => by
    split at hh
    · rename_i v0
      simp only [Option.bind_eq_some_iff] at hh
      obtain ⟨l, h1, h2⟩ := hh
      split at h2
      · rename_i hl
        cases h2
        exact ⟨hp l, h v0 (frzS s) l (by rw [list_frz]; exact h1) hl⟩
      · cases h2
    · cases hh
noncomputable def gAllE : Sum := gL opC fun l => .int .i64 (allE l)
noncomputable def gChkE : Sum := gL opC fun l => .int .i64 (chkE l)
theorem allE_eq {v : Value} {s : St} {l : List OpT} (h : listOf opC v s = some l) (hl : l.length < 140737488355328) : gAllE [v] s = some (.int .i64 (allE l), s) := gL_eq h hl
theorem chkE_eq {v : Value} {s : St} {l : List OpT} (h : listOf opC v s = some l) (hl : l.length < 140737488355328) : gChkE [v] s = some (.int .i64 (chkE l), s) := gL_eq h hl
theorem many {n : Nat} : (((n : Nat) : Int) == 0 || decide (((n : Nat) : Int) > 4)) = decide (n = 0 ∨ 4 < n) := by
  by_cases h : n = 0
  · subst h; rfl
  · have h1 : (((n : Nat) : Int) == 0) = false := by rw [beq_eq_false_iff_ne]; omega
    rw [h1]
    simp [h]
    omega
theorem chk_run {R : Caller} (hA : ∀ xs s, R 42 xs s = gAllE xs s) {v : Value} {s : St} {l : List OpT} (h : listOf opC v s = some l) (hl : l.length < 140737488355328) : op_Check R v s = some (.int .i64 (chkE l), s) := by
  unfold op_Check chkE
  simp only [list_len h, n_bind, n_map, getL_0, getL_1, getL_2, getL_3, getL_4, getL_5, getL_6, getL_7, getL_8, getL_9, getL_10, getL_11, getL_12, condV_t, condV_f, guardV_tt, guardV_ff, guardV_tf, guardV_ft, guardV_u, apick_t, apick_f, exV_exit, exV_ret, lookE_same, joinK_eq, seqA_n, seqA_e, seqA_r, e_add, e_sub, e_mul, e_eql, e_neq, e_lss, e_leq, e_gtr, e_geq, e_conv, e_not, e_neg, and_guard, or_guard, many]
  by_cases h1 : l.length = 0 ∨ 4 < l.length
  · have h2 : decide (l.length = 0 ∨ 4 < l.length) = true := decide_eq_true h1
    simp only [h2, if_pos h1, n_bind, n_map, getL_0, getL_1, getL_2, getL_3, getL_4, getL_5, getL_6, getL_7, getL_8, getL_9, getL_10, getL_11, getL_12, condV_t, condV_f, guardV_tt, guardV_ff, guardV_tf, guardV_ft, guardV_u, apick_t, apick_f, exV_exit, exV_ret, lookE_same, joinK_eq, seqA_n, seqA_e, seqA_r, e_add, e_sub, e_mul, e_eql, e_neq, e_lss, e_leq, e_gtr, e_geq, e_conv, e_not, e_neg, and_guard, or_guard, retV]
    rfl
  · have h2 : decide (l.length = 0 ∨ 4 < l.length) = false := decide_eq_false h1
    simp only [h2, if_neg h1, op_all_call, hA, allE_eq h hl, n_bind, n_map, getL_0, getL_1, getL_2, getL_3, getL_4, getL_5, getL_6, getL_7, getL_8, getL_9, getL_10, getL_11, getL_12, condV_t, condV_f, guardV_tt, guardV_ff, guardV_tf, guardV_ft, guardV_u, apick_t, apick_f, exV_exit, exV_ret, lookE_same, joinK_eq, seqA_n, seqA_e, seqA_r, e_add, e_sub, e_mul, e_eql, e_neq, e_lss, e_leq, e_gtr, e_geq, e_conv, e_not, e_neg, and_guard, or_guard, retV]
    rfl
theorem refChk_run {R : Caller} (hA : ∀ xs s, R 22 xs s = gAllE xs s) {v : Value} {s : St} {l : List OpT} (h : listOf opC v s = some l) (hl : l.length < 140737488355328) : ref04_Check R v s = some (.int .i64 (chkE l), s) := by
  have hlt : decide (((l.length : Nat) : Int) < 1) = (((l.length : Nat) : Int) == 0) := by
    by_cases h0 : l.length = 0
    · rw [h0]; rfl
    · have h1 : (((l.length : Nat) : Int) == 0) = false := by rw [beq_eq_false_iff_ne]; omega
      rw [h1]; simp; omega
  unfold ref04_Check chkE
  simp only [list_len h, hlt, n_bind, n_map, getL_0, getL_1, getL_2, getL_3, getL_4, getL_5, getL_6, getL_7, getL_8, getL_9, getL_10, getL_11, getL_12, condV_t, condV_f, guardV_tt, guardV_ff, guardV_tf, guardV_ft, guardV_u, apick_t, apick_f, exV_exit, exV_ret, lookE_same, joinK_eq, seqA_n, seqA_e, seqA_r, e_add, e_sub, e_mul, e_eql, e_neq, e_lss, e_leq, e_gtr, e_geq, e_conv, e_not, e_neg, and_guard, or_guard, many]
  by_cases h1 : l.length = 0 ∨ 4 < l.length
  · have h2 : decide (l.length = 0 ∨ 4 < l.length) = true := decide_eq_true h1
    simp only [h2, if_pos h1, n_bind, n_map, getL_0, getL_1, getL_2, getL_3, getL_4, getL_5, getL_6, getL_7, getL_8, getL_9, getL_10, getL_11, getL_12, condV_t, condV_f, guardV_tt, guardV_ff, guardV_tf, guardV_ft, guardV_u, apick_t, apick_f, exV_exit, exV_ret, lookE_same, joinK_eq, seqA_n, seqA_e, seqA_r, e_add, e_sub, e_mul, e_eql, e_neq, e_lss, e_leq, e_gtr, e_geq, e_conv, e_not, e_neg, and_guard, or_guard, retV]
    rfl
  · have h2 : decide (l.length = 0 ∨ 4 < l.length) = false := decide_eq_false h1
    simp only [h2, if_neg h1, ref04_All_call, hA, allE_eq h hl, n_bind, n_map, getL_0, getL_1, getL_2, getL_3, getL_4, getL_5, getL_6, getL_7, getL_8, getL_9, getL_10, getL_11, getL_12, condV_t, condV_f, guardV_tt, guardV_ff, guardV_tf, guardV_ft, guardV_u, apick_t, apick_f, exV_exit, exV_ret, lookE_same, joinK_eq, seqA_n, seqA_e, seqA_r, e_add, e_sub, e_mul, e_eql, e_neq, e_lss, e_leq, e_gtr, e_geq, e_conv, e_not, e_neg, and_guard, or_guard, retV]
    rfl

/-! ### Maps -/
def mapE (last : BL) : List Rg → Int
  | [] => 0
  | p :: m => if !ckK p.1 then 20 else if !decide (p.2.length ≤ 16) then 2 else if !bl last p.1 then 1 else mapE p.1 m
theorem mapE_cons (last : BL) (p : Rg) (m : List Rg) : mapE last (p :: m) = if !ckK p.1 then 20 else if !decide (p.2.length ≤ 16) then 2 else if !bl last p.1 then 1 else mapE p.1 m := rfl
noncomputable def gMapE : Sum := gL prC fun l => .int .i64 (mapE [] l)
theorem mapE_eq {v : Value} {s : St} {l : List Rg} (h : listOf prC v s = some l) (hl : l.length < 140737488355328) : gMapE [v] s = some (.int .i64 (mapE [] l), s) := gL_eq h hl
theorem map_loop {R : Caller} (hK : ∀ k s, R 52 [sv k] s = some (.int .i64 (eK k), s)) {v : Value} {s : St} {l : List Rg} (h : listOf prC v s = some l) (hl : l.length < 140737488355328) : ∀ (rest : List Rg) (i : Nat) (last : BL), l.drop i = rest → i ≤ l.length →
    loopL (op_CheckMap.b0 R) [sv last, v, .int .i64 ((l.length : Nat) : Int), .int .i64 (i : Int)] s = some ((endR (mapE last rest)).1, (endR (mapE last rest)).2, s) := by
  intro rest
  induction rest with
  | nil =>
    intro i last hi hle
    have h1 : decide ((i : Int) < ((l.length : Nat) : Int)) = false := by
      have := List.drop_eq_nil_iff.1 hi
      simp; omega
    rw [loopL_eq]
    simp only [op_CheckMap.b0, h1, n_bind, n_map, getL_0, getL_1, getL_2, getL_3, getL_4, getL_5, getL_6, getL_7, getL_8, getL_9, getL_10, getL_11, getL_12, condV_t, condV_f, guardV_tt, guardV_ff, guardV_tf, guardV_ft, guardV_u, apick_t, apick_f, exV_exit, exV_ret, lookE_same, joinK_eq, seqA_n, seqA_e, seqA_r, e_add, e_sub, e_mul, e_eql, e_neq, e_lss, e_leq, e_gtr, e_geq, e_conv, e_not, e_neg, and_guard, or_guard]
    rfl
  | cons p rest ih =>
    intro i last hi hle
    obtain ⟨hlt, he, hd⟩ := drop_get hi
    have h1 : decide ((i : Int) < ((l.length : Nat) : Int)) = true := by simp; omega
    obtain ⟨q, h2, h3⟩ := list_at h hlt (k := .i64) (n := 2) rfl
    rw [pr_enc, he] at h3
    rw [loopL_eq]
    simp only [op_CheckMap.b0, h1, h2, h3, z_rv, st_rv, ld_0, ld_1, span_CheckKey_call, hK, eK_n, e_lenV, len16, leq_bl, n_bind, n_map, getL_0, getL_1, getL_2, getL_3, getL_4, getL_5, getL_6, getL_7, getL_8, getL_9, getL_10, getL_11, getL_12, condV_t, condV_f, guardV_tt, guardV_ff, guardV_tf, guardV_ft, guardV_u, apick_t, apick_f, exV_exit, exV_ret, lookE_same, joinK_eq, seqA_n, seqA_e, seqA_r, e_add, e_sub, e_mul, e_eql, e_neq, e_lss, e_leq, e_gtr, e_geq, e_conv, e_not, e_neg, and_guard, or_guard]
    rw [mapE_cons]
    cases c1 : ckK p.1
    · simp only [c1, Bool.not_false, if_true, n_bind, n_map, getL_0, getL_1, getL_2, getL_3, getL_4, getL_5, getL_6, getL_7, getL_8, getL_9, getL_10, getL_11, getL_12, condV_t, condV_f, guardV_tt, guardV_ff, guardV_tf, guardV_ft, guardV_u, apick_t, apick_f, exV_exit, exV_ret, lookE_same, joinK_eq, seqA_n, seqA_e, seqA_r, e_add, e_sub, e_mul, e_eql, e_neq, e_lss, e_leq, e_gtr, e_geq, e_conv, e_not, e_neg, and_guard, or_guard]
      rfl
    · cases c2 : decide (p.2.length ≤ 16)
      · simp only [c2, Bool.not_true, Bool.not_false, if_true, if_false, Bool.false_eq_true, n_bind, n_map, getL_0, getL_1, getL_2, getL_3, getL_4, getL_5, getL_6, getL_7, getL_8, getL_9, getL_10, getL_11, getL_12, condV_t, condV_f, guardV_tt, guardV_ff, guardV_tf, guardV_ft, guardV_u, apick_t, apick_f, exV_exit, exV_ret, lookE_same, joinK_eq, seqA_n, seqA_e, seqA_r, e_add, e_sub, e_mul, e_eql, e_neq, e_lss, e_leq, e_gtr, e_geq, e_conv, e_not, e_neg, and_guard, or_guard, ld_1, e_lenV, len16]
        rfl
      · cases c3 : bl last p.1
        · simp only [c2, c3, Bool.not_true, Bool.not_false, if_true, if_false, Bool.false_eq_true, n_bind, n_map, getL_0, getL_1, getL_2, getL_3, getL_4, getL_5, getL_6, getL_7, getL_8, getL_9, getL_10, getL_11, getL_12, condV_t, condV_f, guardV_tt, guardV_ff, guardV_tf, guardV_ft, guardV_u, apick_t, apick_f, exV_exit, exV_ret, lookE_same, joinK_eq, seqA_n, seqA_e, seqA_r, e_add, e_sub, e_mul, e_eql, e_neq, e_lss, e_leq, e_gtr, e_geq, e_conv, e_not, e_neg, and_guard, or_guard, ld_0, ld_1, e_lenV, len16, leq_bl]
          rfl
        · simp only [c2, c3, Bool.not_true, Bool.not_false, if_true, if_false, Bool.false_eq_true, n_bind, n_map, getL_0, getL_1, getL_2, getL_3, getL_4, getL_5, getL_6, getL_7, getL_8, getL_9, getL_10, getL_11, getL_12, condV_t, condV_f, guardV_tt, guardV_ff, guardV_tf, guardV_ft, guardV_u, apick_t, apick_f, exV_exit, exV_ret, lookE_same, joinK_eq, seqA_n, seqA_e, seqA_r, e_add, e_sub, e_mul, e_eql, e_neq, e_lss, e_leq, e_gtr, e_geq, e_conv, e_not, e_neg, and_guard, or_guard, ld_0, ld_1, e_lenV, len16, leq_bl, inc_i64 (show i < 140737488355328 by omega)]
          exact ih (i + 1) p.1 hd (by omega)
theorem map_run {R : Caller} (hK : ∀ k s, R 52 [sv k] s = some (.int .i64 (eK k), s)) {v : Value} {s : St} {l : List Rg} (h : listOf prC v s = some l) (hl : l.length < 140737488355328) : op_CheckMap R v s = some (.int .i64 (mapE [] l), s) := by
  have h1 := map_loop hK h hl l 0 [] rfl (Nat.zero_le _)
  rw [show ((0 : Nat) : Int) = 0 from rfl] at h1
  unfold op_CheckMap
  simp only [nil_sv, list_len h, h1, n_bind, n_map, getL_0, getL_1, getL_2, getL_3, getL_4, getL_5, getL_6, getL_7, getL_8, getL_9, getL_10, getL_11, getL_12, condV_t, condV_f, guardV_tt, guardV_ff, guardV_tf, guardV_ft, guardV_u, apick_t, apick_f, exV_exit, exV_ret, lookE_same, joinK_eq, seqA_n, seqA_e, seqA_r, e_add, e_sub, e_mul, e_eql, e_neq, e_lss, e_leq, e_gtr, e_geq, e_conv, e_not, e_neg, and_guard, or_guard]
  unfold endR
  by_cases h2 : mapE [] l = 0
  · simp only [if_pos h2, n_bind, n_map, getL_0, getL_1, getL_2, getL_3, getL_4, getL_5, getL_6, getL_7, getL_8, getL_9, getL_10, getL_11, getL_12, condV_t, condV_f, guardV_tt, guardV_ff, guardV_tf, guardV_ft, guardV_u, apick_t, apick_f, exV_exit, exV_ret, lookE_same, joinK_eq, seqA_n, seqA_e, seqA_r, e_add, e_sub, e_mul, e_eql, e_neq, e_lss, e_leq, e_gtr, e_geq, e_conv, e_not, e_neg, and_guard, or_guard, retV, h2]
    rfl
  · simp only [if_neg h2, n_bind, n_map, getL_0, getL_1, getL_2, getL_3, getL_4, getL_5, getL_6, getL_7, getL_8, getL_9, getL_10, getL_11, getL_12, condV_t, condV_f, guardV_tt, guardV_ff, guardV_tf, guardV_ft, guardV_u, apick_t, apick_f, exV_exit, exV_ret, lookE_same, joinK_eq, seqA_n, seqA_e, seqA_r, e_add, e_sub, e_mul, e_eql, e_neq, e_lss, e_leq, e_gtr, e_geq, e_conv, e_not, e_neg, and_guard, or_guard, retV]
    rfl
theorem refMap_loop {R : Caller} (hK : ∀ k s, R 39 [sv k] s = some (.int .i64 (eK k), s)) {v : Value} {s : St} {l : List Rg} (h : listOf prC v s = some l) (hl : l.length < 140737488355328) : ∀ (rest : List Rg) (i : Nat) (last : BL), l.drop i = rest → i ≤ l.length → (i = 0 → last = []) → (∀ hi : 0 < i, ∃ h2 : i - 1 < l.length, last = l[i - 1].1) →
    loopL (ref04_CheckMap.b0 R) [v, v, .int .i64 ((l.length : Nat) : Int), .int .i64 (i : Int)] s = some ((endR (mapE last rest)).1, (endR (mapE last rest)).2, s) := by
  intro rest
  induction rest with
  | nil =>
    intro i last hi hle _ _
    have h1 : decide ((i : Int) < ((l.length : Nat) : Int)) = false := by
      have := List.drop_eq_nil_iff.1 hi
      simp; omega
    rw [loopL_eq]
    simp only [ref04_CheckMap.b0, h1, n_bind, n_map, getL_0, getL_1, getL_2, getL_3, getL_4, getL_5, getL_6, getL_7, getL_8, getL_9, getL_10, getL_11, getL_12, condV_t, condV_f, guardV_tt, guardV_ff, guardV_tf, guardV_ft, guardV_u, apick_t, apick_f, exV_exit, exV_ret, lookE_same, joinK_eq, seqA_n, seqA_e, seqA_r, e_add, e_sub, e_mul, e_eql, e_neq, e_lss, e_leq, e_gtr, e_geq, e_conv, e_not, e_neg, and_guard, or_guard]
    rfl
  | cons p rest ih =>
    intro i last hi hle hz hp
    obtain ⟨hlt, he, hd⟩ := drop_get hi
    have h1 : decide ((i : Int) < ((l.length : Nat) : Int)) = true := by simp; omega
    obtain ⟨q, h2, h3⟩ := list_at h hlt (k := .i64) (n := 2) rfl
    rw [pr_enc, he] at h3
    rw [loopL_eq]
    simp only [ref04_CheckMap.b0, h1, h2, h3, z_rv, st_rv, ld_0, ld_1, ref02_CheckKey_call, hK, eK_n, e_lenV, len16, n_bind, n_map, getL_0, getL_1, getL_2, getL_3, getL_4, getL_5, getL_6, getL_7, getL_8, getL_9, getL_10, getL_11, getL_12, condV_t, condV_f, guardV_tt, guardV_ff, guardV_tf, guardV_ft, guardV_u, apick_t, apick_f, exV_exit, exV_ret, lookE_same, joinK_eq, seqA_n, seqA_e, seqA_r, e_add, e_sub, e_mul, e_eql, e_neq, e_lss, e_leq, e_gtr, e_geq, e_conv, e_not, e_neg, and_guard, or_guard]
    rw [mapE_cons]
    cases c1 : ckK p.1
    · simp only [c1, Bool.not_false, if_true, n_bind, n_map, getL_0, getL_1, getL_2, getL_3, getL_4, getL_5, getL_6, getL_7, getL_8, getL_9, getL_10, getL_11, getL_12, condV_t, condV_f, guardV_tt, guardV_ff, guardV_tf, guardV_ft, guardV_u, apick_t, apick_f, exV_exit, exV_ret, lookE_same, joinK_eq, seqA_n, seqA_e, seqA_r, e_add, e_sub, e_mul, e_eql, e_neq, e_lss, e_leq, e_gtr, e_geq, e_conv, e_not, e_neg, and_guard, or_guard]
      rfl
    · cases c2 : decide (p.2.length ≤ 16)
      · simp only [c2, Bool.not_true, Bool.not_false, if_true, if_false, Bool.false_eq_true, n_bind, n_map, getL_0, getL_1, getL_2, getL_3, getL_4, getL_5, getL_6, getL_7, getL_8, getL_9, getL_10, getL_11, getL_12, condV_t, condV_f, guardV_tt, guardV_ff, guardV_tf, guardV_ft, guardV_u, apick_t, apick_f, exV_exit, exV_ret, lookE_same, joinK_eq, seqA_n, seqA_e, seqA_r, e_add, e_sub, e_mul, e_eql, e_neq, e_lss, e_leq, e_gtr, e_geq, e_conv, e_not, e_neg, and_guard, or_guard, ld_1, e_lenV, len16]
        rfl
      · rcases Nat.eq_zero_or_pos i with h0 | h0
        · have h4 : decide ((i : Int) > 0) = false := by simp; omega
          have h5 : bl last p.1 = true := by rw [hz h0]; exact bl_nil_l (ckK_len c1).2
          simp only [c2, h4, h5, Bool.not_true, Bool.not_false, if_true, if_false, Bool.false_eq_true, n_bind, n_map, getL_0, getL_1, getL_2, getL_3, getL_4, getL_5, getL_6, getL_7, getL_8, getL_9, getL_10, getL_11, getL_12, condV_t, condV_f, guardV_tt, guardV_ff, guardV_tf, guardV_ft, guardV_u, apick_t, apick_f, exV_exit, exV_ret, lookE_same, joinK_eq, seqA_n, seqA_e, seqA_r, e_add, e_sub, e_mul, e_eql, e_neq, e_lss, e_leq, e_gtr, e_geq, e_conv, e_not, e_neg, and_guard, or_guard, ld_0, ld_1, e_lenV, len16, own_id, inc_i64 (show i < 140737488355328 by omega)]
          exact ih (i + 1) p.1 hd (by omega) (by omega) fun _ => ⟨by omega, by simp [he]⟩
        · have h4 : decide ((i : Int) > 0) = true := by simp; omega
          obtain ⟨g1, g2⟩ := hp h0
          have h6 : IntKind.wrap .i64 ((i : Int) - 1) = ((i - 1 : Nat) : Int) := by rw [wrap_i64 (by omega) (by omega)]; omega
          obtain ⟨q2, h7, q3, h8, h9⟩ := list_field h g1 (j := 0) (c := sv last) (by rw [g2]; rfl) (k := .i64) (n := 2) rfl
          cases c3 : bl last p.1
          · simp only [c2, c3, h4, h6, h7, h8, h9, Bool.not_true, Bool.not_false, if_true, if_false, Bool.false_eq_true, n_bind, n_map, getL_0, getL_1, getL_2, getL_3, getL_4, getL_5, getL_6, getL_7, getL_8, getL_9, getL_10, getL_11, getL_12, condV_t, condV_f, guardV_tt, guardV_ff, guardV_tf, guardV_ft, guardV_u, apick_t, apick_f, exV_exit, exV_ret, lookE_same, joinK_eq, seqA_n, seqA_e, seqA_r, e_add, e_sub, e_mul, e_eql, e_neq, e_lss, e_leq, e_gtr, e_geq, e_conv, e_not, e_neg, and_guard, or_guard, ld_0, ld_1, e_lenV, len16, own_id, geq_bl]
            rfl
          · simp only [c2, c3, h4, h6, h7, h8, h9, Bool.not_true, Bool.not_false, if_true, if_false, Bool.false_eq_true, n_bind, n_map, getL_0, getL_1, getL_2, getL_3, getL_4, getL_5, getL_6, getL_7, getL_8, getL_9, getL_10, getL_11, getL_12, condV_t, condV_f, guardV_tt, guardV_ff, guardV_tf, guardV_ft, guardV_u, apick_t, apick_f, exV_exit, exV_ret, lookE_same, joinK_eq, seqA_n, seqA_e, seqA_r, e_add, e_sub, e_mul, e_eql, e_neq, e_lss, e_leq, e_gtr, e_geq, e_conv, e_not, e_neg, and_guard, or_guard, ld_0, ld_1, e_lenV, len16, own_id, geq_bl, inc_i64 (show i < 140737488355328 by omega)]
            exact ih (i + 1) p.1 hd (by omega) (by omega) fun _ => ⟨by omega, by simp [he]⟩
theorem refMap_run {R : Caller} (hK : ∀ k s, R 39 [sv k] s = some (.int .i64 (eK k), s)) {v : Value} {s : St} {l : List Rg} (h : listOf prC v s = some l) (hl : l.length < 140737488355328) : ref04_CheckMap R v s = some (.int .i64 (mapE [] l), s) := by
  have h1 := refMap_loop hK h hl l 0 [] rfl (Nat.zero_le _) (fun _ => rfl) (fun h => absurd h (Nat.lt_irrefl _))
  rw [show ((0 : Nat) : Int) = 0 from rfl] at h1
  unfold ref04_CheckMap
  simp only [list_len h, h1, n_bind, n_map, getL_0, getL_1, getL_2, getL_3, getL_4, getL_5, getL_6, getL_7, getL_8, getL_9, getL_10, getL_11, getL_12, condV_t, condV_f, guardV_tt, guardV_ff, guardV_tf, guardV_ft, guardV_u, apick_t, apick_f, exV_exit, exV_ret, lookE_same, joinK_eq, seqA_n, seqA_e, seqA_r, e_add, e_sub, e_mul, e_eql, e_neq, e_lss, e_leq, e_gtr, e_geq, e_conv, e_not, e_neg, and_guard, or_guard]
  unfold endR
  by_cases h2 : mapE [] l = 0
  · simp only [if_pos h2, n_bind, n_map, getL_0, getL_1, getL_2, getL_3, getL_4, getL_5, getL_6, getL_7, getL_8, getL_9, getL_10, getL_11, getL_12, condV_t, condV_f, guardV_tt, guardV_ff, guardV_tf, guardV_ft, guardV_u, apick_t, apick_f, exV_exit, exV_ret, lookE_same, joinK_eq, seqA_n, seqA_e, seqA_r, e_add, e_sub, e_mul, e_eql, e_neq, e_lss, e_leq, e_gtr, e_geq, e_conv, e_not, e_neg, and_guard, or_guard, retV, h2]
    rfl
  · simp only [if_neg h2, n_bind, n_map, getL_0, getL_1, getL_2, getL_3, getL_4, getL_5, getL_6, getL_7, getL_8, getL_9, getL_10, getL_11, getL_12, condV_t, condV_f, guardV_tt, guardV_ff, guardV_tf, guardV_ft, guardV_u, apick_t, apick_f, exV_exit, exV_ret, lookE_same, joinK_eq, seqA_n, seqA_e, seqA_r, e_add, e_sub, e_mul, e_eql, e_neq, e_lss, e_leq, e_gtr, e_geq, e_conv, e_not, e_neg, and_guard, or_guard, retV]
    rfl

end Go.Proofs.Ytccindbiodofmaa.Ab

/- Lists of one's own that are written into, shortened, made longer. -/
namespace Go.Proofs.Ytccindbiodofmaa.Ab
open Go

def blkOf : Value → Option Nat
  | .slice (some a) _ _ => some a.block
  | _ => none
/-- nothing has changed but in one block -/
def Keep (B : Option Nat) (s t : St) : Prop := s.heap.length ≤ t.heap.length ∧ ∀ c, c < s.heap.length → B ≠ some c → t.heap[c]? = s.heap[c]?
def Fresh (s : St) (v v' : Value) : Prop := blkOf v' = blkOf v ∨ ∀ c, blkOf v' = some c → s.heap.length ≤ c
theorem Keep.refl (B : Option Nat) (s : St) : Keep B s s := ⟨Nat.le_refl _, fun _ _ _ => rfl⟩
theorem Keep.ext {N : Nat} {v : Value} {s t : St} (h : Keep (blkOf v) s t) (hN : N ≤ s.heap.length) (hb : ∀ c, blkOf v = some c → N ≤ c) : Ext N s t :=
  ⟨h.1, fun c hc => h.2 c (by omega) fun e => by have := hb c e; omega⟩
theorem Ext.keep {B : Option Nat} {s t : St} (h : Ext s.heap.length s t) : Keep B s t := ⟨h.1, fun c hc _ => h.2 c hc⟩
theorem putB_get {s : St} {b : Nat} {B : Blk} (h : b < s.heap.length) : (s.putB b B).heap[b]? = some B := by
  simp only [St.putB]
  rw [List.getElem?_set_self h]
theorem putB_same {s : St} {b : Nat} {B : Blk} (h : s.heap[b]? = some B) : s.putB b B = s := by
  obtain ⟨hlt, e⟩ := List.getElem?_eq_some_iff.1 h
  cases s
  simp only [St.putB, St.mk.injEq] at *
  rw [← e, List.set_getElem_self]
theorem putB_keep {s : St} {b : Nat} {B : Blk} : Keep (some b) s (s.putB b B) := ⟨by simp [St.putB], fun c _ hc => by
  simp only [St.putB]
  rw [List.getElem?_set_ne (fun e => hc (by rw [e]))]⟩
theorem Keep.trans {B : Option Nat} {s t u : St} (h : Keep B s t) (g : Keep B t u) : Keep B s u := ⟨Nat.le_trans h.1 g.1, fun c hc hB => (g.2 c (Nat.lt_of_lt_of_le hc h.1) hB).trans (h.2 c hc hB)⟩
/-- a list that lies elsewhere -/
theorem Keep.list {α : Type} {C : Cod α} {B : Option Nat} {s t : St} (h : Keep B s t) {v : Value} {l : List α} (hv : listOf C v s = some l) (hb : ∀ c, blkOf v = some c → B ≠ some c) : listOf C v t = some l := by
  refine (listOf_iff C).2 ?_
  have hc := (listOf_iff C).1 hv
  unfold cellsOf at hc ⊢
  split at hc
  · exact hc
  · rename_i b o len cap
    split at hc
    case isFalse => cases hc
    rename_i hlc
    rw [if_pos hlc]
    unfold readN at hc ⊢
    cases hr : Ab.readRow s b with
    | none => rw [hr] at hc; cases hc
    | some row =>
      have hlt := readRow_lt hr
      have : Ab.readRow t b = Ab.readRow s b := by
        unfold Ab.readRow
        rw [h.2 b hlt (hb b rfl)]
      rw [this]; exact hc
  · cases hc

section
variable {α : Type} {C : Cod α}
theorem OwnC.blk {N : Nat} {s : St} {v : Value} {l : List α} (h : OwnC C N s v l) : ∀ c, blkOf v = some c → N ≤ c ∧ c < s.heap.length := by
  intro c hc
  rcases h with ⟨rfl, _⟩ | ⟨b, cap, rest, rfl, h1, h2, _⟩
  · cases hc
  · cases hc
    exact ⟨h1, (List.getElem?_eq_some_iff.1 h2).1⟩
theorem OwnC.mono {N M : Nat} {s : St} {v : Value} {l : List α} (h : OwnC C N s v l) (hM : M ≤ N) : OwnC C M s v l := by
  rcases h with h | ⟨b, cap, rest, e, h1, h2⟩
  · exact .inl h
  · exact .inr ⟨b, cap, rest, e, by omega, h2⟩
theorem OwnC.keep {N : Nat} {B : Option Nat} {s t : St} {v : Value} {l : List α} (h : OwnC C N s v l) (k : Keep B s t) (hb : ∀ c, blkOf v = some c → B ≠ some c) : OwnC C N t v l := by
  rcases h with h | ⟨b, cap, rest, rfl, h1, h2, h3⟩
  · exact .inl h
  · exact .inr ⟨b, cap, rest, rfl, h1, by rw [k.2 b (List.getElem?_eq_some_iff.1 h2).1 (hb b rfl)]; exact h2, h3⟩
theorem OwnC.notup {N : Nat} {s : St} {v : Value} {l : List α} (h : OwnC C N s v l) : noTup v = true := by
  rcases h with ⟨rfl, _⟩ | ⟨b, cap, rest, rfl, _⟩ <;> rfl

theorem room_mono {q p w : Nat} (h : q ≤ p) (hr : roomA p w) : roomA q w := by
  rcases hr with g | g
  · exact .inl (Nat.le_trans (Nat.mul_le_mul_right _ h) g)
  · exact .inr (Nat.le_trans (Nat.mul_le_mul_right _ (by omega)) g)
theorem rep_all {z : List Value} (h : z.all leafOk = true) : ∀ n, (repCells z n).all leafOk = true
  | 0 => rfl
  | n + 1 => by rw [repCells, List.all_append, h, rep_all h n]; rfl
theorem rep_len (z : List Value) : ∀ n, (repCells z n).length = n * z.length
  | 0 => by simp [repCells]
  | n + 1 => by rw [repCells, List.length_append, rep_len z n, Nat.add_mul]; omega

/-- some are taken out -/
theorem ownC_del {N w : Nat} {s : St} {v : Value} {l : List α} (h : OwnC C N s v l) {i j : Nat} (hij : i < j) (hj : j ≤ l.length) (hw : 0 < w) (hb : roomA l.length w) {z : List Value} (hz : z.length = C.n) (hzl : z.all leafOk = true) {n : Nat} (hn : n = C.n) :
    ∃ v4 v5 v6 v8 s2 t, asliceV n v none (some (.int .i64 (i : Int))) none = some v4 ∧ asliceV n v (some (.int .i64 (j : Int))) none none = some v5 ∧ aappend n w v4 v5 s = some (v6, s2) ∧ s.heap.length ≤ s2.heap.length ∧
      (∀ e, alenV (.slice e) v6 s2 = some (.int .i64 ((i + (l.length - j) : Nat) : Int))) ∧ asliceV n v6 (some (.int .i64 ((i + (l.length - j) : Nat) : Int))) (some (.int .i64 ((l.length : Nat) : Int))) none = some v8 ∧ aclear n z v8 s2 = some t ∧
      OwnC C N t v6 (l.take i ++ l.drop j) ∧ Keep (blkOf v) s t ∧ blkOf v6 = blkOf v := by
  subst hn
  rcases h with ⟨_, rfl⟩ | ⟨b, cap, rest, rfl, h1, h2, h3, h4⟩
  · simp at hj; omega
  have hle : l.length ≤ cap := OwnC.cap_le (N := N) (s := s) (b := b) (len := l.length) h3
  have hpos := C.pos
  have m1 : i * C.n ≤ l.length * C.n := Nat.mul_le_mul_right _ (by omega)
  have m2 : j * C.n ≤ l.length * C.n := Nat.mul_le_mul_right _ hj
  have m3 : (i + (l.length - j)) * C.n = i * C.n + (l.length * C.n - j * C.n) := by rw [Nat.add_mul, Nat.sub_mul]
  have m4 : i * C.n + C.n ≤ j * C.n := by rw [← Nat.succ_mul]; exact Nat.mul_le_mul_right _ hij
  have m5 : (l.length - j) * C.n = l.length * C.n - j * C.n := Nat.sub_mul _ _ _
  have m6 : (j - i) * C.n = j * C.n - i * C.n := Nat.sub_mul _ _ _
  have hll : (encL C l).length = l.length * C.n := encL_len C l
  have hbl : b < s.heap.length := (List.getElem?_eq_some_iff.1 h2).1
  -- the parts
  have e4 : asliceV C.n (.slice (some ⟨b, 0, none⟩) l.length cap) none (some (.int .i64 (i : Int))) none = some (.slice (some ⟨b, 0, none⟩) i cap) := by
    simp only [asliceV, asliceSl, abound, Int.toNat_natCast, Option.isNone_none, Bool.true_or, if_true, Option.bind_some]
    rw [if_pos (by omega)]
    simp only [Option.bind_some]
    rw [if_pos (by omega)]
    simp [cutRow]
  have e5 : asliceV C.n (.slice (some ⟨b, 0, none⟩) l.length cap) (some (.int .i64 (j : Int))) none none = some (.slice (some ⟨b, j * C.n, none⟩) (l.length - j) (cap - j)) := by
    simp only [asliceV, asliceSl, abound, Int.toNat_natCast, Option.isNone_none, Bool.true_or, if_true, Option.bind_some]
    rw [if_pos (by omega)]
    simp only [Option.bind_some]
    rw [if_pos (by omega)]
    simp [cutRow]
  have hread : elemsOf C.n (.slice (some ⟨b, j * C.n, none⟩) (l.length - j) (cap - j)) s = some (encL C (l.drop j)) := by
    show readN s b (j * C.n) ((l.length - j) * C.n) = _
    unfold readN Ab.readRow
    rw [h2]
    simp only [Option.bind_some]
    rw [if_pos (by rw [List.length_append]; omega)]
    congr 1
    rw [List.drop_append_of_le_length (by omega), encL_drop, List.take_append_of_le_length (by rw [encL_len, List.length_drop]; omega), List.take_of_length_le (by rw [encL_len, List.length_drop]; omega)]
  have hdl : (encL C (l.drop j)).length = (l.length - j) * C.n := by rw [encL_len, List.length_drop]
  -- in its place
  have hput : ∃ r2 : List Value, (encL C (l.take i) ++ encL C (l.drop j) ++ r2).length = cap * C.n ∧ r2.all leafOk = true ∧ (j - i) * C.n ≤ r2.length ∧ aappend C.n w (.slice (some ⟨b, 0, none⟩) i cap) (.slice (some ⟨b, j * C.n, none⟩) (l.length - j) (cap - j)) s = some (.slice (some ⟨b, 0, none⟩) (i + (l.length - j)) cap, s.putB b (.row C.n (encL C (l.take i) ++ encL C (l.drop j) ++ r2) .act)) := by
    refine ⟨(encL C l ++ rest).drop (i * C.n + (l.length - j) * C.n), ?_, ?_, ?_, ?_⟩
    · rw [← encL_append, List.length_append, encL_len, List.length_append, List.length_take, List.length_drop, List.length_drop, h3, show min i l.length = i by omega, m3]
      rw [List.length_append] at h3
      omega
    · rw [List.all_eq_true]
      intro x hx
      have := List.mem_of_mem_drop hx
      rcases List.mem_append.1 this with g | g
      · exact List.all_eq_true.1 (encL_leaf C l) x g
      · exact List.all_eq_true.1 h4 x g
    · rw [List.length_drop, h3]
      rw [List.length_append] at h3
      omega
    · unfold aappend
      rw [if_pos hw]
      simp only [lenV, Option.bind_some, hread]
      have hroom : roomA (i + (l.length - j)) w := room_mono (by omega) hb
      rw [if_pos hroom, if_pos (by omega)]
      have hrow : encL C l ++ rest = encL C (l.take i) ++ (encL C l ++ rest).drop (i * C.n) := by
        conv => lhs; rw [← List.take_append_drop (i * C.n) (encL C l ++ rest)]
        rw [List.take_append_of_le_length (by omega), encL_take]
      by_cases hm : l.length - j = 0
      · rw [if_pos hm, hm]
        have hd : l.drop j = [] := List.drop_eq_nil_of_le (by omega)
        rw [hd, encL_nil, List.append_nil, Nat.zero_mul, Nat.add_zero, Nat.add_zero, ← hrow]
        rw [putB_same h2]
      · rw [if_neg hm]
        unfold writeN
        rw [h2]
        simp only [Nat.zero_add]
        rw [if_pos (by rw [hdl, List.length_append]; omega)]
        simp only [Option.map_some]
        congr 3
        unfold putCells
        rw [List.take_append_of_le_length (by omega), encL_take, hdl]
  obtain ⟨r2, g1, g2, g3, g4⟩ := hput
  have e8 : asliceV C.n (.slice (some ⟨b, 0, none⟩) (i + (l.length - j)) cap) (some (.int .i64 ((i + (l.length - j) : Nat) : Int))) (some (.int .i64 ((l.length : Nat) : Int))) none = some (.slice (some ⟨b, (i + (l.length - j)) * C.n, none⟩) (j - i) (cap - (i + (l.length - j)))) := by
    simp only [asliceV, asliceSl, abound, Int.toNat_natCast, Option.isNone_none, Bool.true_or, if_true, Option.bind_some]
    rw [if_pos (by omega), if_pos (by omega)]
    simp only [Option.bind_some]
    rw [if_pos (by omega)]
    simp only [cutRow, Nat.zero_add]
    rw [show l.length - (i + (l.length - j)) = j - i by omega]
  have hb2 : (s.putB b (.row C.n (encL C (l.take i) ++ encL C (l.drop j) ++ r2) .act)).heap[b]? = some (.row C.n (encL C (l.take i) ++ encL C (l.drop j) ++ r2) .act) := putB_get hbl
  have htl : (encL C (l.take i) ++ encL C (l.drop j)).length = (i + (l.length - j)) * C.n := by
    rw [← encL_append, encL_len, List.length_append, List.length_take, List.length_drop, show min i l.length = i by omega]
  have hclr : aclear C.n z (.slice (some ⟨b, (i + (l.length - j)) * C.n, none⟩) (j - i) (cap - (i + (l.length - j)))) (s.putB b (.row C.n (encL C (l.take i) ++ encL C (l.drop j) ++ r2) .act)) = some ((s.putB b (.row C.n (encL C (l.take i) ++ encL C (l.drop j) ++ r2) .act)).putB b (.row C.n (encL C (l.take i) ++ encL C (l.drop j) ++ (repCells z (j - i) ++ r2.drop ((j - i) * C.n))) .act)) := by
    obtain ⟨q, hq⟩ : ∃ q, j - i = q + 1 := ⟨j - i - 1, by omega⟩
    unfold aclear
    rw [hq]
    simp only
    rw [if_pos ⟨hz, leaf_isLeaf hzl⟩]
    unfold writeN
    rw [hb2]
    simp only
    have hrl : (repCells z (q + 1)).length = (j - i) * C.n := by rw [rep_len, hz, hq]
    rw [if_pos (by rw [hrl, List.length_append, htl]; omega)]
    congr 3
    unfold putCells
    rw [hrl, ← htl, List.take_left, ← List.drop_drop, List.drop_left, List.append_assoc, hq]
  refine ⟨_, _, _, _, _, _, e4, e5, g4, by simp [St.putB], fun e => rfl, e8, hclr, .inr ⟨b, cap, repCells z (j - i) ++ r2.drop ((j - i) * C.n), ?_, h1, ?_, ?_, ?_⟩, putB_keep.trans putB_keep, rfl⟩
  · rw [List.length_append, List.length_take, List.length_drop, show min i l.length = i by omega]
  · rw [encL_append]
    exact putB_get (by simpa [St.putB] using hbl)
  · have g5 := g1
    simp only [encL_append, List.length_append, rep_len, hz, List.length_drop] at g5 ⊢
    omega
  · rw [List.all_append, rep_all hzl, List.all_eq_true.2 fun x hx => List.all_eq_true.1 g2 x (List.mem_of_mem_drop hx)]
    rfl

/-- a part of one is written -/
theorem ownC_set {N : Nat} {s : St} {v : Value} {l : List α} (h : OwnC C N s v l) {i k : Nat} (hi : i < l.length) {a : α} {x : Value} (hk : k < C.n) (hx : cellsV x = [x]) (hxl : leafOk x = true) (ha : C.enc a = (C.enc l[i]).set k x) {kd : IntKind} {n : Nat} (hn : n = C.n) :
    ∃ p q t, aindexS n v (.int kd (i : Int)) = some p ∧ afieldAddr k p = some q ∧ astore 1 q x s = some t ∧ OwnC C N t v (l.set i a) ∧ Keep (blkOf v) s t := by
  subst hn
  rcases h with ⟨_, rfl⟩ | ⟨b, cap, rest, rfl, h1, h2, h3, h4⟩
  · simp at hi
  have hbl : b < s.heap.length := (List.getElem?_eq_some_iff.1 h2).1
  have hxi : isLeaf x = true := by
    have := leaf_isLeaf (l := [x]) (by simp [hxl])
    simpa using this
  have m1 : i * C.n + C.n ≤ l.length * C.n := by rw [← Nat.succ_mul]; exact Nat.mul_le_mul_right _ hi
  have hll : (encL C l).length = l.length * C.n := encL_len C l
  have hset : ∀ (l : List α) (i : Nat) (hi : i < l.length), C.enc a = (C.enc l[i]).set k x → (encL C l).set (i * C.n + k) x = encL C (l.set i a) := by
    intro l
    induction l with
    | nil => intro i hi; simp at hi
    | cons y l ih =>
      intro i hi ha
      cases i with
      | zero =>
        rw [encL_cons, Nat.zero_mul, Nat.zero_add, List.set_append_left _ _ (by rw [C.len]; exact hk), List.set_cons_zero, encL_cons]
        simp only [List.getElem_cons_zero] at ha
        rw [ha]
      | succ i =>
        rw [encL_cons, List.set_append_right _ _ (by rw [C.len, Nat.add_mul]; omega), C.len, List.set_cons_succ, encL_cons]
        rw [show (i + 1) * C.n + k - C.n = i * C.n + k by rw [Nat.add_mul]; omega]
        rw [ih i (by simpa using hi) (by simpa using ha)]
  have hput : putCells (encL C l ++ rest) (i * C.n + k) [x] = encL C (l.set i a) ++ rest := by
    have e1 : putCells (encL C l ++ rest) (i * C.n + k) [x] = (encL C l ++ rest).set (i * C.n + k) x := by
      unfold putCells
      rw [List.set_eq_take_append_cons_drop, if_pos (by rw [List.length_append]; omega)]
      simp
    rw [e1, List.set_append_left _ _ (by omega), hset l i hi ha]
  refine ⟨.pointer (some ⟨b, i * C.n, none⟩), .pointer (some ⟨b, i * C.n + k, none⟩), s.putB b (.row C.n (encL C (l.set i a) ++ rest) .act), by simp [aindexS, hi], rfl, ?_, .inr ⟨b, cap, rest, by rw [List.length_set], h1, putB_get hbl, ?_, h4⟩, putB_keep⟩
  · unfold astore writeN
    simp only [hx, List.length_singleton, List.all_cons, hxi, List.all_nil, Bool.and_self, true_and, if_true, h2]
    rw [if_pos (by rw [List.length_append]; omega), hput]
  · rw [← h3, List.length_append, List.length_append, encL_len, encL_len, List.length_set]

/-- one more at the end -/
theorem ownC_push {N w : Nat} {s : St} {v y : Value} {l : List α} {a : α} (h : OwnC C N s v l) (hN : N ≤ s.heap.length) (hw : 0 < w) (hy : listOf C y s = some [a]) (hb : roomA (l.length + 1) w) {n : Nat} (hn : n = C.n) :
    ∃ v' t, aappend n w v y s = some (v', t) ∧ OwnC C N t v' (l ++ [a]) ∧ Keep (blkOf v) s t ∧ Fresh s v v' ∧ (∀ c, blkOf v' = some c → N ≤ c) := by
  subst hn
  have hpos := C.pos
  have hel : encL C [a] = C.enc a := by simp [encL]
  unfold aappend
  rw [if_pos hw, list_lenV hy, list_elems hy]
  simp only [Option.bind_some, List.length_cons, List.length_nil, Nat.zero_add, hel]
  rcases h with ⟨rfl, rfl⟩ | ⟨b, cap, rest, rfl, h1, h2, h3, h4⟩
  · simp only
    rw [if_pos (by simpa using hb), if_neg (by omega)]
    refine ⟨_, _, rfl, .inr ⟨s.heap.length, 1, [], rfl, hN, ?_, ?_, rfl⟩, (Ext.push _ (Nat.le_refl _) _).keep, .inr fun c hc => ?_, fun c hc => ?_⟩
    · rw [List.append_nil, List.nil_append, hel]; exact push_get
    · rw [List.append_nil, List.nil_append, hel, C.len, Nat.one_mul]
    · cases hc; exact Nat.le_refl _
    · cases hc; exact hN
  · have hle : l.length ≤ cap := OwnC.cap_le (N := N) (s := s) (b := b) (len := l.length) h3
    have hll : (encL C l).length = l.length * C.n := encL_len C l
    have hbl : b < s.heap.length := (List.getElem?_eq_some_iff.1 h2).1
    simp only
    rw [if_pos hb]
    by_cases hc : l.length + 1 ≤ cap
    · have hc2 : (l.length + 1) * C.n ≤ cap * C.n := Nat.mul_le_mul_right _ hc
      rw [Nat.add_mul] at hc2
      have h3' := h3
      rw [List.length_append] at h3'
      rw [if_pos hc, if_neg (by omega)]
      refine ⟨.slice (some ⟨b, 0, none⟩) (l.length + 1) cap, s.putB b (.row C.n (encL C (l ++ [a]) ++ rest.drop C.n) .act), ?_, .inr ⟨b, cap, rest.drop C.n, by simp, h1, putB_get hbl, ?_, ?_⟩, putB_keep, .inl rfl, fun c hc => by cases hc; exact h1⟩
      · unfold writeN
        rw [h2]
        simp only [Nat.zero_add]
        rw [if_pos (by rw [C.len, List.length_append]; omega)]
        simp only [Option.map_some]
        congr 3
        unfold putCells
        rw [← hll, List.take_left, C.len, ← List.drop_drop, List.drop_left, encL_append, hel]
      · rw [encL_append, List.length_append, List.length_append, List.length_drop, hel, C.len]
        omega
      · rw [List.all_eq_true]
        intro x hx
        exact List.all_eq_true.1 h4 x (List.mem_of_mem_drop hx)
    · have hcap : l.length = cap := by omega
      have h3' := h3
      rw [List.length_append, hll, ← hcap] at h3'
      have hr : rest = [] := List.eq_nil_of_length_eq_zero (by omega)
      subst hr
      rw [List.append_nil] at h2
      rw [if_neg hc, h2]
      simp only
      rw [if_pos ⟨trivial, trivial, hll.symm⟩]
      have hlen2 : s.heap.length = (s.putB b (.row C.n (encL C l) .dead)).heap.length := by simp [St.putB]
      refine ⟨_, _, rfl, .inr ⟨s.heap.length, l.length + 1, [], by simp, hN, ?_, ?_, rfl⟩, ?_, .inr fun c hc => ?_, fun c hc => ?_⟩
      · rw [List.append_nil, encL_append, hel, hlen2]
        exact push_get
      · rw [List.append_nil, encL_len]; simp
      · exact putB_keep.trans (Ext.push _ (Nat.le_refl _) _).keep
      · cases hc; exact Nat.le_refl _
      · cases hc; exact hN
end

end Go.Proofs.Ytccindbiodofmaa.Ab

/- What operations touch, all of some. -/
namespace Go.Proofs.Ytccindbiodofmaa.Ab
open Go

theorem own_ok {α : Type} {s t : St} {a : α} (h : s.heap.length ≤ t.heap.length) : ownR s (a, t) = some (a, t) := by unfold ownR; rw [if_pos h]
theorem x_pt0 (p : Rg × Int) : aextract 0 (ptV p) = some (rv p.1) := Eq.trans rfl (Eq.refl _)
theorem x_pt1 (p : Rg × Int) : aextract 1 (ptV p) = some (.int .i64 p.2) := Eq.trans rfl (Eq.refl _)
end Go.Proofs.Ytccindbiodofmaa.Ab

/- Places of keys in maps. -/
namespace Go.Proofs.Ytccindbiodofmaa.Ab
open Go

/-- how many keys stand ahead of one -/
def lb (m : List Rg) (k : BL) : Nat := (m.takeWhile fun p => bl p.1 k).length
def Srt (m : List Rg) : Prop := m.Pairwise fun a b => bl a.1 b.1 = true
def fnd (m : List Rg) (k : BL) : Bool := match m[lb m k]? with
  | some p => p.1 == k
  | none => false
theorem lb_le (m : List Rg) (k : BL) : lb m k ≤ m.length := (List.takeWhile_sublist _).length_le
theorem lb_lt : ∀ {m : List Rg} {k : BL} {j : Nat} (h : j < lb m k), ∃ hj : j < m.length, bl m[j].1 k = true
  | [], k, j, h => by simp [lb] at h
  | p :: m, k, j, h => by
    unfold lb at h
    rw [List.takeWhile_cons] at h
    split at h
    · rename_i hp
      cases j with
      | zero => exact ⟨by simp, hp⟩
      | succ j =>
        obtain ⟨h1, h2⟩ := lb_lt (m := m) (k := k) (j := j) (by simpa [lb] using h)
        exact ⟨by simp; omega, by simpa using h2⟩
    · simp at h
theorem lb_ge : ∀ {m : List Rg} {k : BL} (hs : Srt m) {j : Nat} (hj : j < m.length) (h : lb m k ≤ j), bl m[j].1 k = false
  | [], k, _, j, hj, _ => by simp at hj
  | p :: m, k, hs, j, hj, h => by
    unfold lb at h
    rw [List.takeWhile_cons] at h
    have hs2 := List.pairwise_cons.1 hs
    split at h
    · cases j with
      | zero => simp at h
      | succ j => exact lb_ge hs2.2 (by simpa using hj) (by simpa [lb] using h)
    · rename_i hp
      have hp2 : bl p.1 k = false := by simpa using hp
      cases j with
      | zero => exact hp2
      | succ j =>
        have hj2 : j < m.length := by simpa using hj
        have h3 := hs2.1 m[j] (List.getElem_mem _)
        simp only [List.getElem_cons_succ]
        cases e : bl m[j].1 k with
        | false => rfl
        | true => rw [bl_trans h3 e] at hp2; cases hp2
theorem at1_run {R : Caller} (hC : ∀ a b s, R 70 [sv a, sv b] s = some (.int .i64 (cmpL a b), s)) (p : Rg) (k : BL) (s : St) : op_at_1 R (rv p) (sv k) s = some (.int .i64 (cmpL p.1 k), s) := by
  unfold op_at_1
  simp only [box_rv, ld_0, strings_Compare_call, hC, n_bind, n_map, getL_0, getL_1, getL_2, getL_3, getL_4, getL_5, getL_6, getL_7, getL_8, getL_9, getL_10, getL_11, getL_12, condV_t, condV_f, guardV_tt, guardV_ff, guardV_tf, guardV_ft, guardV_u, apick_t, apick_f, exV_exit, exV_ret, lookE_same, joinK_eq, seqA_n, seqA_e, seqA_r, e_add, e_sub, e_mul, e_eql, e_neq, e_lss, e_leq, e_gtr, e_geq, e_conv, e_not, e_neg, and_guard, or_guard, retV]
  rfl
def atV (m : List Rg) (k : BL) : Value := .tuple #[.int .i64 ((lb m k : Nat) : Int), .bool (fnd m k)]
theorem x_at0 (m : List Rg) (k : BL) : aextract 0 (atV m k) = some (.int .i64 ((lb m k : Nat) : Int)) := Eq.trans rfl (Eq.refl _)
theorem x_at1 (m : List Rg) (k : BL) : aextract 1 (atV m k) = some (.bool (fnd m k)) := Eq.trans rfl (Eq.refl _)
theorem bs_loop {R : Caller} (hC : ∀ p k s, R 69 [rv p, sv k] s = some (.int .i64 (cmpL p.1 k), s)) {v : Value} {s : St} {m : List Rg} (h : listOf prC v s = some m) (hs : Srt m) (hl : m.length < 140737488355328) (k : BL) (x3 : Value) : ∀ (d i j : Nat), j - i ≤ d → i ≤ lb m k → lb m k ≤ j → j ≤ m.length →
    ∃ q, loopL (slices_BinarySearchFunc_api_Pair_api_Pair_string.b0 R) [v, sv k, .func (.func 69) #[] #[], x3, .int .i64 (i : Int), .int .i64 (j : Int)] s = some (.exit 0, [v, sv k, .func (.func 69) #[] #[], x3, .int .i64 ((lb m k : Nat) : Int)], q) ∧ q = s := by
  intro d
  induction d with
  | zero =>
    intro i j hd h1 h2 h3
    have e : i = lb m k := by omega
    have h4 : decide ((i : Int) < (j : Int)) = false := by simp; omega
    refine ⟨s, ?_, rfl⟩
    rw [loopL_eq]
    simp only [slices_BinarySearchFunc_api_Pair_api_Pair_string.b0, h4, n_bind, n_map, getL_0, getL_1, getL_2, getL_3, getL_4, getL_5, getL_6, getL_7, getL_8, getL_9, getL_10, getL_11, getL_12, condV_t, condV_f, guardV_tt, guardV_ff, guardV_tf, guardV_ft, guardV_u, apick_t, apick_f, exV_exit, exV_ret, lookE_same, joinK_eq, seqA_n, seqA_e, seqA_r, e_add, e_sub, e_mul, e_eql, e_neq, e_lss, e_leq, e_gtr, e_geq, e_conv, e_not, e_neg, and_guard, or_guard]
    rw [← e]
  | succ d ih =>
    intro i j hd h1 h2 h3
    by_cases hij : i < j
    · have h4 : decide ((i : Int) < (j : Int)) = true := by simp; omega
      have hw1 : IntKind.wrap .i64 ((i : Int) + (j : Int)) = ((i + j : Nat) : Int) := by rw [wrap_i64 (by omega) (by omega)]; omega
      have hw2 : IntKind.wrap .u64 ((i + j : Nat) : Int) = ((i + j : Nat) : Int) := wrap_u64 (by omega) (by omega)
      have hsh : ∀ t o1 o2, abin Try.prog .shr t o1 o2 (.int .u64 ((i + j : Nat) : Int)) (.int .u64 1) = some (.int .u64 (((i + j) / 2 : Nat) : Int)) := fun t o1 o2 => by
        have := u_shr (P := Try.prog) (t := t) (ox := o1) (oy := o2) (k := .u64) (a := i + j) (b := 1) (by show i + j < 2 ^ 64; omega) (k2 := .u64)
        rw [Nat.pow_one] at this
        exact this
      have hw3 : IntKind.wrap .i64 (((i + j) / 2 : Nat) : Int) = (((i + j) / 2 : Nat) : Int) := wrap_i64 (by omega) (by omega)
      have c1 : convInt .u64 (.int .i64 ((i + j : Nat) : Int)) = some (.int .u64 ((i + j : Nat) : Int)) := by rw [e_conv, hw2]
      have c2 : convInt .i64 (.int .u64 (((i + j) / 2 : Nat) : Int)) = some (.int .i64 (((i + j) / 2 : Nat) : Int)) := by rw [e_conv, hw3]
      have hh : (i + j) / 2 < m.length := by omega
      obtain ⟨p, g1, g2⟩ := list_at h hh (k := .i64) (n := 2) rfl
      rw [pr_enc] at g2
      rw [loopL_eq]
      simp only [slices_BinarySearchFunc_api_Pair_api_Pair_string.b0, getL_0, getL_1, getL_2, getL_3, getL_4, getL_5, e_lss, h4, n_bind, condV_t, e_add, hw1, c1]
      simp only [hsh, n_bind, c2, g1, g2, op_at_1_call, hC, e_lss, cmp_lt]
      cases hc : bl m[(i + j) / 2].1 k
      · simp only [condV_f, seqA_n]
        exact ih i ((i + j) / 2) (by omega) h1 (by
          rcases Nat.lt_or_ge ((i + j) / 2) (lb m k) with g | g
          · obtain ⟨_, g3⟩ := lb_lt g
            rw [g3] at hc; cases hc
          · exact g) (by omega)
      · simp only [condV_t, n_bind, e_add, inc_i64 (show (i + j) / 2 < 140737488355328 by omega), seqA_n]
        exact ih ((i + j) / 2 + 1) j (by omega) (by
          rcases Nat.lt_or_ge ((i + j) / 2) (lb m k) with g | g
          · omega
          · rw [lb_ge hs hh g] at hc; cases hc) h2 h3
    · exact ih i j (by omega) h1 h2 h3
theorem bs_run {R : Caller} (hC : ∀ p k s, R 69 [rv p, sv k] s = some (.int .i64 (cmpL p.1 k), s)) {v : Value} {s : St} {m : List Rg} (h : listOf prC v s = some m) (hs : Srt m) (hl : m.length < 140737488355328) (k : BL) :
    slices_BinarySearchFunc_api_Pair_api_Pair_string R v (sv k) (.func (.func 69) #[] #[]) s = some (atV m k, s) := by
  obtain ⟨q, h1, rfl⟩ := bs_loop hC h hs hl k (.int .i64 ((m.length : Nat) : Int)) m.length 0 m.length (by omega) (Nat.zero_le _) (lb_le m k) (Nat.le_refl _)
  rw [show ((0 : Nat) : Int) = 0 from rfl] at h1
  unfold slices_BinarySearchFunc_api_Pair_api_Pair_string
  simp only [list_len h, n_bind, h1, exV_exit, lookE_same, getL_0, getL_1, getL_2, getL_3, getL_4, e_lss]
  have hle := lb_le m k
  by_cases hlt : lb m k < m.length
  · have h2 : decide (((lb m k : Nat) : Int) < ((m.length : Nat) : Int)) = true := by simp; omega
    obtain ⟨p, g1, g2⟩ := list_at h hlt (k := .i64) (n := 2) rfl
    rw [pr_enc] at g2
    have hf : fnd m k = (m[lb m k].1 == k) := by
      unfold fnd
      rw [List.getElem?_eq_getElem hlt]
    simp only [h2, g1, g2, n_bind, guardV_tt, op_at_1_call, hC, e_eql, cmp_0, getL_0, apick_t, retV]
    unfold atV
    rw [hf]
    rfl
  · have h2 : decide (((lb m k : Nat) : Int) < ((m.length : Nat) : Int)) = false := by simp; omega
    have hf : fnd m k = false := by
      unfold fnd
      rw [List.getElem?_eq_none (by omega)]
    simp only [h2, n_bind, guardV_ft, getL_0, apick_f, retV]
    unfold atV
    rw [hf]
    rfl

/-! ### Known -/
open Classical in
noncomputable def gAt : Sum := fun xs s => (match xs with
  | [v, w] => (listOf prC v s).bind fun m => (asBl w).bind fun k => if m.length < 140737488355328 ∧ Srt m then some (atV m k) else none
  | _ => none).map fun v => (v, s)
theorem at_eq {v : Value} {s : St} {m : List Rg} {k : BL} (h : listOf prC v s = some m) (hl : m.length < 140737488355328) (hs : Srt m) : gAt [v, sv k] s = some (atV m k, s) := by
  simp only [gAt, h, asBl_sv, Option.bind_some]
  rw [if_pos ⟨hl, hs⟩]
  rfl
open Classical in
theorem at_sum {lib : Lib} {f : FuncId} (h : ∀ v s m k, listOf prC v s = some m → m.length < 140737488355328 → Srt m → run Try.prog lib hints f [v, sv k] s = some (atV m k, s)) : SumOk Try.prog lib hints f gAt :=
  SumOk.plain (G := fun xs s => match xs with
    | [v, w] => (listOf prC v s).bind fun m => (asBl w).bind fun k => if m.length < 140737488355328 ∧ Srt m then some (atV m k) else none
    | _ => none) fun xs s u hh => by
    split at hh
    · rename_i v w
      simp only [Option.bind_eq_some_iff] at hh
      obtain ⟨m, h1, k, h2, hh⟩ := hh
      split at hh
      · rename_i hc
        cases hh
        rw [asBl_some h2]
        exact ⟨rfl, _, h v (frzS s) m k (by rw [list_frz]; exact h1) hc.1 hc.2⟩
      · cases hh
    · cases hh
theorem op_at_run {R : Caller} (hB : ∀ v s m k, listOf prC v s = some m → m.length < 140737488355328 → Srt m → R 68 [v, sv k, .func (.func 69) #[] #[]] s = some (atV m k, s)) {v : Value} {s : St} {m : List Rg} (h : listOf prC v s = some m) (hl : m.length < 140737488355328) (hs : Srt m) (k : BL) : op_at R v (sv k) s = some (atV m k, s) := by
  unfold op_at
  simp only [slices_BinarySearchFunc_api_Pair_api_Pair_string_call, hB v s m k h hl hs, x_at0, x_at1, n_bind, n_map, getL_0, getL_1, getL_2, getL_3, getL_4, getL_5, getL_6, getL_7, getL_8, getL_9, getL_10, getL_11, getL_12, condV_t, condV_f, guardV_tt, guardV_ff, guardV_tf, guardV_ft, guardV_u, apick_t, apick_f, exV_exit, exV_ret, lookE_same, joinK_eq, seqA_n, seqA_e, seqA_r, e_add, e_sub, e_mul, e_eql, e_neq, e_lss, e_leq, e_gtr, e_geq, e_conv, e_not, e_neg, and_guard, or_guard, retV]
  rfl
def endsL (m : List Rg) (r : Rg) : Nat × Nat := (lb m r.1, if r.2 == [] then m.length else lb m r.2)
def endsV (e : Nat × Nat) : Value := .tuple #[.int .i64 ((e.1 : Nat) : Int), .int .i64 ((e.2 : Nat) : Int)]
theorem x_en0 (e : Nat × Nat) : aextract 0 (endsV e) = some (.int .i64 ((e.1 : Nat) : Int)) := Eq.trans rfl (Eq.refl _)
theorem x_en1 (e : Nat × Nat) : aextract 1 (endsV e) = some (.int .i64 ((e.2 : Nat) : Int)) := Eq.trans rfl (Eq.refl _)
theorem ends_run {R : Caller} (hA : ∀ xs s, R 63 xs s = gAt xs s) {v : Value} {s : St} {m : List Rg} (h : listOf prC v s = some m) (hl : m.length < 140737488355328) (hs : Srt m) (r : Rg) : op_ends R v (rv r) s = some (endsV (endsL m r), s) := by
  unfold op_ends endsL
  simp only [box_rv, ld_0, ld_1, nil_sv, op_at_call, hA, at_eq h hl hs, x_at0, x_at1, list_len h, e_sneq, n_bind, n_map, getL_0, getL_1, getL_2, getL_3, getL_4, getL_5, getL_6, getL_7, getL_8, getL_9, getL_10, getL_11, getL_12, condV_t, condV_f, guardV_tt, guardV_ff, guardV_tf, guardV_ft, guardV_u, apick_t, apick_f, exV_exit, exV_ret, lookE_same, joinK_eq, seqA_n, seqA_e, seqA_r, e_add, e_sub, e_mul, e_eql, e_neq, e_lss, e_leq, e_gtr, e_geq, e_conv, e_not, e_neg, and_guard, or_guard]
  cases h1 : (r.2 == [])
  · simp only [h1, Bool.not_false, ld_1, op_at_call, hA, at_eq h hl hs, x_at0, x_at1, op_ends.j0, if_false, Bool.false_eq_true, n_bind, n_map, getL_0, getL_1, getL_2, getL_3, getL_4, getL_5, getL_6, getL_7, getL_8, getL_9, getL_10, getL_11, getL_12, condV_t, condV_f, guardV_tt, guardV_ff, guardV_tf, guardV_ft, guardV_u, apick_t, apick_f, exV_exit, exV_ret, lookE_same, joinK_eq, seqA_n, seqA_e, seqA_r, e_add, e_sub, e_mul, e_eql, e_neq, e_lss, e_leq, e_gtr, e_geq, e_conv, e_not, e_neg, and_guard, or_guard, retV]
    rfl
  · simp only [h1, Bool.not_true, op_ends.j0, if_true, n_bind, n_map, getL_0, getL_1, getL_2, getL_3, getL_4, getL_5, getL_6, getL_7, getL_8, getL_9, getL_10, getL_11, getL_12, condV_t, condV_f, guardV_tt, guardV_ff, guardV_tf, guardV_ft, guardV_u, apick_t, apick_f, exV_exit, exV_ret, lookE_same, joinK_eq, seqA_n, seqA_e, seqA_r, e_add, e_sub, e_mul, e_eql, e_neq, e_lss, e_leq, e_gtr, e_geq, e_conv, e_not, e_neg, and_guard, or_guard, retV]
    rfl
open Classical in
noncomputable def gEnds : Sum := fun xs s => (match xs with
  | [v, w] => (listOf prC v s).bind fun m => (asRg w).bind fun r => if m.length < 140737488355328 ∧ Srt m then some (endsV (endsL m r)) else none
  | _ => none).map fun v => (v, s)
theorem ends_eq {v : Value} {s : St} {m : List Rg} {r : Rg} (h : listOf prC v s = some m) (hl : m.length < 140737488355328) (hs : Srt m) : gEnds [v, rv r] s = some (endsV (endsL m r), s) := by
  simp only [gEnds, h, asRg_rv, Option.bind_some]
  rw [if_pos ⟨hl, hs⟩]
  rfl
open Classical in
theorem ends_sum {lib : Lib} {f : FuncId} (h : ∀ v s m r, listOf prC v s = some m → m.length < 140737488355328 → Srt m → run Try.prog lib hints f [v, rv r] s = some (endsV (endsL m r), s)) : SumOk Try.prog lib hints f gEnds :=
  SumOk.plain (G := fun xs s => match xs with
    | [v, w] => (listOf prC v s).bind fun m => (asRg w).bind fun r => if m.length < 140737488355328 ∧ Srt m then some (endsV (endsL m r)) else none
    | _ => none) fun xs s u hh => by
    split at hh
    · rename_i v w
      simp only [Option.bind_eq_some_iff] at hh
      obtain ⟨m, h1, k, h2, hh⟩ := hh
      split at hh
      · rename_i hc
        cases hh
        rw [asRg_some h2]
        exact ⟨rfl, _, h v (frzS s) m k (by rw [list_frz]; exact h1) hc.1 hc.2⟩
      · cases hh
    · cases hh

/-! ### Maps that may be are in order -/
theorem mapE_srt : ∀ {last : BL} {m : List Rg}, mapE last m = 0 → Srt m ∧ (∀ p ∈ m, bl last p.1 = true ∧ ckK p.1 = true ∧ p.2.length ≤ 16)
  | _, [], _ => ⟨List.Pairwise.nil, fun p hp => by cases hp⟩
  | last, q :: m, h => by
    rw [mapE_cons] at h
    split at h
    · cases h
    · rename_i c1
      split at h
      · cases h
      · rename_i c2
        split at h
        · cases h
        · rename_i c3
          obtain ⟨g1, g2⟩ := mapE_srt h
          have d1 : ckK q.1 = true := by simpa using c1
          have d2 : q.2.length ≤ 16 := by simpa using c2
          have d3 : bl last q.1 = true := by simpa using c3
          refine ⟨List.pairwise_cons.2 ⟨fun p hp => (g2 p hp).1, g1⟩, fun p hp => ?_⟩
          rcases List.mem_cons.1 hp with rfl | hp
          · exact ⟨d3, d1, d2⟩
          · exact ⟨bl_trans d3 (g2 p hp).1, (g2 p hp).2⟩
theorem srt_mapE : ∀ {last : BL} {m : List Rg}, Srt m → (∀ p ∈ m, bl last p.1 = true ∧ ckK p.1 = true ∧ p.2.length ≤ 16) → mapE last m = 0
  | _, [], _, _ => rfl
  | last, q :: m, h, g => by
    obtain ⟨d3, d1, d2⟩ := g q (List.mem_cons_self ..)
    have hs := List.pairwise_cons.1 h
    rw [mapE_cons, if_neg (by simp [d1]), if_neg (by simp [d2]), if_neg (by simp [d3])]
    exact srt_mapE hs.2 fun p hp => ⟨hs.1 p hp, (g p (List.mem_cons_of_mem _ hp)).2⟩

end Go.Proofs.Ytccindbiodofmaa.Ab

/- What single operations do to a map, and tell. -/
namespace Go.Proofs.Ytccindbiodofmaa.Ab
open Go

theorem room32 {q : Nat} (h : q ≤ 6500000000000) : roomA q 32 := .inr (by omega)
/-- what is told: found, value, pairs -/
def tellV (f : Bool) (v : BL) (p : Value) : Value := .agg #[.bool f, sv v, p]
theorem res_00 : (Value.agg #[(.bool false), (.string ⟨#[]⟩), (.slice none 0 0)]) = tellV false [] (.slice none 0 0) := rfl
theorem res_st (f : Bool) (v : BL) (p : Value) (h : isLeaf p = true) (g : Bool) (w : BL) (q : Value) : lstore 3 lptr (tellV f v p) (tellV g w q) = some (tellV f v p) := by
  cases p <;> first | rfl | (cases h; done)
theorem res_ld (f : Bool) (v : BL) (p : Value) : lload true 3 lptr (tellV f v p) = some (tellV f v p) := rfl
theorem lb_lt_of {m : List Rg} {k : BL} (h : fnd m k = true) : ∃ hj : lb m k < m.length, m[lb m k].1 = k := by
  unfold fnd at h
  split at h
  · rename_i p e
    obtain ⟨h1, h2⟩ := List.getElem?_eq_some_iff.1 e
    exact ⟨h1, by rw [h2]; simpa using h⟩
  · cases h
def getR (m : List Rg) (k : BL) : Bool × BL := if fnd m k then (true, (m[lb m k]?.getD ([], [])).2) else (false, [])
theorem get_run {R : Caller} (hA : ∀ xs s, R 63 xs s = gAt xs s) {v : Value} {s : St} {m : List Rg} (h : listOf prC v s = some m) (hl : m.length < 140737488355328) (hs : Srt m) (o : OpT) (hnt : noTup v = true) : op_get R v (oV o) s = some (.tuple #[v, tellV (getR m o.key).1 (getR m o.key).2 (.slice none 0 0)], s) := by
  unfold op_get getR
  simp only [o_box, o_1, op_at_call, hA, at_eq h hl hs, x_at0, x_at1, res_00, n_bind, n_map, getL_0, getL_1, getL_2, getL_3, getL_4, getL_5, getL_6, getL_7, getL_8, getL_9, getL_10, getL_11, getL_12, condV_t, condV_f, guardV_tt, guardV_ff, guardV_tf, guardV_ft, guardV_u, apick_t, apick_f, exV_exit, exV_ret, lookE_same, joinK_eq, seqA_n, seqA_e, seqA_r, e_add, e_sub, e_mul, e_eql, e_neq, e_lss, e_leq, e_gtr, e_geq, e_conv, e_not, e_neg, and_guard, or_guard]
  cases hf : fnd m o.key
  · simp only [Bool.not_false, if_false, Bool.false_eq_true, n_bind, n_map, getL_0, getL_1, getL_2, getL_3, getL_4, getL_5, getL_6, getL_7, getL_8, getL_9, getL_10, getL_11, getL_12, condV_t, condV_f, guardV_tt, guardV_ff, guardV_tf, guardV_ft, guardV_u, apick_t, apick_f, exV_exit, exV_ret, lookE_same, joinK_eq, seqA_n, seqA_e, seqA_r, e_add, e_sub, e_mul, e_eql, e_neq, e_lss, e_leq, e_gtr, e_geq, e_conv, e_not, e_neg, and_guard, or_guard, retV, List.all_cons, hnt]
    rfl
  · obtain ⟨hj, _⟩ := lb_lt_of hf
    obtain ⟨p, g1, q, g2, g3⟩ := list_field h hj (j := 1) (c := sv m[lb m o.key].2) rfl (k := .i64) (n := 2) rfl
    have hb : ∀ x : BL, abuild Try.prog 82 [(0, (.bool true)), (1, sv x)] = some (tellV true x (.slice none 0 0)) := fun x => by kernel_rfl
    have hg : (m[lb m o.key]?.getD ([], [])).2 = m[lb m o.key].2 := by rw [List.getElem?_eq_getElem hj]; rfl
    simp only [Bool.not_true, if_true, n_bind, n_map, getL_0, getL_1, getL_2, getL_3, getL_4, getL_5, getL_6, getL_7, getL_8, getL_9, getL_10, getL_11, getL_12, condV_t, condV_f, guardV_tt, guardV_ff, guardV_tf, guardV_ft, guardV_u, apick_t, apick_f, exV_exit, exV_ret, lookE_same, joinK_eq, seqA_n, seqA_e, seqA_r, e_add, e_sub, e_mul, e_eql, e_neq, e_lss, e_leq, e_gtr, e_geq, e_conv, e_not, e_neg, and_guard, or_guard, g1, g2, g3, own_id, hb, res_st _ _ (.slice none 0 0) rfl, res_ld, hg, retV, List.all_cons, hnt]
    rfl

/-! ### Insert -/
def putL (m : List Rg) (k v : BL) : List Rg := if fnd m k then m.set (lb m k) ((m[lb m k]?.getD ([], [])).1, v) else m.take (lb m k) ++ (k, v) :: m.drop (lb m k)
theorem ins_ok {N : Nat} {s : St} {v : Value} {m : List Rg} (h : OwnC prC N s v m) (hN : N ≤ s.heap.length) (p : Rg) {i : Nat} (hi : i ≤ m.length) (hb : m.length + 1 ≤ 6500000000000) :
    ∃ v' t, gIns [v, .int .i64 (i : Int), .slice (some ⟨s.heap.length, 0, none⟩) 1 1] (s.push (.row 2 (prC.enc p) .act)) = some (v', t) ∧ OwnC prC N t v' (m.take i ++ p :: m.drop i) ∧ Keep (blkOf v) s t ∧ Fresh s v v' ∧ (∀ c, blkOf v' = some c → N ≤ c) := by
  have hk0 : Keep (blkOf v) s (s.push (.row 2 (prC.enc p) .act)) := (Ext.push _ (Nat.le_refl _) _).keep
  have h1 : OwnC prC N (s.push (.row 2 (prC.enc p) .act)) v m := by
    rcases h with h | ⟨b, cap, rest, rfl, h1, h2, h3⟩
    · exact .inl h
    · exact .inr ⟨b, cap, rest, rfl, h1, by rw [push_old (List.getElem?_eq_some_iff.1 h2).1]; exact h2, h3⟩
  have hy : listOf prC (.slice (some ⟨s.heap.length, 0, none⟩) 1 1) (s.push (.row 2 (prC.enc p) .act)) = some [p] := by
    refine (listOf_iff prC).2 ?_
    simp only [cellsOf, Nat.le_refl, if_true, readN, Ab.readRow, push_get, Option.bind_some]
    rfl
  have hroom := room32 hb
  have hlv := list_lenV h.list
  unfold gIns
  simp only
  rw [if_pos (by omega), Int.toNat_natCast, hlv]
  by_cases he : i = m.length
  · subst he
    rw [if_pos rfl]
    have hsl : (asliceV 2 v (some (.int .i64 ((m.length : Nat) : Int))) none none).isSome = true := by
      obtain ⟨u, hu, _⟩ := list_slice h.list (lo := some (.int .i64 ((m.length : Nat) : Int))) (hi := none) (mx := none) (i := m.length) (j := m.length) (by simp [abound]) rfl (Nat.le_refl _) (Nat.le_refl _) (.inl rfl) (n := 2) rfl
      rw [hu]; rfl
    rw [if_pos ⟨hsl, by simp [lenV], by simp [lenV]⟩]
    obtain ⟨v', t, g1, g2, g3, g4, g5⟩ := ownC_push (w := 32) h1 (by rw [push_len]; omega) (by decide) hy hroom (n := 2) rfl
    rw [g1]
    refine ⟨v', t, ?_, ?_, hk0.trans g3, ?_, g5⟩
    · simp only [Option.bind_some, retV, List.all_cons, g2.notup]
      rfl
    · rw [List.take_length, List.drop_length]
      exact g2
    · rcases g4 with g4 | g4
      · exact .inl g4
      · exact .inr fun c hc => by have := g4 c hc; rw [push_len] at this; omega
  · rw [if_neg (by simp; omega)]
    have hlt : i < m.length := by omega
    rcases h1 with ⟨_, rfl⟩ | ⟨b, cap, rest, rfl, e1, e2, e3, e4⟩
    · simp at hlt
    have hbl : b < s.heap.length := by
      rcases h with ⟨h0, _⟩ | ⟨b', cap', rest', h0, _, h5, _⟩
      · cases h0
      · cases h0; exact (List.getElem?_eq_some_iff.1 h5).1
    have hle : m.length ≤ cap := OwnC.cap_le (N := N) (s := s) (b := b) (len := m.length) e3
    have hel : (encL prC m).length = m.length * 2 := encL_len prC m
    unfold gInsMid
    simp only [e2, push_get]
    rw [if_pos (by
      refine ⟨?_, ?_, by omega, hlt, hle, by show m.length * 2 ≤ _; rw [List.length_append]; omega, by decide, Nat.le_refl 2, by decide, hroom⟩ <;> first | trivial | rfl)]
    have htk : (encL prC m ++ rest).take (i * 2) = encL prC (m.take i) := by
      rw [List.take_append_of_le_length (by omega)]
      exact encL_take prC m i
    have hdr : ((encL prC m ++ rest).take (m.length * 2)).drop (i * 2) = encL prC (m.drop i) := by
      rw [← hel, List.take_left]
      exact encL_drop prC m i
    have hnew : ((prC.enc p).drop 0).take (1 * 2) = encL prC [p] := rfl
    rw [htk, hdr, hnew]
    have hlen2 : (s.push (.row 2 (prC.enc p) .act)).heap.length = ((s.push (.row 2 (prC.enc p) .act)).putB b (.row 2 (encL prC m ++ rest) .dead)).heap.length := by simp [St.putB]
    refine ⟨_, _, rfl, .inr ⟨(s.push (.row 2 (prC.enc p) .act)).heap.length, m.length + 1, [], ?_, ?_, ?_, ?_, rfl⟩, ?_, .inr fun c hc => ?_, fun c hc => ?_⟩
    · congr 1
      simp
      omega
    · rw [push_len]; omega
    · have : encL prC (m.take i) ++ encL prC [p] ++ encL prC (m.drop i) = encL prC (m.take i ++ p :: m.drop i) := by
        rw [List.append_assoc, encL_append]; rfl
      rw [List.append_nil, this, hlen2]
      exact push_get
    · rw [List.append_nil, encL_len]
      congr 1
      simp
      omega
    · exact hk0.trans (putB_keep.trans (Ext.push _ (Nat.le_refl _) _).keep)
    · have hpl : (s.push (.row 2 (prC.enc p) .act)).heap.length = s.heap.length + 1 := push_len
      cases hc
      show s.heap.length ≤ (s.push (.row 2 (prC.enc p) .act)).heap.length
      omega
    · have hpl : (s.push (.row 2 (prC.enc p) .act)).heap.length = s.heap.length + 1 := push_len
      cases hc
      show N ≤ (s.push (.row 2 (prC.enc p) .act)).heap.length
      omega
theorem pr_build (k v : BL) : abuild Try.prog 32 [(0, sv k), (1, sv v)] = some (rv (k, v)) := by kernel_rfl
theorem pr_one (p : Rg) (s : St) : abuildSl 2 [(.string ⟨#[]⟩), (.string ⟨#[]⟩)] 1 [(0, rv p)] s = some (.slice (some ⟨s.heap.length, 0, none⟩) 1 1, s.push (.row 2 (prC.enc p) .act)) := by
  obtain ⟨a, b⟩ := p
  rfl
theorem put_run {R : Caller} (hA : ∀ xs s, R 63 xs s = gAt xs s) (hI : ∀ xs s, R 64 xs s = gIns xs s) {N : Nat} {v : Value} {s : St} {m : List Rg} (h : OwnC prC N s v m) (hN : N ≤ s.heap.length) (hl : m.length + 1 ≤ 6500000000000) (hs : Srt m) (o : OpT) :
    ∃ v' t, op_put R v (oV o) s = some (.tuple #[v', tellV false [] (.slice none 0 0)], t) ∧ OwnC prC N t v' (putL m o.key o.val) ∧ Keep (blkOf v) s t ∧ Fresh s v v' ∧ (∀ c, blkOf v' = some c → N ≤ c) := by
  unfold op_put putL
  simp only [o_box, o_1, o_2, op_at_call, hA, at_eq h.list (by omega) hs, x_at0, x_at1, res_00, n_bind, n_map, getL_0, getL_1, getL_2, getL_3, getL_4, getL_5, getL_6, getL_7, getL_8, getL_9, getL_10, getL_11, getL_12, condV_t, condV_f, guardV_tt, guardV_ff, guardV_tf, guardV_ft, guardV_u, apick_t, apick_f, exV_exit, exV_ret, lookE_same, joinK_eq, seqA_n, seqA_e, seqA_r, e_add, e_sub, e_mul, e_eql, e_neq, e_lss, e_leq, e_gtr, e_geq, e_conv, e_not, e_neg, and_guard, or_guard]
  cases hf : fnd m o.key
  · obtain ⟨v', t, g1, g2, g3, g4, g5⟩ := ins_ok h hN (o.key, o.val) (lb_le m o.key) hl
    refine ⟨v', t, ?_, g2, g3, g4, g5⟩
    simp only [Bool.not_false, if_false, Bool.false_eq_true, n_bind, n_map, getL_0, getL_1, getL_2, getL_3, getL_4, getL_5, getL_6, getL_7, getL_8, getL_9, getL_10, getL_11, getL_12, condV_t, condV_f, guardV_tt, guardV_ff, guardV_tf, guardV_ft, guardV_u, apick_t, apick_f, exV_exit, exV_ret, lookE_same, joinK_eq, seqA_n, seqA_e, seqA_r, e_add, e_sub, e_mul, e_eql, e_neq, e_lss, e_leq, e_gtr, e_geq, e_conv, e_not, e_neg, and_guard, or_guard, o_1, o_2, pr_build, pr_one, slices_Insert_api_Pair_api_Pair_call, hI, g1, retV, List.all_cons, g2.notup]
    rfl
  · obtain ⟨hj, hk⟩ := lb_lt_of hf
    have hg : (m[lb m o.key]?.getD ([], [])).1 = m[lb m o.key].1 := by rw [List.getElem?_eq_getElem hj]; rfl
    obtain ⟨p, q, t, g1, g2, g3, g4, g5⟩ := ownC_set h hj (k := 1) (a := (m[lb m o.key].1, o.val)) (x := sv o.val) (by decide) rfl rfl rfl (kd := .i64) (n := 2) rfl
    refine ⟨v, t, ?_, by rw [if_pos rfl, hg]; exact g4, g5, .inl rfl, fun c hc => (h.blk c hc).1⟩
    simp only [Bool.not_true, n_bind, n_map, getL_0, getL_1, getL_2, getL_3, getL_4, getL_5, getL_6, getL_7, getL_8, getL_9, getL_10, getL_11, getL_12, condV_t, condV_f, guardV_tt, guardV_ff, guardV_tf, guardV_ft, guardV_u, apick_t, apick_f, exV_exit, exV_ret, lookE_same, joinK_eq, seqA_n, seqA_e, seqA_r, e_add, e_sub, e_mul, e_eql, e_neq, e_lss, e_leq, e_gtr, e_geq, e_conv, e_not, e_neg, and_guard, or_guard, o_2, g1, g2, g3, retV, List.all_cons, h.notup]
    rfl
theorem Delete_run {R : Caller} {N : Nat} {v : Value} {s : St} {m : List Rg} (h : OwnC prC N s v m) (hl : m.length ≤ 6500000000000) {i j : Nat} (hij : i ≤ j) (hj : j ≤ m.length) :
    ∃ v' t, slices_Delete_api_Pair_api_Pair R v (.int .i64 (i : Int)) (.int .i64 (j : Int)) s = some (v', t) ∧ OwnC prC N t v' (m.take i ++ m.drop j) ∧ Keep (blkOf v) s t ∧ blkOf v' = blkOf v := by
  have hsl : ∃ u, asliceV 2 v (some (.int .i64 (i : Int))) (some (.int .i64 (j : Int))) (some (.int .i64 ((m.length : Nat) : Int))) = some u := by
    rcases h with ⟨rfl, rfl⟩ | ⟨b, cap, rest, rfl, e1, e2, e3, e4⟩
    · simp only [List.length_nil] at hj
      obtain rfl : j = 0 := by omega
      obtain rfl : i = 0 := by omega
      exact ⟨_, rfl⟩
    · have hle : m.length ≤ cap := OwnC.cap_le (N := N) (s := s) (b := b) (len := m.length) e3
      simp only [asliceV, asliceSl, abound, Int.toNat_natCast, Option.isNone_some, Option.isSome_some, Bool.or_true, if_true, Option.bind_some]
      rw [if_pos (by omega), if_pos (by omega), if_pos (by omega)]
      simp only [Option.bind_some]
      rw [if_pos (by omega)]
      exact ⟨_, rfl⟩
  obtain ⟨u, hu⟩ := hsl
  unfold slices_Delete_api_Pair_api_Pair
  simp only [list_len h.list, hu, n_bind, e_eql]
  by_cases he : i = j
  · subst he
    have h1 : ((i : Int) == (i : Int)) = true := beq_self_eq_true _
    refine ⟨v, s, ?_, by rw [List.take_append_drop]; exact h, .refl _ _, rfl⟩
    simp only [h1, condV_t, retV, List.all_cons, h.notup]
    rfl
  · have h1 : ((i : Int) == (j : Int)) = false := by rw [beq_eq_false_iff_ne]; omega
    obtain ⟨v4, v5, v6, v8, s2, t, g1, g2, g3, g4, g5, g6, g7, g8, g9, g10⟩ := ownC_del (w := 32) h (show i < j by omega) hj (by decide) (room32 hl) (z := [(.string ⟨#[]⟩), (.string ⟨#[]⟩)]) rfl rfl (n := 2) rfl
    refine ⟨v6, t, ?_, g8, g9, g10⟩
    simp only [h1, condV_f, n_bind, g1, g2, g3, own_ok g4, g5, g6, g7, retV, List.all_cons, g8.notup]
    rfl

end Go.Proofs.Ytccindbiodofmaa.Ab

/- What single operations do to a map, and tell, further. -/
namespace Go.Proofs.Ytccindbiodofmaa.Ab
open Go

theorem lb_mono {a b : BL} (h : bl a b = true) : ∀ (m : List Rg), lb m a ≤ lb m b
  | [] => Nat.le_refl _
  | p :: m => by
    unfold lb
    rw [List.takeWhile_cons, List.takeWhile_cons]
    by_cases c : bl p.1 a = true
    · rw [if_pos c, if_pos (bl_trans c h)]
      have := lb_mono h m
      unfold lb at this
      simp only [List.length_cons]
      omega
    · rw [if_neg c]
      simp
theorem ends_le {m : List Rg} {r : Rg} (h : ckR r = true) : (endsL m r).1 ≤ (endsL m r).2 ∧ (endsL m r).2 ≤ m.length := by
  unfold endsL
  have h1 := ckR_lt' h
  by_cases h2 : r.2 = []
  · simp only [h2, beq_self_eq_true, if_true]
    exact ⟨lb_le _ _, Nat.le_refl _⟩
  · have h3 : (r.2 == []) = false := by simp [h2]
    rw [h3] at h1
    simp only [Bool.false_or] at h1
    simp only [h3, if_false, Bool.false_eq_true]
    exact ⟨lb_mono h1 m, lb_le _ _⟩
where
  ckR_lt' {r : Rg} (h : ckR r = true) : (r.2 == [] || bl r.1 r.2) = true := by
    unfold ckR at h
    simp only [Bool.and_eq_true] at h
    exact h.2
def delL (m : List Rg) (k : BL) : List Rg := if fnd m k then m.take (lb m k) ++ m.drop (lb m k + 1) else m
def clearL (m : List Rg) (r : Rg) : List Rg := m.take (endsL m r).1 ++ m.drop (endsL m r).2
def scanL (m : List Rg) (r : Rg) (most : Nat) : List Rg := (m.drop (endsL m r).1).take (min (endsL m r).2 ((endsL m r).1 + most) - (endsL m r).1)
theorem del_run {R : Caller} (hA : ∀ xs s, R 63 xs s = gAt xs s) (hD : ∀ a b c s r, slices_Delete_api_Pair_api_Pair R a b c s = some r → R 65 [a, b, c] s = some r) {N : Nat} {v : Value} {s : St} {m : List Rg} (h : OwnC prC N s v m) (hN : N ≤ s.heap.length) (hl : m.length ≤ 6500000000000) (hs : Srt m) (o : OpT) :
    ∃ v' t, op_del R v (oV o) s = some (.tuple #[v', tellV false [] (.slice none 0 0)], t) ∧ OwnC prC N t v' (delL m o.key) ∧ Keep (blkOf v) s t ∧ blkOf v' = blkOf v := by
  unfold op_del delL
  simp only [o_box, o_1, op_at_call, hA, at_eq h.list (by omega) hs, x_at0, x_at1, res_00, n_bind, n_map, getL_0, getL_1, getL_2, getL_3, getL_4, getL_5, getL_6, getL_7, getL_8, getL_9, getL_10, getL_11, getL_12, condV_t, condV_f, guardV_tt, guardV_ff, guardV_tf, guardV_ft, guardV_u, apick_t, apick_f, exV_exit, exV_ret, lookE_same, joinK_eq, seqA_n, seqA_e, seqA_r, e_add, e_sub, e_mul, e_eql, e_neq, e_lss, e_leq, e_gtr, e_geq, e_conv, e_not, e_neg, and_guard, or_guard]
  cases hf : fnd m o.key
  · refine ⟨v, s, ?_, h, .refl _ _, rfl⟩
    simp only [n_bind, n_map, getL_0, getL_1, getL_2, getL_3, getL_4, getL_5, getL_6, getL_7, getL_8, getL_9, getL_10, getL_11, getL_12, condV_t, condV_f, guardV_tt, guardV_ff, guardV_tf, guardV_ft, guardV_u, apick_t, apick_f, exV_exit, exV_ret, lookE_same, joinK_eq, seqA_n, seqA_e, seqA_r, e_add, e_sub, e_mul, e_eql, e_neq, e_lss, e_leq, e_gtr, e_geq, e_conv, e_not, e_neg, and_guard, or_guard, op_del.j0, res_00, res_st _ _ (.slice none 0 0) rfl, res_ld, retV, List.all_cons, h.notup]
    rfl
  · obtain ⟨hj, _⟩ := lb_lt_of hf
    obtain ⟨v', t, g1, g2, g3, g4⟩ := Delete_run (R := R) h hl (i := lb m o.key) (j := lb m o.key + 1) (by omega) hj
    refine ⟨v', t, ?_, by rw [if_pos rfl]; exact g2, g3, g4⟩
    simp only [n_bind, n_map, getL_0, getL_1, getL_2, getL_3, getL_4, getL_5, getL_6, getL_7, getL_8, getL_9, getL_10, getL_11, getL_12, condV_t, condV_f, guardV_tt, guardV_ff, guardV_tf, guardV_ft, guardV_u, apick_t, apick_f, exV_exit, exV_ret, lookE_same, joinK_eq, seqA_n, seqA_e, seqA_r, e_add, e_sub, e_mul, e_eql, e_neq, e_lss, e_leq, e_gtr, e_geq, e_conv, e_not, e_neg, and_guard, or_guard, inc_i64 (show lb m o.key < 140737488355328 by omega), slices_Delete_api_Pair_api_Pair_call, hD _ _ _ _ _ g1, op_del.j0, res_00, res_st _ _ (.slice none 0 0) rfl, res_ld, retV, List.all_cons, g2.notup]
    rfl
theorem clear_run {R : Caller} (hO : ∀ o s, R 61 [oV o] s = some (rv (o.lo, o.hi), s)) (hE : ∀ xs s, R 66 xs s = gEnds xs s) (hD : ∀ a b c s r, slices_Delete_api_Pair_api_Pair R a b c s = some r → R 65 [a, b, c] s = some r) {N : Nat} {v : Value} {s : St} {m : List Rg} (h : OwnC prC N s v m) (hN : N ≤ s.heap.length) (hl : m.length ≤ 6500000000000) (hs : Srt m) (o : OpT) (hr : ckR (o.lo, o.hi) = true) :
    ∃ v' t, op_clear R v (oV o) s = some (.tuple #[v', tellV false [] (.slice none 0 0)], t) ∧ OwnC prC N t v' (clearL m (o.lo, o.hi)) ∧ Keep (blkOf v) s t ∧ blkOf v' = blkOf v := by
  obtain ⟨e1, e2⟩ := ends_le (m := m) hr
  obtain ⟨v', t, g1, g2, g3, g4⟩ := Delete_run (R := R) h hl e1 e2
  refine ⟨v', t, ?_, g2, g3, g4⟩
  unfold op_clear
  simp only [o_box, o_all, op_of_call, hO, op_ends_call, hE, ends_eq h.list (by omega) hs, x_en0, x_en1, slices_Delete_api_Pair_api_Pair_call, hD _ _ _ _ _ g1, res_00, n_bind, n_map, getL_0, getL_1, getL_2, getL_3, getL_4, getL_5, getL_6, getL_7, getL_8, getL_9, getL_10, getL_11, getL_12, condV_t, condV_f, guardV_tt, guardV_ff, guardV_tf, guardV_ft, guardV_u, apick_t, apick_f, exV_exit, exV_ret, lookE_same, joinK_eq, seqA_n, seqA_e, seqA_r, e_add, e_sub, e_mul, e_eql, e_neq, e_lss, e_leq, e_gtr, e_geq, e_conv, e_not, e_neg, and_guard, or_guard, retV, List.all_cons, g2.notup]
  rfl
theorem pr_nil {o1 o2 : Operand} : abin Try.prog .eql 27 o1 o2 (.slice none 0 0) (.slice none 0 0) = some (.bool true) := by
  unfold abin
  rw [Try.underlying27]
  rfl
theorem pr_some {o1 o2 : Operand} {a : Addr} {len cap : Nat} : abin Try.prog .eql 27 o1 o2 (.slice (some a) len cap) (.slice none 0 0) = some (.bool false) := by
  unfold abin
  rw [Try.underlying27]
  rfl
theorem clone_run {R : Caller} {v : Value} {s : St} {m : List Rg} (h : listOf prC v s = some m) (hl : m.length ≤ 6500000000000) :
    ∃ v' t, slices_Clone_api_Pair_api_Pair R v s = some (v', t) ∧ OwnC prC s.heap.length t v' m ∧ Ext s.heap.length s t := by
  unfold slices_Clone_api_Pair_api_Pair
  obtain ⟨a, cap, rfl⟩ := list_shape h
  cases a with
  | none =>
    have hn := (listOf_iff prC).1 h
    unfold cellsOf at hn
    split at hn
    · rename_i e
      injection e with _ e1 e2
      have hm : m = [] := List.eq_nil_of_length_eq_zero e1
      subst hm
      subst e2
      refine ⟨.slice none 0 0, s, ?_, .inl ⟨rfl, rfl⟩, .refl _ _⟩
      simp only [List.length_nil, pr_nil, n_bind, n_map, getL_0, getL_1, getL_2, getL_3, getL_4, getL_5, getL_6, getL_7, getL_8, getL_9, getL_10, getL_11, getL_12, condV_t, condV_f, guardV_tt, guardV_ff, guardV_tf, guardV_ft, guardV_u, apick_t, apick_f, exV_exit, exV_ret, lookE_same, joinK_eq, seqA_n, seqA_e, seqA_r, e_add, e_sub, e_mul, e_eql, e_neq, e_lss, e_leq, e_gtr, e_geq, e_conv, e_not, e_neg, and_guard, or_guard, retV]
      rfl
    · rename_i e; injection e with e _ _; cases e
    · cases hn
  | some a =>
    have e1 : abuildSl 2 [(.string ⟨#[]⟩), (.string ⟨#[]⟩)] 0 [] s = some (.slice (some ⟨s.heap.length, 0, none⟩) 0 0, s.push (.row 2 [] .act)) := rfl
    have hx : Ext s.heap.length s (s.push (.row 2 [] .act)) := .push _ (Nat.le_refl _) _
    have h2 := list_ext hx h
    have he : elemsOf 2 (.slice (some a) m.length cap) (s.push (.row 2 [] .act)) = some (encL prC m) := list_elems h2
    simp only [pr_some, e1, n_bind, n_map, getL_0, getL_1, getL_2, getL_3, getL_4, getL_5, getL_6, getL_7, getL_8, getL_9, getL_10, getL_11, getL_12, condV_t, condV_f, guardV_tt, guardV_ff, guardV_tf, guardV_ft, guardV_u, apick_t, apick_f, exV_exit, exV_ret, lookE_same, joinK_eq, seqA_n, seqA_e, seqA_r, e_add, e_sub, e_mul, e_eql, e_neq, e_lss, e_leq, e_gtr, e_geq, e_conv, e_not, e_neg, and_guard, or_guard]
    unfold aappend
    rw [if_pos (by decide), list_lenV h2, he]
    simp only [Option.bind_some, Nat.zero_add]
    rw [if_pos (room32 hl)]
    by_cases hm : m.length = 0
    · have : m = [] := List.eq_nil_of_length_eq_zero hm
      subst this
      refine ⟨.slice (some ⟨s.heap.length, 0, none⟩) 0 0, s.push (.row 2 [] .act), rfl, .inr ⟨s.heap.length, 0, [], rfl, Nat.le_refl _, push_get, rfl, rfl⟩, hx⟩
    · rw [if_neg (by omega), push_get]
      simp only
      rw [if_pos ⟨trivial, trivial, rfl⟩]
      have hlen2 : (s.push (.row 2 [] .act)).heap.length = ((s.push (.row 2 [] .act)).putB s.heap.length (.row 2 [] .dead)).heap.length := by simp [St.putB]
      have hpl : (s.push (.row 2 [] .act)).heap.length = s.heap.length + 1 := push_len
      refine ⟨.slice (some ⟨(s.push (.row 2 [] .act)).heap.length, 0, none⟩) m.length m.length, ((s.push (.row 2 [] .act)).putB s.heap.length (.row 2 [] .dead)).push (.row 2 (encL prC m) .act), ?_, .inr ⟨(s.push (.row 2 [] .act)).heap.length, m.length, [], rfl, by omega, ?_, ?_, rfl⟩, ?_⟩
      · simp only [Option.bind_some, retV, List.nil_append]
        rfl
      · rw [List.append_nil, hlen2]
        exact push_get
      · rw [List.append_nil, encL_len]
      · refine ⟨by simp [St.putB, St.push], fun c hc => ?_⟩
        rw [push_old (by simp [St.putB, St.push]; omega)]
        simp only [St.putB]
        rw [List.getElem?_set_ne (by omega), push_old hc]
theorem scan_run {R : Caller} (hO : ∀ o s, R 61 [oV o] s = some (rv (o.lo, o.hi), s)) (hE : ∀ xs s, R 66 xs s = gEnds xs s) (hC : ∀ a s r, slices_Clone_api_Pair_api_Pair R a s = some r → R 43 [a] s = some r) {v : Value} {s : St} {m : List Rg} (h : listOf prC v s = some m) (hnt : noTup v = true) (hl : m.length ≤ 6500000000000) (hs : Srt m) (o : OpT) (hr : ckR (o.lo, o.hi) = true) {most : Nat} (hm : o.most = (most : Int)) (hm2 : most ≤ 4) :
    ∃ pv t, op_scan R v (oV o) s = some (.tuple #[v, tellV false [] pv], t) ∧ OwnC prC s.heap.length t pv (scanL m (o.lo, o.hi) most) ∧ Ext s.heap.length s t := by
  obtain ⟨e1, e2⟩ := ends_le (m := m) hr
  have hw : IntKind.wrap .i64 ((((endsL m (o.lo, o.hi)).1 : Nat) : Int) + ((most : Nat) : Int)) = (((endsL m (o.lo, o.hi)).1 + most : Nat) : Int) := by rw [wrap_i64 (by omega) (by omega)]; omega
  have hmin : amin2 (.int .i64 (((endsL m (o.lo, o.hi)).2 : Nat) : Int)) (.int .i64 (((endsL m (o.lo, o.hi)).1 + most : Nat) : Int)) = some (.int .i64 ((min (endsL m (o.lo, o.hi)).2 ((endsL m (o.lo, o.hi)).1 + most) : Nat) : Int)) := by
    unfold amin2
    by_cases c : (endsL m (o.lo, o.hi)).2 ≤ (endsL m (o.lo, o.hi)).1 + most
    · rw [Nat.min_eq_left c]
      simp
      omega
    · rw [Nat.min_eq_right (by omega)]
      simp
      omega
  obtain ⟨u, g1, g2⟩ := list_slice h (lo := some (.int .i64 (((endsL m (o.lo, o.hi)).1 : Nat) : Int))) (hi := some (.int .i64 ((min (endsL m (o.lo, o.hi)).2 ((endsL m (o.lo, o.hi)).1 + most) : Nat) : Int))) (mx := none) (i := (endsL m (o.lo, o.hi)).1) (j := min (endsL m (o.lo, o.hi)).2 ((endsL m (o.lo, o.hi)).1 + most)) (by simp [abound]) (by simp [abound]) (by omega) (by omega) (.inl rfl) (n := 2) rfl
  obtain ⟨pv, t, g3, g4, g5⟩ := clone_run (R := R) g2 (by simp; omega)
  refine ⟨pv, t, ?_, g4, g5⟩
  have hlf : isLeaf pv = true ∧ cellsV pv = [pv] := by rcases g4 with ⟨rfl, _⟩ | ⟨b, cap, rest, rfl, _⟩ <;> exact ⟨rfl, rfl⟩
  have hb : abuild Try.prog 82 [(2, pv)] = some (tellV false [] pv) := by
    rcases g4 with ⟨rfl, _⟩ | ⟨b, cap, rest, rfl, _⟩ <;> kernel_rfl
  unfold op_scan
  simp only [o_box, o_all, o_5, op_of_call, hO, op_ends_call, hE, ends_eq h (by omega) hs, x_en0, x_en1, hm, n_bind, n_map, getL_0, getL_1, getL_2, getL_3, getL_4, getL_5, getL_6, getL_7, getL_8, getL_9, getL_10, getL_11, getL_12, condV_t, condV_f, guardV_tt, guardV_ff, guardV_tf, guardV_ft, guardV_u, apick_t, apick_f, exV_exit, exV_ret, lookE_same, joinK_eq, seqA_n, seqA_e, seqA_r, e_add, e_sub, e_mul, e_eql, e_neq, e_lss, e_leq, e_gtr, e_geq, e_conv, e_not, e_neg, and_guard, or_guard, hw]
  simp only [hmin, n_bind, g1, slices_Clone_api_Pair_api_Pair_call, hC _ _ _ g3, hb, res_00, res_st _ _ pv hlf.1, res_ld, retV, List.all_cons, hnt]
  rfl

end Go.Proofs.Ytccindbiodofmaa.Ab

/- What operations do to a map, by definition: plain. -/
namespace Go.Proofs.Ytccindbiodofmaa.Ab
open Go

theorem bl_up {p q a : BL} (h : bl p a = false) (g : bl p q = true) : bl q a = false := by
  cases e : bl q a with
  | false => rfl
  | true => rw [bl_trans g e] at h; cases h
theorem bl_asym {a b : BL} (h : bl a b = true) : bl b a = false := by
  cases e : bl b a with
  | false => rfl
  | true => have := bl_trans h e; rw [bl_irrefl] at this; cases this
theorem beq_of_bl {a b : BL} (h : bl a b = true) : (a == b) = false ∧ (b == a) = false := by
  constructor <;>
  · rw [beq_eq_false_iff_ne]
    rintro rfl
    rw [bl_irrefl] at h
    cases h
theorem srt_cons {p : Rg} {m : List Rg} : Srt (p :: m) ↔ (∀ q ∈ m, bl p.1 q.1 = true) ∧ Srt m := List.pairwise_cons
theorem lb_cons (p : Rg) (m : List Rg) (k : BL) : lb (p :: m) k = if bl p.1 k = true then lb m k + 1 else 0 := by
  unfold lb
  rw [List.takeWhile_cons]
  split <;> simp_all
theorem fnd_cons (p : Rg) (m : List Rg) (k : BL) : fnd (p :: m) k = if bl p.1 k = true then fnd m k else p.1 == k := by
  unfold fnd
  rw [lb_cons]
  by_cases c : bl p.1 k = true
  · rw [if_pos c, if_pos c, List.getElem?_cons_succ]
  · rw [if_neg c, if_neg c]
    rfl
theorem filter_none {m : List Rg} {f : Rg → Bool} (h : ∀ p ∈ m, f p = false) : m.filter f = [] := List.filter_eq_nil_iff.2 fun p hp => by rw [h p hp]; simp
theorem filter_same {m : List Rg} {f g : Rg → Bool} (h : ∀ p ∈ m, f p = g p) : m.filter f = m.filter g := List.filter_congr h
theorem take_lb : ∀ {m : List Rg} (_ : Srt m) (k : BL), m.take (lb m k) = m.filter fun p => bl p.1 k
  | [], _, _ => rfl
  | p :: m, h, k => by
    obtain ⟨h1, h2⟩ := srt_cons.1 h
    rw [lb_cons, List.filter_cons]
    by_cases c : bl p.1 k = true
    · rw [if_pos c, if_pos c, List.take_succ_cons, take_lb h2]
    · have c2 : bl p.1 k = false := by simpa using c
      rw [if_neg c, if_neg c, List.take_zero, filter_none fun q hq => bl_up c2 (h1 q hq)]
theorem drop_lb : ∀ {m : List Rg} (_ : Srt m) (k : BL), m.drop (lb m k) = m.filter fun p => !bl p.1 k
  | [], _, _ => rfl
  | p :: m, h, k => by
    obtain ⟨h1, h2⟩ := srt_cons.1 h
    rw [lb_cons, List.filter_cons]
    by_cases c : bl p.1 k = true
    · rw [if_pos c, c]
      simp only [Bool.not_true, Bool.false_eq_true, if_false, List.drop_succ_cons]
      exact drop_lb h2 k
    · have c2 : bl p.1 k = false := by simpa using c
      rw [if_neg c, c2]
      simp only [Bool.not_false, if_true, List.drop_zero]
      congr 1
      exact (List.filter_eq_self.2 fun q hq => by rw [bl_up c2 (h1 q hq)]; rfl).symm

def cPut (m : List Rg) (k v : BL) : List Rg := m.filter (fun p => bl p.1 k) ++ (k, v) :: m.filter fun p => bl k p.1
def cDel (m : List Rg) (k : BL) : List Rg := m.filter fun p => p.1 != k
def cGet (m : List Rg) (k : BL) : Option BL := (m.find? fun p => p.1 == k).map (·.2)
def cOut (m : List Rg) (r : Rg) : List Rg := m.filter fun p => !hasR r p.1
def cIn (m : List Rg) (r : Rg) : List Rg := m.filter fun p => hasR r p.1

theorem cGet_cons (p : Rg) (m : List Rg) (k : BL) : cGet (p :: m) k = if (p.1 == k) = true then some p.2 else cGet m k := by
  unfold cGet
  rw [List.find?_cons]
  cases h : (p.1 == k) <;> simp
theorem cGet_none {m : List Rg} {k : BL} (h : ∀ p ∈ m, (p.1 == k) = false) : cGet m k = none := by
  unfold cGet
  rw [List.find?_eq_none.2 fun p hp => by rw [h p hp]; simp]
  rfl
theorem getR_eq : ∀ {m : List Rg} (_ : Srt m) (k : BL), getR m k = ((cGet m k).isSome, (cGet m k).getD [])
  | [], _, _ => rfl
  | p :: m, h, k => by
    obtain ⟨h1, h2⟩ := srt_cons.1 h
    have ih := getR_eq h2 k
    unfold getR at ih ⊢
    rw [fnd_cons, lb_cons, cGet_cons]
    by_cases c : bl p.1 k = true
    · rw [if_pos c, if_pos c, (beq_of_bl c).1, List.getElem?_cons_succ]
      exact ih
    · rw [if_neg c, if_neg c]
      have c2 : bl p.1 k = false := by simpa using c
      by_cases e : (p.1 == k) = true
      · rw [if_pos e, if_pos e]; rfl
      · rw [if_neg e, if_neg e, cGet_none fun q hq => ?_]
        · rfl
        · have e1 : p.1 ≠ k := by simpa using e
          rcases bl_total e1 with e2 | e2
          · exact absurd e2 c
          · exact (beq_of_bl (bl_trans e2 (h1 q hq))).2
theorem putL_eq : ∀ {m : List Rg} (_ : Srt m) (k v : BL), putL m k v = cPut m k v
  | [], _, _, _ => rfl
  | p :: m, h, k, v => by
    obtain ⟨h1, h2⟩ := srt_cons.1 h
    have ih := putL_eq h2 k v
    unfold putL cPut at ih ⊢
    rw [fnd_cons, lb_cons, List.filter_cons, List.filter_cons]
    by_cases c : bl p.1 k = true
    · rw [if_pos c, if_pos c, if_pos c, bl_asym c, List.getElem?_cons_succ, List.set_cons_succ, List.take_succ_cons, List.drop_succ_cons]
      simp only [Bool.false_eq_true, if_false, List.cons_append]
      rw [← ih]
      split <;> rfl
    · have c2 : bl p.1 k = false := by simpa using c
      rw [if_neg c, if_neg c, if_neg c, filter_none fun q hq => bl_up c2 (h1 q hq)]
      by_cases e : (p.1 == k) = true
      · have e1 : p.1 = k := by simpa using e
        rw [if_pos e, ← e1, bl_irrefl]
        simp only [Bool.false_eq_true, if_false, List.nil_append, List.getElem?_cons_zero, List.set_cons_zero, Option.getD_some]
        congr 1
        exact (List.filter_eq_self.2 fun q hq => h1 q hq).symm
      · have e1 : p.1 ≠ k := by simpa using e
        have e2 : bl k p.1 = true := by
          rcases bl_total e1 with e2 | e2
          · exact absurd e2 c
          · exact e2
        rw [if_neg e, if_pos e2]
        simp only [List.take_zero, List.nil_append, List.drop_zero]
        congr 2
        exact (List.filter_eq_self.2 fun q hq => bl_trans e2 (h1 q hq)).symm
theorem delL_eq : ∀ {m : List Rg} (_ : Srt m) (k : BL), delL m k = cDel m k
  | [], _, _ => rfl
  | p :: m, h, k => by
    obtain ⟨h1, h2⟩ := srt_cons.1 h
    have ih := delL_eq h2 k
    unfold delL cDel at ih ⊢
    rw [fnd_cons, lb_cons, List.filter_cons]
    by_cases c : bl p.1 k = true
    · have c3 : (p.1 != k) = true := by simp [bne, (beq_of_bl c).1]
      rw [if_pos c, if_pos c, if_pos c3, List.take_succ_cons, List.drop_succ_cons, ← ih]
      split <;> rfl
    · have c2 : bl p.1 k = false := by simpa using c
      rw [if_neg c, if_neg c]
      by_cases e : (p.1 == k) = true
      · have c3 : (p.1 != k) = false := by simp [bne, e]
        have e1 : p.1 = k := by simpa using e
        rw [if_pos e, c3]
        simp only [Bool.false_eq_true, if_false, List.take_zero, List.nil_append, List.drop_succ_cons, List.drop_zero]
        exact (List.filter_eq_self.2 fun q hq => by simp only [bne, (beq_of_bl (e1 ▸ h1 q hq)).2]; rfl).symm
      · have e1 : p.1 ≠ k := by simpa using e
        have e2 : bl k p.1 = true := by
          rcases bl_total e1 with e2 | e2
          · exact absurd e2 c
          · exact e2
        have c3 : (p.1 != k) = true := by simp [bne, e]
        rw [if_neg e, if_pos c3]
        congr 1
        exact (List.filter_eq_self.2 fun q hq => by simp only [bne, (beq_of_bl (bl_trans e2 (h1 q hq))).2]; rfl).symm

/-! ### Maps that may be -/
def Val (m : List Rg) : Prop := Srt m ∧ ∀ p ∈ m, ckK p.1 = true ∧ p.2.length ≤ 16
theorem val_mapE {m : List Rg} : mapE [] m = 0 ↔ Val m := by
  constructor
  · intro h
    obtain ⟨h1, h2⟩ := mapE_srt h
    exact ⟨h1, fun p hp => (h2 p hp).2⟩
  · rintro ⟨h1, h2⟩
    exact srt_mapE h1 fun p hp => ⟨bl_nil_l (ckK_len (h2 p hp).1).2, h2 p hp⟩
theorem val_filter {m : List Rg} {f : Rg → Bool} (h : Val m) : Val (m.filter f) := ⟨List.Pairwise.filter f h.1, fun p hp => h.2 p ((List.mem_filter.1 hp).1)⟩
theorem mid_lb : ∀ {m : List Rg} (_ : Srt m) {a b : BL} (_ : bl a b = true), (m.drop (lb m a)).take (lb m b - lb m a) = m.filter fun p => !bl p.1 a && bl p.1 b
  | [], _, _, _, _ => by simp [lb]
  | p :: m, h, a, b, hab => by
    obtain ⟨h1, h2⟩ := srt_cons.1 h
    by_cases c : bl p.1 a = true
    · rw [lb_cons, lb_cons, if_pos c, if_pos (bl_trans c hab), List.filter_cons, c]
      simp only [Bool.not_true, Bool.false_and, Bool.false_eq_true, if_false, List.drop_succ_cons, Nat.add_sub_add_right]
      exact mid_lb h2 hab
    · have c2 : bl p.1 a = false := by simpa using c
      have h0 : lb (p :: m) a = 0 := by rw [lb_cons, if_neg c]
      rw [h0, List.drop_zero, Nat.sub_zero, take_lb h]
      refine filter_same fun q hq => ?_
      rcases List.mem_cons.1 hq with rfl | hq
      · rw [c2]; rfl
      · rw [bl_up c2 (h1 q hq)]; rfl
theorem out_lb : ∀ {m : List Rg} (_ : Srt m) {a b : BL} (_ : bl a b = true), m.take (lb m a) ++ m.drop (lb m b) = m.filter fun p => bl p.1 a || !bl p.1 b
  | [], _, _, _, _ => by simp [lb]
  | p :: m, h, a, b, hab => by
    obtain ⟨h1, h2⟩ := srt_cons.1 h
    by_cases c : bl p.1 a = true
    · rw [lb_cons, lb_cons, if_pos c, if_pos (bl_trans c hab), List.filter_cons, c]
      simp only [Bool.true_or, if_true, List.take_succ_cons, List.drop_succ_cons, List.cons_append]
      rw [out_lb h2 hab]
    · have c2 : bl p.1 a = false := by simpa using c
      have h0 : lb (p :: m) a = 0 := by rw [lb_cons, if_neg c]
      rw [h0, List.take_zero, List.nil_append, drop_lb h]
      refine filter_same fun q hq => ?_
      rcases List.mem_cons.1 hq with rfl | hq
      · rw [c2]; rfl
      · rw [bl_up c2 (h1 q hq)]; rfl
theorem clearL_eq {m : List Rg} (h : Val m) {r : Rg} (hr : ckR r = true) : clearL m r = cOut m r := by
  unfold clearL cOut endsL
  have h1 := ckR_lt hr
  by_cases e : r.2 = []
  · have e2 : (r.2 == []) = true := by simp [e]
    simp only [e2, if_true, List.drop_length, List.append_nil]
    rw [take_lb h.1]
    exact filter_same fun q hq => by rw [has_iff hr (h.2 q hq).1, e2]; simp
  · have e2 : (r.2 == []) = false := by simp [e]
    rw [e2] at h1
    simp only [Bool.false_or] at h1
    simp only [e2, Bool.false_eq_true, if_false]
    rw [out_lb h.1 h1]
    exact filter_same fun q hq => by rw [has_iff hr (h.2 q hq).1, e2]; simp [Bool.not_and]
theorem mid_eq {m : List Rg} (h : Val m) {r : Rg} (hr : ckR r = true) : (m.drop (endsL m r).1).take ((endsL m r).2 - (endsL m r).1) = cIn m r := by
  unfold cIn endsL
  have h1 := ckR_lt hr
  by_cases e : r.2 = []
  · have e2 : (r.2 == []) = true := by simp [e]
    simp only [e2, if_true]
    rw [List.take_of_length_le (by rw [List.length_drop]; omega), drop_lb h.1]
    exact filter_same fun q hq => by rw [has_iff hr (h.2 q hq).1, e2]; simp
  · have e2 : (r.2 == []) = false := by simp [e]
    rw [e2] at h1
    simp only [Bool.false_or] at h1
    simp only [e2, Bool.false_eq_true, if_false]
    rw [mid_lb h.1 h1]
    exact filter_same fun q hq => by rw [has_iff hr (h.2 q hq).1, e2]; simp
theorem scanL_eq {m : List Rg} (h : Val m) {r : Rg} (hr : ckR r = true) (n : Nat) : scanL m r n = (cIn m r).take n := by
  unfold scanL
  rw [← mid_eq h hr, List.take_take]
  congr 1
  omega

/-! ### One operation -/
abbrev Rs := Bool × BL × List Rg
def doM (m : List Rg) (o : OpT) : List Rg := if o.kind = 2 then cPut m o.key o.val else if o.kind = 3 then cDel m o.key else if o.kind = 5 then cOut m (o.lo, o.hi) else m
def doR (m : List Rg) (o : OpT) : Rs := if o.kind = 1 then ((cGet m o.key).isSome, (cGet m o.key).getD [], []) else if o.kind = 4 then (false, [], (cIn m (o.lo, o.hi)).take o.most.toNat) else (false, [], [])
theorem val_put {m : List Rg} (h : Val m) {k v : BL} (hk : ckK k = true) (hv : v.length ≤ 16) : Val (cPut m k v) := by
  refine ⟨?_, fun p hp => ?_⟩
  · refine List.pairwise_append.2 ⟨List.Pairwise.filter _ h.1, List.pairwise_cons.2 ⟨fun q hq => (List.mem_filter.1 hq).2, List.Pairwise.filter _ h.1⟩, fun p hp q hq => ?_⟩
    have h1 := (List.mem_filter.1 hp).2
    rcases List.mem_cons.1 hq with rfl | hq
    · exact h1
    · exact bl_trans h1 (List.mem_filter.1 hq).2
  · rcases List.mem_append.1 hp with hp | hp
    · exact h.2 p ((List.mem_filter.1 hp).1)
    · rcases List.mem_cons.1 hp with rfl | hp
      · exact ⟨hk, hv⟩
      · exact h.2 p ((List.mem_filter.1 hp).1)
theorem len_put {m : List Rg} {k v : BL} : (cPut m k v).length ≤ m.length + 1 := by
  unfold cPut
  induction m with
  | nil => simp
  | cons p m ih =>
    rw [List.length_append, List.length_cons] at ih ⊢
    rw [List.filter_cons, List.filter_cons]
    cases c : bl p.1 k
    · cases d : bl k p.1 <;> simp <;> omega
    · rw [bl_asym c]; simp; omega
theorem val_do {m : List Rg} (h : Val m) {o : OpT} (ho : ckO o = 0) : Val (doM m o) := by
  obtain ⟨h1, h2, _⟩ := ckO_key ho
  have hv : o.val.length ≤ 16 := by
    unfold ckO at ho
    split at ho; · cases ho
    split at ho; · cases ho
    split at ho; · cases ho
    rename_i h3
    simpa using h3
  unfold doM
  split
  · rename_i e
    exact val_put h (h2 (by rw [e]; rfl)) hv
  · split
    · exact val_filter h
    · split
      · exact val_filter h
      · exact h
theorem len_do {m : List Rg} {o : OpT} : (doM m o).length ≤ m.length + 1 := by
  unfold doM
  split
  · exact len_put
  · split
    · have := List.length_filter_le (fun p : Rg => p.1 != o.key) m
      unfold cDel; omega
    · split
      · have := List.length_filter_le (fun p : Rg => !hasR (o.lo, o.hi) p.1) m
        unfold cOut; omega
      · omega
def apM : List Rg → List OpT → List Rg
  | m, [] => m
  | m, o :: l => apM (doM m o) l
def apR : List Rg → List OpT → List Rs
  | _, [] => []
  | m, o :: l => doR m o :: apR (doM m o) l
theorem apM_snoc : ∀ (l : List OpT) (m : List Rg) (o : OpT), apM m (l ++ [o]) = doM (apM m l) o
  | [], _, _ => rfl
  | _ :: l, m, o => apM_snoc l _ o
theorem apR_snoc : ∀ (l : List OpT) (m : List Rg) (o : OpT), apR m (l ++ [o]) = apR m l ++ [doR (apM m l) o]
  | [], _, _ => rfl
  | p :: l, m, o => by
    show doR m p :: apR (doM m p) (l ++ [o]) = _
    rw [apR_snoc l _ o]
    rfl
theorem apR_len : ∀ (l : List OpT) (m : List Rg), (apR m l).length = l.length
  | [], _ => rfl
  | _ :: l, m => by
    show (apR _ l).length + 1 = _
    rw [apR_len l]
    rfl
theorem allE_cons0 {o : OpT} {l : List OpT} (h : allE (o :: l) = 0) : ckO o = 0 ∧ allE l = 0 := by
  rw [allE_cons] at h
  split at h
  · exact ⟨by assumption, h⟩
  · exact absurd h (by assumption)
theorem val_ap : ∀ {l : List OpT} {m : List Rg}, Val m → allE l = 0 → Val (apM m l)
  | [], _, h, _ => h
  | o :: l, m, h, hl => val_ap (l := l) (val_do h (allE_cons0 hl).1) (allE_cons0 hl).2
theorem len_ap : ∀ {l : List OpT} {m : List Rg}, (apM m l).length ≤ m.length + l.length
  | [], m => by simp [apM]
  | o :: l, m => by
    have h1 : (apM (doM m o) l).length ≤ (doM m o).length + l.length := len_ap
    have h2 := len_do (m := m) (o := o)
    simp only [apM, List.length_cons]
    omega

end Go.Proofs.Ytccindbiodofmaa.Ab

/- Rows of one's own: parts of an element; what an 'append' leaves as it was. -/
namespace Go.Proofs.Ytccindbiodofmaa.Ab
open Go

theorem cells_field {s : St} {n : Nat} {v : Value} {cs : List Value} (h : cellsOf n v s = some cs) {i j : Nat} (hj : j < n) (hi : i * n + n ≤ cs.length) {c : Value} (hc : cs[i * n + j]? = some c) {k : IntKind} : ∃ p, aindexS n v (.int k (i : Int)) = some p ∧ ∃ q, afieldAddr j p = some q ∧ aload false 1 q s = some c := by
  unfold cellsOf at h
  split at h
  · cases h
    simp only [List.length_nil] at hi
    omega
  · rename_i b o len cap
    split at h
    case isFalse => cases h
    obtain ⟨row, h1, h2, h3⟩ := readN_some h
    have hlen : cs.length = len * n := by
      rw [h3]
      simp
      omega
    have hlt : i < len := by
      rcases Nat.lt_or_ge i len with hh | hh
      · exact hh
      · have := Nat.mul_le_mul_right n hh; omega
    refine ⟨.pointer (some ⟨b, o + i * n, none⟩), by simp [aindexS, hlt], .pointer (some ⟨b, o + i * n + j, none⟩), rfl, ?_⟩
    simp only [aload, h1, Option.bind_some, Bool.false_eq_true, if_false]
    rw [h3, List.getElem?_take_of_lt (by omega), List.getElem?_drop] at hc
    rw [Nat.add_assoc]
    exact hc
  · cases h
theorem aappend_keep {n w : Nat} {x y : Value} {s : St} {v' : Value} {t : St} (h : aappend n w x y s = some (v', t)) : Keep (blkOf x) s t ∧ Fresh s x v' := by
  unfold aappend at h
  split at h
  case isFalse => cases h
  simp only [Option.bind_eq_some_iff] at h
  obtain ⟨m, hm, new, hn, h⟩ := h
  split at h
  · split at h
    case isFalse => cases h
    split at h
    · cases h; exact ⟨.refl _ _, .inl rfl⟩
    · cases h
      exact ⟨(Ext.push _ (Nat.le_refl _) _).keep, .inr fun c hc => by cases hc; exact Nat.le_refl _⟩
  · rename_i b o len cap
    split at h
    case isFalse => cases h
    split at h
    · split at h
      · cases h; exact ⟨.refl _ _, .inl rfl⟩
      · simp only [Option.map_eq_some_iff] at h
        obtain ⟨s2, h2, h3⟩ := h
        cases h3
        unfold writeN at h2
        split at h2
        · split at h2
          case isFalse => cases h2
          cases h2
          exact ⟨putB_keep, .inl rfl⟩
        · cases h2
    · split at h
      · split at h
        case isFalse => cases h
        cases h
        refine ⟨putB_keep.trans (Ext.push _ (Nat.le_refl _) _).keep, .inr fun c hc => ?_⟩
        cases hc
        exact Nat.le_refl _
      · cases h
  · cases h
theorem own_addK {N n w : Nat} {s : St} {x : Value} {cells z : List Value} {v : Value} (h : Own N n s x cells) (hN : N ≤ s.heap.length) (hw : 0 < w) (hn : 0 < n) (hn2 : n ≤ 16777216) (hz : z.length = n) (hzl : z.all isLeaf = true) (hv : (cellsV v).length = n) (hvl : (cellsV v).all isLeaf = true)
    (hb : (cells.length + n) * w ≤ 140737488355328 * n) : ∃ r, abuildSl n z 1 [(0, v)] s = some r ∧ ∃ v' t, aappend n w x r.1 r.2 = some (v', t) ∧ Own N n t v' (cells ++ cellsV v) ∧ Keep (blkOf x) s t ∧ Fresh s x v' := by
  obtain ⟨r, h1, v', t, h2, h3, h4⟩ := own_add h hN hw hn hn2 hz hzl hv hvl hb
  obtain ⟨k1, k2⟩ := aappend_keep h2
  unfold abuildSl at h1
  split at h1
  case isFalse => cases h1
  simp only [Option.map_eq_some_iff] at h1
  obtain ⟨cs, _, h5⟩ := h1
  subst h5
  refine ⟨_, by unfold abuildSl; rw [if_pos ‹_›]; simp only [‹afill _ _ _ = some cs›, Option.map_some], v', t, h2, h3, (Ext.push _ (Nat.le_refl _) _).keep.trans k1, ?_⟩
  rcases k2 with k2 | k2
  · exact .inl k2
  · exact .inr fun c hc => by have := k2 c hc; rw [push_len] at this; omega
theorem Own.keep {N n : Nat} {B : Option Nat} {s t : St} {v : Value} {cs : List Value} (h : Own N n s v cs) (k : Keep B s t) (hb : ∀ c, blkOf v = some c → B ≠ some c) : Own N n t v cs := by
  rcases h with h | ⟨b, len, rfl, h1, h2, h3⟩
  · exact .inl h
  · exact .inr ⟨b, len, rfl, h1, by rw [k.2 b (List.getElem?_eq_some_iff.1 h2).1 (hb b rfl)]; exact h2, h3⟩
theorem Own.blk {N n : Nat} {s : St} {v : Value} {cs : List Value} (h : Own N n s v cs) : ∀ c, blkOf v = some c → N ≤ c ∧ c < s.heap.length := by
  intro c hc
  rcases h with ⟨rfl, _⟩ | ⟨b, len, rfl, h1, h2, h3⟩
  · cases hc
  · cases hc; exact ⟨h1, (List.getElem?_eq_some_iff.1 h2).1⟩
theorem Own.notup {N n : Nat} {s : St} {v : Value} {cs : List Value} (h : Own N n s v cs) : noTup v = true := by
  rcases h with ⟨rfl, _⟩ | ⟨b, len, rfl, _⟩ <;> rfl
/-- rows of unlike elements are unlike -/
theorem own_apart {α : Type} {C : Cod α} {N M n : Nat} {s : St} {v w : Value} {l : List α} {cs : List Value} (h : OwnC C N s v l) (g : Own M n s w cs) (hn : n ≠ C.n) : ∀ c, blkOf v = some c → blkOf w ≠ some c := by
  intro c hc hd
  rcases h with ⟨rfl, _⟩ | ⟨b, cap, rest, rfl, _, h2, _⟩
  · cases hc
  · cases hc
    rcases g with ⟨rfl, _⟩ | ⟨b2, len, rfl, _, g2, _⟩
    · cases hd
    · cases hd
      rw [h2] at g2
      cases g2
      exact hn rfl

theorem own_add1R {α : Type} {C : Cod α} {N w : Nat} {s : St} {x : Value} {l : List α} {a : α} {z : List Value} {v : Value} (h : Own N C.n s x (encL C l)) (hN : N ≤ s.heap.length) (hw : 0 < w) (hn2 : C.n ≤ 16777216) (hz : z.length = C.n) (hzl : z.all isLeaf = true) (hv : cellsV v = C.enc a) (hb : roomA (l.length + 1) w) {n : Nat} (hn : n = C.n) :
    ∃ r, abuildSl n z 1 [(0, v)] s = some r ∧ s.heap.length ≤ r.2.heap.length ∧ ∃ v' s', aappend n w x r.1 r.2 = some (v', s') ∧ Own N C.n s' v' (encL C (l ++ [a])) ∧ Ext N s s' ∧ r.2.heap.length ≤ s'.heap.length := by
  subst hn
  have hvl : (cellsV v).length = C.n := by rw [hv, C.len]
  have hvf : (cellsV v).all isLeaf = true := by rw [hv]; exact leaf_isLeaf (C.leaf a)
  have h1 : abuildSl C.n z 1 [(0, v)] s = some (.slice (some ⟨s.heap.length, 0, none⟩) 1 1, s.push (.row C.n (cellsV v) .act)) := by
    have hrep : repCells z 1 = z := by simp [repCells]
    have hput : putCells z 0 (cellsV v) = cellsV v := by simp [putCells, hvl, hz]
    unfold abuildSl
    rw [if_pos ⟨by omega, hz, hzl⟩]
    simp only [hrep, afill, placeA, Nat.zero_mul]
    rw [if_pos ⟨hvl, by omega, hvf⟩, hput]
    rfl
  have hE : Ext N s (s.push (.row C.n (cellsV v) .act)) := .push N hN _
  have hO : Own N C.n (s.push (.row C.n (cellsV v) .act)) x (encL C l) := by
    rcases h with h | ⟨b, len, e1, e2, e3, e4, e5⟩
    · exact .inl h
    · exact .inr ⟨b, len, e1, e2, by rw [push_old (List.getElem?_eq_some_iff.1 e3).1]; exact e3, e4, e5⟩
  have hy : listOf C (.slice (some ⟨s.heap.length, 0, none⟩) 1 1) (s.push (.row C.n (cellsV v) .act)) = some [a] := by
    refine (listOf_iff C).2 ?_
    simp only [cellsOf, Nat.le_refl, if_true, readN, Ab.readRow, push_get, Option.bind_some]
    rw [if_pos (by omega), List.drop_zero, Nat.one_mul, ← hvl, List.take_length, hv]
    simp [encL]
  have hq : ∀ q, q * C.n = (encL C l).length + (encL C [a]).length → roomA q w := by
    intro q hq
    rw [encL_len, encL_len, ← Nat.add_mul] at hq
    rw [Nat.eq_of_mul_eq_mul_right C.pos hq]
    exact hb
  obtain ⟨v', s', g1, g2, g3⟩ := own_appendR hO (by rw [push_len]; omega) hw C.pos (list_lenV hy) (list_elems hy) (encL_len C [a]) hq
  rw [← encL_append] at g2
  exact ⟨_, h1, by simp [St.push], v', s', g1, g2, hE.trans g3, g3.1⟩

end Go.Proofs.Ytccindbiodofmaa.Ab

/- Pairs, maps: whether two are the same. -/
namespace Go.Proofs.Ytccindbiodofmaa.Ab
open Go

theorem eq_bool (o1 o2 : Operand) (a b : Bool) : abin Try.prog .eql 4 o1 o2 (.bool a) (.bool b) = some (.bool (a == b)) := by
  unfold abin
  rw [Try.underlying4]
  rfl
theorem ne_bool (o1 o2 : Operand) (a b : Bool) : abin Try.prog .neq 4 o1 o2 (.bool a) (.bool b) = some (.bool (a != b)) := by
  unfold abin
  rw [Try.underlying4]
  rfl
theorem pr_eql (o1 o2 : Operand) (a b : Rg) : abin Try.prog .eql 32 o1 o2 (rv a) (rv b) = some (.bool (a.1 == b.1 && a.2 == b.2)) := by
  have hu := pr_und Try.underlying32
  have hg : pureRun Try.prog (eqGuard .eql 32 o1 o2 (.agg #[sv a.1, sv a.2]) (.agg #[sv b.1, sv b.2])) = some () := by kernel_rfl
  have hh : Try.prog.stoodInHeld 32 = false := by kernel_rfl
  have hp : ∀ x y : BL, pureRun Try.prog (part 9 #[sv x, sv y] 0) = some (sv x) ∧ pureRun Try.prog (part 9 #[sv x, sv y] 1) = some (sv y) := fun x y => by
    refine ⟨?_, ?_⟩ <;> kernel_rfl
  have he : ∀ (n : Nat) (x y : BL), pureRun Try.prog (Op.equalIn (n + 1) 9 (sv x) (sv y)) = some (x == y) := fun n x y => by
    unfold sv
    rw [pr_str Try.underlying9, bytes_beq]
  unfold abin aggBin rv
  simp only
  have hc : (constOk (.agg #[sv a.1, sv a.2]) && constOk (.agg #[sv b.1, sv b.2])) = true := rfl
  rw [if_pos hc, pr_bind, hg]
  simp only [Option.bind_some, binOp]
  rw [pr_bind]
  have key : pureRun Try.prog (Op.equal 32 (.agg #[sv a.1, sv a.2]) (.agg #[sv b.1, sv b.2])) = some (a.1 == b.1 && a.2 == b.2) := by
    unfold Op.equal Op.maxDepth Op.equalIn
    rw [pr_bind, hu]
    simp only [Option.bind_some]
    rw [pr_bind, pr_program]
    simp only [Option.bind_some, hh, Bool.false_eq_true, if_false, pr_bind]
    have hKey : ("Key" ≠ "_") = True := by simp
    have hValue : ("Value" ≠ "_") = True := by simp
    simp only [List.forIn_toArray, List.forIn_cons, List.forIn_nil]
    cases h1 : (a.1 == b.1)
    · simp only [Option.bind_some, pr_bind, pr_pure, Nat.reduceAdd, hKey, hValue, if_true, (hp _ _).1, (hp _ _).2, he, Bool.not_true, Bool.not_false, Bool.false_eq_true, if_false, Bool.true_and, Bool.false_and, Bool.and_true, h1]
    cases h2 : (a.2 == b.2)
    · simp only [Option.bind_some, pr_bind, pr_pure, Nat.reduceAdd, hKey, hValue, if_true, (hp _ _).1, (hp _ _).2, he, Bool.not_true, Bool.not_false, Bool.false_eq_true, if_false, Bool.true_and, Bool.false_and, Bool.and_true, h1, h2]
    · simp only [Option.bind_some, pr_bind, pr_pure, Nat.reduceAdd, hKey, hValue, if_true, (hp _ _).1, (hp _ _).2, he, Bool.not_true, Bool.not_false, Bool.false_eq_true, if_false, Bool.true_and, Bool.false_and, Bool.and_true, h1, h2]
  rw [key]
  rfl

theorem pr_neq (o1 o2 : Operand) (a b : Rg) : abin Try.prog .neq 32 o1 o2 (rv a) (rv b) = some (.bool (!(a.1 == b.1 && a.2 == b.2))) := by
  have hu := pr_und Try.underlying32
  have hg : pureRun Try.prog (eqGuard .neq 32 o1 o2 (.agg #[sv a.1, sv a.2]) (.agg #[sv b.1, sv b.2])) = some () := by kernel_rfl
  have h0 := pr_eql o1 o2 a b
  have hg0 : pureRun Try.prog (eqGuard .eql 32 o1 o2 (.agg #[sv a.1, sv a.2]) (.agg #[sv b.1, sv b.2])) = some () := by kernel_rfl
  unfold abin aggBin rv at h0 ⊢
  simp only at h0 ⊢
  have hc : (constOk (.agg #[sv a.1, sv a.2]) && constOk (.agg #[sv b.1, sv b.2])) = true := rfl
  rw [if_pos hc, pr_bind, hg0] at h0
  rw [if_pos hc, pr_bind, hg]
  simp only [Option.bind_some, binOp, pr_bind, pr_pure] at h0 ⊢
  cases e : pureRun Try.prog (Op.equal 32 (.agg #[sv a.1, sv a.2]) (.agg #[sv b.1, sv b.2])) with
  | none => rw [e] at h0; cases h0
  | some r =>
    rw [e] at h0
    simp only [Option.bind_some] at h0 ⊢
    cases h0
    rfl

theorem same_loop {R : Caller} {v w : Value} {s : St} {a b : List Rg} (ha : listOf prC v s = some a) (hb : listOf prC w s = some b) (hab : a.length = b.length) (hl : a.length < 140737488355328) : ∀ (ra rb : List Rg) (i : Nat), a.drop i = ra → b.drop i = rb → i ≤ a.length →
    loopL (ref04_SameMap.b0 R) [v, w, .int .i64 ((a.length : Nat) : Int), .int .i64 (i : Int)] s = some (if ra = rb then (.exit 0, [], s) else (.ret, [.bool false], s)) := by
  intro ra
  induction ra with
  | nil =>
    intro rb i h1 h2 hle
    have hge := List.drop_eq_nil_iff.1 h1
    have hrb : rb = [] := by rw [← h2]; exact List.drop_eq_nil_of_le (by omega)
    have hd : decide ((i : Int) < ((a.length : Nat) : Int)) = false := by simp; omega
    rw [hrb, if_pos rfl, loopL_eq]
    simp only [ref04_SameMap.b0, hd, n_bind, n_map, getL_0, getL_1, getL_2, getL_3, getL_4, getL_5, getL_6, getL_7, getL_8, getL_9, getL_10, getL_11, getL_12, condV_t, condV_f, guardV_tt, guardV_ff, guardV_tf, guardV_ft, guardV_u, apick_t, apick_f, exV_exit, exV_ret, lookE_same, joinK_eq, seqA_n, seqA_e, seqA_r, e_add, e_sub, e_mul, e_eql, e_neq, e_lss, e_leq, e_gtr, e_geq, e_conv, e_not, e_neg, and_guard, or_guard]
  | cons p ra ih =>
    intro rb i h1 h2 hle
    obtain ⟨hlt, he, hd⟩ := drop_get h1
    have hdc : decide ((i : Int) < ((a.length : Nat) : Int)) = true := by simp; omega
    cases rb with
    | nil =>
      have := List.drop_eq_nil_iff.1 h2
      omega
    | cons q rb =>
      obtain ⟨hlt2, he2, hd2⟩ := drop_get h2
      obtain ⟨x, a1, a2⟩ := list_at (s := frzS s) (by rw [list_frz]; exact ha) hlt (k := .i64) (n := 2) rfl
      obtain ⟨y, b1, b2⟩ := list_at (s := frzS s) (by rw [list_frz]; exact hb) hlt2 (k := .i64) (n := 2) rfl
      rw [pr_enc, he] at a2
      rw [pr_enc, he2] at b2
      have key := ih rb (i + 1) hd hd2 (by omega)
      rw [loopL_eq]
      simp only [ref04_SameMap.b0, hdc, a1, a2, b1, b2, pr_neq, n_bind, n_map, getL_0, getL_1, getL_2, getL_3, getL_4, getL_5, getL_6, getL_7, getL_8, getL_9, getL_10, getL_11, getL_12, condV_t, condV_f, guardV_tt, guardV_ff, guardV_tf, guardV_ft, guardV_u, apick_t, apick_f, exV_exit, exV_ret, lookE_same, joinK_eq, seqA_n, seqA_e, seqA_r, e_add, e_sub, e_mul, e_eql, e_neq, e_lss, e_leq, e_gtr, e_geq, e_conv, e_not, e_neg, and_guard, or_guard]
      by_cases e : p = q
      · subst e
        have e1 : (!(p.1 == p.1 && p.2 == p.2)) = false := by simp
        simp only [e1, inc_i64 (show i < 140737488355328 by omega), n_bind, n_map, getL_0, getL_1, getL_2, getL_3, getL_4, getL_5, getL_6, getL_7, getL_8, getL_9, getL_10, getL_11, getL_12, condV_t, condV_f, guardV_tt, guardV_ff, guardV_tf, guardV_ft, guardV_u, apick_t, apick_f, exV_exit, exV_ret, lookE_same, joinK_eq, seqA_n, seqA_e, seqA_r, e_add, e_sub, e_mul, e_eql, e_neq, e_lss, e_leq, e_gtr, e_geq, e_conv, e_not, e_neg, and_guard, or_guard]
        rw [key]
        simp
      · have e1 : (!(p.1 == q.1 && p.2 == q.2)) = true := by
          simp only [Bool.not_eq_true', Bool.and_eq_false_iff, beq_eq_false_iff_ne]
          by_cases c : p.1 = q.1
          · exact .inr fun d => e (Prod.ext c d)
          · exact .inl c
        simp only [e1, n_bind, n_map, getL_0, getL_1, getL_2, getL_3, getL_4, getL_5, getL_6, getL_7, getL_8, getL_9, getL_10, getL_11, getL_12, condV_t, condV_f, guardV_tt, guardV_ff, guardV_tf, guardV_ft, guardV_u, apick_t, apick_f, exV_exit, exV_ret, lookE_same, joinK_eq, seqA_n, seqA_e, seqA_r, e_add, e_sub, e_mul, e_eql, e_neq, e_lss, e_leq, e_gtr, e_geq, e_conv, e_not, e_neg, and_guard, or_guard]
        rw [if_neg fun c => e (List.cons.inj c).1]
theorem same_run {R : Caller} {v w : Value} {s : St} {a b : List Rg} (ha : listOf prC v s = some a) (hb : listOf prC w s = some b) (hl : a.length < 140737488355328) : ref04_SameMap R v w s = some (.bool (decide (a = b)), s) := by
  unfold ref04_SameMap
  simp only [list_len ha, list_len hb, n_bind, n_map, getL_0, getL_1, getL_2, getL_3, getL_4, getL_5, getL_6, getL_7, getL_8, getL_9, getL_10, getL_11, getL_12, condV_t, condV_f, guardV_tt, guardV_ff, guardV_tf, guardV_ft, guardV_u, apick_t, apick_f, exV_exit, exV_ret, lookE_same, joinK_eq, seqA_n, seqA_e, seqA_r, e_add, e_sub, e_mul, e_eql, e_neq, e_lss, e_leq, e_gtr, e_geq, e_conv, e_not, e_neg, and_guard, or_guard]
  by_cases e : a.length = b.length
  · have h1 := same_loop (R := R) ha hb e hl a b 0 rfl rfl (Nat.zero_le _)
    rw [show ((0 : Nat) : Int) = 0 from rfl] at h1
    have e1 : (((a.length : Nat) : Int) != ((b.length : Nat) : Int)) = false := by simp [e]
    simp only [e1, h1, n_bind, n_map, getL_0, getL_1, getL_2, getL_3, getL_4, getL_5, getL_6, getL_7, getL_8, getL_9, getL_10, getL_11, getL_12, condV_t, condV_f, guardV_tt, guardV_ff, guardV_tf, guardV_ft, guardV_u, apick_t, apick_f, exV_exit, exV_ret, lookE_same, joinK_eq, seqA_n, seqA_e, seqA_r, e_add, e_sub, e_mul, e_eql, e_neq, e_lss, e_leq, e_gtr, e_geq, e_conv, e_not, e_neg, and_guard, or_guard]
    by_cases c : a = b
    · rw [if_pos c]
      simp only [c, n_bind, n_map, getL_0, getL_1, getL_2, getL_3, getL_4, getL_5, getL_6, getL_7, getL_8, getL_9, getL_10, getL_11, getL_12, condV_t, condV_f, guardV_tt, guardV_ff, guardV_tf, guardV_ft, guardV_u, apick_t, apick_f, exV_exit, exV_ret, lookE_same, joinK_eq, seqA_n, seqA_e, seqA_r, e_add, e_sub, e_mul, e_eql, e_neq, e_lss, e_leq, e_gtr, e_geq, e_conv, e_not, e_neg, and_guard, or_guard, retV]
      rfl
    · rw [if_neg c]
      simp only [c, n_bind, n_map, getL_0, getL_1, getL_2, getL_3, getL_4, getL_5, getL_6, getL_7, getL_8, getL_9, getL_10, getL_11, getL_12, condV_t, condV_f, guardV_tt, guardV_ff, guardV_tf, guardV_ft, guardV_u, apick_t, apick_f, exV_exit, exV_ret, lookE_same, joinK_eq, seqA_n, seqA_e, seqA_r, e_add, e_sub, e_mul, e_eql, e_neq, e_lss, e_leq, e_gtr, e_geq, e_conv, e_not, e_neg, and_guard, or_guard, retV]
      rfl
  · have e1 : (((a.length : Nat) : Int) != ((b.length : Nat) : Int)) = true := by simp; omega
    have e2 : ¬ a = b := fun h => e (by rw [h])
    simp only [e1, e2, n_bind, n_map, getL_0, getL_1, getL_2, getL_3, getL_4, getL_5, getL_6, getL_7, getL_8, getL_9, getL_10, getL_11, getL_12, condV_t, condV_f, guardV_tt, guardV_ff, guardV_tf, guardV_ft, guardV_u, apick_t, apick_f, exV_exit, exV_ret, lookE_same, joinK_eq, seqA_n, seqA_e, seqA_r, e_add, e_sub, e_mul, e_eql, e_neq, e_lss, e_leq, e_gtr, e_geq, e_conv, e_not, e_neg, and_guard, or_guard, retV]
    rfl

end Go.Proofs.Ytccindbiodofmaa.Ab

/- Operations done to a map, one after another. -/
namespace Go.Proofs.Ytccindbiodofmaa.Ab
open Go

def encR (q : List (Rs × Value)) : List Value := q.flatMap fun x => [.bool x.1.1, sv x.1.2.1, x.2]
theorem encR_app (q r : List (Rs × Value)) : encR (q ++ r) = encR q ++ encR r := by simp [encR]
theorem encR_len : ∀ q : List (Rs × Value), (encR q).length = q.length * 3
  | [] => rfl
  | x :: q => by
    show ([_, _, _] ++ encR q).length = _
    rw [List.length_append, encR_len q]
    simp
    omega
theorem encR_get : ∀ (q : List (Rs × Value)) (i : Nat) (h : i < q.length), (encR q)[i * 3 + 0]? = some (.bool q[i].1.1) ∧ (encR q)[i * 3 + 1]? = some (sv q[i].1.2.1) ∧ (encR q)[i * 3 + 2]? = some q[i].2
  | [], _, h => by simp at h
  | x :: q, 0, _ => ⟨rfl, rfl, rfl⟩
  | x :: q, i + 1, h => by
    have := encR_get q i (by simpa using h)
    show (_ :: _ :: _ :: encR q)[_]? = _ ∧ (_ :: _ :: _ :: encR q)[_]? = _ ∧ (_ :: _ :: _ :: encR q)[_]? = _
    rw [show (i + 1) * 3 + 0 = i * 3 + 0 + 1 + 1 + 1 by omega, show (i + 1) * 3 + 1 = i * 3 + 1 + 1 + 1 + 1 by omega, show (i + 1) * 3 + 2 = i * 3 + 2 + 1 + 1 + 1 by omega]
    simp only [List.getElem?_cons_succ]
    exact this
/-- what was told, in rows of one's own -/
def Rdy (N : Nat) (s : St) (v : Value) (l : List Rs) : Prop := ∃ q, q.map (·.1) = l ∧ Own N 3 s v (encR q) ∧ ∀ x ∈ q, OwnC prC N s x.2 x.1.2.2

theorem x_t0 {v : Value} (h : noTup v = true) (f : Bool) (x : BL) (p : Value) : aextract 0 (.tuple #[v, tellV f x p]) = some v := by cases v <;> first | rfl | (cases h; done)
theorem x_t1 (v : Value) (f : Bool) (x : BL) (p : Value) : aextract 1 (.tuple #[v, tellV f x p]) = some (tellV f x p) := Eq.trans rfl (Eq.refl _)

structure OpH (R : Caller) : Prop where
  gg : ∀ x y s r, op_get R x y s = some r → R 54 [x, y] s = some r
  gp : ∀ x y s r, op_put R x y s = some r → R 55 [x, y] s = some r
  gd : ∀ x y s r, op_del R x y s = some r → R 56 [x, y] s = some r
  gs : ∀ x y s r, op_scan R x y s = some r → R 57 [x, y] s = some r
  gc : ∀ x y s r, op_clear R x y s = some r → R 58 [x, y] s = some r
  hA : ∀ xs s, R 63 xs s = gAt xs s
  hI : ∀ xs s, R 64 xs s = gIns xs s
  hO : ∀ o s, R 61 [oV o] s = some (rv (o.lo, o.hi), s)
  hE : ∀ xs s, R 66 xs s = gEnds xs s
  hD : ∀ a b c s r, slices_Delete_api_Pair_api_Pair R a b c s = some r → R 65 [a, b, c] s = some r
  hC : ∀ a s r, slices_Clone_api_Pair_api_Pair R a s = some r → R 43 [a] s = some r
  hM : ∀ xs s, R 41 xs s = gMapE xs s
  hL : ∀ xs s, R 42 xs s = gAllE xs s
  hF : ∀ s, R 44 [] s = some (formsV, s)
theorem do_run {R : Caller} (H : OpH R)
    {N : Nat} {v : Value} {s : St} {m : List Rg} (h : OwnC prC N s v m) (hN : N ≤ s.heap.length) (hl : m.length + 1 ≤ 6500000000000) (hv : Val m) (o : OpT) (ho : ckO o = 0) :
    ∃ fv v' pv t, afield false 5 1 (formV o.kind) = some fv ∧ callV Try.prog R fv [v, oV o] s = some (.tuple #[v', tellV (doR m o).1 (doR m o).2.1 pv], t) ∧ OwnC prC N t v' (doM m o) ∧ OwnC prC s.heap.length t pv (doR m o).2.2 ∧ Keep (blkOf v) s t ∧ Fresh s v v' ∧ (∀ c, blkOf v' = some c → N ≤ c) ∧ (∀ c, blkOf pv = some c → blkOf v' ≠ some c) := by
  obtain ⟨k1, k2, k3, k4, k5, k6⟩ := ckO_key ho
  obtain ⟨gg, gp, gd, gs, gc, hA, hI, hO, hE, hD, hC, _, _, _⟩ := H
  rcases kinds k1 with e | e | e | e | e
  · have e1 : doM m o = m := by unfold doM; rw [e]; rfl
    have e2 : doR m o = ((cGet m o.key).isSome, (cGet m o.key).getD [], []) := by unfold doR; rw [e]; rfl
    have g := get_run (R := R) hA h.list (by omega) hv.1 o h.notup
    rw [getR_eq hv.1] at g
    rw [e, e1, e2]
    refine ⟨_, v, _, s, rfl, ?_, h, .inl ⟨rfl, rfl⟩, .refl _ _, .inl rfl, fun c hc => (h.blk c hc).1, fun c hc => by cases hc⟩
    rw [op_get_call]
    exact gg _ _ _ _ g
  · have e1 : doM m o = cPut m o.key o.val := by unfold doM; rw [e]; rfl
    have e2 : doR m o = (false, [], []) := by unfold doR; rw [e]; rfl
    obtain ⟨v', t, g1, g2, g3, g4, g5⟩ := put_run (R := R) hA hI h hN hl hv.1 o
    rw [putL_eq hv.1] at g2
    rw [e, e1, e2]
    refine ⟨_, v', _, t, rfl, ?_, g2, .inl ⟨rfl, rfl⟩, g3, g4, g5, fun c hc => by cases hc⟩
    rw [op_put_call]
    exact gp _ _ _ _ g1
  · have e1 : doM m o = cDel m o.key := by unfold doM; rw [e]; rfl
    have e2 : doR m o = (false, [], []) := by unfold doR; rw [e]; rfl
    obtain ⟨v', t, g1, g2, g3, g4⟩ := del_run (R := R) hA hD h hN (by omega) hv.1 o
    rw [delL_eq hv.1] at g2
    rw [e, e1, e2]
    refine ⟨_, v', _, t, rfl, ?_, g2, .inl ⟨rfl, rfl⟩, g3, .inl g4, fun c hc => (g2.blk c hc).1, fun c hc => by cases hc⟩
    rw [op_del_call]
    exact gd _ _ _ _ g1
  · have e1 : doM m o = m := by unfold doM; rw [e]; rfl
    have e2 : doR m o = (false, [], (cIn m (o.lo, o.hi)).take o.most.toNat) := by unfold doR; rw [e]; rfl
    have hr : ckR (o.lo, o.hi) = true := (k3 (by rw [e]; rfl)).2
    obtain ⟨q1, q2⟩ := k6 e
    obtain ⟨pv, t, g1, g2, g3⟩ := scan_run (R := R) hO hE hC h.list h.notup (by omega) hv.1 o hr (most := o.most.toNat) (by omega) (by omega)
    rw [scanL_eq hv hr] at g2
    rw [e, e1, e2]
    refine ⟨_, v, pv, t, rfl, ?_, h.keep (B := none) ⟨g3.1, fun c hc _ => g3.2 c hc⟩ (fun c hc => by simp), g2, g3.keep, .inl rfl, fun c hc => (h.blk c hc).1, fun c hc hd => ?_⟩
    · rw [op_scan_call]
      exact gs _ _ _ _ g1
    · have := (g2.blk c hc).1
      have := (h.blk c hd).2
      omega
  · have e1 : doM m o = cOut m (o.lo, o.hi) := by unfold doM; rw [e]; rfl
    have e2 : doR m o = (false, [], []) := by unfold doR; rw [e]; rfl
    have hr : ckR (o.lo, o.hi) = true := (k3 (by rw [e]; rfl)).2
    obtain ⟨v', t, g1, g2, g3, g4⟩ := clear_run (R := R) hO hE hD h hN (by omega) hv.1 o hr
    rw [clearL_eq hv hr] at g2
    rw [e, e1, e2]
    refine ⟨_, v', _, t, rfl, ?_, g2, .inl ⟨rfl, rfl⟩, g3, .inl g4, fun c hc => (g2.blk c hc).1, fun c hc => by cases hc⟩
    rw [op_clear_call]
    exact gc _ _ _ _ g1
theorem allE_mem : ∀ {l : List OpT}, allE l = 0 → ∀ o ∈ l, ckO o = 0
  | [], _, o, h => by cases h
  | p :: l, h, o, ho => by
    obtain ⟨h1, h2⟩ := allE_cons0 h
    rcases List.mem_cons.1 ho with rfl | ho
    · exact h1
    · exact allE_mem h2 o ho
theorem Apply_loop {R : Caller} (H : OpH R) {v : Value} {s0 : St} {l : List OpT} (h : listOf opC v s0 = some l) (hl : l.length ≤ 1759218604391) {m0 : List Rg} (hm : m0.length + l.length ≤ 6200000000000) (hv : Val m0) (hall : allE l = 0) : ∀ (rest : List OpT) (i : Nat) (s : St) (mv out : Value) (q : List (Rs × Value)), l.drop i = rest → i ≤ l.length → Ext s0.heap.length s0 s → OwnC prC s0.heap.length s mv (apM m0 (l.take i)) → Own s0.heap.length 3 s out (encR q) → q.map (·.1) = apR m0 (l.take i) → (∀ x ∈ q, OwnC prC s0.heap.length s x.2 x.1.2.2) → (∀ x ∈ q, ∀ c, blkOf x.2 = some c → blkOf mv ≠ some c) →
    ∃ mv' out' t, loopL (op_Apply.b0 R) [mv, out, v, .int .i64 ((l.length : Nat) : Int), .int .i64 (i : Int)] s = some (.exit 0, [mv', out'], t) ∧ OwnC prC s0.heap.length t mv' (apM m0 l) ∧ Rdy s0.heap.length t out' (apR m0 l) ∧ Ext s0.heap.length s0 t := by
  intro rest
  induction rest with
  | nil =>
    intro i s mv out q hi hle hx h1 h2 h3 h4 h5
    have hge := List.drop_eq_nil_iff.1 hi
    have hd : decide ((i : Int) < ((l.length : Nat) : Int)) = false := by simp; omega
    rw [List.take_of_length_le hge] at h1 h3
    refine ⟨mv, out, s, ?_, h1, ⟨q, h3, h2, h4⟩, hx⟩
    rw [loopL_eq]
    simp only [op_Apply.b0, hd, n_bind, n_map, getL_0, getL_1, getL_2, getL_3, getL_4, getL_5, getL_6, getL_7, getL_8, getL_9, getL_10, getL_11, getL_12, condV_t, condV_f, guardV_tt, guardV_ff, guardV_tf, guardV_ft, guardV_u, apick_t, apick_f, exV_exit, exV_ret, lookE_same, joinK_eq, seqA_n, seqA_e, seqA_r, e_add, e_sub, e_mul, e_eql, e_neq, e_lss, e_leq, e_gtr, e_geq, e_conv, e_not, e_neg, and_guard, or_guard]
  | cons o rest ih =>
    intro i s mv out q hi hle hx h1 h2 h3 h4 h5
    obtain ⟨hlt, he, hd⟩ := drop_get hi
    have hdc : decide ((i : Int) < ((l.length : Nat) : Int)) = true := by simp; omega
    obtain ⟨p, a1, a2⟩ := list_at (list_ext hx h) hlt (k := .i64) (n := 6) rfl
    rw [op_enc, he] at a2
    have ho : ckO o = 0 := allE_mem hall o (he ▸ List.getElem_mem hlt)
    have htk : l.take (i + 1) = l.take i ++ [o] := by rw [List.take_add_one, List.getElem?_eq_getElem hlt, he]; rfl
    have hlm : (apM m0 (l.take i)).length + 1 ≤ 6500000000000 := by
      have := len_ap (l := l.take i) (m := m0)
      rw [List.length_take] at this
      omega
    have hval : Val (apM m0 (l.take i)) := by
      refine val_ap hv ?_
      have : ∀ {a b : List OpT}, allE (a ++ b) = 0 → allE a = 0 := by
        intro a
        induction a with
        | nil => intro _ _; rfl
        | cons y a ih =>
          intro b hb
          obtain ⟨c1, c2⟩ := allE_cons0 (l := a ++ b) hb
          rw [allE_cons, if_pos c1]
          exact ih c2
      exact this (b := l.drop i) (by rw [List.take_append_drop]; exact hall)
    obtain ⟨fv, mv2, pv, t, b1, b2, b3, b4, b5, b6, b7, b8⟩ := do_run H h1 hx.1 hlm hval o ho
    have hkind : okKind o.kind = true := (ckO_key ho).1
    have hix : aindexAgg true 6 6 formsV (.int .i64 o.kind) = some (formV o.kind) := by rcases kinds hkind with e | e | e | e | e <;> rw [e] <;> rfl
    have hap : ∀ c, blkOf out = some c → blkOf mv ≠ some c := fun c hc hd2 => own_apart h1 h2 (by decide) c hd2 hc
    have ho2 : Own s0.heap.length 3 t out (encR q) := h2.keep b5 hap
    have hpl : isLeaf pv = true ∧ cellsV pv = [pv] := by rcases b4 with ⟨rfl, _⟩ | ⟨b, cap, rest, rfl, _⟩ <;> exact ⟨rfl, rfl⟩
    have hql : q.length = i := by
      have := congrArg List.length h3
      rw [List.length_map, apR_len, List.length_take] at this
      omega
    obtain ⟨r, c1, out2, t2, c2, c3, c4, c5⟩ := own_addK (w := 48) (z := [(.bool false), (.string ⟨#[]⟩), (.slice none 0 0)]) (v := tellV (doR (apM m0 (l.take i)) o).1 (doR (apM m0 (l.take i)) o).2.1 pv) ho2 (Nat.le_trans hx.1 b5.1) (by decide) (by decide) (by decide) rfl rfl rfl (by
      show ([_, _, pv] : List Value).all isLeaf = true
      simp only [List.all_cons, hpl.1, List.all_nil, Bool.and_true]
      rfl) (by rw [encR_len]; omega)
    have hx2 : Ext s0.heap.length s t := b5.ext hx.1 fun c hc => (h1.blk c hc).1
    have hx3 : Ext s0.heap.length t t2 := c4.ext (Nat.le_trans hx.1 b5.1) fun c hc => (ho2.blk c hc).1
    have hx4 := hx.trans (hx2.trans hx3)
    have hm2 : OwnC prC s0.heap.length t2 mv2 (apM m0 (l.take (i + 1))) := by
      rw [htk, apM_snoc]
      exact b3.keep c4 fun c hc => own_apart b3 ho2 (by decide) c hc
    have hq2 : ∀ x ∈ q ++ [((doR (apM m0 (l.take i)) o), pv)], OwnC prC s0.heap.length t2 x.2 x.1.2.2 := by
      intro x hxq
      rcases List.mem_append.1 hxq with hxq | hxq
      · have g1 := (h4 x hxq).keep b5 fun c hc => h5 x hxq c hc
        exact g1.keep c4 fun c hc => own_apart g1 ho2 (by decide) c hc
      · rcases List.mem_singleton.1 hxq with rfl
        have g1 := b4.mono hx.1
        exact g1.keep c4 fun c hc => own_apart g1 ho2 (by decide) c hc
    have hap2 : ∀ x ∈ q ++ [((doR (apM m0 (l.take i)) o), pv)], ∀ c, blkOf x.2 = some c → blkOf mv2 ≠ some c := by
      intro x hxq c hc
      rcases List.mem_append.1 hxq with hxq | hxq
      · rcases b6 with b6 | b6
        · rw [b6]; exact h5 x hxq c hc
        · intro hc2
          have := b6 c hc2
          have := ((h4 x hxq).blk c hc).2
          omega
      · rcases List.mem_singleton.1 hxq with rfl
        exact b8 c hc
    have hout : Own s0.heap.length 3 t2 out2 (encR (q ++ [((doR (apM m0 (l.take i)) o), pv)])) := by
      rw [encR_app]
      exact c3
    obtain ⟨mv3, out3, t3, d1, d2, d3, d4⟩ := ih (i + 1) t2 mv2 out2 (q ++ [((doR (apM m0 (l.take i)) o), pv)]) hd (by omega) hx4 hm2 hout (by
      rw [htk, apR_snoc, List.map_append, h3]
      rfl) hq2 hap2
    refine ⟨mv3, out3, t3, ?_, d2, d3, d4⟩
    rw [← d1, loopL_eq]
    simp only [op_Apply.b0, hdc, a1, a2, o_st, o_all, o_0, op_forms_call, H.hF, own_id, hix, b1, b2, own_ok b5.1, x_t0 b3.notup, x_t1, res_00, res_st _ _ pv hpl.1, res_ld, c1, c2, inc_i64 (show i < 140737488355328 by omega), n_bind, n_map, getL_0, getL_1, getL_2, getL_3, getL_4, getL_5, getL_6, getL_7, getL_8, getL_9, getL_10, getL_11, getL_12, condV_t, condV_f, guardV_tt, guardV_ff, guardV_tf, guardV_ft, guardV_u, apick_t, apick_f, exV_exit, exV_ret, lookE_same, joinK_eq, seqA_n, seqA_e, seqA_r, e_add, e_sub, e_mul, e_eql, e_neq, e_lss, e_leq, e_gtr, e_geq, e_conv, e_not, e_neg, and_guard, or_guard]
def apE (m : List Rg) (l : List OpT) : Int := if mapE [] m = 0 then allE l else mapE [] m
theorem Apply_run {R : Caller} (H : OpH R) {v w : Value} {s : St} {m : List Rg} {l : List OpT} (hm : listOf prC v s = some m) (h : listOf opC w s = some l) (hml : m.length + l.length ≤ 6200000000000) (hl : l.length ≤ 1759218604391) :
    if apE m l = 0 then ∃ a r t, op_Apply R v w s = some (.tuple #[a, r, .int .i64 0], t) ∧ OwnC prC s.heap.length t a (apM m l) ∧ Rdy s.heap.length t r (apR m l) ∧ Ext s.heap.length s t
    else op_Apply R v w s = some (.tuple #[.slice none 0 0, .slice none 0 0, .int .i64 (apE m l)], s) := by
  unfold apE op_Apply
  have z0 : ((0 : Int) != 0) = false := rfl
  by_cases h1 : mapE [] m = 0
  · rw [if_pos h1]
    by_cases h2 : allE l = 0
    · rw [if_pos h2]
      obtain ⟨mv, t, g1, g2, g3⟩ := clone_run (R := R) hm (by omega)
      obtain ⟨mv2, out, u, k1, k2, k3, k4⟩ := Apply_loop H (s0 := s) h hl hml (val_mapE.1 h1) h2 l 0 t mv (.slice none 0 0) [] rfl (Nat.zero_le _) g3 g2 (.nil _ _ _) rfl (fun x hx => by cases hx) (fun x hx => by cases hx)
      rw [show ((0 : Nat) : Int) = 0 from rfl] at k1
      refine ⟨mv2, out, u, ?_, k2, k3, k4⟩
      obtain ⟨q, _, k5, _⟩ := k3
      simp only [op_CheckMap_call, H.hM, mapE_eq hm (show m.length < 140737488355328 by omega), h1, z0, op_all_call, H.hL, allE_eq h (show l.length < 140737488355328 by omega), h2, slices_Clone_api_Pair_api_Pair_call, H.hC _ _ _ g1, list_len h, k1, n_bind, n_map, getL_0, getL_1, getL_2, getL_3, getL_4, getL_5, getL_6, getL_7, getL_8, getL_9, getL_10, getL_11, getL_12, condV_t, condV_f, guardV_tt, guardV_ff, guardV_tf, guardV_ft, guardV_u, apick_t, apick_f, exV_exit, exV_ret, lookE_same, joinK_eq, seqA_n, seqA_e, seqA_r, e_add, e_sub, e_mul, e_eql, e_neq, e_lss, e_leq, e_gtr, e_geq, e_conv, e_not, e_neg, and_guard, or_guard, retV, List.all_cons, k2.notup, k5.notup]
      rfl
    · rw [if_neg h2]
      have h5 : (allE l != 0) = true := by simp [h2]
      simp only [op_CheckMap_call, H.hM, mapE_eq hm (show m.length < 140737488355328 by omega), h1, z0, op_all_call, H.hL, allE_eq h (show l.length < 140737488355328 by omega), h5, n_bind, n_map, getL_0, getL_1, getL_2, getL_3, getL_4, getL_5, getL_6, getL_7, getL_8, getL_9, getL_10, getL_11, getL_12, condV_t, condV_f, guardV_tt, guardV_ff, guardV_tf, guardV_ft, guardV_u, apick_t, apick_f, exV_exit, exV_ret, lookE_same, joinK_eq, seqA_n, seqA_e, seqA_r, e_add, e_sub, e_mul, e_eql, e_neq, e_lss, e_leq, e_gtr, e_geq, e_conv, e_not, e_neg, and_guard, or_guard, retV]
      rfl
  · rw [if_neg h1, if_neg h1]
    have h5 : (mapE [] m != 0) = true := by simp [h1]
    simp only [op_CheckMap_call, H.hM, mapE_eq hm (show m.length < 140737488355328 by omega), h5, n_bind, n_map, getL_0, getL_1, getL_2, getL_3, getL_4, getL_5, getL_6, getL_7, getL_8, getL_9, getL_10, getL_11, getL_12, condV_t, condV_f, guardV_tt, guardV_ff, guardV_tf, guardV_ft, guardV_u, apick_t, apick_f, exV_exit, exV_ret, lookE_same, joinK_eq, seqA_n, seqA_e, seqA_r, e_add, e_sub, e_mul, e_eql, e_neq, e_lss, e_leq, e_gtr, e_geq, e_conv, e_not, e_neg, and_guard, or_guard, retV]
    rfl

end Go.Proofs.Ytccindbiodofmaa.Ab

/- What the document's answer does to a map. -/
namespace Go.Proofs.Ytccindbiodofmaa.Ab
open Go

/-! ### Find -/
def fdV (m : List Rg) (k : BL) : Value := .tuple #[sv ((cGet m k).getD []), .bool (cGet m k).isSome]
theorem x_fd0 (m : List Rg) (k : BL) : aextract 0 (fdV m k) = some (sv ((cGet m k).getD [])) := Eq.trans rfl (Eq.refl _)
theorem x_fd1 (m : List Rg) (k : BL) : aextract 1 (fdV m k) = some (.bool (cGet m k).isSome) := Eq.trans rfl (Eq.refl _)
theorem find_loop {R : Caller} (k : BL) {v : Value} {s : St} {m : List Rg} (h : listOf prC v s = some m) (hl : m.length < 140737488355328) : ∀ (rest : List Rg) (i : Nat), m.drop i = rest → i ≤ m.length →
    loopL (ref04_Find.b0 R) [sv k, v, .int .i64 ((m.length : Nat) : Int), .int .i64 (i : Int)] s = some ((match cGet rest k with | some x => (Ex.ret, [sv x, .bool true]) | none => (Ex.exit 0, [])).1, (match cGet rest k with | some x => (Ex.ret, [sv x, .bool true]) | none => (Ex.exit 0, [])).2, s) := by
  intro rest
  induction rest with
  | nil =>
    intro i hi hle
    have h1 : decide ((i : Int) < ((m.length : Nat) : Int)) = false := by
      have := List.drop_eq_nil_iff.1 hi
      simp; omega
    rw [loopL_eq]
    simp only [ref04_Find.b0, h1, n_bind, n_map, getL_0, getL_1, getL_2, getL_3, getL_4, getL_5, getL_6, getL_7, getL_8, getL_9, getL_10, getL_11, getL_12, condV_t, condV_f, guardV_tt, guardV_ff, guardV_tf, guardV_ft, guardV_u, apick_t, apick_f, exV_exit, exV_ret, lookE_same, joinK_eq, seqA_n, seqA_e, seqA_r, e_add, e_sub, e_mul, e_eql, e_neq, e_lss, e_leq, e_gtr, e_geq, e_conv, e_not, e_neg, and_guard, or_guard]
    rfl
  | cons p rest ih =>
    intro i hi hle
    obtain ⟨hlt, he, hd⟩ := drop_get hi
    have h1 : decide ((i : Int) < ((m.length : Nat) : Int)) = true := by simp; omega
    obtain ⟨a, h2, h3⟩ := list_at h hlt (k := .i64) (n := 2) rfl
    rw [pr_enc, he] at h3
    rw [loopL_eq, cGet_cons]
    simp only [ref04_Find.b0, h1, h2, h3, z_rv, st_rv, ld_rv, ld_0, ld_1, e_seql, n_bind, n_map, getL_0, getL_1, getL_2, getL_3, getL_4, getL_5, getL_6, getL_7, getL_8, getL_9, getL_10, getL_11, getL_12, condV_t, condV_f, guardV_tt, guardV_ff, guardV_tf, guardV_ft, guardV_u, apick_t, apick_f, exV_exit, exV_ret, lookE_same, joinK_eq, seqA_n, seqA_e, seqA_r, e_add, e_sub, e_mul, e_eql, e_neq, e_lss, e_leq, e_gtr, e_geq, e_conv, e_not, e_neg, and_guard, or_guard]
    cases h4 : (p.1 == k)
    · simp only [Bool.false_eq_true, if_false, inc_i64 (show i < 140737488355328 by omega), n_bind, n_map, getL_0, getL_1, getL_2, getL_3, getL_4, getL_5, getL_6, getL_7, getL_8, getL_9, getL_10, getL_11, getL_12, condV_t, condV_f, guardV_tt, guardV_ff, guardV_tf, guardV_ft, guardV_u, apick_t, apick_f, exV_exit, exV_ret, lookE_same, joinK_eq, seqA_n, seqA_e, seqA_r, e_add, e_sub, e_mul, e_eql, e_neq, e_lss, e_leq, e_gtr, e_geq, e_conv, e_not, e_neg, and_guard, or_guard]
      exact ih (i + 1) hd (by omega)
    · simp only [if_true, n_bind, n_map, getL_0, getL_1, getL_2, getL_3, getL_4, getL_5, getL_6, getL_7, getL_8, getL_9, getL_10, getL_11, getL_12, condV_t, condV_f, guardV_tt, guardV_ff, guardV_tf, guardV_ft, guardV_u, apick_t, apick_f, exV_exit, exV_ret, lookE_same, joinK_eq, seqA_n, seqA_e, seqA_r, e_add, e_sub, e_mul, e_eql, e_neq, e_lss, e_leq, e_gtr, e_geq, e_conv, e_not, e_neg, and_guard, or_guard]
theorem find_run {R : Caller} (k : BL) {v : Value} {s : St} {m : List Rg} (h : listOf prC v s = some m) (hl : m.length < 140737488355328) : ref04_Find R v (sv k) s = some (fdV m k, s) := by
  have h1 := find_loop (R := R) k h hl m 0 rfl (Nat.zero_le _)
  rw [show ((0 : Nat) : Int) = 0 from rfl] at h1
  unfold ref04_Find fdV
  simp only [list_len h, h1, n_bind, n_map, getL_0, getL_1, getL_2, getL_3, getL_4, getL_5, getL_6, getL_7, getL_8, getL_9, getL_10, getL_11, getL_12, condV_t, condV_f, guardV_tt, guardV_ff, guardV_tf, guardV_ft, guardV_u, apick_t, apick_f, exV_exit, exV_ret, lookE_same, joinK_eq, seqA_n, seqA_e, seqA_r, e_add, e_sub, e_mul, e_eql, e_neq, e_lss, e_leq, e_gtr, e_geq, e_conv, e_not, e_neg, and_guard, or_guard]
  cases h2 : cGet m k with
  | none => simp only [n_bind, n_map, getL_0, getL_1, getL_2, getL_3, getL_4, getL_5, getL_6, getL_7, getL_8, getL_9, getL_10, getL_11, getL_12, condV_t, condV_f, guardV_tt, guardV_ff, guardV_tf, guardV_ft, guardV_u, apick_t, apick_f, exV_exit, exV_ret, lookE_same, joinK_eq, seqA_n, seqA_e, seqA_r, e_add, e_sub, e_mul, e_eql, e_neq, e_lss, e_leq, e_gtr, e_geq, e_conv, e_not, e_neg, and_guard, or_guard, retV]; rfl
  | some x => simp only [n_bind, n_map, getL_0, getL_1, getL_2, getL_3, getL_4, getL_5, getL_6, getL_7, getL_8, getL_9, getL_10, getL_11, getL_12, condV_t, condV_f, guardV_tt, guardV_ff, guardV_tf, guardV_ft, guardV_u, apick_t, apick_f, exV_exit, exV_ret, lookE_same, joinK_eq, seqA_n, seqA_e, seqA_r, e_add, e_sub, e_mul, e_eql, e_neq, e_lss, e_leq, e_gtr, e_geq, e_conv, e_not, e_neg, and_guard, or_guard, retV]; rfl

/-! ### without -/
theorem wo_loop {R : Caller} (hH : ∀ r k s, R 59 [rv r, sv k] s = some (.bool (hasR r k), s)) (r : Rg) {v : Value} {s0 : St} {m : List Rg} (h : listOf prC v s0 = some m) : ∀ (rest : List Rg) (i : Nat) (s : St) (out : Value) (acc : List Rg), m.drop i = rest → i ≤ m.length → acc.length + rest.length ≤ 6400000000000 → m.length ≤ 6400000000000 → Ext s0.heap.length s0 s → Own s0.heap.length 2 s out (encL prC acc) →
    ∃ out' t, loopL (ref04_without.b0 R) [lptr, out, v, .int .i64 ((m.length : Nat) : Int), .int .i64 (i : Int), rv r] s = some (.exit 0, [out'], t) ∧ Own s0.heap.length 2 t out' (encL prC (acc ++ cOut rest r)) ∧ Ext s0.heap.length s0 t := by
  intro rest
  induction rest with
  | nil =>
    intro i s out acc hi hle hb hm hx ho
    have h1 : decide ((i : Int) < ((m.length : Nat) : Int)) = false := by
      have := List.drop_eq_nil_iff.1 hi
      simp; omega
    refine ⟨out, s, ?_, by simpa [cOut] using ho, hx⟩
    rw [loopL_eq]
    simp only [ref04_without.b0, h1, n_bind, n_map, getL_0, getL_1, getL_2, getL_3, getL_4, getL_5, getL_6, getL_7, getL_8, getL_9, getL_10, getL_11, getL_12, condV_t, condV_f, guardV_tt, guardV_ff, guardV_tf, guardV_ft, guardV_u, apick_t, apick_f, exV_exit, exV_ret, lookE_same, joinK_eq, seqA_n, seqA_e, seqA_r, e_add, e_sub, e_mul, e_eql, e_neq, e_lss, e_leq, e_gtr, e_geq, e_conv, e_not, e_neg, and_guard, or_guard]
  | cons p rest ih =>
    intro i s out acc hi hle hb hm hx ho
    obtain ⟨hlt, he, hd⟩ := drop_get hi
    simp only [List.length_cons] at hb
    have h1 : decide ((i : Int) < ((m.length : Nat) : Int)) = true := by simp; omega
    obtain ⟨a, h2, h3⟩ := list_at (list_ext hx h) hlt (k := .i64) (n := 2) rfl
    rw [pr_enc, he] at h3
    rw [loopL_eq]
    simp only [ref04_without.b0, h1, h2, h3, z_rv, st_rv, ld_rv, ld_0, ld_1, ref02_Has_call, hH, n_bind, n_map, getL_0, getL_1, getL_2, getL_3, getL_4, getL_5, getL_6, getL_7, getL_8, getL_9, getL_10, getL_11, getL_12, condV_t, condV_f, guardV_tt, guardV_ff, guardV_tf, guardV_ft, guardV_u, apick_t, apick_f, exV_exit, exV_ret, lookE_same, joinK_eq, seqA_n, seqA_e, seqA_r, e_add, e_sub, e_mul, e_eql, e_neq, e_lss, e_leq, e_gtr, e_geq, e_conv, e_not, e_neg, and_guard, or_guard]
    have hc : cOut (p :: rest) r = if hasR r p.1 = true then cOut rest r else p :: cOut rest r := by
      unfold cOut
      rw [List.filter_cons]
      cases hasR r p.1 <;> rfl
    cases h4 : hasR r p.1
    · obtain ⟨q, a1, a2, v', s', a3, a4, a5, a6⟩ := own_add1R (C := prC) (w := 32) (a := p) (v := rv p) (z := [(.string ⟨#[]⟩), (.string ⟨#[]⟩)]) ho hx.1 (by decide) (by decide) rfl rfl rfl (room32 (by omega)) (n := 2) rfl
      obtain ⟨out', t, b1, b2, b3⟩ := ih (i + 1) s' v' (acc ++ [p]) hd (by omega) (by simp; omega) hm (hx.trans a5) a4
      refine ⟨out', t, ?_, ?_, b3⟩
      · rw [← b1]
        simp only [Bool.not_false, a1, a3, ref04_without.j0, inc_i64 (show i < 140737488355328 by omega), n_bind, n_map, getL_0, getL_1, getL_2, getL_3, getL_4, getL_5, getL_6, getL_7, getL_8, getL_9, getL_10, getL_11, getL_12, condV_t, condV_f, guardV_tt, guardV_ff, guardV_tf, guardV_ft, guardV_u, apick_t, apick_f, exV_exit, exV_ret, lookE_same, joinK_eq, seqA_n, seqA_e, seqA_r, e_add, e_sub, e_mul, e_eql, e_neq, e_lss, e_leq, e_gtr, e_geq, e_conv, e_not, e_neg, and_guard, or_guard]
      · rw [hc, h4]
        simpa using b2
    · obtain ⟨out', t, b1, b2, b3⟩ := ih (i + 1) s out acc hd (by omega) (by omega) hm hx ho
      refine ⟨out', t, ?_, ?_, b3⟩
      · rw [← b1]
        simp only [Bool.not_true, ref04_without.j0, inc_i64 (show i < 140737488355328 by omega), n_bind, n_map, getL_0, getL_1, getL_2, getL_3, getL_4, getL_5, getL_6, getL_7, getL_8, getL_9, getL_10, getL_11, getL_12, condV_t, condV_f, guardV_tt, guardV_ff, guardV_tf, guardV_ft, guardV_u, apick_t, apick_f, exV_exit, exV_ret, lookE_same, joinK_eq, seqA_n, seqA_e, seqA_r, e_add, e_sub, e_mul, e_eql, e_neq, e_lss, e_leq, e_gtr, e_geq, e_conv, e_not, e_neg, and_guard, or_guard]
      · rw [hc, h4]
        simpa using b2
theorem wo_run {R : Caller} (hH : ∀ r k s, R 59 [rv r, sv k] s = some (.bool (hasR r k), s)) (r : Rg) {v : Value} {s : St} {m : List Rg} (h : listOf prC v s = some m) (hm : m.length ≤ 6400000000000) :
    ∃ out t, ref04_without R v (rv r) s = some (out, t) ∧ Own s.heap.length 2 t out (encL prC (cOut m r)) ∧ Ext s.heap.length s t := by
  obtain ⟨out, t, h1, h2, h3⟩ := wo_loop hH r h m 0 s (.slice none 0 0) [] rfl (Nat.zero_le _) (by simpa using hm) hm (.refl _ _) (.nil _ _ _)
  rw [show ((0 : Nat) : Int) = 0 from rfl] at h1
  refine ⟨out, t, ?_, h2, h3⟩
  unfold ref04_without
  simp only [box_rv, list_len h, h1, n_bind, n_map, getL_0, getL_1, getL_2, getL_3, getL_4, getL_5, getL_6, getL_7, getL_8, getL_9, getL_10, getL_11, getL_12, condV_t, condV_f, guardV_tt, guardV_ff, guardV_tf, guardV_ft, guardV_u, apick_t, apick_f, exV_exit, exV_ret, lookE_same, joinK_eq, seqA_n, seqA_e, seqA_r, e_add, e_sub, e_mul, e_eql, e_neq, e_lss, e_leq, e_gtr, e_geq, e_conv, e_not, e_neg, and_guard, or_guard, retV, List.all_cons, h2.notup]
  rfl

/-! ### Within -/
theorem cIn_cons (p : Rg) (m : List Rg) (r : Rg) : cIn (p :: m) r = if hasR r p.1 = true then p :: cIn m r else cIn m r := by
  unfold cIn
  rw [List.filter_cons]
theorem wi_loop {R : Caller} (hH : ∀ r k s, R 59 [rv r, sv k] s = some (.bool (hasR r k), s)) (r : Rg) (n : Nat) {v : Value} {s0 : St} {m : List Rg} (h : listOf prC v s0 = some m) : ∀ (rest : List Rg) (i : Nat) (s : St) (out : Value) (acc : List Rg), m.drop i = rest → i ≤ m.length → acc.length + rest.length ≤ 6400000000000 → m.length ≤ 6400000000000 → acc.length ≤ n → Ext s0.heap.length s0 s → Own s0.heap.length 2 s out (encL prC acc) →
    ∃ out' t, loopL (ref04_Within.b0 R) [.int .i64 (n : Int), lptr, out, v, .int .i64 ((m.length : Nat) : Int), .int .i64 (i : Int), rv r] s = some (.exit 0, [out'], t) ∧ Own s0.heap.length 2 t out' (encL prC (acc ++ (cIn rest r).take (n - acc.length))) ∧ Ext s0.heap.length s0 t := by
  intro rest
  induction rest with
  | nil =>
    intro i s out acc hi hle hb hm han hx ho
    have h1 : decide ((i : Int) < ((m.length : Nat) : Int)) = false := by
      have := List.drop_eq_nil_iff.1 hi
      simp; omega
    refine ⟨out, s, ?_, by simpa [cIn] using ho, hx⟩
    rw [loopL_eq]
    simp only [ref04_Within.b0, h1, n_bind, n_map, getL_0, getL_1, getL_2, getL_3, getL_4, getL_5, getL_6, getL_7, getL_8, getL_9, getL_10, getL_11, getL_12, condV_t, condV_f, guardV_tt, guardV_ff, guardV_tf, guardV_ft, guardV_u, apick_t, apick_f, exV_exit, exV_ret, lookE_same, joinK_eq, seqA_n, seqA_e, seqA_r, e_add, e_sub, e_mul, e_eql, e_neq, e_lss, e_leq, e_gtr, e_geq, e_conv, e_not, e_neg, and_guard, or_guard]
  | cons p rest ih =>
    intro i s out acc hi hle hb hm han hx ho
    obtain ⟨hlt, he, hd⟩ := drop_get hi
    simp only [List.length_cons] at hb
    have h1 : decide ((i : Int) < ((m.length : Nat) : Int)) = true := by simp; omega
    obtain ⟨a, h2, h3⟩ := list_at (list_ext hx h) hlt (k := .i64) (n := 2) rfl
    rw [pr_enc, he] at h3
    have hn0 : decide ((n : Int) < 0) = false := by simp
    have hlen : ∀ e s2, alenV (.slice e) out s2 = some (.int .i64 ((acc.length : Nat) : Int)) := fun e s2 => list_len (own_list (C := prC) ho)
    have hcm : decide (((acc.length : Nat) : Int) < (n : Int)) = decide (acc.length < n) := by simp
    rw [loopL_eq]
    simp only [ref04_Within.b0, h1, h2, h3, z_rv, st_rv, ld_rv, ld_0, ld_1, ref02_Has_call, hH, hn0, hlen, hcm, n_bind, n_map, getL_0, getL_1, getL_2, getL_3, getL_4, getL_5, getL_6, getL_7, getL_8, getL_9, getL_10, getL_11, getL_12, condV_t, condV_f, guardV_tt, guardV_ff, guardV_tf, guardV_ft, guardV_u, apick_t, apick_f, exV_exit, exV_ret, lookE_same, joinK_eq, seqA_n, seqA_e, seqA_r, e_add, e_sub, e_mul, e_eql, e_neq, e_lss, e_leq, e_gtr, e_geq, e_conv, e_not, e_neg, and_guard, or_guard]
    rw [cIn_cons]
    cases h4 : hasR r p.1
    · obtain ⟨out', t, b1, b2, b3⟩ := ih (i + 1) s out acc hd (by omega) (by omega) hm han hx ho
      refine ⟨out', t, ?_, by simpa using b2, b3⟩
      rw [← b1]
      simp only [ref04_Within.j0, inc_i64 (show i < 140737488355328 by omega), n_bind, n_map, getL_0, getL_1, getL_2, getL_3, getL_4, getL_5, getL_6, getL_7, getL_8, getL_9, getL_10, getL_11, getL_12, condV_t, condV_f, guardV_tt, guardV_ff, guardV_tf, guardV_ft, guardV_u, apick_t, apick_f, exV_exit, exV_ret, lookE_same, joinK_eq, seqA_n, seqA_e, seqA_r, e_add, e_sub, e_mul, e_eql, e_neq, e_lss, e_leq, e_gtr, e_geq, e_conv, e_not, e_neg, and_guard, or_guard]
    · by_cases h5 : acc.length < n
      · obtain ⟨q, a1, a2, v', s', a3, a4, a5, a6⟩ := own_add1R (C := prC) (w := 32) (a := p) (v := rv p) (z := [(.string ⟨#[]⟩), (.string ⟨#[]⟩)]) ho hx.1 (by decide) (by decide) rfl rfl rfl (room32 (by omega)) (n := 2) rfl
        obtain ⟨out', t, b1, b2, b3⟩ := ih (i + 1) s' v' (acc ++ [p]) hd (by omega) (by simp; omega) hm (by simp; omega) (hx.trans a5) a4
        refine ⟨out', t, ?_, ?_, b3⟩
        · rw [← b1]
          have h6 : decide (acc.length < n) = true := by simpa using h5
          simp only [h6, a1, a3, ref04_Within.j0, inc_i64 (show i < 140737488355328 by omega), n_bind, n_map, getL_0, getL_1, getL_2, getL_3, getL_4, getL_5, getL_6, getL_7, getL_8, getL_9, getL_10, getL_11, getL_12, condV_t, condV_f, guardV_tt, guardV_ff, guardV_tf, guardV_ft, guardV_u, apick_t, apick_f, exV_exit, exV_ret, lookE_same, joinK_eq, seqA_n, seqA_e, seqA_r, e_add, e_sub, e_mul, e_eql, e_neq, e_lss, e_leq, e_gtr, e_geq, e_conv, e_not, e_neg, and_guard, or_guard]
        · rw [if_pos rfl, show n - acc.length = (n - (acc ++ [p]).length) + 1 by simp; omega, List.take_succ_cons]
          simpa using b2
      · obtain ⟨out', t, b1, b2, b3⟩ := ih (i + 1) s out acc hd (by omega) (by omega) hm han hx ho
        refine ⟨out', t, ?_, ?_, b3⟩
        · rw [← b1]
          have h6 : decide (acc.length < n) = false := by simpa using h5
          simp only [h6, ref04_Within.j0, inc_i64 (show i < 140737488355328 by omega), n_bind, n_map, getL_0, getL_1, getL_2, getL_3, getL_4, getL_5, getL_6, getL_7, getL_8, getL_9, getL_10, getL_11, getL_12, condV_t, condV_f, guardV_tt, guardV_ff, guardV_tf, guardV_ft, guardV_u, apick_t, apick_f, exV_exit, exV_ret, lookE_same, joinK_eq, seqA_n, seqA_e, seqA_r, e_add, e_sub, e_mul, e_eql, e_neq, e_lss, e_leq, e_gtr, e_geq, e_conv, e_not, e_neg, and_guard, or_guard]
        · rw [show n - acc.length = 0 by omega] at b2 ⊢
          simpa using b2
theorem wi_run {R : Caller} (hH : ∀ r k s, R 59 [rv r, sv k] s = some (.bool (hasR r k), s)) (r : Rg) (n : Nat) {v : Value} {s : St} {m : List Rg} (h : listOf prC v s = some m) (hm : m.length ≤ 6400000000000) :
    ∃ out t, ref04_Within R v (rv r) (.int .i64 (n : Int)) s = some (out, t) ∧ Own s.heap.length 2 t out (encL prC ((cIn m r).take n)) ∧ Ext s.heap.length s t := by
  obtain ⟨out, t, h1, h2, h3⟩ := wi_loop hH r n h m 0 s (.slice none 0 0) [] rfl (Nat.zero_le _) (by simpa using hm) hm (Nat.zero_le _) (.refl _ _) (.nil _ _ _)
  rw [show ((0 : Nat) : Int) = 0 from rfl] at h1
  refine ⟨out, t, ?_, h2, h3⟩
  unfold ref04_Within
  simp only [box_rv, list_len h, h1, n_bind, n_map, getL_0, getL_1, getL_2, getL_3, getL_4, getL_5, getL_6, getL_7, getL_8, getL_9, getL_10, getL_11, getL_12, condV_t, condV_f, guardV_tt, guardV_ff, guardV_tf, guardV_ft, guardV_u, apick_t, apick_f, exV_exit, exV_ret, lookE_same, joinK_eq, seqA_n, seqA_e, seqA_r, e_add, e_sub, e_mul, e_eql, e_neq, e_lss, e_leq, e_gtr, e_geq, e_conv, e_not, e_neg, and_guard, or_guard, retV, List.all_cons, h2.notup]
  rfl

/-! ### put -/
def pStep (k w : BL) (st : List Rg × Bool) (x : Rg) : List Rg × Bool :=
  (if (x.1 != k) = true then (if (!st.2 && !bl x.1 k) = true then st.1 ++ [(k, w)] else st.1) ++ [x] else (if (!st.2 && !bl x.1 k) = true then st.1 ++ [(k, w)] else st.1), st.2 || !bl x.1 k)
def pFin (k w : BL) (st : List Rg × Bool) : List Rg := if st.2 = true then st.1 else st.1 ++ [(k, w)]
theorem put_done {k w : BL} : ∀ (m : List Rg) (out : List Rg), m.foldl (pStep k w) (out, true) = (out ++ m.filter (fun p => p.1 != k), true)
  | [], out => by simp
  | x :: m, out => by
    have : pStep k w (out, true) x = (if (x.1 != k) = true then out ++ [x] else out, true) := by simp [pStep]
    rw [List.foldl_cons, List.filter_cons, this, put_done m]
    split <;> simp
theorem put_pure {k w : BL} : ∀ (m : List Rg) (_ : Srt m) (out : List Rg), pFin k w (m.foldl (pStep k w) (out, false)) = out ++ cPut m k w
  | [], _, out => by simp [pFin, cPut]
  | x :: m, h, out => by
    obtain ⟨h1, h2⟩ := srt_cons.1 h
    rw [List.foldl_cons]
    unfold cPut
    rw [List.filter_cons, List.filter_cons]
    by_cases c : bl x.1 k = true
    · have e : (x.1 != k) = true := by simp [bne, (beq_of_bl c).1]
      have : pStep k w (out, false) x = (out ++ [x], false) := by simp [pStep, c, e]
      rw [this, put_pure m h2, if_pos c, bl_asym c]
      simp [cPut]
    · have c2 : bl x.1 k = false := by simpa using c
      have hf1 : m.filter (fun p => bl p.1 k) = [] := filter_none fun q hq => bl_up c2 (h1 q hq)
      have hk : ∀ q ∈ m, bl k q.1 = true := fun q hq => by
        by_cases e : x.1 = k
        · rw [← e]; exact h1 q hq
        · rcases bl_total e with e2 | e2
          · rw [e2] at c2; cases c2
          · exact bl_trans e2 (h1 q hq)
      have hf2 : m.filter (fun p => bl k p.1) = m := List.filter_eq_self.2 hk
      have hf3 : m.filter (fun p => p.1 != k) = m := List.filter_eq_self.2 fun q hq => by simp [bne, (beq_of_bl (hk q hq)).2]
      rw [if_neg c, hf1, hf2]
      by_cases e : x.1 = k
      · have e1 : (x.1 != k) = false := by simp [e]
        have : pStep k w (out, false) x = (out ++ [(k, w)], true) := by simp [pStep, c2, e1]
        rw [this, put_done, hf3, e, bl_irrefl]
        simp [pFin]
      · have e1 : (x.1 != k) = true := by simp [e]
        have e2 : bl k x.1 = true := by
          rcases bl_total e with e2 | e2
          · rw [e2] at c2; cases c2
          · exact e2
        have : pStep k w (out, false) x = (out ++ [(k, w)] ++ [x], true) := by simp [pStep, c2, e1]
        rw [this, put_done, hf3, e2]
        simp [pFin]
theorem pu_loop {R : Caller} (k w : BL) {v : Value} {s0 : St} {m : List Rg} (h : listOf prC v s0 = some m) : ∀ (rest : List Rg) (i : Nat) (s : St) (out : Value) (st : List Rg × Bool), m.drop i = rest → i ≤ m.length → st.1.length + rest.length + (if st.2 = true then 0 else 1) ≤ 6400000000000 → m.length ≤ 6400000000000 → Ext s0.heap.length s0 s → Own s0.heap.length 2 s out (encL prC st.1) →
    ∃ out' t, loopL (ref04_put.b0 R) [lptr, out, .bool st.2, v, .int .i64 ((m.length : Nat) : Int), .int .i64 (i : Int), rv (k, w)] s = some (.exit 0, [lptr, out', .bool (rest.foldl (pStep k w) st).2, rv (k, w)], t) ∧ Own s0.heap.length 2 t out' (encL prC (rest.foldl (pStep k w) st).1) ∧ (rest.foldl (pStep k w) st).1.length + (if (rest.foldl (pStep k w) st).2 = true then 0 else 1) ≤ 6400000000000 ∧ Ext s0.heap.length s0 t := by
  intro rest
  induction rest with
  | nil =>
    intro i s out st hi hle hb hm hx ho
    have h1 : decide ((i : Int) < ((m.length : Nat) : Int)) = false := by
      have := List.drop_eq_nil_iff.1 hi
      simp; omega
    refine ⟨out, s, ?_, ho, hb, hx⟩
    rw [loopL_eq]
    simp only [ref04_put.b0, h1, n_bind, n_map, getL_0, getL_1, getL_2, getL_3, getL_4, getL_5, getL_6, getL_7, getL_8, getL_9, getL_10, getL_11, getL_12, condV_t, condV_f, guardV_tt, guardV_ff, guardV_tf, guardV_ft, guardV_u, apick_t, apick_f, exV_exit, exV_ret, lookE_same, joinK_eq, seqA_n, seqA_e, seqA_r, e_add, e_sub, e_mul, e_eql, e_neq, e_lss, e_leq, e_gtr, e_geq, e_conv, e_not, e_neg, and_guard, or_guard]
    rfl
  | cons p rest ih =>
    intro i s out st hi hle hb hm hx ho
    obtain ⟨hlt, he, hd⟩ := drop_get hi
    simp only [List.length_cons] at hb
    have h1 : decide ((i : Int) < ((m.length : Nat) : Int)) = true := by simp; omega
    obtain ⟨a, h2, h3⟩ := list_at (list_ext hx h) hlt (k := .i64) (n := 2) rfl
    rw [pr_enc, he] at h3
    obtain ⟨acc, dn⟩ := st
    simp only at hb ho ⊢
    -- the pair itself, where its place is
    have hA : ∃ out1 s1, Own s0.heap.length 2 s1 out1 (encL prC (if (!dn && !bl p.1 k) = true then acc ++ [(k, w)] else acc)) ∧ Ext s0.heap.length s0 s1 ∧ ∀ K : List Value → St → Res, (if (!dn && !bl p.1 k) = true then (abuildSl 2 [(.string ⟨#[]⟩), (.string ⟨#[]⟩)] 1 [(0, rv (k, w))] s).bind fun r => (aappend 2 32 out r.1 r.2).bind fun r2 => K [r2.1, .bool true] r2.2 else K [out, .bool dn] s) = K [out1, .bool (dn || !bl p.1 k)] s1 := by
      by_cases c : (!dn && !bl p.1 k) = true
      · obtain ⟨q, a1, a2, v', s', a3, a4, a5, a6⟩ := own_add1R (C := prC) (w := 32) (a := (k, w)) (v := rv (k, w)) (z := [(.string ⟨#[]⟩), (.string ⟨#[]⟩)]) ho hx.1 (by decide) (by decide) rfl rfl rfl (room32 (by split at hb <;> omega)) (n := 2) rfl
        refine ⟨v', s', by rw [if_pos c]; exact a4, hx.trans a5, fun K => ?_⟩
        rw [if_pos c, a1, Option.bind_some, a3, Option.bind_some]
        have : (dn || !bl p.1 k) = true := by
          simp only [Bool.and_eq_true] at c
          rw [c.2]; simp
        rw [this]
      · refine ⟨out, s, by rw [if_neg c]; exact ho, hx, fun K => ?_⟩
        rw [if_neg c]
        have : (dn || !bl p.1 k) = dn := by
          cases dn <;> cases h5 : bl p.1 k <;> simp_all
        rw [this]
    obtain ⟨out1, s1, b1, b2, b3⟩ := hA
    have hlen1 : (if (!dn && !bl p.1 k) = true then acc ++ [(k, w)] else acc).length + (if (dn || !bl p.1 k) = true then 0 else 1) ≤ acc.length + (if dn = true then 0 else 1) := by
      cases dn <;> cases h5 : bl p.1 k <;> simp
    have hst : pStep k w (acc, dn) p = (if (p.1 != k) = true then (if (!dn && !bl p.1 k) = true then acc ++ [(k, w)] else acc) ++ [p] else (if (!dn && !bl p.1 k) = true then acc ++ [(k, w)] else acc), dn || !bl p.1 k) := rfl
    rw [List.foldl_cons, hst]
    generalize hac : (if (!dn && !bl p.1 k) = true then acc ++ [(k, w)] else acc) = acc1 at *
    have hfirst : loopL (ref04_put.b0 R) [lptr, out, .bool dn, v, .int .i64 ((m.length : Nat) : Int), .int .i64 (i : Int), rv (k, w)] s = seqA (ref04_put.j1 R [lptr, out1, .bool (dn || !bl p.1 k), lptr, v, .int .i64 ((m.length : Nat) : Int), .int .i64 (i : Int), rv (k, w), rv p] s1) (loopL (ref04_put.b0 R)) := by
      rw [loopL_eq]
      have hk := b3 fun T s => ref04_put.j1 R [lptr, getL T 0, getL T 1, lptr, v, .int .i64 ((m.length : Nat) : Int), .int .i64 (i : Int), rv (k, w), rv p] s
      congr 1
      rw [show [lptr, out1, .bool (dn || !bl p.1 k), lptr, v, .int .i64 ((m.length : Nat) : Int), .int .i64 (i : Int), rv (k, w), rv p] = [lptr, getL [out1, .bool (dn || !bl p.1 k)] 0, getL [out1, .bool (dn || !bl p.1 k)] 1, lptr, v, .int .i64 ((m.length : Nat) : Int), .int .i64 (i : Int), rv (k, w), rv p] from rfl]
      refine Eq.trans ?_ hk
      simp only [ref04_put.b0, h1, h2, h3, z_rv, st_rv, ld_rv, ad_0, ld_0, ld_00, geq_bl, n_bind, n_map, getL_0, getL_1, getL_2, getL_3, getL_4, getL_5, getL_6, getL_7, getL_8, getL_9, getL_10, getL_11, getL_12, condV_t, condV_f, guardV_tt, guardV_ff, guardV_tf, guardV_ft, guardV_u, apick_t, apick_f, exV_exit, exV_ret, lookE_same, joinK_eq, seqA_n, seqA_e, seqA_r, e_add, e_sub, e_mul, e_eql, e_neq, e_lss, e_leq, e_gtr, e_geq, e_conv, e_not, e_neg, and_guard, or_guard]
      cases dn <;> cases h5 : bl p.1 k <;> simp only [h5, Bool.not_true, Bool.not_false, Bool.and_true, Bool.and_false, Bool.true_and, Bool.false_and, if_true, if_false, Bool.false_eq_true, n_bind, n_map, getL_0, getL_1, getL_2, getL_3, getL_4, getL_5, getL_6, getL_7, getL_8, getL_9, getL_10, getL_11, getL_12, condV_t, condV_f, guardV_tt, guardV_ff, guardV_tf, guardV_ft, guardV_u, apick_t, apick_f, exV_exit, exV_ret, lookE_same, joinK_eq, seqA_n, seqA_e, seqA_r, e_add, e_sub, e_mul, e_eql, e_neq, e_lss, e_leq, e_gtr, e_geq, e_conv, e_not, e_neg, and_guard, or_guard]
    rw [hfirst]
    cases h6 : (p.1 != k)
    · obtain ⟨out', t, d1, d2, d3, d4⟩ := ih (i + 1) s1 out1 (acc1, dn || !bl p.1 k) hd (by omega) (by simp only; omega) hm b2 b1
      refine ⟨out', t, ?_, d2, d3, d4⟩
      have h7 : (!(p.1 == k)) = (p.1 != k) := rfl
      rw [h6] at h7
      simp only [ref04_put.j1, ref04_put.j0, ad_0, ld_00, ld_0, e_sneq, h7, inc_i64 (show i < 140737488355328 by omega), n_bind, n_map, getL_0, getL_1, getL_2, getL_3, getL_4, getL_5, getL_6, getL_7, getL_8, getL_9, getL_10, getL_11, getL_12, condV_t, condV_f, guardV_tt, guardV_ff, guardV_tf, guardV_ft, guardV_u, apick_t, apick_f, exV_exit, exV_ret, lookE_same, joinK_eq, seqA_n, seqA_e, seqA_r, e_add, e_sub, e_mul, e_eql, e_neq, e_lss, e_leq, e_gtr, e_geq, e_conv, e_not, e_neg, and_guard, or_guard]
      exact d1
    · obtain ⟨q, a1, a2, v', s', a3, a4, a5, a6⟩ := own_add1R (C := prC) (w := 32) (a := p) (v := rv p) (z := [(.string ⟨#[]⟩), (.string ⟨#[]⟩)]) b1 b2.1 (by decide) (by decide) rfl rfl rfl (room32 (by omega)) (n := 2) rfl
      obtain ⟨out', t, d1, d2, d3, d4⟩ := ih (i + 1) s' v' (acc1 ++ [p], dn || !bl p.1 k) hd (by omega) (by simp only [List.length_append, List.length_singleton]; omega) hm (b2.trans a5) a4
      refine ⟨out', t, ?_, d2, d3, d4⟩
      have h7 : (!(p.1 == k)) = (p.1 != k) := rfl
      rw [h6] at h7
      simp only [ref04_put.j1, ref04_put.j0, ad_0, ld_00, ld_0, ld_rv, e_sneq, h7, a1, a3, inc_i64 (show i < 140737488355328 by omega), n_bind, n_map, getL_0, getL_1, getL_2, getL_3, getL_4, getL_5, getL_6, getL_7, getL_8, getL_9, getL_10, getL_11, getL_12, condV_t, condV_f, guardV_tt, guardV_ff, guardV_tf, guardV_ft, guardV_u, apick_t, apick_f, exV_exit, exV_ret, lookE_same, joinK_eq, seqA_n, seqA_e, seqA_r, e_add, e_sub, e_mul, e_eql, e_neq, e_lss, e_leq, e_gtr, e_geq, e_conv, e_not, e_neg, and_guard, or_guard]
      exact d1
theorem pu_run {R : Caller} (k w : BL) {v : Value} {s : St} {m : List Rg} (h : listOf prC v s = some m) (hs : Srt m) (hm : m.length ≤ 6300000000000) :
    ∃ out t, ref04_put R v (rv (k, w)) s = some (out, t) ∧ Own s.heap.length 2 t out (encL prC (cPut m k w)) ∧ Ext s.heap.length s t := by
  obtain ⟨out, t, h1, h2, h3, h4⟩ := pu_loop (R := R) k w h m 0 s (.slice none 0 0) ([], false) rfl (Nat.zero_le _) (by simp; omega) (by omega) (.refl _ _) (.nil _ _ _)
  rw [show ((0 : Nat) : Int) = 0 from rfl] at h1
  have hp := put_pure (k := k) (w := w) m hs []
  rw [List.nil_append] at hp
  unfold pFin at hp
  unfold ref04_put
  cases h5 : (m.foldl (pStep k w) ([], false)).2
  · rw [h5] at h1 h3 hp
    simp only [Bool.false_eq_true, if_false] at hp h3
    obtain ⟨q, a1, a2, v', s', a3, a4, a5, a6⟩ := own_add1R (C := prC) (w := 32) (a := (k, w)) (v := rv (k, w)) (z := [(.string ⟨#[]⟩), (.string ⟨#[]⟩)]) h2 h4.1 (by decide) (by decide) rfl rfl rfl (room32 (by omega)) (n := 2) rfl
    rw [hp] at a4
    refine ⟨v', s', ?_, a4, h4.trans a5⟩
    simp only [box_rv, list_len h, h1, ld_rv, a1, a3, ref04_put.j2, Bool.not_false, n_bind, n_map, getL_0, getL_1, getL_2, getL_3, getL_4, getL_5, getL_6, getL_7, getL_8, getL_9, getL_10, getL_11, getL_12, condV_t, condV_f, guardV_tt, guardV_ff, guardV_tf, guardV_ft, guardV_u, apick_t, apick_f, exV_exit, exV_ret, lookE_same, joinK_eq, seqA_n, seqA_e, seqA_r, e_add, e_sub, e_mul, e_eql, e_neq, e_lss, e_leq, e_gtr, e_geq, e_conv, e_not, e_neg, and_guard, or_guard, retV, List.all_cons, a4.notup]
    rfl
  · rw [h5] at h1 hp
    simp only [if_true] at hp
    rw [hp] at h2
    refine ⟨out, t, ?_, h2, h4⟩
    simp only [box_rv, list_len h, h1, ref04_put.j2, Bool.not_true, n_bind, n_map, getL_0, getL_1, getL_2, getL_3, getL_4, getL_5, getL_6, getL_7, getL_8, getL_9, getL_10, getL_11, getL_12, condV_t, condV_f, guardV_tt, guardV_ff, guardV_tf, guardV_ft, guardV_u, apick_t, apick_f, exV_exit, exV_ret, lookE_same, joinK_eq, seqA_n, seqA_e, seqA_r, e_add, e_sub, e_mul, e_eql, e_neq, e_lss, e_leq, e_gtr, e_geq, e_conv, e_not, e_neg, and_guard, or_guard, retV, List.all_cons, h2.notup]
    rfl

end Go.Proofs.Ytccindbiodofmaa.Ab

/- Pairs, locks: whether two are the same. -/
namespace Go.Proofs.Ytccindbiodofmaa.Ab
open Go

end Go.Proofs.Ytccindbiodofmaa.Ab

/- What the document's answer does to a map, one operation after another; whether two maps, two tellings are the same. -/
namespace Go.Proofs.Ytccindbiodofmaa.Ab
open Go

theorem pt_out {m : List Rg} (h : Val m) {k : BL} (hk : ckK k = true) : cOut m (ptR k) = cDel m k := by
  obtain ⟨p1, p2, p3, p4⟩ := pt_facts hk
  refine filter_same fun q hq => ?_
  have hq1 := (h.2 q hq).1
  rw [has_iff p2 hq1, p1]
  by_cases e : q.1 = k
  · rw [e, bl_irrefl, p4]; simp
  · have e1 : (q.1 != k) = true := by simp [e]
    rw [e1]
    cases h1 : bl q.1 k
    · cases h2 : ((ptR k).2 == [] || bl q.1 (ptR k).2)
      · rfl
      · exact absurd (p3 q.1 (ckK_len hq1).1 h1 h2) e
    · rfl
theorem ab_res (b : Bool) (x : BL) : abuild Try.prog 82 [(0, .bool b), (1, sv x)] = some (tellV b x (.slice none 0 0)) := by kernel_rfl
structure RefH (R : Caller) : Prop where
  fd : ∀ k v s m, listOf prC v s = some m → m.length < 140737488355328 → R 48 [v, sv k] s = some (fdV m k, s)
  pu : ∀ x y s r, ref04_put R x y s = some r → R 49 [x, y] s = some r
  wo : ∀ x y s r, ref04_without R x y s = some r → R 50 [x, y] s = some r
  wi : ∀ x y z s r, ref04_Within R x y z s = some r → R 51 [x, y, z] s = some r
  pt : ∀ k s, R 33 [sv k] s = some (ptV (ptL k), s)
  hs : ∀ r k s, R 59 [rv r, sv k] s = some (.bool (hasR r k), s)
theorem rdo_run {R : Caller} (H : RefH R) {N : Nat} {v : Value} {s : St} {m : List Rg} (h : Own N 2 s v (encL prC m)) (hN : N ≤ s.heap.length) (hm : m.length ≤ 6300000000000) (hv : Val m) (o : OpT) (ho : ckO o = 0) :
    ∃ v' pv t, ref04_Do R v (oV o) s = some (.tuple #[v', tellV (doR m o).1 (doR m o).2.1 pv], t) ∧ Own N 2 t v' (encL prC (doM m o)) ∧ Own s.heap.length 2 t pv (encL prC (doR m o).2.2) ∧ Ext s.heap.length s t := by
  obtain ⟨k1, k2, k3, k4, k5, k6⟩ := ckO_key ho
  have hls : listOf prC v s = some m := own_list (C := prC) h
  have hnt := h.notup
  have less : ∀ {n t a cs}, Own s.heap.length n t a cs → Own N n t a cs := by
    intro n t a cs g
    rcases g with g | ⟨b, len, e1, e2, e3⟩
    · exact .inl g
    · exact .inr ⟨b, len, e1, by omega, e3⟩
  unfold ref04_Do
  simp only [o_box, o_3, o_4, o_0, ab2, z_rv, st_rv, n_bind, n_map, getL_0, getL_1, getL_2, getL_3, getL_4, getL_5, getL_6, getL_7, getL_8, getL_9, getL_10, getL_11, getL_12, condV_t, condV_f, guardV_tt, guardV_ff, guardV_tf, guardV_ft, guardV_u, apick_t, apick_f, exV_exit, exV_ret, lookE_same, joinK_eq, seqA_n, seqA_e, seqA_r, e_add, e_sub, e_mul, e_eql, e_neq, e_lss, e_leq, e_gtr, e_geq, e_conv, e_not, e_neg, and_guard, or_guard]
  rcases kinds k1 with e | e | e | e | e
  · have e1 : doM m o = m := by unfold doM; rw [e]; rfl
    have e2 : doR m o = ((cGet m o.key).isSome, (cGet m o.key).getD [], []) := by unfold doR; rw [e]; rfl
    have c1 : ((1 : Int) == 1) = true := rfl
    rw [e, e1, e2]
    refine ⟨v, _, s, ?_, h, .nil _ _ _, .refl _ _⟩
    simp only [c1, o_1, ref04_Find_call, H.fd o.key v s m hls (by omega), x_fd0, x_fd1, ab_res, res_00, res_st _ _ (.slice none 0 0) rfl, res_ld, n_bind, n_map, getL_0, getL_1, getL_2, getL_3, getL_4, getL_5, getL_6, getL_7, getL_8, getL_9, getL_10, getL_11, getL_12, condV_t, condV_f, guardV_tt, guardV_ff, guardV_tf, guardV_ft, guardV_u, apick_t, apick_f, exV_exit, exV_ret, lookE_same, joinK_eq, seqA_n, seqA_e, seqA_r, e_add, e_sub, e_mul, e_eql, e_neq, e_lss, e_leq, e_gtr, e_geq, e_conv, e_not, e_neg, and_guard, or_guard, retV, List.all_cons, hnt]
    rfl
  · have e1 : doM m o = cPut m o.key o.val := by unfold doM; rw [e]; rfl
    have e2 : doR m o = (false, [], []) := by unfold doR; rw [e]; rfl
    have c1 : ((2 : Int) == 1) = false := rfl
    have c2 : ((2 : Int) == 2) = true := rfl
    obtain ⟨out, t, g1, g2, g3⟩ := pu_run (R := R) o.key o.val hls hv.1 hm
    rw [e, e1, e2]
    refine ⟨out, _, t, ?_, less g2, .nil _ _ _, g3⟩
    simp only [c1, c2, o_1, o_2, pr_build, ref04_put_call, H.pu _ _ _ _ g1, res_00, n_bind, n_map, getL_0, getL_1, getL_2, getL_3, getL_4, getL_5, getL_6, getL_7, getL_8, getL_9, getL_10, getL_11, getL_12, condV_t, condV_f, guardV_tt, guardV_ff, guardV_tf, guardV_ft, guardV_u, apick_t, apick_f, exV_exit, exV_ret, lookE_same, joinK_eq, seqA_n, seqA_e, seqA_r, e_add, e_sub, e_mul, e_eql, e_neq, e_lss, e_leq, e_gtr, e_geq, e_conv, e_not, e_neg, and_guard, or_guard, retV, List.all_cons, g2.notup]
    rfl
  · have e1 : doM m o = cDel m o.key := by unfold doM; rw [e]; rfl
    have e2 : doR m o = (false, [], []) := by unfold doR; rw [e]; rfl
    have c1 : ((3 : Int) == 1) = false := rfl
    have c2 : ((3 : Int) == 2) = false := rfl
    have c3 : ((3 : Int) == 3) = true := rfl
    have hk : ckK o.key = true := k2 (by rw [e]; rfl)
    have hpt : ptL o.key = (ptR o.key, 0) := by unfold ptL; rw [if_pos hk]
    obtain ⟨out, t, g1, g2, g3⟩ := wo_run (R := R) H.hs (ptR o.key) hls (by omega)
    rw [pt_out hv hk] at g2
    rw [e, e1, e2]
    refine ⟨out, _, t, ?_, less g2, .nil _ _ _, g3⟩
    simp only [c1, c2, c3, o_1, ref02_Point_call, H.pt, hpt, x_pt0, x_pt1, st_rv, ld_rv, ref04_without_call, H.wo _ _ _ _ g1, res_00, n_bind, n_map, getL_0, getL_1, getL_2, getL_3, getL_4, getL_5, getL_6, getL_7, getL_8, getL_9, getL_10, getL_11, getL_12, condV_t, condV_f, guardV_tt, guardV_ff, guardV_tf, guardV_ft, guardV_u, apick_t, apick_f, exV_exit, exV_ret, lookE_same, joinK_eq, seqA_n, seqA_e, seqA_r, e_add, e_sub, e_mul, e_eql, e_neq, e_lss, e_leq, e_gtr, e_geq, e_conv, e_not, e_neg, and_guard, or_guard, retV, List.all_cons, g2.notup]
    rfl
  · have e1 : doM m o = m := by unfold doM; rw [e]; rfl
    have e2 : doR m o = (false, [], (cIn m (o.lo, o.hi)).take o.most.toNat) := by unfold doR; rw [e]; rfl
    have c1 : ((4 : Int) == 1) = false := rfl
    have c2 : ((4 : Int) == 2) = false := rfl
    have c3 : ((4 : Int) == 3) = false := rfl
    have c4 : ((4 : Int) == 4) = true := rfl
    obtain ⟨q1, q2⟩ := k6 e
    have hmo : o.most = ((o.most.toNat : Nat) : Int) := by omega
    obtain ⟨pv, t, g1, g2, g3⟩ := wi_run (R := R) H.hs (o.lo, o.hi) o.most.toNat hls (by omega)
    rw [← hmo] at g1
    have hlf : isLeaf pv = true := by rcases g2 with ⟨rfl, _⟩ | ⟨b, len, rfl, _⟩ <;> rfl
    have hb : abuild Try.prog 82 [(2, pv)] = some (tellV false [] pv) := by
      rcases g2 with ⟨rfl, _⟩ | ⟨b, len, rfl, _⟩ <;> kernel_rfl
    rw [e, e1, e2]
    refine ⟨v, pv, t, ?_, h.keep (g3.keep (B := none)) (fun c hc => by simp), g2, g3⟩
    simp only [c1, c2, c3, c4, o_5, ld_rv, ref04_Within_call, H.wi _ _ _ _ _ g1, hb, res_00, res_st _ _ pv hlf, res_ld, n_bind, n_map, getL_0, getL_1, getL_2, getL_3, getL_4, getL_5, getL_6, getL_7, getL_8, getL_9, getL_10, getL_11, getL_12, condV_t, condV_f, guardV_tt, guardV_ff, guardV_tf, guardV_ft, guardV_u, apick_t, apick_f, exV_exit, exV_ret, lookE_same, joinK_eq, seqA_n, seqA_e, seqA_r, e_add, e_sub, e_mul, e_eql, e_neq, e_lss, e_leq, e_gtr, e_geq, e_conv, e_not, e_neg, and_guard, or_guard, retV, List.all_cons, hnt]
    rfl
  · have e1 : doM m o = cOut m (o.lo, o.hi) := by unfold doM; rw [e]; rfl
    have e2 : doR m o = (false, [], []) := by unfold doR; rw [e]; rfl
    have c1 : ((5 : Int) == 1) = false := rfl
    have c2 : ((5 : Int) == 2) = false := rfl
    have c3 : ((5 : Int) == 3) = false := rfl
    have c4 : ((5 : Int) == 4) = false := rfl
    obtain ⟨out, t, g1, g2, g3⟩ := wo_run (R := R) H.hs (o.lo, o.hi) hls (by omega)
    rw [e, e1, e2]
    refine ⟨out, _, t, ?_, less g2, .nil _ _ _, g3⟩
    simp only [c1, c2, c3, c4, ld_rv, ref04_without_call, H.wo _ _ _ _ g1, res_00, n_bind, n_map, getL_0, getL_1, getL_2, getL_3, getL_4, getL_5, getL_6, getL_7, getL_8, getL_9, getL_10, getL_11, getL_12, condV_t, condV_f, guardV_tt, guardV_ff, guardV_tf, guardV_ft, guardV_u, apick_t, apick_f, exV_exit, exV_ret, lookE_same, joinK_eq, seqA_n, seqA_e, seqA_r, e_add, e_sub, e_mul, e_eql, e_neq, e_lss, e_leq, e_gtr, e_geq, e_conv, e_not, e_neg, and_guard, or_guard, retV, List.all_cons, g2.notup]
    rfl
structure RefA (R : Caller) : Prop where
  H : RefH R
  dd : ∀ x y s r, ref04_Do R x y s = some r → R 38 [x, y] s = some r
  hM : ∀ xs s, R 37 xs s = gMapE xs s
  hL : ∀ xs s, R 22 xs s = gAllE xs s
theorem refApply_loop {R : Caller} (H : RefA R) {v : Value} {s0 : St} {l : List OpT} (h : listOf opC v s0 = some l) (hl : l.length ≤ 1759218604391) {m0 : List Rg} (hm : m0.length ≤ 4400000000000) (hv : Val m0) (hall : allE l = 0) : ∀ (rest : List OpT) (i : Nat) (s : St) (mv out : Value) (q : List (Rs × Value)), l.drop i = rest → i ≤ l.length → Ext s0.heap.length s0 s → Own s0.heap.length 2 s mv (encL prC (apM m0 (l.take i))) → Own s0.heap.length 3 s out (encR q) → q.map (·.1) = apR m0 (l.take i) → (∀ x ∈ q, OwnC prC s0.heap.length s x.2 x.1.2.2) →
    ∃ mv' out' t, loopL (ref04_Apply.b0 R) [mv, out, v, .int .i64 ((l.length : Nat) : Int), .int .i64 (i : Int)] s = some (.exit 0, [mv', out'], t) ∧ Own s0.heap.length 2 t mv' (encL prC (apM m0 l)) ∧ Rdy s0.heap.length t out' (apR m0 l) ∧ Ext s0.heap.length s0 t := by
  intro rest
  induction rest with
  | nil =>
    intro i s mv out q hi hle hx h1 h2 h3 h4
    have hge := List.drop_eq_nil_iff.1 hi
    have hd : decide ((i : Int) < ((l.length : Nat) : Int)) = false := by simp; omega
    rw [List.take_of_length_le hge] at h1 h3
    refine ⟨mv, out, s, ?_, h1, ⟨q, h3, h2, h4⟩, hx⟩
    rw [loopL_eq]
    simp only [ref04_Apply.b0, hd, n_bind, n_map, getL_0, getL_1, getL_2, getL_3, getL_4, getL_5, getL_6, getL_7, getL_8, getL_9, getL_10, getL_11, getL_12, condV_t, condV_f, guardV_tt, guardV_ff, guardV_tf, guardV_ft, guardV_u, apick_t, apick_f, exV_exit, exV_ret, lookE_same, joinK_eq, seqA_n, seqA_e, seqA_r, e_add, e_sub, e_mul, e_eql, e_neq, e_lss, e_leq, e_gtr, e_geq, e_conv, e_not, e_neg, and_guard, or_guard]
  | cons o rest ih =>
    intro i s mv out q hi hle hx h1 h2 h3 h4
    obtain ⟨hlt, he, hd⟩ := drop_get hi
    have hdc : decide ((i : Int) < ((l.length : Nat) : Int)) = true := by simp; omega
    obtain ⟨p, a1, a2⟩ := list_at (list_ext hx h) hlt (k := .i64) (n := 6) rfl
    rw [op_enc, he] at a2
    have ho : ckO o = 0 := allE_mem hall o (he ▸ List.getElem_mem hlt)
    have htk : l.take (i + 1) = l.take i ++ [o] := by rw [List.take_add_one, List.getElem?_eq_getElem hlt, he]; rfl
    have hlm : (apM m0 (l.take i)).length ≤ 6300000000000 := by
      have := len_ap (l := l.take i) (m := m0)
      rw [List.length_take] at this
      omega
    have hval : Val (apM m0 (l.take i)) := by
      refine val_ap hv ?_
      have : ∀ {a b : List OpT}, allE (a ++ b) = 0 → allE a = 0 := by
        intro a
        induction a with
        | nil => intro _ _; rfl
        | cons y a ih =>
          intro b hb
          obtain ⟨c1, c2⟩ := allE_cons0 (l := a ++ b) hb
          rw [allE_cons, if_pos c1]
          exact ih c2
      exact this (b := l.drop i) (by rw [List.take_append_drop]; exact hall)
    obtain ⟨mv2, pv, t, b2, b3, b4, b5⟩ := rdo_run H.H h1 hx.1 hlm hval o ho
    have hk : Keep none s t := b5.keep
    have ho2 : Own s0.heap.length 3 t out (encR q) := h2.keep hk fun c hc => by simp
    have hpl : isLeaf pv = true ∧ cellsV pv = [pv] := by rcases b4 with ⟨rfl, _⟩ | ⟨b, cap, rfl, _⟩ <;> exact ⟨rfl, rfl⟩
    have hql : q.length = i := by
      have := congrArg List.length h3
      rw [List.length_map, apR_len, List.length_take] at this
      omega
    obtain ⟨r, c1, out2, t2, c2, c3, c4, c5⟩ := own_addK (w := 48) (z := [(.bool false), (.string ⟨#[]⟩), (.slice none 0 0)]) (v := tellV (doR (apM m0 (l.take i)) o).1 (doR (apM m0 (l.take i)) o).2.1 pv) ho2 (Nat.le_trans hx.1 b5.1) (by decide) (by decide) (by decide) rfl rfl rfl (by
      show ([_, _, pv] : List Value).all isLeaf = true
      simp only [List.all_cons, hpl.1, List.all_nil, Bool.and_true]
      rfl) (by rw [encR_len]; omega)
    have hx3 : Ext s0.heap.length t t2 := c4.ext (Nat.le_trans hx.1 b5.1) fun c hc => (ho2.blk c hc).1
    have hx4 := hx.trans ((b5.less hx.1).trans hx3)
    have hm2 : Own s0.heap.length 2 t2 mv2 (encL prC (apM m0 (l.take (i + 1)))) := by
      rw [htk, apM_snoc]
      exact b3.keep c4 fun c hc => own_apart (Own.toC (C := prC) b3) ho2 (by decide) c hc
    have hq2 : ∀ x ∈ q ++ [((doR (apM m0 (l.take i)) o), pv)], OwnC prC s0.heap.length t2 x.2 x.1.2.2 := by
      intro x hxq
      rcases List.mem_append.1 hxq with hxq | hxq
      · have g1 := (h4 x hxq).keep hk fun c hc => by simp
        exact g1.keep c4 fun c hc => own_apart g1 ho2 (by decide) c hc
      · rcases List.mem_singleton.1 hxq with rfl
        have g1 := (Own.toC (C := prC) b4).mono hx.1
        exact g1.keep c4 fun c hc => own_apart g1 ho2 (by decide) c hc
    have hout : Own s0.heap.length 3 t2 out2 (encR (q ++ [((doR (apM m0 (l.take i)) o), pv)])) := by
      rw [encR_app]
      exact c3
    obtain ⟨mv3, out3, t3, d1, d2, d3, d4⟩ := ih (i + 1) t2 mv2 out2 (q ++ [((doR (apM m0 (l.take i)) o), pv)]) hd (by omega) hx4 hm2 hout (by
      rw [htk, apR_snoc, List.map_append, h3]
      rfl) hq2
    refine ⟨mv3, out3, t3, ?_, d2, d3, d4⟩
    rw [← d1, loopL_eq]
    simp only [ref04_Apply.b0, hdc, a1, a2, o_st, o_all, ref04_Do_call, H.dd _ _ _ _ b2, x_t0 b3.notup, x_t1, res_00, res_st _ _ pv hpl.1, res_ld, c1, c2, inc_i64 (show i < 140737488355328 by omega), n_bind, n_map, getL_0, getL_1, getL_2, getL_3, getL_4, getL_5, getL_6, getL_7, getL_8, getL_9, getL_10, getL_11, getL_12, condV_t, condV_f, guardV_tt, guardV_ff, guardV_tf, guardV_ft, guardV_u, apick_t, apick_f, exV_exit, exV_ret, lookE_same, joinK_eq, seqA_n, seqA_e, seqA_r, e_add, e_sub, e_mul, e_eql, e_neq, e_lss, e_leq, e_gtr, e_geq, e_conv, e_not, e_neg, and_guard, or_guard]
theorem refApply_run {R : Caller} (H : RefA R) {v w : Value} {s : St} {m : List Rg} {l : List OpT} (hm : listOf prC v s = some m) (h : listOf opC w s = some l) (hml : m.length ≤ 4400000000000) (hl : l.length ≤ 1759218604391) :
    if apE m l = 0 then ∃ a r t, ref04_Apply R v w s = some (.tuple #[a, r, .int .i64 0], t) ∧ Own s.heap.length 2 t a (encL prC (apM m l)) ∧ Rdy s.heap.length t r (apR m l) ∧ Ext s.heap.length s t
    else ref04_Apply R v w s = some (.tuple #[.slice none 0 0, .slice none 0 0, .int .i64 (apE m l)], s) := by
  unfold apE ref04_Apply
  have z0 : ((0 : Int) != 0) = false := rfl
  by_cases h1 : mapE [] m = 0
  · rw [if_pos h1]
    by_cases h2 : allE l = 0
    · rw [if_pos h2]
      have hap : ∃ v' t, aappend 2 32 (.slice none 0 0) v s = some (v', t) ∧ Own s.heap.length 2 t v' (encL prC m) ∧ Ext s.heap.length s t := by
        have he : elemsOf 2 v s = some (encL prC m) := list_elems hm
        obtain ⟨v', t, g1, g2, g3⟩ := own_appendR (N := s.heap.length) (n := 2) (w := 32) (x := .slice none 0 0) (cells := []) (.nil _ _ _) (Nat.le_refl _) (by decide) (by decide) (list_lenV hm) he (encL_len prC m) (fun q hq => by
          rw [encL_len, List.length_nil, Nat.zero_add] at hq
          have : q = m.length := Nat.eq_of_mul_eq_mul_right (show 0 < 2 by decide) hq
          exact room32 (by omega))
        exact ⟨v', t, g1, g2, g3⟩
      obtain ⟨mv, t, g1, g2, g3⟩ := hap
      obtain ⟨mv2, out, u, k1, k2, k3, k4⟩ := refApply_loop H (s0 := s) h hl hml (val_mapE.1 h1) h2 l 0 t mv (.slice none 0 0) [] rfl (Nat.zero_le _) g3 g2 (.nil _ _ _) rfl (fun x hx => by cases hx)
      rw [show ((0 : Nat) : Int) = 0 from rfl] at k1
      refine ⟨mv2, out, u, ?_, k2, k3, k4⟩
      obtain ⟨q, _, k5, _⟩ := k3
      simp only [ref04_CheckMap_call, H.hM, mapE_eq hm (show m.length < 140737488355328 by omega), h1, z0, ref04_All_call, H.hL, allE_eq h (show l.length < 140737488355328 by omega), h2, g1, list_len h, k1, n_bind, n_map, getL_0, getL_1, getL_2, getL_3, getL_4, getL_5, getL_6, getL_7, getL_8, getL_9, getL_10, getL_11, getL_12, condV_t, condV_f, guardV_tt, guardV_ff, guardV_tf, guardV_ft, guardV_u, apick_t, apick_f, exV_exit, exV_ret, lookE_same, joinK_eq, seqA_n, seqA_e, seqA_r, e_add, e_sub, e_mul, e_eql, e_neq, e_lss, e_leq, e_gtr, e_geq, e_conv, e_not, e_neg, and_guard, or_guard, retV, List.all_cons, k2.notup, k5.notup]
      rfl
    · rw [if_neg h2]
      have h5 : (allE l != 0) = true := by simp [h2]
      simp only [ref04_CheckMap_call, H.hM, mapE_eq hm (show m.length < 140737488355328 by omega), h1, z0, ref04_All_call, H.hL, allE_eq h (show l.length < 140737488355328 by omega), h5, n_bind, n_map, getL_0, getL_1, getL_2, getL_3, getL_4, getL_5, getL_6, getL_7, getL_8, getL_9, getL_10, getL_11, getL_12, condV_t, condV_f, guardV_tt, guardV_ff, guardV_tf, guardV_ft, guardV_u, apick_t, apick_f, exV_exit, exV_ret, lookE_same, joinK_eq, seqA_n, seqA_e, seqA_r, e_add, e_sub, e_mul, e_eql, e_neq, e_lss, e_leq, e_gtr, e_geq, e_conv, e_not, e_neg, and_guard, or_guard, retV]
      rfl
  · rw [if_neg h1, if_neg h1]
    have h5 : (mapE [] m != 0) = true := by simp [h1]
    simp only [ref04_CheckMap_call, H.hM, mapE_eq hm (show m.length < 140737488355328 by omega), h5, n_bind, n_map, getL_0, getL_1, getL_2, getL_3, getL_4, getL_5, getL_6, getL_7, getL_8, getL_9, getL_10, getL_11, getL_12, condV_t, condV_f, guardV_tt, guardV_ff, guardV_tf, guardV_ft, guardV_u, apick_t, apick_f, exV_exit, exV_ret, lookE_same, joinK_eq, seqA_n, seqA_e, seqA_r, e_add, e_sub, e_mul, e_eql, e_neq, e_lss, e_leq, e_gtr, e_geq, e_conv, e_not, e_neg, and_guard, or_guard, retV]
    rfl

/-! ### Whether two are the same -/
/-- what was told, somewhere -/
def RdyL (s : St) (v : Value) (l : List Rs) : Prop := ∃ q, q.map (·.1) = l ∧ cellsOf 3 v s = some (encR q) ∧ ∀ x ∈ q, listOf prC x.2 s = some x.1.2.2
theorem Rdy.toL {N : Nat} {s : St} {v : Value} {l : List Rs} (h : Rdy N s v l) : RdyL s v l := by
  obtain ⟨q, h1, h2, h3⟩ := h
  exact ⟨q, h1, h2.cells, fun x hx => (h3 x hx).list⟩
theorem RdyL.ext {s t : St} {v : Value} {l : List Rs} (h : RdyL s v l) (hx : Ext s.heap.length s t) : RdyL t v l := by
  obtain ⟨q, h1, h2, h3⟩ := h
  exact ⟨q, h1, hx.cells h2, fun x hxq => list_ext hx (h3 x hxq)⟩
theorem cells_alen {s s2 : St} {v : Value} {q : List (Rs × Value)} (h : cellsOf 3 v s = some (encR q)) {e : TypeId} : alenV (.slice e) v s2 = some (.int .i64 ((q.length : Nat) : Int)) := by
  obtain ⟨a, len, cap, rfl, h2⟩ := cellsOf_len h
  rw [encR_len] at h2
  have : len = q.length := by omega
  subst this
  rfl
theorem sameR_loop {R : Caller} (hS : ∀ v w s a b, listOf prC v s = some a → listOf prC w s = some b → a.length < 140737488355328 → R 13 [v, w] s = some (.bool (decide (a = b)), s)) {v w : Value} {s : St} {a b : List (Rs × Value)} (ha : cellsOf 3 v s = some (encR a)) (hb : cellsOf 3 w s = some (encR b)) (ga : ∀ x ∈ a, listOf prC x.2 s = some x.1.2.2 ∧ x.1.2.2.length < 140737488355328) (gb : ∀ x ∈ b, listOf prC x.2 s = some x.1.2.2) (hab : a.length = b.length) (hl : a.length < 140737488355328) : ∀ (ra rb : List (Rs × Value)) (i : Nat), a.drop i = ra → b.drop i = rb → i ≤ a.length →
    loopL (ref04_SameResults.b0 R) [v, w, .int .i64 ((a.length : Nat) : Int), .int .i64 (i : Int)] s = some (if ra.map (·.1) = rb.map (·.1) then (.exit 0, [], s) else (.ret, [.bool false], s)) := by
  intro ra
  induction ra with
  | nil =>
    intro rb i h1 h2 hle
    have hge := List.drop_eq_nil_iff.1 h1
    have hrb : rb = [] := by rw [← h2]; exact List.drop_eq_nil_of_le (by omega)
    have hd : decide ((i : Int) < ((a.length : Nat) : Int)) = false := by simp; omega
    rw [hrb, if_pos rfl, loopL_eq]
    simp only [ref04_SameResults.b0, hd, n_bind, n_map, getL_0, getL_1, getL_2, getL_3, getL_4, getL_5, getL_6, getL_7, getL_8, getL_9, getL_10, getL_11, getL_12, condV_t, condV_f, guardV_tt, guardV_ff, guardV_tf, guardV_ft, guardV_u, apick_t, apick_f, exV_exit, exV_ret, lookE_same, joinK_eq, seqA_n, seqA_e, seqA_r, e_add, e_sub, e_mul, e_eql, e_neq, e_lss, e_leq, e_gtr, e_geq, e_conv, e_not, e_neg, and_guard, or_guard]
  | cons p ra ih =>
    intro rb i h1 h2 hle
    obtain ⟨hlt, he, hd⟩ := drop_get h1
    have hdc : decide ((i : Int) < ((a.length : Nat) : Int)) = true := by simp; omega
    cases rb with
    | nil =>
      have := List.drop_eq_nil_iff.1 h2
      omega
    | cons q rb =>
      obtain ⟨hlt2, he2, hd2⟩ := drop_get h2
      have ha' : cellsOf 3 v (frzS s) = some (encR a) := by rw [cellsOf_frz]; exact ha
      have hb' : cellsOf 3 w (frzS s) = some (encR b) := by rw [cellsOf_frz]; exact hb
      obtain ⟨x0, x1, x2⟩ := encR_get a i hlt
      obtain ⟨y0, y1, y2⟩ := encR_get b i hlt2
      rw [he] at x0 x1 x2
      rw [he2] at y0 y1 y2
      have la : i * 3 + 3 ≤ (encR a).length := by rw [encR_len]; omega
      have lb : i * 3 + 3 ≤ (encR b).length := by rw [encR_len]; omega
      obtain ⟨p1, a1, p2, a2, a3⟩ := cells_field ha' (j := 0) (by decide) la x0 (k := .i64)
      obtain ⟨p1', a1', p3, a4, a5⟩ := cells_field ha' (j := 1) (by decide) la x1 (k := .i64)
      obtain ⟨p1'', a1'', p4, a6, a7⟩ := cells_field ha' (j := 2) (by decide) la x2 (k := .i64)
      obtain ⟨q1, b1, q2, b2, b3⟩ := cells_field hb' (j := 0) (by decide) lb y0 (k := .i64)
      obtain ⟨q1', b1', q3, b4, b5⟩ := cells_field hb' (j := 1) (by decide) lb y1 (k := .i64)
      obtain ⟨q1'', b1'', q4, b6, b7⟩ := cells_field hb' (j := 2) (by decide) lb y2 (k := .i64)
      rw [a1] at a1' a1''
      cases a1'; cases a1''
      rw [b1] at b1' b1''
      cases b1'; cases b1''
      have gp := ga p (he ▸ List.getElem_mem hlt)
      have gq := gb q (he2 ▸ List.getElem_mem hlt2)
      have hsm := hS p.2 q.2 s p.1.2.2 q.1.2.2 gp.1 gq gp.2
      have key := ih rb (i + 1) hd hd2 (by omega)
      rw [loopL_eq]
      simp only [ref04_SameResults.b0, hdc, a1, a2, a3, b1, b2, b3, ne_bool, n_bind, n_map, getL_0, getL_1, getL_2, getL_3, getL_4, getL_5, getL_6, getL_7, getL_8, getL_9, getL_10, getL_11, getL_12, condV_t, condV_f, guardV_tt, guardV_ff, guardV_tf, guardV_ft, guardV_u, apick_t, apick_f, exV_exit, exV_ret, lookE_same, joinK_eq, seqA_n, seqA_e, seqA_r, e_add, e_sub, e_mul, e_eql, e_neq, e_lss, e_leq, e_gtr, e_geq, e_conv, e_not, e_neg, and_guard, or_guard]
      have hcons : ((p :: ra).map (·.1) = (q :: rb).map (·.1)) ↔ (p.1.1 = q.1.1 ∧ p.1.2.1 = q.1.2.1 ∧ p.1.2.2 = q.1.2.2 ∧ ra.map (·.1) = rb.map (·.1)) := by
        simp only [List.map_cons, List.cons.injEq, Prod.ext_iff, and_assoc]
      cases e1 : (p.1.1 != q.1.1)
      · simp only [a1, a4, a5, b1, b4, b5, e_sneq, n_bind, n_map, getL_0, getL_1, getL_2, getL_3, getL_4, getL_5, getL_6, getL_7, getL_8, getL_9, getL_10, getL_11, getL_12, condV_t, condV_f, guardV_tt, guardV_ff, guardV_tf, guardV_ft, guardV_u, apick_t, apick_f, exV_exit, exV_ret, lookE_same, joinK_eq, seqA_n, seqA_e, seqA_r, e_add, e_sub, e_mul, e_eql, e_neq, e_lss, e_leq, e_gtr, e_geq, e_conv, e_not, e_neg, and_guard, or_guard]
        have f1 : p.1.1 = q.1.1 := by simpa using e1
        cases e2 : (!(p.1.2.1 == q.1.2.1))
        · have f2 : p.1.2.1 = q.1.2.1 := by simpa using e2
          simp only [a1, a6, a7, b1, b6, b7, ref04_SameMap_call, hsm, own_id, n_bind, n_map, getL_0, getL_1, getL_2, getL_3, getL_4, getL_5, getL_6, getL_7, getL_8, getL_9, getL_10, getL_11, getL_12, condV_t, condV_f, guardV_tt, guardV_ff, guardV_tf, guardV_ft, guardV_u, apick_t, apick_f, exV_exit, exV_ret, lookE_same, joinK_eq, seqA_n, seqA_e, seqA_r, e_add, e_sub, e_mul, e_eql, e_neq, e_lss, e_leq, e_gtr, e_geq, e_conv, e_not, e_neg, and_guard, or_guard]
          by_cases e3 : p.1.2.2 = q.1.2.2
          · have e4 : (!decide (p.1.2.2 = q.1.2.2)) = false := by simp [e3]
            simp only [e4, inc_i64 (show i < 140737488355328 by omega), n_bind, n_map, getL_0, getL_1, getL_2, getL_3, getL_4, getL_5, getL_6, getL_7, getL_8, getL_9, getL_10, getL_11, getL_12, condV_t, condV_f, guardV_tt, guardV_ff, guardV_tf, guardV_ft, guardV_u, apick_t, apick_f, exV_exit, exV_ret, lookE_same, joinK_eq, seqA_n, seqA_e, seqA_r, e_add, e_sub, e_mul, e_eql, e_neq, e_lss, e_leq, e_gtr, e_geq, e_conv, e_not, e_neg, and_guard, or_guard]
            rw [key]
            by_cases c : ra.map (·.1) = rb.map (·.1)
            · rw [if_pos c, if_pos (hcons.2 ⟨f1, f2, e3, c⟩)]
            · rw [if_neg c, if_neg fun h => c (hcons.1 h).2.2.2]
          · have e4 : (!decide (p.1.2.2 = q.1.2.2)) = true := by simp [e3]
            simp only [e4, n_bind, n_map, getL_0, getL_1, getL_2, getL_3, getL_4, getL_5, getL_6, getL_7, getL_8, getL_9, getL_10, getL_11, getL_12, condV_t, condV_f, guardV_tt, guardV_ff, guardV_tf, guardV_ft, guardV_u, apick_t, apick_f, exV_exit, exV_ret, lookE_same, joinK_eq, seqA_n, seqA_e, seqA_r, e_add, e_sub, e_mul, e_eql, e_neq, e_lss, e_leq, e_gtr, e_geq, e_conv, e_not, e_neg, and_guard, or_guard]
            rw [if_neg fun c => e3 (hcons.1 c).2.2.1]
        · have f2 : ¬ p.1.2.1 = q.1.2.1 := by simpa using e2
          simp only [own_id, n_bind, n_map, getL_0, getL_1, getL_2, getL_3, getL_4, getL_5, getL_6, getL_7, getL_8, getL_9, getL_10, getL_11, getL_12, condV_t, condV_f, guardV_tt, guardV_ff, guardV_tf, guardV_ft, guardV_u, apick_t, apick_f, exV_exit, exV_ret, lookE_same, joinK_eq, seqA_n, seqA_e, seqA_r, e_add, e_sub, e_mul, e_eql, e_neq, e_lss, e_leq, e_gtr, e_geq, e_conv, e_not, e_neg, and_guard, or_guard]
          rw [if_neg fun c => f2 (hcons.1 c).2.1]
      · have f1 : ¬ p.1.1 = q.1.1 := by simpa using e1
        simp only [own_id, n_bind, n_map, getL_0, getL_1, getL_2, getL_3, getL_4, getL_5, getL_6, getL_7, getL_8, getL_9, getL_10, getL_11, getL_12, condV_t, condV_f, guardV_tt, guardV_ff, guardV_tf, guardV_ft, guardV_u, apick_t, apick_f, exV_exit, exV_ret, lookE_same, joinK_eq, seqA_n, seqA_e, seqA_r, e_add, e_sub, e_mul, e_eql, e_neq, e_lss, e_leq, e_gtr, e_geq, e_conv, e_not, e_neg, and_guard, or_guard]
        rw [if_neg fun c => f1 (hcons.1 c).1]
theorem sameR_run {R : Caller} (hS : ∀ v w s a b, listOf prC v s = some a → listOf prC w s = some b → a.length < 140737488355328 → R 13 [v, w] s = some (.bool (decide (a = b)), s)) {v w : Value} {s : St} {a b : List Rs} (ha : RdyL s v a) (hb : RdyL s w b) (hl : a.length < 140737488355328) (hll : ∀ x ∈ a, x.2.2.length < 140737488355328) : ref04_SameResults R v w s = some (.bool (decide (a = b)), s) := by
  obtain ⟨q, rfl, a2, a3⟩ := ha
  obtain ⟨r, rfl, b2, b3⟩ := hb
  rw [List.length_map] at hl
  unfold ref04_SameResults
  simp only [cells_alen a2, cells_alen b2, n_bind, n_map, getL_0, getL_1, getL_2, getL_3, getL_4, getL_5, getL_6, getL_7, getL_8, getL_9, getL_10, getL_11, getL_12, condV_t, condV_f, guardV_tt, guardV_ff, guardV_tf, guardV_ft, guardV_u, apick_t, apick_f, exV_exit, exV_ret, lookE_same, joinK_eq, seqA_n, seqA_e, seqA_r, e_add, e_sub, e_mul, e_eql, e_neq, e_lss, e_leq, e_gtr, e_geq, e_conv, e_not, e_neg, and_guard, or_guard]
  by_cases e : q.length = r.length
  · have h1 := sameR_loop (R := R) hS a2 b2 (fun x hx => ⟨a3 x hx, hll x.1 (List.mem_map_of_mem hx)⟩) b3 e hl q r 0 rfl rfl (Nat.zero_le _)
    rw [show ((0 : Nat) : Int) = 0 from rfl] at h1
    have e1 : (((q.length : Nat) : Int) != ((r.length : Nat) : Int)) = false := by simp [e]
    simp only [e1, h1, n_bind, n_map, getL_0, getL_1, getL_2, getL_3, getL_4, getL_5, getL_6, getL_7, getL_8, getL_9, getL_10, getL_11, getL_12, condV_t, condV_f, guardV_tt, guardV_ff, guardV_tf, guardV_ft, guardV_u, apick_t, apick_f, exV_exit, exV_ret, lookE_same, joinK_eq, seqA_n, seqA_e, seqA_r, e_add, e_sub, e_mul, e_eql, e_neq, e_lss, e_leq, e_gtr, e_geq, e_conv, e_not, e_neg, and_guard, or_guard]
    by_cases c : q.map (·.1) = r.map (·.1)
    · rw [if_pos c]
      simp only [c, n_bind, n_map, getL_0, getL_1, getL_2, getL_3, getL_4, getL_5, getL_6, getL_7, getL_8, getL_9, getL_10, getL_11, getL_12, condV_t, condV_f, guardV_tt, guardV_ff, guardV_tf, guardV_ft, guardV_u, apick_t, apick_f, exV_exit, exV_ret, lookE_same, joinK_eq, seqA_n, seqA_e, seqA_r, e_add, e_sub, e_mul, e_eql, e_neq, e_lss, e_leq, e_gtr, e_geq, e_conv, e_not, e_neg, and_guard, or_guard, retV]
      rfl
    · rw [if_neg c]
      simp only [c, n_bind, n_map, getL_0, getL_1, getL_2, getL_3, getL_4, getL_5, getL_6, getL_7, getL_8, getL_9, getL_10, getL_11, getL_12, condV_t, condV_f, guardV_tt, guardV_ff, guardV_tf, guardV_ft, guardV_u, apick_t, apick_f, exV_exit, exV_ret, lookE_same, joinK_eq, seqA_n, seqA_e, seqA_r, e_add, e_sub, e_mul, e_eql, e_neq, e_lss, e_leq, e_gtr, e_geq, e_conv, e_not, e_neg, and_guard, or_guard, retV]
      rfl
  · have e1 : (((q.length : Nat) : Int) != ((r.length : Nat) : Int)) = true := by simp; omega
    have e2 : ¬ q.map (·.1) = r.map (·.1) := fun h => e (by have := congrArg List.length h; simpa using this)
    simp only [e1, e2, n_bind, n_map, getL_0, getL_1, getL_2, getL_3, getL_4, getL_5, getL_6, getL_7, getL_8, getL_9, getL_10, getL_11, getL_12, condV_t, condV_f, guardV_tt, guardV_ff, guardV_tf, guardV_ft, guardV_u, apick_t, apick_f, exV_exit, exV_ret, lookE_same, joinK_eq, seqA_n, seqA_e, seqA_r, e_add, e_sub, e_mul, e_eql, e_neq, e_lss, e_leq, e_gtr, e_geq, e_conv, e_not, e_neg, and_guard, or_guard, retV]
    rfl

end Go.Proofs.Ytccindbiodofmaa.Ab

/- Operations on a map: what is known, level by level. -/
namespace Go.Proofs.Ytccindbiodofmaa.Ab
open Go

def gPt : Sum := gP (G1K fun k => ptV (ptL k))
theorem pt_eq {k : BL} {s : St} : gPt [sv k] s = some (ptV (ptL k), s) := rfl
def gOf : Sum := gP (G1O fun o => rv (o.lo, o.hi))
def gCkO : Sum := gP (G1O fun o => .int .i64 (ckO o))
def gWr : Sum := gP (G1O fun o => .bool (wrt o.kind))
def gSp : Sum := gP (G1O fun o => ptV (spL o))
def gAt1 : Sum := gP (G2RK fun p k => .int .i64 (cmpL p.1 k))
theorem of_eq {o : OpT} {s : St} : gOf [oV o] s = some (rv (o.lo, o.hi), s) := rfl
theorem ckO_eq {o : OpT} {s : St} : gCkO [oV o] s = some (.int .i64 (ckO o), s) := rfl
theorem cmpS_eq {a b : BL} {s : St} : gCmp [sv a, sv b] s = some (.int .i64 (cmpL a b), s) := rfl
theorem at1_eq {p : Rg} {k : BL} {s : St} : gAt1 [rv p, sv k] s = some (.int .i64 (cmpL p.1 k), s) := rfl
def lib0 : List (FuncId × Sum) := []
theorem lib0_ok : LibOk Try.prog (libL lib0) := libOk_nil _
noncomputable def lib1 : List (FuncId × Sum) := (52, gKey) :: lib0
theorem lib1_ok : LibOk Try.prog (libL lib1) := libOk_cons progOk lib0_ok span_CheckKey_ok (sum1K fun k s => ⟨rfl, s, span_CheckKey_of rfl (CheckKey_run k s)⟩)
noncomputable def lib2 : List (FuncId × Sum) := (39, gKey) :: lib1
theorem lib2_ok : LibOk Try.prog (libL lib2) := libOk_cons progOk lib1_ok ref02_CheckKey_ok (sum1K fun k s => ⟨rfl, s, ref02_CheckKey_of rfl (refCheckKey_run k s)⟩)
noncomputable def lib3 : List (FuncId × Sum) := (67, gAll) :: lib2
theorem lib3_ok : LibOk Try.prog (libL lib3) := libOk_cons progOk lib2_ok span_all_ok (sum0 fun s => ⟨rfl, s, span_all_of rfl (all_run s)⟩)
noncomputable def lib4 : List (FuncId × Sum) := (25, gChk) :: lib3
theorem lib4_ok : LibOk Try.prog (libL lib4) := libOk_cons progOk lib3_ok ref02_Check_ok (sum1R fun r s => ⟨rfl, s, ref02_Check_of rfl (refCheck_run r s)⟩)
noncomputable def lib5 : List (FuncId × Sum) := (62, gChk) :: lib4
theorem lib5_ok : LibOk Try.prog (libL lib5) := libOk_cons progOk lib4_ok span_Check_ok (sum1R fun r s => ⟨rfl, s, span_Check_of rfl (Check_run (fun s => (known (g := gAll) rfl).trans all_eq) r s)⟩)
noncomputable def lib6 : List (FuncId × Sum) := (59, gHas) :: lib5
theorem lib6_ok : LibOk Try.prog (libL lib6) := libOk_cons progOk lib5_ok ref02_Has_ok (sum2RK fun r k s => ⟨rfl, s, ref02_Has_of rfl (refHas_run (fun r s => (known (g := gChk) rfl).trans chk_eq) (fun k s => (known (g := gKey) rfl).trans key_eq) r k s)⟩)
noncomputable def lib7 : List (FuncId × Sum) := (33, gPt) :: lib6
theorem lib7_ok : LibOk Try.prog (libL lib7) := libOk_cons progOk lib6_ok ref02_Point_ok (sum1K fun k s => let ⟨t, h⟩ := refPoint_run (fun k s => (known (g := gKey) rfl).trans key_eq) k s; ⟨rfl, t, ref02_Point_of rfl h⟩)
noncomputable def lib8 : List (FuncId × Sum) := (44, gForms) :: lib7
theorem lib8_ok : LibOk Try.prog (libL lib8) := libOk_cons progOk lib7_ok op_forms_ok (sum0 fun s => ⟨rfl, s, op_forms_of rfl (forms_run s)⟩)
noncomputable def lib9 : List (FuncId × Sum) := (60, gFm) :: lib8
theorem lib9_ok : LibOk Try.prog (libL lib9) := libOk_cons progOk lib8_ok op_formOf_ok (sum1I fun k s => ⟨form_plain k, s, op_formOf_of rfl (formOf_run (fun s => (known (g := gForms) rfl).trans forms_eq) k s)⟩)
noncomputable def lib10 : List (FuncId × Sum) := (61, gOf) :: lib9
theorem lib10_ok : LibOk Try.prog (libL lib10) := libOk_cons progOk lib9_ok op_of_ok (sum1O fun o s => ⟨rfl, s, op_of_of rfl (of_run o s)⟩)
noncomputable def lib11 : List (FuncId × Sum) := (53, gCkO) :: lib10
theorem lib11_ok : LibOk Try.prog (libL lib11) := libOk_cons progOk lib10_ok op_CheckOp_ok (sum1O fun o s => ⟨rfl, s, op_CheckOp_of rfl (CheckOp_run (fun k s => (known (g := gFm) rfl).trans fm_eq) (fun o s => (known (g := gOf) rfl).trans of_eq) (fun r s => (known (g := gChk) rfl).trans chk_eq) (fun k s => (known (g := gKey) rfl).trans key_eq) o s)⟩)
noncomputable def lib12 : List (FuncId × Sum) := (32, gCkO) :: lib11
theorem lib12_ok : LibOk Try.prog (libL lib12) := libOk_cons progOk lib11_ok ref04_CheckOp_ok (sum1O fun o s => ⟨rfl, s, ref04_CheckOp_of rfl (refCheckOp_run (fun r s => (known (g := gChk) rfl).trans chk_eq) (fun k s => (known (g := gKey) rfl).trans key_eq) o s)⟩)
noncomputable def lib13 : List (FuncId × Sum) := (24, gWr) :: lib12
theorem lib13_ok : LibOk Try.prog (libL lib13) := libOk_cons progOk lib12_ok ref04_Writes_ok (sum1O fun o s => ⟨rfl, s, ref04_Writes_of rfl (refWrites_run o s)⟩)
noncomputable def lib14 : List (FuncId × Sum) := (23, gSp) :: lib13
theorem lib14_ok : LibOk Try.prog (libL lib14) := libOk_cons progOk lib13_ok ref04_Span_ok (sum1O fun o s => ⟨rfl, s, ref04_Span_of rfl (refSpan_run (fun o s => (known (g := gCkO) rfl).trans ckO_eq) (fun k s => (known (g := gPt) rfl).trans pt_eq) o s)⟩)
noncomputable def lib15 : List (FuncId × Sum) := (42, gAllE) :: lib14
theorem lib15_ok : LibOk Try.prog (libL lib15) := libOk_cons progOk lib14_ok op_all_ok (gL_sum (fun _ => rfl) fun v s l h hl => ⟨s, op_all_of rfl (all_run' (fun o s => (known (g := gCkO) rfl).trans ckO_eq) h hl)⟩)
noncomputable def lib16 : List (FuncId × Sum) := (22, gAllE) :: lib15
theorem lib16_ok : LibOk Try.prog (libL lib16) := libOk_cons progOk lib15_ok ref04_All_ok (gL_sum (fun _ => rfl) fun v s l h hl => ⟨s, ref04_All_of rfl (refAll_run (fun o s => (known (g := gCkO) rfl).trans ckO_eq) h hl)⟩)
noncomputable def lib17 : List (FuncId × Sum) := (40, gChkE) :: lib16
theorem lib17_ok : LibOk Try.prog (libL lib17) := libOk_cons progOk lib16_ok op_Check_ok (gL_sum (fun _ => rfl) fun v s l h hl => ⟨s, op_Check_of rfl (chk_run (fun xs s => known (g := gAllE) rfl) h hl)⟩)
noncomputable def lib18 : List (FuncId × Sum) := (14, gChkE) :: lib17
theorem lib18_ok : LibOk Try.prog (libL lib18) := libOk_cons progOk lib17_ok ref04_Check_ok (gL_sum (fun _ => rfl) fun v s l h hl => ⟨s, ref04_Check_of rfl (refChk_run (fun xs s => known (g := gAllE) rfl) h hl)⟩)
noncomputable def lib19 : List (FuncId × Sum) := (41, gMapE) :: lib18
theorem lib19_ok : LibOk Try.prog (libL lib19) := libOk_cons progOk lib18_ok op_CheckMap_ok (gL_sum (fun _ => rfl) fun v s l h hl => ⟨s, op_CheckMap_of rfl (map_run (fun k s => (known (g := gKey) rfl).trans key_eq) h hl)⟩)
noncomputable def lib20 : List (FuncId × Sum) := (37, gMapE) :: lib19
theorem lib20_ok : LibOk Try.prog (libL lib20) := libOk_cons progOk lib19_ok ref04_CheckMap_ok (gL_sum (fun _ => rfl) fun v s l h hl => ⟨s, ref04_CheckMap_of rfl (refMap_run (fun k s => (known (g := gKey) rfl).trans key_eq) h hl)⟩)
noncomputable def lib21 : List (FuncId × Sum) := (73, gCmp) :: lib20
theorem lib21_ok : LibOk Try.prog (libL lib21) := libOk_direct progOk lib20_ok internal_bytealg_CompareString_ok (fun hl => cmp_known hl)
noncomputable def lib22 : List (FuncId × Sum) := (70, gCmp) :: lib21
theorem lib22_ok : LibOk Try.prog (libL lib22) := libOk_cons progOk lib21_ok strings_Compare_ok (sum2KK fun a b s => ⟨rfl, s, strings_Compare_of rfl (Compare_run (fun a b s => (known (g := gCmp) rfl).trans cmpS_eq) a b s)⟩)
noncomputable def lib23 : List (FuncId × Sum) := (69, gAt1) :: lib22
theorem lib23_ok : LibOk Try.prog (libL lib23) := libOk_cons progOk lib22_ok op_at_1_ok (sum2RK fun p k s => ⟨rfl, s, op_at_1_of rfl (at1_run (fun a b s => (known (g := gCmp) rfl).trans cmpS_eq) p k s)⟩)
noncomputable def lib24 : List (FuncId × Sum) := (63, gAt) :: lib23
theorem lib24_ok : LibOk Try.prog (libL lib24) := libOk_cons progOk lib23_ok op_at_ok (at_sum fun v s m k h hl hs => op_at_of rfl (op_at_run (fun v s m k h hl hs => slices_BinarySearchFunc_api_Pair_api_Pair_string_of rfl (bs_run (fun p k s => (known (g := gAt1) rfl).trans at1_eq) h hs hl k)) h hl hs k))
noncomputable def lib25 : List (FuncId × Sum) := (66, gEnds) :: lib24
theorem lib25_ok : LibOk Try.prog (libL lib25) := libOk_cons progOk lib24_ok op_ends_ok (ends_sum fun v s m r h hl hs => op_ends_of rfl (ends_run (fun xs s => known (g := gAt) rfl) h hl hs r))
noncomputable def lib26 : List (FuncId × Sum) := (64, gIns) :: lib25
theorem lib26_ok : LibOk Try.prog (libL lib26) := libOk_direct progOk lib25_ok slices_Insert_api_Pair_api_Pair_ok (fun hl => ins_known rfl hl)
noncomputable abbrev libS := lib26
theorem libS_ok : LibOk Try.prog (libL libS) := lib26_ok

theorem k_apply {L : List (FuncId × Sum)} (H : OpH (run Try.prog (libL L) hints)) (hno : libL L 35 = none) {v w : Value} {s : St} {m : List Rg} {l : List OpT} (hm : listOf prC v s = some m) (h : listOf opC w s = some l) (hml : m.length + l.length ≤ 6200000000000) (hl : l.length ≤ 1759218604391) :
    if apE m l = 0 then ∃ a r t, (run Try.prog (libL L) hints) 35 [v, w] s = some (.tuple #[a, r, .int .i64 0], t) ∧ OwnC prC s.heap.length t a (apM m l) ∧ Rdy s.heap.length t r (apR m l) ∧ Ext s.heap.length s t
    else (run Try.prog (libL L) hints) 35 [v, w] s = some (.tuple #[.slice none 0 0, .slice none 0 0, .int .i64 (apE m l)], s) := by
  have h1 := Apply_run H hm h hml hl
  split at h1
  · rename_i c
    rw [if_pos c]
    obtain ⟨a, r, t, g1, g2⟩ := h1
    exact ⟨a, r, t, op_Apply_of hno g1, g2⟩
  · rename_i c
    rw [if_neg c]
    exact op_Apply_of hno h1
theorem k_ref {L : List (FuncId × Sum)} (H : RefA (run Try.prog (libL L) hints)) (hno : libL L 31 = none) {v w : Value} {s : St} {m : List Rg} {l : List OpT} (hm : listOf prC v s = some m) (h : listOf opC w s = some l) (hml : m.length ≤ 4400000000000) (hl : l.length ≤ 1759218604391) :
    if apE m l = 0 then ∃ a r t, (run Try.prog (libL L) hints) 31 [v, w] s = some (.tuple #[a, r, .int .i64 0], t) ∧ Own s.heap.length 2 t a (encL prC (apM m l)) ∧ Rdy s.heap.length t r (apR m l) ∧ Ext s.heap.length s t
    else (run Try.prog (libL L) hints) 31 [v, w] s = some (.tuple #[.slice none 0 0, .slice none 0 0, .int .i64 (apE m l)], s) := by
  have h1 := refApply_run H hm h hml hl
  split at h1
  · rename_i c
    rw [if_pos c]
    obtain ⟨a, r, t, g1, g2⟩ := h1
    exact ⟨a, r, t, ref04_Apply_of hno g1, g2⟩
  · rename_i c
    rw [if_neg c]
    exact ref04_Apply_of hno h1
theorem k_same {L : List (FuncId × Sum)} (hno : libL L 13 = none) {v w : Value} {s : St} {a b : List Rg} (ha : listOf prC v s = some a) (hb : listOf prC w s = some b) (hl : a.length < 140737488355328) : (run Try.prog (libL L) hints) 13 [v, w] s = some (.bool (decide (a = b)), s) := ref04_SameMap_of hno (same_run ha hb hl)
theorem k_sameR {L : List (FuncId × Sum)} (hno : libL L 13 = none) (hno2 : libL L 30 = none) {v w : Value} {s : St} {a b : List Rs} (ha : RdyL s v a) (hb : RdyL s w b) (hl : a.length < 140737488355328) (hll : ∀ x ∈ a, x.2.2.length < 140737488355328) : (run Try.prog (libL L) hints) 30 [v, w] s = some (.bool (decide (a = b)), s) := ref04_SameResults_of hno2 (sameR_run (fun v w s a b ha hb hl => k_same hno ha hb hl) ha hb hl hll)

end Go.Proofs.Ytccindbiodofmaa.Ab

/- A function of no arguments, run by the kernel on an empty heap. -/
namespace Go.Proofs.Ytccindbiodofmaa.Ab
open Go

theorem Sim.empty (w : World) : Sim w.heap.size (fun _ => none) [] w where
  dom b x h := by cases h
  row b n cells st h := by simp at h
  map b es clock h := by simp at h
  excl a b h := by simp [ownB] at h
  size := Nat.le_refl _
  loc b n cells st h := by simp at h

def saysTrue (r : Option (Value × St)) : Bool := match r with
  | some (.bool true, _) => true
  | _ => false
theorem closed_calls {P : Program} {lib : Lib} {hints : Hints} (hprog : progW P = true) (hlib : LibOk P lib) {f : FuncId} (hok : funcOk P f = true) {j : Nat} (h : saysTrue (fnB P lib hints j f [] ⟨[]⟩) = true)
    {s : St} {wb : Nat} {ι : Emb} {w : World} {args' : Array Value} (hs : Sim wb ι s.heap w) (ha : All2 (VRel ι) [] args'.toList) : Calls P f args' w fun e w' => ∃ v', e = .returned v' ∧ After wb ι s.heap w s.heap (.bool true) v' w' := by
  unfold saysTrue at h
  split at h
  case h_2 => cases h
  rename_i t hr
  refine (fnB_sound hprog hlib j f [] ⟨[]⟩ _ _ hr hok w.heap.size (fun _ => none) w args' (Sim.empty w) (by
    obtain ⟨l⟩ := args'
    cases l with
    | nil => trivial
    | cons => exact ha.elim)).mono fun e w' ⟨v', he, κ, h1, h2, h3⟩ => ⟨v', he, ?_⟩
  have hsame : ∀ c, c < w.heap.size → w'.heap[c]? = w.heap[c]? := fun c hc => h2.keep c hc fun a y ha => by simp [ownB] at ha
  refine ⟨ι, hs.later hsame h2.size, ⟨.refl _, fun _ _ => rfl, fun b x hx hb => absurd (hs.dom b x hx) (by omega), fun c hc _ => hsame c hc, h2.size, h2.os, h2.tape, h2.output, Nat.le_refl _, fun _ _ h => h⟩, ?_⟩
  have : v' = .bool true := h3.inv_bool
  subst this
  exact .va (.l2 (.l1 (.l0 (.bool _))))

end Go.Proofs.Ytccindbiodofmaa.Ab

/- The chapter's examples: run by the kernel. -/
namespace Go.Proofs.Ytccindbiodofmaa.Ab
open Go

theorem live_says : saysTrue (fnB Try.prog (libL []) hints 60 8 [] ⟨[]⟩) = true := by kernel_rfl
def gLive : Sum := gP (G0 (.bool true))
theorem live_eq {s : St} : gLive [] s = some (.bool true, s) := rfl
theorem live_known {l : List (FuncId × Sum)} (_ : LibOk Try.prog (libL l)) : ∀ args s v s', gLive args s = some (v, s') → ∀ wb ι w (args' : Array Value), Sim wb ι s.heap w → All2 (VRel ι) args args'.toList → Calls Try.prog 8 args' w fun e w' => ∃ v', e = .returned v' ∧ After wb ι s.heap w s'.heap v v' w' := by
  intro args s v s' h wb ι w args' hs ha
  unfold gLive gP G0 at h
  simp only [Option.map_eq_some_iff] at h
  obtain ⟨u, h, e⟩ := h
  cases e
  split at h
  · cases h
    exact closed_calls progOk (libOk_nil _) law23_live_ok live_says hs ha
  · cases h
end Go.Proofs.Ytccindbiodofmaa.Ab

/- A law's arguments in memory: lists of plain things. -/
namespace Go.Proofs.Ytccindbiodofmaa.Ab
open Go Go.ChangeShapes Go.WideShapes

theorem choose_list {α : Type} {p : Nat → α → Prop} : ∀ n, (∀ i, i < n → ∃ a, p i a) → ∃ l : List α, l.length = n ∧ ∀ (i : Nat) (h : i < l.length), p i l[i]
  | 0, _ => ⟨[], rfl, fun i h => by simp at h⟩
  | n + 1, h => by
    obtain ⟨l, h1, h2⟩ := choose_list n fun i hi => h i (by omega)
    obtain ⟨a, ha⟩ := h n (by omega)
    refine ⟨l ++ [a], by simp [h1], fun i hi => ?_⟩
    by_cases c : i < l.length
    · rw [List.getElem_append_left c]
      exact h2 i c
    · have : i = n := by simp at hi; omega
      subst this
      rw [List.getElem_append_right (by omega)]
      simpa [h1] using ha
theorem add_add (x : Addr) (a b : Nat) : (x.add a).add b = x.add (a + b) := by
  unfold Addr.add
  split <;> split <;> simp_all <;> omega

end Go.Proofs.Ytccindbiodofmaa.Ab

/- A law's arguments that hold others: slices in slices, structs of slices. How each thing lies in cells, and in what these point to; that an argument is such a thing. -/
namespace Go.Proofs.Ytccindbiodofmaa.Ab
open Go Go.ChangeShapes Go.WideShapes

structure NCod (α : Type) where
  n : Nat
  rel : α → St → List Value → Prop
  len : ∀ {a s cs}, rel a s cs → cs.length = n
  ext : ∀ {a s t cs}, rel a s cs → Ext s.heap.length s t → rel a t cs

def ListN {α : Type} (C : NCod α) (B : Nat) (l : List α) (s : St) (v : Value) : Prop :=
  l.length * B ≤ reachBytes ∧ ((v = .slice none 0 0 ∧ l = []) ∨ ∃ (b : Nat) (css : List (List Value)) (st : Stat) (k : Nat), v = .slice (some ⟨b, 0, none⟩) l.length l.length ∧ s.heap[b]? = some (.row k css.flatten st) ∧ st ≠ .dead ∧ All2 (fun a c => C.rel a s c) l css)

namespace NCod
def ofC {α : Type} (C : Cod α) (Pr : α → Prop) : NCod α where
  n := C.n
  rel a s cs := cs = C.enc a ∧ Pr a
  len h := by rw [h.1]; exact C.len _
  ext h _ := h
def list {α : Type} (C : NCod α) (B : Nat) : NCod (List α) where
  n := 1
  rel l s cs := ∃ v, cs = [v] ∧ ListN C B l s v
  len h := by obtain ⟨v, rfl, _⟩ := h; rfl
  ext h hx := by
    obtain ⟨v, rfl, h1, h2⟩ := h
    refine ⟨v, rfl, h1, ?_⟩
    rcases h2 with h2 | ⟨b, css, st, k, g1, g2, g3, g4⟩
    · exact .inl h2
    · exact .inr ⟨b, css, st, k, g1, by rw [hx.2 b (List.getElem?_eq_some_iff.1 g2).1]; exact g2, g3, g4.mono fun a c h => C.ext h hx⟩
def unit : NCod Unit where
  n := 0
  rel _ _ cs := cs = []
  len h := by rw [h]; rfl
  ext h _ := h
def pair {α β : Type} (A : NCod α) (B : NCod β) : NCod (α × β) where
  n := A.n + B.n
  rel p s cs := ∃ c d, cs = c ++ d ∧ A.rel p.1 s c ∧ B.rel p.2 s d
  len h := by obtain ⟨c, d, rfl, h1, h2⟩ := h; rw [List.length_append, A.len h1, B.len h2]
  ext h hx := by obtain ⟨c, d, rfl, h1, h2⟩ := h; exact ⟨c, d, rfl, A.ext h1 hx, B.ext h2 hx⟩
def map {α β : Type} (A : NCod α) (f : β → α) : NCod β where
  n := A.n
  rel b s cs := A.rel (f b) s cs
  len h := A.len h
  ext h hx := A.ext h hx
end NCod

/-! ### Arguments are opened -/
def OpensAt {α : Type} (W : World) (C : NCod α) (cs : List Value) : Prop := ∀ (ι : Emb) (H : List Blk), Sim W.heap.size ι H W → H.all roB = true →
  ∃ (a : α) (K : List Blk) (κ : Emb) (cs' : List Value), ι.le κ ∧ Sim W.heap.size κ (H ++ K) W ∧ (H ++ K).all roB = true ∧ All2 (L2 κ) cs' cs ∧ C.rel a ⟨H ++ K⟩ cs'
def Opens {α : Type} (P : Program) (C : NCod α) (t : TypeId) : Prop := ∀ (Hn : Type) (enc : TypeId × Value → Hn) (W : World) (n : Nat) (cs : List Value) (y : DataW Hn × List MemPlace), DataW.trod enc P W 0 (fun _ => true) true n t cs = some y → (∀ k ∈ y.1.weights P t, k ≤ reachBytes) → OpensAt W C cs

theorem opens_leaf {α : Type} {W : World} {C : Cod α} {Pr : α → Prop} {cs : List Value} (h : ∃ a, cs = C.enc a ∧ Pr a) : OpensAt W (.ofC C Pr) cs := by
  obtain ⟨a, rfl, hp⟩ := h
  intro ι H hs hro
  exact ⟨a, [], ι, C.enc a, .refl _, by rw [List.append_nil]; exact hs, by rw [List.append_nil]; exact hro, leafOks_rel (C.leaf a), rfl, hp⟩
theorem opens_map {α β : Type} {W : World} {A : NCod α} {f : β → α} {g : α → β} (hfg : ∀ a, f (g a) = a) {cs : List Value} (h : OpensAt W A cs) : OpensAt W (A.map f) cs := by
  intro ι H hs hro
  obtain ⟨a, K, κ, cs', h1, h2, h3, h4, h5⟩ := h ι H hs hro
  exact ⟨g a, K, κ, cs', h1, h2, h3, h4, by show A.rel (f (g a)) _ _; rw [hfg]; exact h5⟩
theorem opens_unit {W : World} : OpensAt W .unit [] := by
  intro ι H hs hro
  exact ⟨(), [], ι, [], .refl _, by rw [List.append_nil]; exact hs, by rw [List.append_nil]; exact hro, trivial, rfl⟩
theorem ext_app (H K : List Blk) : Ext H.length ⟨H⟩ ⟨H ++ K⟩ := ⟨by simp, fun b hb => by simp only; rw [List.getElem?_append_left hb]⟩
theorem opens_pair {α β : Type} {W : World} {A : NCod α} {B : NCod β} {c d : List Value} (h : OpensAt W A c) (g : OpensAt W B d) : OpensAt W (A.pair B) (c ++ d) := by
  intro ι H hs hro
  obtain ⟨a, K, κ, c', h1, h2, h3, h4, h5⟩ := h ι H hs hro
  obtain ⟨b, K2, κ2, d', g1, g2, g3, g4, g5⟩ := g κ (H ++ K) h2 h3
  refine ⟨(a, b), K ++ K2, κ2, c' ++ d', h1.trans g1, by rw [← List.append_assoc]; exact g2, by rw [← List.append_assoc]; exact g3, (h4.mono fun _ _ h => h.mono g1).append g4, c', d', rfl, ?_, by rw [← List.append_assoc]; exact g5⟩
  rw [← List.append_assoc]
  exact A.ext h5 (ext_app _ _)
/-- so many things, one behind another -/
theorem opens_many {α : Type} {W : World} {C : NCod α} : ∀ (ls : List (List Value)), (∀ c ∈ ls, OpensAt W C c) → ∀ (ι : Emb) (H : List Blk), Sim W.heap.size ι H W → H.all roB = true →
    ∃ (l : List α) (K : List Blk) (κ : Emb) (css : List (List Value)), ι.le κ ∧ Sim W.heap.size κ (H ++ K) W ∧ (H ++ K).all roB = true ∧ All2 (L2 κ) css.flatten ls.flatten ∧ All2 (fun a c => C.rel a ⟨H ++ K⟩ c) l css ∧ l.length = ls.length
  | [], _, ι, H, hs, hro => ⟨[], [], ι, [], .refl _, by rw [List.append_nil]; exact hs, by rw [List.append_nil]; exact hro, trivial, trivial, rfl⟩
  | c :: ls, h, ι, H, hs, hro => by
    obtain ⟨a, K, κ, c', h1, h2, h3, h4, h5⟩ := h c (List.mem_cons_self ..) ι H hs hro
    obtain ⟨l, K2, κ2, css, g1, g2, g3, g4, g5, g6⟩ := opens_many ls (fun x hx => h x (List.mem_cons_of_mem _ hx)) κ (H ++ K) h2 h3
    refine ⟨a :: l, K ++ K2, κ2, c' :: css, h1.trans g1, by rw [← List.append_assoc]; exact g2, by rw [← List.append_assoc]; exact g3, ?_, ⟨?_, ?_⟩, by simp [g6]⟩
    · rw [List.flatten_cons, List.flatten_cons]
      exact (h4.mono fun _ _ h => h.mono g1).append g4
    · rw [← List.append_assoc]
      exact C.ext h5 (ext_app _ _)
    · rw [← List.append_assoc]
      exact g5
theorem weights_all {Hn : Type} {P : Program} {e : TypeId} : ∀ {l : List (DataW Hn)} {d : DataW Hn}, d ∈ l → ∀ k ∈ d.weights P e, k ∈ DataW.weightsAll P e l
  | x :: l, d, h, k, hk => by
    simp only [DataW.weightsAll, List.mem_append]
    rcases List.mem_cons.1 h with rfl | h
    · exact .inl hk
    · exact .inr (weights_all h k hk)
theorem opens_list {α : Type} {P : Program} {C : NCod α} {t e : TypeId} {B : Nat} (hu : P.underlying t = some (.slice e)) (hc : P.cellsOf e = C.n) (hpos : 0 < C.n) (hB : P.bytesOf e = B) (h : Opens P C e) : Opens P (C.list B) t := by
  intro Hn enc W n cs y hy hw ι H hs hro
  rcases DataW.trod_slice hu hy with ⟨rfl, rfl⟩ | ⟨x, len, cap, elems, rest, m, _, rfl, rfl, _, hle, hm, hlen, he, hsp, _⟩
  · exact ⟨[], [], ι, [.slice none 0 0], .refl _, by rw [List.append_nil]; exact hs, by rw [List.append_nil]; exact hro, ⟨.l1 (.l0 .snil), trivial⟩, _, rfl, by simp, .inl ⟨rfl, rfl⟩⟩
  · obtain ⟨hr1, hr2⟩ := hsp rfl
    have hwt : (elems.length + rest.length) * B ≤ reachBytes := by
      have := hw ((elems.length + rest.length) * P.bytesOf e) (by simp [DataW.weights, hu])
      rwa [hB] at this
    have hwe : ∀ z ∈ elems, ∀ k ∈ z.1.weights P e, k ≤ reachBytes := fun z hz k hk => hw k (by
      simp only [DataW.weights, hu, List.mem_cons, List.mem_append]
      exact .inr (.inl (weights_all (List.mem_map_of_mem (f := (·.1)) hz) k hk)))
    have each : ∀ i, i < len → ∃ c z, W.cells? 0 (x.add (i * C.n)) C.n = some c ∧ OpensAt W C c := fun i hi => by
      have h1 := he i hi
      rw [List.getElem?_eq_getElem (by omega), hc, Option.bind_eq_some_iff] at h1
      obtain ⟨c, h2, h3⟩ := h1
      exact ⟨c, c, h2, h Hn enc W m c _ h3 (hwe _ (List.getElem_mem _))⟩
    obtain ⟨ls, hl1, hl2⟩ := choose_list (α := List Value) (p := fun i c => W.cells? 0 (x.add (i * C.n)) C.n = some c ∧ OpensAt W C c) len fun i hi => by
      obtain ⟨c, _, h1, h2⟩ := each i hi
      exact ⟨c, h1, h2⟩
    obtain ⟨l, K, κ, css, k1, k2, k3, k4, k5, k6⟩ := opens_many ls (fun c hc2 => by
      obtain ⟨i, hi, rfl⟩ := List.getElem_of_mem hc2
      exact (hl2 i hi).2) ι H hs hro
    have hcell : ∀ i, i < cap → ∃ v, W.cell? (x.add i) = some v := fun i hi => by
      have hq : i / C.n < cap := Nat.lt_of_le_of_lt (Nat.div_le_self _ _) hi
      have hj : i % C.n < C.n := Nat.mod_lt _ hpos
      have hsplit : i = i / C.n * C.n + i % C.n := by
        have := Nat.div_add_mod i C.n
        rw [Nat.mul_comm] at this
        exact this.symm
      have key : ∃ c, W.cells? 0 (x.add (i / C.n * C.n)) C.n = some c := by
        by_cases c : i / C.n < len
        · exact ⟨_, (hl2 _ (by omega)).1⟩
        · have := hr2 (i / C.n - len) (by omega)
          rw [show len + (i / C.n - len) = i / C.n by omega, List.getElem?_eq_getElem (by omega), hc, Option.bind_eq_some_iff] at this
          obtain ⟨c, h2, _⟩ := this
          exact ⟨c, h2⟩
      obtain ⟨c, hcc⟩ := key
      obtain ⟨_, h5, h6⟩ := World.cells?_some hcc
      have h7 := h6 _ hj
      rw [add_add, ← hsplit] at h7
      rw [h7]
      exact ⟨_, List.getElem?_eq_getElem (by omega)⟩
    have hflat : ∀ (ls : List (List Value)) (o : Nat), (∀ (i : Nat) (hi : i < ls.length), W.cells? 0 (x.add ((o + i) * C.n)) C.n = some ls[i]) → ∀ i v, ls.flatten[i]? = some v → W.cell? (x.add (o * C.n + i)) = some v := by
      intro ls
      induction ls with
      | nil => intro o _ i v hv; simp at hv
      | cons c ls ih =>
        intro o ho i v hv
        obtain ⟨_, h5, h6⟩ := World.cells?_some (ho 0 (by simp))
        rw [List.flatten_cons] at hv
        by_cases c1 : i < c.length
        · rw [List.getElem?_append_left c1] at hv
          have := h6 i (by simp at h5; omega)
          rw [add_add, Nat.add_zero] at this
          rw [this]
          exact hv
        · rw [List.getElem?_append_right (by omega)] at hv
          have := ih (o + 1) (fun i hi => by
            have := ho (i + 1) (by simp; omega)
            rw [show o + 1 + i = o + (i + 1) by omega]
            simpa using this) _ v hv
          simp only [List.getElem_cons_zero] at h5
          rw [h5, Nat.add_mul, Nat.one_mul] at this
          rwa [show o * C.n + C.n + (i - C.n) = o * C.n + i by omega] at this
    have hfl := hflat ls 0 (fun i hi => by rw [Nat.zero_add]; exact (hl2 i hi).1)
    obtain ⟨κ2, r1, r2, r3, r4⟩ := sim_row k2 k3 (cells := css.flatten) (.inr ⟨x, rfl, hle, hcell, fun i v hv => by
      obtain ⟨v', g1, g2⟩ := k4.get i v hv
      refine ⟨v', ?_, g2⟩
      have := hfl i v' g1
      rwa [Nat.zero_mul, Nat.zero_add] at this⟩)
    have hll : l.length = len := by rw [k6, hl1]
    refine ⟨l, K ++ [.row 0 css.flatten .ro], κ2, [sliceArg (H ++ K).length (some x) len], k1.trans r1, by rw [← List.append_assoc]; exact r2, by rw [← List.append_assoc]; exact r3, ⟨?_, trivial⟩, _, rfl, ?_, .inr ⟨(H ++ K).length, css, .ro, 0, ?_, ?_, by simp, ?_⟩⟩
    · cases r4 with
      | va r4 => cases r4 with
        | l2 r4 => exact r4
    · rw [hll]
      exact Nat.le_trans (Nat.mul_le_mul_right _ (by omega)) hwt
    · rw [hll]; rfl
    · rw [← List.append_assoc]
      simp
    · rw [← List.append_assoc]
      exact All2.mono (R := fun a c => C.rel a ⟨H ++ K⟩ c) (fun a c h => C.ext (s := ⟨H ++ K⟩) h (ext_app (H ++ K) _)) k5
/-- the parts of a struct: each at its place -/
def OpensF {α : Type} (P : Program) (C : NCod α) (fs : List Field) (off : Nat) : Prop := ∀ (Hn : Type) (enc : TypeId × Value → Hn) (W : World) (n : Nat) (cs : List Value) (xs : List (DataW Hn × List MemPlace)), cs.length = off + C.n → xs.length = fs.length →
  (∀ (i : Nat) (f : Field), fs[i]? = some f → DataW.trod enc P W 0 (fun _ => true) true n f.type ((cs.drop f.offset).take (P.cellsOf f.type)) = xs[i]?) → (∀ k ∈ DataW.weightsEach P (fs.map (·.type)) (xs.map (·.1)), k ≤ reachBytes) → OpensAt W C (cs.drop off)
theorem opensF_nil {P : Program} {off : Nat} : OpensF P .unit [] off := by
  intro Hn enc W n cs xs hl _ _ _
  have : cs.drop off = [] := List.drop_eq_nil_of_le (by rw [hl]; exact Nat.le_refl _)
  rw [this]
  exact opens_unit
theorem opensF_cons {α β : Type} {P : Program} {A : NCod α} {B : NCod β} {f : Field} {fs : List Field} {off : Nat} (ho : f.offset = off) (hn : P.cellsOf f.type = A.n) (h : Opens P A f.type) (g : OpensF P B fs (off + A.n)) : OpensF P (A.pair B) (f :: fs) off := by
  intro Hn enc W n cs xs hl hx hf hw
  cases xs with
  | nil => simp at hx
  | cons x xs =>
    have h0 := hf 0 f rfl
    rw [ho, hn] at h0
    have hA := h Hn enc W n _ x h0 fun k hk => hw k (by simp only [List.map_cons, DataW.weightsEach, List.mem_append]; exact .inl hk)
    have hl2 : (A.pair B).n = A.n + B.n := rfl
    have hB := g Hn enc W n cs xs (by rw [hl, hl2]; omega) (by simpa using hx) (fun i f' hi => by have := hf (i + 1) f' (by simpa using hi); simpa using this) fun k hk => hw k (by simp only [List.map_cons, DataW.weightsEach, List.mem_append]; exact .inr hk)
    have hsp : cs.drop off = (cs.drop off).take A.n ++ cs.drop (off + A.n) := by rw [← List.drop_drop, List.take_append_drop]
    rw [hsp]
    exact opens_pair hA hB
theorem opens_struct {α : Type} {P : Program} {C : NCod α} {t : TypeId} {fs : Array Field} (hu : P.underlying t = some (.struct fs)) (hn : P.cellsOf t = C.n) (h : OpensF P C fs.toList 0) : Opens P C t := by
  intro Hn enc W n cs y hy hw
  obtain ⟨xs, m, _, rfl, hl, hlen, hf⟩ := DataW.trod_struct hu hy
  have := h Hn enc W m cs xs (by rw [hl, hn, Nat.zero_add]) (by simpa using hlen) (fun i f hi => hf i f (by simpa using hi)) fun k hk => hw k (by simp only [DataW.weights, hu]; exact hk)
  rwa [List.drop_zero] at this

/-! ### Leaves -/
def intC (k : IntKind) : Cod Int where
  n := 1
  enc i := [.int k i]
  pos := by decide
  len _ := rfl
  inj a b h := by simpa using h
  leaf _ := rfl
def blnC : Cod Bool where
  n := 1
  enc b := [.bool b]
  pos := by decide
  len _ := rfl
  inj a b h := by simpa using h
  leaf _ := rfl
def strgC : Cod (List UInt8) where
  n := 1
  enc k := [sv k]
  pos := by decide
  len _ := rfl
  inj a b h := by
    simp only [sv, List.cons.injEq, Value.string.injEq, ByteArray.mk.injEq, and_true] at h
    have := congrArg Array.toList h
    simpa using this
  leaf _ := rfl
theorem opens_int {P : Program} {t : TypeId} {k : IntKind} (hu : P.underlying t = some (.int k)) : Opens P (.ofC (intC k) fun i => (Lit.int k i).wf = true) t := by
  intro Hn enc W n cs y hy hw
  obtain ⟨i, rfl, _, h⟩ := DataW.trod_int hu hy
  exact opens_leaf ⟨i, rfl, h⟩
theorem opens_bool {P : Program} {t : TypeId} (hu : P.underlying t = some .bool) : Opens P (.ofC blnC fun _ => True) t := by
  intro Hn enc W n cs y hy hw
  obtain ⟨i, rfl, _⟩ := DataW.trod_bool hu hy
  exact opens_leaf ⟨i, rfl, trivial⟩
theorem opens_string {P : Program} {t : TypeId} (hu : P.underlying t = some .string) : Opens P (.ofC strgC fun k => k.length ≤ reachBytes) t := by
  intro Hn enc W n cs y hy hw
  obtain ⟨i, rfl, hyy, _⟩ := DataW.trod_string hu hy
  subst hyy
  refine opens_leaf ⟨i.data.toList, ?_, hw _ (by simp [DataW.weights])⟩
  show _ = [sv _]
  rw [← sv_of]

/-! ### A law's argument -/
/-- a struct -/
def NArg {α : Type} (C : NCod α) (a : α) (s : St) (v : Value) : Prop := ∃ cs, v = .agg cs.toArray ∧ C.rel a s cs
theorem NArg.ext {α : Type} {C : NCod α} {a : α} {s t : St} {v : Value} (h : NArg C a s v) (hx : Ext s.heap.length s t) : NArg C a t v := by
  obtain ⟨cs, rfl, h1⟩ := h
  exact ⟨cs, rfl, C.ext h1 hx⟩
theorem ListN.ext {α : Type} {C : NCod α} {B : Nat} {l : List α} {s t : St} {v : Value} (h : ListN C B l s v) (hx : Ext s.heap.length s t) : ListN C B l t v := by
  obtain ⟨v', e, h1⟩ := (C.list B).ext (s := s) (t := t) (cs := [v]) ⟨v, rfl, h⟩ hx
  cases e
  exact h1
theorem nest_w {Hn : Type} {P : Program} {ts : List TypeId} {ds : List (DataW Hn)} (h : (DataW.weightsEach P ts ds).all (· ≤ reachBytes) = true) {j : Nat} {t : TypeId} {d : DataW Hn} (ht : ts[j]? = some t) (hd : ds[j]? = some d) : ∀ k ∈ d.weights P t, k ≤ reachBytes := fun k hk => by
  have := List.all_eq_true.1 h _ (DataW.weights_mem_each ht hd k hk)
  simpa using this
theorem open_nest {α : Type} {Hn : Type} {enc : TypeId × Value → Hn} {P : Program} {W : World} {C : NCod α} {t : TypeId} (hO : Opens P C t) {v : Value} {d : DataW Hn} {ps : List MemPlace} (h : DataW.Trod enc P W 0 (fun _ => true) true t v d ps) (hw : ∀ k ∈ d.weights P t, k ≤ reachBytes) : OpensAt W C v.cells.toList := by
  obtain ⟨fuel, hf⟩ := h
  exact hO Hn enc W fuel _ _ hf hw
theorem sim_nestL {α : Type} {W : World} {C : NCod α} {B : Nat} {v0 : Value} (hO : OpensAt W (C.list B) [v0]) {ι : Emb} {H : List Blk} (h : Sim W.heap.size ι H W) (hro : H.all roB = true) :
    ∃ (l : List α) (K : List Blk) (v : Value), ListN C B l ⟨H ++ K⟩ v ∧ ∃ κ, ι.le κ ∧ Sim W.heap.size κ (H ++ K) W ∧ (H ++ K).all roB = true ∧ VRel κ v v0 := by
  obtain ⟨l, K, κ, cs', h1, h2, h3, h4, v, rfl, h5⟩ := hO ι H h hro
  exact ⟨l, K, v, h5, κ, h1, h2, h3, .va (.l2 h4.1)⟩
/-- a list of plain things, as elsewhere -/
theorem ListN.plain {α : Type} {C : Cod α} {Pr : α → Prop} {B : Nat} {l : List α} {s : St} {v : Value} (h : ListN (.ofC C Pr) B l s v) : listOf C v s = some l ∧ (∀ a ∈ l, Pr a) ∧ l.length * B ≤ 140737488351232 := by
  obtain ⟨h1, h2⟩ := h
  rcases h2 with ⟨rfl, rfl⟩ | ⟨b, css, st, k, rfl, g2, g3, g4⟩
  · exact ⟨list_nil s, fun a ha => (by cases ha), h1⟩
  · have key : ∀ {l : List α} {css : List (List Value)}, All2 (fun a c => (NCod.ofC C Pr).rel a s c) l css → css.flatten = encL C l ∧ ∀ a ∈ l, Pr a := by
      intro l
      induction l with
      | nil => intro css h; cases css with
        | nil => exact ⟨rfl, fun a ha => by cases ha⟩
        | cons => exact h.elim
      | cons a l ih => intro css h; cases css with
        | nil => exact h.elim
        | cons c css =>
          obtain ⟨⟨e, hp⟩, h2⟩ := h
          obtain ⟨i1, i2⟩ := ih h2
          refine ⟨by rw [List.flatten_cons, i1, encL_cons, e], fun x hx => ?_⟩
          rcases List.mem_cons.1 hx with rfl | hx
          · exact hp
          · exact i2 x hx
    obtain ⟨k1, k2⟩ := key g4
    refine ⟨(listOf_iff C).2 ?_, k2, h1⟩
    have hr : readRow s b = some (encL C l) := by
      unfold Ab.readRow
      rw [g2, k1]
      cases st with
      | dead => exact absurd rfl g3
      | act => rfl
      | ro => rfl
    simp only [cellsOf, Nat.le_refl, if_true, readN, hr, Option.bind_some, Nat.zero_add]
    rw [if_pos (by rw [encL_len]; exact Nat.le_refl _), List.drop_zero, ← encL_len C, List.take_length]

end Go.Proofs.Ytccindbiodofmaa.Ab

/- Things of one's own that hold others: slices in slices, each row of one's own. -/
namespace Go.Proofs.Ytccindbiodofmaa.Ab
open Go

/-- how a thing lies in cells, whose rows are one's own: blocks from lo on, below hi -/
structure OCod (α : Type) where
  C : NCod α
  own : Nat → Nat → α → St → List Value → Prop
  rel : ∀ {lo hi a s cs}, own lo hi a s cs → C.rel a s cs
  keep : ∀ {lo hi a s t cs}, own lo hi a s cs → (∀ b, lo ≤ b → b < hi → t.heap[b]? = s.heap[b]?) → own lo hi a t cs
  mono : ∀ {lo hi lo' hi' a s cs}, own lo hi a s cs → lo' ≤ lo → hi ≤ hi' → own lo' hi' a s cs
  leaf : ∀ {lo hi a s cs}, own lo hi a s cs → cs.all isLeaf = true

def OList {α : Type} (O : OCod α) (B : Nat) (lo hi : Nat) (l : List α) (s : St) (v : Value) : Prop :=
  l.length * B ≤ reachBytes ∧ ((v = .slice none 0 0 ∧ l = []) ∨ ∃ (b : Nat) (css : List (List Value)), v = .slice (some ⟨b, 0, none⟩) l.length l.length ∧ lo ≤ b ∧ b < hi ∧ 0 < l.length ∧ s.heap[b]? = some (.row O.C.n css.flatten .act) ∧ All2 (fun a c => O.own lo b a s c) l css)

theorem flat_len {α : Type} {O : OCod α} {lo b : Nat} {s : St} : ∀ {l : List α} {css : List (List Value)}, All2 (fun a c => O.own lo b a s c) l css → css.flatten.length = l.length * O.C.n ∧ css.flatten.all isLeaf = true
  | [], [], _ => ⟨by simp, rfl⟩
  | a :: l, c :: css, ⟨h1, h2⟩ => by
    obtain ⟨g1, g2⟩ := flat_len h2
    refine ⟨?_, ?_⟩
    · rw [List.flatten_cons, List.length_append, g1, O.C.len (O.rel h1), List.length_cons, Nat.add_mul]; omega
    · rw [List.flatten_cons, List.all_append, O.leaf h1, g2]; rfl

theorem OList.listN {α : Type} {O : OCod α} {B lo hi : Nat} {l : List α} {s : St} {v : Value} (h : OList O B lo hi l s v) : ListN O.C B l s v := by
  obtain ⟨h1, h2⟩ := h
  refine ⟨h1, ?_⟩
  rcases h2 with h2 | ⟨b, css, g1, _, _, _, g2, g3⟩
  · exact .inl h2
  · exact .inr ⟨b, css, .act, _, g1, g2, by simp, g3.mono fun a c h => O.rel h⟩
theorem OList.keep {α : Type} {O : OCod α} {B lo hi : Nat} {l : List α} {s t : St} {v : Value} (h : OList O B lo hi l s v) (k : ∀ b, lo ≤ b → b < hi → t.heap[b]? = s.heap[b]?) : OList O B lo hi l t v := by
  obtain ⟨h1, h2⟩ := h
  refine ⟨h1, ?_⟩
  rcases h2 with h2 | ⟨b, css, g1, g2, g3, g4, g5, g6⟩
  · exact .inl h2
  · exact .inr ⟨b, css, g1, g2, g3, g4, by rw [k b g2 g3]; exact g5, g6.mono fun a c h => O.keep h fun b' h1 h2 => k b' h1 (by omega)⟩
theorem OList.mono {α : Type} {O : OCod α} {B lo hi lo' hi' : Nat} {l : List α} {s : St} {v : Value} (h : OList O B lo hi l s v) (h1 : lo' ≤ lo) (h2 : hi ≤ hi') : OList O B lo' hi' l s v := by
  obtain ⟨h3, h4⟩ := h
  refine ⟨h3, ?_⟩
  rcases h4 with h4 | ⟨b, css, g1, g2, g3, g4, g5, g6⟩
  · exact .inl h4
  · exact .inr ⟨b, css, g1, by omega, by omega, g4, g5, g6.mono fun a c h => O.mono h h1 (Nat.le_refl _)⟩
theorem OList.leaf {α : Type} {O : OCod α} {B lo hi : Nat} {l : List α} {s : St} {v : Value} (h : OList O B lo hi l s v) : isLeaf v = true := by
  rcases h.2 with ⟨rfl, _⟩ | ⟨b, css, rfl, _⟩ <;> rfl
theorem OList.nil {α : Type} {O : OCod α} {B lo hi : Nat} {s : St} : OList O B lo hi ([] : List α) s (.slice none 0 0) := ⟨by simp, .inl ⟨rfl, rfl⟩⟩
theorem OList.own {α : Type} {O : OCod α} {B lo hi : Nat} {l : List α} {s : St} {v : Value} (h : OList O B lo hi l s v) : ∃ css : List (List Value), Own lo O.C.n s v css.flatten ∧ css.flatten.length = l.length * O.C.n := by
  rcases h.2 with ⟨rfl, rfl⟩ | ⟨b, css, rfl, g2, g3, g4, g5, g6⟩
  · exact ⟨[], .inl ⟨rfl, rfl⟩, by simp⟩
  · have := (flat_len g6).1
    exact ⟨css, .inr ⟨b, l.length, rfl, g2, g5, this, g4⟩, this⟩

namespace OCod
def ofC {α : Type} (C : Cod α) (Pr : α → Prop) : OCod α where
  C := .ofC C Pr
  own _ _ a s cs := cs = C.enc a ∧ Pr a
  rel h := h
  keep h _ := h
  mono h _ _ := h
  leaf h := by rw [h.1]; exact leaf_isLeaf (C.leaf _)
def list {α : Type} (O : OCod α) (B : Nat) : OCod (List α) where
  C := O.C.list B
  own lo hi l s cs := ∃ v, cs = [v] ∧ OList O B lo hi l s v
  rel h := by obtain ⟨v, rfl, h⟩ := h; exact ⟨v, rfl, h.listN⟩
  keep h k := by obtain ⟨v, rfl, h⟩ := h; exact ⟨v, rfl, h.keep k⟩
  mono h h1 h2 := by obtain ⟨v, rfl, h⟩ := h; exact ⟨v, rfl, h.mono h1 h2⟩
  leaf h := by obtain ⟨v, rfl, h⟩ := h; simp [h.leaf]
def unit : OCod Unit where
  C := .unit
  own _ _ _ _ cs := cs = []
  rel h := h
  keep h _ := h
  mono h _ _ := h
  leaf h := by rw [h]; rfl
def pair {α β : Type} (A : OCod α) (B : OCod β) : OCod (α × β) where
  C := A.C.pair B.C
  own lo hi p s cs := ∃ c d m, cs = c ++ d ∧ lo ≤ m ∧ m ≤ hi ∧ A.own lo m p.1 s c ∧ B.own m hi p.2 s d
  rel h := by obtain ⟨c, d, m, rfl, _, _, h1, h2⟩ := h; exact ⟨c, d, rfl, A.rel h1, B.rel h2⟩
  keep h k := by obtain ⟨c, d, m, rfl, g1, g2, h1, h2⟩ := h; exact ⟨c, d, m, rfl, g1, g2, A.keep h1 fun b e1 e2 => k b e1 (by omega), B.keep h2 fun b e1 e2 => k b (by omega) e2⟩
  mono h k1 k2 := by obtain ⟨c, d, m, rfl, g1, g2, h1, h2⟩ := h; exact ⟨c, d, m, rfl, by omega, by omega, A.mono h1 k1 (Nat.le_refl _), B.mono h2 (Nat.le_refl _) k2⟩
  leaf h := by obtain ⟨c, d, m, rfl, _, _, h1, h2⟩ := h; rw [List.all_append, A.leaf h1, B.leaf h2]; rfl
def map {α β : Type} (A : OCod α) (f : β → α) : OCod β where
  C := A.C.map f
  own lo hi b s cs := A.own lo hi (f b) s cs
  rel h := A.rel h
  keep h k := A.keep h k
  mono h h1 h2 := A.mono h h1 h2
  leaf h := A.leaf h
end OCod

/-- one more element: the row is a new one -/
theorem own_push {N n w : Nat} {s : St} {x : Value} {cells z : List Value} {v : Value} (h : Own N n s x cells) (hN : N ≤ s.heap.length) (hw : 0 < w) (hn : 0 < n) (hn2 : n ≤ 16777216) (hz : z.length = n) (hzl : z.all isLeaf = true) (hv : (cellsV v).length = n) (hvl : (cellsV v).all isLeaf = true) {len : Nat} (hlen : cells.length = len * n)
    (hb : (len + 1) * w ≤ 140737488355328) : ∃ r, abuildSl n z 1 [(0, v)] s = some r ∧ ∃ b t, aappend n w x r.1 r.2 = some (.slice (some ⟨b, 0, none⟩) (len + 1) (len + 1), t) ∧ t.heap[b]? = some (.row n (cells ++ cellsV v) .act) ∧ s.heap.length ≤ b ∧ t.heap.length = b + 1 ∧ Keep (blkOf x) s t := by
  have h1 : abuildSl n z 1 [(0, v)] s = some (.slice (some ⟨s.heap.length, 0, none⟩) 1 1, s.push (.row n (cellsV v) .act)) := by
    have hrep : repCells z 1 = z := by simp [repCells]
    have hput : putCells z 0 (cellsV v) = cellsV v := by simp [putCells, hv, hz]
    unfold abuildSl
    rw [if_pos ⟨by omega, hz, hzl⟩]
    simp only [hrep, afill, placeA, Nat.zero_mul]
    rw [if_pos ⟨hv, by omega, hvl⟩, hput]
    rfl
  refine ⟨_, h1, ?_⟩
  have hcells : cellsOf n (.slice (some ⟨s.heap.length, 0, none⟩) 1 1) (s.push (.row n (cellsV v) .act)) = some (cellsV v) := by
    simp only [cellsOf, Nat.le_refl, if_true, readN, Ab.readRow, push_get, Option.bind_some]
    rw [if_pos (by omega), List.drop_zero, Nat.one_mul, ← hv, List.take_length]
  have hroom : roomA (len + 1) w := .inl hb
  have hk0 : Keep (blkOf x) s (s.push (.row n (cellsV v) .act)) := (Ext.push _ (Nat.le_refl _) _).keep
  unfold aappend
  rw [if_pos hw]
  simp only [lenV, Option.bind_some, elems_of hcells]
  rcases h with ⟨rfl, rfl⟩ | ⟨b, len', rfl, g1, g2, g3, g4⟩
  · have hl0 : len = 0 := by
      have : len * n = 0 := by simpa using hlen.symm
      rcases Nat.mul_eq_zero.1 this with h | h <;> omega
    subst hl0
    simp only
    rw [if_pos (by simpa using hroom), if_neg (by omega)]
    refine ⟨_, _, rfl, by simpa using push_get, by rw [push_len]; omega, push_len, hk0.trans (Ext.push _ (Nat.le_refl _) _).keep⟩
  · obtain rfl : len' = len := Nat.eq_of_mul_eq_mul_right hn (by omega)
    simp only
    have hbl : b < s.heap.length := (List.getElem?_eq_some_iff.1 g2).1
    rw [if_pos hroom, if_neg (by omega), push_old hbl, g2]
    simp only
    rw [if_pos ⟨trivial, trivial, by omega⟩]
    refine ⟨_, _, rfl, ?_, by rw [push_len]; omega, ?_, ?_⟩
    · have e : (s.push (.row n (cellsV v) .act)).heap.length = ((s.push (.row n (cellsV v) .act)).putB b (.row n cells .dead)).heap.length := by simp [St.putB]
      rw [e]
      exact push_get
    · rw [push_len]; simp [St.putB]
    · refine hk0.trans ((putB_keep (b := b)).trans (Ext.push _ (Nat.le_refl _) _).keep)
theorem All2.snoc {α β : Type} {R : α → β → Prop} : ∀ {l : List α} {m : List β} {a : α} {b : β}, All2 R l m → R a b → All2 R (l ++ [a]) (m ++ [b])
  | [], [], _, _, _, h => ⟨h, trivial⟩
  | _ :: _, _ :: _, _, _, ⟨h1, h2⟩, h => ⟨h1, All2.snoc h2 h⟩
theorem OList.push {α : Type} {O : OCod α} {B lo hi m n w : Nat} {l : List α} {a : α} {s0 s : St} {x : Value} {z : List Value} {v : Value} (h : OList O B lo hi l s x) (hhi : hi ≤ m) (hm : m ≤ s.heap.length) (hlo : lo ≤ hi) (ha : O.own m s.heap.length a s (cellsV v))
    (hw : 0 < w) (hn : n = O.C.n) (hpos : 0 < n) (hn2 : n ≤ 16777216) (hz : z.length = n) (hzl : z.all isLeaf = true) (hb : (l.length + 1) * w ≤ 140737488355328) (hb2 : (l.length + 1) * B ≤ reachBytes) :
    ∃ r, abuildSl n z 1 [(0, v)] s = some r ∧ ∃ v' t, aappend n w x r.1 r.2 = some (v', t) ∧ OList O B lo t.heap.length (l ++ [a]) t v' ∧ s.heap.length ≤ t.heap.length ∧ (∀ b, b < s.heap.length → (b < lo ∨ hi ≤ b) → t.heap[b]? = s.heap[b]?) ∧ noTup v' = true := by
  subst hn
  have hv : (cellsV v).length = O.C.n := O.C.len (O.rel ha)
  obtain ⟨css, hown, hlen, hall, hblk⟩ : ∃ css : List (List Value), Own lo O.C.n s x css.flatten ∧ css.flatten.length = l.length * O.C.n ∧ (∀ b', s.heap.length ≤ b' → ∀ t : St, Keep (blkOf x) s t → All2 (fun a c => O.own lo b' a t c) l css) ∧ (∀ c, blkOf x = some c → lo ≤ c ∧ c < hi) := by
    rcases h.2 with ⟨rfl, rfl⟩ | ⟨b, css, rfl, g2, g3, g4, g5, g6⟩
    · exact ⟨[], .inl ⟨rfl, rfl⟩, by simp, fun _ _ _ _ => trivial, fun c hc => by cases hc⟩
    · have := (flat_len g6).1
      refine ⟨css, .inr ⟨b, l.length, rfl, g2, g5, this, g4⟩, this, fun b' hb' t k => g6.mono fun a c h => O.mono (O.keep h fun b2 h1 h2 => k.2 b2 (by omega) fun e => by have e2 : b = b2 := Option.some.inj e; omega) (Nat.le_refl _) (by omega), fun c hc => by cases hc; exact ⟨g2, g3⟩⟩
  obtain ⟨r, h1, b, t, h2, h3, h4, h5, h6⟩ := own_push (w := w) hown (by omega) hw hpos hn2 hz hzl hv (O.leaf ha) hlen hb
  refine ⟨r, h1, _, t, h2, ⟨by simpa using hb2, .inr ⟨b, css ++ [cellsV v], by simp, by omega, by omega, by simp, by simpa using h3, ?_⟩⟩, h6.1, fun c hc hor => h6.2 c hc fun e => ?_, rfl⟩
  · refine (hall b h4 t h6).snoc (O.mono (O.keep ha fun b2 g1 g2 => h6.2 b2 g2 fun e => ?_) (by omega) h4)
    have := (hblk b2 e).2
    omega
  · have := hblk c e
    omega

end Go.Proofs.Ytccindbiodofmaa.Ab

/- Readers: a row of one's own with what is left of some bytes and the first error; what reads is told by a parser. -/
namespace Go.Proofs.Ytccindbiodofmaa.Ab
open Go

/-! ### Parsers -/
def Par (α : Type) := List UInt8 → Except Int (α × List UInt8)
namespace Par
def pure {α : Type} (a : α) : Par α := fun r => .ok (a, r)
def fail {α : Type} (e : Int) : Par α := fun _ => .error e
def bind {α β : Type} (p : Par α) (q : α → Par β) : Par β := fun r => match p r with
  | .ok (a, r') => q a r'
  | .error e => .error e
def map {α β : Type} (p : Par α) (f : α → β) : Par β := p.bind fun a => .pure (f a)
def rep {α : Type} (p : Par α) : Nat → Par (List α)
  | 0 => .pure []
  | k + 1 => p.bind fun a => (rep p k).bind fun l => .pure (a :: l)
end Par
/-- a reader goes from x (what is left, the first error) to y, and gives a -/
structure Does {α : Type} (p : Par α) (x : List UInt8 × Int) (a : α) (y : List UInt8 × Int) : Prop where
  err : x.2 ≠ 0 → y.2 = x.2
  ok : x.2 = 0 → ∀ a0 r0, p x.1 = .ok (a0, r0) → y = (r0, 0) ∧ a = a0
  bad : x.2 = 0 → ∀ e, p x.1 = .error e → y.2 = e ∧ e ≠ 0
section
variable {α β : Type} {x y z : List UInt8 × Int} {a : α} {b : β}
theorem Does.pure {a : α} : Does (.pure a) x a x := ⟨fun _ => rfl, fun h a0 r0 h1 => by cases h1; exact ⟨by rw [← h], rfl⟩, fun _ e h => by cases h⟩
theorem Does.bind {p : Par α} {q : α → Par β} (h : Does p x a y) (g : Does (q a) y b z) : Does (p.bind q) x b z := by
  refine ⟨fun hx => ?_, fun hx a0 r0 h1 => ?_, fun hx e h1 => ?_⟩
  · have := h.err hx
    rw [g.err (by rw [this]; exact hx), this]
  · unfold Par.bind at h1
    cases hp : p x.1 with
    | error e => rw [hp] at h1; cases h1
    | ok t =>
      obtain ⟨a1, r1⟩ := t
      rw [hp] at h1
      obtain ⟨rfl, rfl⟩ := h.ok hx a1 r1 hp
      exact g.ok rfl a0 r0 h1
  · unfold Par.bind at h1
    cases hp : p x.1 with
    | error e' =>
      rw [hp] at h1
      cases h1
      obtain ⟨h2, h3⟩ := h.bad hx e hp
      rw [g.err (by rw [h2]; exact h3), h2]
      exact ⟨rfl, h3⟩
    | ok t =>
      obtain ⟨a1, r1⟩ := t
      rw [hp] at h1
      obtain ⟨rfl, rfl⟩ := h.ok hx a1 r1 hp
      exact g.bad rfl e h1
theorem Does.map {p : Par α} {f : α → β} (h : Does p x a y) : Does (p.map f) x (f a) y := h.bind .pure
theorem Does.cons {p : Par α} {k : Nat} {m : List α} (h : Does p x a y) (g : Does (p.rep k) y m z) : Does (p.rep (k + 1)) x (a :: m) z := h.bind (g.bind .pure)
theorem Does.fail {e : Int} (he : e ≠ 0) (h : y.2 = if x.2 = 0 then e else x.2) : Does (.fail e) x a y := by
  refine ⟨fun hx => (by rw [h, if_neg hx]), fun _ _ _ h => (by cases h), fun hx e' h1 => ?_⟩
  have e1 : e = e' := by injection h1
  subst e1
  rw [h, if_pos hx]
  exact ⟨rfl, he⟩
theorem Does.same {p : Par α} {a1 a2 : α} {x y1 y2 : List UInt8 × Int} (h : Does p x a1 y1) (g : Does p x a2 y2) (hx : x.2 = 0) : y1.2 = y2.2 ∧ (y1.2 = 0 → a1 = a2 ∧ y1 = y2) := by
  cases hp : p x.1 with
  | error e =>
    obtain ⟨h1, h2⟩ := h.bad hx e hp
    obtain ⟨g1, g2⟩ := g.bad hx e hp
    exact ⟨by rw [h1, g1], fun h => absurd (h1 ▸ h) h2⟩
  | ok t =>
    obtain ⟨a0, r0⟩ := t
    obtain ⟨rfl, rfl⟩ := h.ok hx a0 r0 hp
    obtain ⟨rfl, rfl⟩ := g.ok hx _ r0 hp
    exact ⟨rfl, fun _ => ⟨rfl, rfl⟩⟩
end

/-! ### The reader in memory -/
abbrev rp (N : Nat) : Value := .pointer (some ⟨N, 0, none⟩)
structure RdV (N : Nat) (s : St) (v : Value) (x : List UInt8 × Int) : Prop where
  blk : s.heap[N]? = some (.row 0 [v, .int .i64 x.2] .act)
  byt : bytesOf v s = some x.1
  apart : ∀ c, blkOf v = some c → c < N
  small : x.1.length ≤ 140737488355328
def Rd (N : Nat) (s : St) (x : List UInt8 × Int) : Prop := ∃ v, RdV N s v x
def setR (N : Nat) (v : Value) (e : Int) (s : St) : St := s.putB N (.row 0 [v, .int .i64 e] .act)
section
variable {N : Nat} {s t : St} {v u : Value} {x : List UInt8 × Int}
theorem RdV.lt (h : RdV N s v x) : N < s.heap.length := (List.getElem?_eq_some_iff.1 h.blk).1
theorem RdV.row (h : RdV N s v x) : readRow s N = some [v, .int .i64 x.2] := by unfold Ab.readRow; rw [h.blk]
theorem blk_slice {v : Value} {s : St} {l : List UInt8} (h : bytesOf v s = some l) : isLeaf v = true ∧ cellsV v = [v] ∧ noTup v = true := by
  unfold bytesOf at h
  simp only [Option.bind_eq_some_iff] at h
  obtain ⟨cs, h1, _⟩ := h
  obtain ⟨a, len, cap, rfl, _⟩ := cellsOf_len h1
  exact ⟨rfl, rfl, rfl⟩
theorem RdV.st0 (h : RdV N s v x) (h1 : isLeaf u = true) (h2 : cellsV u = [u]) : astore 1 (rp N) u s = some (setR N u x.2 s) := by
  simp [astore, h1, h2, writeN, h.blk, putCells, setR]
theorem keep_bytes {B : Nat} (h : Keep (some B) s t) {l : List UInt8} (hv : bytesOf v s = some l) (hb : blkOf v ≠ some B) : bytesOf v t = some l := by
  unfold bytesOf at hv ⊢
  simp only [Option.bind_eq_some_iff] at hv ⊢
  obtain ⟨cs, h1, h2⟩ := hv
  refine ⟨cs, ?_, h2⟩
  unfold cellsOf at h1 ⊢
  split at h1
  · exact h1
  · rename_i b o len cap
    split at h1
    case isFalse => cases h1
    rename_i hlc
    rw [if_pos hlc]
    unfold readN at h1 ⊢
    have hbb : b ≠ B := fun e => hb (by rw [e]; rfl)
    cases hr : readRow s b with
    | none => rw [hr] at h1; cases h1
    | some row =>
      have : readRow t b = readRow s b := by unfold Ab.readRow; rw [h.2 b (readRow_lt hr) (fun e => hbb (Option.some.inj e).symm)]
      rw [this]
      exact h1
  · cases h1
theorem setR_keep {e : Int} : Keep (some N) s (setR N u e s) := putB_keep
theorem RdV.set (h : RdV N s v x) {y : List UInt8 × Int} (hu : bytesOf u s = some y.1) (ha : ∀ c, blkOf u = some c → c < N) (hl : y.1.length ≤ 140737488355328) : RdV N (setR N u y.2 s) u y := ⟨putB_get h.lt, keep_bytes setR_keep hu (fun e => Nat.lt_irrefl _ (ha _ e)), ha, hl⟩
theorem bytes_drop {l : List UInt8} (h : bytesOf v s = some l) {i : Nat} (hi : i ≤ l.length) {k : IntKind} : ∃ u, asliceV 1 v (some (.int k (i : Int))) none none = some u ∧ bytesOf u s = some (l.drop i) ∧ ∀ c, blkOf u = some c → blkOf v = some c := by
  obtain ⟨u, h1, h2⟩ := bytes_slice h (lo := some (.int k (i : Int))) (hi := none) (mx := none) (i := i) (j := l.length) (by simp [abound]) rfl hi (Nat.le_refl _) (.inl rfl)
  refine ⟨u, h1, by rw [h2, List.take_of_length_le (by simp)], fun c hc => ?_⟩
  unfold asliceV at h1
  split at h1
  case h_2 => cases h1
  rename_i a len cap
  unfold asliceSl at h1
  split at h1
  case isFalse => cases h1
  simp only [Option.bind_eq_some_iff] at h1
  obtain ⟨m, _, hh, _, ll, _, h1⟩ := h1
  split at h1
  case isFalse => cases h1
  unfold cutRow at h1
  split at h1
  · cases h1; cases hc
  · cases h1; exact hc
  · cases h1
/-- what is left is less -/
theorem RdV.drop (h : RdV N s v x) {i : Nat} (hi : i ≤ x.1.length) {k : IntKind} : ∃ u, asliceV 1 v (some (.int k (i : Int))) none none = some u ∧ astore 1 (rp N) u s = some (setR N u x.2 s) ∧ Rd N (setR N u x.2 s) (x.1.drop i, x.2) := by
  obtain ⟨u, h1, h2, h3⟩ := bytes_drop h.byt hi (k := k)
  obtain ⟨g1, g2, _⟩ := blk_slice h2
  refine ⟨u, h1, h.st0 g1 g2, u, h.set (y := (x.1.drop i, x.2)) h2 (fun c e => h.apart c (h3 _ e)) (by have := h.small; simp; omega)⟩
end
theorem bytes_same {s t : St} {v : Value} {l : List UInt8} (h : bytesOf v s = some l) (k : ∀ c, blkOf v = some c → t.heap[c]? = s.heap[c]?) : bytesOf v t = some l := by
  unfold bytesOf at h ⊢
  simp only [Option.bind_eq_some_iff] at h ⊢
  obtain ⟨cs, h1, h2⟩ := h
  refine ⟨cs, ?_, h2⟩
  unfold cellsOf at h1 ⊢
  split at h1
  · exact h1
  · rename_i b o len cap
    split at h1
    case isFalse => cases h1
    rename_i hlc
    rw [if_pos hlc]
    unfold readN Ab.readRow at h1 ⊢
    rw [k b rfl]
    exact h1
  · cases h1
theorem Rd.keep {N : Nat} {s t : St} {x : List UInt8 × Int} (h : Rd N s x) (k : ∀ b, b ≤ N → t.heap[b]? = s.heap[b]?) : Rd N t x := by
  obtain ⟨v, h⟩ := h
  exact ⟨v, ⟨by rw [k N (Nat.le_refl _)]; exact h.blk, bytes_same h.byt fun c hc => k c (Nat.le_of_lt (h.apart c hc)), h.apart, h.small⟩⟩
theorem Rd.ext {N : Nat} {s t : St} {x : List UInt8 × Int} (h : Rd N s x) (k : Ext s.heap.length s t) : Rd N t x := h.keep fun b hb => k.2 b (by obtain ⟨v, h⟩ := h; have := h.lt; omega)
theorem Rd.lt {N : Nat} {s : St} {x : List UInt8 × Int} (h : Rd N s x) : N < s.heap.length := by obtain ⟨v, h⟩ := h; exact h.lt

/-! ### What reads -/
def Shape (ag : Bool) (u : Value) (cs : List Value) : Prop := match ag with
  | true => u = .agg cs.toArray
  | false => cs = [u]
theorem Shape.cells {ag : Bool} {u : Value} {cs : List Value} (h : Shape ag u cs) (hl : cs.all isLeaf = true) : cellsV u = cs ∧ noTup u = true := by
  cases ag with
  | true =>
    have h : u = .agg cs.toArray := h
    subst h
    exact ⟨by simp [cellsV], rfl⟩
  | false =>
    have h : cs = [u] := h
    subst h
    simp at hl
    cases u <;> first | exact ⟨rfl, rfl⟩ | (simp [isLeaf] at hl)
/-- of the blocks below M none but N has changed -/
def FrM (N M : Nat) (s t : St) : Prop := s.heap.length ≤ t.heap.length ∧ ∀ c, c < M → c ≠ N → t.heap[c]? = s.heap[c]?
theorem FrM.refl (N M : Nat) (s : St) : FrM N M s s := ⟨Nat.le_refl _, fun _ _ _ => rfl⟩
theorem FrM.trans {N M : Nat} {s t u : St} (h : FrM N M s t) (g : FrM N M t u) : FrM N M s u := ⟨Nat.le_trans h.1 g.1, fun c h1 h2 => (g.2 c h1 h2).trans (h.2 c h1 h2)⟩
theorem FrM.keep {N : Nat} {s t : St} (h : FrM N s.heap.length s t) : Keep (some N) s t := ⟨h.1, fun c h1 h2 => h.2 c h1 fun e => h2 (by rw [e])⟩
theorem FrM.ext {N M : Nat} {s t : St} (h : Ext s.heap.length s t) (hM : M ≤ s.heap.length) : FrM N M s t := ⟨h.1, fun c h1 h2 => h.2 c (by omega)⟩
theorem putB_ne {s : St} {b c : Nat} {B : Blk} (h : c ≠ b) : (s.putB b B).heap[c]? = s.heap[c]? := by simp only [St.putB]; rw [List.getElem?_set_ne (by omega)]
theorem Rd.put {N b : Nat} {s : St} {B : Blk} {x : List UInt8 × Int} (h : Rd N s x) (hb : N < b) : Rd N (s.putB b B) x := h.keep fun c hc => putB_ne (by omega)
theorem Rd.push {N : Nat} {s : St} {B : Blk} {x : List UInt8 × Int} (h : Rd N s x) : Rd N (s.push B) x := h.keep fun c hc => push_old (by have := h.lt; omega)
/-! ### Numbers that are none below nothing -/
end Go.Proofs.Ytccindbiodofmaa.Ab

/- Lists of what holds other things: their elements. -/
namespace Go.Proofs.Ytccindbiodofmaa.Ab
open Go

end Go.Proofs.Ytccindbiodofmaa.Ab

/- A law's arguments: operations, pairs, lists of them. -/
namespace Go.Proofs.Ytccindbiodofmaa.Ab
open Go Go.ChangeShapes Go.WideShapes
set_option maxRecDepth 100000

theorem cl_int : Try.prog.cellsOf 3 = 1 := by kernel_rfl
theorem cl_str : Try.prog.cellsOf 9 = 1 := by kernel_rfl
theorem el_pair {H : Type} {enc : TypeId × Value → H} {W : World} {base : Nat} {sp : Nat → Bool} {held : Bool} {n : Nat} {cs : List Value} {y : DataW H × List MemPlace} (h : DataW.trod enc Try.prog W base sp held n 32 cs = some y) : ∃ a : Rg, cs = prC.enc a := by
  obtain ⟨xs, m, _, rfl, hl, hlen, hf⟩ := DataW.trod_struct Try.underlying32 h
  have c : Try.prog.cellsOf 32 = 2 := by kernel_rfl
  rw [c] at hl
  match xs, hlen, cs, hl with
  | [y0, y1], _, [c0, c1], _ =>
    have t0 : DataW.trod enc Try.prog W base sp held m 9 (([c0, c1].drop 0).take (Try.prog.cellsOf 9)) = some y0 := hf 0 _ rfl
    have t1 : DataW.trod enc Try.prog W base sp held m 9 (([c0, c1].drop 1).take (Try.prog.cellsOf 9)) = some y1 := hf 1 _ rfl
    rw [cl_str] at t0 t1
    simp only [List.drop_succ_cons, List.drop_zero, List.take_succ_cons, List.take_zero] at t0 t1
    obtain ⟨a, e0, _, _⟩ := DataW.trod_string Try.underlying9 t0
    obtain ⟨b, e1, _, _⟩ := DataW.trod_string Try.underlying9 t1
    simp only [List.cons.injEq, and_true] at e0 e1
    subst e0 e1
    refine ⟨(a.data.toList, b.data.toList), ?_⟩
    show _ = [sv _, sv _]
    rw [← sv_of, ← sv_of]
theorem el_op {H : Type} {enc : TypeId × Value → H} {W : World} {base : Nat} {sp : Nat → Bool} {held : Bool} {n : Nat} {cs : List Value} {y : DataW H × List MemPlace} (h : DataW.trod enc Try.prog W base sp held n 53 cs = some y) : ∃ o : OpT, cs = opC.enc o := by
  obtain ⟨xs, m, _, rfl, hl, hlen, hf⟩ := DataW.trod_struct Try.underlying53 h
  have c : Try.prog.cellsOf 53 = 6 := by kernel_rfl
  rw [c] at hl
  match xs, hlen, cs, hl with
  | [y0, y1, y2, y3, y4, y5], _, [c0, c1, c2, c3, c4, c5], _ =>
    have t0 : DataW.trod enc Try.prog W base sp held m 3 (([c0, c1, c2, c3, c4, c5].drop 0).take (Try.prog.cellsOf 3)) = some y0 := hf 0 _ rfl
    have t1 : DataW.trod enc Try.prog W base sp held m 9 (([c0, c1, c2, c3, c4, c5].drop 1).take (Try.prog.cellsOf 9)) = some y1 := hf 1 _ rfl
    have t2 : DataW.trod enc Try.prog W base sp held m 9 (([c0, c1, c2, c3, c4, c5].drop 2).take (Try.prog.cellsOf 9)) = some y2 := hf 2 _ rfl
    have t3 : DataW.trod enc Try.prog W base sp held m 9 (([c0, c1, c2, c3, c4, c5].drop 3).take (Try.prog.cellsOf 9)) = some y3 := hf 3 _ rfl
    have t4 : DataW.trod enc Try.prog W base sp held m 9 (([c0, c1, c2, c3, c4, c5].drop 4).take (Try.prog.cellsOf 9)) = some y4 := hf 4 _ rfl
    have t5 : DataW.trod enc Try.prog W base sp held m 3 (([c0, c1, c2, c3, c4, c5].drop 5).take (Try.prog.cellsOf 3)) = some y5 := hf 5 _ rfl
    rw [cl_int] at t0 t5
    rw [cl_str] at t1 t2 t3 t4
    simp only [List.drop_succ_cons, List.drop_zero, List.take_succ_cons, List.take_zero] at t0 t1 t2 t3 t4 t5
    obtain ⟨k, e0, _, _⟩ := DataW.trod_int Try.underlying3 t0
    obtain ⟨s1, e1, _, _⟩ := DataW.trod_string Try.underlying9 t1
    obtain ⟨s2, e2, _, _⟩ := DataW.trod_string Try.underlying9 t2
    obtain ⟨s3, e3, _, _⟩ := DataW.trod_string Try.underlying9 t3
    obtain ⟨s4, e4, _, _⟩ := DataW.trod_string Try.underlying9 t4
    obtain ⟨k5, e5, _, _⟩ := DataW.trod_int Try.underlying3 t5
    simp only [List.cons.injEq, and_true] at e0 e1 e2 e3 e4 e5
    subst e0 e1 e2 e3 e4 e5
    refine ⟨⟨k, s1.data.toList, s2.data.toList, s3.data.toList, s4.data.toList, k5⟩, ?_⟩
    show _ = [_, sv _, sv _, sv _, sv _, _]
    rw [← sv_of, ← sv_of, ← sv_of, ← sv_of]
end Go.Proofs.Ytccindbiodofmaa.Ab

/- Structs: whether two are the same. -/
namespace Go.Proofs.Ytccindbiodofmaa.Ab
open Go

def FieldsEq (P : Program) (d : Nat) (xs ys : Array Value) : List Field → List Bool → Prop
  | [], [] => True
  | f :: fs, e :: es => f.name ≠ "_" ∧ (∃ p q, pureRun P (part f.type xs f.offset) = some p ∧ pureRun P (part f.type ys f.offset) = some q ∧ pureRun P (Op.equalIn d f.type p q) = some e) ∧ FieldsEq P d xs ys fs es
  | _, _ => False
theorem forIn_fields {P : Program} {d : Nat} {xs ys : Array Value} : ∀ {fs : List Field} {es : List Bool}, FieldsEq P d xs ys fs es →
    pureRun P (ForIn.forIn fs ((none, ()) : Option Bool × Unit) (fun f __s =>
      if f.name ≠ "_" then do
        let __do_lift ← part f.type xs f.offset
        let __do_lift_1 ← part f.type ys f.offset
        let __do_lift ← Op.equalIn d f.type __do_lift __do_lift_1
        if (!__do_lift) = true then Pure.pure (ForInStep.done (some false, ()))
        else Pure.pure (ForInStep.yield (none, ()))
      else Pure.pure (ForInStep.yield (none, ()))) : Sem (Option Bool × Unit)) = some (if es.all id = true then none else some false, ())
  | [], [], _ => rfl
  | f :: fs, e :: es, ⟨hn, ⟨p, q, h1, h2, h3⟩, h⟩ => by
    have ih := forIn_fields h
    rw [List.forIn_cons, pr_bind, if_pos hn, pr_bind, h1, Option.bind_some, pr_bind, h2, Option.bind_some, pr_bind, h3, Option.bind_some]
    cases e with
    | false => rfl
    | true =>
      simp only [Bool.not_true, Bool.false_eq_true, if_false, pr_pure, Option.bind_some]
      rw [ih]
      rfl
theorem pr_struct {P : Program} {t : TypeId} {fs : Array Field} {d : Nat} {xs ys : Array Value} (hu : P.underlying t = some (.struct fs)) (hh : P.stoodInHeld t = false) {es : List Bool} (h : FieldsEq P d xs ys fs.toList es) : pureRun P (Op.equalIn (d + 1) t (.agg xs) (.agg ys)) = some (es.all id) := by
  unfold Op.equalIn
  rw [pr_bind, pr_und hu]
  simp only [Option.bind_some]
  rw [pr_bind, pr_program]
  simp only [Option.bind_some, hh, Bool.false_eq_true, if_false, pr_bind]
  have := forIn_fields h
  obtain ⟨l⟩ := fs
  simp only [List.forIn_toArray] at this ⊢
  rw [this]
  simp only [Option.bind_some]
  cases es.all id <;> rfl
theorem in_int {n : Nat} {t : TypeId} {k : IntKind} {x y : Int} (h : Try.prog.underlying t = some (.int k)) : pureRun Try.prog (Op.equalIn (n + 1) t (.int k x) (.int k y)) = some (x == y) := by
  unfold Op.equalIn
  rw [pr_bind, pr_und h]
  simp only [Option.bind_some, if_true, pr_pure]
end Go.Proofs.Ytccindbiodofmaa.Ab
