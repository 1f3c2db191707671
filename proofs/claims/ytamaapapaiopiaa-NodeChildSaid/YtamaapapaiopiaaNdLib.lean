/- Nodes: what is known, level by level; which may be. -/
import Derived.Test.YtamaapapaiopiaaNdCheck
import Derived.Test.YtamaapapaiopiaaNdLive
set_option linter.unusedVariables false
set_option linter.unusedSimpArgs false
set_option linter.unusedSectionVars false
namespace Go.Proofs.Ytamaapapaiopiaa.Ab
open Go

def gOf : Sum := gP (G1O fun o => rv (o.lo, o.hi))
def gCkO : Sum := gP (G1O fun o => .int .i64 (ckO o))
def gWr : Sum := gP (G1O fun o => .bool (wrt o.kind))
theorem of_eq {o : OpT} {s : St} : gOf [oV o] s = some (rv (o.lo, o.hi), s) := rfl
theorem ckO_eq {o : OpT} {s : St} : gCkO [oV o] s = some (.int .i64 (ckO o), s) := rfl
theorem wr_eq {o : OpT} {s : St} : gWr [oV o] s = some (.bool (wrt o.kind), s) := rfl
def lib0 : List (FuncId × Sum) := []
theorem lib0_ok : LibOk Try.prog (libL lib0) := libOk_nil _
noncomputable def lib1 : List (FuncId × Sum) := (30, gKey) :: lib0
theorem lib1_ok : LibOk Try.prog (libL lib1) := libOk_cons progOk lib0_ok span_CheckKey_ok (sum1K fun k s => ⟨rfl, s, span_CheckKey_of rfl (CheckKey_run k s)⟩)
noncomputable def lib2 : List (FuncId × Sum) := (88, gAll) :: lib1
theorem lib2_ok : LibOk Try.prog (libL lib2) := libOk_cons progOk lib1_ok span_all_ok (sum0 fun s => ⟨rfl, s, span_all_of rfl (all_run s)⟩)
noncomputable def lib3 : List (FuncId × Sum) := (83, gLeast) :: lib2
theorem lib3_ok : LibOk Try.prog (libL lib3) := libOk_cons progOk lib2_ok span_least_ok (sum2KK fun a b s => ⟨rfl, s, span_least_of rfl (least_run a b s)⟩)
noncomputable def lib4 : List (FuncId × Sum) := (82, gChk) :: lib3
theorem lib4_ok : LibOk Try.prog (libL lib4) := libOk_cons progOk lib3_ok span_Check_ok (sum1R fun r s => ⟨rfl, s, span_Check_of rfl (Check_run (fun s => (known (g := gAll) rfl).trans all_eq) r s)⟩)
noncomputable def lib5 : List (FuncId × Sum) := (62, gHas) :: lib4
theorem lib5_ok : LibOk Try.prog (libL lib5) := libOk_cons progOk lib4_ok span_Has_ok (sum2RK fun r k s => ⟨rfl, s, span_Has_of rfl (Has_run (fun r s => (known (g := gChk) rfl).trans chk_eq) (fun k s => (known (g := gKey) rfl).trans key_eq) r k s)⟩)
noncomputable def lib6 : List (FuncId × Sum) := (61, gCov) :: lib5
theorem lib6_ok : LibOk Try.prog (libL lib6) := libOk_cons progOk lib5_ok span_Covers_ok (sum2RR fun a b s => ⟨rfl, s, span_Covers_of rfl (Covers_run (fun r s => (known (g := gChk) rfl).trans chk_eq) (fun a b s => (known (g := gLeast) rfl).trans least_eq) a b s)⟩)
noncomputable def lib7 : List (FuncId × Sum) := (87, gForms) :: lib6
theorem lib7_ok : LibOk Try.prog (libL lib7) := libOk_cons progOk lib6_ok op_forms_ok (sum0 fun s => ⟨rfl, s, op_forms_of rfl (forms_run s)⟩)
noncomputable def lib8 : List (FuncId × Sum) := (80, gFm) :: lib7
theorem lib8_ok : LibOk Try.prog (libL lib8) := libOk_cons progOk lib7_ok op_formOf_ok (sum1I fun k s => ⟨form_plain k, s, op_formOf_of rfl (formOf_run (fun s => (known (g := gForms) rfl).trans forms_eq) k s)⟩)
noncomputable def lib9 : List (FuncId × Sum) := (81, gOf) :: lib8
theorem lib9_ok : LibOk Try.prog (libL lib9) := libOk_cons progOk lib8_ok op_of_ok (sum1O fun o s => ⟨rfl, s, op_of_of rfl (of_run o s)⟩)
noncomputable def lib10 : List (FuncId × Sum) := (58, gCkO) :: lib9
theorem lib10_ok : LibOk Try.prog (libL lib10) := libOk_cons progOk lib9_ok op_CheckOp_ok (sum1O fun o s => ⟨rfl, s, op_CheckOp_of rfl (CheckOp_run (fun k s => (known (g := gFm) rfl).trans fm_eq) (fun o s => (known (g := gOf) rfl).trans of_eq) (fun r s => (known (g := gChk) rfl).trans chk_eq) (fun k s => (known (g := gKey) rfl).trans key_eq) o s)⟩)
noncomputable def lib11 : List (FuncId × Sum) := (59, gWr) :: lib10
theorem lib11_ok : LibOk Try.prog (libL lib11) := libOk_cons progOk lib10_ok op_Writes_ok (sum1O fun o s => ⟨rfl, s, op_Writes_of rfl (Writes_run (fun k s => (known (g := gFm) rfl).trans fm_eq) o s)⟩)
noncomputable def lib12 : List (FuncId × Sum) := (27, gMapE) :: lib11
theorem lib12_ok : LibOk Try.prog (libL lib12) := libOk_cons progOk lib11_ok op_CheckMap_ok (gL_sum (fun _ => rfl) fun v s l h hl => ⟨s, op_CheckMap_of rfl (map_run (fun k s => (known (g := gKey) rfl).trans key_eq) h hl)⟩)
noncomputable def lib13 : List (FuncId × Sum) := (31, gEB) :: lib12
theorem lib13_ok : LibOk Try.prog (libL lib13) := libOk_cons progOk lib12_ok buffer_Check_ok (gL_sum (fun _ => rfl) fun v s l h hl => ⟨s, buffer_Check_of rfl (buffer_Check_run (fun o s => (known (g := gCkO) rfl).trans ckO_eq) (fun o s => (known (g := gWr) rfl).trans wr_eq) h hl)⟩)
noncomputable def lib14 : List (FuncId × Sum) := (7, gTrue) :: lib13
theorem lib14_ok : LibOk Try.prog (libL lib14) := libOk_direct progOk lib13_ok law13_live_ok (fun hl => live_known hl)
noncomputable abbrev libT := lib14
theorem libT_ok : LibOk Try.prog (libL libT) := lib14_ok
theorem k_live {s : St} : (run Try.prog (libL libT) hints) 7 [] s = some (.bool true, s) := (known (g := gTrue) rfl).trans true_eq
theorem k_key (k : BL) (s : St) : (run Try.prog (libL libT) hints) 30 [sv k] s = some (.int .i64 (eK k), s) := (known (g := gKey) rfl).trans key_eq
theorem k_bchk {v : Value} {s : St} {l : List En} (h : listOf enC v s = some l) (hl : l.length < 140737488355328) : (run Try.prog (libL libT) hints) 31 [v] s = some (.int .i64 (eB l), s) := (known (g := gEB) rfl).trans (gL_eq h hl)
theorem k_map {v : Value} {s : St} {m : List Rg} (hm : listOf prC v s = some m) (hl : m.length < 140737488355328) : (run Try.prog (libL libT) hints) 27 [v] s = some (.int .i64 (mapE [] m), s) := (known (g := gMapE) rfl).trans (gL_eq hm hl)

/-! ### The node in memory -/
def nCells (f : Bool) (p k q b : Value) : List Value := [.bool f, p, k, q, b]
def nSt (s0 : St) (f : Bool) (p k q b : Value) : St := s0.push (.row 0 (nCells f p k q b) .act)
section
variable {s0 : St} {f : Bool} {p k q b : Value} {t : St} (hx : Ext (s0.heap.length + 1) (nSt s0 f p k q b) t)
include hx
theorem nd_row : readRow t s0.heap.length = some (nCells f p k q b) := by
  rw [Ext.readRow hx (by omega)]
  unfold Ab.readRow nSt
  rw [push_get]
theorem nd_ldH {i : Nat} {c : Value} (hc : (nCells f p k q b)[i]? = some c) : aload false 1 (.pointer (some ⟨s0.heap.length, i, none⟩)) t = some c := by
  simp [aload, nd_row hx, hc]
theorem nd_all : aload true 5 (.pointer (some ⟨s0.heap.length, 0, none⟩)) (frzS t) = some (ndV f p k q b) := by
  simp only [aload, if_true, readN, readRow_frz, nd_row hx, Option.bind_some]
  rfl
end
theorem ad {N i : Nat} : afieldAddr i (.pointer (some ⟨N, 0, none⟩)) = some (.pointer (some ⟨N, i, none⟩)) := by simp [afieldAddr]
abbrev pN (s0 : St) : Value := .pointer (some ⟨s0.heap.length, 0, none⟩)

/-! ### The loops -/
theorem nb0_loop {s0 : St} {f : Bool} {p k q b : Value} {s : St} (hx : Ext (s0.heap.length + 1) (nSt s0 f p k q b) s) {ps : List BL} (h : listOf strC q s = some ps) (hl : ps.length < 140737488355328) : ∀ (rest : List BL) (i : Nat), ps.drop i = rest → i ≤ ps.length →
    loopL (node_Check.b0 (run Try.prog (libL libT) hints)) [pN s0, q, .int .i64 ((ps.length : Nat) : Int), .int .i64 (i : Int)] s = if okP (prevS ps i) rest = true then some (.exit 0, [pN s0], s) else some (.ret, [.int .i64 130], s) := by
  have hq := nd_ldH hx (i := 3) (c := q) rfl
  intro rest
  induction rest with
  | nil =>
    intro i hi hle
    have h1 : decide ((i : Int) < ((ps.length : Nat) : Int)) = false := by
      have := List.drop_eq_nil_iff.1 hi
      simp; omega
    rw [loopL_eq]
    simp only [node_Check.b0, h1, n_bind, n_map, getL_0, getL_1, getL_2, getL_3, getL_4, getL_5, getL_6, getL_7, getL_8, getL_9, getL_10, getL_11, getL_12, condV_t, condV_f, guardV_tt, guardV_ff, guardV_tf, guardV_ft, guardV_u, apick_t, apick_f, exV_exit, exV_ret, lookE_same, joinK_eq, seqA_n, seqA_e, seqA_r, e_add, e_sub, e_mul, e_eql, e_neq, e_lss, e_leq, e_gtr, e_geq, e_conv, e_not, e_neg, and_guard, or_guard, okP, if_true]
  | cons x rest ih =>
    intro i hi hle
    obtain ⟨hlt, he, hd⟩ := drop_get hi
    have h1 : decide ((i : Int) < ((ps.length : Nat) : Int)) = true := by simp; omega
    obtain ⟨a, h2, h3⟩ := str_at h hlt
    rw [he] at h3
    have hn : prevS ps (i + 1) = some x := by simp only [prevS, List.getElem?_eq_getElem hlt, he]
    have key := ih (i + 1) hd (by omega)
    rw [hn] at key
    rw [loopL_eq, okP_cons]
    rcases Bool.eq_false_or_eq_true (ckK x) with c1 | c1
    · cases i with
      | zero =>
        have c3 : decide (((0 : Nat) : Int) > 0) = false := rfl
        simp only [node_Check.b0, h1, h2, h3, span_CheckKey_call, k_key, eK_n, c1, c3, Bool.not_true, prevS, Bool.true_and, Bool.and_true, Bool.or_self, inc_i64 (show 0 < 140737488355328 by omega), n_bind, n_map, getL_0, getL_1, getL_2, getL_3, getL_4, getL_5, getL_6, getL_7, getL_8, getL_9, getL_10, getL_11, getL_12, condV_t, condV_f, guardV_tt, guardV_ff, guardV_tf, guardV_ft, guardV_u, apick_t, apick_f, exV_exit, exV_ret, lookE_same, joinK_eq, seqA_n, seqA_e, seqA_r, e_add, e_sub, e_mul, e_eql, e_neq, e_lss, e_leq, e_gtr, e_geq, e_conv, e_not, e_neg, and_guard, or_guard]
        exact key
      | succ j =>
        have c3 : decide (((j + 1 : Nat) : Int) > 0) = true := decide_eq_true (by omega)
        have hj : j < ps.length := by omega
        obtain ⟨a2, f1, f2⟩ := str_at h hj
        have hd1 : IntKind.wrap .i64 (((j + 1 : Nat) : Int) - 1) = ((j : Nat) : Int) := by rw [wrap_i64 (by omega) (by omega)]; omega
        have hp : prevS ps (j + 1) = some ps[j] := by simp only [prevS, List.getElem?_eq_getElem hj]
        rw [hp]
        rcases Bool.eq_false_or_eq_true (bl ps[j] x) with c4 | c4
        · simp only [node_Check.b0, h1, h2, h3, span_CheckKey_call, k_key, eK_n, c1, c3, hd1, ad, hq, f1, f2, geq_bl, c4, Bool.not_true, Bool.true_and, Bool.and_true, Bool.and_self, Bool.or_self, Bool.or_false, Bool.and_false, inc_i64 (show j + 1 < 140737488355328 by omega), n_bind, n_map, getL_0, getL_1, getL_2, getL_3, getL_4, getL_5, getL_6, getL_7, getL_8, getL_9, getL_10, getL_11, getL_12, condV_t, condV_f, guardV_tt, guardV_ff, guardV_tf, guardV_ft, guardV_u, apick_t, apick_f, exV_exit, exV_ret, lookE_same, joinK_eq, seqA_n, seqA_e, seqA_r, e_add, e_sub, e_mul, e_eql, e_neq, e_lss, e_leq, e_gtr, e_geq, e_conv, e_not, e_neg, and_guard, or_guard]
          exact key
        · simp only [node_Check.b0, h1, h2, h3, span_CheckKey_call, k_key, eK_n, c1, c3, hd1, ad, hq, f1, f2, geq_bl, c4, Bool.not_true, Bool.not_false, Bool.true_and, Bool.and_true, Bool.and_self, Bool.and_false, Bool.false_and, Bool.or_true, Bool.false_or, Bool.false_eq_true, if_false, n_bind, n_map, getL_0, getL_1, getL_2, getL_3, getL_4, getL_5, getL_6, getL_7, getL_8, getL_9, getL_10, getL_11, getL_12, condV_t, condV_f, guardV_tt, guardV_ff, guardV_tf, guardV_ft, guardV_u, apick_t, apick_f, exV_exit, exV_ret, lookE_same, joinK_eq, seqA_n, seqA_e, seqA_r, e_add, e_sub, e_mul, e_eql, e_neq, e_lss, e_leq, e_gtr, e_geq, e_conv, e_not, e_neg, and_guard, or_guard]
    · simp only [node_Check.b0, h1, h2, h3, span_CheckKey_call, k_key, eK_n, c1, Bool.not_false, Bool.false_and, Bool.true_or, Bool.false_eq_true, if_false, n_bind, n_map, getL_0, getL_1, getL_2, getL_3, getL_4, getL_5, getL_6, getL_7, getL_8, getL_9, getL_10, getL_11, getL_12, condV_t, condV_f, guardV_tt, guardV_ff, guardV_tf, guardV_ft, guardV_u, apick_t, apick_f, exV_exit, exV_ret, lookE_same, joinK_eq, seqA_n, seqA_e, seqA_r, e_add, e_sub, e_mul, e_eql, e_neq, e_lss, e_leq, e_gtr, e_geq, e_conv, e_not, e_neg, and_guard, or_guard]
def enN : NCod En := .ofC enC fun e => (Lit.int .u64 e.1).wf = true
theorem row_plain {l : List En} {s : St} {c : Value} (h : (NCod.list enN 88).rel l s [c]) : listOf enC c s = some l ∧ l.length < 140737488355328 := by
  obtain ⟨v, e, h1⟩ := h
  cases e
  obtain ⟨g1, _, g3⟩ := h1.plain
  exact ⟨g1, by omega⟩
def firstE : List (List En) → Int
  | [] => 0
  | l :: r => if eB l == 0 then firstE r else eB l
theorem nb1_loop {P0 : Value} {b : Value} {s : St} {bs : List (List En)} (h : ListN (.list enN 88) 24 bs s b) : ∀ (rest : List (List En)) (i : Nat), bs.drop i = rest → i ≤ bs.length →
    loopL (node_Check.b1 (run Try.prog (libL libT) hints)) [P0, b, .int .i64 ((bs.length : Nat) : Int), .int .i64 (i : Int)] s = if (firstE rest == 0) = true then some (.exit 2, [P0], s) else some (.ret, [.int .i64 (firstE rest)], s) := by
  have hl : bs.length < 140737488355328 := by
    have h1 : bs.length * 24 ≤ 140737488351232 := h.1
    omega
  intro rest
  induction rest with
  | nil =>
    intro i hi hle
    have h1 : decide ((i : Int) < ((bs.length : Nat) : Int)) = false := by
      have := List.drop_eq_nil_iff.1 hi
      simp; omega
    rw [loopL_eq]
    simp only [node_Check.b1, h1, n_bind, n_map, getL_0, getL_1, getL_2, getL_3, getL_4, getL_5, getL_6, getL_7, getL_8, getL_9, getL_10, getL_11, getL_12, condV_t, condV_f, guardV_tt, guardV_ff, guardV_tf, guardV_ft, guardV_u, apick_t, apick_f, exV_exit, exV_ret, lookE_same, joinK_eq, seqA_n, seqA_e, seqA_r, e_add, e_sub, e_mul, e_eql, e_neq, e_lss, e_leq, e_gtr, e_geq, e_conv, e_not, e_neg, and_guard, or_guard, firstE]
    rfl
  | cons x rest ih =>
    intro i hi hle
    obtain ⟨hlt, he, hd⟩ := drop_get hi
    have h1 : decide ((i : Int) < ((bs.length : Nat) : Int)) = true := by simp; omega
    obtain ⟨a, c, h2, h3, h4⟩ := listN_at rfl h hlt
    rw [he] at h4
    obtain ⟨g1, g2⟩ := row_plain h4
    have key := ih (i + 1) hd (by omega)
    have hne : (eB x != 0) = !(eB x == 0) := rfl
    rw [loopL_eq]
    simp only [firstE]
    rcases Bool.eq_false_or_eq_true (eB x == 0) with c1 | c1
    · simp only [node_Check.b1, h1, h2, h3, buffer_Check_call, k_bchk g1 g2, hne, c1, Bool.not_true, if_true, inc_i64 (show i < 140737488355328 by omega), n_bind, n_map, getL_0, getL_1, getL_2, getL_3, getL_4, getL_5, getL_6, getL_7, getL_8, getL_9, getL_10, getL_11, getL_12, condV_t, condV_f, guardV_tt, guardV_ff, guardV_tf, guardV_ft, guardV_u, apick_t, apick_f, exV_exit, exV_ret, lookE_same, joinK_eq, seqA_n, seqA_e, seqA_r, e_add, e_sub, e_mul, e_eql, e_neq, e_lss, e_leq, e_gtr, e_geq, e_conv, e_not, e_neg, and_guard, or_guard]
      exact key
    · simp only [node_Check.b1, h1, h2, h3, buffer_Check_call, k_bchk g1 g2, hne, c1, Bool.not_false, Bool.false_eq_true, if_false, n_bind, n_map, getL_0, getL_1, getL_2, getL_3, getL_4, getL_5, getL_6, getL_7, getL_8, getL_9, getL_10, getL_11, getL_12, condV_t, condV_f, guardV_tt, guardV_ff, guardV_tf, guardV_ft, guardV_u, apick_t, apick_f, exV_exit, exV_ret, lookE_same, joinK_eq, seqA_n, seqA_e, seqA_r, e_add, e_sub, e_mul, e_eql, e_neq, e_lss, e_leq, e_gtr, e_geq, e_conv, e_not, e_neg, and_guard, or_guard]

end Go.Proofs.Ytamaapapaiopiaa.Ab
