/- Entries: as values; which are a buffer. -/
import Derived.Test.YtamaapapaiopiaaOpLists
set_option linter.unusedVariables false
set_option linter.unusedSimpArgs false
set_option linter.unusedSectionVars false
namespace Go.Proofs.Ytamaapapaiopiaa.Ab
open Go

abbrev En := Int × OpT
def enV (e : En) : Value := .agg #[.int .u64 e.1, .int .i64 e.2.kind, sv e.2.key, sv e.2.val, sv e.2.lo, sv e.2.hi, .int .i64 e.2.most]
def enC : Cod En where
  n := 7
  enc e := .int .u64 e.1 :: oC e.2
  pos := by decide
  len _ := rfl
  inj a b h := by
    obtain ⟨h1, h2⟩ := List.cons.inj h
    exact Prod.ext (int_inj h1) (opC.inj _ _ h2)
  leaf _ := rfl
theorem en_enc (e : En) : Value.agg (enC.enc e).toArray = enV e := rfl
theorem n_st (e f : En) : lstore 7 lptr (enV e) (enV f) = some (enV e) := rfl
theorem n_z : (Value.agg #[(.int .u64 0), (.int .i64 0), sv [], sv [], sv [], sv [], (.int .i64 0)]) = enV (0, ⟨0, [], [], [], [], 0⟩) := rfl
theorem n_seq (e : En) : lload false 1 lptr (enV e) = some (.int .u64 e.1) := rfl
theorem n_op (e : En) : lload true 6 (.pointer (some ⟨0, 1, none⟩)) (enV e) = some (oV e.2) := rfl
theorem n_kind (e : En) : lload false 1 (.pointer (some ⟨0, 1, none⟩)) (enV e) = some (.int .i64 e.2.kind) := rfl
theorem n_val (e : En) : lload false 1 (.pointer (some ⟨0, 3, none⟩)) (enV e) = some (sv e.2.val) := rfl

/-! ### Which are a buffer -/
def stE (p : Option Int) (e : En) : Int := if ckO e.2 == 0 then (if wrt e.2.kind then (if (match p with | some q => decide (q ≥ e.1) | none => false) then 1 else 0) else 40) else ckO e.2
def eBF : Option Int → List En → Int
  | _, [] => 0
  | p, e :: l => if stE p e == 0 then eBF (some e.1) l else stE p e
def eB (l : List En) : Int := eBF none l
def prevE (l : List En) : Nat → Option Int
  | 0 => none
  | i + 1 => l[i]?.map (·.1)
theorem i_n0 {n : Int} : (n != 0) = !(n == 0) := rfl
theorem buffer_Check_one {R : Caller} (hC : ∀ o s, R 58 [oV o] s = some (.int .i64 (ckO o), s)) (hW : ∀ o s, R 59 [oV o] s = some (.bool (wrt o.kind), s)) {v : Value} {s : St} {l : List En} (h : listOf enC v s = some l) {i : Nat} (hi : i < l.length) (hl : l.length < 140737488355328) :
    buffer_Check.b0 R [v, v, .int .i64 ((l.length : Nat) : Int), .int .i64 (i : Int)] s = if (stE (prevE l i) l[i] == 0) = true then some (.normal, [v, v, .int .i64 ((l.length : Nat) : Int), .int .i64 ((i + 1 : Nat) : Int)], s) else some (.ret, [.int .i64 (stE (prevE l i) l[i])], s) := by
  have h1 : decide ((i : Int) < ((l.length : Nat) : Int)) = true := by simp; omega
  obtain ⟨p, g1, g2⟩ := list_at h hi (k := .i64) (n := 7) rfl
  rw [en_enc] at g2
  unfold buffer_Check.b0
  simp only [getL_0, getL_1, getL_2, getL_3, e_lss, h1, n_bind, condV_t, g1, g2, nil_sv, n_z, n_st, n_op, op_CheckOp_call, hC, e_neq]
  unfold stE
  rcases Bool.eq_false_or_eq_true (ckO l[i].2 == 0) with c1 | c1
  · rcases Bool.eq_false_or_eq_true (wrt l[i].2.kind) with c2 | c2
    · cases i with
      | zero =>
        have c3 : decide (((0 : Nat) : Int) > 0) = false := rfl
        simp only [i_n0, c1, c2, c3, prevE, n_op, n_seq, op_Writes_call, hW, e_gtr, own_id, inc_i64 (show 0 < 140737488355328 by omega), Bool.not_true, n_bind, n_map, getL_0, getL_1, getL_2, getL_3, getL_4, getL_5, getL_6, getL_7, getL_8, getL_9, getL_10, getL_11, getL_12, condV_t, condV_f, guardV_tt, guardV_ff, guardV_tf, guardV_ft, guardV_u, apick_t, apick_f, exV_exit, exV_ret, lookE_same, joinK_eq, seqA_n, seqA_e, seqA_r, e_add, e_sub, e_mul, e_eql, e_neq, e_lss, e_leq, e_gtr, e_geq, e_conv, e_not, e_neg, and_guard, or_guard]
        rfl
      | succ j =>
        have c3 : decide (((j + 1 : Nat) : Int) > 0) = true := decide_eq_true (by omega)
        have hj : j < l.length := by omega
        obtain ⟨q, f1, q2, f2, f3⟩ := list_field h hj (j := 0) (c := .int .u64 l[j].1) rfl (k := .i64) (n := 7) rfl
        have hp : prevE l (j + 1) = some l[j].1 := by simp only [prevE, List.getElem?_eq_getElem hj, Option.map_some]
        have hd : IntKind.wrap .i64 (((j + 1 : Nat) : Int) - 1) = ((j : Nat) : Int) := by rw [wrap_i64 (by omega) (by omega)]; omega
        rw [hp]
        rcases Bool.eq_false_or_eq_true (decide (l[j].1 ≥ l[j + 1].1)) with c4 | c4
        · simp only [i_n0, c1, c2, c3, c4, n_op, n_seq, op_Writes_call, hW, e_gtr, e_geq, own_id, hd, f1, f2, f3, Bool.not_true, if_true, n_bind, n_map, getL_0, getL_1, getL_2, getL_3, getL_4, getL_5, getL_6, getL_7, getL_8, getL_9, getL_10, getL_11, getL_12, condV_t, condV_f, guardV_tt, guardV_ff, guardV_tf, guardV_ft, guardV_u, apick_t, apick_f, exV_exit, exV_ret, lookE_same, joinK_eq, seqA_n, seqA_e, seqA_r, e_add, e_sub, e_mul, e_eql, e_neq, e_lss, e_leq, e_gtr, e_geq, e_conv, e_not, e_neg, and_guard, or_guard]
          rfl
        · simp only [i_n0, c1, c2, c3, c4, n_op, n_seq, op_Writes_call, hW, e_gtr, e_geq, own_id, hd, f1, f2, f3, inc_i64 (show j + 1 < 140737488355328 by omega), Bool.not_true, if_true, n_bind, n_map, getL_0, getL_1, getL_2, getL_3, getL_4, getL_5, getL_6, getL_7, getL_8, getL_9, getL_10, getL_11, getL_12, condV_t, condV_f, guardV_tt, guardV_ff, guardV_tf, guardV_ft, guardV_u, apick_t, apick_f, exV_exit, exV_ret, lookE_same, joinK_eq, seqA_n, seqA_e, seqA_r, e_add, e_sub, e_mul, e_eql, e_neq, e_lss, e_leq, e_gtr, e_geq, e_conv, e_not, e_neg, and_guard, or_guard]
          rfl
    · simp only [i_n0, c1, c2, n_op, op_Writes_call, hW, Bool.not_true, Bool.not_false, if_true, Bool.false_eq_true, if_false, n_bind, n_map, getL_0, getL_1, getL_2, getL_3, getL_4, getL_5, getL_6, getL_7, getL_8, getL_9, getL_10, getL_11, getL_12, condV_t, condV_f, guardV_tt, guardV_ff, guardV_tf, guardV_ft, guardV_u, apick_t, apick_f, exV_exit, exV_ret, lookE_same, joinK_eq, seqA_n, seqA_e, seqA_r, e_add, e_sub, e_mul, e_eql, e_neq, e_lss, e_leq, e_gtr, e_geq, e_conv, e_not, e_neg, and_guard, or_guard]
      rfl
  · simp only [i_n0, c1, Bool.not_false, Bool.false_eq_true, if_false, n_bind, n_map, getL_0, getL_1, getL_2, getL_3, getL_4, getL_5, getL_6, getL_7, getL_8, getL_9, getL_10, getL_11, getL_12, condV_t, condV_f, guardV_tt, guardV_ff, guardV_tf, guardV_ft, guardV_u, apick_t, apick_f, exV_exit, exV_ret, lookE_same, joinK_eq, seqA_n, seqA_e, seqA_r, e_add, e_sub, e_mul, e_eql, e_neq, e_lss, e_leq, e_gtr, e_geq, e_conv, e_not, e_neg, and_guard, or_guard]
theorem buffer_Check_loop {R : Caller} (hC : ∀ o s, R 58 [oV o] s = some (.int .i64 (ckO o), s)) (hW : ∀ o s, R 59 [oV o] s = some (.bool (wrt o.kind), s)) {v : Value} {s : St} {l : List En} (h : listOf enC v s = some l) (hl : l.length < 140737488355328) : ∀ (rest : List En) (i : Nat), l.drop i = rest → i ≤ l.length →
    loopL (buffer_Check.b0 R) [v, v, .int .i64 ((l.length : Nat) : Int), .int .i64 (i : Int)] s = if (eBF (prevE l i) rest == 0) = true then some (.exit 0, [], s) else some (.ret, [.int .i64 (eBF (prevE l i) rest)], s) := by
  intro rest
  induction rest with
  | nil =>
    intro i hi hle
    have h1 : decide ((i : Int) < ((l.length : Nat) : Int)) = false := by
      have := List.drop_eq_nil_iff.1 hi
      simp; omega
    rw [loopL_eq]
    simp only [buffer_Check.b0, h1, n_bind, n_map, getL_0, getL_1, getL_2, getL_3, getL_4, getL_5, getL_6, getL_7, getL_8, getL_9, getL_10, getL_11, getL_12, condV_t, condV_f, guardV_tt, guardV_ff, guardV_tf, guardV_ft, guardV_u, apick_t, apick_f, exV_exit, exV_ret, lookE_same, joinK_eq, seqA_n, seqA_e, seqA_r, e_add, e_sub, e_mul, e_eql, e_neq, e_lss, e_leq, e_gtr, e_geq, e_conv, e_not, e_neg, and_guard, or_guard, eBF]
    rfl
  | cons o rest ih =>
    intro i hi hle
    obtain ⟨hlt, he, hd⟩ := drop_get hi
    rw [loopL_eq, buffer_Check_one hC hW h hlt hl, he]
    have hn : prevE l (i + 1) = some o.1 := by simp only [prevE, List.getElem?_eq_getElem hlt, he, Option.map_some]
    have key := ih (i + 1) hd (by omega)
    rw [hn] at key
    simp only [eBF]
    rcases Bool.eq_false_or_eq_true (stE (prevE l i) o == 0) with c | c
    · simp only [c, if_true, seqA_n, key]
    · simp only [c, Bool.false_eq_true, if_false, seqA_r]
theorem buffer_Check_run {R : Caller} (hC : ∀ o s, R 58 [oV o] s = some (.int .i64 (ckO o), s)) (hW : ∀ o s, R 59 [oV o] s = some (.bool (wrt o.kind), s)) {v : Value} {s : St} {l : List En} (h : listOf enC v s = some l) (hl : l.length < 140737488355328) : buffer_Check R v s = some (.int .i64 (eB l), s) := by
  have key := buffer_Check_loop hC hW h hl l 0 rfl (Nat.zero_le _)
  rw [show ((0 : Nat) : Int) = 0 from rfl] at key
  unfold buffer_Check eB
  simp only [list_len h, n_bind, n_map, getL_0, getL_1, getL_2, getL_3, getL_4, getL_5, getL_6, getL_7, getL_8, getL_9, getL_10, getL_11, getL_12, condV_t, condV_f, guardV_tt, guardV_ff, guardV_tf, guardV_ft, guardV_u, apick_t, apick_f, exV_exit, exV_ret, lookE_same, joinK_eq, seqA_n, seqA_e, seqA_r, e_add, e_sub, e_mul, e_eql, e_neq, e_lss, e_leq, e_gtr, e_geq, e_conv, e_not, e_neg, and_guard, or_guard, key]
  rcases Bool.eq_false_or_eq_true (eBF (prevE l 0) l == 0) with c | c
  · simp only [c, if_true, n_bind, n_map, getL_0, getL_1, getL_2, getL_3, getL_4, getL_5, getL_6, getL_7, getL_8, getL_9, getL_10, getL_11, getL_12, condV_t, condV_f, guardV_tt, guardV_ff, guardV_tf, guardV_ft, guardV_u, apick_t, apick_f, exV_exit, exV_ret, lookE_same, joinK_eq, seqA_n, seqA_e, seqA_r, e_add, e_sub, e_mul, e_eql, e_neq, e_lss, e_leq, e_gtr, e_geq, e_conv, e_not, e_neg, and_guard, or_guard, retV]
    have : eBF none l = 0 := by simpa [prevE] using c
    rw [this]
    rfl
  · simp only [c, Bool.false_eq_true, if_false, n_bind, n_map, getL_0, getL_1, getL_2, getL_3, getL_4, getL_5, getL_6, getL_7, getL_8, getL_9, getL_10, getL_11, getL_12, condV_t, condV_f, guardV_tt, guardV_ff, guardV_tf, guardV_ft, guardV_u, apick_t, apick_f, exV_exit, exV_ret, lookE_same, joinK_eq, seqA_n, seqA_e, seqA_r, e_add, e_sub, e_mul, e_eql, e_neq, e_lss, e_leq, e_gtr, e_geq, e_conv, e_not, e_neg, and_guard, or_guard, retV]
    rfl
theorem ref12_Check_one {R : Caller} (hC : ∀ o s, R 70 [oV o] s = some (.int .i64 (ckO o), s)) (hW : ∀ o s, R 71 [oV o] s = some (.bool (wrt o.kind), s)) {v : Value} {s : St} {l : List En} (h : listOf enC v s = some l) {i : Nat} (hi : i < l.length) (hl : l.length < 140737488355328) :
    ref12_Check.b0 R [v, v, .int .i64 ((l.length : Nat) : Int), .int .i64 (i : Int)] s = if (stE (prevE l i) l[i] == 0) = true then some (.normal, [v, v, .int .i64 ((l.length : Nat) : Int), .int .i64 ((i + 1 : Nat) : Int)], s) else some (.ret, [.int .i64 (stE (prevE l i) l[i])], s) := by
  have h1 : decide ((i : Int) < ((l.length : Nat) : Int)) = true := by simp; omega
  obtain ⟨p, g1, g2⟩ := list_at h hi (k := .i64) (n := 7) rfl
  rw [en_enc] at g2
  unfold ref12_Check.b0
  simp only [getL_0, getL_1, getL_2, getL_3, e_lss, h1, n_bind, condV_t, g1, g2, nil_sv, n_z, n_st, n_op, ref04_CheckOp_call, hC, e_neq]
  unfold stE
  rcases Bool.eq_false_or_eq_true (ckO l[i].2 == 0) with c1 | c1
  · rcases Bool.eq_false_or_eq_true (wrt l[i].2.kind) with c2 | c2
    · cases i with
      | zero =>
        have c3 : decide (((0 : Nat) : Int) > 0) = false := rfl
        simp only [i_n0, c1, c2, c3, prevE, n_op, n_seq, ref04_Writes_call, hW, e_gtr, own_id, inc_i64 (show 0 < 140737488355328 by omega), Bool.not_true, n_bind, n_map, getL_0, getL_1, getL_2, getL_3, getL_4, getL_5, getL_6, getL_7, getL_8, getL_9, getL_10, getL_11, getL_12, condV_t, condV_f, guardV_tt, guardV_ff, guardV_tf, guardV_ft, guardV_u, apick_t, apick_f, exV_exit, exV_ret, lookE_same, joinK_eq, seqA_n, seqA_e, seqA_r, e_add, e_sub, e_mul, e_eql, e_neq, e_lss, e_leq, e_gtr, e_geq, e_conv, e_not, e_neg, and_guard, or_guard]
        rfl
      | succ j =>
        have c3 : decide (((j + 1 : Nat) : Int) > 0) = true := decide_eq_true (by omega)
        have hj : j < l.length := by omega
        obtain ⟨q, f1, q2, f2, f3⟩ := list_field h hj (j := 0) (c := .int .u64 l[j].1) rfl (k := .i64) (n := 7) rfl
        have hp : prevE l (j + 1) = some l[j].1 := by simp only [prevE, List.getElem?_eq_getElem hj, Option.map_some]
        have hd : IntKind.wrap .i64 (((j + 1 : Nat) : Int) - 1) = ((j : Nat) : Int) := by rw [wrap_i64 (by omega) (by omega)]; omega
        rw [hp]
        rcases Bool.eq_false_or_eq_true (decide (l[j].1 ≥ l[j + 1].1)) with c4 | c4
        · simp only [i_n0, c1, c2, c3, c4, n_op, n_seq, ref04_Writes_call, hW, e_gtr, e_geq, own_id, hd, f1, f2, f3, Bool.not_true, if_true, n_bind, n_map, getL_0, getL_1, getL_2, getL_3, getL_4, getL_5, getL_6, getL_7, getL_8, getL_9, getL_10, getL_11, getL_12, condV_t, condV_f, guardV_tt, guardV_ff, guardV_tf, guardV_ft, guardV_u, apick_t, apick_f, exV_exit, exV_ret, lookE_same, joinK_eq, seqA_n, seqA_e, seqA_r, e_add, e_sub, e_mul, e_eql, e_neq, e_lss, e_leq, e_gtr, e_geq, e_conv, e_not, e_neg, and_guard, or_guard]
          rfl
        · simp only [i_n0, c1, c2, c3, c4, n_op, n_seq, ref04_Writes_call, hW, e_gtr, e_geq, own_id, hd, f1, f2, f3, inc_i64 (show j + 1 < 140737488355328 by omega), Bool.not_true, if_true, n_bind, n_map, getL_0, getL_1, getL_2, getL_3, getL_4, getL_5, getL_6, getL_7, getL_8, getL_9, getL_10, getL_11, getL_12, condV_t, condV_f, guardV_tt, guardV_ff, guardV_tf, guardV_ft, guardV_u, apick_t, apick_f, exV_exit, exV_ret, lookE_same, joinK_eq, seqA_n, seqA_e, seqA_r, e_add, e_sub, e_mul, e_eql, e_neq, e_lss, e_leq, e_gtr, e_geq, e_conv, e_not, e_neg, and_guard, or_guard]
          rfl
    · simp only [i_n0, c1, c2, n_op, ref04_Writes_call, hW, Bool.not_true, Bool.not_false, if_true, Bool.false_eq_true, if_false, n_bind, n_map, getL_0, getL_1, getL_2, getL_3, getL_4, getL_5, getL_6, getL_7, getL_8, getL_9, getL_10, getL_11, getL_12, condV_t, condV_f, guardV_tt, guardV_ff, guardV_tf, guardV_ft, guardV_u, apick_t, apick_f, exV_exit, exV_ret, lookE_same, joinK_eq, seqA_n, seqA_e, seqA_r, e_add, e_sub, e_mul, e_eql, e_neq, e_lss, e_leq, e_gtr, e_geq, e_conv, e_not, e_neg, and_guard, or_guard]
      rfl
  · simp only [i_n0, c1, Bool.not_false, Bool.false_eq_true, if_false, n_bind, n_map, getL_0, getL_1, getL_2, getL_3, getL_4, getL_5, getL_6, getL_7, getL_8, getL_9, getL_10, getL_11, getL_12, condV_t, condV_f, guardV_tt, guardV_ff, guardV_tf, guardV_ft, guardV_u, apick_t, apick_f, exV_exit, exV_ret, lookE_same, joinK_eq, seqA_n, seqA_e, seqA_r, e_add, e_sub, e_mul, e_eql, e_neq, e_lss, e_leq, e_gtr, e_geq, e_conv, e_not, e_neg, and_guard, or_guard]
theorem ref12_Check_loop {R : Caller} (hC : ∀ o s, R 70 [oV o] s = some (.int .i64 (ckO o), s)) (hW : ∀ o s, R 71 [oV o] s = some (.bool (wrt o.kind), s)) {v : Value} {s : St} {l : List En} (h : listOf enC v s = some l) (hl : l.length < 140737488355328) : ∀ (rest : List En) (i : Nat), l.drop i = rest → i ≤ l.length →
    loopL (ref12_Check.b0 R) [v, v, .int .i64 ((l.length : Nat) : Int), .int .i64 (i : Int)] s = if (eBF (prevE l i) rest == 0) = true then some (.exit 0, [], s) else some (.ret, [.int .i64 (eBF (prevE l i) rest)], s) := by
  intro rest
  induction rest with
  | nil =>
    intro i hi hle
    have h1 : decide ((i : Int) < ((l.length : Nat) : Int)) = false := by
      have := List.drop_eq_nil_iff.1 hi
      simp; omega
    rw [loopL_eq]
    simp only [ref12_Check.b0, h1, n_bind, n_map, getL_0, getL_1, getL_2, getL_3, getL_4, getL_5, getL_6, getL_7, getL_8, getL_9, getL_10, getL_11, getL_12, condV_t, condV_f, guardV_tt, guardV_ff, guardV_tf, guardV_ft, guardV_u, apick_t, apick_f, exV_exit, exV_ret, lookE_same, joinK_eq, seqA_n, seqA_e, seqA_r, e_add, e_sub, e_mul, e_eql, e_neq, e_lss, e_leq, e_gtr, e_geq, e_conv, e_not, e_neg, and_guard, or_guard, eBF]
    rfl
  | cons o rest ih =>
    intro i hi hle
    obtain ⟨hlt, he, hd⟩ := drop_get hi
    rw [loopL_eq, ref12_Check_one hC hW h hlt hl, he]
    have hn : prevE l (i + 1) = some o.1 := by simp only [prevE, List.getElem?_eq_getElem hlt, he, Option.map_some]
    have key := ih (i + 1) hd (by omega)
    rw [hn] at key
    simp only [eBF]
    rcases Bool.eq_false_or_eq_true (stE (prevE l i) o == 0) with c | c
    · simp only [c, if_true, seqA_n, key]
    · simp only [c, Bool.false_eq_true, if_false, seqA_r]
theorem ref12_Check_run {R : Caller} (hC : ∀ o s, R 70 [oV o] s = some (.int .i64 (ckO o), s)) (hW : ∀ o s, R 71 [oV o] s = some (.bool (wrt o.kind), s)) {v : Value} {s : St} {l : List En} (h : listOf enC v s = some l) (hl : l.length < 140737488355328) : ref12_Check R v s = some (.int .i64 (eB l), s) := by
  have key := ref12_Check_loop hC hW h hl l 0 rfl (Nat.zero_le _)
  rw [show ((0 : Nat) : Int) = 0 from rfl] at key
  unfold ref12_Check eB
  simp only [list_len h, n_bind, n_map, getL_0, getL_1, getL_2, getL_3, getL_4, getL_5, getL_6, getL_7, getL_8, getL_9, getL_10, getL_11, getL_12, condV_t, condV_f, guardV_tt, guardV_ff, guardV_tf, guardV_ft, guardV_u, apick_t, apick_f, exV_exit, exV_ret, lookE_same, joinK_eq, seqA_n, seqA_e, seqA_r, e_add, e_sub, e_mul, e_eql, e_neq, e_lss, e_leq, e_gtr, e_geq, e_conv, e_not, e_neg, and_guard, or_guard, key]
  rcases Bool.eq_false_or_eq_true (eBF (prevE l 0) l == 0) with c | c
  · simp only [c, if_true, n_bind, n_map, getL_0, getL_1, getL_2, getL_3, getL_4, getL_5, getL_6, getL_7, getL_8, getL_9, getL_10, getL_11, getL_12, condV_t, condV_f, guardV_tt, guardV_ff, guardV_tf, guardV_ft, guardV_u, apick_t, apick_f, exV_exit, exV_ret, lookE_same, joinK_eq, seqA_n, seqA_e, seqA_r, e_add, e_sub, e_mul, e_eql, e_neq, e_lss, e_leq, e_gtr, e_geq, e_conv, e_not, e_neg, and_guard, or_guard, retV]
    have : eBF none l = 0 := by simpa [prevE] using c
    rw [this]
    rfl
  · simp only [c, Bool.false_eq_true, if_false, n_bind, n_map, getL_0, getL_1, getL_2, getL_3, getL_4, getL_5, getL_6, getL_7, getL_8, getL_9, getL_10, getL_11, getL_12, condV_t, condV_f, guardV_tt, guardV_ff, guardV_tf, guardV_ft, guardV_u, apick_t, apick_f, exV_exit, exV_ret, lookE_same, joinK_eq, seqA_n, seqA_e, seqA_r, e_add, e_sub, e_mul, e_eql, e_neq, e_lss, e_leq, e_gtr, e_geq, e_conv, e_not, e_neg, and_guard, or_guard, retV]
    rfl
noncomputable def gEB : Sum := gL enC fun l => .int .i64 (eB l)

end Go.Proofs.Ytamaapapaiopiaa.Ab
