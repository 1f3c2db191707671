/- What operations touch, all of some. -/
import Derived.Test.YtdhadhelcpeiaaaOpLists
set_option linter.unusedVariables false
set_option linter.unusedSimpArgs false
set_option linter.unusedSectionVars false
namespace Go.Proofs.Ytdhadhelcpeiaaa.Ab
open Go

def locksL (l : List OpT) : List Lk := l.map fun o => (spR o, wrt o.kind)
theorem own_ok {α : Type} {s t : St} {a : α} (h : s.heap.length ≤ t.heap.length) : ownR s (a, t) = some (a, t) := by unfold ownR; rw [if_pos h]
theorem lk_build (r : Rg) (b : Bool) : abuild Try.prog 57 [(0, rv r), (1, .bool b)] = some (lkV (r, b)) := by
  obtain ⟨x, y⟩ := r
  kernel_rfl
theorem x_pt0 (p : Rg × Int) : aextract 0 (ptV p) = some (rv p.1) := Eq.trans rfl (Eq.refl _)
theorem x_pt1 (p : Rg × Int) : aextract 1 (ptV p) = some (.int .i64 p.2) := Eq.trans rfl (Eq.refl _)
theorem allE_bad {l : List OpT} : ∀ {m : List OpT}, allE m = 0 → allE (m ++ l) = allE l
  | [], _ => rfl
  | o :: m, h => by
    rw [allE_cons] at h
    split at h
    · rename_i h1
      rw [List.cons_append, allE_cons, if_pos h1]
      exact allE_bad h
    · rename_i h1; exact absurd h h1
theorem Locks_loop {R : Caller} (hS : ∀ o s, R 17 [oV o] s = some (ptV (spL o), s)) (hW : ∀ o s, R 15 [oV o] s = some (.bool (wrt o.kind), s)) {v : Value} {s0 : St} {l : List OpT} (h : listOf opC v s0 = some l) (hl : l.length ≤ 3000000000000) : ∀ (rest : List OpT) (i : Nat) (s : St) (out : Value), l.drop i = rest → i ≤ l.length → Ext s0.heap.length s0 s → Own s0.heap.length 3 s out (encL lkC (locksL (l.take i))) →
    if allE rest = 0 then ∃ v' t, loopL (op_Locks.b0 R) [out, v, .int .i64 ((l.length : Nat) : Int), .int .i64 (i : Int)] s = some (.exit 0, [v'], t) ∧ Own s0.heap.length 3 t v' (encL lkC (locksL l)) ∧ Ext s0.heap.length s0 t
    else ∃ t, loopL (op_Locks.b0 R) [out, v, .int .i64 ((l.length : Nat) : Int), .int .i64 (i : Int)] s = some (.ret, [.slice none 0 0, .int .i64 (allE rest)], t) ∧ Ext s0.heap.length s0 t := by
  intro rest
  induction rest with
  | nil =>
    intro i s out hi hle hx ho
    rw [if_pos (c := allE [] = 0) rfl]
    have hge := List.drop_eq_nil_iff.1 hi
    have h1 : decide ((i : Int) < ((l.length : Nat) : Int)) = false := by simp; omega
    refine ⟨out, s, ?_, ?_, hx⟩
    · rw [loopL_eq]
      simp only [op_Locks.b0, h1, n_bind, n_map, getL_0, getL_1, getL_2, getL_3, getL_4, getL_5, getL_6, getL_7, getL_8, getL_9, getL_10, getL_11, getL_12, condV_t, condV_f, guardV_tt, guardV_ff, guardV_tf, guardV_ft, guardV_u, apick_t, apick_f, exV_exit, exV_ret, lookE_same, joinK_eq, seqA_n, seqA_e, seqA_r, e_add, e_sub, e_mul, e_eql, e_neq, e_lss, e_leq, e_gtr, e_geq, e_conv, e_not, e_neg, and_guard, or_guard]
    · rwa [List.take_of_length_le hge] at ho
  | cons o rest ih =>
    intro i s out hi hle hx ho
    obtain ⟨hlt, he, hd⟩ := drop_get hi
    have h1 : decide ((i : Int) < ((l.length : Nat) : Int)) = true := by simp; omega
    obtain ⟨p, h2, h3⟩ := list_at (list_ext hx h) hlt (k := .i64) (n := 6) rfl
    rw [op_enc, he] at h3
    rw [allE_cons]
    by_cases h4 : ckO o = 0
    · rw [if_pos h4]
      have hsp : spL o = (spR o, 0) := by unfold spL; rw [h4]; rfl
      obtain ⟨r, a1, a2, v', s', a3, a4, a5, a6⟩ := own_add1 (C := lkC) (w := 40) (a := (spR o, wrt o.kind)) (v := lkV (spR o, wrt o.kind)) (z := [(.string ⟨#[]⟩), (.string ⟨#[]⟩), (.bool false)]) ho hx.1 (by decide) (by decide) rfl rfl rfl (by
        unfold locksL
        rw [List.length_map, List.length_take]; omega) (n := 3) rfl
      have htk : locksL (l.take i) ++ [(spR o, wrt o.kind)] = locksL (l.take (i + 1)) := by
        unfold locksL
        rw [List.take_add_one, List.getElem?_eq_getElem hlt, he]
        simp
      rw [htk] at a4
      have key := ih (i + 1) s' v' hd (by omega) (hx.trans a5) a4
      have hstep : loopL (op_Locks.b0 R) [out, v, .int .i64 ((l.length : Nat) : Int), .int .i64 (i : Int)] s = loopL (op_Locks.b0 R) [v', v, .int .i64 ((l.length : Nat) : Int), .int .i64 ((i + 1 : Nat) : Int)] s' := by
        rw [loopL_eq]
        have z0 : ((0 : Int) != 0) = false := rfl
        simp only [op_Locks.b0, h1, h2, h3, o_st, o_all, op_Span_call, hS, hsp, x_pt0, x_pt1, z_rv, st_rv, ld_rv, z0, n_bind, n_map, getL_0, getL_1, getL_2, getL_3, getL_4, getL_5, getL_6, getL_7, getL_8, getL_9, getL_10, getL_11, getL_12, condV_t, condV_f, guardV_tt, guardV_ff, guardV_tf, guardV_ft, guardV_u, apick_t, apick_f, exV_exit, exV_ret, lookE_same, joinK_eq, seqA_n, seqA_e, seqA_r, e_add, e_sub, e_mul, e_eql, e_neq, e_lss, e_leq, e_gtr, e_geq, e_conv, e_not, e_neg, and_guard, or_guard]
        simp only [op_Writes_call, hW, own_id, lk_build, n_bind, n_map, getL_0, getL_1, getL_2, getL_3, getL_4, getL_5, getL_6, getL_7, getL_8, getL_9, getL_10, getL_11, getL_12, condV_t, condV_f, guardV_tt, guardV_ff, guardV_tf, guardV_ft, guardV_u, apick_t, apick_f, exV_exit, exV_ret, lookE_same, joinK_eq, seqA_n, seqA_e, seqA_r, e_add, e_sub, e_mul, e_eql, e_neq, e_lss, e_leq, e_gtr, e_geq, e_conv, e_not, e_neg, and_guard, or_guard]
        simp only [a1, own_ok a2, a3, own_ok a6, inc_i64 (show i < 140737488355328 by omega), n_bind, n_map, getL_0, getL_1, getL_2, getL_3, getL_4, getL_5, getL_6, getL_7, getL_8, getL_9, getL_10, getL_11, getL_12, condV_t, condV_f, guardV_tt, guardV_ff, guardV_tf, guardV_ft, guardV_u, apick_t, apick_f, exV_exit, exV_ret, lookE_same, joinK_eq, seqA_n, seqA_e, seqA_r, e_add, e_sub, e_mul, e_eql, e_neq, e_lss, e_leq, e_gtr, e_geq, e_conv, e_not, e_neg, and_guard, or_guard]
      rw [hstep]
      exact key
    · rw [if_neg h4, if_neg h4]
      have hsp : spL o = (([], []), ckO o) := by
        unfold spL
        have : (ckO o == 0) = false := by simp [h4]
        rw [this]; rfl
      have h5 : (ckO o != 0) = true := by simp [h4]
      refine ⟨s, ?_, hx⟩
      rw [loopL_eq]
      simp only [op_Locks.b0, h1, h2, h3, o_st, o_all, op_Span_call, hS, hsp, x_pt0, x_pt1, z_rv, st_rv, ld_rv, h5, n_bind, n_map, getL_0, getL_1, getL_2, getL_3, getL_4, getL_5, getL_6, getL_7, getL_8, getL_9, getL_10, getL_11, getL_12, condV_t, condV_f, guardV_tt, guardV_ff, guardV_tf, guardV_ft, guardV_u, apick_t, apick_f, exV_exit, exV_ret, lookE_same, joinK_eq, seqA_n, seqA_e, seqA_r, e_add, e_sub, e_mul, e_eql, e_neq, e_lss, e_leq, e_gtr, e_geq, e_conv, e_not, e_neg, and_guard, or_guard]
theorem Locks_run {R : Caller} (hS : ∀ o s, R 17 [oV o] s = some (ptV (spL o), s)) (hW : ∀ o s, R 15 [oV o] s = some (.bool (wrt o.kind), s)) {v : Value} {s : St} {l : List OpT} (h : listOf opC v s = some l) (hl : l.length ≤ 3000000000000) :
    if allE l = 0 then ∃ v' t, op_Locks R v s = some (.tuple #[v', .int .i64 0], t) ∧ Own s.heap.length 3 t v' (encL lkC (locksL l)) ∧ Ext s.heap.length s t
    else ∃ t, op_Locks R v s = some (.tuple #[.slice none 0 0, .int .i64 (allE l)], t) ∧ Ext s.heap.length s t := by
  have h1 := Locks_loop hS hW h hl l 0 s (.slice none 0 0) rfl (Nat.zero_le _) (.refl _ _) (Own.nil _ _ _)
  rw [show ((0 : Nat) : Int) = 0 from rfl] at h1
  unfold op_Locks
  by_cases h2 : allE l = 0
  · rw [if_pos h2] at h1 ⊢
    obtain ⟨v', t, g1, g2, g3⟩ := h1
    refine ⟨v', t, ?_, g2, g3⟩
    have hnt : noTup v' = true := by rcases g2 with ⟨rfl, _⟩ | ⟨b, len, rfl, _⟩ <;> rfl
    simp only [list_len h, g1, n_bind, n_map, getL_0, getL_1, getL_2, getL_3, getL_4, getL_5, getL_6, getL_7, getL_8, getL_9, getL_10, getL_11, getL_12, condV_t, condV_f, guardV_tt, guardV_ff, guardV_tf, guardV_ft, guardV_u, apick_t, apick_f, exV_exit, exV_ret, lookE_same, joinK_eq, seqA_n, seqA_e, seqA_r, e_add, e_sub, e_mul, e_eql, e_neq, e_lss, e_leq, e_gtr, e_geq, e_conv, e_not, e_neg, and_guard, or_guard, retV, List.all_cons, hnt]
    rfl
  · rw [if_neg h2] at h1 ⊢
    obtain ⟨t, g1, g3⟩ := h1
    refine ⟨t, ?_, g3⟩
    simp only [list_len h, g1, n_bind, n_map, getL_0, getL_1, getL_2, getL_3, getL_4, getL_5, getL_6, getL_7, getL_8, getL_9, getL_10, getL_11, getL_12, condV_t, condV_f, guardV_tt, guardV_ff, guardV_tf, guardV_ft, guardV_u, apick_t, apick_f, exV_exit, exV_ret, lookE_same, joinK_eq, seqA_n, seqA_e, seqA_r, e_add, e_sub, e_mul, e_eql, e_neq, e_lss, e_leq, e_gtr, e_geq, e_conv, e_not, e_neg, and_guard, or_guard, retV]
    rfl
theorem refLocks_loop {R : Caller} (hS : ∀ o s, R 21 [oV o] s = some (ptV (spL o), s)) (hW : ∀ o s, R 29 [oV o] s = some (.bool (wrt o.kind), s)) {v : Value} {s0 : St} {l : List OpT} (h : listOf opC v s0 = some l) (hl : l.length ≤ 3000000000000) : ∀ (rest : List OpT) (i : Nat) (s : St) (out : Value), l.drop i = rest → i ≤ l.length → allE rest = 0 → Ext s0.heap.length s0 s → Own s0.heap.length 3 s out (encL lkC (locksL (l.take i))) →
    ∃ v' t, loopL (ref04_Locks.b0 R) [out, v, .int .i64 ((l.length : Nat) : Int), .int .i64 (i : Int)] s = some (.exit 0, [v'], t) ∧ Own s0.heap.length 3 t v' (encL lkC (locksL l)) ∧ Ext s0.heap.length s0 t := by
  intro rest
  induction rest with
  | nil =>
    intro i s out hi hle _ hx ho
    have hge := List.drop_eq_nil_iff.1 hi
    have h1 : decide ((i : Int) < ((l.length : Nat) : Int)) = false := by simp; omega
    refine ⟨out, s, ?_, ?_, hx⟩
    · rw [loopL_eq]
      simp only [ref04_Locks.b0, h1, n_bind, n_map, getL_0, getL_1, getL_2, getL_3, getL_4, getL_5, getL_6, getL_7, getL_8, getL_9, getL_10, getL_11, getL_12, condV_t, condV_f, guardV_tt, guardV_ff, guardV_tf, guardV_ft, guardV_u, apick_t, apick_f, exV_exit, exV_ret, lookE_same, joinK_eq, seqA_n, seqA_e, seqA_r, e_add, e_sub, e_mul, e_eql, e_neq, e_lss, e_leq, e_gtr, e_geq, e_conv, e_not, e_neg, and_guard, or_guard]
    · rwa [List.take_of_length_le hge] at ho
  | cons o rest ih =>
    intro i s out hi hle hz hx ho
    obtain ⟨hlt, he, hd⟩ := drop_get hi
    have h1 : decide ((i : Int) < ((l.length : Nat) : Int)) = true := by simp; omega
    obtain ⟨p, h2, h3⟩ := list_at (list_ext hx h) hlt (k := .i64) (n := 6) rfl
    rw [op_enc, he] at h3
    rw [allE_cons] at hz
    split at hz
    case isFalse h4 => exact absurd hz h4
    rename_i h4
    have hsp : spL o = (spR o, 0) := by unfold spL; rw [h4]; rfl
    obtain ⟨r, a1, a2, v', s', a3, a4, a5, a6⟩ := own_add1 (C := lkC) (w := 40) (a := (spR o, wrt o.kind)) (v := lkV (spR o, wrt o.kind)) (z := [(.string ⟨#[]⟩), (.string ⟨#[]⟩), (.bool false)]) ho hx.1 (by decide) (by decide) rfl rfl rfl (by
      unfold locksL
      rw [List.length_map, List.length_take]; omega) (n := 3) rfl
    have htk : locksL (l.take i) ++ [(spR o, wrt o.kind)] = locksL (l.take (i + 1)) := by
      unfold locksL
      rw [List.take_add_one, List.getElem?_eq_getElem hlt, he]
      simp
    rw [htk] at a4
    have hstep : loopL (ref04_Locks.b0 R) [out, v, .int .i64 ((l.length : Nat) : Int), .int .i64 (i : Int)] s = loopL (ref04_Locks.b0 R) [v', v, .int .i64 ((l.length : Nat) : Int), .int .i64 ((i + 1 : Nat) : Int)] s' := by
      rw [loopL_eq]
      simp only [ref04_Locks.b0, h1, h2, h3, o_st, o_all, ref04_Span_call, hS, hsp, x_pt0, x_pt1, z_rv, st_rv, ld_rv, n_bind, n_map, getL_0, getL_1, getL_2, getL_3, getL_4, getL_5, getL_6, getL_7, getL_8, getL_9, getL_10, getL_11, getL_12, condV_t, condV_f, guardV_tt, guardV_ff, guardV_tf, guardV_ft, guardV_u, apick_t, apick_f, exV_exit, exV_ret, lookE_same, joinK_eq, seqA_n, seqA_e, seqA_r, e_add, e_sub, e_mul, e_eql, e_neq, e_lss, e_leq, e_gtr, e_geq, e_conv, e_not, e_neg, and_guard, or_guard]
      simp only [ref04_Writes_call, hW, own_id, lk_build, n_bind, n_map, getL_0, getL_1, getL_2, getL_3, getL_4, getL_5, getL_6, getL_7, getL_8, getL_9, getL_10, getL_11, getL_12, condV_t, condV_f, guardV_tt, guardV_ff, guardV_tf, guardV_ft, guardV_u, apick_t, apick_f, exV_exit, exV_ret, lookE_same, joinK_eq, seqA_n, seqA_e, seqA_r, e_add, e_sub, e_mul, e_eql, e_neq, e_lss, e_leq, e_gtr, e_geq, e_conv, e_not, e_neg, and_guard, or_guard]
      simp only [a1, own_ok a2, a3, own_ok a6, inc_i64 (show i < 140737488355328 by omega), n_bind, n_map, getL_0, getL_1, getL_2, getL_3, getL_4, getL_5, getL_6, getL_7, getL_8, getL_9, getL_10, getL_11, getL_12, condV_t, condV_f, guardV_tt, guardV_ff, guardV_tf, guardV_ft, guardV_u, apick_t, apick_f, exV_exit, exV_ret, lookE_same, joinK_eq, seqA_n, seqA_e, seqA_r, e_add, e_sub, e_mul, e_eql, e_neq, e_lss, e_leq, e_gtr, e_geq, e_conv, e_not, e_neg, and_guard, or_guard]
    rw [hstep]
    exact ih (i + 1) s' v' hd (by omega) hz (hx.trans a5) a4
theorem refLocks_run {R : Caller} (hA : ∀ xs s, R 33 xs s = gAllE xs s) (hS : ∀ o s, R 21 [oV o] s = some (ptV (spL o), s)) (hW : ∀ o s, R 29 [oV o] s = some (.bool (wrt o.kind), s)) {v : Value} {s : St} {l : List OpT} (h : listOf opC v s = some l) (hl : l.length ≤ 3000000000000) :
    if allE l = 0 then ∃ v' t, ref04_Locks R v s = some (.tuple #[v', .int .i64 0], t) ∧ Own s.heap.length 3 t v' (encL lkC (locksL l)) ∧ Ext s.heap.length s t
    else ∃ t, ref04_Locks R v s = some (.tuple #[.slice none 0 0, .int .i64 (allE l)], t) ∧ Ext s.heap.length s t := by
  unfold ref04_Locks
  by_cases h2 : allE l = 0
  · rw [if_pos h2]
    have h1 := refLocks_loop hS hW h hl l 0 s (.slice none 0 0) rfl (Nat.zero_le _) h2 (.refl _ _) (Own.nil _ _ _)
    rw [show ((0 : Nat) : Int) = 0 from rfl] at h1
    obtain ⟨v', t, g1, g2, g3⟩ := h1
    refine ⟨v', t, ?_, g2, g3⟩
    have hnt : noTup v' = true := by rcases g2 with ⟨rfl, _⟩ | ⟨b, len, rfl, _⟩ <;> rfl
    have z0 : ((0 : Int) != 0) = false := rfl
    simp only [ref04_All_call, hA, allE_eq h (by omega), h2, z0, list_len h, g1, n_bind, n_map, getL_0, getL_1, getL_2, getL_3, getL_4, getL_5, getL_6, getL_7, getL_8, getL_9, getL_10, getL_11, getL_12, condV_t, condV_f, guardV_tt, guardV_ff, guardV_tf, guardV_ft, guardV_u, apick_t, apick_f, exV_exit, exV_ret, lookE_same, joinK_eq, seqA_n, seqA_e, seqA_r, e_add, e_sub, e_mul, e_eql, e_neq, e_lss, e_leq, e_gtr, e_geq, e_conv, e_not, e_neg, and_guard, or_guard, retV, List.all_cons, hnt]
    rfl
  · rw [if_neg h2]
    have h5 : (allE l != 0) = true := by simp [h2]
    refine ⟨s, ?_, .refl _ _⟩
    simp only [ref04_All_call, hA, allE_eq h (by omega), h5, n_bind, n_map, getL_0, getL_1, getL_2, getL_3, getL_4, getL_5, getL_6, getL_7, getL_8, getL_9, getL_10, getL_11, getL_12, condV_t, condV_f, guardV_tt, guardV_ff, guardV_tf, guardV_ft, guardV_u, apick_t, apick_f, exV_exit, exV_ret, lookE_same, joinK_eq, seqA_n, seqA_e, seqA_r, e_add, e_sub, e_mul, e_eql, e_neq, e_lss, e_leq, e_gtr, e_geq, e_conv, e_not, e_neg, and_guard, or_guard, retV]
    rfl

end Go.Proofs.Ytdhadhelcpeiaaa.Ab
