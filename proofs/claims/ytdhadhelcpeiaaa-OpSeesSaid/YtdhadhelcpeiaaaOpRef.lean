/- What the document's answer does to a map. -/
import Derived.Test.YtdhadhelcpeiaaaOpApply
set_option linter.unusedVariables false
set_option linter.unusedSimpArgs false
set_option linter.unusedSectionVars false
namespace Go.Proofs.Ytdhadhelcpeiaaa.Ab
open Go

/-! ### Find -/
def fdV (m : List Rg) (k : BL) : Value := .tuple #[sv ((cGet m k).getD []), .bool (cGet m k).isSome]
theorem x_fd0 (m : List Rg) (k : BL) : aextract 0 (fdV m k) = some (sv ((cGet m k).getD [])) := Eq.trans rfl (Eq.refl _)
theorem x_fd1 (m : List Rg) (k : BL) : aextract 1 (fdV m k) = some (.bool (cGet m k).isSome) := Eq.trans rfl (Eq.refl _)
theorem find_loop {R : Caller} (k : BL) {v : Value} {s : St} {m : List Rg} (h : listOf prC v s = some m) (hl : m.length < 140737488355328) : ∀ (rest : List Rg) (i : Nat), m.drop i = rest → i ≤ m.length →
    loopL (ref04_Find.b0 R) [sv k, v, .int .i64 ((m.length : Nat) : Int), .int .i64 (i : Int)] s = some ((match cGet rest k with | some x => (Ex.ret, [sv x, .bool true]) | none => (Ex.exit 0, [])).1, (match cGet rest k with | some x => (Ex.ret, [sv x, .bool true]) | none => (Ex.exit 0, [])).2, s) := by
  intro rest
  induction rest with
  | nil =>
    intro i hi hle
    have h1 : decide ((i : Int) < ((m.length : Nat) : Int)) = false := by
      have := List.drop_eq_nil_iff.1 hi
      simp; omega
    rw [loopL_eq]
    simp only [ref04_Find.b0, h1, n_bind, n_map, getL_0, getL_1, getL_2, getL_3, getL_4, getL_5, getL_6, getL_7, getL_8, getL_9, getL_10, getL_11, getL_12, condV_t, condV_f, guardV_tt, guardV_ff, guardV_tf, guardV_ft, guardV_u, apick_t, apick_f, exV_exit, exV_ret, lookE_same, joinK_eq, seqA_n, seqA_e, seqA_r, e_add, e_sub, e_mul, e_eql, e_neq, e_lss, e_leq, e_gtr, e_geq, e_conv, e_not, e_neg, and_guard, or_guard]
    rfl
  | cons p rest ih =>
    intro i hi hle
    obtain ⟨hlt, he, hd⟩ := drop_get hi
    have h1 : decide ((i : Int) < ((m.length : Nat) : Int)) = true := by simp; omega
    obtain ⟨a, h2, h3⟩ := list_at h hlt (k := .i64) (n := 2) rfl
    rw [pr_enc, he] at h3
    rw [loopL_eq, cGet_cons]
    simp only [ref04_Find.b0, h1, h2, h3, z_rv, st_rv, ld_rv, ld_0, ld_1, e_seql, n_bind, n_map, getL_0, getL_1, getL_2, getL_3, getL_4, getL_5, getL_6, getL_7, getL_8, getL_9, getL_10, getL_11, getL_12, condV_t, condV_f, guardV_tt, guardV_ff, guardV_tf, guardV_ft, guardV_u, apick_t, apick_f, exV_exit, exV_ret, lookE_same, joinK_eq, seqA_n, seqA_e, seqA_r, e_add, e_sub, e_mul, e_eql, e_neq, e_lss, e_leq, e_gtr, e_geq, e_conv, e_not, e_neg, and_guard, or_guard]
    cases h4 : (p.1 == k)
    · simp only [Bool.false_eq_true, if_false, inc_i64 (show i < 140737488355328 by omega), n_bind, n_map, getL_0, getL_1, getL_2, getL_3, getL_4, getL_5, getL_6, getL_7, getL_8, getL_9, getL_10, getL_11, getL_12, condV_t, condV_f, guardV_tt, guardV_ff, guardV_tf, guardV_ft, guardV_u, apick_t, apick_f, exV_exit, exV_ret, lookE_same, joinK_eq, seqA_n, seqA_e, seqA_r, e_add, e_sub, e_mul, e_eql, e_neq, e_lss, e_leq, e_gtr, e_geq, e_conv, e_not, e_neg, and_guard, or_guard]
      exact ih (i + 1) hd (by omega)
    · simp only [if_true, n_bind, n_map, getL_0, getL_1, getL_2, getL_3, getL_4, getL_5, getL_6, getL_7, getL_8, getL_9, getL_10, getL_11, getL_12, condV_t, condV_f, guardV_tt, guardV_ff, guardV_tf, guardV_ft, guardV_u, apick_t, apick_f, exV_exit, exV_ret, lookE_same, joinK_eq, seqA_n, seqA_e, seqA_r, e_add, e_sub, e_mul, e_eql, e_neq, e_lss, e_leq, e_gtr, e_geq, e_conv, e_not, e_neg, and_guard, or_guard]
theorem find_run {R : Caller} (k : BL) {v : Value} {s : St} {m : List Rg} (h : listOf prC v s = some m) (hl : m.length < 140737488355328) : ref04_Find R v (sv k) s = some (fdV m k, s) := by
  have h1 := find_loop (R := R) k h hl m 0 rfl (Nat.zero_le _)
  rw [show ((0 : Nat) : Int) = 0 from rfl] at h1
  unfold ref04_Find fdV
  simp only [list_len h, h1, n_bind, n_map, getL_0, getL_1, getL_2, getL_3, getL_4, getL_5, getL_6, getL_7, getL_8, getL_9, getL_10, getL_11, getL_12, condV_t, condV_f, guardV_tt, guardV_ff, guardV_tf, guardV_ft, guardV_u, apick_t, apick_f, exV_exit, exV_ret, lookE_same, joinK_eq, seqA_n, seqA_e, seqA_r, e_add, e_sub, e_mul, e_eql, e_neq, e_lss, e_leq, e_gtr, e_geq, e_conv, e_not, e_neg, and_guard, or_guard]
  cases h2 : cGet m k with
  | none => simp only [n_bind, n_map, getL_0, getL_1, getL_2, getL_3, getL_4, getL_5, getL_6, getL_7, getL_8, getL_9, getL_10, getL_11, getL_12, condV_t, condV_f, guardV_tt, guardV_ff, guardV_tf, guardV_ft, guardV_u, apick_t, apick_f, exV_exit, exV_ret, lookE_same, joinK_eq, seqA_n, seqA_e, seqA_r, e_add, e_sub, e_mul, e_eql, e_neq, e_lss, e_leq, e_gtr, e_geq, e_conv, e_not, e_neg, and_guard, or_guard, retV]; rfl
  | some x => simp only [n_bind, n_map, getL_0, getL_1, getL_2, getL_3, getL_4, getL_5, getL_6, getL_7, getL_8, getL_9, getL_10, getL_11, getL_12, condV_t, condV_f, guardV_tt, guardV_ff, guardV_tf, guardV_ft, guardV_u, apick_t, apick_f, exV_exit, exV_ret, lookE_same, joinK_eq, seqA_n, seqA_e, seqA_r, e_add, e_sub, e_mul, e_eql, e_neq, e_lss, e_leq, e_gtr, e_geq, e_conv, e_not, e_neg, and_guard, or_guard, retV]; rfl

/-! ### without -/
theorem wo_loop {R : Caller} (hH : ∀ r k s, R 57 [rv r, sv k] s = some (.bool (hasR r k), s)) (r : Rg) {v : Value} {s0 : St} {m : List Rg} (h : listOf prC v s0 = some m) : ∀ (rest : List Rg) (i : Nat) (s : St) (out : Value) (acc : List Rg), m.drop i = rest → i ≤ m.length → acc.length + rest.length ≤ 6400000000000 → m.length ≤ 6400000000000 → Ext s0.heap.length s0 s → Own s0.heap.length 2 s out (encL prC acc) →
    ∃ out' t, loopL (ref04_without.b0 R) [lptr, out, v, .int .i64 ((m.length : Nat) : Int), .int .i64 (i : Int), rv r] s = some (.exit 0, [out'], t) ∧ Own s0.heap.length 2 t out' (encL prC (acc ++ cOut rest r)) ∧ Ext s0.heap.length s0 t := by
  intro rest
  induction rest with
  | nil =>
    intro i s out acc hi hle hb hm hx ho
    have h1 : decide ((i : Int) < ((m.length : Nat) : Int)) = false := by
      have := List.drop_eq_nil_iff.1 hi
      simp; omega
    refine ⟨out, s, ?_, by simpa [cOut] using ho, hx⟩
    rw [loopL_eq]
    simp only [ref04_without.b0, h1, n_bind, n_map, getL_0, getL_1, getL_2, getL_3, getL_4, getL_5, getL_6, getL_7, getL_8, getL_9, getL_10, getL_11, getL_12, condV_t, condV_f, guardV_tt, guardV_ff, guardV_tf, guardV_ft, guardV_u, apick_t, apick_f, exV_exit, exV_ret, lookE_same, joinK_eq, seqA_n, seqA_e, seqA_r, e_add, e_sub, e_mul, e_eql, e_neq, e_lss, e_leq, e_gtr, e_geq, e_conv, e_not, e_neg, and_guard, or_guard]
  | cons p rest ih =>
    intro i s out acc hi hle hb hm hx ho
    obtain ⟨hlt, he, hd⟩ := drop_get hi
    simp only [List.length_cons] at hb
    have h1 : decide ((i : Int) < ((m.length : Nat) : Int)) = true := by simp; omega
    obtain ⟨a, h2, h3⟩ := list_at (list_ext hx h) hlt (k := .i64) (n := 2) rfl
    rw [pr_enc, he] at h3
    rw [loopL_eq]
    simp only [ref04_without.b0, h1, h2, h3, z_rv, st_rv, ld_rv, ld_0, ld_1, ref02_Has_call, hH, n_bind, n_map, getL_0, getL_1, getL_2, getL_3, getL_4, getL_5, getL_6, getL_7, getL_8, getL_9, getL_10, getL_11, getL_12, condV_t, condV_f, guardV_tt, guardV_ff, guardV_tf, guardV_ft, guardV_u, apick_t, apick_f, exV_exit, exV_ret, lookE_same, joinK_eq, seqA_n, seqA_e, seqA_r, e_add, e_sub, e_mul, e_eql, e_neq, e_lss, e_leq, e_gtr, e_geq, e_conv, e_not, e_neg, and_guard, or_guard]
    have hc : cOut (p :: rest) r = if hasR r p.1 = true then cOut rest r else p :: cOut rest r := by
      unfold cOut
      rw [List.filter_cons]
      cases hasR r p.1 <;> rfl
    cases h4 : hasR r p.1
    · obtain ⟨q, a1, a2, v', s', a3, a4, a5, a6⟩ := own_add1R (C := prC) (w := 32) (a := p) (v := rv p) (z := [(.string ⟨#[]⟩), (.string ⟨#[]⟩)]) ho hx.1 (by decide) (by decide) rfl rfl rfl (room32 (by omega)) (n := 2) rfl
      obtain ⟨out', t, b1, b2, b3⟩ := ih (i + 1) s' v' (acc ++ [p]) hd (by omega) (by simp; omega) hm (hx.trans a5) a4
      refine ⟨out', t, ?_, ?_, b3⟩
      · rw [← b1]
        simp only [Bool.not_false, a1, a3, ref04_without.j0, inc_i64 (show i < 140737488355328 by omega), n_bind, n_map, getL_0, getL_1, getL_2, getL_3, getL_4, getL_5, getL_6, getL_7, getL_8, getL_9, getL_10, getL_11, getL_12, condV_t, condV_f, guardV_tt, guardV_ff, guardV_tf, guardV_ft, guardV_u, apick_t, apick_f, exV_exit, exV_ret, lookE_same, joinK_eq, seqA_n, seqA_e, seqA_r, e_add, e_sub, e_mul, e_eql, e_neq, e_lss, e_leq, e_gtr, e_geq, e_conv, e_not, e_neg, and_guard, or_guard]
      · rw [hc, h4]
        simpa using b2
    · obtain ⟨out', t, b1, b2, b3⟩ := ih (i + 1) s out acc hd (by omega) (by omega) hm hx ho
      refine ⟨out', t, ?_, ?_, b3⟩
      · rw [← b1]
        simp only [Bool.not_true, ref04_without.j0, inc_i64 (show i < 140737488355328 by omega), n_bind, n_map, getL_0, getL_1, getL_2, getL_3, getL_4, getL_5, getL_6, getL_7, getL_8, getL_9, getL_10, getL_11, getL_12, condV_t, condV_f, guardV_tt, guardV_ff, guardV_tf, guardV_ft, guardV_u, apick_t, apick_f, exV_exit, exV_ret, lookE_same, joinK_eq, seqA_n, seqA_e, seqA_r, e_add, e_sub, e_mul, e_eql, e_neq, e_lss, e_leq, e_gtr, e_geq, e_conv, e_not, e_neg, and_guard, or_guard]
      · rw [hc, h4]
        simpa using b2
theorem wo_run {R : Caller} (hH : ∀ r k s, R 57 [rv r, sv k] s = some (.bool (hasR r k), s)) (r : Rg) {v : Value} {s : St} {m : List Rg} (h : listOf prC v s = some m) (hm : m.length ≤ 6400000000000) :
    ∃ out t, ref04_without R v (rv r) s = some (out, t) ∧ Own s.heap.length 2 t out (encL prC (cOut m r)) ∧ Ext s.heap.length s t := by
  obtain ⟨out, t, h1, h2, h3⟩ := wo_loop hH r h m 0 s (.slice none 0 0) [] rfl (Nat.zero_le _) (by simpa using hm) hm (.refl _ _) (.nil _ _ _)
  rw [show ((0 : Nat) : Int) = 0 from rfl] at h1
  refine ⟨out, t, ?_, h2, h3⟩
  unfold ref04_without
  simp only [box_rv, list_len h, h1, n_bind, n_map, getL_0, getL_1, getL_2, getL_3, getL_4, getL_5, getL_6, getL_7, getL_8, getL_9, getL_10, getL_11, getL_12, condV_t, condV_f, guardV_tt, guardV_ff, guardV_tf, guardV_ft, guardV_u, apick_t, apick_f, exV_exit, exV_ret, lookE_same, joinK_eq, seqA_n, seqA_e, seqA_r, e_add, e_sub, e_mul, e_eql, e_neq, e_lss, e_leq, e_gtr, e_geq, e_conv, e_not, e_neg, and_guard, or_guard, retV, List.all_cons, h2.notup]
  rfl

/-! ### Within -/
theorem cIn_cons (p : Rg) (m : List Rg) (r : Rg) : cIn (p :: m) r = if hasR r p.1 = true then p :: cIn m r else cIn m r := by
  unfold cIn
  rw [List.filter_cons]
theorem wi_loop {R : Caller} (hH : ∀ r k s, R 57 [rv r, sv k] s = some (.bool (hasR r k), s)) (r : Rg) (n : Nat) {v : Value} {s0 : St} {m : List Rg} (h : listOf prC v s0 = some m) : ∀ (rest : List Rg) (i : Nat) (s : St) (out : Value) (acc : List Rg), m.drop i = rest → i ≤ m.length → acc.length + rest.length ≤ 6400000000000 → m.length ≤ 6400000000000 → acc.length ≤ n → Ext s0.heap.length s0 s → Own s0.heap.length 2 s out (encL prC acc) →
    ∃ out' t, loopL (ref04_Within.b0 R) [.int .i64 (n : Int), lptr, out, v, .int .i64 ((m.length : Nat) : Int), .int .i64 (i : Int), rv r] s = some (.exit 0, [out'], t) ∧ Own s0.heap.length 2 t out' (encL prC (acc ++ (cIn rest r).take (n - acc.length))) ∧ Ext s0.heap.length s0 t := by
  intro rest
  induction rest with
  | nil =>
    intro i s out acc hi hle hb hm han hx ho
    have h1 : decide ((i : Int) < ((m.length : Nat) : Int)) = false := by
      have := List.drop_eq_nil_iff.1 hi
      simp; omega
    refine ⟨out, s, ?_, by simpa [cIn] using ho, hx⟩
    rw [loopL_eq]
    simp only [ref04_Within.b0, h1, n_bind, n_map, getL_0, getL_1, getL_2, getL_3, getL_4, getL_5, getL_6, getL_7, getL_8, getL_9, getL_10, getL_11, getL_12, condV_t, condV_f, guardV_tt, guardV_ff, guardV_tf, guardV_ft, guardV_u, apick_t, apick_f, exV_exit, exV_ret, lookE_same, joinK_eq, seqA_n, seqA_e, seqA_r, e_add, e_sub, e_mul, e_eql, e_neq, e_lss, e_leq, e_gtr, e_geq, e_conv, e_not, e_neg, and_guard, or_guard]
  | cons p rest ih =>
    intro i s out acc hi hle hb hm han hx ho
    obtain ⟨hlt, he, hd⟩ := drop_get hi
    simp only [List.length_cons] at hb
    have h1 : decide ((i : Int) < ((m.length : Nat) : Int)) = true := by simp; omega
    obtain ⟨a, h2, h3⟩ := list_at (list_ext hx h) hlt (k := .i64) (n := 2) rfl
    rw [pr_enc, he] at h3
    have hn0 : decide ((n : Int) < 0) = false := by simp
    have hlen : ∀ e s2, alenV (.slice e) out s2 = some (.int .i64 ((acc.length : Nat) : Int)) := fun e s2 => list_len (own_list (C := prC) ho)
    have hcm : decide (((acc.length : Nat) : Int) < (n : Int)) = decide (acc.length < n) := by simp
    rw [loopL_eq]
    simp only [ref04_Within.b0, h1, h2, h3, z_rv, st_rv, ld_rv, ld_0, ld_1, ref02_Has_call, hH, hn0, hlen, hcm, n_bind, n_map, getL_0, getL_1, getL_2, getL_3, getL_4, getL_5, getL_6, getL_7, getL_8, getL_9, getL_10, getL_11, getL_12, condV_t, condV_f, guardV_tt, guardV_ff, guardV_tf, guardV_ft, guardV_u, apick_t, apick_f, exV_exit, exV_ret, lookE_same, joinK_eq, seqA_n, seqA_e, seqA_r, e_add, e_sub, e_mul, e_eql, e_neq, e_lss, e_leq, e_gtr, e_geq, e_conv, e_not, e_neg, and_guard, or_guard]
    rw [cIn_cons]
    cases h4 : hasR r p.1
    · obtain ⟨out', t, b1, b2, b3⟩ := ih (i + 1) s out acc hd (by omega) (by omega) hm han hx ho
      refine ⟨out', t, ?_, by simpa using b2, b3⟩
      rw [← b1]
      simp only [ref04_Within.j0, inc_i64 (show i < 140737488355328 by omega), n_bind, n_map, getL_0, getL_1, getL_2, getL_3, getL_4, getL_5, getL_6, getL_7, getL_8, getL_9, getL_10, getL_11, getL_12, condV_t, condV_f, guardV_tt, guardV_ff, guardV_tf, guardV_ft, guardV_u, apick_t, apick_f, exV_exit, exV_ret, lookE_same, joinK_eq, seqA_n, seqA_e, seqA_r, e_add, e_sub, e_mul, e_eql, e_neq, e_lss, e_leq, e_gtr, e_geq, e_conv, e_not, e_neg, and_guard, or_guard]
    · by_cases h5 : acc.length < n
      · obtain ⟨q, a1, a2, v', s', a3, a4, a5, a6⟩ := own_add1R (C := prC) (w := 32) (a := p) (v := rv p) (z := [(.string ⟨#[]⟩), (.string ⟨#[]⟩)]) ho hx.1 (by decide) (by decide) rfl rfl rfl (room32 (by omega)) (n := 2) rfl
        obtain ⟨out', t, b1, b2, b3⟩ := ih (i + 1) s' v' (acc ++ [p]) hd (by omega) (by simp; omega) hm (by simp; omega) (hx.trans a5) a4
        refine ⟨out', t, ?_, ?_, b3⟩
        · rw [← b1]
          have h6 : decide (acc.length < n) = true := by simpa using h5
          simp only [h6, a1, a3, ref04_Within.j0, inc_i64 (show i < 140737488355328 by omega), n_bind, n_map, getL_0, getL_1, getL_2, getL_3, getL_4, getL_5, getL_6, getL_7, getL_8, getL_9, getL_10, getL_11, getL_12, condV_t, condV_f, guardV_tt, guardV_ff, guardV_tf, guardV_ft, guardV_u, apick_t, apick_f, exV_exit, exV_ret, lookE_same, joinK_eq, seqA_n, seqA_e, seqA_r, e_add, e_sub, e_mul, e_eql, e_neq, e_lss, e_leq, e_gtr, e_geq, e_conv, e_not, e_neg, and_guard, or_guard]
        · rw [if_pos rfl, show n - acc.length = (n - (acc ++ [p]).length) + 1 by simp; omega, List.take_succ_cons]
          simpa using b2
      · obtain ⟨out', t, b1, b2, b3⟩ := ih (i + 1) s out acc hd (by omega) (by omega) hm han hx ho
        refine ⟨out', t, ?_, ?_, b3⟩
        · rw [← b1]
          have h6 : decide (acc.length < n) = false := by simpa using h5
          simp only [h6, ref04_Within.j0, inc_i64 (show i < 140737488355328 by omega), n_bind, n_map, getL_0, getL_1, getL_2, getL_3, getL_4, getL_5, getL_6, getL_7, getL_8, getL_9, getL_10, getL_11, getL_12, condV_t, condV_f, guardV_tt, guardV_ff, guardV_tf, guardV_ft, guardV_u, apick_t, apick_f, exV_exit, exV_ret, lookE_same, joinK_eq, seqA_n, seqA_e, seqA_r, e_add, e_sub, e_mul, e_eql, e_neq, e_lss, e_leq, e_gtr, e_geq, e_conv, e_not, e_neg, and_guard, or_guard]
        · rw [show n - acc.length = 0 by omega] at b2 ⊢
          simpa using b2
theorem wi_run {R : Caller} (hH : ∀ r k s, R 57 [rv r, sv k] s = some (.bool (hasR r k), s)) (r : Rg) (n : Nat) {v : Value} {s : St} {m : List Rg} (h : listOf prC v s = some m) (hm : m.length ≤ 6400000000000) :
    ∃ out t, ref04_Within R v (rv r) (.int .i64 (n : Int)) s = some (out, t) ∧ Own s.heap.length 2 t out (encL prC ((cIn m r).take n)) ∧ Ext s.heap.length s t := by
  obtain ⟨out, t, h1, h2, h3⟩ := wi_loop hH r n h m 0 s (.slice none 0 0) [] rfl (Nat.zero_le _) (by simpa using hm) hm (Nat.zero_le _) (.refl _ _) (.nil _ _ _)
  rw [show ((0 : Nat) : Int) = 0 from rfl] at h1
  refine ⟨out, t, ?_, h2, h3⟩
  unfold ref04_Within
  simp only [box_rv, list_len h, h1, n_bind, n_map, getL_0, getL_1, getL_2, getL_3, getL_4, getL_5, getL_6, getL_7, getL_8, getL_9, getL_10, getL_11, getL_12, condV_t, condV_f, guardV_tt, guardV_ff, guardV_tf, guardV_ft, guardV_u, apick_t, apick_f, exV_exit, exV_ret, lookE_same, joinK_eq, seqA_n, seqA_e, seqA_r, e_add, e_sub, e_mul, e_eql, e_neq, e_lss, e_leq, e_gtr, e_geq, e_conv, e_not, e_neg, and_guard, or_guard, retV, List.all_cons, h2.notup]
  rfl

/-! ### put -/
def pStep (k w : BL) (st : List Rg × Bool) (x : Rg) : List Rg × Bool :=
  (if (x.1 != k) = true then (if (!st.2 && !bl x.1 k) = true then st.1 ++ [(k, w)] else st.1) ++ [x] else (if (!st.2 && !bl x.1 k) = true then st.1 ++ [(k, w)] else st.1), st.2 || !bl x.1 k)
def pFin (k w : BL) (st : List Rg × Bool) : List Rg := if st.2 = true then st.1 else st.1 ++ [(k, w)]
theorem pStep_len {k w : BL} {st : List Rg × Bool} {x : Rg} : (pStep k w st x).1.length ≤ st.1.length + 1 + (if st.2 = (pStep k w st x).2 then 0 else 1) := by
  unfold pStep
  cases h1 : st.2 <;> cases h2 : bl x.1 k <;> cases h3 : (x.1 != k) <;> simp
theorem put_done {k w : BL} : ∀ (m : List Rg) (out : List Rg), m.foldl (pStep k w) (out, true) = (out ++ m.filter (fun p => p.1 != k), true)
  | [], out => by simp
  | x :: m, out => by
    have : pStep k w (out, true) x = (if (x.1 != k) = true then out ++ [x] else out, true) := by simp [pStep]
    rw [List.foldl_cons, List.filter_cons, this, put_done m]
    split <;> simp
theorem put_pure {k w : BL} : ∀ (m : List Rg) (_ : Srt m) (out : List Rg), pFin k w (m.foldl (pStep k w) (out, false)) = out ++ cPut m k w
  | [], _, out => by simp [pFin, cPut]
  | x :: m, h, out => by
    obtain ⟨h1, h2⟩ := srt_cons.1 h
    rw [List.foldl_cons]
    unfold cPut
    rw [List.filter_cons, List.filter_cons]
    by_cases c : bl x.1 k = true
    · have e : (x.1 != k) = true := by simp [bne, (beq_of_bl c).1]
      have : pStep k w (out, false) x = (out ++ [x], false) := by simp [pStep, c, e]
      rw [this, put_pure m h2, if_pos c, bl_asym c]
      simp [cPut]
    · have c2 : bl x.1 k = false := by simpa using c
      have hf1 : m.filter (fun p => bl p.1 k) = [] := filter_none fun q hq => bl_up c2 (h1 q hq)
      have hk : ∀ q ∈ m, bl k q.1 = true := fun q hq => by
        by_cases e : x.1 = k
        · rw [← e]; exact h1 q hq
        · rcases bl_total e with e2 | e2
          · rw [e2] at c2; cases c2
          · exact bl_trans e2 (h1 q hq)
      have hf2 : m.filter (fun p => bl k p.1) = m := List.filter_eq_self.2 hk
      have hf3 : m.filter (fun p => p.1 != k) = m := List.filter_eq_self.2 fun q hq => by simp [bne, (beq_of_bl (hk q hq)).2]
      rw [if_neg c, hf1, hf2]
      by_cases e : x.1 = k
      · have e1 : (x.1 != k) = false := by simp [e]
        have : pStep k w (out, false) x = (out ++ [(k, w)], true) := by simp [pStep, c2, e1]
        rw [this, put_done, hf3, e, bl_irrefl]
        simp [pFin]
      · have e1 : (x.1 != k) = true := by simp [e]
        have e2 : bl k x.1 = true := by
          rcases bl_total e with e2 | e2
          · rw [e2] at c2; cases c2
          · exact e2
        have : pStep k w (out, false) x = (out ++ [(k, w)] ++ [x], true) := by simp [pStep, c2, e1]
        rw [this, put_done, hf3, e2]
        simp [pFin]
theorem pu_loop {R : Caller} (k w : BL) {v : Value} {s0 : St} {m : List Rg} (h : listOf prC v s0 = some m) : ∀ (rest : List Rg) (i : Nat) (s : St) (out : Value) (st : List Rg × Bool), m.drop i = rest → i ≤ m.length → st.1.length + rest.length + (if st.2 = true then 0 else 1) ≤ 6400000000000 → m.length ≤ 6400000000000 → Ext s0.heap.length s0 s → Own s0.heap.length 2 s out (encL prC st.1) →
    ∃ out' t, loopL (ref04_put.b0 R) [lptr, out, .bool st.2, v, .int .i64 ((m.length : Nat) : Int), .int .i64 (i : Int), rv (k, w)] s = some (.exit 0, [lptr, out', .bool (rest.foldl (pStep k w) st).2, rv (k, w)], t) ∧ Own s0.heap.length 2 t out' (encL prC (rest.foldl (pStep k w) st).1) ∧ (rest.foldl (pStep k w) st).1.length + (if (rest.foldl (pStep k w) st).2 = true then 0 else 1) ≤ 6400000000000 ∧ Ext s0.heap.length s0 t := by
  intro rest
  induction rest with
  | nil =>
    intro i s out st hi hle hb hm hx ho
    have h1 : decide ((i : Int) < ((m.length : Nat) : Int)) = false := by
      have := List.drop_eq_nil_iff.1 hi
      simp; omega
    refine ⟨out, s, ?_, ho, hb, hx⟩
    rw [loopL_eq]
    simp only [ref04_put.b0, h1, n_bind, n_map, getL_0, getL_1, getL_2, getL_3, getL_4, getL_5, getL_6, getL_7, getL_8, getL_9, getL_10, getL_11, getL_12, condV_t, condV_f, guardV_tt, guardV_ff, guardV_tf, guardV_ft, guardV_u, apick_t, apick_f, exV_exit, exV_ret, lookE_same, joinK_eq, seqA_n, seqA_e, seqA_r, e_add, e_sub, e_mul, e_eql, e_neq, e_lss, e_leq, e_gtr, e_geq, e_conv, e_not, e_neg, and_guard, or_guard]
    rfl
  | cons p rest ih =>
    intro i s out st hi hle hb hm hx ho
    obtain ⟨hlt, he, hd⟩ := drop_get hi
    simp only [List.length_cons] at hb
    have h1 : decide ((i : Int) < ((m.length : Nat) : Int)) = true := by simp; omega
    obtain ⟨a, h2, h3⟩ := list_at (list_ext hx h) hlt (k := .i64) (n := 2) rfl
    rw [pr_enc, he] at h3
    obtain ⟨acc, dn⟩ := st
    simp only at hb ho ⊢
    -- the pair itself, where its place is
    have hA : ∃ out1 s1, Own s0.heap.length 2 s1 out1 (encL prC (if (!dn && !bl p.1 k) = true then acc ++ [(k, w)] else acc)) ∧ Ext s0.heap.length s0 s1 ∧ ∀ K : List Value → St → Res, (if (!dn && !bl p.1 k) = true then (abuildSl 2 [(.string ⟨#[]⟩), (.string ⟨#[]⟩)] 1 [(0, rv (k, w))] s).bind fun r => (aappend 2 32 out r.1 r.2).bind fun r2 => K [r2.1, .bool true] r2.2 else K [out, .bool dn] s) = K [out1, .bool (dn || !bl p.1 k)] s1 := by
      by_cases c : (!dn && !bl p.1 k) = true
      · obtain ⟨q, a1, a2, v', s', a3, a4, a5, a6⟩ := own_add1R (C := prC) (w := 32) (a := (k, w)) (v := rv (k, w)) (z := [(.string ⟨#[]⟩), (.string ⟨#[]⟩)]) ho hx.1 (by decide) (by decide) rfl rfl rfl (room32 (by split at hb <;> omega)) (n := 2) rfl
        refine ⟨v', s', by rw [if_pos c]; exact a4, hx.trans a5, fun K => ?_⟩
        rw [if_pos c, a1, Option.bind_some, a3, Option.bind_some]
        have : (dn || !bl p.1 k) = true := by
          simp only [Bool.and_eq_true] at c
          rw [c.2]; simp
        rw [this]
      · refine ⟨out, s, by rw [if_neg c]; exact ho, hx, fun K => ?_⟩
        rw [if_neg c]
        have : (dn || !bl p.1 k) = dn := by
          cases dn <;> cases h5 : bl p.1 k <;> simp_all
        rw [this]
    obtain ⟨out1, s1, b1, b2, b3⟩ := hA
    have hlen1 : (if (!dn && !bl p.1 k) = true then acc ++ [(k, w)] else acc).length + (if (dn || !bl p.1 k) = true then 0 else 1) ≤ acc.length + (if dn = true then 0 else 1) := by
      cases dn <;> cases h5 : bl p.1 k <;> simp
    have hst : pStep k w (acc, dn) p = (if (p.1 != k) = true then (if (!dn && !bl p.1 k) = true then acc ++ [(k, w)] else acc) ++ [p] else (if (!dn && !bl p.1 k) = true then acc ++ [(k, w)] else acc), dn || !bl p.1 k) := rfl
    rw [List.foldl_cons, hst]
    generalize hac : (if (!dn && !bl p.1 k) = true then acc ++ [(k, w)] else acc) = acc1 at *
    have hfirst : loopL (ref04_put.b0 R) [lptr, out, .bool dn, v, .int .i64 ((m.length : Nat) : Int), .int .i64 (i : Int), rv (k, w)] s = seqA (ref04_put.j1 R [lptr, out1, .bool (dn || !bl p.1 k), lptr, v, .int .i64 ((m.length : Nat) : Int), .int .i64 (i : Int), rv (k, w), rv p] s1) (loopL (ref04_put.b0 R)) := by
      rw [loopL_eq]
      have hk := b3 fun T s => ref04_put.j1 R [lptr, getL T 0, getL T 1, lptr, v, .int .i64 ((m.length : Nat) : Int), .int .i64 (i : Int), rv (k, w), rv p] s
      congr 1
      rw [show [lptr, out1, .bool (dn || !bl p.1 k), lptr, v, .int .i64 ((m.length : Nat) : Int), .int .i64 (i : Int), rv (k, w), rv p] = [lptr, getL [out1, .bool (dn || !bl p.1 k)] 0, getL [out1, .bool (dn || !bl p.1 k)] 1, lptr, v, .int .i64 ((m.length : Nat) : Int), .int .i64 (i : Int), rv (k, w), rv p] from rfl]
      refine Eq.trans ?_ hk
      simp only [ref04_put.b0, h1, h2, h3, z_rv, st_rv, ld_rv, ad_0, ld_0, ld_00, geq_bl, n_bind, n_map, getL_0, getL_1, getL_2, getL_3, getL_4, getL_5, getL_6, getL_7, getL_8, getL_9, getL_10, getL_11, getL_12, condV_t, condV_f, guardV_tt, guardV_ff, guardV_tf, guardV_ft, guardV_u, apick_t, apick_f, exV_exit, exV_ret, lookE_same, joinK_eq, seqA_n, seqA_e, seqA_r, e_add, e_sub, e_mul, e_eql, e_neq, e_lss, e_leq, e_gtr, e_geq, e_conv, e_not, e_neg, and_guard, or_guard]
      cases dn <;> cases h5 : bl p.1 k <;> simp only [h5, Bool.not_true, Bool.not_false, Bool.and_true, Bool.and_false, Bool.true_and, Bool.false_and, if_true, if_false, Bool.false_eq_true, n_bind, n_map, getL_0, getL_1, getL_2, getL_3, getL_4, getL_5, getL_6, getL_7, getL_8, getL_9, getL_10, getL_11, getL_12, condV_t, condV_f, guardV_tt, guardV_ff, guardV_tf, guardV_ft, guardV_u, apick_t, apick_f, exV_exit, exV_ret, lookE_same, joinK_eq, seqA_n, seqA_e, seqA_r, e_add, e_sub, e_mul, e_eql, e_neq, e_lss, e_leq, e_gtr, e_geq, e_conv, e_not, e_neg, and_guard, or_guard]
    rw [hfirst]
    cases h6 : (p.1 != k)
    · obtain ⟨out', t, d1, d2, d3, d4⟩ := ih (i + 1) s1 out1 (acc1, dn || !bl p.1 k) hd (by omega) (by simp only; omega) hm b2 b1
      refine ⟨out', t, ?_, d2, d3, d4⟩
      have h7 : (!(p.1 == k)) = (p.1 != k) := rfl
      rw [h6] at h7
      simp only [ref04_put.j1, ref04_put.j0, ad_0, ld_00, ld_0, e_sneq, h7, inc_i64 (show i < 140737488355328 by omega), n_bind, n_map, getL_0, getL_1, getL_2, getL_3, getL_4, getL_5, getL_6, getL_7, getL_8, getL_9, getL_10, getL_11, getL_12, condV_t, condV_f, guardV_tt, guardV_ff, guardV_tf, guardV_ft, guardV_u, apick_t, apick_f, exV_exit, exV_ret, lookE_same, joinK_eq, seqA_n, seqA_e, seqA_r, e_add, e_sub, e_mul, e_eql, e_neq, e_lss, e_leq, e_gtr, e_geq, e_conv, e_not, e_neg, and_guard, or_guard]
      exact d1
    · obtain ⟨q, a1, a2, v', s', a3, a4, a5, a6⟩ := own_add1R (C := prC) (w := 32) (a := p) (v := rv p) (z := [(.string ⟨#[]⟩), (.string ⟨#[]⟩)]) b1 b2.1 (by decide) (by decide) rfl rfl rfl (room32 (by omega)) (n := 2) rfl
      obtain ⟨out', t, d1, d2, d3, d4⟩ := ih (i + 1) s' v' (acc1 ++ [p], dn || !bl p.1 k) hd (by omega) (by simp only [List.length_append, List.length_singleton]; omega) hm (b2.trans a5) a4
      refine ⟨out', t, ?_, d2, d3, d4⟩
      have h7 : (!(p.1 == k)) = (p.1 != k) := rfl
      rw [h6] at h7
      simp only [ref04_put.j1, ref04_put.j0, ad_0, ld_00, ld_0, ld_rv, e_sneq, h7, a1, a3, inc_i64 (show i < 140737488355328 by omega), n_bind, n_map, getL_0, getL_1, getL_2, getL_3, getL_4, getL_5, getL_6, getL_7, getL_8, getL_9, getL_10, getL_11, getL_12, condV_t, condV_f, guardV_tt, guardV_ff, guardV_tf, guardV_ft, guardV_u, apick_t, apick_f, exV_exit, exV_ret, lookE_same, joinK_eq, seqA_n, seqA_e, seqA_r, e_add, e_sub, e_mul, e_eql, e_neq, e_lss, e_leq, e_gtr, e_geq, e_conv, e_not, e_neg, and_guard, or_guard]
      exact d1
theorem pu_run {R : Caller} (k w : BL) {v : Value} {s : St} {m : List Rg} (h : listOf prC v s = some m) (hs : Srt m) (hm : m.length ≤ 6300000000000) :
    ∃ out t, ref04_put R v (rv (k, w)) s = some (out, t) ∧ Own s.heap.length 2 t out (encL prC (cPut m k w)) ∧ Ext s.heap.length s t := by
  obtain ⟨out, t, h1, h2, h3, h4⟩ := pu_loop (R := R) k w h m 0 s (.slice none 0 0) ([], false) rfl (Nat.zero_le _) (by simp; omega) (by omega) (.refl _ _) (.nil _ _ _)
  rw [show ((0 : Nat) : Int) = 0 from rfl] at h1
  have hp := put_pure (k := k) (w := w) m hs []
  rw [List.nil_append] at hp
  unfold pFin at hp
  unfold ref04_put
  cases h5 : (m.foldl (pStep k w) ([], false)).2
  · rw [h5] at h1 h3 hp
    simp only [Bool.false_eq_true, if_false] at hp h3
    obtain ⟨q, a1, a2, v', s', a3, a4, a5, a6⟩ := own_add1R (C := prC) (w := 32) (a := (k, w)) (v := rv (k, w)) (z := [(.string ⟨#[]⟩), (.string ⟨#[]⟩)]) h2 h4.1 (by decide) (by decide) rfl rfl rfl (room32 (by omega)) (n := 2) rfl
    rw [hp] at a4
    refine ⟨v', s', ?_, a4, h4.trans a5⟩
    simp only [box_rv, list_len h, h1, ld_rv, a1, a3, ref04_put.j2, Bool.not_false, n_bind, n_map, getL_0, getL_1, getL_2, getL_3, getL_4, getL_5, getL_6, getL_7, getL_8, getL_9, getL_10, getL_11, getL_12, condV_t, condV_f, guardV_tt, guardV_ff, guardV_tf, guardV_ft, guardV_u, apick_t, apick_f, exV_exit, exV_ret, lookE_same, joinK_eq, seqA_n, seqA_e, seqA_r, e_add, e_sub, e_mul, e_eql, e_neq, e_lss, e_leq, e_gtr, e_geq, e_conv, e_not, e_neg, and_guard, or_guard, retV, List.all_cons, a4.notup]
    rfl
  · rw [h5] at h1 hp
    simp only [if_true] at hp
    rw [hp] at h2
    refine ⟨out, t, ?_, h2, h4⟩
    simp only [box_rv, list_len h, h1, ref04_put.j2, Bool.not_true, n_bind, n_map, getL_0, getL_1, getL_2, getL_3, getL_4, getL_5, getL_6, getL_7, getL_8, getL_9, getL_10, getL_11, getL_12, condV_t, condV_f, guardV_tt, guardV_ff, guardV_tf, guardV_ft, guardV_u, apick_t, apick_f, exV_exit, exV_ret, lookE_same, joinK_eq, seqA_n, seqA_e, seqA_r, e_add, e_sub, e_mul, e_eql, e_neq, e_lss, e_leq, e_gtr, e_geq, e_conv, e_not, e_neg, and_guard, or_guard, retV, List.all_cons, h2.notup]
    rfl

end Go.Proofs.Ytdhadhelcpeiaaa.Ab
