/- The laws of operations: OpSees. -/
import Derived.Test.YtdhadhelcpeiaaaOpLawB
set_option linter.unusedVariables false
set_option linter.unusedSimpArgs false
set_option linter.unusedSectionVars false
namespace Go.Proofs.Ytdhadhelcpeiaaa.Ab
open Go

theorem b_get (k : BL) : abuild Try.prog 38 [(0, (.int .i64 1)), (1, sv k)] = some (oV ⟨1, k, [], [], [], 0⟩) := by kernel_rfl
theorem b_scan (k : BL) : abuild Try.prog 38 [(0, (.int .i64 4)), (3, sv k), (5, (.int .i64 1))] = some (oV ⟨4, [], [], k, [], 1⟩) := by kernel_rfl
theorem sees_do {m : List Rg} {o : OpT} {k : BL} : apM m [o, ⟨1, k, [], [], [], 0⟩, ⟨4, [], [], k, [], 1⟩] = doM m o ∧ apR m [o, ⟨1, k, [], [], [], 0⟩, ⟨4, [], [], k, [], 1⟩] = [doR m o, ((cGet (doM m o) k).isSome, (cGet (doM m o) k).getD [], []), (false, [], (cIn (doM m o) (k, [])).take 1)] := by
  have h1 : ∀ x : List Rg, doM x ⟨1, k, [], [], [], 0⟩ = x := fun x => do_read rfl
  have h2 : ∀ x : List Rg, doM x ⟨4, [], [], k, [], 1⟩ = x := fun x => do_read rfl
  have h3 : ∀ x : List Rg, doR x ⟨1, k, [], [], [], 0⟩ = ((cGet x k).isSome, (cGet x k).getD [], []) := fun x => by unfold doR; rw [if_pos rfl]
  have h4 : ∀ x : List Rg, doR x ⟨4, [], [], k, [], 1⟩ = (false, [], (cIn x (k, [])).take 1) := fun x => by unfold doR; rw [if_neg (by show ¬ (4 : Int) = 1; decide), if_pos rfl]; rfl
  simp only [apM, apR, h1, h2, h3, h4, and_self]
theorem sees_j0 {a r p1 p10 p11 p2 p22 pv : Value} {t : St} {m1 : List Rg} {k : BL} (hv : Val m1) (hk : ckK k = true) (ha : listOf prC a t = some m1) (hl : m1.length < 140737488355328)
    (i1 : aindexS 3 r (.int .i64 1) = some p1) (f0 : afieldAddr 0 p1 = some p10) (d0 : aload false 1 p10 t = some (.bool (cGet m1 k).isSome)) (f1 : afieldAddr 1 p1 = some p11) (d1 : aload false 1 p11 t = some (sv ((cGet m1 k).getD [])))
    (i2 : aindexS 3 r (.int .i64 2) = some p2) (f2 : afieldAddr 2 p2 = some p22) (d2 : aload false 1 p22 t = some pv) (hp : listOf prC pv t = some ((cIn m1 (k, [])).take 1)) :
    law04_OpSees.j0 (run Try.prog (libL libT) hints) [sv k, .bool true, a, r, .bool false] t = some (.bool true, t) := by
  have hF : (run Try.prog (libL libT) hints) 19 [a, sv k] t = some (fdV m1 k, t) := ref04_Find_of rfl (find_run k ha hl)
  have hfirst := first_pure hv hk
  have hlen : ((cIn m1 (k, [])).take 1).length ≤ 1 := by rw [List.length_take]; omega
  have hlp : ∀ e s2, alenV (.slice e) pv s2 = some (.int .i64 ((((cIn m1 (k, [])).take 1).length : Nat) : Int)) := fun e s2 => list_len hp
  unfold law04_OpSees.j0
  simp only [ref04_Find_call, hF, x_fd0, x_fd1, i2, f2, d2, hlp, n_bind, n_map, getL_0, getL_1, getL_2, getL_3, getL_4, getL_5, getL_6, getL_7, getL_8, getL_9, getL_10, getL_11, getL_12, condV_t, condV_f, guardV_tt, guardV_ff, guardV_tf, guardV_ft, guardV_u, apick_t, apick_f, exV_exit, exV_ret, lookE_same, joinK_eq, seqA_n, seqA_e, seqA_r, e_add, e_sub, e_mul, e_eql, e_neq, e_lss, e_leq, e_gtr, e_geq, e_conv, e_not, e_neg, and_guard, or_guard]
  generalize (cIn m1 (k, [])).take 1 = F at *
  match F, hlen with
  | [], _ =>
    have e0 : ((((([] : List Rg).length : Nat)) : Int) == 1) = false := rfl
    have hs : (cGet m1 k).isSome = false := hfirst.symm
    rw [hs] at d0 ⊢
    simp only [e0, i1, f0, d0, f1, d1, e_seql, beq_self_eq_true, eq_bool, n_bind, n_map, getL_0, getL_1, getL_2, getL_3, getL_4, getL_5, getL_6, getL_7, getL_8, getL_9, getL_10, getL_11, getL_12, condV_t, condV_f, guardV_tt, guardV_ff, guardV_tf, guardV_ft, guardV_u, apick_t, apick_f, exV_exit, exV_ret, lookE_same, joinK_eq, seqA_n, seqA_e, seqA_r, e_add, e_sub, e_mul, e_eql, e_neq, e_lss, e_leq, e_gtr, e_geq, e_conv, e_not, e_neg, and_guard, or_guard, retV]
    rfl
  | [p], _ =>
    have e0 : (((([p].length : Nat)) : Int) == 1) = true := rfl
    have hs : (cGet m1 k).isSome = (p.1 == k) := hfirst.symm
    rw [hs] at d0 ⊢
    obtain ⟨x, g1, y, g2, g3⟩ := list_field hp (i := 0) (by simp) (j := 0) (c := sv p.1) rfl (k := .i64) (n := 2) rfl
    have g1' : aindexS 2 pv (.int .i64 0) = some x := g1
    simp only [e0, g1', g2, g3, i1, f0, d0, f1, d1, e_seql, beq_self_eq_true, eq_bool, n_bind, n_map, getL_0, getL_1, getL_2, getL_3, getL_4, getL_5, getL_6, getL_7, getL_8, getL_9, getL_10, getL_11, getL_12, condV_t, condV_f, guardV_tt, guardV_ff, guardV_tf, guardV_ft, guardV_u, apick_t, apick_f, exV_exit, exV_ret, lookE_same, joinK_eq, seqA_n, seqA_e, seqA_r, e_add, e_sub, e_mul, e_eql, e_neq, e_lss, e_leq, e_gtr, e_geq, e_conv, e_not, e_neg, and_guard, or_guard, retV]
    rfl
theorem spL_at {o : OpT} (h : ckO o = 0) : spL o = (spR o, 0) := by unfold spL; rw [h]; rfl
theorem c12 : ((1 : Int) == 2) = false := rfl
theorem c13 : ((1 : Int) == 3) = false := rfl
theorem c15 : ((1 : Int) == 5) = false := rfl
theorem c22 : ((2 : Int) == 2) = true := rfl
theorem c23 : ((2 : Int) == 3) = false := rfl
theorem c25 : ((2 : Int) == 5) = false := rfl
theorem c32 : ((3 : Int) == 2) = false := rfl
theorem c33 : ((3 : Int) == 3) = true := rfl
theorem c42 : ((4 : Int) == 2) = false := rfl
theorem c43 : ((4 : Int) == 3) = false := rfl
theorem c45 : ((4 : Int) == 5) = false := rfl
theorem c52 : ((5 : Int) == 2) = false := rfl
theorem c53 : ((5 : Int) == 3) = false := rfl
theorem c55 : ((5 : Int) == 5) = true := rfl
theorem OpSees_law (s : St) (v : Value) (m : List Rg) (hm : listOf prC v s = some m) (hml : m.length ≤ 4400000000000) (o : OpT) (k : ByteArray) (_ : k.size ≤ 140737488351232) : ∃ s', (run Try.prog (libL libT) hints) 7 [v, oV o, .string k] s = some (.bool true, s') := by
  rw [sv_of k]
  generalize k.data.toList = k
  have hS : ∀ o s, (run Try.prog (libL libT) hints) 17 [oV o] s = some (ptV (spL o), s) := fun o s => (known (g := gSp) rfl).trans sp_eq
  have hH : ∀ r k s, (run Try.prog (libL libT) hints) 18 [rv r, sv k] s = some (.bool (hasR r k), s) := fun r k s => (known (g := gHas) rfl).trans has_eq
  have b1 : abuildSl 6 [(.int .i64 0), (.string ⟨#[]⟩), (.string ⟨#[]⟩), (.string ⟨#[]⟩), (.string ⟨#[]⟩), (.int .i64 0)] 3 [(0, oV o), (1, oV ⟨1, k, [], [], [], 0⟩), (2, oV ⟨4, [], [], k, [], 1⟩)] s = _ := ops_build [o, ⟨1, k, [], [], [], 0⟩, ⟨4, [], [], k, [], 1⟩] (by simp) s
  have hm1 := list_ext (push_ext s (.row opC.n (encL opC [o, ⟨1, k, [], [], [], 0⟩, ⟨4, [], [], k, [], 1⟩]) .act)) hm
  have h1 := t_apply hm1 (row_own (C := opC) (s := s) [o, ⟨1, k, [], [], [], 0⟩, ⟨4, [], [], k, [], 1⟩]).list (by simp; omega) (by simp)
  by_cases c : apE m [o, ⟨1, k, [], [], [], 0⟩, ⟨4, [], [], k, [], 1⟩] = 0
  · rw [if_pos c] at h1
    obtain ⟨a, r, t, g1, g2, g3, g4⟩ := h1
    obtain ⟨c1, c2⟩ := apE_split c
    obtain ⟨ho, c3⟩ := allE_cons0 c2
    obtain ⟨hg, c4⟩ := allE_cons0 c3
    have hk : ckK k = true := (ckO_key hg).2.1 rfl
    obtain ⟨w1, w2⟩ := sees_do (m := m) (o := o) (k := k)
    rw [w1] at g2
    have l3 : ∀ e s2, alenV (.slice e) r s2 = some (.int .i64 3) := fun e s2 => by rw [g3.alen, apR_len]; rfl
    have tr := g3.istup
    rw [w2] at g3
    obtain ⟨q, hq, f2, f3⟩ := g3
    have hql : q.length = 3 := by
      have := congrArg List.length hq
      simpa using this
    have q1 := q_get hq (i := 1) (by omega) rfl
    have q2 := q_get hq (i := 2) (by omega) rfl
    obtain ⟨x0, x1, _⟩ := encR_get q 1 (by omega)
    obtain ⟨_, _, x2⟩ := encR_get q 2 (by omega)
    rw [q1] at x0 x1
    obtain ⟨p1, i1, p10, a0, d0⟩ := cells_field f2.cells (j := 0) (by decide) (by rw [encR_len]; omega) x0 (k := .i64)
    obtain ⟨p1', i1', p11, a1, d1⟩ := cells_field f2.cells (j := 1) (by decide) (by rw [encR_len]; omega) x1 (k := .i64)
    rw [i1] at i1'
    cases i1'
    obtain ⟨p2, i2, p22, a2, d2⟩ := cells_field f2.cells (j := 2) (by decide) (by rw [encR_len]; omega) x2 (k := .i64)
    have hp := (f3 q[2] (List.getElem_mem (by omega))).list
    rw [q2] at hp
    have hval := val_do c1 ho
    have hlen : (doM m o).length < 140737488355328 := by
      have := len_do (m := m) (o := o)
      omega
    have i1 : aindexS 3 r (.int .i64 1) = some p1 := i1
    have i2 : aindexS 3 r (.int .i64 2) = some p2 := i2
    have hj := sees_j0 hval hk g2.list hlen i1 a0 d0 a1 d1 i2 a2 d2 hp
    have hget := get_do (m := m) ho k
    have z1 : ((0 : Int) == 0) = true := rfl
    have z0 : ((0 : Int) != 0) = false := rfl
    have z3 : ((3 : Int) != 3) = false := rfl
    refine ⟨t, law04_OpSees_of rfl ?_⟩
    unfold law04_OpSees
    simp only [o_box, o_all, law04_live_call, k_live, b_get, b_scan, o_st, b1, op_Apply_call, g1, y3_0 g2.istup, y3_1 tr, y3_2, z0, l3, z3, op_Span_call, hS, spL_at ho, x_pt0, x_pt1, z_rv, st_rv, ld_rv, z1, span_Has_call, hH, n_bind, n_map, getL_0, getL_1, getL_2, getL_3, getL_4, getL_5, getL_6, getL_7, getL_8, getL_9, getL_10, getL_11, getL_12, condV_t, condV_f, guardV_tt, guardV_ff, guardV_tf, guardV_ft, guardV_u, apick_t, apick_f, exV_exit, exV_ret, lookE_same, joinK_eq, seqA_n, seqA_e, seqA_r, e_add, e_sub, e_mul, e_eql, e_neq, e_lss, e_leq, e_gtr, e_geq, e_conv, e_not, e_neg, and_guard, or_guard]
    cases ht : hasR (spR o) k
    · simp only [own_id, hj, n_bind, n_map, getL_0, getL_1, getL_2, getL_3, getL_4, getL_5, getL_6, getL_7, getL_8, getL_9, getL_10, getL_11, getL_12, condV_t, condV_f, guardV_tt, guardV_ff, guardV_tf, guardV_ft, guardV_u, apick_t, apick_f, exV_exit, exV_ret, lookE_same, joinK_eq, seqA_n, seqA_e, seqA_r, e_add, e_sub, e_mul, e_eql, e_neq, e_lss, e_leq, e_gtr, e_geq, e_conv, e_not, e_neg, and_guard, or_guard]
    · rw [ht, Bool.true_and] at hget
      rcases kinds (ckO_key ho).1 with e | e | e | e | e
      · simp only [o_0, e, c12, c13, c15, own_id, hj, n_bind, n_map, getL_0, getL_1, getL_2, getL_3, getL_4, getL_5, getL_6, getL_7, getL_8, getL_9, getL_10, getL_11, getL_12, condV_t, condV_f, guardV_tt, guardV_ff, guardV_tf, guardV_ft, guardV_u, apick_t, apick_f, exV_exit, exV_ret, lookE_same, joinK_eq, seqA_n, seqA_e, seqA_r, e_add, e_sub, e_mul, e_eql, e_neq, e_lss, e_leq, e_gtr, e_geq, e_conv, e_not, e_neg, and_guard, or_guard]
      · rw [e] at hget
        simp only [show wrt 2 = true from rfl, if_true] at hget
        rw [hget] at d0 d1
        have n1 : (!(o.val == o.val)) = false := by simp
        simp only [Option.isSome_some, Option.getD_some] at d0 d1
        simp only [o_0, o_2, e, c22, c23, c25, i1, a0, d0, a1, d1, own_id, Bool.not_true, e_sneq, n1, hj, n_bind, n_map, getL_0, getL_1, getL_2, getL_3, getL_4, getL_5, getL_6, getL_7, getL_8, getL_9, getL_10, getL_11, getL_12, condV_t, condV_f, guardV_tt, guardV_ff, guardV_tf, guardV_ft, guardV_u, apick_t, apick_f, exV_exit, exV_ret, lookE_same, joinK_eq, seqA_n, seqA_e, seqA_r, e_add, e_sub, e_mul, e_eql, e_neq, e_lss, e_leq, e_gtr, e_geq, e_conv, e_not, e_neg, and_guard, or_guard]
      · rw [e] at hget
        simp only [show wrt 3 = true from rfl, if_true, show ((3 : Int) = 2) = False by simp, if_false] at hget
        rw [hget] at d0
        simp only [Option.isSome_none] at d0
        simp only [o_0, e, c32, c33, i1, a0, d0, own_id, hj, n_bind, n_map, getL_0, getL_1, getL_2, getL_3, getL_4, getL_5, getL_6, getL_7, getL_8, getL_9, getL_10, getL_11, getL_12, condV_t, condV_f, guardV_tt, guardV_ff, guardV_tf, guardV_ft, guardV_u, apick_t, apick_f, exV_exit, exV_ret, lookE_same, joinK_eq, seqA_n, seqA_e, seqA_r, e_add, e_sub, e_mul, e_eql, e_neq, e_lss, e_leq, e_gtr, e_geq, e_conv, e_not, e_neg, and_guard, or_guard]
      · simp only [o_0, e, c42, c43, c45, own_id, hj, n_bind, n_map, getL_0, getL_1, getL_2, getL_3, getL_4, getL_5, getL_6, getL_7, getL_8, getL_9, getL_10, getL_11, getL_12, condV_t, condV_f, guardV_tt, guardV_ff, guardV_tf, guardV_ft, guardV_u, apick_t, apick_f, exV_exit, exV_ret, lookE_same, joinK_eq, seqA_n, seqA_e, seqA_r, e_add, e_sub, e_mul, e_eql, e_neq, e_lss, e_leq, e_gtr, e_geq, e_conv, e_not, e_neg, and_guard, or_guard]
      · rw [e] at hget
        simp only [show wrt 5 = true from rfl, if_true, show ((5 : Int) = 2) = False by simp, if_false] at hget
        rw [hget] at d0
        simp only [Option.isSome_none] at d0
        simp only [o_0, e, c52, c53, c55, i1, a0, d0, own_id, hj, n_bind, n_map, getL_0, getL_1, getL_2, getL_3, getL_4, getL_5, getL_6, getL_7, getL_8, getL_9, getL_10, getL_11, getL_12, condV_t, condV_f, guardV_tt, guardV_ff, guardV_tf, guardV_ft, guardV_u, apick_t, apick_f, exV_exit, exV_ret, lookE_same, joinK_eq, seqA_n, seqA_e, seqA_r, e_add, e_sub, e_mul, e_eql, e_neq, e_lss, e_leq, e_gtr, e_geq, e_conv, e_not, e_neg, and_guard, or_guard]
  · rw [if_neg c] at h1
    refine ⟨s.push (.row opC.n (encL opC [o, ⟨1, k, [], [], [], 0⟩, ⟨4, [], [], k, [], 1⟩]) .act), law04_OpSees_of rfl ?_⟩
    unfold law04_OpSees
    simp only [o_box, o_all, law04_live_call, k_live, b_get, b_scan, o_st, b1, op_Apply_call, h1, y3_0 isTup_nil, y3_1 isTup_nil, y3_2, ne0 c, n_bind, n_map, getL_0, getL_1, getL_2, getL_3, getL_4, getL_5, getL_6, getL_7, getL_8, getL_9, getL_10, getL_11, getL_12, condV_t, condV_f, guardV_tt, guardV_ff, guardV_tf, guardV_ft, guardV_u, apick_t, apick_f, exV_exit, exV_ret, lookE_same, joinK_eq, seqA_n, seqA_e, seqA_r, e_add, e_sub, e_mul, e_eql, e_neq, e_lss, e_leq, e_gtr, e_geq, e_conv, e_not, e_neg, and_guard, or_guard, retV]
    rfl

end Go.Proofs.Ytdhadhelcpeiaaa.Ab
