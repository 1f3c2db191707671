/- The laws of operations: OpChecks, OpParts. -/
import Derived.Test.YtdhadhelcpeiaaaOpLawA
set_option linter.unusedVariables false
set_option linter.unusedSimpArgs false
set_option linter.unusedSectionVars false
namespace Go.Proofs.Ytdhadhelcpeiaaa.Ab
open Go

theorem y2_0 {a b : Value} (h : isTup a = false) : aextract 0 (.tuple #[a, b]) = some a := by simp [aextract, h]
theorem y2_1 {a : Value} {e : Int} : aextract 1 (.tuple #[a, .int .i64 e]) = some (.int .i64 e) := Eq.trans rfl (Eq.refl _)
theorem same_rg (r : Rg) : (!(r.1 == r.1 && r.2 == r.2)) = false := by simp
theorem same_lk (r : Lk) : (!(r.1.1 == r.1.1 && r.1.2 == r.1.2 && r.2 == r.2)) = false := by simp
theorem locks_both {w : Value} {s : St} {l : List OpT} (hl : listOf opC w s = some l) (hll : l.length ≤ 1759218604391) : ∃ a b t u K, (run Try.prog (libL libT) hints) 22 [w] s = some (.tuple #[a, .int .i64 (allE l)], t) ∧ (run Try.prog (libL libT) hints) 23 [w] t = some (.tuple #[b, .int .i64 (allE l)], u) ∧ isTup a = false ∧ isTup b = false ∧ listOf lkC a u = some K ∧ listOf lkC b u = some K ∧ K.length ≤ 1759218604391 ∧ Ext s.heap.length s u := by
  have h1 := Locks_run (R := (run Try.prog (libL libT) hints)) (fun o s => (known (g := gSp) rfl).trans sp_eq) (fun o s => (known (g := gWr) rfl).trans wr_eq) hl (by omega)
  by_cases c : allE l = 0
  · rw [if_pos c] at h1
    obtain ⟨a, t, g1, g2, g3⟩ := h1
    have h2 := refLocks_run (R := (run Try.prog (libL libT) hints)) (fun xs s => known (g := gAllE) rfl) (fun o s => (known (g := gSp) rfl).trans sp_eq) (fun o s => (known (g := gWr) rfl).trans wr_eq) (list_ext g3 hl) (by omega)
    rw [if_pos c] at h2
    obtain ⟨b, u, k1, k2, k3⟩ := h2
    refine ⟨a, b, t, u, locksL l, by rw [c]; exact op_Locks_of rfl g1, by rw [c]; exact ref04_Locks_of rfl k1, g2.istup, k2.istup, list_ext k3 (own_list (C := lkC) g2), own_list (C := lkC) k2, by unfold locksL; simpa using hll, g3.trans (k3.less g3.1)⟩
  · rw [if_neg c] at h1
    obtain ⟨t, g1, g3⟩ := h1
    have h2 := refLocks_run (R := (run Try.prog (libL libT) hints)) (fun xs s => known (g := gAllE) rfl) (fun o s => (known (g := gSp) rfl).trans sp_eq) (fun o s => (known (g := gWr) rfl).trans wr_eq) (list_ext g3 hl) (by omega)
    rw [if_neg c] at h2
    obtain ⟨u, k1, k3⟩ := h2
    exact ⟨_, _, t, u, [], op_Locks_of rfl g1, ref04_Locks_of rfl k1, rfl, rfl, list_nil _, list_nil _, by simp, g3.trans (k3.less g3.1)⟩
theorem checks_loop {w v a b : Value} {o : OpT} {s : St} {K : List Lk} (ha : listOf lkC a s = some K) (hb : listOf lkC b s = some K) (hl : K.length < 140737488355328) : ∀ (rest : List Lk) (i : Nat), K.drop i = rest → i ≤ K.length →
    loopL (law04_OpChecks.b0 (run Try.prog (libL libT) hints)) [w, v, lptr, .bool true, a, b, .int .i64 ((K.length : Nat) : Int), .int .i64 (i : Int), oV o] s = some (.exit 0, [w, v, lptr, .bool true, oV o], s) := by
  intro rest
  induction rest with
  | nil =>
    intro i hi hle
    have h1 : decide ((i : Int) < ((K.length : Nat) : Int)) = false := by
      have := List.drop_eq_nil_iff.1 hi
      simp; omega
    rw [loopL_eq]
    simp only [law04_OpChecks.b0, h1, n_bind, n_map, getL_0, getL_1, getL_2, getL_3, getL_4, getL_5, getL_6, getL_7, getL_8, getL_9, getL_10, getL_11, getL_12, condV_t, condV_f, guardV_tt, guardV_ff, guardV_tf, guardV_ft, guardV_u, apick_t, apick_f, exV_exit, exV_ret, lookE_same, joinK_eq, seqA_n, seqA_e, seqA_r, e_add, e_sub, e_mul, e_eql, e_neq, e_lss, e_leq, e_gtr, e_geq, e_conv, e_not, e_neg, and_guard, or_guard]
  | cons k rest ih =>
    intro i hi hle
    obtain ⟨hlt, he, hd⟩ := drop_get hi
    have h1 : decide ((i : Int) < ((K.length : Nat) : Int)) = true := by simp; omega
    obtain ⟨x, a1, a2⟩ := list_at (s := frzS s) (by rw [list_frz]; exact ha) hlt (k := .i64) (n := 3) rfl
    obtain ⟨y, b1, b2⟩ := list_at (s := frzS s) (by rw [list_frz]; exact hb) hlt (k := .i64) (n := 3) rfl
    rw [lk_enc] at a2 b2
    rw [loopL_eq]
    simp only [law04_OpChecks.b0, h1, a1, a2, b1, b2, lk_neq, same_lk, inc_i64 (show i < 140737488355328 by omega), n_bind, n_map, getL_0, getL_1, getL_2, getL_3, getL_4, getL_5, getL_6, getL_7, getL_8, getL_9, getL_10, getL_11, getL_12, condV_t, condV_f, guardV_tt, guardV_ff, guardV_tf, guardV_ft, guardV_u, apick_t, apick_f, exV_exit, exV_ret, lookE_same, joinK_eq, seqA_n, seqA_e, seqA_r, e_add, e_sub, e_mul, e_eql, e_neq, e_lss, e_leq, e_gtr, e_geq, e_conv, e_not, e_neg, and_guard, or_guard]
    exact ih (i + 1) hd (by omega)
theorem OpChecks_law (s : St) (o : OpT) (w : Value) (l : List OpT) (hl : listOf opC w s = some l) (hll : l.length ≤ 1759218604391) (v : Value) (m : List Rg) (hm : listOf prC v s = some m) (hml : m.length ≤ 4400000000000) : ∃ s', (run Try.prog (libL libT) hints) 9 [oV o, w, v] s = some (.bool true, s') := by
  obtain ⟨a, b, t, u, K, g1, g2, g3, g4, g5, g6, g7, g8⟩ := locks_both hl hll
  have hloop := checks_loop (w := w) (v := v) (o := o) g5 g6 (by omega) K 0 rfl (Nat.zero_le _)
  rw [show ((0 : Nat) : Int) = 0 from rfl] at hloop
  have hS : ∀ o s, (run Try.prog (libL libT) hints) 17 [oV o] s = some (ptV (spL o), s) := fun o s => (known (g := gSp) rfl).trans sp_eq
  have hS2 : ∀ o s, (run Try.prog (libL libT) hints) 21 [oV o] s = some (ptV (spL o), s) := fun o s => (known (g := gSp) rfl).trans sp_eq
  have hC : ∀ o s, (run Try.prog (libL libT) hints) 24 [oV o] s = some (.int .i64 (ckO o), s) := fun o s => (known (g := gCkO) rfl).trans ckO_eq
  have hC2 : ∀ o s, (run Try.prog (libL libT) hints) 25 [oV o] s = some (.int .i64 (ckO o), s) := fun o s => (known (g := gCkO) rfl).trans ckO_eq
  have hW : ∀ o s, (run Try.prog (libL libT) hints) 15 [oV o] s = some (.bool (wrt o.kind), s) := fun o s => (known (g := gWr) rfl).trans wr_eq
  have hW2 : ∀ o s, (run Try.prog (libL libT) hints) 29 [oV o] s = some (.bool (wrt o.kind), s) := fun o s => (known (g := gWr) rfl).trans wr_eq
  have hK : ∀ xs s, (run Try.prog (libL libT) hints) 26 xs s = gChkE xs s := fun xs s => known (g := gChkE) rfl
  have hK2 : ∀ xs s, (run Try.prog (libL libT) hints) 27 xs s = gChkE xs s := fun xs s => known (g := gChkE) rfl
  have hM : ∀ xs s, (run Try.prog (libL libT) hints) 16 xs s = gMapE xs s := fun xs s => known (g := gMapE) rfl
  have hM2 : ∀ xs s, (run Try.prog (libL libT) hints) 28 xs s = gMapE xs s := fun xs s => known (g := gMapE) rfl
  have hl2 := list_ext g8 hl
  have hm2 := list_ext g8 hm
  refine ⟨u, law04_OpChecks_of rfl ?_⟩
  unfold law04_OpChecks
  simp only [o_box, o_all, law04_live_call, k_live, op_Span_call, hS, ref04_Span_call, hS2, x_pt0, x_pt1, z_rv, st_rv, ld_rv, op_Locks_call, g1, ref04_Locks_call, g2, y2_0 g3, y2_0 g4, y2_1, rv_neq, same_rg, bne_self_eq_false, list_len g5, list_len g6, hloop, n_bind, n_map, getL_0, getL_1, getL_2, getL_3, getL_4, getL_5, getL_6, getL_7, getL_8, getL_9, getL_10, getL_11, getL_12, condV_t, condV_f, guardV_tt, guardV_ff, guardV_tf, guardV_ft, guardV_u, apick_t, apick_f, exV_exit, exV_ret, lookE_same, joinK_eq, seqA_n, seqA_e, seqA_r, e_add, e_sub, e_mul, e_eql, e_neq, e_lss, e_leq, e_gtr, e_geq, e_conv, e_not, e_neg, and_guard, or_guard]
  simp only [op_CheckOp_call, hC, ref04_CheckOp_call, hC2, own_id, op_Check_call, hK, ref04_Check_call, hK2, op_CheckMap_call, hM, ref04_CheckMap_call, hM2, chkE_eq hl2 (show l.length < 140737488355328 by omega), mapE_eq hm2 (show m.length < 140737488355328 by omega), op_Writes_call, hW, ref04_Writes_call, hW2, eq_bool, beq_self_eq_true, n_bind, n_map, getL_0, getL_1, getL_2, getL_3, getL_4, getL_5, getL_6, getL_7, getL_8, getL_9, getL_10, getL_11, getL_12, condV_t, condV_f, guardV_tt, guardV_ff, guardV_tf, guardV_ft, guardV_u, apick_t, apick_f, exV_exit, exV_ret, lookE_same, joinK_eq, seqA_n, seqA_e, seqA_r, e_add, e_sub, e_mul, e_eql, e_neq, e_lss, e_leq, e_gtr, e_geq, e_conv, e_not, e_neg, and_guard, or_guard, retV]
  rfl

theorem doR_len {m : List Rg} {o : OpT} : (doR m o).2.2.length ≤ m.length := by
  unfold doR
  split
  · simp
  · split
    · simp only [List.length_take]
      have : (cIn m (o.lo, o.hi)).length ≤ m.length := List.length_filter_le _ _
      omega
    · simp
theorem apR_len2 : ∀ {l : List OpT} {m : List Rg}, ∀ x ∈ apR m l, x.2.2.length ≤ m.length + l.length
  | [], _, x, hx => by cases hx
  | o :: l, m, x, hx => by
    rcases List.mem_cons.1 hx with rfl | hx
    · have := doR_len (m := m) (o := o)
      simp only [List.length_cons]
      omega
    · have h1 := apR_len2 (l := l) x hx
      have h2 := len_do (m := m) (o := o)
      simp only [List.length_cons]
      omega
theorem OpParts_law (s : St) (v : Value) (m : List Rg) (hm : listOf prC v s = some m) (hml : m.length ≤ 4400000000000) (w : Value) (l : List OpT) (hl : listOf opC w s = some l) (hll : l.length ≤ 1759218604391) (c : Int) (hc : (Lit.int .i64 c).wf = true) : ∃ s', (run Try.prog (libL libT) hints) 4 [v, w, .int .i64 c] s = some (.bool true, s') := by
  -- the cut
  have hn1 : IntKind.wrap .i64 (((l.length : Nat) : Int) + 1) = ((l.length : Nat) : Int) + 1 := by rw [wrap_i64 (by omega) (by omega)]
  have hne : ((l.length : Nat) : Int) + 1 ≠ 0 := by omega
  have hr1 : -(((l.length : Nat) : Int) + 1) < c.tmod (((l.length : Nat) : Int) + 1) ∧ c.tmod (((l.length : Nat) : Int) + 1) < ((l.length : Nat) : Int) + 1 := by
    have h1 := Int.lt_tmod_of_pos c (show (0 : Int) < ((l.length : Nat) : Int) + 1 by omega)
    have h2 := Int.tmod_lt_of_pos c (show (0 : Int) < ((l.length : Nat) : Int) + 1 by omega)
    exact ⟨h1, h2⟩
  generalize hq : c.tmod (((l.length : Nat) : Int) + 1) = q at hr1
  have hw2 : IntKind.wrap .i64 (q + ((l.length : Nat) : Int)) = q + ((l.length : Nat) : Int) := by rw [wrap_i64 (by omega) (by omega)]
  have hw3 : IntKind.wrap .i64 (q + ((l.length : Nat) : Int) + 1) = q + ((l.length : Nat) : Int) + 1 := by rw [wrap_i64 (by omega) (by omega)]
  have hj : ∃ j : Nat, (q + ((l.length : Nat) : Int) + 1).tmod (((l.length : Nat) : Int) + 1) = (j : Int) ∧ j ≤ l.length := by
    have h1 := Int.tmod_nonneg (((l.length : Nat) : Int) + 1) (show (0 : Int) ≤ q + ((l.length : Nat) : Int) + 1 by omega)
    have h2 := Int.tmod_lt_of_pos (q + ((l.length : Nat) : Int) + 1) (show (0 : Int) < ((l.length : Nat) : Int) + 1 by omega)
    exact ⟨((q + ((l.length : Nat) : Int) + 1).tmod (((l.length : Nat) : Int) + 1)).toNat, by omega, by omega⟩
  obtain ⟨j, hj1, hj2⟩ := hj
  have h1 := t_apply hm hl (by omega) hll
  by_cases e : apE m l = 0
  · rw [if_pos e] at h1
    obtain ⟨a, r, t, g1, g2, g3, g4⟩ := h1
    obtain ⟨c1, c2⟩ := apE_split e
    have hl1 := list_ext g4 hl
    obtain ⟨u1, p1, p2⟩ := list_slice hl1 (lo := none) (hi := some (.int .i64 (j : Int))) (mx := none) (i := 0) (j := j) rfl (by simp [abound]) (Nat.zero_le _) hj2 (.inl rfl) (n := 6) rfl
    obtain ⟨u2, p3, p4⟩ := list_slice hl1 (lo := some (.int .i64 (j : Int))) (hi := none) (mx := none) (i := j) (j := l.length) (by simp [abound]) rfl hj2 (Nat.le_refl _) (.inl rfl) (n := 6) rfl
    rw [List.drop_zero, Nat.sub_zero] at p2
    rw [List.take_of_length_le (by simp)] at p4
    have hsp := allE_app (a := l.take j) (b := l.drop j) (by rw [List.take_append_drop]; exact c2)
    have hm1 := list_ext g4 hm
    have h2 := t_apply hm1 p2 (by rw [List.length_take]; omega) (by rw [List.length_take]; omega)
    rw [if_pos (apE_join c1 hsp.1)] at h2
    obtain ⟨a2, r2, t2, k1, k2, k3, k4⟩ := h2
    have hla := len_ap (l := l.take j) (m := m)
    rw [List.length_take] at hla
    have h3 := t_apply k2.list (list_ext k4 p4) (by rw [List.length_drop]; omega) (by rw [List.length_drop]; omega)
    rw [if_pos (apE_join (val_ap c1 hsp.1) hsp.2)] at h3
    obtain ⟨a3, r3, t3, n1, n2, n3, n4⟩ := h3
    have e1 : apM m l = apM (apM m (l.take j)) (l.drop j) := by rw [← apM_app, List.take_append_drop]
    have e2 : apR m l = apR m (l.take j) ++ apR (apM m (l.take j)) (l.drop j) := by rw [← apR_app, List.take_append_drop]
    have hlen := len_ap (l := l) (m := m)
    have ga := list_ext n4 (list_ext k4 g2.list)
    have hsm := k_same (L := libT) rfl ga n2.list (by omega)
    -- the tellings, together
    obtain ⟨q2, f1, f2, f3⟩ := k3
    obtain ⟨q3, f4, f5, f6⟩ := n3
    have hq2 : q2.length ≤ l.length := by
      have := congrArg List.length f1
      rw [List.length_map, apR_len, List.length_take] at this
      omega
    have hq3 : q2.length + q3.length ≤ l.length := by
      have h7 := congrArg List.length f1
      have h8 := congrArg List.length f4
      rw [List.length_map, apR_len, List.length_take] at h7
      rw [List.length_map, apR_len, List.length_drop] at h8
      omega
    have hc2 : cellsOf 3 r2 t3 = some (encR q2) := n4.cells f2.cells
    have lv2 : ∀ (y : Value) (st : St) (qq : List (Rs × Value)), cellsOf 3 y st = some (encR qq) → lenV y = some qq.length := fun y st qq hy => by
      obtain ⟨aa, len, cap, rfl, hh⟩ := cellsOf_len hy
      rw [encR_len] at hh
      show some len = _
      congr 1
      omega
    obtain ⟨x1, s1, m1, m2, m3⟩ := own_append (N := t3.heap.length) (n := 3) (w := 48) (x := .slice none 0 0) (cells := []) (.nil _ _ _) (Nat.le_refl _) (by decide) (by decide) (lv2 _ _ _ hc2) (elems_of hc2) (encR_len q2) (by rw [encR_len, List.length_nil]; omega)
    rw [List.nil_append] at m2
    have hc3 : cellsOf 3 r3 s1 = some (encR q3) := m3.cells f5.cells
    obtain ⟨x2, s2, m4, m5, m6⟩ := own_append (w := 48) m2 m3.1 (by decide) (by decide) (lv2 _ _ _ hc3) (elems_of hc3) (encR_len q3) (by rw [encR_len, encR_len]; omega)
    rw [← encR_app] at m5
    have hx23 : Ext t3.heap.length t3 s2 := m3.trans m6
    have hR2 : RdyL s2 x2 (apR m l) := by
      refine ⟨q2 ++ q3, by rw [List.map_append, f1, f4, e2], m5.cells, fun x hx => ?_⟩
      rcases List.mem_append.1 hx with hx | hx
      · exact list_ext hx23 (list_ext n4 (f3 x hx).list)
      · exact list_ext hx23 (f6 x hx).list
    have hR1 : RdyL s2 r (apR m l) := ((g3.toL.ext k4).ext n4).ext hx23
    have hsr := k_sameR (L := libT) rfl rfl hR1 hR2 (by rw [apR_len]; omega) (fun x hx => by have := apR_len2 x hx; omega)
    have z1 : ((0 : Int) == 0) = true := rfl
    have z0 : ((0 : Int) != 0) = false := rfl
    refine ⟨s2, law04_OpParts_of rfl ?_⟩
    unfold law04_OpParts
    simp only [law04_live_call, k_live, list_len hl, hn1, e_rem hne, hq, hw2, hw3, hj1, op_Apply_call, g1, y3_0 g2.istup, y3_1 g3.istup, y3_2, z0, p1, p3, k1, y3_0 k2.istup, y3_1 f2.istup, n1, y3_0 n2.istup, y3_1 f5.istup, z1, ref04_SameMap_call, hsm, ← e1, decide_true, m1, m4, ref04_SameResults_call, hsr, n_bind, n_map, getL_0, getL_1, getL_2, getL_3, getL_4, getL_5, getL_6, getL_7, getL_8, getL_9, getL_10, getL_11, getL_12, condV_t, condV_f, guardV_tt, guardV_ff, guardV_tf, guardV_ft, guardV_u, apick_t, apick_f, exV_exit, exV_ret, lookE_same, joinK_eq, seqA_n, seqA_e, seqA_r, e_add, e_sub, e_mul, e_eql, e_neq, e_lss, e_leq, e_gtr, e_geq, e_conv, e_not, e_neg, and_guard, or_guard, retV]
    rfl
  · rw [if_neg e] at h1
    refine ⟨s, law04_OpParts_of rfl ?_⟩
    unfold law04_OpParts
    simp only [law04_live_call, k_live, list_len hl, hn1, e_rem hne, hq, hw2, hw3, hj1, op_Apply_call, h1, y3_0 isTup_nil, y3_1 isTup_nil, y3_2, ne0 e, n_bind, n_map, getL_0, getL_1, getL_2, getL_3, getL_4, getL_5, getL_6, getL_7, getL_8, getL_9, getL_10, getL_11, getL_12, condV_t, condV_f, guardV_tt, guardV_ff, guardV_tf, guardV_ft, guardV_u, apick_t, apick_f, exV_exit, exV_ret, lookE_same, joinK_eq, seqA_n, seqA_e, seqA_r, e_add, e_sub, e_mul, e_eql, e_neq, e_lss, e_leq, e_gtr, e_geq, e_conv, e_not, e_neg, and_guard, or_guard, retV]
    rfl

end Go.Proofs.Ytdhadhelcpeiaaa.Ab
