/- The laws of operations: OpTurns, OpSees. -/
import Derived.Test.YtdhadhelcpeiaaaOpLawB
set_option linter.unusedVariables false
set_option linter.unusedSimpArgs false
set_option linter.unusedSectionVars false
namespace Go.Proofs.Ytdhadhelcpeiaaa.Ab
open Go

theorem spL_0 {o : OpT} (h : ckO o = 0) : spL o = (spR o, 0) := by unfold spL; rw [h]; rfl
theorem spL_n {o : OpT} (h : ¬ ckO o = 0) : spL o = (([], []), ckO o) := by
  unfold spL
  have : (ckO o == 0) = false := by simpa using h
  rw [this]
  rfl
theorem allE_two {a b : OpT} (ha : ckO a = 0) (hb : ckO b = 0) : allE [a, b] = 0 := by
  rw [allE_cons, if_pos ha, allE_cons, if_pos hb]
  rfl
theorem tell_cells (f : Bool) (x : BL) (p : Value) : cellsV (tellV f x p) = [.bool f, sv x, p] := rfl
theorem two_res {x y : Rs × Value} (hx : isLeaf x.2 = true) (hy : isLeaf y.2 = true) (s : St) : abuildSl 3 [(.bool false), (.string ⟨#[]⟩), (.slice none 0 0)] 2 [(0, tellV x.1.1 x.1.2.1 x.2), (1, tellV y.1.1 y.1.2.1 y.2)] s = some (.slice (some ⟨s.heap.length, 0, none⟩) 2 2, s.push (.row 3 (encR [x, y]) .act)) := by
  obtain ⟨⟨x1, x2, x3⟩, xv⟩ := x
  obtain ⟨⟨y1, y2, y3⟩, yv⟩ := y
  simp only at hx hy
  have h1 : ([.bool x1, sv x2, xv] : List Value).all isLeaf = true := by simp only [List.all_cons, hx, List.all_nil, Bool.and_true]; rfl
  have h2 : ([.bool y1, sv y2, yv] : List Value).all isLeaf = true := by simp only [List.all_cons, hy, List.all_nil, Bool.and_true]; rfl
  unfold abuildSl
  rw [if_pos ⟨by decide, rfl, rfl⟩]
  simp only [afill, placeA, Nat.zero_mul, Nat.one_mul]
  rw [if_pos ⟨rfl, Nat.le_of_ble_eq_true rfl, h1⟩]
  try simp only [Option.bind_some]
  rw [if_pos ⟨rfl, Nat.le_of_ble_eq_true rfl, h2⟩]
  rfl
theorem OpTurns_law (s : St) (v : Value) (m : List Rg) (hm : listOf prC v s = some m) (hml : m.length ≤ 4400000000000) (a b : OpT) : ∃ s', (run Try.prog (libL libT) hints) 8 [v, oV a, oV b] s = some (.bool true, s') := by
  have hS : ∀ o s, (run Try.prog (libL libT) hints) 17 [oV o] s = some (ptV (spL o), s) := fun o s => (known (g := gSp) rfl).trans sp_eq
  have hW : ∀ o s, (run Try.prog (libL libT) hints) 15 [oV o] s = some (.bool (wrt o.kind), s) := fun o s => (known (g := gWr) rfl).trans wr_eq
  have hMt : ∀ a b s, (run Try.prog (libL libT) hints) 20 [rv a, rv b] s = some (meetV (meetL a b), s) := fun a b s => (known (g := gMeet) rfl).trans meet_eq
  have z1 : ((0 : Int) == 0) = true := rfl
  have z0 : ((0 : Int) != 0) = false := rfl
  by_cases ha : ckO a = 0
  case neg =>
    refine ⟨s, law04_OpTurns_of rfl ?_⟩
    unfold law04_OpTurns
    simp only [o_box, o_all, law04_live_call, k_live, op_Span_call, hS, spL_n ha, x_pt0, x_pt1, z_rv, st_rv, ne0 ha, n_bind, n_map, getL_0, getL_1, getL_2, getL_3, getL_4, getL_5, getL_6, getL_7, getL_8, getL_9, getL_10, getL_11, getL_12, condV_t, condV_f, guardV_tt, guardV_ff, guardV_tf, guardV_ft, guardV_u, apick_t, apick_f, exV_exit, exV_ret, lookE_same, joinK_eq, seqA_n, seqA_e, seqA_r, e_add, e_sub, e_mul, e_eql, e_neq, e_lss, e_leq, e_gtr, e_geq, e_conv, e_not, e_neg, and_guard, or_guard, retV]
    rfl
  by_cases hb : ckO b = 0
  case neg =>
    refine ⟨s, law04_OpTurns_of rfl ?_⟩
    unfold law04_OpTurns
    simp only [o_box, o_all, law04_live_call, k_live, op_Span_call, hS, spL_0 ha, spL_n hb, x_pt0, x_pt1, z_rv, st_rv, z0, ne0 hb, n_bind, n_map, getL_0, getL_1, getL_2, getL_3, getL_4, getL_5, getL_6, getL_7, getL_8, getL_9, getL_10, getL_11, getL_12, condV_t, condV_f, guardV_tt, guardV_ff, guardV_tf, guardV_ft, guardV_u, apick_t, apick_f, exV_exit, exV_ret, lookE_same, joinK_eq, seqA_n, seqA_e, seqA_r, e_add, e_sub, e_mul, e_eql, e_neq, e_lss, e_leq, e_gtr, e_geq, e_conv, e_not, e_neg, and_guard, or_guard, retV]
    rfl
  by_cases hmw : (meetL (spR a) (spR b)).isSome = true ∧ (wrt a.kind || wrt b.kind) = true
  · obtain ⟨h1, h2⟩ := hmw
    refine ⟨s, law04_OpTurns_of rfl ?_⟩
    unfold law04_OpTurns
    cases hwa : wrt a.kind
    · rw [hwa, Bool.false_or] at h2
      simp only [o_box, o_all, law04_live_call, k_live, op_Span_call, hS, spL_0 ha, spL_0 hb, x_pt0, x_pt1, z_rv, st_rv, ld_rv, z0, span_Meet_call, hMt, x_meet.1, x_meet.2, h1, op_Writes_call, hW, hwa, h2, n_bind, n_map, getL_0, getL_1, getL_2, getL_3, getL_4, getL_5, getL_6, getL_7, getL_8, getL_9, getL_10, getL_11, getL_12, condV_t, condV_f, guardV_tt, guardV_ff, guardV_tf, guardV_ft, guardV_u, apick_t, apick_f, exV_exit, exV_ret, lookE_same, joinK_eq, seqA_n, seqA_e, seqA_r, e_add, e_sub, e_mul, e_eql, e_neq, e_lss, e_leq, e_gtr, e_geq, e_conv, e_not, e_neg, and_guard, or_guard, retV]
      rfl
    · simp only [o_box, o_all, law04_live_call, k_live, op_Span_call, hS, spL_0 ha, spL_0 hb, x_pt0, x_pt1, z_rv, st_rv, ld_rv, z0, span_Meet_call, hMt, x_meet.1, x_meet.2, h1, op_Writes_call, hW, hwa, n_bind, n_map, getL_0, getL_1, getL_2, getL_3, getL_4, getL_5, getL_6, getL_7, getL_8, getL_9, getL_10, getL_11, getL_12, condV_t, condV_f, guardV_tt, guardV_ff, guardV_tf, guardV_ft, guardV_u, apick_t, apick_f, exV_exit, exV_ret, lookE_same, joinK_eq, seqA_n, seqA_e, seqA_r, e_add, e_sub, e_mul, e_eql, e_neq, e_lss, e_leq, e_gtr, e_geq, e_conv, e_not, e_neg, and_guard, or_guard, retV]
      rfl
  have hor : meetL (spR a) (spR b) = none ∨ (wrt a.kind = false ∧ wrt b.kind = false) := by
    cases h1 : meetL (spR a) (spR b) with
    | none => exact .inl rfl
    | some x =>
      right
      rw [h1] at hmw
      simp only [Option.isSome_some, true_and, Bool.or_eq_true, not_or, Bool.not_eq_true] at hmw
      exact hmw
  have b1 : abuildSl 6 [(.int .i64 0), (.string ⟨#[]⟩), (.string ⟨#[]⟩), (.string ⟨#[]⟩), (.string ⟨#[]⟩), (.int .i64 0)] 2 [(0, oV a), (1, oV b)] s = _ := ops_build [a, b] (by simp) s
  have hm1 := list_ext (push_ext s (.row opC.n (encL opC [a, b]) .act)) hm
  have h1 := t_apply hm1 (row_own (C := opC) (s := s) [a, b]).list (by simp; omega) (by simp)
  -- the guards before
  have hpre : ∀ (K : St → Option (Value × St)), True := fun _ => trivial
  by_cases c : apE m [a, b] = 0
  · rw [if_pos c] at h1
    obtain ⟨p, r, t, g1, g2, g3, g4⟩ := h1
    obtain ⟨c1, c2⟩ := apE_split c
    have b2 : abuildSl 6 [(.int .i64 0), (.string ⟨#[]⟩), (.string ⟨#[]⟩), (.string ⟨#[]⟩), (.string ⟨#[]⟩), (.int .i64 0)] 2 [(0, oV b), (1, oV a)] t = _ := ops_build [b, a] (by simp) t
    have hm2 := list_ext (push_ext t (.row opC.n (encL opC [b, a]) .act)) (list_ext g4 hm1)
    have h2 := t_apply hm2 (row_own (C := opC) (s := t) [b, a]).list (by simp; omega) (by simp)
    rw [if_pos (apE_join c1 (allE_two hb ha))] at h2
    obtain ⟨p2, r2, t2, k1, k2, k3, k4⟩ := h2
    obtain ⟨e1, e2⟩ := turns_pure c1 ha hb hor
    have hlen := len_ap (l := [a, b]) (m := m)
    simp only [List.length_cons, List.length_nil] at hlen
    have hxt : Ext t.heap.length t t2 := (push_ext t (.row opC.n (encL opC [b, a]) .act)).trans (k4.less (by simp [St.push]))
    have ga := list_ext hxt g2.list
    have hsm := k_same (L := libT) rfl ga k2.list (by omega)
    have l1 : ∀ e s2, alenV (.slice e) r s2 = some (.int .i64 2) := fun e s2 => by rw [g3.alen, apR_len]; rfl
    have l2 : ∀ e s2, alenV (.slice e) r2 s2 = some (.int .i64 2) := fun e s2 => by rw [k3.alen, apR_len]; rfl
    have tr := g3.istup
    have tr2 := k3.istup
    have hR1 := g3.toL.ext hxt
    obtain ⟨q, f1, f2, f3⟩ := k3
    have hql : q.length = 2 := by
      have := congrArg List.length f1
      rw [List.length_map, apR_len] at this
      exact this
    match q, hql with
    | [x, y], _ =>
    have hcf : cellsOf 3 r2 (frzS t2) = some (encR [x, y]) := by rw [cellsOf_frz]; exact f2.cells
    have hlf : ∀ z ∈ [x, y], isLeaf z.2 = true := fun z hz => by
      rcases f3 z hz with ⟨h, _⟩ | ⟨b, cap, rest, h, _⟩ <;> rw [h] <;> rfl
    obtain ⟨q0, i0, _, j0⟩ := cells_at hcf (by decide) (i := 0) (by rw [encR_len]; exact (by decide : (0 + 1) * 3 ≤ 2 * 3)) (k := .i64)
    obtain ⟨q1, i1, _, j1⟩ := cells_at hcf (by decide) (i := 1) (by rw [encR_len]; exact (by decide : (1 + 1) * 3 ≤ 2 * 3)) (k := .i64)
    have i0' : aindexS 3 r2 (.int .i64 0) = some q0 := i0
    have i1' : aindexS 3 r2 (.int .i64 1) = some q1 := i1
    have j0' : aload true 3 q0 (frzS t2) = some (tellV x.1.1 x.1.2.1 x.2) := j0
    have j1' : aload true 3 q1 (frzS t2) = some (tellV y.1.1 y.1.2.1 y.2) := j1
    have hb3 := two_res (hlf y (by simp)) (hlf x (by simp)) t2
    have hxp := push_ext t2 (.row 3 (encR [y, x]) .act)
    have hR2 : RdyL (t2.push (.row 3 (encR [y, x]) .act)) (.slice (some ⟨t2.heap.length, 0, none⟩) 2 2) (apR m [a, b]) := by
      refine ⟨[y, x], ?_, ?_, fun z hz => ?_⟩
      · rw [e2, ← f1]; rfl
      · simp only [cellsOf, Nat.le_refl, if_true, readN, Ab.readRow, push_get, Option.bind_some]
        rfl
      · exact list_ext hxp (f3 z (by simp only [List.mem_cons, List.not_mem_nil, or_false] at hz ⊢; exact hz.symm)).list
    have hsr := k_sameR (L := libT) rfl rfl (hR1.ext hxp) hR2 (by rw [apR_len]; exact (by decide : 2 < 140737488355328)) (fun z hz => by have := apR_len2 z hz; simp only [List.length_cons, List.length_nil] at this; omega)
    have hpl : t2.heap.length ≤ (t2.push (.row 3 (encR [y, x]) .act)).heap.length := by simp [St.push]
    have v2 : ((2 : Int) == 2) = true := rfl
    refine ⟨t2.push (.row 3 (encR [y, x]) .act), law04_OpTurns_of rfl ?_⟩
    unfold law04_OpTurns
    rcases hor with hn | ⟨hwa, hwb⟩
    · simp only [o_box, o_all, law04_live_call, k_live, op_Span_call, hS, spL_0 ha, spL_0 hb, x_pt0, x_pt1, z_rv, st_rv, ld_rv, z0, span_Meet_call, hMt, x_meet.1, x_meet.2, hn, Option.isSome_none, b1, op_Apply_call, g1, y3_0 g2.istup, y3_1 tr, y3_2, b2, k1, y3_0 k2.istup, y3_1 tr2, ref04_SameMap_call, hsm, e1, decide_true, own_id, l1, l2, v2, i0', i1', j0', j1', hb3, own_ok hpl, ref04_SameResults_call, hsr, n_bind, n_map, getL_0, getL_1, getL_2, getL_3, getL_4, getL_5, getL_6, getL_7, getL_8, getL_9, getL_10, getL_11, getL_12, condV_t, condV_f, guardV_tt, guardV_ff, guardV_tf, guardV_ft, guardV_u, apick_t, apick_f, exV_exit, exV_ret, lookE_same, joinK_eq, seqA_n, seqA_e, seqA_r, e_add, e_sub, e_mul, e_eql, e_neq, e_lss, e_leq, e_gtr, e_geq, e_conv, e_not, e_neg, and_guard, or_guard, retV]
      rfl
    · cases hs : (meetL (spR a) (spR b)).isSome
      · simp only [o_box, o_all, law04_live_call, k_live, op_Span_call, hS, spL_0 ha, spL_0 hb, x_pt0, x_pt1, z_rv, st_rv, ld_rv, z0, span_Meet_call, hMt, x_meet.1, x_meet.2, hs, b1, op_Apply_call, g1, y3_0 g2.istup, y3_1 tr, y3_2, b2, k1, y3_0 k2.istup, y3_1 tr2, ref04_SameMap_call, hsm, e1, decide_true, own_id, l1, l2, v2, i0', i1', j0', j1', hb3, own_ok hpl, ref04_SameResults_call, hsr, n_bind, n_map, getL_0, getL_1, getL_2, getL_3, getL_4, getL_5, getL_6, getL_7, getL_8, getL_9, getL_10, getL_11, getL_12, condV_t, condV_f, guardV_tt, guardV_ff, guardV_tf, guardV_ft, guardV_u, apick_t, apick_f, exV_exit, exV_ret, lookE_same, joinK_eq, seqA_n, seqA_e, seqA_r, e_add, e_sub, e_mul, e_eql, e_neq, e_lss, e_leq, e_gtr, e_geq, e_conv, e_not, e_neg, and_guard, or_guard, retV]
        rfl
      · simp only [o_box, o_all, law04_live_call, k_live, op_Span_call, hS, spL_0 ha, spL_0 hb, x_pt0, x_pt1, z_rv, st_rv, ld_rv, z0, span_Meet_call, hMt, x_meet.1, x_meet.2, hs, op_Writes_call, hW, hwa, hwb, b1, op_Apply_call, g1, y3_0 g2.istup, y3_1 tr, y3_2, b2, k1, y3_0 k2.istup, y3_1 tr2, ref04_SameMap_call, hsm, e1, decide_true, own_id, l1, l2, v2, i0', i1', j0', j1', hb3, own_ok hpl, ref04_SameResults_call, hsr, n_bind, n_map, getL_0, getL_1, getL_2, getL_3, getL_4, getL_5, getL_6, getL_7, getL_8, getL_9, getL_10, getL_11, getL_12, condV_t, condV_f, guardV_tt, guardV_ff, guardV_tf, guardV_ft, guardV_u, apick_t, apick_f, exV_exit, exV_ret, lookE_same, joinK_eq, seqA_n, seqA_e, seqA_r, e_add, e_sub, e_mul, e_eql, e_neq, e_lss, e_leq, e_gtr, e_geq, e_conv, e_not, e_neg, and_guard, or_guard, retV]
        rfl
  · rw [if_neg c] at h1
    have ee : apE m [b, a] = apE m [a, b] := by
      unfold apE
      split
      · rw [allE_two ha hb, allE_two hb ha]
      · rfl
    have b2 : abuildSl 6 [(.int .i64 0), (.string ⟨#[]⟩), (.string ⟨#[]⟩), (.string ⟨#[]⟩), (.string ⟨#[]⟩), (.int .i64 0)] 2 [(0, oV b), (1, oV a)] (s.push (.row opC.n (encL opC [a, b]) .act)) = _ := ops_build [b, a] (by simp) (s.push (.row opC.n (encL opC [a, b]) .act))
    have hm2 := list_ext (push_ext (s.push (.row opC.n (encL opC [a, b]) .act)) (.row opC.n (encL opC [b, a]) .act)) hm1
    have h2 := t_apply hm2 (row_own (C := opC) (s := s.push (.row opC.n (encL opC [a, b]) .act)) [b, a]).list (by simp; omega) (by simp)
    rw [if_neg (by rw [ee]; exact c), ee] at h2
    refine ⟨(s.push (.row opC.n (encL opC [a, b]) .act)).push (.row opC.n (encL opC [b, a]) .act), law04_OpTurns_of rfl ?_⟩
    unfold law04_OpTurns
    rcases hor with hn | ⟨hwa, hwb⟩
    · simp only [o_box, o_all, law04_live_call, k_live, op_Span_call, hS, spL_0 ha, spL_0 hb, x_pt0, x_pt1, z_rv, st_rv, ld_rv, z0, span_Meet_call, hMt, x_meet.1, x_meet.2, hn, Option.isSome_none, b1, op_Apply_call, h1, y3_0 isTup_nil, y3_1 isTup_nil, y3_2, b2, h2, ne0 c, beq_self_eq_true, n_bind, n_map, getL_0, getL_1, getL_2, getL_3, getL_4, getL_5, getL_6, getL_7, getL_8, getL_9, getL_10, getL_11, getL_12, condV_t, condV_f, guardV_tt, guardV_ff, guardV_tf, guardV_ft, guardV_u, apick_t, apick_f, exV_exit, exV_ret, lookE_same, joinK_eq, seqA_n, seqA_e, seqA_r, e_add, e_sub, e_mul, e_eql, e_neq, e_lss, e_leq, e_gtr, e_geq, e_conv, e_not, e_neg, and_guard, or_guard, retV]
      rfl
    · cases hs : (meetL (spR a) (spR b)).isSome
      · simp only [o_box, o_all, law04_live_call, k_live, op_Span_call, hS, spL_0 ha, spL_0 hb, x_pt0, x_pt1, z_rv, st_rv, ld_rv, z0, span_Meet_call, hMt, x_meet.1, x_meet.2, hs, b1, op_Apply_call, h1, y3_0 isTup_nil, y3_1 isTup_nil, y3_2, b2, h2, ne0 c, beq_self_eq_true, n_bind, n_map, getL_0, getL_1, getL_2, getL_3, getL_4, getL_5, getL_6, getL_7, getL_8, getL_9, getL_10, getL_11, getL_12, condV_t, condV_f, guardV_tt, guardV_ff, guardV_tf, guardV_ft, guardV_u, apick_t, apick_f, exV_exit, exV_ret, lookE_same, joinK_eq, seqA_n, seqA_e, seqA_r, e_add, e_sub, e_mul, e_eql, e_neq, e_lss, e_leq, e_gtr, e_geq, e_conv, e_not, e_neg, and_guard, or_guard, retV]
        rfl
      · simp only [o_box, o_all, law04_live_call, k_live, op_Span_call, hS, spL_0 ha, spL_0 hb, x_pt0, x_pt1, z_rv, st_rv, ld_rv, z0, span_Meet_call, hMt, x_meet.1, x_meet.2, hs, op_Writes_call, hW, hwa, hwb, b1, op_Apply_call, h1, y3_0 isTup_nil, y3_1 isTup_nil, y3_2, b2, h2, ne0 c, beq_self_eq_true, n_bind, n_map, getL_0, getL_1, getL_2, getL_3, getL_4, getL_5, getL_6, getL_7, getL_8, getL_9, getL_10, getL_11, getL_12, condV_t, condV_f, guardV_tt, guardV_ff, guardV_tf, guardV_ft, guardV_u, apick_t, apick_f, exV_exit, exV_ret, lookE_same, joinK_eq, seqA_n, seqA_e, seqA_r, e_add, e_sub, e_mul, e_eql, e_neq, e_lss, e_leq, e_gtr, e_geq, e_conv, e_not, e_neg, and_guard, or_guard, retV]
        rfl

end Go.Proofs.Ytdhadhelcpeiaaa.Ab
