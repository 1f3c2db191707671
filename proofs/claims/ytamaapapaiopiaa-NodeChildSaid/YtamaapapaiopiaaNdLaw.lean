/- The kid that has a key stands between its pivots. -/
import Derived.Test.YtamaapapaiopiaaNdRun
set_option linter.unusedVariables false
set_option linter.unusedSimpArgs false
set_option linter.unusedSectionVars false
namespace Go.Proofs.Ytamaapapaiopiaa.Ab
open Go

theorem eN_0 {n : Nd} (h : eN n = 0) (hf : n.leaf = false) : okP none n.pivots = true ∧ n.pivots.length < n.kids.length := by
  have hf2 : ¬ n.leaf = true := by rw [hf]; simp
  unfold eN at h
  rw [if_neg hf2] at h
  by_cases c : badN n = true
  · rw [if_pos c] at h; cases h
  · rw [if_neg c] at h
    have c2 : badN n = false := by simpa using c
    simp only [badN, bad5, Bool.or_eq_false_iff] at c2
    obtain ⟨⟨⟨⟨⟨⟨_, a2⟩, a3⟩, a4⟩, _⟩, _⟩, _⟩ := c2
    unfold eNi at h
    by_cases d : okP none n.pivots = true
    · refine ⟨d, ?_⟩
      simp only [decide_eq_false_iff_not] at a2 a3
      have w3 : IntKind.wrap .i64 (((n.kids.length : Nat) : Int) - 1) = ((n.kids.length : Nat) : Int) - 1 := wrap_i64 (by omega) (by omega)
      rw [w3] at a4
      simp at a4
      omega
    · rw [if_neg d] at h; cases h
theorem child_law_run {n : Nd} {s : St} {v : Value} (h : NArg nodeC n s v) (key : BL) : ∃ t, law13_NodeChild (run Try.prog (libL libT) hints) v (sv key) s = some (.bool true, t) := by
  obtain ⟨t, c1, hx⟩ := nCheck_run h
  obtain ⟨p, k, q, b, rfl, hp, hk, hq, hb⟩ := node_inv h
  have hlf : leafs p k q b := ⟨listN_leaf hp, listN_leaf hk, listN_leaf hq, listN_leaf hb⟩
  have hv : (.agg #[.bool n.leaf, p, k, q, b] : Value) = ndV n.leaf p k q b := rfl
  rw [hv] at c1 ⊢
  have hbx := nd_box n.leaf p k q b hlf
  have l0 : lload false 1 lptr (ndV n.leaf p k q b) = some (.bool n.leaf) := rfl
  have l2 : lload false 1 (.pointer (some ⟨0, 2, none⟩)) (ndV n.leaf p k q b) = some k := rfl
  have l3 := nd_3 n.leaf p k q b hlf.2.2.1
  have l5 : lload true 5 lptr (ndV n.leaf p k q b) = some (ndV n.leaf p k q b) := rfl
  have hr : ∀ s, retV [.bool true] s = some (.bool true, s) := fun s => ret1 rfl
  refine ⟨t, ?_⟩
  unfold law13_NodeChild
  by_cases ce : eN n = 0
  · rw [ce] at c1
    have z0 : ((0 : Int) != 0) = false := rfl
    rcases Bool.eq_false_or_eq_true n.leaf with cf | cf
    · replace l0 : lload false 1 lptr (ndV n.leaf p k q b) = some (.bool true) := l0.trans (by rw [cf])
      simp only [hbx, law13_live_call, k_live, l5, node_Check_call, c1, z0, l0, hr, n_bind, n_map, getL_0, getL_1, getL_2, getL_3, getL_4, getL_5, getL_6, getL_7, getL_8, getL_9, getL_10, getL_11, getL_12, condV_t, condV_f, guardV_tt, guardV_ff, guardV_tf, guardV_ft, guardV_u, apick_t, apick_f, exV_exit, exV_ret, lookE_same, joinK_eq, seqA_n, seqA_e, seqA_r, e_add, e_sub, e_mul, e_eql, e_neq, e_lss, e_leq, e_gtr, e_geq, e_conv, e_not, e_neg, and_guard, or_guard]
    · obtain ⟨hok, hlen⟩ := eN_0 ce cf
      replace l0 : lload false 1 lptr (ndV n.leaf p k q b) = some (.bool false) := l0.trans (by rw [cf])
      obtain ⟨k1, _, k2⟩ := (hk.ext hx).plain
      obtain ⟨q1, _, q2⟩ := (ListN.plain (C := strC) (Pr := fun k => k.length ≤ reachBytes) (hq.ext hx))
      have hch := node_Child_of (lib := libL libT) rfl (Child_run (R := (run Try.prog (libL libT) hints)) hlf q1 (by omega) key)
      have hch' : (run Try.prog (libL libT) hints) 13 [ndV n.leaf p k q b, sv key] t = some (.int .i64 ((cntL key n.pivots : Nat) : Int), t) := by rw [cf]; exact hch
      have hle := cnt_le (key := key) (l := n.pivots)
      obtain ⟨g1, g2⟩ := cnt_cut (key := key) hok
      generalize hcc : cntL key n.pivots = c at *
      have d1 : decide (((c : Nat) : Int) ≥ 0) = true := by simp
      have d2 : decide (((c : Nat) : Int) < ((n.kids.length : Nat) : Int)) = true := by simp; omega
      have hl0 : (ndV n.leaf p k q b) = ndV n.leaf p k q b := rfl
      rcases Bool.eq_false_or_eq_true (((c : Nat) : Int) == 0) with d3 | d3
      · rcases Bool.eq_false_or_eq_true (((c : Nat) : Int) == ((n.pivots.length : Nat) : Int)) with d4 | d4
        · simp only [hbx, law13_live_call, k_live, l5, node_Check_call, c1, z0, l0, node_Child_call, hch', d1, l2, l3, list_len k1, list_len q1, d2, d3, d4, hr, n_bind, n_map, getL_0, getL_1, getL_2, getL_3, getL_4, getL_5, getL_6, getL_7, getL_8, getL_9, getL_10, getL_11, getL_12, condV_t, condV_f, guardV_tt, guardV_ff, guardV_tf, guardV_ft, guardV_u, apick_t, apick_f, exV_exit, exV_ret, lookE_same, joinK_eq, seqA_n, seqA_e, seqA_r, e_add, e_sub, e_mul, e_eql, e_neq, e_lss, e_leq, e_gtr, e_geq, e_conv, e_not, e_neg, and_guard, or_guard]
        · have hlt : c < n.pivots.length := by
            have : c ≠ n.pivots.length := fun e => by rw [e] at d4; simp at d4
            omega
          obtain ⟨a, f1, f2⟩ := str_at q1 hlt
          have g3 : Op.bytesLess key n.pivots[c] = true := g2 hlt
          simp only [hbx, law13_live_call, k_live, l5, node_Check_call, c1, z0, l0, node_Child_call, hch', d1, l2, l3, list_len k1, list_len q1, d2, d3, d4, f1, f2, e_slss, g3, hr, n_bind, n_map, getL_0, getL_1, getL_2, getL_3, getL_4, getL_5, getL_6, getL_7, getL_8, getL_9, getL_10, getL_11, getL_12, condV_t, condV_f, guardV_tt, guardV_ff, guardV_tf, guardV_ft, guardV_u, apick_t, apick_f, exV_exit, exV_ret, lookE_same, joinK_eq, seqA_n, seqA_e, seqA_r, e_add, e_sub, e_mul, e_eql, e_neq, e_lss, e_leq, e_gtr, e_geq, e_conv, e_not, e_neg, and_guard, or_guard]
      · have hpos : 0 < c := by
          have : c ≠ 0 := fun e => by rw [e] at d3; simp at d3
          omega
        have hw : IntKind.wrap .i64 (((c : Nat) : Int) - 1) = ((c - 1 : Nat) : Int) := by rw [wrap_i64 (by omega) (by omega)]; omega
        have hlt1 : c - 1 < n.pivots.length := by omega
        obtain ⟨a1, e1, e2⟩ := str_at q1 hlt1
        have e3 : bl key n.pivots[c - 1] = false := g1 (c - 1) hlt1 (by omega)
        rcases Bool.eq_false_or_eq_true (((c : Nat) : Int) == ((n.pivots.length : Nat) : Int)) with d4 | d4
        · simp only [hbx, law13_live_call, k_live, l5, node_Check_call, c1, z0, l0, node_Child_call, hch', d1, l2, l3, list_len k1, list_len q1, d2, d3, d4, hw, e1, e2, n_leq, e3, Bool.not_false, hr, n_bind, n_map, getL_0, getL_1, getL_2, getL_3, getL_4, getL_5, getL_6, getL_7, getL_8, getL_9, getL_10, getL_11, getL_12, condV_t, condV_f, guardV_tt, guardV_ff, guardV_tf, guardV_ft, guardV_u, apick_t, apick_f, exV_exit, exV_ret, lookE_same, joinK_eq, seqA_n, seqA_e, seqA_r, e_add, e_sub, e_mul, e_eql, e_neq, e_lss, e_leq, e_gtr, e_geq, e_conv, e_not, e_neg, and_guard, or_guard]
        · have hlt : c < n.pivots.length := by
            have : c ≠ n.pivots.length := fun e => by rw [e] at d4; simp at d4
            omega
          obtain ⟨a, f1, f2⟩ := str_at q1 hlt
          have g3 : Op.bytesLess key n.pivots[c] = true := g2 hlt
          simp only [hbx, law13_live_call, k_live, l5, node_Check_call, c1, z0, l0, node_Child_call, hch', d1, l2, l3, list_len k1, list_len q1, d2, d3, d4, hw, e1, e2, n_leq, e3, Bool.not_false, f1, f2, e_slss, g3, hr, n_bind, n_map, getL_0, getL_1, getL_2, getL_3, getL_4, getL_5, getL_6, getL_7, getL_8, getL_9, getL_10, getL_11, getL_12, condV_t, condV_f, guardV_tt, guardV_ff, guardV_tf, guardV_ft, guardV_u, apick_t, apick_f, exV_exit, exV_ret, lookE_same, joinK_eq, seqA_n, seqA_e, seqA_r, e_add, e_sub, e_mul, e_eql, e_neq, e_lss, e_leq, e_gtr, e_geq, e_conv, e_not, e_neg, and_guard, or_guard]
  · have n1 : (eN n != 0) = true := by simp [ce]
    simp only [hbx, law13_live_call, k_live, l5, node_Check_call, c1, n1, hr, n_bind, n_map, getL_0, getL_1, getL_2, getL_3, getL_4, getL_5, getL_6, getL_7, getL_8, getL_9, getL_10, getL_11, getL_12, condV_t, condV_f, guardV_tt, guardV_ff, guardV_tf, guardV_ft, guardV_u, apick_t, apick_f, exV_exit, exV_ret, lookE_same, joinK_eq, seqA_n, seqA_e, seqA_r, e_add, e_sub, e_mul, e_eql, e_neq, e_lss, e_leq, e_gtr, e_geq, e_conv, e_not, e_neg, and_guard, or_guard]
theorem NodeChild_law (s : St) (v : Value) (n : Nd) (h : NArg nodeC n s v) (k : ByteArray) (wk : k.size ≤ 140737488351232) : ∃ s', (run Try.prog (libL libT) hints) 4 [v, .string k] s = some (.bool true, s') := by
  rw [sv_of]
  obtain ⟨t, h1⟩ := child_law_run h k.data.toList
  exact ⟨t, law13_NodeChild_of rfl h1⟩

end Go.Proofs.Ytamaapapaiopiaa.Ab
