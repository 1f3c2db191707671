/- What single operations do to a map, and tell, further. -/
import Derived.Test.YtdhadhelcpeiaaaOpDo
set_option linter.unusedVariables false
set_option linter.unusedSimpArgs false
set_option linter.unusedSectionVars false
namespace Go.Proofs.Ytdhadhelcpeiaaa.Ab
open Go

theorem lb_mono {a b : BL} (h : bl a b = true) : ∀ (m : List Rg), lb m a ≤ lb m b
  | [] => Nat.le_refl _
  | p :: m => by
    unfold lb
    rw [List.takeWhile_cons, List.takeWhile_cons]
    by_cases c : bl p.1 a = true
    · rw [if_pos c, if_pos (bl_trans c h)]
      have := lb_mono h m
      unfold lb at this
      simp only [List.length_cons]
      omega
    · rw [if_neg c]
      simp
theorem ends_le {m : List Rg} {r : Rg} (h : ckR r = true) : (endsL m r).1 ≤ (endsL m r).2 ∧ (endsL m r).2 ≤ m.length := by
  unfold endsL
  have h1 := ckR_lt' h
  by_cases h2 : r.2 = []
  · simp only [h2, beq_self_eq_true, if_true]
    exact ⟨lb_le _ _, Nat.le_refl _⟩
  · have h3 : (r.2 == []) = false := by simp [h2]
    rw [h3] at h1
    simp only [Bool.false_or] at h1
    simp only [h3, if_false, Bool.false_eq_true]
    exact ⟨lb_mono h1 m, lb_le _ _⟩
where
  ckR_lt' {r : Rg} (h : ckR r = true) : (r.2 == [] || bl r.1 r.2) = true := by
    unfold ckR at h
    simp only [Bool.and_eq_true] at h
    exact h.2
def delL (m : List Rg) (k : BL) : List Rg := if fnd m k then m.take (lb m k) ++ m.drop (lb m k + 1) else m
def clearL (m : List Rg) (r : Rg) : List Rg := m.take (endsL m r).1 ++ m.drop (endsL m r).2
def scanL (m : List Rg) (r : Rg) (most : Nat) : List Rg := (m.drop (endsL m r).1).take (min (endsL m r).2 ((endsL m r).1 + most) - (endsL m r).1)
theorem del_run {R : Caller} (hA : ∀ xs s, R 53 xs s = gAt xs s) (hD : ∀ a b c s r, slices_Delete_api_Pair_api_Pair R a b c s = some r → R 55 [a, b, c] s = some r) {N : Nat} {v : Value} {s : St} {m : List Rg} (h : OwnC prC N s v m) (hN : N ≤ s.heap.length) (hl : m.length ≤ 6500000000000) (hs : Srt m) (o : OpT) :
    ∃ v' t, op_del R v (oV o) s = some (.tuple #[v', tellV false [] (.slice none 0 0)], t) ∧ OwnC prC N t v' (delL m o.key) ∧ Keep (blkOf v) s t ∧ blkOf v' = blkOf v := by
  unfold op_del delL
  simp only [o_box, o_1, op_at_call, hA, at_eq h.list (by omega) hs, x_at0, x_at1, res_00, n_bind, n_map, getL_0, getL_1, getL_2, getL_3, getL_4, getL_5, getL_6, getL_7, getL_8, getL_9, getL_10, getL_11, getL_12, condV_t, condV_f, guardV_tt, guardV_ff, guardV_tf, guardV_ft, guardV_u, apick_t, apick_f, exV_exit, exV_ret, lookE_same, joinK_eq, seqA_n, seqA_e, seqA_r, e_add, e_sub, e_mul, e_eql, e_neq, e_lss, e_leq, e_gtr, e_geq, e_conv, e_not, e_neg, and_guard, or_guard]
  cases hf : fnd m o.key
  · refine ⟨v, s, ?_, h, .refl _ _, rfl⟩
    simp only [n_bind, n_map, getL_0, getL_1, getL_2, getL_3, getL_4, getL_5, getL_6, getL_7, getL_8, getL_9, getL_10, getL_11, getL_12, condV_t, condV_f, guardV_tt, guardV_ff, guardV_tf, guardV_ft, guardV_u, apick_t, apick_f, exV_exit, exV_ret, lookE_same, joinK_eq, seqA_n, seqA_e, seqA_r, e_add, e_sub, e_mul, e_eql, e_neq, e_lss, e_leq, e_gtr, e_geq, e_conv, e_not, e_neg, and_guard, or_guard, op_del.j0, res_00, res_st _ _ (.slice none 0 0) rfl, res_ld, retV, List.all_cons, h.notup]
    rfl
  · obtain ⟨hj, _⟩ := lb_lt_of hf
    obtain ⟨v', t, g1, g2, g3, g4⟩ := Delete_run (R := R) h hl (i := lb m o.key) (j := lb m o.key + 1) (by omega) hj
    refine ⟨v', t, ?_, by rw [if_pos rfl]; exact g2, g3, g4⟩
    simp only [n_bind, n_map, getL_0, getL_1, getL_2, getL_3, getL_4, getL_5, getL_6, getL_7, getL_8, getL_9, getL_10, getL_11, getL_12, condV_t, condV_f, guardV_tt, guardV_ff, guardV_tf, guardV_ft, guardV_u, apick_t, apick_f, exV_exit, exV_ret, lookE_same, joinK_eq, seqA_n, seqA_e, seqA_r, e_add, e_sub, e_mul, e_eql, e_neq, e_lss, e_leq, e_gtr, e_geq, e_conv, e_not, e_neg, and_guard, or_guard, inc_i64 (show lb m o.key < 140737488355328 by omega), slices_Delete_api_Pair_api_Pair_call, hD _ _ _ _ _ g1, op_del.j0, res_00, res_st _ _ (.slice none 0 0) rfl, res_ld, retV, List.all_cons, g2.notup]
    rfl
theorem clear_run {R : Caller} (hO : ∀ o s, R 37 [oV o] s = some (rv (o.lo, o.hi), s)) (hE : ∀ xs s, R 56 xs s = gEnds xs s) (hD : ∀ a b c s r, slices_Delete_api_Pair_api_Pair R a b c s = some r → R 55 [a, b, c] s = some r) {N : Nat} {v : Value} {s : St} {m : List Rg} (h : OwnC prC N s v m) (hN : N ≤ s.heap.length) (hl : m.length ≤ 6500000000000) (hs : Srt m) (o : OpT) (hr : ckR (o.lo, o.hi) = true) :
    ∃ v' t, op_clear R v (oV o) s = some (.tuple #[v', tellV false [] (.slice none 0 0)], t) ∧ OwnC prC N t v' (clearL m (o.lo, o.hi)) ∧ Keep (blkOf v) s t ∧ blkOf v' = blkOf v := by
  obtain ⟨e1, e2⟩ := ends_le (m := m) hr
  obtain ⟨v', t, g1, g2, g3, g4⟩ := Delete_run (R := R) h hl e1 e2
  refine ⟨v', t, ?_, g2, g3, g4⟩
  unfold op_clear
  simp only [o_box, o_all, op_of_call, hO, op_ends_call, hE, ends_eq h.list (by omega) hs, x_en0, x_en1, slices_Delete_api_Pair_api_Pair_call, hD _ _ _ _ _ g1, res_00, n_bind, n_map, getL_0, getL_1, getL_2, getL_3, getL_4, getL_5, getL_6, getL_7, getL_8, getL_9, getL_10, getL_11, getL_12, condV_t, condV_f, guardV_tt, guardV_ff, guardV_tf, guardV_ft, guardV_u, apick_t, apick_f, exV_exit, exV_ret, lookE_same, joinK_eq, seqA_n, seqA_e, seqA_r, e_add, e_sub, e_mul, e_eql, e_neq, e_lss, e_leq, e_gtr, e_geq, e_conv, e_not, e_neg, and_guard, or_guard, retV, List.all_cons, g2.notup]
  rfl
theorem pr_nil {o1 o2 : Operand} : abin Try.prog .eql 22 o1 o2 (.slice none 0 0) (.slice none 0 0) = some (.bool true) := by
  unfold abin
  rw [Try.underlying22]
  rfl
theorem pr_some {o1 o2 : Operand} {a : Addr} {len cap : Nat} : abin Try.prog .eql 22 o1 o2 (.slice (some a) len cap) (.slice none 0 0) = some (.bool false) := by
  unfold abin
  rw [Try.underlying22]
  rfl
theorem clone_run {R : Caller} {v : Value} {s : St} {m : List Rg} (h : listOf prC v s = some m) (hl : m.length ≤ 6500000000000) :
    ∃ v' t, slices_Clone_api_Pair_api_Pair R v s = some (v', t) ∧ OwnC prC s.heap.length t v' m ∧ Ext s.heap.length s t := by
  unfold slices_Clone_api_Pair_api_Pair
  obtain ⟨a, cap, rfl⟩ := list_shape h
  cases a with
  | none =>
    have hn := (listOf_iff prC).1 h
    unfold cellsOf at hn
    split at hn
    · rename_i e
      injection e with _ e1 e2
      have hm : m = [] := List.eq_nil_of_length_eq_zero e1
      subst hm
      subst e2
      refine ⟨.slice none 0 0, s, ?_, .inl ⟨rfl, rfl⟩, .refl _ _⟩
      simp only [List.length_nil, pr_nil, n_bind, n_map, getL_0, getL_1, getL_2, getL_3, getL_4, getL_5, getL_6, getL_7, getL_8, getL_9, getL_10, getL_11, getL_12, condV_t, condV_f, guardV_tt, guardV_ff, guardV_tf, guardV_ft, guardV_u, apick_t, apick_f, exV_exit, exV_ret, lookE_same, joinK_eq, seqA_n, seqA_e, seqA_r, e_add, e_sub, e_mul, e_eql, e_neq, e_lss, e_leq, e_gtr, e_geq, e_conv, e_not, e_neg, and_guard, or_guard, retV]
      rfl
    · rename_i e; injection e with e _ _; cases e
    · cases hn
  | some a =>
    have e1 : abuildSl 2 [(.string ⟨#[]⟩), (.string ⟨#[]⟩)] 0 [] s = some (.slice (some ⟨s.heap.length, 0, none⟩) 0 0, s.push (.row 2 [] .act)) := rfl
    have hx : Ext s.heap.length s (s.push (.row 2 [] .act)) := .push _ (Nat.le_refl _) _
    have h2 := list_ext hx h
    have he : elemsOf 2 (.slice (some a) m.length cap) (s.push (.row 2 [] .act)) = some (encL prC m) := list_elems h2
    simp only [pr_some, e1, n_bind, n_map, getL_0, getL_1, getL_2, getL_3, getL_4, getL_5, getL_6, getL_7, getL_8, getL_9, getL_10, getL_11, getL_12, condV_t, condV_f, guardV_tt, guardV_ff, guardV_tf, guardV_ft, guardV_u, apick_t, apick_f, exV_exit, exV_ret, lookE_same, joinK_eq, seqA_n, seqA_e, seqA_r, e_add, e_sub, e_mul, e_eql, e_neq, e_lss, e_leq, e_gtr, e_geq, e_conv, e_not, e_neg, and_guard, or_guard]
    unfold aappend
    rw [if_pos (by decide), list_lenV h2, he]
    simp only [Option.bind_some, Nat.zero_add]
    rw [if_pos (room32 hl)]
    by_cases hm : m.length = 0
    · have : m = [] := List.eq_nil_of_length_eq_zero hm
      subst this
      refine ⟨.slice (some ⟨s.heap.length, 0, none⟩) 0 0, s.push (.row 2 [] .act), rfl, .inr ⟨s.heap.length, 0, [], rfl, Nat.le_refl _, push_get, rfl, rfl⟩, hx⟩
    · rw [if_neg (by omega), push_get]
      simp only
      rw [if_pos ⟨trivial, trivial, rfl⟩]
      have hlen2 : (s.push (.row 2 [] .act)).heap.length = ((s.push (.row 2 [] .act)).putB s.heap.length (.row 2 [] .dead)).heap.length := by simp [St.putB]
      have hpl : (s.push (.row 2 [] .act)).heap.length = s.heap.length + 1 := push_len
      refine ⟨.slice (some ⟨(s.push (.row 2 [] .act)).heap.length, 0, none⟩) m.length m.length, ((s.push (.row 2 [] .act)).putB s.heap.length (.row 2 [] .dead)).push (.row 2 (encL prC m) .act), ?_, .inr ⟨(s.push (.row 2 [] .act)).heap.length, m.length, [], rfl, by omega, ?_, ?_, rfl⟩, ?_⟩
      · simp only [Option.bind_some, retV, List.nil_append]
        rfl
      · rw [List.append_nil, hlen2]
        exact push_get
      · rw [List.append_nil, encL_len]
      · refine ⟨by simp [St.putB, St.push], fun c hc => ?_⟩
        rw [push_old (by simp [St.putB, St.push]; omega)]
        simp only [St.putB]
        rw [List.getElem?_set_ne (by omega), push_old hc]
theorem scan_run {R : Caller} (hO : ∀ o s, R 37 [oV o] s = some (rv (o.lo, o.hi), s)) (hE : ∀ xs s, R 56 xs s = gEnds xs s) (hC : ∀ a s r, slices_Clone_api_Pair_api_Pair R a s = some r → R 31 [a] s = some r) {v : Value} {s : St} {m : List Rg} (h : listOf prC v s = some m) (hnt : noTup v = true) (hl : m.length ≤ 6500000000000) (hs : Srt m) (o : OpT) (hr : ckR (o.lo, o.hi) = true) {most : Nat} (hm : o.most = (most : Int)) (hm2 : most ≤ 4) :
    ∃ pv t, op_scan R v (oV o) s = some (.tuple #[v, tellV false [] pv], t) ∧ OwnC prC s.heap.length t pv (scanL m (o.lo, o.hi) most) ∧ Ext s.heap.length s t := by
  obtain ⟨e1, e2⟩ := ends_le (m := m) hr
  have hw : IntKind.wrap .i64 ((((endsL m (o.lo, o.hi)).1 : Nat) : Int) + ((most : Nat) : Int)) = (((endsL m (o.lo, o.hi)).1 + most : Nat) : Int) := by rw [wrap_i64 (by omega) (by omega)]; omega
  have hmin : amin2 (.int .i64 (((endsL m (o.lo, o.hi)).2 : Nat) : Int)) (.int .i64 (((endsL m (o.lo, o.hi)).1 + most : Nat) : Int)) = some (.int .i64 ((min (endsL m (o.lo, o.hi)).2 ((endsL m (o.lo, o.hi)).1 + most) : Nat) : Int)) := by
    unfold amin2
    by_cases c : (endsL m (o.lo, o.hi)).2 ≤ (endsL m (o.lo, o.hi)).1 + most
    · rw [Nat.min_eq_left c]
      simp
      omega
    · rw [Nat.min_eq_right (by omega)]
      simp
      omega
  obtain ⟨u, g1, g2⟩ := list_slice h (lo := some (.int .i64 (((endsL m (o.lo, o.hi)).1 : Nat) : Int))) (hi := some (.int .i64 ((min (endsL m (o.lo, o.hi)).2 ((endsL m (o.lo, o.hi)).1 + most) : Nat) : Int))) (mx := none) (i := (endsL m (o.lo, o.hi)).1) (j := min (endsL m (o.lo, o.hi)).2 ((endsL m (o.lo, o.hi)).1 + most)) (by simp [abound]) (by simp [abound]) (by omega) (by omega) (.inl rfl) (n := 2) rfl
  obtain ⟨pv, t, g3, g4, g5⟩ := clone_run (R := R) g2 (by simp; omega)
  refine ⟨pv, t, ?_, g4, g5⟩
  have hlf : isLeaf pv = true ∧ cellsV pv = [pv] := by rcases g4 with ⟨rfl, _⟩ | ⟨b, cap, rest, rfl, _⟩ <;> exact ⟨rfl, rfl⟩
  have hb : abuild Try.prog 34 [(2, pv)] = some (tellV false [] pv) := by
    rcases g4 with ⟨rfl, _⟩ | ⟨b, cap, rest, rfl, _⟩ <;> kernel_rfl
  unfold op_scan
  simp only [o_box, o_all, o_5, op_of_call, hO, op_ends_call, hE, ends_eq h (by omega) hs, x_en0, x_en1, hm, n_bind, n_map, getL_0, getL_1, getL_2, getL_3, getL_4, getL_5, getL_6, getL_7, getL_8, getL_9, getL_10, getL_11, getL_12, condV_t, condV_f, guardV_tt, guardV_ff, guardV_tf, guardV_ft, guardV_u, apick_t, apick_f, exV_exit, exV_ret, lookE_same, joinK_eq, seqA_n, seqA_e, seqA_r, e_add, e_sub, e_mul, e_eql, e_neq, e_lss, e_leq, e_gtr, e_geq, e_conv, e_not, e_neg, and_guard, or_guard, hw]
  simp only [hmin, n_bind, g1, slices_Clone_api_Pair_api_Pair_call, hC _ _ _ g3, hb, res_00, res_st _ _ pv hlf.1, res_ld, retV, List.all_cons, hnt]
  rfl

end Go.Proofs.Ytdhadhelcpeiaaa.Ab
