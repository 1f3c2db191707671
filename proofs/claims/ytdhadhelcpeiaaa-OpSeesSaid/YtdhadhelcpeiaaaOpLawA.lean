/- The laws of operations: OpReads, OpTwice. -/
import Derived.Test.YtdhadhelcpeiaaaOpLive
import Derived.Test.YtdhadhelcpeiaaaOpPure2
set_option linter.unusedVariables false
set_option linter.unusedSimpArgs false
set_option linter.unusedSectionVars false
namespace Go.Proofs.Ytdhadhelcpeiaaa.Ab
open Go

theorem apE_split {m : List Rg} {l : List OpT} (h : apE m l = 0) : Val m ∧ allE l = 0 := by
  unfold apE at h
  split at h
  · rename_i c; exact ⟨val_mapE.1 c, h⟩
  · rename_i c; exact absurd h c
theorem apE_join {m : List Rg} {l : List OpT} (h1 : Val m) (h2 : allE l = 0) : apE m l = 0 := by
  unfold apE
  rw [if_pos (val_mapE.2 h1)]
  exact h2
theorem y3_0 {a r : Value} {e : Int} (h : isTup a = false) : aextract 0 (.tuple #[a, r, .int .i64 e]) = some a := by simp [aextract, h]
theorem y3_1 {a r : Value} {e : Int} (h : isTup r = false) : aextract 1 (.tuple #[a, r, .int .i64 e]) = some r := by simp [aextract, h]
theorem y3_2 {a r : Value} {e : Int} : aextract 2 (.tuple #[a, r, .int .i64 e]) = some (.int .i64 e) := Eq.trans rfl (Eq.refl _)
theorem OwnC.istup {α : Type} {C : Cod α} {N : Nat} {s : St} {v : Value} {l : List α} (h : OwnC C N s v l) : isTup v = false := by
  rcases h with ⟨rfl, _⟩ | ⟨b, cap, rest, rfl, _⟩ <;> rfl
theorem Own.istup {N n : Nat} {s : St} {v : Value} {cs : List Value} (h : Own N n s v cs) : isTup v = false := by
  rcases h with ⟨rfl, _⟩ | ⟨b, len, rfl, _⟩ <;> rfl
theorem Rdy.istup {N : Nat} {s : St} {v : Value} {l : List Rs} (h : Rdy N s v l) : isTup v = false := by
  obtain ⟨q, _, h, _⟩ := h
  exact h.istup
theorem Rdy.alen {N : Nat} {s s2 : St} {v : Value} {l : List Rs} (h : Rdy N s v l) {e : TypeId} : alenV (.slice e) v s2 = some (.int .i64 ((l.length : Nat) : Int)) := by
  obtain ⟨q, hq, h, _⟩ := h
  rw [cells_alen h.cells, ← hq, List.length_map]
theorem nil_alen {s2 : St} {e : TypeId} : alenV (.slice e) (.slice none 0 0) s2 = some (.int .i64 0) := rfl
theorem ne0 {e : Int} (h : ¬ e = 0) : (e != 0) = true := by simpa using h
theorem isTup_nil : isTup (.slice none 0 0) = false := rfl

theorem reads_loop {v w a r : Value} {s : St} {l : List OpT} (h : listOf opC w s = some l) (hl : l.length < 140737488355328) : ∀ (rest : List OpT) (i : Nat) (acc : Bool), l.drop i = rest → i ≤ l.length →
    loopL (law04_OpReads.b0 (run Try.prog (libL libT) hints)) [v, w, .bool true, a, r, .bool acc, w, .int .i64 ((l.length : Nat) : Int), .int .i64 (i : Int)] s = some (.exit 0, [v, w, .bool true, a, r, .bool (acc || rest.any fun o => wrt o.kind)], s) := by
  have hW : ∀ o s, (run Try.prog (libL libT) hints) 15 [oV o] s = some (.bool (wrt o.kind), s) := fun o s => (known (g := gWr) rfl).trans wr_eq
  intro rest
  induction rest with
  | nil =>
    intro i acc hi hle
    have h1 : decide ((i : Int) < ((l.length : Nat) : Int)) = false := by
      have := List.drop_eq_nil_iff.1 hi
      simp; omega
    rw [loopL_eq]
    simp only [law04_OpReads.b0, h1, n_bind, n_map, getL_0, getL_1, getL_2, getL_3, getL_4, getL_5, getL_6, getL_7, getL_8, getL_9, getL_10, getL_11, getL_12, condV_t, condV_f, guardV_tt, guardV_ff, guardV_tf, guardV_ft, guardV_u, apick_t, apick_f, exV_exit, exV_ret, lookE_same, joinK_eq, seqA_n, seqA_e, seqA_r, e_add, e_sub, e_mul, e_eql, e_neq, e_lss, e_leq, e_gtr, e_geq, e_conv, e_not, e_neg, and_guard, or_guard]
    simp
  | cons o rest ih =>
    intro i acc hi hle
    obtain ⟨hlt, he, hd⟩ := drop_get hi
    have h1 : decide ((i : Int) < ((l.length : Nat) : Int)) = true := by simp; omega
    obtain ⟨p, h2, h3⟩ := list_at h hlt (k := .i64) (n := 6) rfl
    rw [op_enc, he] at h3
    have key := ih (i + 1) (acc || wrt o.kind) hd (by omega)
    rw [List.any_cons, ← Bool.or_assoc, ← key, loopL_eq]
    cases acc
    · simp only [law04_OpReads.b0, h1, h2, h3, o_st, o_all, op_Writes_call, hW, inc_i64 (show i < 140737488355328 by omega), Bool.false_or, n_bind, n_map, getL_0, getL_1, getL_2, getL_3, getL_4, getL_5, getL_6, getL_7, getL_8, getL_9, getL_10, getL_11, getL_12, condV_t, condV_f, guardV_tt, guardV_ff, guardV_tf, guardV_ft, guardV_u, apick_t, apick_f, exV_exit, exV_ret, lookE_same, joinK_eq, seqA_n, seqA_e, seqA_r, e_add, e_sub, e_mul, e_eql, e_neq, e_lss, e_leq, e_gtr, e_geq, e_conv, e_not, e_neg, and_guard, or_guard]
    · simp only [law04_OpReads.b0, h1, h2, h3, o_st, o_all, op_Writes_call, hW, inc_i64 (show i < 140737488355328 by omega), Bool.true_or, n_bind, n_map, getL_0, getL_1, getL_2, getL_3, getL_4, getL_5, getL_6, getL_7, getL_8, getL_9, getL_10, getL_11, getL_12, condV_t, condV_f, guardV_tt, guardV_ff, guardV_tf, guardV_ft, guardV_u, apick_t, apick_f, exV_exit, exV_ret, lookE_same, joinK_eq, seqA_n, seqA_e, seqA_r, e_add, e_sub, e_mul, e_eql, e_neq, e_lss, e_leq, e_gtr, e_geq, e_conv, e_not, e_neg, and_guard, or_guard]
theorem OpReads_law (s : St) (v : Value) (m : List Rg) (hm : listOf prC v s = some m) (hml : m.length ≤ 4400000000000) (w : Value) (l : List OpT) (hl : listOf opC w s = some l) (hll : l.length ≤ 1759218604391) : ∃ s', (run Try.prog (libL libT) hints) 5 [v, w] s = some (.bool true, s') := by
  have h1 := t_apply hm hl (by omega) hll
  by_cases c : apE m l = 0
  · rw [if_pos c] at h1
    obtain ⟨a, r, t, g1, g2, g3, g4⟩ := h1
    obtain ⟨c1, c2⟩ := apE_split c
    have hval := val_ap c1 c2
    have hlen : (apM m l).length < 140737488355328 := by
      have := len_ap (l := l) (m := m)
      omega
    have hM : ∀ xs s, (run Try.prog (libL libT) hints) 16 xs s = gMapE xs s := fun xs s => known (g := gMapE) rfl
    have hloop := reads_loop (v := v) (a := a) (r := r) (list_ext g4 hl) (by omega) l 0 false rfl (Nat.zero_le _)
    rw [show ((0 : Nat) : Int) = 0 from rfl, Bool.false_or] at hloop
    have z0 : ((0 : Int) != 0) = false := rfl
    have z1 : ((0 : Int) == 0) = true := rfl
    have hme := val_mapE.2 hval
    have hsm := k_same (L := libT) rfl g2.list (list_ext g4 hm) hlen
    refine ⟨t, law04_OpReads_of rfl ?_⟩
    unfold law04_OpReads
    simp only [law04_live_call, k_live, op_Apply_call, g1, y3_0 g2.istup, y3_1 g3.istup, y3_2, z0, list_len (list_ext g4 hl), hloop, op_CheckMap_call, hM, mapE_eq g2.list hlen, hme, z1, g3.alen, apR_len, beq_self_eq_true, n_bind, n_map, getL_0, getL_1, getL_2, getL_3, getL_4, getL_5, getL_6, getL_7, getL_8, getL_9, getL_10, getL_11, getL_12, condV_t, condV_f, guardV_tt, guardV_ff, guardV_tf, guardV_ft, guardV_u, apick_t, apick_f, exV_exit, exV_ret, lookE_same, joinK_eq, seqA_n, seqA_e, seqA_r, e_add, e_sub, e_mul, e_eql, e_neq, e_lss, e_leq, e_gtr, e_geq, e_conv, e_not, e_neg, and_guard, or_guard]
    cases hw : l.any fun o => wrt o.kind
    · simp only [ref04_SameMap_call, hsm, reads_pure hw, decide_true, n_bind, n_map, getL_0, getL_1, getL_2, getL_3, getL_4, getL_5, getL_6, getL_7, getL_8, getL_9, getL_10, getL_11, getL_12, condV_t, condV_f, guardV_tt, guardV_ff, guardV_tf, guardV_ft, guardV_u, apick_t, apick_f, exV_exit, exV_ret, lookE_same, joinK_eq, seqA_n, seqA_e, seqA_r, e_add, e_sub, e_mul, e_eql, e_neq, e_lss, e_leq, e_gtr, e_geq, e_conv, e_not, e_neg, and_guard, or_guard, retV]
      rfl
    · simp only [n_bind, n_map, getL_0, getL_1, getL_2, getL_3, getL_4, getL_5, getL_6, getL_7, getL_8, getL_9, getL_10, getL_11, getL_12, condV_t, condV_f, guardV_tt, guardV_ff, guardV_tf, guardV_ft, guardV_u, apick_t, apick_f, exV_exit, exV_ret, lookE_same, joinK_eq, seqA_n, seqA_e, seqA_r, e_add, e_sub, e_mul, e_eql, e_neq, e_lss, e_leq, e_gtr, e_geq, e_conv, e_not, e_neg, and_guard, or_guard, retV]
      rfl
  · rw [if_neg c] at h1
    have z1 : ((0 : Int) == 0) = true := rfl
    refine ⟨s, law04_OpReads_of rfl ?_⟩
    unfold law04_OpReads
    simp only [law04_live_call, k_live, op_Apply_call, h1, y3_0 isTup_nil, y3_1 isTup_nil, y3_2, ne0 c, nil_alen, z1, n_bind, n_map, getL_0, getL_1, getL_2, getL_3, getL_4, getL_5, getL_6, getL_7, getL_8, getL_9, getL_10, getL_11, getL_12, condV_t, condV_f, guardV_tt, guardV_ff, guardV_tf, guardV_ft, guardV_u, apick_t, apick_f, exV_exit, exV_ret, lookE_same, joinK_eq, seqA_n, seqA_e, seqA_r, e_add, e_sub, e_mul, e_eql, e_neq, e_lss, e_leq, e_gtr, e_geq, e_conv, e_not, e_neg, and_guard, or_guard, retV]
    rfl

theorem ops_build (l : List OpT) (h : l.length ≤ 3) (s : St) : abuildSl 6 [(.int .i64 0), (.string ⟨#[]⟩), (.string ⟨#[]⟩), (.string ⟨#[]⟩), (.string ⟨#[]⟩), (.int .i64 0)] l.length ((List.range l.length).zip (l.map oV)) s = some (.slice (some ⟨s.heap.length, 0, none⟩) l.length l.length, s.push (.row opC.n (encL opC l) .act)) := by
  match l, h with
  | [], _ => rfl
  | [a], _ => rfl
  | [a, b], _ => rfl
  | [a, b, c], _ => rfl
theorem push_ext (s : St) (B : Blk) : Ext s.heap.length s (s.push B) := .push _ (Nat.le_refl _) _
theorem OpTwice_law (s : St) (v : Value) (m : List Rg) (hm : listOf prC v s = some m) (hml : m.length ≤ 4400000000000) (o : OpT) : ∃ s', (run Try.prog (libL libT) hints) 6 [v, oV o] s = some (.bool true, s') := by
  have hW : ∀ o s, (run Try.prog (libL libT) hints) 15 [oV o] s = some (.bool (wrt o.kind), s) := fun o s => (known (g := gWr) rfl).trans wr_eq
  by_cases hw : wrt o.kind = true
  · have b1 := ops_build [o] (by simp) s
    have hm1 := list_ext (push_ext s (.row opC.n (encL opC [o]) .act)) hm
    have h1 := t_apply hm1 (row_own (C := opC) (s := s) [o]).list (by simp; omega) (by simp)
    have ee : apE m [o, o] = apE m [o] := by
      unfold apE
      split
      · rw [allE_cons, allE_cons]
        split
        · rfl
        · rfl
      · rfl
    by_cases c : apE m [o] = 0
    · rw [if_pos c] at h1
      obtain ⟨a, r, t, g1, g2, g3, g4⟩ := h1
      obtain ⟨c1, c2⟩ := apE_split c
      have ho := (allE_cons0 c2).1
      have hm2 := list_ext (push_ext t (.row opC.n (encL opC [o, o]) .act)) (list_ext g4 hm1)
      have h2 := t_apply hm2 (row_own (C := opC) (s := t) [o, o]).list (by simp; omega) (by simp)
      rw [if_pos (ee.trans c)] at h2
      obtain ⟨a2, r2, t2, k1, k2, k3, k4⟩ := h2
      have b2 := ops_build [o, o] (by simp) t
      have hlen : (apM m [o]).length < 140737488355328 := by
        have := len_ap (l := [o]) (m := m)
        simp at this
        omega
      have ga := list_ext k4 (list_ext (push_ext t (.row opC.n (encL opC [o, o]) .act)) g2.list)
      have hsm := k_same (L := libT) rfl ga k2.list hlen
      have hpure := twice_pure c1 ho hw
      have z1 : ((0 : Int) == 0) = true := rfl
      have z0 : ((0 : Int) != 0) = false := rfl
      have l1 : ∀ e s2, alenV (.slice e) r s2 = some (.int .i64 1) := fun e s2 => by rw [g3.alen, apR_len]; rfl
      have l2 : ∀ e s2, alenV (.slice e) r2 s2 = some (.int .i64 2) := fun e s2 => by rw [k3.alen, apR_len]; rfl
      have v1 : ((1 : Int) == 1) = true := rfl
      have v2 : ((2 : Int) == 2) = true := rfl
      have b1' : abuildSl 6 [(.int .i64 0), (.string ⟨#[]⟩), (.string ⟨#[]⟩), (.string ⟨#[]⟩), (.string ⟨#[]⟩), (.int .i64 0)] 1 [(0, oV o)] s = _ := b1
      have b2' : abuildSl 6 [(.int .i64 0), (.string ⟨#[]⟩), (.string ⟨#[]⟩), (.string ⟨#[]⟩), (.string ⟨#[]⟩), (.int .i64 0)] 2 [(0, oV o), (1, oV o)] t = _ := b2
      refine ⟨t2, law04_OpTwice_of rfl ?_⟩
      unfold law04_OpTwice
      simp only [o_box, o_all, law04_live_call, k_live, op_Writes_call, hW, hw, Bool.not_true, b1', op_Apply_call, g1, y3_0 g2.istup, y3_1 g3.istup, y3_2, b2', k1, y3_0 k2.istup, y3_1 k3.istup, z1, z0, ref04_SameMap_call, hsm, hpure, decide_true, l1, l2, v1, v2, n_bind, n_map, getL_0, getL_1, getL_2, getL_3, getL_4, getL_5, getL_6, getL_7, getL_8, getL_9, getL_10, getL_11, getL_12, condV_t, condV_f, guardV_tt, guardV_ff, guardV_tf, guardV_ft, guardV_u, apick_t, apick_f, exV_exit, exV_ret, lookE_same, joinK_eq, seqA_n, seqA_e, seqA_r, e_add, e_sub, e_mul, e_eql, e_neq, e_lss, e_leq, e_gtr, e_geq, e_conv, e_not, e_neg, and_guard, or_guard, retV]
      rfl
    · rw [if_neg c] at h1
      have hm2 := list_ext (push_ext (s.push (.row opC.n (encL opC [o]) .act)) (.row opC.n (encL opC [o, o]) .act)) hm1
      have h2 := t_apply hm2 (row_own (C := opC) (s := s.push (.row opC.n (encL opC [o]) .act)) [o, o]).list (by simp; omega) (by simp)
      rw [if_neg (by rw [ee]; exact c), ee] at h2
      have b2 := ops_build [o, o] (by simp) (s.push (.row opC.n (encL opC [o]) .act))
      have b1' : abuildSl 6 [(.int .i64 0), (.string ⟨#[]⟩), (.string ⟨#[]⟩), (.string ⟨#[]⟩), (.string ⟨#[]⟩), (.int .i64 0)] 1 [(0, oV o)] s = _ := b1
      have b2' : abuildSl 6 [(.int .i64 0), (.string ⟨#[]⟩), (.string ⟨#[]⟩), (.string ⟨#[]⟩), (.string ⟨#[]⟩), (.int .i64 0)] 2 [(0, oV o), (1, oV o)] (s.push (.row opC.n (encL opC [o]) .act)) = _ := b2
      refine ⟨(s.push (.row opC.n (encL opC [o]) .act)).push (.row opC.n (encL opC [o, o]) .act), law04_OpTwice_of rfl ?_⟩
      unfold law04_OpTwice
      simp only [o_box, o_all, law04_live_call, k_live, op_Writes_call, hW, hw, Bool.not_true, b1', op_Apply_call, h1, y3_0 isTup_nil, y3_1 isTup_nil, y3_2, b2', h2, ne0 c, beq_self_eq_true, n_bind, n_map, getL_0, getL_1, getL_2, getL_3, getL_4, getL_5, getL_6, getL_7, getL_8, getL_9, getL_10, getL_11, getL_12, condV_t, condV_f, guardV_tt, guardV_ff, guardV_tf, guardV_ft, guardV_u, apick_t, apick_f, exV_exit, exV_ret, lookE_same, joinK_eq, seqA_n, seqA_e, seqA_r, e_add, e_sub, e_mul, e_eql, e_neq, e_lss, e_leq, e_gtr, e_geq, e_conv, e_not, e_neg, and_guard, or_guard, retV]
      rfl
  · have hw' : wrt o.kind = false := by simpa using hw
    refine ⟨s, law04_OpTwice_of rfl ?_⟩
    unfold law04_OpTwice
    simp only [o_box, o_all, law04_live_call, k_live, op_Writes_call, hW, hw', Bool.not_false, n_bind, n_map, getL_0, getL_1, getL_2, getL_3, getL_4, getL_5, getL_6, getL_7, getL_8, getL_9, getL_10, getL_11, getL_12, condV_t, condV_f, guardV_tt, guardV_ff, guardV_tf, guardV_ft, guardV_u, apick_t, apick_f, exV_exit, exV_ret, lookE_same, joinK_eq, seqA_n, seqA_e, seqA_r, e_add, e_sub, e_mul, e_eql, e_neq, e_lss, e_leq, e_gtr, e_geq, e_conv, e_not, e_neg, and_guard, or_guard, retV]
    rfl

end Go.Proofs.Ytdhadhelcpeiaaa.Ab
