/- Texts of this proof, packed: JuPl, JuLawA, BArg, BSized. -/
import Derived.Test.YtccindbiodofmaaPk5
import Derived.SizedLaws
import Derived.ChangeSlices
set_option linter.unusedVariables false
set_option linter.unusedSimpArgs false
set_option linter.unusedSectionVars false
/- What is said of lists that are seen: beginnings. -/
namespace Go.Proofs.Ytccindbiodofmaa.Ab
open Go

theorem jp_idx : ∀ (l : List Sn) (i : Nat) (K : Kn), ¬ (judgeP l i K).2.1 = 0 → (i : Int) ≤ (judgeP l i K).1 ∧ (judgeP l i K).1 < ((i + l.length : Nat) : Int)
  | [], i, K, h => absurd rfl h
  | x :: l, i, K, h => by
    unfold judgeP at h ⊢
    split at h
    · rename_i c
      rw [if_pos c]
      have := jp_idx l (i + 1) _ h
      simp only [List.length_cons]
      omega
    · rename_i c
      rw [if_neg c]
      simp only [List.length_cons]
      omega
theorem jp_ok : ∀ (l : List Sn) (i : Nat) (K : Kn), (judgeP l i K).2.1 = 0 → (judgeP l i K).1 = -1
  | [], i, K, h => rfl
  | x :: l, i, K, h => by
    unfold judgeP at h ⊢
    split at h
    · rename_i c; rw [if_pos c]; exact jp_ok _ _ _ h
    · rename_i c; exact absurd h c
theorem jp_take : ∀ (l : List Sn) (i c : Nat) (K : Kn), c ≤ l.length → ((judgeP l i K).2.1 = 0 ∨ ((i + c : Nat) : Int) ≤ (judgeP l i K).1) → (judgeP (l.take c) i K).2.1 = 0
  | [], i, c, K, hc, h => by
    have : c = 0 := by simpa using hc
    subst this
    rfl
  | x :: l, i, 0, K, hc, h => rfl
  | x :: l, i, c + 1, K, hc, h => by
    rw [List.take_succ_cons]
    unfold judgeP at h ⊢
    by_cases q : (seeP K x).1 = 0
    · rw [if_pos q] at h ⊢
      refine jp_take l (i + 1) c _ (by simpa using hc) ?_
      rcases h with h | h
      · exact .inl h
      · exact .inr (by omega)
    · rw [if_neg q] at h
      rcases h with h | h
      · exact absurd h q
      · simp only at h; omega
theorem jp_take2 : ∀ (l : List Sn) (i c : Nat) (K : Kn), ¬ (judgeP l i K).2.1 = 0 → (judgeP l i K).1 < ((i + c : Nat) : Int) → (judgeP (l.take c) i K).1 = (judgeP l i K).1 ∧ (judgeP (l.take c) i K).2.1 = (judgeP l i K).2.1
  | [], i, c, K, h, _ => absurd rfl h
  | x :: l, i, 0, K, h, h2 => by
    have := (jp_idx (x :: l) i K h).1
    omega
  | x :: l, i, c + 1, K, h, h2 => by
    rw [List.take_succ_cons]
    unfold judgeP at h h2 ⊢
    by_cases q : (seeP K x).1 = 0
    · rw [if_pos q] at h h2 ⊢
      rw [if_pos q]
      exact jp_take2 l (i + 1) c _ h (by omega)
    · rw [if_neg q, if_neg q]
      exact ⟨rfl, rfl⟩
theorem jd_ok {l : List Sn} (h : (judP l).2 = 0) : (judP l).1 = -1 := jp_ok l 0 _ h
theorem jd_idx {l : List Sn} (h : ¬ (judP l).2 = 0) : 0 ≤ (judP l).1 ∧ (judP l).1 < ((l.length : Nat) : Int) := by
  have := jp_idx l 0 Kn.nil h
  rw [Nat.zero_add] at this
  exact ⟨this.1, this.2⟩
theorem jd_take {l : List Sn} {c : Nat} (hc : c ≤ l.length) (h : (judP l).2 = 0 ∨ (c : Int) ≤ (judP l).1) : judP (l.take c) = (-1, 0) := by
  have := jp_take l 0 c Kn.nil hc (by rw [Nat.zero_add]; exact h)
  exact Prod.ext (jp_ok _ _ _ this) this
theorem jd_take2 {l : List Sn} {c : Nat} (h : ¬ (judP l).2 = 0) (h2 : (judP l).1 < (c : Int)) : judP (l.take c) = judP l := by
  obtain ⟨a, b⟩ := jp_take2 l 0 c Kn.nil h (by rw [Nat.zero_add]; exact h2)
  exact Prod.ext a b

/-! ### A beginning, in memory -/
theorem sn_take {s : St} : ∀ {l : List Sn} {css : List (List Value)} (c : Nat), All2 (SnRel s) l css → css.flatten.take (c * 6) = (css.take c).flatten ∧ All2 (SnRel s) (l.take c) (css.take c)
  | [], [], c, _ => by simp [All2]
  | a :: l, d :: css, 0, h => by simp [All2]
  | a :: l, d :: css, c + 1, ⟨h1, h2⟩ => by
    obtain ⟨g1, g2⟩ := sn_take c h2
    obtain ⟨o, r, rfl, _⟩ := id h1
    refine ⟨?_, h1, g2⟩
    rw [List.take_succ_cons, List.flatten_cons, List.flatten_cons, ← g1, Nat.add_mul, Nat.one_mul, Nat.add_comm, show 6 + c * 6 = (snCells a o r).length + c * 6 from rfl, List.take_length_add_append]
  | [], _ :: _, _, h => h.elim
  | _ :: _, [], _, h => h.elim
theorem SnL.take {s : St} {v : Value} {l : List Sn} (h : SnL s v l) {c : Nat} (hc : c ≤ l.length) : ∃ u, asliceV 6 v none (some (.int .i64 (c : Int))) none = some u ∧ SnL s u (l.take c) := by
  obtain ⟨css, h1, h2⟩ := h
  obtain ⟨a, len, cap, rfl, h3⟩ := cellsOf_len h1
  rw [(sn_flat h2).1] at h3
  have hl : len = l.length := by omega
  obtain ⟨u, e1, e2⟩ := cells_slice h1 (lo := none) (hi := some (.int .i64 (c : Int))) (mx := none) (i := 0) (j := c) rfl (by simp [abound]) (Nat.zero_le _) (by omega) (.inl rfl)
  obtain ⟨g1, g2⟩ := sn_take c h2
  refine ⟨u, e1, css.take c, ?_, g2⟩
  rw [e2, Nat.zero_mul, List.drop_zero, Nat.sub_zero, g1]

end Go.Proofs.Ytccindbiodofmaa.Ab

/- The laws of what is seen: JudgeBegins. -/
namespace Go.Proofs.Ytccindbiodofmaa.Ab
open Go
set_option maxRecDepth 100000

/-- a number of 0 to n out of any -/
theorem cut_of {n : Nat} (hn : n ≤ 1759218604391) (c : Int) : IntKind.wrap .i64 (((n : Nat) : Int) + 1) = ((n : Nat) : Int) + 1 ∧ ((n : Nat) : Int) + 1 ≠ 0 ∧ IntKind.wrap .i64 (c.tmod (((n : Nat) : Int) + 1) + ((n : Nat) : Int)) = c.tmod (((n : Nat) : Int) + 1) + ((n : Nat) : Int) ∧ IntKind.wrap .i64 (c.tmod (((n : Nat) : Int) + 1) + ((n : Nat) : Int) + 1) = c.tmod (((n : Nat) : Int) + 1) + ((n : Nat) : Int) + 1 ∧ ∃ j : Nat, (c.tmod (((n : Nat) : Int) + 1) + ((n : Nat) : Int) + 1).tmod (((n : Nat) : Int) + 1) = (j : Int) ∧ j ≤ n := by
  have hr1 : -(((n : Nat) : Int) + 1) < c.tmod (((n : Nat) : Int) + 1) ∧ c.tmod (((n : Nat) : Int) + 1) < ((n : Nat) : Int) + 1 := by
    have h1 := Int.lt_tmod_of_pos c (show (0 : Int) < ((n : Nat) : Int) + 1 by omega)
    have h2 := Int.tmod_lt_of_pos c (show (0 : Int) < ((n : Nat) : Int) + 1 by omega)
    exact ⟨h1, h2⟩
  generalize hq : c.tmod (((n : Nat) : Int) + 1) = q at hr1
  refine ⟨by rw [wrap_i64 (by omega) (by omega)], by omega, by rw [wrap_i64 (by omega) (by omega)], by rw [wrap_i64 (by omega) (by omega)], ?_⟩
  have h1 := Int.tmod_nonneg (((n : Nat) : Int) + 1) (show (0 : Int) ≤ q + ((n : Nat) : Int) + 1 by omega)
  have h2 := Int.tmod_lt_of_pos (q + ((n : Nat) : Int) + 1) (show (0 : Int) < ((n : Nat) : Int) + 1 by omega)
  exact ⟨((q + ((n : Nat) : Int) + 1).tmod (((n : Nat) : Int) + 1)).toNat, by omega, by omega⟩
theorem y2i_0 (a b : Int) : aextract 0 (.tuple #[.int .i64 a, .int .i64 b]) = some (.int .i64 a) := rfl
theorem y2i_1 (a b : Int) : aextract 1 (.tuple #[.int .i64 a, .int .i64 b]) = some (.int .i64 b) := rfl

theorem JudgeBegins_law (s : St) (v : Value) (l : List Sn) (h : ListN snN 80 l s v) (c : Int) (hc : (Lit.int .i64 c).wf = true) : ∃ s', (run Try.prog (libL libT) hints) 4 [v, .int .i64 c] s = some (.bool true, s') := by
  obtain ⟨hv, _, hl⟩ := sn_list h
  have hlen : ∀ e s2, alenV (.slice e) v s2 = some (.int .i64 ((l.length : Nat) : Int)) := fun e s2 => hv.len
  by_cases hbig : 100 < l.length
  · have h1 : decide (((l.length : Nat) : Int) > 100) = true := by simp; omega
    refine ⟨s, law23_JudgeBegins_of rfl ?_⟩
    unfold law23_JudgeBegins
    simp only [law23_live_call, k_live, hlen, h1, n_bind, n_map, getL_0, getL_1, getL_2, getL_3, getL_4, getL_5, getL_6, getL_7, getL_8, getL_9, getL_10, getL_11, getL_12, condV_t, condV_f, guardV_tt, guardV_ff, guardV_tf, guardV_ft, guardV_u, apick_t, apick_f, exV_exit, exV_ret, lookE_same, joinK_eq, seqA_n, seqA_e, seqA_r, e_add, e_sub, e_mul, e_eql, e_neq, e_lss, e_leq, e_gtr, e_geq, e_conv, e_not, e_neg, and_guard, or_guard, retV]
    rfl
  have h1 : decide (((l.length : Nat) : Int) > 100) = false := by simp; omega
  obtain ⟨w1, w2, w3, w4, j, w5, w6⟩ := cut_of hl c
  obtain ⟨t1, g1, g2⟩ := Judge_run hv hl
  obtain ⟨u, k1, k2⟩ := (hv.ext g2).take w6
  obtain ⟨t2, g3, g4⟩ := Judge_run k2 (by rw [List.length_take]; omega)
  refine ⟨t2, law23_JudgeBegins_of rfl ?_⟩
  by_cases he : (judP l).2 = 0
  · have hi := jd_ok he
    have hj := jd_take w6 (.inl he)
    rw [hi, he] at g1
    rw [hj] at g3
    have z1 : ((0 : Int) != 0) = false := rfl
    have z2 : ((0 : Int) == 0) = true := rfl
    have z3 : ((-1 : Int) != -1) = false := rfl
    have z4 : ((-1 : Int) == -1) = true := rfl
    unfold law23_JudgeBegins
    simp only [law23_live_call, k_live, hlen, h1, w1, w3, w4, w5, e_rem w2, judge_Judge_call, g1, y2i_0, y2i_1, z1, z2, z3, z4, k1, g3, n_bind, n_map, getL_0, getL_1, getL_2, getL_3, getL_4, getL_5, getL_6, getL_7, getL_8, getL_9, getL_10, getL_11, getL_12, condV_t, condV_f, guardV_tt, guardV_ff, guardV_tf, guardV_ft, guardV_u, apick_t, apick_f, exV_exit, exV_ret, lookE_same, joinK_eq, seqA_n, seqA_e, seqA_r, e_add, e_sub, e_mul, e_eql, e_neq, e_lss, e_leq, e_gtr, e_geq, e_conv, e_not, e_neg, and_guard, or_guard, retV]
    rfl
  · obtain ⟨i0, i1⟩ := jd_idx he
    have a1 : decide ((judP l).1 < 0) = false := by simp; omega
    have a2 : decide ((judP l).1 ≥ ((l.length : Nat) : Int)) = false := by simp; omega
    have a3 : ((judP l).2 == 0) = false := by simpa using he
    have a4 : ((judP l).2 != 0) = true := by simpa using he
    by_cases hcut : (j : Int) ≤ (judP l).1
    · have hj := jd_take w6 (.inr hcut)
      rw [hj] at g3
      have a5 : decide ((j : Int) ≤ (judP l).1) = true := decide_eq_true hcut
      have z2 : ((0 : Int) == 0) = true := rfl
      have z4 : ((-1 : Int) == -1) = true := rfl
      unfold law23_JudgeBegins
      simp only [law23_live_call, k_live, hlen, h1, w1, w3, w4, w5, e_rem w2, judge_Judge_call, g1, y2i_0, y2i_1, a1, a2, a3, a4, a5, z2, z4, k1, g3, n_bind, n_map, getL_0, getL_1, getL_2, getL_3, getL_4, getL_5, getL_6, getL_7, getL_8, getL_9, getL_10, getL_11, getL_12, condV_t, condV_f, guardV_tt, guardV_ff, guardV_tf, guardV_ft, guardV_u, apick_t, apick_f, exV_exit, exV_ret, lookE_same, joinK_eq, seqA_n, seqA_e, seqA_r, e_add, e_sub, e_mul, e_eql, e_neq, e_lss, e_leq, e_gtr, e_geq, e_conv, e_not, e_neg, and_guard, or_guard, retV]
      rfl
    · have hj := jd_take2 he (c := j) (by omega)
      rw [hj] at g3
      have a5 : decide ((j : Int) ≤ (judP l).1) = false := decide_eq_false hcut
      have z2 : ((judP l).1 == (judP l).1) = true := by simp
      have z4 : ((judP l).2 == (judP l).2) = true := by simp
      unfold law23_JudgeBegins
      simp only [law23_live_call, k_live, hlen, h1, w1, w3, w4, w5, e_rem w2, judge_Judge_call, g1, y2i_0, y2i_1, a1, a2, a3, a4, a5, z2, z4, k1, g3, n_bind, n_map, getL_0, getL_1, getL_2, getL_3, getL_4, getL_5, getL_6, getL_7, getL_8, getL_9, getL_10, getL_11, getL_12, condV_t, condV_f, guardV_tt, guardV_ff, guardV_tf, guardV_ft, guardV_u, apick_t, apick_f, exV_exit, exV_ret, lookE_same, joinK_eq, seqA_n, seqA_e, seqA_r, e_add, e_sub, e_mul, e_eql, e_neq, e_lss, e_leq, e_gtr, e_geq, e_conv, e_not, e_neg, and_guard, or_guard, retV]
      rfl

end Go.Proofs.Ytccindbiodofmaa.Ab

/- A law's arguments in memory, as the abstract machine has them: bytes. -/
namespace Go.Proofs.Ytccindbiodofmaa.Ab
open Go

end Go.Proofs.Ytccindbiodofmaa.Ab

/- A row's slice of whole numbers is no longer than its weight allows. (Began as the words that print.sh lays for rows over slices.) -/
namespace Go.Proofs.Ytccindbiodofmaa.Ab
open Go Go.ChangeShapes Go.WideShapes
end Go.Proofs.Ytccindbiodofmaa.Ab
