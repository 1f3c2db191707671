/- Texts of this proof, packed: JuRun, JuPl, JuOwn, JuPl2, JuLawA, JuLawB, BArg, BSized. -/
import Derived.Test.YtccindbiodofmaaPk5
import Derived.SizedLaws
import Derived.ChangeSlices
set_option linter.unusedVariables false
set_option linter.unusedSimpArgs false
set_option linter.unusedSectionVars false
/- All that are seen, one after another; Judge and Replay. -/
namespace Go.Proofs.Ytccindbiodofmaa.Ab
open Go
set_option maxRecDepth 100000

def judgeP : List Sn → Nat → Kn → Int × Int × Kn
  | [], _, K => (-1, 0, K)
  | x :: l, i, K => if (seeP K x).1 = 0 then judgeP l (i + 1) (seeP K x).2 else ((i : Int), (seeP K x).1, (seeP K x).2)
abbrev pK (s : St) : Value := .pointer (some ⟨s.heap.length + 3, 0, none⟩)
def fresh4 (s : St) : St := (((s.push (.map [] 0)).push (.map [] 0)).push (.map [] 0)).push (.row 0 (kCells s.heap.length (.slice none 0 0)) .act)
theorem fresh_ks (s : St) : KS s (fresh4 s) Kn.nil [] [] [] 0 0 0 (.slice none 0 0) := by
  have e0 : (fresh4 s).heap = s.heap ++ [.map [] 0, .map [] 0, .map [] 0, .row 0 (kCells s.heap.length (.slice none 0 0)) .act] := by
    simp [fresh4, St.push]
  refine ⟨⟨by rw [e0]; simp, fun b hb => by rw [e0, List.getElem?_append_left hb]⟩, ?_, ?_, ?_, ?_, .inl ⟨rfl, rfl⟩, trivial, trivial, trivial, fun e he => (by cases he)⟩
  · rw [e0, List.getElem?_append_right (Nat.le_refl _), Nat.sub_self]; rfl
  · rw [e0, List.getElem?_append_right (by omega), show s.heap.length + 1 - s.heap.length = 1 by omega]; rfl
  · rw [e0, List.getElem?_append_right (by omega), show s.heap.length + 2 - s.heap.length = 2 by omega]; rfl
  · rw [e0, List.getElem?_append_right (by omega), show s.heap.length + 3 - s.heap.length = 3 by omega]; rfl
theorem none_run (s : St) : (run Try.prog (libL libT) hints) 18 [] s = some (pK s, fresh4 s) := by
  refine judge_none_of rfl ?_
  have hb : ∀ a b c : Nat, abuild Try.prog 61 [(0, .map (some a)), (1, .map (some b)), (2, .map (some c))] = some (.agg #[.map (some a), .map (some b), .map (some c), .slice none 0 0]) := fun a b c => by kernel_rfl
  have l1 : ∀ B : Blk, (s.push B).heap.length = s.heap.length + 1 := fun B => by simp [St.push]
  have l2 : ∀ B C : Blk, ((s.push B).push C).heap.length = s.heap.length + 2 := fun B C => by simp [St.push]
  have l3 : ∀ B C D : Blk, (((s.push B).push C).push D).heap.length = s.heap.length + 3 := fun B C D => by simp [St.push]
  have ha : ∀ a b c : Nat, (cellsV (.agg #[.map (some a), .map (some b), .map (some c), .slice none 0 0])).all isLeaf = true := fun a b c => rfl
  unfold judge_none
  simp only [amakeMap, l1, l2, hb, anew, ha, if_true, l3, n_bind, n_map, getL_0, getL_1, getL_2, getL_3, getL_4, getL_5, getL_6, getL_7, getL_8, getL_9, getL_10, getL_11, getL_12, condV_t, condV_f, guardV_tt, guardV_ff, guardV_tf, guardV_ft, guardV_u, apick_t, apick_f, exV_exit, exV_ret, lookE_same, joinK_eq, seqA_n, seqA_e, seqA_r, e_add, e_sub, e_mul, e_eql, e_neq, e_lss, e_leq, e_gtr, e_geq, e_conv, e_not, e_neg, and_guard, or_guard, retV]
  rfl
theorem begin_run {s0 t : St} {K : Kn} (h : KSt s0 t K) : ∃ t', (run Try.prog (libL libT) hints) 27 [pK s0] t = some (.tuple #[], t') ∧ KSt s0 t' Kn.nil := by
  obtain ⟨ea, eb, ec, ca, cb, cc, mv, h⟩ := h
  have hlt := (List.getElem?_eq_some_iff.1 h.k).1
  have a0 : aload false 1 (.pointer (some ⟨s0.heap.length + 3, 0, none⟩)) t = some (.map (some s0.heap.length)) := kn_ld h.k rfl
  have c0 : aclearM (.map (some s0.heap.length)) t = some (t.putB s0.heap.length (.map [] ca)) := by simp only [aclearM, h.a]
  generalize ht1 : t.putB s0.heap.length (.map [] ca) = t1 at c0
  have n1 : ∀ b, b ≠ s0.heap.length → t1.heap[b]? = t.heap[b]? := fun b hb => by rw [← ht1]; exact put_ne hb
  have a1 : aload false 1 (.pointer (some ⟨s0.heap.length + 3, 1, none⟩)) t1 = some (.map (some (s0.heap.length + 1))) := kn_ld (by rw [n1 _ (by omega)]; exact h.k) rfl
  have c1 : aclearM (.map (some (s0.heap.length + 1))) t1 = some (t1.putB (s0.heap.length + 1) (.map [] cb)) := by simp only [aclearM, n1 (s0.heap.length + 1) (by omega), h.b]
  generalize ht2 : t1.putB (s0.heap.length + 1) (.map [] cb) = t2 at c1
  have n2 : ∀ b, b ≠ s0.heap.length + 1 → t2.heap[b]? = t1.heap[b]? := fun b hb => by rw [← ht2]; exact put_ne hb
  have a2 : aload false 1 (.pointer (some ⟨s0.heap.length + 3, 2, none⟩)) t2 = some (.map (some (s0.heap.length + 2))) := kn_ld (by rw [n2 _ (by omega), n1 _ (by omega)]; exact h.k) rfl
  have c2 : aclearM (.map (some (s0.heap.length + 2))) t2 = some (t2.putB (s0.heap.length + 2) (.map [] cc)) := by simp only [aclearM, n2 (s0.heap.length + 2) (by omega), n1 (s0.heap.length + 2) (by omega), h.c]
  generalize ht3 : t2.putB (s0.heap.length + 2) (.map [] cc) = t3 at c2
  have n3 : ∀ b, b ≠ s0.heap.length + 2 → t3.heap[b]? = t2.heap[b]? := fun b hb => by rw [← ht3]; exact put_ne hb
  have g1 : t1.heap.length = t.heap.length := by rw [← ht1]; exact put_len
  have g2 : t2.heap.length = t.heap.length := by rw [← ht2, put_len]; exact g1
  have g3 : t3.heap.length = t.heap.length := by rw [← ht3, put_len]; exact g2
  have c3 : astore 1 (.pointer (some ⟨s0.heap.length + 3, 3, none⟩)) (.slice none 0 0) t3 = some (t3.putB (s0.heap.length + 3) (.row 0 (kCells s0.heap.length (.slice none 0 0)) .act)) := kn_st (mv := mv) (by rw [n3 _ (by omega), n2 _ (by omega), n1 _ (by omega)]; exact h.k) rfl rfl rfl
  refine ⟨t3.putB (s0.heap.length + 3) (.row 0 (kCells s0.heap.length (.slice none 0 0)) .act), judge_known_begin_of rfl ?_, [], [], [], ca, cb, cc, .slice none 0 0, ?_⟩
  · unfold judge_known_begin pK
    simp only [kn_nil, kn_ad0, kn_ad, a0, c0, a1, c1, a2, c2, c3, n_bind, n_map, getL_0, getL_1, getL_2, getL_3, getL_4, getL_5, getL_6, getL_7, getL_8, getL_9, getL_10, getL_11, getL_12, condV_t, condV_f, guardV_tt, guardV_ff, guardV_tf, guardV_ft, guardV_u, apick_t, apick_f, exV_exit, exV_ret, lookE_same, joinK_eq, seqA_n, seqA_e, seqA_r, e_add, e_sub, e_mul, e_eql, e_neq, e_lss, e_leq, e_gtr, e_geq, e_conv, e_not, e_neg, and_guard, or_guard, retV]
    rfl
  · refine ⟨?_, ?_, ?_, ?_, ?_, .inl ⟨rfl, rfl⟩, trivial, trivial, trivial, fun e he => (by cases he)⟩
    · refine Ext.put ?_ (by omega)
      rw [← ht3, ← ht2, ← ht1]
      exact ((h.ext.put (Nat.le_refl _)).put (by omega)).put (by omega)
    · rw [put_ne (by omega), n3 _ (by omega), n2 _ (by omega), ← ht1]; exact putB_get (by omega)
    · rw [put_ne (by omega), n3 _ (by omega), ← ht2]; exact putB_get (by omega)
    · rw [put_ne (by omega), ← ht3]; exact putB_get (by omega)
    · exact putB_get (by omega)
theorem judge_loop {s0 : St} {v : Value} {l : List Sn} (hv : SnL s0 v l) (hl : l.length ≤ 1759218604391) : ∀ (rest : List Sn) (i : Nat) (t : St) (K : Kn), l.drop i = rest → i ≤ l.length → KSt s0 t K → KOk K i →
    ∃ t', loopL (judge_known_judge.b0 (run Try.prog (libL libT) hints)) [pK s0, v, .int .i64 ((l.length : Nat) : Int), .int .i64 (i : Int)] t = (if (judgeP rest i K).2.1 = 0 then some (.exit 0, [], t') else some (.ret, [.int .i64 (judgeP rest i K).1, .int .i64 (judgeP rest i K).2.1], t')) ∧ KSt s0 t' (judgeP rest i K).2.2 := by
  intro rest
  induction rest with
  | nil =>
    intro i t K hi hle hs hk
    have hge := List.drop_eq_nil_iff.1 hi
    have h1 : decide ((i : Int) < ((l.length : Nat) : Int)) = false := by simp; omega
    refine ⟨t, ?_, hs⟩
    rw [loopL_eq]
    simp only [judge_known_judge.b0, h1, judgeP, if_true, n_bind, n_map, getL_0, getL_1, getL_2, getL_3, getL_4, getL_5, getL_6, getL_7, getL_8, getL_9, getL_10, getL_11, getL_12, condV_t, condV_f, guardV_tt, guardV_ff, guardV_tf, guardV_ft, guardV_u, apick_t, apick_f, exV_exit, exV_ret, lookE_same, joinK_eq, seqA_n, seqA_e, seqA_r, e_add, e_sub, e_mul, e_eql, e_neq, e_lss, e_leq, e_gtr, e_geq, e_conv, e_not, e_neg, and_guard, or_guard]
  | cons x rest ih =>
    intro i t K hi hle hs hk
    obtain ⟨hlt, he, hd⟩ := drop_get hi
    have h1 : decide ((i : Int) < ((l.length : Nat) : Int)) = true := by simp; omega
    obtain ⟨ea, eb, ec, ca, cb, cc, mv, hs⟩ := hs
    obtain ⟨p, o, r, a1, a2, _, a3, a4, a5⟩ := (hv.ext hs.ext).at hlt
    obtain ⟨_, _, _, b1, b2, _, b3, b4, b5⟩ := hv.at hlt
    rw [a1] at b1
    cases b1
    have hsame := hs.ext
    -- the same cells, before and now
    have heq : aload true 6 p t = aload true 6 p s0 := by
      obtain ⟨css, h3, h4⟩ := hv
      obtain ⟨q, i0, _, j0⟩ := cells_at h3 (by decide) (i := i) (by rw [(sn_flat h4).1]; exact Nat.mul_le_mul_right _ hlt) (k := .i64)
      obtain ⟨q', i0', _, j0'⟩ := cells_at (hs.ext.cells h3) (by decide) (i := i) (by rw [(sn_flat h4).1]; exact Nat.mul_le_mul_right _ hlt) (k := .i64)
      rw [a1] at i0 i0'
      cases i0
      cases i0'
      rw [j0, j0']
    rw [heq, b2, he] at a2
    rw [he] at b3 b4 b5
    cases a2
    obtain ⟨t1, g1, g2⟩ := see_run hs hk (by omega) b3 b5 b4
    have hk1 := hk.see (by omega) x
    have ha : aload true 6 p t = some (snV x o r) := by rw [heq, b2, he]
    by_cases c : (seeP K x).1 = 0
    · have e : judgeP (x :: rest) i K = judgeP rest (i + 1) (seeP K x).2 := by rw [judgeP, if_pos c]
      rw [e]
      obtain ⟨t2, k1, k2⟩ := ih (i + 1) t1 _ hd (by omega) g2 hk1
      refine ⟨t2, ?_, k2⟩
      have z0 : ((0 : Int) != 0) = false := rfl
      rw [loopL_eq]
      simp only [judge_known_judge.b0, h1, a1, ha, judge_known_see_call, g1, c, z0, inc_i64 (show i < 140737488355328 by omega), n_bind, n_map, getL_0, getL_1, getL_2, getL_3, getL_4, getL_5, getL_6, getL_7, getL_8, getL_9, getL_10, getL_11, getL_12, condV_t, condV_f, guardV_tt, guardV_ff, guardV_tf, guardV_ft, guardV_u, apick_t, apick_f, exV_exit, exV_ret, lookE_same, joinK_eq, seqA_n, seqA_e, seqA_r, e_add, e_sub, e_mul, e_eql, e_neq, e_lss, e_leq, e_gtr, e_geq, e_conv, e_not, e_neg, and_guard, or_guard]
      exact k1
    · have e : judgeP (x :: rest) i K = ((i : Int), (seeP K x).1, (seeP K x).2) := by rw [judgeP, if_neg c]
      rw [e]
      refine ⟨t1, ?_, g2⟩
      rw [if_neg c, loopL_eq]
      simp only [judge_known_judge.b0, h1, a1, ha, judge_known_see_call, g1, ne0 c, n_bind, n_map, getL_0, getL_1, getL_2, getL_3, getL_4, getL_5, getL_6, getL_7, getL_8, getL_9, getL_10, getL_11, getL_12, condV_t, condV_f, guardV_tt, guardV_ff, guardV_tf, guardV_ft, guardV_u, apick_t, apick_f, exV_exit, exV_ret, lookE_same, joinK_eq, seqA_n, seqA_e, seqA_r, e_add, e_sub, e_mul, e_eql, e_neq, e_lss, e_leq, e_gtr, e_geq, e_conv, e_not, e_neg, and_guard, or_guard]
theorem all_run2 {s0 t : St} {v : Value} {l : List Sn} {K : Kn} (hv : SnL s0 v l) (hl : l.length ≤ 1759218604391) (hs : KSt s0 t K) : ∃ t', (run Try.prog (libL libT) hints) 19 [pK s0, v] t = some (.tuple #[.int .i64 (judgeP l 0 Kn.nil).1, .int .i64 (judgeP l 0 Kn.nil).2.1], t') ∧ KSt s0 t' (judgeP l 0 Kn.nil).2.2 := by
  obtain ⟨t1, g1, g2⟩ := begin_run hs
  obtain ⟨t2, k1, k2⟩ := judge_loop hv hl l 0 t1 _ rfl (Nat.zero_le _) g2 KOk.nil
  rw [show ((0 : Nat) : Int) = 0 from rfl] at k1
  refine ⟨t2, judge_known_judge_of rfl ?_, k2⟩
  have hlen : ∀ e s2, alenV (.slice e) v s2 = some (.int .i64 ((l.length : Nat) : Int)) := fun e s2 => hv.len
  have hm1 : ∀ (l : List Sn) (i : Nat) (K : Kn), (judgeP l i K).2.1 = 0 → (judgeP l i K).1 = -1 := by
    intro l
    induction l with
    | nil => intro i K h; rfl
    | cons x l ih =>
      intro i K h
      unfold judgeP at h ⊢
      split at h
      · rename_i c; rw [if_pos c]; exact ih _ _ h
      · rename_i c; exact absurd h c
  by_cases c : (judgeP l 0 Kn.nil).2.1 = 0
  · rw [if_pos c] at k1
    rw [hm1 _ _ _ c, c]
    unfold judge_known_judge
    simp only [judge_known_begin_call, g1, hlen, k1, n_bind, n_map, getL_0, getL_1, getL_2, getL_3, getL_4, getL_5, getL_6, getL_7, getL_8, getL_9, getL_10, getL_11, getL_12, condV_t, condV_f, guardV_tt, guardV_ff, guardV_tf, guardV_ft, guardV_u, apick_t, apick_f, exV_exit, exV_ret, lookE_same, joinK_eq, seqA_n, seqA_e, seqA_r, e_add, e_sub, e_mul, e_eql, e_neq, e_lss, e_leq, e_gtr, e_geq, e_conv, e_not, e_neg, and_guard, or_guard, retV]
    rfl
  · rw [if_neg c] at k1
    unfold judge_known_judge
    simp only [judge_known_begin_call, g1, hlen, k1, n_bind, n_map, getL_0, getL_1, getL_2, getL_3, getL_4, getL_5, getL_6, getL_7, getL_8, getL_9, getL_10, getL_11, getL_12, condV_t, condV_f, guardV_tt, guardV_ff, guardV_tf, guardV_ft, guardV_u, apick_t, apick_f, exV_exit, exV_ret, lookE_same, joinK_eq, seqA_n, seqA_e, seqA_r, e_add, e_sub, e_mul, e_eql, e_neq, e_lss, e_leq, e_gtr, e_geq, e_conv, e_not, e_neg, and_guard, or_guard, retV]
    rfl
/-- what Judge says -/
def judP (l : List Sn) : Int × Int := ((judgeP l 0 Kn.nil).1, (judgeP l 0 Kn.nil).2.1)
theorem Judge_run {s : St} {v : Value} {l : List Sn} (hv : SnL s v l) (hl : l.length ≤ 1759218604391) : ∃ t, (run Try.prog (libL libT) hints) 9 [v] s = some (.tuple #[.int .i64 (judP l).1, .int .i64 (judP l).2], t) ∧ Ext s.heap.length s t := by
  obtain ⟨t1, g1, g2⟩ := all_run2 hv hl ⟨_, _, _, _, _, _, _, fresh_ks s⟩
  obtain ⟨_, _, _, _, _, _, _, g2⟩ := g2
  refine ⟨t1, judge_Judge_of rfl ?_, g2.ext⟩
  have x0 : ∀ a b : Int, aextract 0 (.tuple #[.int .i64 a, .int .i64 b]) = some (.int .i64 a) := fun a b => rfl
  have x1 : ∀ a b : Int, aextract 1 (.tuple #[.int .i64 a, .int .i64 b]) = some (.int .i64 b) := fun a b => rfl
  unfold judge_Judge
  simp only [judge_none_call, none_run, judge_known_judge_call, g1, x0, x1, n_bind, n_map, getL_0, getL_1, getL_2, getL_3, getL_4, getL_5, getL_6, getL_7, getL_8, getL_9, getL_10, getL_11, getL_12, condV_t, condV_f, guardV_tt, guardV_ff, guardV_tf, guardV_ft, guardV_u, apick_t, apick_f, exV_exit, exV_ret, lookE_same, joinK_eq, seqA_n, seqA_e, seqA_r, e_add, e_sub, e_mul, e_eql, e_neq, e_lss, e_leq, e_gtr, e_geq, e_conv, e_not, e_neg, and_guard, or_guard, retV]
  rfl
end Go.Proofs.Ytccindbiodofmaa.Ab

/- What is said of lists that are seen: beginnings. -/
namespace Go.Proofs.Ytccindbiodofmaa.Ab
open Go

/-! ### A beginning, in memory -/
theorem sn_take {s : St} : ∀ {l : List Sn} {css : List (List Value)} (c : Nat), All2 (SnRel s) l css → css.flatten.take (c * 6) = (css.take c).flatten ∧ All2 (SnRel s) (l.take c) (css.take c)
  | [], [], c, _ => by simp [All2]
  | a :: l, d :: css, 0, h => by simp [All2]
  | a :: l, d :: css, c + 1, ⟨h1, h2⟩ => by
    obtain ⟨g1, g2⟩ := sn_take c h2
    obtain ⟨o, r, rfl, _⟩ := id h1
    refine ⟨?_, h1, g2⟩
    rw [List.take_succ_cons, List.flatten_cons, List.flatten_cons, ← g1, Nat.add_mul, Nat.one_mul, Nat.add_comm, show 6 + c * 6 = (snCells a o r).length + c * 6 from rfl, List.take_length_add_append]
  | [], _ :: _, _, h => h.elim
  | _ :: _, [], _, h => h.elim
theorem SnL.take {s : St} {v : Value} {l : List Sn} (h : SnL s v l) {c : Nat} (hc : c ≤ l.length) : ∃ u, asliceV 6 v none (some (.int .i64 (c : Int))) none = some u ∧ SnL s u (l.take c) := by
  obtain ⟨css, h1, h2⟩ := h
  obtain ⟨a, len, cap, rfl, h3⟩ := cellsOf_len h1
  rw [(sn_flat h2).1] at h3
  have hl : len = l.length := by omega
  obtain ⟨u, e1, e2⟩ := cells_slice h1 (lo := none) (hi := some (.int .i64 (c : Int))) (mx := none) (i := 0) (j := c) rfl (by simp [abound]) (Nat.zero_le _) (by omega) (.inl rfl)
  obtain ⟨g1, g2⟩ := sn_take c h2
  refine ⟨u, e1, css.take c, ?_, g2⟩
  rw [e2, Nat.zero_mul, List.drop_zero, Nat.sub_zero, g1]

end Go.Proofs.Ytccindbiodofmaa.Ab

/- Lists of one's own of what is seen. -/
namespace Go.Proofs.Ytccindbiodofmaa.Ab
open Go
set_option maxRecDepth 100000

theorem all2_app {α β : Type} {R : α → β → Prop} : ∀ {a c : List α} {b d : List β}, All2 R a b → All2 R c d → All2 R (a ++ c) (b ++ d)
  | [], _, [], _, _, h => h
  | _ :: _, _, _ :: _, _, ⟨h1, h2⟩, h => ⟨h1, all2_app h2 h⟩
  | [], _, _ :: _, _, h, _ => h.elim
  | _ :: _, _, [], _, h, _ => h.elim
/-- a row of one's own; what they hold lies below -/
def SnOwn (s0 s : St) (v : Value) (l : List Sn) : Prop := Ext s0.heap.length s0 s ∧ ∃ css, Own s0.heap.length 6 s v css.flatten ∧ All2 (SnRel s0) l css
theorem SnOwn.list {s0 s : St} {v : Value} {l : List Sn} (h : SnOwn s0 s v l) : SnL s v l := by
  obtain ⟨hx, css, h1, h2⟩ := h
  exact ⟨css, h1.cells, h2.mono fun a c h => h.ext hx⟩
theorem SnOwn.nil {s0 s : St} (h : Ext s0.heap.length s0 s) : SnOwn s0 s (.slice none 0 0) [] := ⟨h, [], Own.nil _ _ _, trivial⟩
theorem SnOwn.ext {s0 s t : St} {v : Value} {l : List Sn} (h : SnOwn s0 s v l) (hx : Ext s.heap.length s t) : SnOwn s0 t v l := by
  obtain ⟨h0, css, h1, h2⟩ := h
  exact ⟨h0.trans (hx.less h0.1), css, h1.keep (hx.keep (B := none)) fun c hc e => (by cases e), h2⟩
theorem SnOwn.notup {s0 s : St} {v : Value} {l : List Sn} (h : SnOwn s0 s v l) : noTup v = true := by
  obtain ⟨_, css, h1, _⟩ := h
  exact h1.notup
/-- the cells of a list, to be appended -/
theorem sn_elems {s0 s : St} {v : Value} {css : List (List Value)} {l : List Sn} (h1 : cellsOf 6 v s = some css.flatten) (h2 : All2 (SnRel s0) l css) : lenV v = some l.length ∧ elemsOf 6 v s = some css.flatten ∧ css.flatten.length = l.length * 6 := by
  obtain ⟨g1, _⟩ := sn_flat h2
  obtain ⟨a, len, cap, rfl, h3⟩ := cellsOf_len h1
  rw [g1] at h3
  have : len = l.length := by omega
  subst this
  exact ⟨rfl, elems_of h1, g1⟩
theorem SnOwn.more {s0 s : St} {x y : Value} {l m : List Sn} (h : SnOwn s0 s x l) {css : List (List Value)} (h1 : cellsOf 6 y s = some css.flatten) (h2 : All2 (SnRel s0) m css) (hb : l.length + m.length ≤ 1000) : ∃ v t, aappend 6 80 x y s = some (v, t) ∧ SnOwn s0 t v (l ++ m) := by
  obtain ⟨h0, ds, g1, g2⟩ := h
  obtain ⟨e1, e2, e3⟩ := sn_elems h1 h2
  have e4 := (sn_flat g2).1
  obtain ⟨v, t, k1, k2, k3⟩ := own_append (w := 80) g1 h0.1 (by decide) (by decide) e1 e2 e3 (by rw [e3, e4]; omega)
  exact ⟨v, t, k1, h0.trans k3, ds ++ css, by rw [List.flatten_append]; exact k2, all2_app g2 h2⟩
abbrev zSn : List Value := [(.int .i64 0), (.int .i64 0), (.int .u64 0), (.int .i64 0), (.slice none 0 0), (.slice none 0 0)]
theorem sn_leafs {x : Sn} {o r : Value} (ho : isLeaf o = true) (hr : isLeaf r = true) : (cellsV (snV x o r)).all isLeaf = true := by
  rw [show cellsV (snV x o r) = [.int .i64 x.kind, .int .i64 x.client, .int .u64 x.req, .int .i64 x.code, o, r] from rfl]
  simp only [List.all_cons, ho, hr, List.all_nil, Bool.and_true]
  rfl
theorem SnOwn.add {s0 s : St} {v : Value} {l : List Sn} (h : SnOwn s0 s v l) {x : Sn} {o r : Value} (hr : SnRel s0 x (snCells x o r)) (hb : l.length ≤ 1000) : ∃ q, abuildSl 6 zSn 1 [(0, snV x o r)] s = some q ∧ ∃ v' t, aappend 6 80 v q.1 q.2 = some (v', t) ∧ SnOwn s0 t v' (l ++ [x]) := by
  obtain ⟨h0, ds, g1, g2⟩ := h
  have e4 := (sn_flat g2).1
  obtain ⟨o', r', e, q1, q2, q3⟩ := id hr
  cases e
  obtain ⟨q, a1, v', t, a2, a3, a4⟩ := own_add (w := 80) (z := zSn) (v := snV x o r) g1 h0.1 (by decide) (by decide) (by decide) rfl rfl rfl (sn_leafs (ops_leaf q1) (rdy_leaf q2)) (by rw [e4]; omega)
  refine ⟨q, a1, v', t, a2, h0.trans a4, ds ++ [snCells x o r], ?_, all2_app g2 ⟨hr, trivial⟩⟩
  rw [List.flatten_append]
  show Own _ _ _ _ (ds.flatten ++ (snCells x o r ++ []))
  rw [List.append_nil]
  exact a3
theorem SnOwn.len {s0 s s2 : St} {v : Value} {l : List Sn} (h : SnOwn s0 s v l) {e : TypeId} : alenV (.slice e) v s2 = some (.int .i64 ((l.length : Nat) : Int)) := h.list.len
/-- the last one's code is written -/
theorem SnOwn.code {s0 s : St} {v : Value} {l : List Sn} {x : Sn} (h : SnOwn s0 s v (l ++ [x])) (c : Int) (hlen : l.length < 1000) : ∃ p q t, aindexS 6 v (.int .i64 ((l.length : Nat) : Int)) = some p ∧ afieldAddr 3 p = some q ∧ astore 1 q (.int .i64 c) s = some t ∧ SnOwn s0 t v (l ++ [{ x with code := c }]) := by
  obtain ⟨h0, css, g1, g2⟩ := h
  have key : ∀ {l : List Sn} {css : List (List Value)}, All2 (SnRel s0) (l ++ [x]) css → ∃ ds o r, css = ds ++ [snCells x o r] ∧ All2 (SnRel s0) l ds ∧ SnRel s0 x (snCells x o r) := by
    intro l
    induction l with
    | nil => intro css h; cases css with
      | nil => exact h.elim
      | cons d css => cases css with
        | nil =>
          obtain ⟨h1, _⟩ := h
          obtain ⟨o, r, rfl, q⟩ := id h1
          exact ⟨[], o, r, rfl, trivial, h1⟩
        | cons => exact h.2.elim
    | cons a l ih => intro css h; cases css with
      | nil => exact h.elim
      | cons d css =>
        obtain ⟨ds, o, r, e, k1, k2⟩ := ih h.2
        exact ⟨d :: ds, o, r, by rw [e]; rfl, ⟨h.1, k1⟩, k2⟩
  obtain ⟨ds, o, r, rfl, k1, k2⟩ := key g2
  have e4 := (sn_flat k1).1
  have hfl : (ds ++ [snCells x o r]).flatten = ds.flatten ++ snCells x o r := by rw [List.flatten_append]; show _ ++ (_ ++ []) = _; rw [List.append_nil]
  rw [hfl] at g1
  rcases g1 with ⟨_, e⟩ | ⟨b, len, rfl, n1, n2, n3, n4⟩
  · exact absurd e (by simp [snCells])
  · have hl : len = l.length + 1 := by
      rw [List.length_append, e4] at n3
      have : (snCells x o r).length = 6 := rfl
      omega
    subst hl
    have hput : putCells (ds.flatten ++ snCells x o r) (l.length * 6 + 3) [.int .i64 c] = ds.flatten ++ snCells { x with code := c } o r := by
      rw [← e4]
      generalize ds.flatten = A
      unfold putCells
      rw [List.take_length_add_append, Nat.add_assoc, List.drop_length_add_append]
      simp [snCells]
    have hx : Ext s0.heap.length s0 (s.putB b (.row 6 (ds.flatten ++ snCells { x with code := c } o r) .act)) := h0.put n1
    refine ⟨.pointer (some ⟨b, l.length * 6, none⟩), .pointer (some ⟨b, l.length * 6 + 3, none⟩), s.putB b (.row 6 (ds.flatten ++ snCells { x with code := c } o r) .act), by simp [aindexS]; omega, by simp [afieldAddr], ?_, hx, ds ++ [snCells { x with code := c } o r], ?_, all2_app k1 ⟨?_, trivial⟩⟩
    · unfold astore
      have hc : cellsV (.int .i64 c) = [.int .i64 c] := rfl
      simp only [hc, writeN, n2, hput]
      have hle : l.length * 6 + 3 + [(Value.int .i64 c)].length ≤ (ds.flatten ++ snCells x o r).length := by rw [n3]; simp; omega
      rw [if_pos hle]
      rfl
    · rw [List.flatten_append]
      show Own _ _ _ _ (_ ++ (_ ++ []))
      rw [List.append_nil]
      exact .inr ⟨b, l.length + 1, rfl, n1, putB_get (List.getElem?_eq_some_iff.1 n2).1, by rw [List.length_append, e4]; show _ + 6 = _; omega, by omega⟩
    · obtain ⟨o', r', e, q⟩ := k2
      cases e
      exact ⟨_, _, rfl, q⟩

end Go.Proofs.Ytccindbiodofmaa.Ab

/- What is said of what is newly asked. -/
namespace Go.Proofs.Ytccindbiodofmaa.Ab
open Go

theorem jp_app : ∀ (l m : List Sn) (i : Nat) (K : Kn), (judgeP l i K).2.1 = 0 → judgeP (l ++ m) i K = judgeP m (i + l.length) (judgeP l i K).2.2
  | [], m, i, K, _ => by simp [judgeP]
  | x :: l, m, i, K, h => by
    rw [List.cons_append]
    unfold judgeP at h ⊢
    split at h
    · rename_i c
      rw [if_pos c, jp_app l m (i + 1) _ h, List.length_cons, show i + 1 + l.length = i + (l.length + 1) by omega]
      conv => rhs; rw [judgeP.eq_def]
      conv => lhs; rw [judgeP.eq_def]
      simp only [if_pos c]
    · rename_i c; exact absurd h c
theorem look_app {A : Type} {r q : Rq} {a : A} : ∀ {l : List (Rq × A)}, lookR r (l ++ [(q, a)]) = (lookR r l).or (if q = r then some a else none)
  | [] => by
    show (if q = r then some a else none) = _
    rfl
  | p :: l => by
    rw [List.cons_append, lookR, lookR]
    split
    · rfl
    · exact look_app
theorem look_ne {A : Type} {r q : Rq} {a : A} {l : List (Rq × A)} (h : q ≠ r) : lookR r (l ++ [(q, a)]) = lookR r l := by
  rw [look_app, if_neg h, Option.or_none]
/-- what is said of other requests changes nothing of this one -/
theorem see_other {K : Kn} {x : Sn} {r : Rq} (h : (x.client, x.req) ≠ r) : lookR r (seeP K x).2.ops = lookR r K.ops ∧ lookR r (seeP K x).2.res = lookR r K.res ∧ lookR r (seeP K x).2.told = lookR r K.told := by
  unfold seeP
  split
  · exact ⟨rfl, rfl, rfl⟩
  · split
    · exact ⟨rfl, rfl, rfl⟩
    · split
      · exact ⟨look_ne h, rfl, rfl⟩
      · split
        · exact ⟨rfl, rfl, rfl⟩
        · split
          · split
            · exact ⟨rfl, rfl, rfl⟩
            · exact ⟨rfl, look_ne h, rfl⟩
          · split
            · exact ⟨rfl, rfl, rfl⟩
            · split
              · exact ⟨rfl, rfl, rfl⟩
              · exact ⟨rfl, rfl, look_ne h⟩
theorem jp_other : ∀ {l : List Sn} {i : Nat} {K : Kn} {r : Rq}, (∀ x ∈ l, (x.client, x.req) ≠ r) → lookR r (judgeP l i K).2.2.ops = lookR r K.ops ∧ lookR r (judgeP l i K).2.2.res = lookR r K.res ∧ lookR r (judgeP l i K).2.2.told = lookR r K.told
  | [], i, K, r, _ => ⟨rfl, rfl, rfl⟩
  | x :: l, i, K, r, h => by
    obtain ⟨a, b, c⟩ := see_other (K := K) (h x (by simp))
    unfold judgeP
    split
    · obtain ⟨d, e, f⟩ := jp_other (l := l) (i := i + 1) (K := (seeP K x).2) fun y hy => h y (by simp [hy])
      exact ⟨d.trans a, e.trans b, f.trans c⟩
    · exact ⟨a, b, c⟩
def askS (q : Int) (ops : List OpT) : Sn := ⟨1, 1, q, 0, ops, []⟩
def tellS (q c : Int) : Sn := ⟨3, 1, q, c, [], []⟩
theorem ask_see {K : Kn} {q : Int} {ops : List OpT} (ho : chkE ops = 0) (h1 : lookR (1, q) K.ops = none) : seeP K (askS q ops) = (0, { K with ops := K.ops ++ [((1, q), ops)] }) := by
  have hg : goodS (askS q ops) = true := by simp [goodS, askS, ho]
  unfold seeP
  rw [if_neg (by rw [hg]; simp), if_neg (by simp [askS, twiceP, h1]), if_pos (show (askS q ops).kind = 1 from rfl)]
  rfl
theorem tell_see {K : Kn} {q : Int} {ops : List OpT} (h1 : lookR (1, q) K.ops = some ops) (h2 : lookR (1, q) K.res = none) (h3 : lookR (1, q) K.told = none) : (seeP K (tellS q 2)).1 = 0 ∧ (seeP K (tellS q 1)).1 = 4 := by
  have hg2 : goodS (tellS q 2) = true := by simp [goodS, tellS]
  have hg1 : goodS (tellS q 1) = true := by simp [goodS, tellS]
  constructor
  · unfold seeP
    rw [if_neg (by rw [hg2]; simp), if_neg (by simp [tellS, twiceP, h3]), if_neg (by simp [tellS])]
    simp [tellS, h1, h2, formB]
  · unfold seeP
    rw [if_neg (by rw [hg1]; simp), if_neg (by simp [tellS, twiceP, h3]), if_neg (by simp [tellS])]
    simp [tellS, h1, h2, formB]
theorem more_plain {l : List Sn} {q : Int} {ops : List OpT} (h : (judP l).2 = 0) (ho : chkE ops = 0) (hq : ∀ x ∈ l, x.req ≠ q) :
    judP (l ++ [askS q ops]) = (-1, 0) ∧ judP (l ++ [askS q ops] ++ [tellS q 2]) = (-1, 0) ∧ judP (l ++ [askS q ops] ++ [tellS q 1]) = (((l.length + 1 : Nat) : Int), 4) := by
  obtain ⟨a, b, c⟩ := jp_other (l := l) (i := 0) (K := Kn.nil) (r := (1, q)) fun x hx e => hq x hx (congrArg Prod.snd e)
  have a : lookR (1, q) (judgeP l 0 Kn.nil).2.2.ops = none := a
  have b : lookR (1, q) (judgeP l 0 Kn.nil).2.2.res = none := b
  have c : lookR (1, q) (judgeP l 0 Kn.nil).2.2.told = none := c
  have h0 : (judgeP l 0 Kn.nil).2.1 = 0 := h
  have e1 := jp_app l [askS q ops] 0 Kn.nil h0
  have s1 := ask_see (K := (judgeP l 0 Kn.nil).2.2) ho a
  have j1 : judgeP [askS q ops] (0 + l.length) (judgeP l 0 Kn.nil).2.2 = (-1, 0, { (judgeP l 0 Kn.nil).2.2 with ops := (judgeP l 0 Kn.nil).2.2.ops ++ [((1, q), ops)] }) := by
    simp only [judgeP, s1, if_true]
  rw [j1] at e1
  have hl : lookR (1, q) ((judgeP l 0 Kn.nil).2.2.ops ++ [(((1, q) : Rq), ops)]) = some ops := by rw [look_app, a, if_pos rfl]; rfl
  obtain ⟨t1, t2⟩ := tell_see (K := { (judgeP l 0 Kn.nil).2.2 with ops := (judgeP l 0 Kn.nil).2.2.ops ++ [((1, q), ops)] }) hl b c
  have e2 := jp_app (l ++ [askS q ops]) [tellS q 2] 0 Kn.nil (by rw [e1])
  have e3 := jp_app (l ++ [askS q ops]) [tellS q 1] 0 Kn.nil (by rw [e1])
  rw [e1] at e2 e3
  simp only [judgeP, t1, t2, if_true] at e2 e3
  refine ⟨by unfold judP; rw [e1], by unfold judP; rw [e2], ?_⟩
  unfold judP
  rw [e3]
  simp
/-- the greatest number of a request -/
def maxR (m : Int) : List Sn → Int
  | [] => m
  | x :: l => maxR (if x.req > m then x.req else m) l
theorem maxR_le : ∀ {l : List Sn} {m : Int}, m ≤ maxR m l ∧ ∀ x ∈ l, x.req ≤ maxR m l
  | [], m => ⟨Int.le_refl _, fun x hx => (by cases hx)⟩
  | x :: l, m => by
    obtain ⟨h1, h2⟩ := maxR_le (l := l) (m := if x.req > m then x.req else m)
    have hm : m ≤ (if x.req > m then x.req else m) ∧ x.req ≤ (if x.req > m then x.req else m) := by split <;> omega
    unfold maxR
    refine ⟨Int.le_trans hm.1 h1, fun y hy => ?_⟩
    rcases List.mem_cons.1 hy with rfl | hy
    · exact Int.le_trans hm.2 h1
    · exact h2 y hy
theorem maxR_lt {B : Int} : ∀ {l : List Sn} {m : Int}, m ≤ B → (∀ x ∈ l, x.req ≤ B) → maxR m l ≤ B
  | [], m, h, _ => h
  | x :: l, m, h, hl => by
    unfold maxR
    refine maxR_lt ?_ fun y hy => hl y (by simp [hy])
    split
    · exact hl x (by simp)
    · exact h

end Go.Proofs.Ytccindbiodofmaa.Ab

/- The laws of what is seen: JudgeBegins. -/
namespace Go.Proofs.Ytccindbiodofmaa.Ab
open Go
set_option maxRecDepth 100000

theorem y2i_0 (a b : Int) : aextract 0 (.tuple #[.int .i64 a, .int .i64 b]) = some (.int .i64 a) := rfl
theorem y2i_1 (a b : Int) : aextract 1 (.tuple #[.int .i64 a, .int .i64 b]) = some (.int .i64 b) := rfl

end Go.Proofs.Ytccindbiodofmaa.Ab

/- The laws of what is seen: JudgeMore. -/
namespace Go.Proofs.Ytccindbiodofmaa.Ab
open Go
set_option maxRecDepth 100000

theorem wfu {a : Int} (h : (Lit.int .u64 a).wf = true) : 0 ≤ a ∧ a < 18446744073709551616 := by
  simp only [Lit.wf, Bool.and_eq_true, decide_eq_true_eq] at h
  have h1 : (0 : Int) ≤ a := h.1
  have h2 : a ≤ 18446744073709551615 := h.2
  omega
theorem amax_u {x y : Int} : amax2 (.int .u64 x) (.int .u64 y) = some (.int .u64 (if y > x then y else x)) := by simp [amax2]
theorem sn_st {x : Sn} {o r : Value} (ho : isLeaf o = true) (hr : isLeaf r = true) : lstore 6 lptr (snV x o r) (.agg #[(.int .i64 0), (.int .i64 0), (.int .u64 0), (.int .i64 0), (.slice none 0 0), (.slice none 0 0)]) = some (snV x o r) := by
  have h2 : ([.int .i64 x.kind, .int .i64 x.client, .int .u64 x.req, .int .i64 x.code, o, r] : List Value).all isLeaf = true := by
    simp only [List.all_cons, ho, hr, List.all_nil, Bool.and_true]
    rfl
  unfold lstore lptr
  simp only
  rw [if_pos ⟨rfl, h2, Nat.le_of_ble_eq_true rfl⟩]
  rfl
theorem more_loop {v w : Value} {s : St} {l : List Sn} (h : SnL s v l) (hl : l.length < 140737488355328) : ∀ (rest : List Sn) (i : Nat) (m : Int), l.drop i = rest → i ≤ l.length →
    loopL (law23_JudgeMore.b0 (run Try.prog (libL libT) hints)) [v, w, .bool true, .int .u64 m, v, .int .i64 ((l.length : Nat) : Int), .int .i64 (i : Int)] s = some (.exit 0, [v, w, .bool true, .int .u64 (maxR m rest)], s) := by
  intro rest
  induction rest with
  | nil =>
    intro i m hi hle
    have hge := List.drop_eq_nil_iff.1 hi
    have h1 : decide ((i : Int) < ((l.length : Nat) : Int)) = false := by simp; omega
    rw [loopL_eq]
    simp only [law23_JudgeMore.b0, h1, maxR, n_bind, n_map, getL_0, getL_1, getL_2, getL_3, getL_4, getL_5, getL_6, getL_7, getL_8, getL_9, getL_10, getL_11, getL_12, condV_t, condV_f, guardV_tt, guardV_ff, guardV_tf, guardV_ft, guardV_u, apick_t, apick_f, exV_exit, exV_ret, lookE_same, joinK_eq, seqA_n, seqA_e, seqA_r, e_add, e_sub, e_mul, e_eql, e_neq, e_lss, e_leq, e_gtr, e_geq, e_conv, e_not, e_neg, and_guard, or_guard]
  | cons x rest ih =>
    intro i m hi hle
    obtain ⟨hlt, he, hd⟩ := drop_get hi
    have h1 : decide ((i : Int) < ((l.length : Nat) : Int)) = true := by simp; omega
    obtain ⟨p, o, r, a1, a2, _, a3, a4, _⟩ := h.at hlt
    rw [he] at a2 a3 a4
    rw [loopL_eq]
    simp only [law23_JudgeMore.b0, h1, a1, a2, sn_st (ops_leaf a3) (rdy_leaf a4), sn_2, amax_u, maxR, inc_i64 (show i < 140737488355328 by omega), n_bind, n_map, getL_0, getL_1, getL_2, getL_3, getL_4, getL_5, getL_6, getL_7, getL_8, getL_9, getL_10, getL_11, getL_12, condV_t, condV_f, guardV_tt, guardV_ff, guardV_tf, guardV_ft, guardV_u, apick_t, apick_f, exV_exit, exV_ret, lookE_same, joinK_eq, seqA_n, seqA_e, seqA_r, e_add, e_sub, e_mul, e_eql, e_neq, e_lss, e_leq, e_gtr, e_geq, e_conv, e_not, e_neg, and_guard, or_guard]
    exact ih (i + 1) _ hd (by omega)
theorem JudgeMore_law (s : St) (v : Value) (l : List Sn) (h : ListN snN 80 l s v) (w : Value) (ops : List OpT) (ho : listOf opC w s = some ops) (hol : ops.length ≤ 1759218604391) : ∃ s', (run Try.prog (libL libT) hints) 6 [v, w] s = some (.bool true, s') := by
  obtain ⟨hv, hwf, hl⟩ := sn_list h
  have hlen : ∀ e s2, alenV (.slice e) v s2 = some (.int .i64 ((l.length : Nat) : Int)) := fun e s2 => hv.len
  obtain ⟨t1, g1, g2⟩ := Judge_run hv hl
  by_cases he : (judP l).2 = 0
  case neg =>
    refine ⟨t1, law23_JudgeMore_of rfl ?_⟩
    unfold law23_JudgeMore
    simp only [law23_live_call, k_live, judge_Judge_call, g1, y2i_0, y2i_1, ne0 he, n_bind, n_map, getL_0, getL_1, getL_2, getL_3, getL_4, getL_5, getL_6, getL_7, getL_8, getL_9, getL_10, getL_11, getL_12, condV_t, condV_f, guardV_tt, guardV_ff, guardV_tf, guardV_ft, guardV_u, apick_t, apick_f, exV_exit, exV_ret, lookE_same, joinK_eq, seqA_n, seqA_e, seqA_r, e_add, e_sub, e_mul, e_eql, e_neq, e_lss, e_leq, e_gtr, e_geq, e_conv, e_not, e_neg, and_guard, or_guard, retV]
    rfl
  have z0 : ((0 : Int) != 0) = false := rfl
  rw [he] at g1
  by_cases hbig : 100 < l.length
  · have h1 : decide (((l.length : Nat) : Int) > 100) = true := by simp; omega
    refine ⟨t1, law23_JudgeMore_of rfl ?_⟩
    unfold law23_JudgeMore
    simp only [law23_live_call, k_live, judge_Judge_call, g1, y2i_0, y2i_1, z0, hlen, h1, n_bind, n_map, getL_0, getL_1, getL_2, getL_3, getL_4, getL_5, getL_6, getL_7, getL_8, getL_9, getL_10, getL_11, getL_12, condV_t, condV_f, guardV_tt, guardV_ff, guardV_tf, guardV_ft, guardV_u, apick_t, apick_f, exV_exit, exV_ret, lookE_same, joinK_eq, seqA_n, seqA_e, seqA_r, e_add, e_sub, e_mul, e_eql, e_neq, e_lss, e_leq, e_gtr, e_geq, e_conv, e_not, e_neg, and_guard, or_guard, retV]
    rfl
  have h1 : decide (((l.length : Nat) : Int) > 100) = false := by simp; omega
  have hck : (run Try.prog (libL libT) hints) 14 [w] t1 = some (.int .i64 (chkE ops), t1) := (known (g := gChkE) rfl).trans (chkE_eq (list_ext g2 ho) (by omega))
  by_cases hc : chkE ops = 0
  case neg =>
    refine ⟨t1, law23_JudgeMore_of rfl ?_⟩
    unfold law23_JudgeMore
    simp only [law23_live_call, k_live, judge_Judge_call, g1, y2i_0, y2i_1, z0, hlen, h1, ref04_Check_call, hck, ne0 hc, n_bind, n_map, getL_0, getL_1, getL_2, getL_3, getL_4, getL_5, getL_6, getL_7, getL_8, getL_9, getL_10, getL_11, getL_12, condV_t, condV_f, guardV_tt, guardV_ff, guardV_tf, guardV_ft, guardV_u, apick_t, apick_f, exV_exit, exV_ret, lookE_same, joinK_eq, seqA_n, seqA_e, seqA_r, e_add, e_sub, e_mul, e_eql, e_neq, e_lss, e_leq, e_gtr, e_geq, e_conv, e_not, e_neg, and_guard, or_guard, retV]
    rfl
  rw [hc] at hck
  have hv1 := hv.ext g2
  have hloop := more_loop (w := w) hv1 (by omega) l 0 0 rfl (Nat.zero_le _)
  rw [show ((0 : Nat) : Int) = 0 from rfl] at hloop
  obtain ⟨m1, m2⟩ := maxR_le (l := l) (m := 0)
  have m3 := maxR_lt (B := 18446744073709551615) (l := l) (m := 0) (by decide) fun x hx => by have := (wfu (hwf x hx)).2; omega
  generalize hM : maxR 0 l = M at hloop m1 m2 m3
  by_cases hmx : M = 18446744073709551615
  · subst hmx
    have e1 : ((18446744073709551615 : Int) == 18446744073709551615) = true := rfl
    refine ⟨t1, law23_JudgeMore_of rfl ?_⟩
    unfold law23_JudgeMore
    simp only [law23_live_call, k_live, judge_Judge_call, g1, y2i_0, y2i_1, z0, hlen, h1, ref04_Check_call, hck, hloop, e1, n_bind, n_map, getL_0, getL_1, getL_2, getL_3, getL_4, getL_5, getL_6, getL_7, getL_8, getL_9, getL_10, getL_11, getL_12, condV_t, condV_f, guardV_tt, guardV_ff, guardV_tf, guardV_ft, guardV_u, apick_t, apick_f, exV_exit, exV_ret, lookE_same, joinK_eq, seqA_n, seqA_e, seqA_r, e_add, e_sub, e_mul, e_eql, e_neq, e_lss, e_leq, e_gtr, e_geq, e_conv, e_not, e_neg, and_guard, or_guard, retV]
    rfl
  have e1 : (M == 18446744073709551615) = false := by simpa using hmx
  have ew : IntKind.wrap .u64 (M + 1) = M + 1 := wrap_u64 (by omega) (by omega)
  -- the copies
  obtain ⟨css, c1, c2⟩ := id hv
  obtain ⟨v2, t2, a1, a2⟩ := (SnOwn.nil g2).more (g2.cells c1) c2 (by simp; omega)
  rw [List.nil_append] at a2
  obtain ⟨pa, pc, hw⟩ := list_shape ho
  have hb1 : abuild Try.prog 39 [(0, .int .i64 1), (1, .int .i64 1), (2, .int .u64 (M + 1)), (4, w)] = some (snV (askS (M + 1) ops) w (.slice none 0 0)) := by
    rw [hw]
    kernel_rfl
  have hnil : RdyL s (.slice none 0 0) [] := ⟨[], rfl, rfl, fun x hx => (by cases hx)⟩
  obtain ⟨q3, a3, v4, t4, a4, a5⟩ := a2.add (x := askS (M + 1) ops) (o := w) (r := .slice none 0 0) ⟨w, .slice none 0 0, rfl, ho, hnil, by show ops.length < _; omega⟩ (by omega)
  obtain ⟨p1, p2, p3⟩ := more_plain (q := M + 1) (ops := ops) he hc fun x hx e => by have := m2 x hx; omega
  obtain ⟨t5, a6, a7⟩ := Judge_run a5.list (by simp; omega)
  rw [p1] at a6
  have a5' := a5.ext a7
  obtain ⟨hx5, css5, c3, c4⟩ := id a5'
  obtain ⟨v6, t6, a8, a9⟩ := (SnOwn.nil hx5).more c3.cells c4 (by simp; omega)
  rw [List.nil_append] at a9
  have hb2 : abuild Try.prog 39 [(0, .int .i64 3), (1, .int .i64 1), (2, .int .u64 (M + 1)), (3, .int .i64 2)] = some (snV (tellS (M + 1) 2) (.slice none 0 0) (.slice none 0 0)) := by kernel_rfl
  obtain ⟨q7, b1, v8, t8, b2, b3⟩ := a9.add (x := tellS (M + 1) 2) (o := .slice none 0 0) (r := .slice none 0 0) ⟨.slice none 0 0, .slice none 0 0, rfl, list_nil s, hnil, by show 0 < _; decide⟩ (by simp; omega)
  obtain ⟨t9, b4, b5⟩ := Judge_run b3.list (by simp; omega)
  rw [p2] at b4
  obtain ⟨p, q, t10, d1, d2, d3, d4⟩ := (b3.ext b5).code 1 (by simp; omega)
  have htl : { tellS (M + 1) 2 with code := 1 } = tellS (M + 1) 1 := rfl
  rw [htl] at d4
  obtain ⟨t11, d5, d6⟩ := Judge_run d4.list (by simp; omega)
  rw [p3] at d5
  have hl8 : ∀ e s2, alenV (.slice e) v8 s2 = some (.int .i64 (((l ++ [askS (M + 1) ops] ++ [tellS (M + 1) 2]).length : Nat) : Int)) := fun e s2 => b3.len
  have hl4 : ∀ e s2, alenV (.slice e) v4 s2 = some (.int .i64 (((l ++ [askS (M + 1) ops]).length : Nat) : Int)) := fun e s2 => a5.len
  have hsub : IntKind.wrap .i64 ((((l ++ [askS (M + 1) ops] ++ [tellS (M + 1) 2]).length : Nat) : Int) - 1) = (((l ++ [askS (M + 1) ops]).length : Nat) : Int) := by
    have e1 : (((l ++ [askS (M + 1) ops] ++ [tellS (M + 1) 2]).length : Nat) : Int) = ((l.length : Nat) : Int) + 2 := by simp only [List.length_append, List.length_singleton]; omega
    have e2 : (((l ++ [askS (M + 1) ops]).length : Nat) : Int) = ((l.length : Nat) : Int) + 1 := by simp only [List.length_append, List.length_singleton]; omega
    rw [e1, e2, wrap_i64 (by omega) (by omega)]
    omega
  have hsame : (((l.length + 1 : Nat) : Int) == (((l ++ [askS (M + 1) ops]).length : Nat) : Int)) = true := by simp
  have z1 : ((0 : Int) == 0) = true := rfl
  have z4 : ((4 : Int) == 4) = true := rfl
  refine ⟨t11, law23_JudgeMore_of rfl ?_⟩
  unfold law23_JudgeMore
  simp only [law23_live_call, k_live, judge_Judge_call, g1, y2i_0, y2i_1, z0, hlen, h1, ref04_Check_call, hck, hloop, e1, ew, a1, hb1, a3, a4, a6, a8, hb2, b1, b2, b4, hl8, hsub, d1, d2, d3, d5, hl4, hsame, z1, z4, n_bind, n_map, getL_0, getL_1, getL_2, getL_3, getL_4, getL_5, getL_6, getL_7, getL_8, getL_9, getL_10, getL_11, getL_12, condV_t, condV_f, guardV_tt, guardV_ff, guardV_tf, guardV_ft, guardV_u, apick_t, apick_f, exV_exit, exV_ret, lookE_same, joinK_eq, seqA_n, seqA_e, seqA_r, e_add, e_sub, e_mul, e_eql, e_neq, e_lss, e_leq, e_gtr, e_geq, e_conv, e_not, e_neg, and_guard, or_guard, retV]
  rfl

end Go.Proofs.Ytccindbiodofmaa.Ab

/- A law's arguments in memory, as the abstract machine has them: bytes. -/
namespace Go.Proofs.Ytccindbiodofmaa.Ab
open Go

end Go.Proofs.Ytccindbiodofmaa.Ab

/- A row's slice of whole numbers is no longer than its weight allows. (Began as the words that print.sh lays for rows over slices.) -/
namespace Go.Proofs.Ytccindbiodofmaa.Ab
open Go Go.ChangeShapes Go.WideShapes
end Go.Proofs.Ytccindbiodofmaa.Ab
