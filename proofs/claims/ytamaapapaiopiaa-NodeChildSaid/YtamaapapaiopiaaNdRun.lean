/- Nodes: Check and Child. -/
import Derived.Test.YtamaapapaiopiaaNdLib
set_option linter.unusedVariables false
set_option linter.unusedSimpArgs false
set_option linter.unusedSectionVars false
namespace Go.Proofs.Ytamaapapaiopiaa.Ab
open Go

theorem n_box (e : En) : lbox (enV e) = some (enV e) := rfl
theorem callC {x a b : Value} {s : St} : callV Try.prog (run Try.prog (libL libT) hints) (.func (.func 33) #[] #[a, b]) [x] s = (run Try.prog (libL libT) hints) 33 [x, a, b] s := by
  have h := node_Check_1_ok
  simp [callV, h]
theorem k_wi (r : Rg) (o : OpT) (s : St) : (run Try.prog (libL libT) hints) 34 [rv r, oV o] s = some (.bool (wiE r o), s) := node_within_of rfl (within_run (fun a b s => (known (g := gCov) rfl).trans cov_eq) (fun r k s => (known (g := gHas) rfl).trans has_eq) r o s)
section
variable {s0 : St} {f : Bool} {p k q b : Value} {t : St} (hx : Ext (s0.heap.length + 1) (nSt s0 f p k q b) t) (hlf : leafs p k q b) {ps : List BL} (hq : listOf strC q t = some ps) (hl : ps.length < 140737488355328)
include hx hlf hq hl
theorem chk1_run {i : Nat} (hi : i ≤ ps.length) {B : Nat} (hb : aload false 1 (.pointer (some ⟨B, 0, none⟩)) (frzS t) = some (.int .i64 (i : Int))) (e : En) : (run Try.prog (libL libT) hints) 33 [enV e, pN s0, .pointer (some ⟨B, 0, none⟩)] t = some (.bool (!wiE (rgI ps i) e.2), t) := by
  have hbd := node_bounds_of (lib := libL libT) rfl (bounds_run (R := (run Try.prog (libL libT) hints)) (f := f) (p := p) (k := k) (b := b) hq hlf hl hi)
  refine node_Check_1_of rfl ?_
  unfold node_Check_1
  simp only [n_box, nd_all hx, hb, node_bounds_call, hbd, own_id, n_op, node_within_call, k_wi, e_not, n_bind, n_map, getL_0, getL_1, getL_2, getL_3, getL_4, getL_5, getL_6, getL_7, getL_8, getL_9, getL_10, getL_11, getL_12, condV_t, condV_f, guardV_tt, guardV_ff, guardV_tf, guardV_ft, guardV_u, apick_t, apick_f, exV_exit, exV_ret, lookE_same, joinK_eq, seqA_n, seqA_e, seqA_r, e_add, e_sub, e_mul, e_eql, e_neq, e_lss, e_leq, e_gtr, e_geq, e_conv, e_not, e_neg, and_guard, or_guard]
  exact ret1 rfl
theorem idx_loop {i : Nat} (hi : i ≤ ps.length) {B : Nat} (hb : aload false 1 (.pointer (some ⟨B, 0, none⟩)) (frzS t) = some (.int .i64 (i : Int))) {v : Value} {l : List En} (h : listOf enC v t = some l) (hll : l.length < 140737488355328) : ∀ (rest : List En) (j : Nat), l.drop j = rest → j ≤ l.length →
    ∃ r : Ex × List Value, loopL (slices_IndexFunc_api_Entry_api_Entry.b0 (run Try.prog (libL libT) hints)) [v, .func (.func 33) #[] #[pN s0, .pointer (some ⟨B, 0, none⟩)], .int .i64 ((l.length : Nat) : Int), .int .i64 (j : Int)] t = some (r.1, r.2, t) ∧
      ((rest.any (fun e => !wiE (rgI ps i) e.2) = true ∧ r.1 = .ret ∧ ∃ m : Nat, r.2 = [.int .i64 (m : Int)]) ∨ (rest.any (fun e => !wiE (rgI ps i) e.2) = false ∧ r = (.exit 0, []))) := by
  intro rest
  induction rest with
  | nil =>
    intro j hj hle
    have h1 : decide ((j : Int) < ((l.length : Nat) : Int)) = false := by
      have := List.drop_eq_nil_iff.1 hj
      simp; omega
    refine ⟨(.exit 0, []), ?_, .inr ⟨rfl, rfl⟩⟩
    rw [loopL_eq]
    simp only [slices_IndexFunc_api_Entry_api_Entry.b0, h1, n_bind, n_map, getL_0, getL_1, getL_2, getL_3, getL_4, getL_5, getL_6, getL_7, getL_8, getL_9, getL_10, getL_11, getL_12, condV_t, condV_f, guardV_tt, guardV_ff, guardV_tf, guardV_ft, guardV_u, apick_t, apick_f, exV_exit, exV_ret, lookE_same, joinK_eq, seqA_n, seqA_e, seqA_r, e_add, e_sub, e_mul, e_eql, e_neq, e_lss, e_leq, e_gtr, e_geq, e_conv, e_not, e_neg, and_guard, or_guard]
  | cons x rest ih =>
    intro j hj hle
    obtain ⟨hlt, he, hd⟩ := drop_get hj
    have h1 : decide ((j : Int) < ((l.length : Nat) : Int)) = true := by simp; omega
    obtain ⟨a, h2, h3⟩ := list_at h hlt (k := .i64) (n := 7) rfl
    rw [en_enc, he] at h3
    have hc := chk1_run hx hlf hq hl hi hb x
    rcases Bool.eq_false_or_eq_true (wiE (rgI ps i) x.2) with c | c
    · obtain ⟨r, k1, k2⟩ := ih (j + 1) hd (by omega)
      refine ⟨r, ?_, by simpa [List.any_cons, c] using k2⟩
      rw [← k1, loopL_eq]
      rw [c] at hc
      simp only [slices_IndexFunc_api_Entry_api_Entry.b0, h1, h2, h3, callC, hc, Bool.not_true, inc_i64 (show j < 140737488355328 by omega), n_bind, n_map, getL_0, getL_1, getL_2, getL_3, getL_4, getL_5, getL_6, getL_7, getL_8, getL_9, getL_10, getL_11, getL_12, condV_t, condV_f, guardV_tt, guardV_ff, guardV_tf, guardV_ft, guardV_u, apick_t, apick_f, exV_exit, exV_ret, lookE_same, joinK_eq, seqA_n, seqA_e, seqA_r, e_add, e_sub, e_mul, e_eql, e_neq, e_lss, e_leq, e_gtr, e_geq, e_conv, e_not, e_neg, and_guard, or_guard]
    · refine ⟨(.ret, [.int .i64 (j : Int)]), ?_, .inl ⟨by simp [List.any_cons, c], rfl, j, rfl⟩⟩
      rw [loopL_eq]
      rw [c] at hc
      simp only [slices_IndexFunc_api_Entry_api_Entry.b0, h1, h2, h3, callC, hc, Bool.not_false, n_bind, n_map, getL_0, getL_1, getL_2, getL_3, getL_4, getL_5, getL_6, getL_7, getL_8, getL_9, getL_10, getL_11, getL_12, condV_t, condV_f, guardV_tt, guardV_ff, guardV_tf, guardV_ft, guardV_u, apick_t, apick_f, exV_exit, exV_ret, lookE_same, joinK_eq, seqA_n, seqA_e, seqA_r, e_add, e_sub, e_mul, e_eql, e_neq, e_lss, e_leq, e_gtr, e_geq, e_conv, e_not, e_neg, and_guard, or_guard]
theorem cont_run {i : Nat} (hi : i ≤ ps.length) {B : Nat} (hb : aload false 1 (.pointer (some ⟨B, 0, none⟩)) (frzS t) = some (.int .i64 (i : Int))) {v : Value} {l : List En} (h : listOf enC v t = some l) (hll : l.length < 140737488355328) :
    (run Try.prog (libL libT) hints) 32 [v, .func (.func 33) #[] #[pN s0, .pointer (some ⟨B, 0, none⟩)]] t = some (.bool (l.any fun e => !wiE (rgI ps i) e.2), t) := by
  obtain ⟨r, k1, k2⟩ := idx_loop hx hlf hq hl hi hb h hll l 0 rfl (Nat.zero_le _)
  rw [show ((0 : Nat) : Int) = 0 from rfl] at k1
  have hr : ∀ n : Int, retV [.int .i64 n] t = some (.int .i64 n, t) := fun n => ret1 rfl
  have hidx : ∃ n : Int, (run Try.prog (libL libT) hints) 60 [v, .func (.func 33) #[] #[pN s0, .pointer (some ⟨B, 0, none⟩)]] t = some (.int .i64 n, t) ∧ decide (n ≥ 0) = l.any fun e => !wiE (rgI ps i) e.2 := by
    obtain ⟨e, X⟩ := r
    rcases k2 with ⟨g1, g2, m, g3⟩ | ⟨g1, g2⟩
    · simp only at g2 g3
      subst g2 g3
      refine ⟨(m : Int), slices_IndexFunc_api_Entry_api_Entry_of rfl ?_, by rw [g1]; simp⟩
      unfold slices_IndexFunc_api_Entry_api_Entry
      simp only [list_len h, k1, n_bind, n_map, getL_0, getL_1, getL_2, getL_3, getL_4, getL_5, getL_6, getL_7, getL_8, getL_9, getL_10, getL_11, getL_12, condV_t, condV_f, guardV_tt, guardV_ff, guardV_tf, guardV_ft, guardV_u, apick_t, apick_f, exV_exit, exV_ret, lookE_same, joinK_eq, seqA_n, seqA_e, seqA_r, e_add, e_sub, e_mul, e_eql, e_neq, e_lss, e_leq, e_gtr, e_geq, e_conv, e_not, e_neg, and_guard, or_guard, hr]
    · cases g2
      refine ⟨-1, slices_IndexFunc_api_Entry_api_Entry_of rfl ?_, by rw [g1]; rfl⟩
      unfold slices_IndexFunc_api_Entry_api_Entry
      simp only [list_len h, k1, n_bind, n_map, getL_0, getL_1, getL_2, getL_3, getL_4, getL_5, getL_6, getL_7, getL_8, getL_9, getL_10, getL_11, getL_12, condV_t, condV_f, guardV_tt, guardV_ff, guardV_tf, guardV_ft, guardV_u, apick_t, apick_f, exV_exit, exV_ret, lookE_same, joinK_eq, seqA_n, seqA_e, seqA_r, e_add, e_sub, e_mul, e_eql, e_neq, e_lss, e_leq, e_gtr, e_geq, e_conv, e_not, e_neg, and_guard, or_guard, hr]
  obtain ⟨n, n1, n2⟩ := hidx
  refine slices_ContainsFunc_api_Entry_api_Entry_of rfl ?_
  unfold slices_ContainsFunc_api_Entry_api_Entry
  simp only [slices_IndexFunc_api_Entry_api_Entry_call, n1, n2, n_bind, n_map, getL_0, getL_1, getL_2, getL_3, getL_4, getL_5, getL_6, getL_7, getL_8, getL_9, getL_10, getL_11, getL_12, condV_t, condV_f, guardV_tt, guardV_ff, guardV_tf, guardV_ft, guardV_u, apick_t, apick_f, exV_exit, exV_ret, lookE_same, joinK_eq, seqA_n, seqA_e, seqA_r, e_add, e_sub, e_mul, e_eql, e_neq, e_lss, e_leq, e_gtr, e_geq, e_conv, e_not, e_neg, and_guard, or_guard]
  exact ret1 rfl
end
def outF (ps : List BL) : Nat → List (List En) → Bool
  | _, [] => false
  | i, l :: r => (l.any fun e => !wiE (rgI ps i) e.2) || outF ps (i + 1) r
theorem new_i {t : St} (n : Int) : anew [.int .i64 0] t = some (.pointer (some ⟨t.heap.length, 0, none⟩), t.push (.row 0 [.int .i64 0] .act)) := rfl
theorem st_i {t : St} (n : Int) : astore 1 (.pointer (some ⟨t.heap.length, 0, none⟩)) (.int .i64 n) (t.push (.row 0 [.int .i64 0] .act)) = some (t.push (.row 0 [.int .i64 n] .act)) := by
  simp [astore, cellsV, isLeaf, writeN, St.push, putCells, St.putB, List.set_append_right]
theorem ld_i {t : St} (n : Int) : aload false 1 (.pointer (some ⟨t.heap.length, 0, none⟩)) (frzS (t.push (.row 0 [.int .i64 n] .act))) = some (.int .i64 n) := by
  simp only [aload, Bool.false_eq_true, if_false, readRow_frz]
  unfold Ab.readRow
  rw [push_get]
  rfl
theorem nb2_loop {s0 : St} {f : Bool} {p k q b : Value} (hlf : leafs p k q b) {ps : List BL} {bs : List (List En)} (hl : ps.length < 140737488355328) (hbp : bs.length ≤ ps.length + 1) : ∀ (rest : List (List En)) (i : Nat) (t : St), Ext (s0.heap.length + 1) (nSt s0 f p k q b) t → listOf strC q t = some ps → ListN (.list enN 88) 24 bs t b → bs.drop i = rest → i ≤ bs.length →
    ∃ t2, loopL (node_Check.b2 (run Try.prog (libL libT) hints)) [pN s0, b, .int .i64 ((bs.length : Nat) : Int), .int .i64 (i : Int)] t = (if outF ps i rest = true then some (.ret, [.int .i64 130], t2) else some (.exit 4, [], t2)) ∧ Ext t.heap.length t t2 := by
  intro rest
  induction rest with
  | nil =>
    intro i t hx hq h hi hle
    have h1 : decide ((i : Int) < ((bs.length : Nat) : Int)) = false := by
      have := List.drop_eq_nil_iff.1 hi
      simp; omega
    refine ⟨t, ?_, .refl _ _⟩
    rw [loopL_eq]
    simp only [node_Check.b2, h1, n_bind, n_map, getL_0, getL_1, getL_2, getL_3, getL_4, getL_5, getL_6, getL_7, getL_8, getL_9, getL_10, getL_11, getL_12, condV_t, condV_f, guardV_tt, guardV_ff, guardV_tf, guardV_ft, guardV_u, apick_t, apick_f, exV_exit, exV_ret, lookE_same, joinK_eq, seqA_n, seqA_e, seqA_r, e_add, e_sub, e_mul, e_eql, e_neq, e_lss, e_leq, e_gtr, e_geq, e_conv, e_not, e_neg, and_guard, or_guard, outF, Bool.false_eq_true, if_false]
  | cons x rest ih =>
    intro i t hx hq h hi hle
    obtain ⟨hlt, he, hd⟩ := drop_get hi
    have h1 : decide ((i : Int) < ((bs.length : Nat) : Int)) = true := by simp; omega
    obtain ⟨a, c, h2, h3, h4⟩ := listN_at rfl h hlt
    rw [he] at h4
    have hxp : Ext t.heap.length t (t.push (.row 0 [.int .i64 (i : Int)] .act)) := .push _ (Nat.le_refl _) _
    have hle2 : s0.heap.length + 1 ≤ t.heap.length := by
      have := hx.1
      unfold nSt at this
      rwa [push_len] at this
    have hx2 : Ext (s0.heap.length + 1) (nSt s0 f p k q b) (t.push (.row 0 [.int .i64 (i : Int)] .act)) := hx.trans (hxp.less hle2)
    have hq2 := list_ext hxp hq
    obtain ⟨g1, g2⟩ := row_plain h4
    have hc := cont_run hx2 hlf hq2 hl (i := i) (by omega) (ld_i (i : Int)) (list_ext hxp g1) g2
    have hmk : amkFunc 33 [] [pN s0, .pointer (some ⟨t.heap.length, 0, none⟩)] = some (.func (.func 33) #[] #[pN s0, .pointer (some ⟨t.heap.length, 0, none⟩)]) := rfl
    rcases Bool.eq_false_or_eq_true (x.any fun e => !wiE (rgI ps i) e.2) with c1 | c1
    · have ho : outF ps i (x :: rest) = true := by simp only [outF, c1, Bool.true_or]
      rw [c1] at hc
      refine ⟨_, ?_, hxp⟩
      rw [if_pos ho, loopL_eq]
      simp only [node_Check.b2, h1, h2, h3, new_i (i : Int), st_i, hmk, slices_ContainsFunc_api_Entry_api_Entry_call, hc, Bool.true_or, if_true, n_bind, n_map, getL_0, getL_1, getL_2, getL_3, getL_4, getL_5, getL_6, getL_7, getL_8, getL_9, getL_10, getL_11, getL_12, condV_t, condV_f, guardV_tt, guardV_ff, guardV_tf, guardV_ft, guardV_u, apick_t, apick_f, exV_exit, exV_ret, lookE_same, joinK_eq, seqA_n, seqA_e, seqA_r, e_add, e_sub, e_mul, e_eql, e_neq, e_lss, e_leq, e_gtr, e_geq, e_conv, e_not, e_neg, and_guard, or_guard]
    · have ho : outF ps i (x :: rest) = outF ps (i + 1) rest := by simp only [outF, c1, Bool.false_or]
      rw [c1] at hc
      obtain ⟨t2, k1, k2⟩ := ih (i + 1) _ hx2 hq2 (h.ext hxp) hd (by omega)
      refine ⟨t2, ?_, hxp.trans (k2.less hxp.1)⟩
      rw [ho, ← k1, loopL_eq]
      simp only [node_Check.b2, h1, h2, h3, new_i (i : Int), st_i, hmk, slices_ContainsFunc_api_Entry_api_Entry_call, hc, inc_i64 (show i < 140737488355328 by omega), n_bind, n_map, getL_0, getL_1, getL_2, getL_3, getL_4, getL_5, getL_6, getL_7, getL_8, getL_9, getL_10, getL_11, getL_12, condV_t, condV_f, guardV_tt, guardV_ff, guardV_tf, guardV_ft, guardV_u, apick_t, apick_f, exV_exit, exV_ret, lookE_same, joinK_eq, seqA_n, seqA_e, seqA_r, e_add, e_sub, e_mul, e_eql, e_neq, e_lss, e_leq, e_gtr, e_geq, e_conv, e_not, e_neg, and_guard, or_guard]

/-! ### Check -/
def mnK (n : Nd) : Int := match n.kids with
  | [] => 0
  | x :: r => mnL x r
def mxK (n : Nd) : Int := match n.kids with
  | [] => 0
  | x :: r => mxL x r
def bad5 (n : Nd) : Bool := ((((decide (((n.pairs.length : Nat) : Int) > 0) || decide (((n.kids.length : Nat) : Int) < 2)) || decide (((n.kids.length : Nat) : Int) > 8)) || (((n.pivots.length : Nat) : Int) != (IntKind.wrap .i64 (((n.kids.length : Nat) : Int) - 1)))) || (((n.bufs.length : Nat) : Int) != ((n.kids.length : Nat) : Int)))
def badN (n : Nd) : Bool := (bad5 n || decide (mnK n < 1)) || decide (mxK n > 2147483647)
def eNi (n : Nd) : Int := if okP none n.pivots = true then (if (firstE n.bufs == 0) = true then (if outF n.pivots 0 n.bufs = true then 130 else 0) else firstE n.bufs) else 130
def eN (n : Nd) : Int := if n.leaf = true then (if decide (((n.kids.length + n.pivots.length + n.bufs.length : Nat) : Int) > 0) = true then 130 else mapE [] n.pairs) else if badN n = true then 130 else eNi n

theorem listN_leaf {α : Type} {C : NCod α} {B : Nat} {l : List α} {s : St} {v : Value} (h : ListN C B l s v) : isLeaf v = true := by
  rcases h.2 with ⟨rfl, _⟩ | ⟨b, css, st, rfl, _⟩ <;> rfl
theorem nd_new {s0 : St} {f : Bool} {p k q b : Value} (h : leafs p k q b) : anew (cellsV (ndV f p k q b)) s0 = some (pN s0, nSt s0 f p k q b) := by
  obtain ⟨h1, h2, h3, h4⟩ := h
  unfold anew
  rw [if_pos (by simp only [ndV, cellsV, List.all_cons, h1, h2, h3, h4, List.all_nil]; rfl)]
  rfl
theorem nCheck_run {n : Nd} {s0 : St} {v : Value} (h : NArg nodeC n s0 v) : ∃ t, (run Try.prog (libL libT) hints) 12 [v] s0 = some (.int .i64 (eN n), t) ∧ Ext s0.heap.length s0 t := by
  obtain ⟨p, k, q, b, rfl, hp, hk, hq, hb⟩ := node_inv h
  have hlf : leafs p k q b := ⟨listN_leaf hp, listN_leaf hk, listN_leaf hq, listN_leaf hb⟩
  have hv : (.agg #[.bool n.leaf, p, k, q, b] : Value) = ndV n.leaf p k q b := rfl
  rw [hv]
  have hxp : Ext s0.heap.length s0 (nSt s0 n.leaf p k q b) := .push _ (Nat.le_refl _) _
  have hx : Ext (s0.heap.length + 1) (nSt s0 n.leaf p k q b) (nSt s0 n.leaf p k q b) := .refl _ _
  obtain ⟨p1, _, p2⟩ := (hp.ext hxp).plain
  obtain ⟨k1, _, k2⟩ := (hk.ext hxp).plain
  obtain ⟨q1, _, q2⟩ := (ListN.plain (C := strC) (Pr := fun k => k.length ≤ reachBytes) (hq.ext hxp))
  have b1 := hb.ext hxp
  have b2 : n.bufs.length * 24 ≤ 140737488351232 := hb.1
  have l0 := nd_ldH hx (i := 0) (c := .bool n.leaf) rfl
  have l1 := nd_ldH hx (i := 1) (c := p) rfl
  have l2 := nd_ldH hx (i := 2) (c := k) rfl
  have l3 := nd_ldH hx (i := 3) (c := q) rfl
  have l4 := nd_ldH hx (i := 4) (c := b) rfl
  have w1 : IntKind.wrap .i64 (((n.kids.length : Nat) : Int) + ((n.pivots.length : Nat) : Int)) = ((n.kids.length + n.pivots.length : Nat) : Int) := by rw [wrap_i64 (by omega) (by omega)]; omega
  have w2 : IntKind.wrap .i64 (((n.kids.length + n.pivots.length : Nat) : Int) + ((n.bufs.length : Nat) : Int)) = ((n.kids.length + n.pivots.length + n.bufs.length : Nat) : Int) := by rw [wrap_i64 (by omega) (by omega)]; omega
  have hr : ∀ (m : Int) s, retV [.int .i64 m] s = some (.int .i64 m, s) := fun m s => ret1 rfl
  have lb : ∀ e s, alenV (.slice e) b s = some (.int .i64 ((n.bufs.length : Nat) : Int)) := fun e s => listN_len hb
  rcases Bool.eq_false_or_eq_true n.leaf with c0 | c0
  · rcases Bool.eq_false_or_eq_true (decide (((n.kids.length + n.pivots.length + n.bufs.length : Nat) : Int) > 0)) with c1 | c1
    · have hN : eN n = 130 := by unfold eN; rw [if_pos c0, if_pos c1]
      rw [hN]
      refine ⟨_, node_Check_of rfl ?_, hxp⟩
      unfold node_Check
      replace l0 : aload false 1 (.pointer (some ⟨s0.heap.length, 0, none⟩)) (nSt s0 n.leaf p k q b) = some (.bool true) := l0.trans (by rw [c0])
      simp only [nd_new hlf, ad, l0, l2, l3, l4, list_len k1, list_len q1, lb, w1, w2, c1, hr, n_bind, n_map, getL_0, getL_1, getL_2, getL_3, getL_4, getL_5, getL_6, getL_7, getL_8, getL_9, getL_10, getL_11, getL_12, condV_t, condV_f, guardV_tt, guardV_ff, guardV_tf, guardV_ft, guardV_u, apick_t, apick_f, exV_exit, exV_ret, lookE_same, joinK_eq, seqA_n, seqA_e, seqA_r, e_add, e_sub, e_mul, e_eql, e_neq, e_lss, e_leq, e_gtr, e_geq, e_conv, e_not, e_neg, and_guard, or_guard]
    · have hN : eN n = mapE [] n.pairs := by unfold eN; rw [if_pos c0, if_neg (by rw [c1]; simp)]
      rw [hN]
      refine ⟨_, node_Check_of rfl ?_, hxp⟩
      unfold node_Check
      replace l0 : aload false 1 (.pointer (some ⟨s0.heap.length, 0, none⟩)) (nSt s0 n.leaf p k q b) = some (.bool true) := l0.trans (by rw [c0])
      simp only [nd_new hlf, ad, l0, l1, l2, l3, l4, list_len k1, list_len q1, lb, w1, w2, c1, op_CheckMap_call, k_map p1 (show n.pairs.length < 140737488355328 by omega), hr, n_bind, n_map, getL_0, getL_1, getL_2, getL_3, getL_4, getL_5, getL_6, getL_7, getL_8, getL_9, getL_10, getL_11, getL_12, condV_t, condV_f, guardV_tt, guardV_ff, guardV_tf, guardV_ft, guardV_u, apick_t, apick_f, exV_exit, exV_ret, lookE_same, joinK_eq, seqA_n, seqA_e, seqA_r, e_add, e_sub, e_mul, e_eql, e_neq, e_lss, e_leq, e_gtr, e_geq, e_conv, e_not, e_neg, and_guard, or_guard]
  · replace l0 : aload false 1 (.pointer (some ⟨s0.heap.length, 0, none⟩)) (nSt s0 n.leaf p k q b) = some (.bool false) := l0.trans (by rw [c0])
    have hc0 : ¬ n.leaf = true := by rw [c0]; simp
    have bad : badN n = true → (∃ t, (run Try.prog (libL libT) hints) 12 [ndV n.leaf p k q b] s0 = some (.int .i64 130, t) ∧ Ext s0.heap.length s0 t) → ∃ t, (run Try.prog (libL libT) hints) 12 [ndV n.leaf p k q b] s0 = some (.int .i64 (eN n), t) ∧ Ext s0.heap.length s0 t := fun h1 h2 => by
      have hN : eN n = 130 := by unfold eN; rw [if_neg hc0, if_pos h1]
      rwa [hN]
    rcases Bool.eq_false_or_eq_true (decide (((n.pairs.length : Nat) : Int) > 0)) with a1 | a1
    · refine bad (by simp only [badN, bad5, a1, Bool.true_or]) ⟨_, node_Check_of rfl ?_, hxp⟩
      unfold node_Check
      simp only [nd_new hlf, ad, l0, l1, l2, l3, l4, list_len p1, list_len k1, list_len q1, lb, a1, hr, n_bind, n_map, getL_0, getL_1, getL_2, getL_3, getL_4, getL_5, getL_6, getL_7, getL_8, getL_9, getL_10, getL_11, getL_12, condV_t, condV_f, guardV_tt, guardV_ff, guardV_tf, guardV_ft, guardV_u, apick_t, apick_f, exV_exit, exV_ret, lookE_same, joinK_eq, seqA_n, seqA_e, seqA_r, e_add, e_sub, e_mul, e_eql, e_neq, e_lss, e_leq, e_gtr, e_geq, e_conv, e_not, e_neg, and_guard, or_guard]
    rcases Bool.eq_false_or_eq_true (decide (((n.kids.length : Nat) : Int) < 2)) with a2 | a2
    · refine bad (by simp only [badN, bad5, a2, Bool.true_or, Bool.or_true]) ⟨_, node_Check_of rfl ?_, hxp⟩
      unfold node_Check
      simp only [nd_new hlf, ad, l0, l1, l2, l3, l4, list_len p1, list_len k1, list_len q1, lb, a1, a2, hr, n_bind, n_map, getL_0, getL_1, getL_2, getL_3, getL_4, getL_5, getL_6, getL_7, getL_8, getL_9, getL_10, getL_11, getL_12, condV_t, condV_f, guardV_tt, guardV_ff, guardV_tf, guardV_ft, guardV_u, apick_t, apick_f, exV_exit, exV_ret, lookE_same, joinK_eq, seqA_n, seqA_e, seqA_r, e_add, e_sub, e_mul, e_eql, e_neq, e_lss, e_leq, e_gtr, e_geq, e_conv, e_not, e_neg, and_guard, or_guard]
    rcases Bool.eq_false_or_eq_true (decide (((n.kids.length : Nat) : Int) > 8)) with a3 | a3
    · refine bad (by simp only [badN, bad5, a3, Bool.true_or, Bool.or_true]) ⟨_, node_Check_of rfl ?_, hxp⟩
      unfold node_Check
      simp only [nd_new hlf, ad, l0, l1, l2, l3, l4, list_len p1, list_len k1, list_len q1, lb, a1, a2, a3, hr, n_bind, n_map, getL_0, getL_1, getL_2, getL_3, getL_4, getL_5, getL_6, getL_7, getL_8, getL_9, getL_10, getL_11, getL_12, condV_t, condV_f, guardV_tt, guardV_ff, guardV_tf, guardV_ft, guardV_u, apick_t, apick_f, exV_exit, exV_ret, lookE_same, joinK_eq, seqA_n, seqA_e, seqA_r, e_add, e_sub, e_mul, e_eql, e_neq, e_lss, e_leq, e_gtr, e_geq, e_conv, e_not, e_neg, and_guard, or_guard]
    rcases Bool.eq_false_or_eq_true (((n.pivots.length : Nat) : Int) != (IntKind.wrap .i64 (((n.kids.length : Nat) : Int) - 1))) with a4 | a4
    · refine bad (by simp only [badN, bad5, a4, Bool.true_or, Bool.or_true]) ⟨_, node_Check_of rfl ?_, hxp⟩
      unfold node_Check
      simp only [nd_new hlf, ad, l0, l1, l2, l3, l4, list_len p1, list_len k1, list_len q1, lb, a1, a2, a3, a4, hr, n_bind, n_map, getL_0, getL_1, getL_2, getL_3, getL_4, getL_5, getL_6, getL_7, getL_8, getL_9, getL_10, getL_11, getL_12, condV_t, condV_f, guardV_tt, guardV_ff, guardV_tf, guardV_ft, guardV_u, apick_t, apick_f, exV_exit, exV_ret, lookE_same, joinK_eq, seqA_n, seqA_e, seqA_r, e_add, e_sub, e_mul, e_eql, e_neq, e_lss, e_leq, e_gtr, e_geq, e_conv, e_not, e_neg, and_guard, or_guard]
    rcases Bool.eq_false_or_eq_true (((n.bufs.length : Nat) : Int) != ((n.kids.length : Nat) : Int)) with a5 | a5
    · refine bad (by simp only [badN, bad5, a5, Bool.true_or, Bool.or_true]) ⟨_, node_Check_of rfl ?_, hxp⟩
      unfold node_Check
      simp only [nd_new hlf, ad, l0, l1, l2, l3, l4, list_len p1, list_len k1, list_len q1, lb, a1, a2, a3, a4, a5, hr, n_bind, n_map, getL_0, getL_1, getL_2, getL_3, getL_4, getL_5, getL_6, getL_7, getL_8, getL_9, getL_10, getL_11, getL_12, condV_t, condV_f, guardV_tt, guardV_ff, guardV_tf, guardV_ft, guardV_u, apick_t, apick_f, exV_exit, exV_ret, lookE_same, joinK_eq, seqA_n, seqA_e, seqA_r, e_add, e_sub, e_mul, e_eql, e_neq, e_lss, e_leq, e_gtr, e_geq, e_conv, e_not, e_neg, and_guard, or_guard]
    obtain ⟨x, r, hkid⟩ : ∃ x r, n.kids = x :: r := by
      cases hh : n.kids with
      | nil => rw [hh] at a2; simp at a2
      | cons x r => exact ⟨x, r, rfl⟩
    have hmn : mnK n = mnL x r := by unfold mnK; rw [hkid]
    have hmx : mxK n = mxL x r := by unfold mxK; rw [hkid]
    have kmin := slices_Min_int_int_of (lib := libL libT) rfl (slices_Min_int_int_run (R := (run Try.prog (libL libT) hints)) hkid k1 (by omega))
    have kmax := slices_Max_int_int_of (lib := libL libT) rfl (slices_Max_int_int_run (R := (run Try.prog (libL libT) hints)) hkid k1 (by omega))
    rcases Bool.eq_false_or_eq_true (decide (mnL x r < 1)) with a6 | a6
    · refine bad (by simp only [badN, hmn, a6, Bool.true_or, Bool.or_true]) ⟨_, node_Check_of rfl ?_, hxp⟩
      unfold node_Check
      simp only [nd_new hlf, ad, l0, l1, l2, l3, l4, list_len p1, list_len k1, list_len q1, lb, a1, a2, a3, a4, a5, slices_Min_int_int_call, kmin, a6, hr, n_bind, n_map, getL_0, getL_1, getL_2, getL_3, getL_4, getL_5, getL_6, getL_7, getL_8, getL_9, getL_10, getL_11, getL_12, condV_t, condV_f, guardV_tt, guardV_ff, guardV_tf, guardV_ft, guardV_u, apick_t, apick_f, exV_exit, exV_ret, lookE_same, joinK_eq, seqA_n, seqA_e, seqA_r, e_add, e_sub, e_mul, e_eql, e_neq, e_lss, e_leq, e_gtr, e_geq, e_conv, e_not, e_neg, and_guard, or_guard]
    rcases Bool.eq_false_or_eq_true (decide (mxL x r > 2147483647)) with a7 | a7
    · refine bad (by simp only [badN, hmx, a7, Bool.true_or, Bool.or_true]) ⟨_, node_Check_of rfl ?_, hxp⟩
      unfold node_Check
      simp only [nd_new hlf, ad, l0, l1, l2, l3, l4, list_len p1, list_len k1, list_len q1, lb, a1, a2, a3, a4, a5, slices_Min_int_int_call, kmin, a6, slices_Max_int_int_call, kmax, a7, hr, n_bind, n_map, getL_0, getL_1, getL_2, getL_3, getL_4, getL_5, getL_6, getL_7, getL_8, getL_9, getL_10, getL_11, getL_12, condV_t, condV_f, guardV_tt, guardV_ff, guardV_tf, guardV_ft, guardV_u, apick_t, apick_f, exV_exit, exV_ret, lookE_same, joinK_eq, seqA_n, seqA_e, seqA_r, e_add, e_sub, e_mul, e_eql, e_neq, e_lss, e_leq, e_gtr, e_geq, e_conv, e_not, e_neg, and_guard, or_guard]
    have hgood : eN n = eNi n := by
      unfold eN
      rw [if_neg hc0, if_neg (by simp only [badN, bad5, a1, a2, a3, a4, a5, hmn, a6, hmx, a7]; simp)]
    rw [hgood]
    have key0 := nb0_loop hx q1 (by omega) n.pivots 0 rfl (Nat.zero_le _)
    have key1 := nb1_loop (P0 := pN s0) b1 n.bufs 0 rfl (Nat.zero_le _)
    rw [show ((0 : Nat) : Int) = 0 from rfl] at key0 key1
    have hbp : n.bufs.length ≤ n.pivots.length + 1 := by
      have w3 : IntKind.wrap .i64 (((n.kids.length : Nat) : Int) - 1) = ((n.kids.length : Nat) : Int) - 1 := wrap_i64 (by omega) (by omega)
      rw [w3] at a4
      simp at a4 a5
      omega
    obtain ⟨t2, key2, hx2⟩ := nb2_loop (f := n.leaf) hlf (by omega) hbp n.bufs 0 (nSt s0 n.leaf p k q b) hx q1 b1 rfl (Nat.zero_le _)
    rw [show ((0 : Nat) : Int) = 0 from rfl] at key2
    have hxt : Ext s0.heap.length s0 t2 := hxp.trans (hx2.less hxp.1)
    unfold eNi
    have hprev : okP (prevS n.pivots 0) n.pivots = okP none n.pivots := rfl
    by_cases d1 : okP none n.pivots = true
    · rw [if_pos d1]
      rw [if_pos (by rw [hprev]; exact d1)] at key0
      by_cases d2 : (firstE n.bufs == 0) = true
      · rw [if_pos d2]
        rw [if_pos d2] at key1
        by_cases d3 : outF n.pivots 0 n.bufs = true
        · rw [if_pos d3]
          rw [if_pos d3] at key2
          refine ⟨t2, node_Check_of rfl ?_, hxt⟩
          unfold node_Check
          simp only [nd_new hlf, ad, l0, l1, l2, l3, l4, list_len p1, list_len k1, list_len q1, lb, a1, a2, a3, a4, a5, slices_Min_int_int_call, kmin, a6, slices_Max_int_int_call, kmax, a7, key0, key1, key2, hr, n_bind, n_map, getL_0, getL_1, getL_2, getL_3, getL_4, getL_5, getL_6, getL_7, getL_8, getL_9, getL_10, getL_11, getL_12, condV_t, condV_f, guardV_tt, guardV_ff, guardV_tf, guardV_ft, guardV_u, apick_t, apick_f, exV_exit, exV_ret, lookE_same, joinK_eq, seqA_n, seqA_e, seqA_r, e_add, e_sub, e_mul, e_eql, e_neq, e_lss, e_leq, e_gtr, e_geq, e_conv, e_not, e_neg, and_guard, or_guard]
        · rw [if_neg d3]
          rw [if_neg d3] at key2
          refine ⟨t2, node_Check_of rfl ?_, hxt⟩
          unfold node_Check
          simp only [nd_new hlf, ad, l0, l1, l2, l3, l4, list_len p1, list_len k1, list_len q1, lb, a1, a2, a3, a4, a5, slices_Min_int_int_call, kmin, a6, slices_Max_int_int_call, kmax, a7, key0, key1, key2, hr, n_bind, n_map, getL_0, getL_1, getL_2, getL_3, getL_4, getL_5, getL_6, getL_7, getL_8, getL_9, getL_10, getL_11, getL_12, condV_t, condV_f, guardV_tt, guardV_ff, guardV_tf, guardV_ft, guardV_u, apick_t, apick_f, exV_exit, exV_ret, lookE_same, joinK_eq, seqA_n, seqA_e, seqA_r, e_add, e_sub, e_mul, e_eql, e_neq, e_lss, e_leq, e_gtr, e_geq, e_conv, e_not, e_neg, and_guard, or_guard]
      · rw [if_neg d2]
        rw [if_neg d2] at key1
        refine ⟨_, node_Check_of rfl ?_, hxp⟩
        unfold node_Check
        simp only [nd_new hlf, ad, l0, l1, l2, l3, l4, list_len p1, list_len k1, list_len q1, lb, a1, a2, a3, a4, a5, slices_Min_int_int_call, kmin, a6, slices_Max_int_int_call, kmax, a7, key0, key1, hr, n_bind, n_map, getL_0, getL_1, getL_2, getL_3, getL_4, getL_5, getL_6, getL_7, getL_8, getL_9, getL_10, getL_11, getL_12, condV_t, condV_f, guardV_tt, guardV_ff, guardV_tf, guardV_ft, guardV_u, apick_t, apick_f, exV_exit, exV_ret, lookE_same, joinK_eq, seqA_n, seqA_e, seqA_r, e_add, e_sub, e_mul, e_eql, e_neq, e_lss, e_leq, e_gtr, e_geq, e_conv, e_not, e_neg, and_guard, or_guard]
    · rw [if_neg d1]
      rw [if_neg (by rw [hprev]; exact d1)] at key0
      refine ⟨_, node_Check_of rfl ?_, hxp⟩
      unfold node_Check
      simp only [nd_new hlf, ad, l0, l1, l2, l3, l4, list_len p1, list_len k1, list_len q1, lb, a1, a2, a3, a4, a5, slices_Min_int_int_call, kmin, a6, slices_Max_int_int_call, kmax, a7, key0, hr, n_bind, n_map, getL_0, getL_1, getL_2, getL_3, getL_4, getL_5, getL_6, getL_7, getL_8, getL_9, getL_10, getL_11, getL_12, condV_t, condV_f, guardV_tt, guardV_ff, guardV_tf, guardV_ft, guardV_u, apick_t, apick_f, exV_exit, exV_ret, lookE_same, joinK_eq, seqA_n, seqA_e, seqA_r, e_add, e_sub, e_mul, e_eql, e_neq, e_lss, e_leq, e_gtr, e_geq, e_conv, e_not, e_neg, and_guard, or_guard]

/-! ### Child -/
theorem n_leq {a b : BL} {t : TypeId} {ox oy : Operand} : abin Try.prog .leq t ox oy (sv a) (sv b) = some (.bool (!bl b a)) := by
  rw [e_sleq]
  have : (Op.bytesLess a b || a == b) = !bl b a := by
    cases h : bl b a with
    | true =>
      have h1 : bl a b = false := bl_asymm h
      have h2 : (a == b) = false := by
        cases e : a == b with
        | false => rfl
        | true =>
          have : a = b := by simpa using e
          subst this
          rw [h] at h1; cases h1
      show (bl a b || a == b) = !true
      rw [h1, h2]; rfl
    | false =>
      show (bl a b || a == b) = !false
      cases h1 : bl a b with
      | true => rfl
      | false =>
        have : a = b := Classical.byContradiction fun e => by
          rcases bl_total e with g | g
          · rw [h1] at g; cases g
          · rw [h] at g; cases g
        simp [this]
  rw [this]
def cntL (key : BL) : List BL → Nat
  | [] => 0
  | x :: l => (if bl key x = true then 0 else 1) + cntL key l
theorem child_loop {R : Caller} {q : Value} {s : St} {ps : List BL} (h : listOf strC q s = some ps) (hl : ps.length < 140737488355328) (key : BL) : ∀ (rest : List BL) (i c : Nat), ps.drop i = rest → i ≤ ps.length → c ≤ i →
    loopL (node_Child.b0 R) [sv key, .int .i64 (c : Int), q, .int .i64 ((ps.length : Nat) : Int), .int .i64 (i : Int)] s = some (.exit 0, [.int .i64 ((c + cntL key rest : Nat) : Int)], s) := by
  intro rest
  induction rest with
  | nil =>
    intro i c hi hle hc
    have h1 : decide ((i : Int) < ((ps.length : Nat) : Int)) = false := by
      have := List.drop_eq_nil_iff.1 hi
      simp; omega
    rw [loopL_eq]
    simp only [node_Child.b0, h1, cntL, Nat.add_zero, n_bind, n_map, getL_0, getL_1, getL_2, getL_3, getL_4, getL_5, getL_6, getL_7, getL_8, getL_9, getL_10, getL_11, getL_12, condV_t, condV_f, guardV_tt, guardV_ff, guardV_tf, guardV_ft, guardV_u, apick_t, apick_f, exV_exit, exV_ret, lookE_same, joinK_eq, seqA_n, seqA_e, seqA_r, e_add, e_sub, e_mul, e_eql, e_neq, e_lss, e_leq, e_gtr, e_geq, e_conv, e_not, e_neg, and_guard, or_guard]
  | cons x rest ih =>
    intro i c hi hle hc
    obtain ⟨hlt, he, hd⟩ := drop_get hi
    have h1 : decide ((i : Int) < ((ps.length : Nat) : Int)) = true := by simp; omega
    obtain ⟨a, h2, h3⟩ := str_at h hlt
    rw [he] at h3
    rw [loopL_eq]
    rcases Bool.eq_false_or_eq_true (bl key x) with c1 | c1
    · have := ih (i + 1) c hd (by omega) (by omega)
      simp only [node_Child.b0, h1, h2, h3, n_leq, c1, Bool.not_true, node_Child.j0, inc_i64 (show i < 140737488355328 by omega), cntL, if_true, Nat.zero_add, n_bind, n_map, getL_0, getL_1, getL_2, getL_3, getL_4, getL_5, getL_6, getL_7, getL_8, getL_9, getL_10, getL_11, getL_12, condV_t, condV_f, guardV_tt, guardV_ff, guardV_tf, guardV_ft, guardV_u, apick_t, apick_f, exV_exit, exV_ret, lookE_same, joinK_eq, seqA_n, seqA_e, seqA_r, e_add, e_sub, e_mul, e_eql, e_neq, e_lss, e_leq, e_gtr, e_geq, e_conv, e_not, e_neg, and_guard, or_guard]
      exact this
    · have := ih (i + 1) (c + 1) hd (by omega) (by omega)
      simp only [node_Child.b0, h1, h2, h3, n_leq, c1, Bool.not_false, node_Child.j0, inc_i64 (show i < 140737488355328 by omega), inc_i64 (show c < 140737488355328 by omega), cntL, Bool.false_eq_true, if_false, n_bind, n_map, getL_0, getL_1, getL_2, getL_3, getL_4, getL_5, getL_6, getL_7, getL_8, getL_9, getL_10, getL_11, getL_12, condV_t, condV_f, guardV_tt, guardV_ff, guardV_tf, guardV_ft, guardV_u, apick_t, apick_f, exV_exit, exV_ret, lookE_same, joinK_eq, seqA_n, seqA_e, seqA_r, e_add, e_sub, e_mul, e_eql, e_neq, e_lss, e_leq, e_gtr, e_geq, e_conv, e_not, e_neg, and_guard, or_guard]
      rw [show c + (1 + cntL key rest) = c + 1 + cntL key rest by omega]
      exact this
theorem Child_run {R : Caller} {p k q b : Value} {s : St} (hlf : leafs p k q b) {ps : List BL} (h : listOf strC q s = some ps) (hl : ps.length < 140737488355328) (key : BL) : node_Child R (ndV false p k q b) (sv key) s = some (.int .i64 ((cntL key ps : Nat) : Int), s) := by
  have key0 := child_loop (R := R) h hl key ps 0 0 rfl (Nat.zero_le _) (Nat.le_refl _)
  rw [show ((0 : Nat) : Int) = 0 from rfl, Nat.zero_add] at key0
  have l0 : lload false 1 lptr (ndV false p k q b) = some (.bool false) := rfl
  have l3 := nd_3 false p k q b hlf.2.2.1
  unfold node_Child
  simp only [nd_box false p k q b hlf, l0, l3, list_len h, key0, n_bind, n_map, getL_0, getL_1, getL_2, getL_3, getL_4, getL_5, getL_6, getL_7, getL_8, getL_9, getL_10, getL_11, getL_12, condV_t, condV_f, guardV_tt, guardV_ff, guardV_tf, guardV_ft, guardV_u, apick_t, apick_f, exV_exit, exV_ret, lookE_same, joinK_eq, seqA_n, seqA_e, seqA_r, e_add, e_sub, e_mul, e_eql, e_neq, e_lss, e_leq, e_gtr, e_geq, e_conv, e_not, e_neg, and_guard, or_guard]
  exact ret1 rfl
theorem cnt_le {key : BL} : ∀ {l : List BL}, cntL key l ≤ l.length
  | [] => Nat.le_refl _
  | x :: l => by
    have := cnt_le (key := key) (l := l)
    simp only [cntL, List.length_cons]
    split <;> omega
/-- in ordered pivots: those that are not above the key come first -/
theorem cnt_cut {key : BL} : ∀ {l : List BL} {p : Option BL}, okP p l = true → (∀ (i : Nat) (hi : i < l.length), i < cntL key l → bl key l[i] = false) ∧ (∀ (hi : cntL key l < l.length), bl key l[cntL key l] = true)
  | [], _, _ => ⟨fun i hi => by simp at hi, fun hi => by simp [cntL] at hi⟩
  | x :: l, p, h => by
    have h2 : okP (some x) l = true := by
      rw [okP_cons] at h
      simp only [Bool.and_eq_true] at h
      exact h.2
    obtain ⟨g1, g2⟩ := cnt_cut (key := key) h2
    rcases Bool.eq_false_or_eq_true (bl key x) with c | c
    · -- all are above
      have all : ∀ {l : List BL} {x : BL}, okP (some x) l = true → bl key x = true → cntL key l = 0 := by
        intro l
        induction l with
        | nil => intro x _ _; rfl
        | cons y l ih =>
          intro x hx hk
          rw [okP_cons] at hx
          simp only [Bool.and_eq_true] at hx
          have hy : bl key y = true := bl_trans hk hx.1.2
          simp only [cntL, hy, if_true, Nat.zero_add]
          exact ih hx.2 hy
      have hz : cntL key (x :: l) = 0 := by
        simp only [cntL, c, if_true, Nat.zero_add]
        exact all h2 c
      rw [hz]
      refine ⟨fun i _ hi => absurd hi (by omega), fun hi => by simpa using c⟩
    · have hz : cntL key (x :: l) = cntL key l + 1 := by
        simp only [cntL, c, Bool.false_eq_true, if_false]
        omega
      rw [hz]
      refine ⟨fun i hi hi2 => ?_, fun hi => ?_⟩
      · cases i with
        | zero => simpa using c
        | succ i =>
          simp only [List.getElem_cons_succ]
          exact g1 i (by simpa using hi) (by omega)
      · simp only [List.getElem_cons_succ]
        exact g2 (by simpa using hi)

end Go.Proofs.Ytamaapapaiopiaa.Ab
