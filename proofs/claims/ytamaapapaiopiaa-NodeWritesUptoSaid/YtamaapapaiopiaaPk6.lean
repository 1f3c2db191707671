/- Texts of this proof, packed: NdRun, BList2, BList3, BOwn, BRead, NdRead, NdRead2, NdApp, NdWhole, NdWhol2, NdWhol3, NdChkR. -/
import Derived.Test.YtamaapapaiopiaaPk5
set_option linter.unusedVariables false
set_option linter.unusedSimpArgs false
set_option linter.unusedSectionVars false
/- Nodes: Check and Child. -/
namespace Go.Proofs.Ytamaapapaiopiaa.Ab
open Go

theorem n_box (e : En) : lbox (enV e) = some (enV e) := rfl
theorem callC {x a b : Value} {s : St} : callV Try.prog (run Try.prog (libL libT) hints) (.func (.func 33) #[] #[a, b]) [x] s = (run Try.prog (libL libT) hints) 33 [x, a, b] s := by
  have h := node_Check_1_ok
  simp [callV, h]
theorem k_wi (r : Rg) (o : OpT) (s : St) : (run Try.prog (libL libT) hints) 34 [rv r, oV o] s = some (.bool (wiE r o), s) := node_within_of rfl (within_run (fun a b s => (known (g := gCov) rfl).trans cov_eq) (fun r k s => (known (g := gHas) rfl).trans has_eq) r o s)
section
variable {s0 : St} {f : Bool} {p k q b : Value} {t : St} (hx : Ext (s0.heap.length + 1) (nSt s0 f p k q b) t) (hlf : leafs p k q b) {ps : List BL} (hq : listOf strC q t = some ps) (hl : ps.length < 140737488355328)
include hx hlf hq hl
theorem chk1_run {i : Nat} (hi : i ≤ ps.length) {B : Nat} (hb : aload false 1 (.pointer (some ⟨B, 0, none⟩)) (frzS t) = some (.int .i64 (i : Int))) (e : En) : (run Try.prog (libL libT) hints) 33 [enV e, pN s0, .pointer (some ⟨B, 0, none⟩)] t = some (.bool (!wiE (rgI ps i) e.2), t) := by
  have hbd := node_bounds_of (lib := libL libT) rfl (bounds_run (R := (run Try.prog (libL libT) hints)) (f := f) (p := p) (k := k) (b := b) hq hlf hl hi)
  refine node_Check_1_of rfl ?_
  unfold node_Check_1
  simp only [n_box, nd_all hx, hb, node_bounds_call, hbd, own_id, n_op, node_within_call, k_wi, e_not, n_bind, n_map, getL_0, getL_1, getL_2, getL_3, getL_4, getL_5, getL_6, getL_7, getL_8, getL_9, getL_10, getL_11, getL_12, condV_t, condV_f, guardV_tt, guardV_ff, guardV_tf, guardV_ft, guardV_u, apick_t, apick_f, exV_exit, exV_ret, lookE_same, joinK_eq, seqA_n, seqA_e, seqA_r, e_add, e_sub, e_mul, e_eql, e_neq, e_lss, e_leq, e_gtr, e_geq, e_conv, e_not, e_neg, and_guard, or_guard]
  exact ret1 rfl
theorem idx_loop {i : Nat} (hi : i ≤ ps.length) {B : Nat} (hb : aload false 1 (.pointer (some ⟨B, 0, none⟩)) (frzS t) = some (.int .i64 (i : Int))) {v : Value} {l : List En} (h : listOf enC v t = some l) (hll : l.length < 140737488355328) : ∀ (rest : List En) (j : Nat), l.drop j = rest → j ≤ l.length →
    ∃ r : Ex × List Value, loopL (slices_IndexFunc_api_Entry_api_Entry.b0 (run Try.prog (libL libT) hints)) [v, .func (.func 33) #[] #[pN s0, .pointer (some ⟨B, 0, none⟩)], .int .i64 ((l.length : Nat) : Int), .int .i64 (j : Int)] t = some (r.1, r.2, t) ∧
      ((rest.any (fun e => !wiE (rgI ps i) e.2) = true ∧ r.1 = .ret ∧ ∃ m : Nat, r.2 = [.int .i64 (m : Int)]) ∨ (rest.any (fun e => !wiE (rgI ps i) e.2) = false ∧ r = (.exit 0, []))) := by
  intro rest
  induction rest with
  | nil =>
    intro j hj hle
    have h1 : decide ((j : Int) < ((l.length : Nat) : Int)) = false := by
      have := List.drop_eq_nil_iff.1 hj
      simp; omega
    refine ⟨(.exit 0, []), ?_, .inr ⟨rfl, rfl⟩⟩
    rw [loopL_eq]
    simp only [slices_IndexFunc_api_Entry_api_Entry.b0, h1, n_bind, n_map, getL_0, getL_1, getL_2, getL_3, getL_4, getL_5, getL_6, getL_7, getL_8, getL_9, getL_10, getL_11, getL_12, condV_t, condV_f, guardV_tt, guardV_ff, guardV_tf, guardV_ft, guardV_u, apick_t, apick_f, exV_exit, exV_ret, lookE_same, joinK_eq, seqA_n, seqA_e, seqA_r, e_add, e_sub, e_mul, e_eql, e_neq, e_lss, e_leq, e_gtr, e_geq, e_conv, e_not, e_neg, and_guard, or_guard]
  | cons x rest ih =>
    intro j hj hle
    obtain ⟨hlt, he, hd⟩ := drop_get hj
    have h1 : decide ((j : Int) < ((l.length : Nat) : Int)) = true := by simp; omega
    obtain ⟨a, h2, h3⟩ := list_at h hlt (k := .i64) (n := 7) rfl
    rw [en_enc, he] at h3
    have hc := chk1_run hx hlf hq hl hi hb x
    rcases Bool.eq_false_or_eq_true (wiE (rgI ps i) x.2) with c | c
    · obtain ⟨r, k1, k2⟩ := ih (j + 1) hd (by omega)
      refine ⟨r, ?_, by simpa [List.any_cons, c] using k2⟩
      rw [← k1, loopL_eq]
      rw [c] at hc
      simp only [slices_IndexFunc_api_Entry_api_Entry.b0, h1, h2, h3, callC, hc, Bool.not_true, inc_i64 (show j < 140737488355328 by omega), n_bind, n_map, getL_0, getL_1, getL_2, getL_3, getL_4, getL_5, getL_6, getL_7, getL_8, getL_9, getL_10, getL_11, getL_12, condV_t, condV_f, guardV_tt, guardV_ff, guardV_tf, guardV_ft, guardV_u, apick_t, apick_f, exV_exit, exV_ret, lookE_same, joinK_eq, seqA_n, seqA_e, seqA_r, e_add, e_sub, e_mul, e_eql, e_neq, e_lss, e_leq, e_gtr, e_geq, e_conv, e_not, e_neg, and_guard, or_guard]
    · refine ⟨(.ret, [.int .i64 (j : Int)]), ?_, .inl ⟨by simp [List.any_cons, c], rfl, j, rfl⟩⟩
      rw [loopL_eq]
      rw [c] at hc
      simp only [slices_IndexFunc_api_Entry_api_Entry.b0, h1, h2, h3, callC, hc, Bool.not_false, n_bind, n_map, getL_0, getL_1, getL_2, getL_3, getL_4, getL_5, getL_6, getL_7, getL_8, getL_9, getL_10, getL_11, getL_12, condV_t, condV_f, guardV_tt, guardV_ff, guardV_tf, guardV_ft, guardV_u, apick_t, apick_f, exV_exit, exV_ret, lookE_same, joinK_eq, seqA_n, seqA_e, seqA_r, e_add, e_sub, e_mul, e_eql, e_neq, e_lss, e_leq, e_gtr, e_geq, e_conv, e_not, e_neg, and_guard, or_guard]
theorem cont_run {i : Nat} (hi : i ≤ ps.length) {B : Nat} (hb : aload false 1 (.pointer (some ⟨B, 0, none⟩)) (frzS t) = some (.int .i64 (i : Int))) {v : Value} {l : List En} (h : listOf enC v t = some l) (hll : l.length < 140737488355328) :
    (run Try.prog (libL libT) hints) 32 [v, .func (.func 33) #[] #[pN s0, .pointer (some ⟨B, 0, none⟩)]] t = some (.bool (l.any fun e => !wiE (rgI ps i) e.2), t) := by
  obtain ⟨r, k1, k2⟩ := idx_loop hx hlf hq hl hi hb h hll l 0 rfl (Nat.zero_le _)
  rw [show ((0 : Nat) : Int) = 0 from rfl] at k1
  have hr : ∀ n : Int, retV [.int .i64 n] t = some (.int .i64 n, t) := fun n => ret1 rfl
  have hidx : ∃ n : Int, (run Try.prog (libL libT) hints) 60 [v, .func (.func 33) #[] #[pN s0, .pointer (some ⟨B, 0, none⟩)]] t = some (.int .i64 n, t) ∧ decide (n ≥ 0) = l.any fun e => !wiE (rgI ps i) e.2 := by
    obtain ⟨e, X⟩ := r
    rcases k2 with ⟨g1, g2, m, g3⟩ | ⟨g1, g2⟩
    · simp only at g2 g3
      subst g2 g3
      refine ⟨(m : Int), slices_IndexFunc_api_Entry_api_Entry_of rfl ?_, by rw [g1]; simp⟩
      unfold slices_IndexFunc_api_Entry_api_Entry
      simp only [list_len h, k1, n_bind, n_map, getL_0, getL_1, getL_2, getL_3, getL_4, getL_5, getL_6, getL_7, getL_8, getL_9, getL_10, getL_11, getL_12, condV_t, condV_f, guardV_tt, guardV_ff, guardV_tf, guardV_ft, guardV_u, apick_t, apick_f, exV_exit, exV_ret, lookE_same, joinK_eq, seqA_n, seqA_e, seqA_r, e_add, e_sub, e_mul, e_eql, e_neq, e_lss, e_leq, e_gtr, e_geq, e_conv, e_not, e_neg, and_guard, or_guard, hr]
    · cases g2
      refine ⟨-1, slices_IndexFunc_api_Entry_api_Entry_of rfl ?_, by rw [g1]; rfl⟩
      unfold slices_IndexFunc_api_Entry_api_Entry
      simp only [list_len h, k1, n_bind, n_map, getL_0, getL_1, getL_2, getL_3, getL_4, getL_5, getL_6, getL_7, getL_8, getL_9, getL_10, getL_11, getL_12, condV_t, condV_f, guardV_tt, guardV_ff, guardV_tf, guardV_ft, guardV_u, apick_t, apick_f, exV_exit, exV_ret, lookE_same, joinK_eq, seqA_n, seqA_e, seqA_r, e_add, e_sub, e_mul, e_eql, e_neq, e_lss, e_leq, e_gtr, e_geq, e_conv, e_not, e_neg, and_guard, or_guard, hr]
  obtain ⟨n, n1, n2⟩ := hidx
  refine slices_ContainsFunc_api_Entry_api_Entry_of rfl ?_
  unfold slices_ContainsFunc_api_Entry_api_Entry
  simp only [slices_IndexFunc_api_Entry_api_Entry_call, n1, n2, n_bind, n_map, getL_0, getL_1, getL_2, getL_3, getL_4, getL_5, getL_6, getL_7, getL_8, getL_9, getL_10, getL_11, getL_12, condV_t, condV_f, guardV_tt, guardV_ff, guardV_tf, guardV_ft, guardV_u, apick_t, apick_f, exV_exit, exV_ret, lookE_same, joinK_eq, seqA_n, seqA_e, seqA_r, e_add, e_sub, e_mul, e_eql, e_neq, e_lss, e_leq, e_gtr, e_geq, e_conv, e_not, e_neg, and_guard, or_guard]
  exact ret1 rfl
end
def outF (ps : List BL) : Nat → List (List En) → Bool
  | _, [] => false
  | i, l :: r => (l.any fun e => !wiE (rgI ps i) e.2) || outF ps (i + 1) r
theorem new_i {t : St} (n : Int) : anew [.int .i64 0] t = some (.pointer (some ⟨t.heap.length, 0, none⟩), t.push (.row 0 [.int .i64 0] .act)) := rfl
theorem st_i {t : St} (n : Int) : astore 1 (.pointer (some ⟨t.heap.length, 0, none⟩)) (.int .i64 n) (t.push (.row 0 [.int .i64 0] .act)) = some (t.push (.row 0 [.int .i64 n] .act)) := by
  simp [astore, cellsV, isLeaf, writeN, St.push, putCells, St.putB, List.set_append_right]
theorem ld_i {t : St} (n : Int) : aload false 1 (.pointer (some ⟨t.heap.length, 0, none⟩)) (frzS (t.push (.row 0 [.int .i64 n] .act))) = some (.int .i64 n) := by
  simp only [aload, Bool.false_eq_true, if_false, readRow_frz]
  unfold Ab.readRow
  rw [push_get]
  rfl
theorem nb2_loop {s0 : St} {f : Bool} {p k q b : Value} (hlf : leafs p k q b) {ps : List BL} {bs : List (List En)} (hl : ps.length < 140737488355328) (hbp : bs.length ≤ ps.length + 1) : ∀ (rest : List (List En)) (i : Nat) (t : St), Ext (s0.heap.length + 1) (nSt s0 f p k q b) t → listOf strC q t = some ps → ListN (.list enN 88) 24 bs t b → bs.drop i = rest → i ≤ bs.length →
    ∃ t2, loopL (node_Check.b2 (run Try.prog (libL libT) hints)) [pN s0, b, .int .i64 ((bs.length : Nat) : Int), .int .i64 (i : Int)] t = (if outF ps i rest = true then some (.ret, [.int .i64 130], t2) else some (.exit 4, [], t2)) ∧ Ext t.heap.length t t2 := by
  intro rest
  induction rest with
  | nil =>
    intro i t hx hq h hi hle
    have h1 : decide ((i : Int) < ((bs.length : Nat) : Int)) = false := by
      have := List.drop_eq_nil_iff.1 hi
      simp; omega
    refine ⟨t, ?_, .refl _ _⟩
    rw [loopL_eq]
    simp only [node_Check.b2, h1, n_bind, n_map, getL_0, getL_1, getL_2, getL_3, getL_4, getL_5, getL_6, getL_7, getL_8, getL_9, getL_10, getL_11, getL_12, condV_t, condV_f, guardV_tt, guardV_ff, guardV_tf, guardV_ft, guardV_u, apick_t, apick_f, exV_exit, exV_ret, lookE_same, joinK_eq, seqA_n, seqA_e, seqA_r, e_add, e_sub, e_mul, e_eql, e_neq, e_lss, e_leq, e_gtr, e_geq, e_conv, e_not, e_neg, and_guard, or_guard, outF, Bool.false_eq_true, if_false]
  | cons x rest ih =>
    intro i t hx hq h hi hle
    obtain ⟨hlt, he, hd⟩ := drop_get hi
    have h1 : decide ((i : Int) < ((bs.length : Nat) : Int)) = true := by simp; omega
    obtain ⟨a, c, h2, h3, h4⟩ := listN_at rfl h hlt
    rw [he] at h4
    have hxp : Ext t.heap.length t (t.push (.row 0 [.int .i64 (i : Int)] .act)) := .push _ (Nat.le_refl _) _
    have hle2 : s0.heap.length + 1 ≤ t.heap.length := by
      have := hx.1
      unfold nSt at this
      rwa [push_len] at this
    have hx2 : Ext (s0.heap.length + 1) (nSt s0 f p k q b) (t.push (.row 0 [.int .i64 (i : Int)] .act)) := hx.trans (hxp.less hle2)
    have hq2 := list_ext hxp hq
    obtain ⟨g1, g2⟩ := row_plain h4
    have hc := cont_run hx2 hlf hq2 hl (i := i) (by omega) (ld_i (i : Int)) (list_ext hxp g1) g2
    have hmk : amkFunc 33 [] [pN s0, .pointer (some ⟨t.heap.length, 0, none⟩)] = some (.func (.func 33) #[] #[pN s0, .pointer (some ⟨t.heap.length, 0, none⟩)]) := rfl
    rcases Bool.eq_false_or_eq_true (x.any fun e => !wiE (rgI ps i) e.2) with c1 | c1
    · have ho : outF ps i (x :: rest) = true := by simp only [outF, c1, Bool.true_or]
      rw [c1] at hc
      refine ⟨_, ?_, hxp⟩
      rw [if_pos ho, loopL_eq]
      simp only [node_Check.b2, h1, h2, h3, new_i (i : Int), st_i, hmk, slices_ContainsFunc_api_Entry_api_Entry_call, hc, Bool.true_or, if_true, n_bind, n_map, getL_0, getL_1, getL_2, getL_3, getL_4, getL_5, getL_6, getL_7, getL_8, getL_9, getL_10, getL_11, getL_12, condV_t, condV_f, guardV_tt, guardV_ff, guardV_tf, guardV_ft, guardV_u, apick_t, apick_f, exV_exit, exV_ret, lookE_same, joinK_eq, seqA_n, seqA_e, seqA_r, e_add, e_sub, e_mul, e_eql, e_neq, e_lss, e_leq, e_gtr, e_geq, e_conv, e_not, e_neg, and_guard, or_guard]
    · have ho : outF ps i (x :: rest) = outF ps (i + 1) rest := by simp only [outF, c1, Bool.false_or]
      rw [c1] at hc
      obtain ⟨t2, k1, k2⟩ := ih (i + 1) _ hx2 hq2 (h.ext hxp) hd (by omega)
      refine ⟨t2, ?_, hxp.trans (k2.less hxp.1)⟩
      rw [ho, ← k1, loopL_eq]
      simp only [node_Check.b2, h1, h2, h3, new_i (i : Int), st_i, hmk, slices_ContainsFunc_api_Entry_api_Entry_call, hc, inc_i64 (show i < 140737488355328 by omega), n_bind, n_map, getL_0, getL_1, getL_2, getL_3, getL_4, getL_5, getL_6, getL_7, getL_8, getL_9, getL_10, getL_11, getL_12, condV_t, condV_f, guardV_tt, guardV_ff, guardV_tf, guardV_ft, guardV_u, apick_t, apick_f, exV_exit, exV_ret, lookE_same, joinK_eq, seqA_n, seqA_e, seqA_r, e_add, e_sub, e_mul, e_eql, e_neq, e_lss, e_leq, e_gtr, e_geq, e_conv, e_not, e_neg, and_guard, or_guard]

/-! ### Check -/
def mnK (n : Nd) : Int := match n.kids with
  | [] => 0
  | x :: r => mnL x r
def mxK (n : Nd) : Int := match n.kids with
  | [] => 0
  | x :: r => mxL x r
def bad5 (n : Nd) : Bool := ((((decide (((n.pairs.length : Nat) : Int) > 0) || decide (((n.kids.length : Nat) : Int) < 2)) || decide (((n.kids.length : Nat) : Int) > 8)) || (((n.pivots.length : Nat) : Int) != (IntKind.wrap .i64 (((n.kids.length : Nat) : Int) - 1)))) || (((n.bufs.length : Nat) : Int) != ((n.kids.length : Nat) : Int)))
def badN (n : Nd) : Bool := (bad5 n || decide (mnK n < 1)) || decide (mxK n > 2147483647)
def eNi (n : Nd) : Int := if okP none n.pivots = true then (if (firstE n.bufs == 0) = true then (if outF n.pivots 0 n.bufs = true then 130 else 0) else firstE n.bufs) else 130
def eN (n : Nd) : Int := if n.leaf = true then (if decide (((n.kids.length + n.pivots.length + n.bufs.length : Nat) : Int) > 0) = true then 130 else mapE [] n.pairs) else if badN n = true then 130 else eNi n

theorem listN_leaf {α : Type} {C : NCod α} {B : Nat} {l : List α} {s : St} {v : Value} (h : ListN C B l s v) : isLeaf v = true := by
  rcases h.2 with ⟨rfl, _⟩ | ⟨b, css, st, k, rfl, _⟩ <;> rfl
theorem nd_new {s0 : St} {f : Bool} {p k q b : Value} (h : leafs p k q b) : anew (cellsV (ndV f p k q b)) s0 = some (pN s0, nSt s0 f p k q b) := by
  obtain ⟨h1, h2, h3, h4⟩ := h
  unfold anew
  rw [if_pos (by simp only [ndV, cellsV, List.all_cons, h1, h2, h3, h4, List.all_nil]; rfl)]
  rfl
theorem nCheck_run {n : Nd} {s0 : St} {v : Value} (h : NArg nodeC n s0 v) : ∃ t, (run Try.prog (libL libT) hints) 12 [v] s0 = some (.int .i64 (eN n), t) ∧ Ext s0.heap.length s0 t := by
  obtain ⟨p, k, q, b, rfl, hp, hk, hq, hb⟩ := node_inv h
  have hlf : leafs p k q b := ⟨listN_leaf hp, listN_leaf hk, listN_leaf hq, listN_leaf hb⟩
  have hv : (.agg #[.bool n.leaf, p, k, q, b] : Value) = ndV n.leaf p k q b := rfl
  rw [hv]
  have hxp : Ext s0.heap.length s0 (nSt s0 n.leaf p k q b) := .push _ (Nat.le_refl _) _
  have hx : Ext (s0.heap.length + 1) (nSt s0 n.leaf p k q b) (nSt s0 n.leaf p k q b) := .refl _ _
  obtain ⟨p1, _, p2⟩ := (hp.ext hxp).plain
  obtain ⟨k1, _, k2⟩ := (hk.ext hxp).plain
  obtain ⟨q1, _, q2⟩ := (ListN.plain (C := strC) (Pr := fun k => k.length ≤ reachBytes) (hq.ext hxp))
  have b1 := hb.ext hxp
  have b2 : n.bufs.length * 24 ≤ 140737488351232 := hb.1
  have l0 := nd_ldH hx (i := 0) (c := .bool n.leaf) rfl
  have l1 := nd_ldH hx (i := 1) (c := p) rfl
  have l2 := nd_ldH hx (i := 2) (c := k) rfl
  have l3 := nd_ldH hx (i := 3) (c := q) rfl
  have l4 := nd_ldH hx (i := 4) (c := b) rfl
  have w1 : IntKind.wrap .i64 (((n.kids.length : Nat) : Int) + ((n.pivots.length : Nat) : Int)) = ((n.kids.length + n.pivots.length : Nat) : Int) := by rw [wrap_i64 (by omega) (by omega)]; omega
  have w2 : IntKind.wrap .i64 (((n.kids.length + n.pivots.length : Nat) : Int) + ((n.bufs.length : Nat) : Int)) = ((n.kids.length + n.pivots.length + n.bufs.length : Nat) : Int) := by rw [wrap_i64 (by omega) (by omega)]; omega
  have hr : ∀ (m : Int) s, retV [.int .i64 m] s = some (.int .i64 m, s) := fun m s => ret1 rfl
  have lb : ∀ e s, alenV (.slice e) b s = some (.int .i64 ((n.bufs.length : Nat) : Int)) := fun e s => listN_len hb
  rcases Bool.eq_false_or_eq_true n.leaf with c0 | c0
  · rcases Bool.eq_false_or_eq_true (decide (((n.kids.length + n.pivots.length + n.bufs.length : Nat) : Int) > 0)) with c1 | c1
    · have hN : eN n = 130 := by unfold eN; rw [if_pos c0, if_pos c1]
      rw [hN]
      refine ⟨_, node_Check_of rfl ?_, hxp⟩
      unfold node_Check
      replace l0 : aload false 1 (.pointer (some ⟨s0.heap.length, 0, none⟩)) (nSt s0 n.leaf p k q b) = some (.bool true) := l0.trans (by rw [c0])
      simp only [nd_new hlf, ad, l0, l2, l3, l4, list_len k1, list_len q1, lb, w1, w2, c1, hr, n_bind, n_map, getL_0, getL_1, getL_2, getL_3, getL_4, getL_5, getL_6, getL_7, getL_8, getL_9, getL_10, getL_11, getL_12, condV_t, condV_f, guardV_tt, guardV_ff, guardV_tf, guardV_ft, guardV_u, apick_t, apick_f, exV_exit, exV_ret, lookE_same, joinK_eq, seqA_n, seqA_e, seqA_r, e_add, e_sub, e_mul, e_eql, e_neq, e_lss, e_leq, e_gtr, e_geq, e_conv, e_not, e_neg, and_guard, or_guard]
    · have hN : eN n = mapE [] n.pairs := by unfold eN; rw [if_pos c0, if_neg (by rw [c1]; simp)]
      rw [hN]
      refine ⟨_, node_Check_of rfl ?_, hxp⟩
      unfold node_Check
      replace l0 : aload false 1 (.pointer (some ⟨s0.heap.length, 0, none⟩)) (nSt s0 n.leaf p k q b) = some (.bool true) := l0.trans (by rw [c0])
      simp only [nd_new hlf, ad, l0, l1, l2, l3, l4, list_len k1, list_len q1, lb, w1, w2, c1, op_CheckMap_call, k_map p1 (show n.pairs.length < 140737488355328 by omega), hr, n_bind, n_map, getL_0, getL_1, getL_2, getL_3, getL_4, getL_5, getL_6, getL_7, getL_8, getL_9, getL_10, getL_11, getL_12, condV_t, condV_f, guardV_tt, guardV_ff, guardV_tf, guardV_ft, guardV_u, apick_t, apick_f, exV_exit, exV_ret, lookE_same, joinK_eq, seqA_n, seqA_e, seqA_r, e_add, e_sub, e_mul, e_eql, e_neq, e_lss, e_leq, e_gtr, e_geq, e_conv, e_not, e_neg, and_guard, or_guard]
  · replace l0 : aload false 1 (.pointer (some ⟨s0.heap.length, 0, none⟩)) (nSt s0 n.leaf p k q b) = some (.bool false) := l0.trans (by rw [c0])
    have hc0 : ¬ n.leaf = true := by rw [c0]; simp
    have bad : badN n = true → (∃ t, (run Try.prog (libL libT) hints) 12 [ndV n.leaf p k q b] s0 = some (.int .i64 130, t) ∧ Ext s0.heap.length s0 t) → ∃ t, (run Try.prog (libL libT) hints) 12 [ndV n.leaf p k q b] s0 = some (.int .i64 (eN n), t) ∧ Ext s0.heap.length s0 t := fun h1 h2 => by
      have hN : eN n = 130 := by unfold eN; rw [if_neg hc0, if_pos h1]
      rwa [hN]
    rcases Bool.eq_false_or_eq_true (decide (((n.pairs.length : Nat) : Int) > 0)) with a1 | a1
    · refine bad (by simp only [badN, bad5, a1, Bool.true_or]) ⟨_, node_Check_of rfl ?_, hxp⟩
      unfold node_Check
      simp only [nd_new hlf, ad, l0, l1, l2, l3, l4, list_len p1, list_len k1, list_len q1, lb, a1, hr, n_bind, n_map, getL_0, getL_1, getL_2, getL_3, getL_4, getL_5, getL_6, getL_7, getL_8, getL_9, getL_10, getL_11, getL_12, condV_t, condV_f, guardV_tt, guardV_ff, guardV_tf, guardV_ft, guardV_u, apick_t, apick_f, exV_exit, exV_ret, lookE_same, joinK_eq, seqA_n, seqA_e, seqA_r, e_add, e_sub, e_mul, e_eql, e_neq, e_lss, e_leq, e_gtr, e_geq, e_conv, e_not, e_neg, and_guard, or_guard]
    rcases Bool.eq_false_or_eq_true (decide (((n.kids.length : Nat) : Int) < 2)) with a2 | a2
    · refine bad (by simp only [badN, bad5, a2, Bool.true_or, Bool.or_true]) ⟨_, node_Check_of rfl ?_, hxp⟩
      unfold node_Check
      simp only [nd_new hlf, ad, l0, l1, l2, l3, l4, list_len p1, list_len k1, list_len q1, lb, a1, a2, hr, n_bind, n_map, getL_0, getL_1, getL_2, getL_3, getL_4, getL_5, getL_6, getL_7, getL_8, getL_9, getL_10, getL_11, getL_12, condV_t, condV_f, guardV_tt, guardV_ff, guardV_tf, guardV_ft, guardV_u, apick_t, apick_f, exV_exit, exV_ret, lookE_same, joinK_eq, seqA_n, seqA_e, seqA_r, e_add, e_sub, e_mul, e_eql, e_neq, e_lss, e_leq, e_gtr, e_geq, e_conv, e_not, e_neg, and_guard, or_guard]
    rcases Bool.eq_false_or_eq_true (decide (((n.kids.length : Nat) : Int) > 8)) with a3 | a3
    · refine bad (by simp only [badN, bad5, a3, Bool.true_or, Bool.or_true]) ⟨_, node_Check_of rfl ?_, hxp⟩
      unfold node_Check
      simp only [nd_new hlf, ad, l0, l1, l2, l3, l4, list_len p1, list_len k1, list_len q1, lb, a1, a2, a3, hr, n_bind, n_map, getL_0, getL_1, getL_2, getL_3, getL_4, getL_5, getL_6, getL_7, getL_8, getL_9, getL_10, getL_11, getL_12, condV_t, condV_f, guardV_tt, guardV_ff, guardV_tf, guardV_ft, guardV_u, apick_t, apick_f, exV_exit, exV_ret, lookE_same, joinK_eq, seqA_n, seqA_e, seqA_r, e_add, e_sub, e_mul, e_eql, e_neq, e_lss, e_leq, e_gtr, e_geq, e_conv, e_not, e_neg, and_guard, or_guard]
    rcases Bool.eq_false_or_eq_true (((n.pivots.length : Nat) : Int) != (IntKind.wrap .i64 (((n.kids.length : Nat) : Int) - 1))) with a4 | a4
    · refine bad (by simp only [badN, bad5, a4, Bool.true_or, Bool.or_true]) ⟨_, node_Check_of rfl ?_, hxp⟩
      unfold node_Check
      simp only [nd_new hlf, ad, l0, l1, l2, l3, l4, list_len p1, list_len k1, list_len q1, lb, a1, a2, a3, a4, hr, n_bind, n_map, getL_0, getL_1, getL_2, getL_3, getL_4, getL_5, getL_6, getL_7, getL_8, getL_9, getL_10, getL_11, getL_12, condV_t, condV_f, guardV_tt, guardV_ff, guardV_tf, guardV_ft, guardV_u, apick_t, apick_f, exV_exit, exV_ret, lookE_same, joinK_eq, seqA_n, seqA_e, seqA_r, e_add, e_sub, e_mul, e_eql, e_neq, e_lss, e_leq, e_gtr, e_geq, e_conv, e_not, e_neg, and_guard, or_guard]
    rcases Bool.eq_false_or_eq_true (((n.bufs.length : Nat) : Int) != ((n.kids.length : Nat) : Int)) with a5 | a5
    · refine bad (by simp only [badN, bad5, a5, Bool.true_or, Bool.or_true]) ⟨_, node_Check_of rfl ?_, hxp⟩
      unfold node_Check
      simp only [nd_new hlf, ad, l0, l1, l2, l3, l4, list_len p1, list_len k1, list_len q1, lb, a1, a2, a3, a4, a5, hr, n_bind, n_map, getL_0, getL_1, getL_2, getL_3, getL_4, getL_5, getL_6, getL_7, getL_8, getL_9, getL_10, getL_11, getL_12, condV_t, condV_f, guardV_tt, guardV_ff, guardV_tf, guardV_ft, guardV_u, apick_t, apick_f, exV_exit, exV_ret, lookE_same, joinK_eq, seqA_n, seqA_e, seqA_r, e_add, e_sub, e_mul, e_eql, e_neq, e_lss, e_leq, e_gtr, e_geq, e_conv, e_not, e_neg, and_guard, or_guard]
    obtain ⟨x, r, hkid⟩ : ∃ x r, n.kids = x :: r := by
      cases hh : n.kids with
      | nil => rw [hh] at a2; simp at a2
      | cons x r => exact ⟨x, r, rfl⟩
    have hmn : mnK n = mnL x r := by unfold mnK; rw [hkid]
    have hmx : mxK n = mxL x r := by unfold mxK; rw [hkid]
    have kmin := slices_Min_int_int_of (lib := libL libT) rfl (slices_Min_int_int_run (R := (run Try.prog (libL libT) hints)) hkid k1 (by omega))
    have kmax := slices_Max_int_int_of (lib := libL libT) rfl (slices_Max_int_int_run (R := (run Try.prog (libL libT) hints)) hkid k1 (by omega))
    rcases Bool.eq_false_or_eq_true (decide (mnL x r < 1)) with a6 | a6
    · refine bad (by simp only [badN, hmn, a6, Bool.true_or, Bool.or_true]) ⟨_, node_Check_of rfl ?_, hxp⟩
      unfold node_Check
      simp only [nd_new hlf, ad, l0, l1, l2, l3, l4, list_len p1, list_len k1, list_len q1, lb, a1, a2, a3, a4, a5, slices_Min_int_int_call, kmin, a6, hr, n_bind, n_map, getL_0, getL_1, getL_2, getL_3, getL_4, getL_5, getL_6, getL_7, getL_8, getL_9, getL_10, getL_11, getL_12, condV_t, condV_f, guardV_tt, guardV_ff, guardV_tf, guardV_ft, guardV_u, apick_t, apick_f, exV_exit, exV_ret, lookE_same, joinK_eq, seqA_n, seqA_e, seqA_r, e_add, e_sub, e_mul, e_eql, e_neq, e_lss, e_leq, e_gtr, e_geq, e_conv, e_not, e_neg, and_guard, or_guard]
    rcases Bool.eq_false_or_eq_true (decide (mxL x r > 2147483647)) with a7 | a7
    · refine bad (by simp only [badN, hmx, a7, Bool.true_or, Bool.or_true]) ⟨_, node_Check_of rfl ?_, hxp⟩
      unfold node_Check
      simp only [nd_new hlf, ad, l0, l1, l2, l3, l4, list_len p1, list_len k1, list_len q1, lb, a1, a2, a3, a4, a5, slices_Min_int_int_call, kmin, a6, slices_Max_int_int_call, kmax, a7, hr, n_bind, n_map, getL_0, getL_1, getL_2, getL_3, getL_4, getL_5, getL_6, getL_7, getL_8, getL_9, getL_10, getL_11, getL_12, condV_t, condV_f, guardV_tt, guardV_ff, guardV_tf, guardV_ft, guardV_u, apick_t, apick_f, exV_exit, exV_ret, lookE_same, joinK_eq, seqA_n, seqA_e, seqA_r, e_add, e_sub, e_mul, e_eql, e_neq, e_lss, e_leq, e_gtr, e_geq, e_conv, e_not, e_neg, and_guard, or_guard]
    have hgood : eN n = eNi n := by
      unfold eN
      rw [if_neg hc0, if_neg (by simp only [badN, bad5, a1, a2, a3, a4, a5, hmn, a6, hmx, a7]; simp)]
    rw [hgood]
    have key0 := nb0_loop hx q1 (by omega) n.pivots 0 rfl (Nat.zero_le _)
    have key1 := nb1_loop (P0 := pN s0) b1 n.bufs 0 rfl (Nat.zero_le _)
    rw [show ((0 : Nat) : Int) = 0 from rfl] at key0 key1
    have hbp : n.bufs.length ≤ n.pivots.length + 1 := by
      have w3 : IntKind.wrap .i64 (((n.kids.length : Nat) : Int) - 1) = ((n.kids.length : Nat) : Int) - 1 := wrap_i64 (by omega) (by omega)
      rw [w3] at a4
      simp at a4 a5
      omega
    obtain ⟨t2, key2, hx2⟩ := nb2_loop (f := n.leaf) hlf (by omega) hbp n.bufs 0 (nSt s0 n.leaf p k q b) hx q1 b1 rfl (Nat.zero_le _)
    rw [show ((0 : Nat) : Int) = 0 from rfl] at key2
    have hxt : Ext s0.heap.length s0 t2 := hxp.trans (hx2.less hxp.1)
    unfold eNi
    have hprev : okP (prevS n.pivots 0) n.pivots = okP none n.pivots := rfl
    by_cases d1 : okP none n.pivots = true
    · rw [if_pos d1]
      rw [if_pos (by rw [hprev]; exact d1)] at key0
      by_cases d2 : (firstE n.bufs == 0) = true
      · rw [if_pos d2]
        rw [if_pos d2] at key1
        by_cases d3 : outF n.pivots 0 n.bufs = true
        · rw [if_pos d3]
          rw [if_pos d3] at key2
          refine ⟨t2, node_Check_of rfl ?_, hxt⟩
          unfold node_Check
          simp only [nd_new hlf, ad, l0, l1, l2, l3, l4, list_len p1, list_len k1, list_len q1, lb, a1, a2, a3, a4, a5, slices_Min_int_int_call, kmin, a6, slices_Max_int_int_call, kmax, a7, key0, key1, key2, hr, n_bind, n_map, getL_0, getL_1, getL_2, getL_3, getL_4, getL_5, getL_6, getL_7, getL_8, getL_9, getL_10, getL_11, getL_12, condV_t, condV_f, guardV_tt, guardV_ff, guardV_tf, guardV_ft, guardV_u, apick_t, apick_f, exV_exit, exV_ret, lookE_same, joinK_eq, seqA_n, seqA_e, seqA_r, e_add, e_sub, e_mul, e_eql, e_neq, e_lss, e_leq, e_gtr, e_geq, e_conv, e_not, e_neg, and_guard, or_guard]
        · rw [if_neg d3]
          rw [if_neg d3] at key2
          refine ⟨t2, node_Check_of rfl ?_, hxt⟩
          unfold node_Check
          simp only [nd_new hlf, ad, l0, l1, l2, l3, l4, list_len p1, list_len k1, list_len q1, lb, a1, a2, a3, a4, a5, slices_Min_int_int_call, kmin, a6, slices_Max_int_int_call, kmax, a7, key0, key1, key2, hr, n_bind, n_map, getL_0, getL_1, getL_2, getL_3, getL_4, getL_5, getL_6, getL_7, getL_8, getL_9, getL_10, getL_11, getL_12, condV_t, condV_f, guardV_tt, guardV_ff, guardV_tf, guardV_ft, guardV_u, apick_t, apick_f, exV_exit, exV_ret, lookE_same, joinK_eq, seqA_n, seqA_e, seqA_r, e_add, e_sub, e_mul, e_eql, e_neq, e_lss, e_leq, e_gtr, e_geq, e_conv, e_not, e_neg, and_guard, or_guard]
      · rw [if_neg d2]
        rw [if_neg d2] at key1
        refine ⟨_, node_Check_of rfl ?_, hxp⟩
        unfold node_Check
        simp only [nd_new hlf, ad, l0, l1, l2, l3, l4, list_len p1, list_len k1, list_len q1, lb, a1, a2, a3, a4, a5, slices_Min_int_int_call, kmin, a6, slices_Max_int_int_call, kmax, a7, key0, key1, hr, n_bind, n_map, getL_0, getL_1, getL_2, getL_3, getL_4, getL_5, getL_6, getL_7, getL_8, getL_9, getL_10, getL_11, getL_12, condV_t, condV_f, guardV_tt, guardV_ff, guardV_tf, guardV_ft, guardV_u, apick_t, apick_f, exV_exit, exV_ret, lookE_same, joinK_eq, seqA_n, seqA_e, seqA_r, e_add, e_sub, e_mul, e_eql, e_neq, e_lss, e_leq, e_gtr, e_geq, e_conv, e_not, e_neg, and_guard, or_guard]
    · rw [if_neg d1]
      rw [if_neg (by rw [hprev]; exact d1)] at key0
      refine ⟨_, node_Check_of rfl ?_, hxp⟩
      unfold node_Check
      simp only [nd_new hlf, ad, l0, l1, l2, l3, l4, list_len p1, list_len k1, list_len q1, lb, a1, a2, a3, a4, a5, slices_Min_int_int_call, kmin, a6, slices_Max_int_int_call, kmax, a7, key0, hr, n_bind, n_map, getL_0, getL_1, getL_2, getL_3, getL_4, getL_5, getL_6, getL_7, getL_8, getL_9, getL_10, getL_11, getL_12, condV_t, condV_f, guardV_tt, guardV_ff, guardV_tf, guardV_ft, guardV_u, apick_t, apick_f, exV_exit, exV_ret, lookE_same, joinK_eq, seqA_n, seqA_e, seqA_r, e_add, e_sub, e_mul, e_eql, e_neq, e_lss, e_leq, e_gtr, e_geq, e_conv, e_not, e_neg, and_guard, or_guard]

/-! ### Child -/
theorem n_leq {a b : BL} {t : TypeId} {ox oy : Operand} : abin Try.prog .leq t ox oy (sv a) (sv b) = some (.bool (!bl b a)) := by
  rw [e_sleq]
  have : (Op.bytesLess a b || a == b) = !bl b a := by
    cases h : bl b a with
    | true =>
      have h1 : bl a b = false := bl_asymm h
      have h2 : (a == b) = false := by
        cases e : a == b with
        | false => rfl
        | true =>
          have : a = b := by simpa using e
          subst this
          rw [h] at h1; cases h1
      show (bl a b || a == b) = !true
      rw [h1, h2]; rfl
    | false =>
      show (bl a b || a == b) = !false
      cases h1 : bl a b with
      | true => rfl
      | false =>
        have : a = b := Classical.byContradiction fun e => by
          rcases bl_total e with g | g
          · rw [h1] at g; cases g
          · rw [h] at g; cases g
        simp [this]
  rw [this]
def cntL (key : BL) : List BL → Nat
  | [] => 0
  | x :: l => (if bl key x = true then 0 else 1) + cntL key l
theorem child_loop {R : Caller} {q : Value} {s : St} {ps : List BL} (h : listOf strC q s = some ps) (hl : ps.length < 140737488355328) (key : BL) : ∀ (rest : List BL) (i c : Nat), ps.drop i = rest → i ≤ ps.length → c ≤ i →
    loopL (node_Child.b0 R) [sv key, .int .i64 (c : Int), q, .int .i64 ((ps.length : Nat) : Int), .int .i64 (i : Int)] s = some (.exit 0, [.int .i64 ((c + cntL key rest : Nat) : Int)], s) := by
  intro rest
  induction rest with
  | nil =>
    intro i c hi hle hc
    have h1 : decide ((i : Int) < ((ps.length : Nat) : Int)) = false := by
      have := List.drop_eq_nil_iff.1 hi
      simp; omega
    rw [loopL_eq]
    simp only [node_Child.b0, h1, cntL, Nat.add_zero, n_bind, n_map, getL_0, getL_1, getL_2, getL_3, getL_4, getL_5, getL_6, getL_7, getL_8, getL_9, getL_10, getL_11, getL_12, condV_t, condV_f, guardV_tt, guardV_ff, guardV_tf, guardV_ft, guardV_u, apick_t, apick_f, exV_exit, exV_ret, lookE_same, joinK_eq, seqA_n, seqA_e, seqA_r, e_add, e_sub, e_mul, e_eql, e_neq, e_lss, e_leq, e_gtr, e_geq, e_conv, e_not, e_neg, and_guard, or_guard]
  | cons x rest ih =>
    intro i c hi hle hc
    obtain ⟨hlt, he, hd⟩ := drop_get hi
    have h1 : decide ((i : Int) < ((ps.length : Nat) : Int)) = true := by simp; omega
    obtain ⟨a, h2, h3⟩ := str_at h hlt
    rw [he] at h3
    rw [loopL_eq]
    rcases Bool.eq_false_or_eq_true (bl key x) with c1 | c1
    · have := ih (i + 1) c hd (by omega) (by omega)
      simp only [node_Child.b0, h1, h2, h3, n_leq, c1, Bool.not_true, node_Child.j0, inc_i64 (show i < 140737488355328 by omega), cntL, if_true, Nat.zero_add, n_bind, n_map, getL_0, getL_1, getL_2, getL_3, getL_4, getL_5, getL_6, getL_7, getL_8, getL_9, getL_10, getL_11, getL_12, condV_t, condV_f, guardV_tt, guardV_ff, guardV_tf, guardV_ft, guardV_u, apick_t, apick_f, exV_exit, exV_ret, lookE_same, joinK_eq, seqA_n, seqA_e, seqA_r, e_add, e_sub, e_mul, e_eql, e_neq, e_lss, e_leq, e_gtr, e_geq, e_conv, e_not, e_neg, and_guard, or_guard]
      exact this
    · have := ih (i + 1) (c + 1) hd (by omega) (by omega)
      simp only [node_Child.b0, h1, h2, h3, n_leq, c1, Bool.not_false, node_Child.j0, inc_i64 (show i < 140737488355328 by omega), inc_i64 (show c < 140737488355328 by omega), cntL, Bool.false_eq_true, if_false, n_bind, n_map, getL_0, getL_1, getL_2, getL_3, getL_4, getL_5, getL_6, getL_7, getL_8, getL_9, getL_10, getL_11, getL_12, condV_t, condV_f, guardV_tt, guardV_ff, guardV_tf, guardV_ft, guardV_u, apick_t, apick_f, exV_exit, exV_ret, lookE_same, joinK_eq, seqA_n, seqA_e, seqA_r, e_add, e_sub, e_mul, e_eql, e_neq, e_lss, e_leq, e_gtr, e_geq, e_conv, e_not, e_neg, and_guard, or_guard]
      rw [show c + (1 + cntL key rest) = c + 1 + cntL key rest by omega]
      exact this
theorem Child_run {R : Caller} {p k q b : Value} {s : St} (hlf : leafs p k q b) {ps : List BL} (h : listOf strC q s = some ps) (hl : ps.length < 140737488355328) (key : BL) : node_Child R (ndV false p k q b) (sv key) s = some (.int .i64 ((cntL key ps : Nat) : Int), s) := by
  have key0 := child_loop (R := R) h hl key ps 0 0 rfl (Nat.zero_le _) (Nat.le_refl _)
  rw [show ((0 : Nat) : Int) = 0 from rfl, Nat.zero_add] at key0
  have l0 : lload false 1 lptr (ndV false p k q b) = some (.bool false) := rfl
  have l3 := nd_3 false p k q b hlf.2.2.1
  unfold node_Child
  simp only [nd_box false p k q b hlf, l0, l3, list_len h, key0, n_bind, n_map, getL_0, getL_1, getL_2, getL_3, getL_4, getL_5, getL_6, getL_7, getL_8, getL_9, getL_10, getL_11, getL_12, condV_t, condV_f, guardV_tt, guardV_ff, guardV_tf, guardV_ft, guardV_u, apick_t, apick_f, exV_exit, exV_ret, lookE_same, joinK_eq, seqA_n, seqA_e, seqA_r, e_add, e_sub, e_mul, e_eql, e_neq, e_lss, e_leq, e_gtr, e_geq, e_conv, e_not, e_neg, and_guard, or_guard]
  exact ret1 rfl
theorem cnt_le {key : BL} : ∀ {l : List BL}, cntL key l ≤ l.length
  | [] => Nat.le_refl _
  | x :: l => by
    have := cnt_le (key := key) (l := l)
    simp only [cntL, List.length_cons]
    split <;> omega
/-- in ordered pivots: those that are not above the key come first -/
theorem cnt_cut {key : BL} : ∀ {l : List BL} {p : Option BL}, okP p l = true → (∀ (i : Nat) (hi : i < l.length), i < cntL key l → bl key l[i] = false) ∧ (∀ (hi : cntL key l < l.length), bl key l[cntL key l] = true)
  | [], _, _ => ⟨fun i hi => by simp at hi, fun hi => by simp [cntL] at hi⟩
  | x :: l, p, h => by
    have h2 : okP (some x) l = true := by
      rw [okP_cons] at h
      simp only [Bool.and_eq_true] at h
      exact h.2
    obtain ⟨g1, g2⟩ := cnt_cut (key := key) h2
    rcases Bool.eq_false_or_eq_true (bl key x) with c | c
    · -- all are above
      have all : ∀ {l : List BL} {x : BL}, okP (some x) l = true → bl key x = true → cntL key l = 0 := by
        intro l
        induction l with
        | nil => intro x _ _; rfl
        | cons y l ih =>
          intro x hx hk
          rw [okP_cons] at hx
          simp only [Bool.and_eq_true] at hx
          have hy : bl key y = true := bl_trans hk hx.1.2
          simp only [cntL, hy, if_true, Nat.zero_add]
          exact ih hx.2 hy
      have hz : cntL key (x :: l) = 0 := by
        simp only [cntL, c, if_true, Nat.zero_add]
        exact all h2 c
      rw [hz]
      refine ⟨fun i _ hi => absurd hi (by omega), fun hi => by simpa using c⟩
    · have hz : cntL key (x :: l) = cntL key l + 1 := by
        simp only [cntL, c, Bool.false_eq_true, if_false]
        omega
      rw [hz]
      refine ⟨fun i hi hi2 => ?_, fun hi => ?_⟩
      · cases i with
        | zero => simpa using c
        | succ i =>
          simp only [List.getElem_cons_succ]
          exact g1 i (by simpa using hi) (by omega)
      · simp only [List.getElem_cons_succ]
        exact g2 (by simpa using hi)

end Go.Proofs.Ytamaapapaiopiaa.Ab

/- Lists of one's own that are written into, shortened, made longer. -/
namespace Go.Proofs.Ytamaapapaiopiaa.Ab
open Go

def blkOf : Value → Option Nat
  | .slice (some a) _ _ => some a.block
  | _ => none
/-- nothing has changed but in one block -/
def Keep (B : Option Nat) (s t : St) : Prop := s.heap.length ≤ t.heap.length ∧ ∀ c, c < s.heap.length → B ≠ some c → t.heap[c]? = s.heap[c]?
def Fresh (s : St) (v v' : Value) : Prop := blkOf v' = blkOf v ∨ ∀ c, blkOf v' = some c → s.heap.length ≤ c
theorem Keep.refl (B : Option Nat) (s : St) : Keep B s s := ⟨Nat.le_refl _, fun _ _ _ => rfl⟩
theorem Keep.ext {N : Nat} {v : Value} {s t : St} (h : Keep (blkOf v) s t) (hN : N ≤ s.heap.length) (hb : ∀ c, blkOf v = some c → N ≤ c) : Ext N s t :=
  ⟨h.1, fun c hc => h.2 c (by omega) fun e => by have := hb c e; omega⟩
theorem Ext.keep {B : Option Nat} {s t : St} (h : Ext s.heap.length s t) : Keep B s t := ⟨h.1, fun c hc _ => h.2 c hc⟩
theorem putB_get {s : St} {b : Nat} {B : Blk} (h : b < s.heap.length) : (s.putB b B).heap[b]? = some B := by
  simp only [St.putB]
  rw [List.getElem?_set_self h]
theorem putB_same {s : St} {b : Nat} {B : Blk} (h : s.heap[b]? = some B) : s.putB b B = s := by
  obtain ⟨hlt, e⟩ := List.getElem?_eq_some_iff.1 h
  cases s
  simp only [St.putB, St.mk.injEq] at *
  rw [← e, List.set_getElem_self]
theorem putB_keep {s : St} {b : Nat} {B : Blk} : Keep (some b) s (s.putB b B) := ⟨by simp [St.putB], fun c _ hc => by
  simp only [St.putB]
  rw [List.getElem?_set_ne (fun e => hc (by rw [e]))]⟩
theorem Keep.trans {B : Option Nat} {s t u : St} (h : Keep B s t) (g : Keep B t u) : Keep B s u := ⟨Nat.le_trans h.1 g.1, fun c hc hB => (g.2 c (Nat.lt_of_lt_of_le hc h.1) hB).trans (h.2 c hc hB)⟩
/-- a list that lies elsewhere -/
theorem Keep.list {α : Type} {C : Cod α} {B : Option Nat} {s t : St} (h : Keep B s t) {v : Value} {l : List α} (hv : listOf C v s = some l) (hb : ∀ c, blkOf v = some c → B ≠ some c) : listOf C v t = some l := by
  refine (listOf_iff C).2 ?_
  have hc := (listOf_iff C).1 hv
  unfold cellsOf at hc ⊢
  split at hc
  · exact hc
  · rename_i b o len cap
    split at hc
    case isFalse => cases hc
    rename_i hlc
    rw [if_pos hlc]
    unfold readN at hc ⊢
    cases hr : Ab.readRow s b with
    | none => rw [hr] at hc; cases hc
    | some row =>
      have hlt := readRow_lt hr
      have : Ab.readRow t b = Ab.readRow s b := by
        unfold Ab.readRow
        rw [h.2 b hlt (hb b rfl)]
      rw [this]; exact hc
  · cases hc

section
variable {α : Type} {C : Cod α}
theorem OwnC.blk {N : Nat} {s : St} {v : Value} {l : List α} (h : OwnC C N s v l) : ∀ c, blkOf v = some c → N ≤ c ∧ c < s.heap.length := by
  intro c hc
  rcases h with ⟨rfl, _⟩ | ⟨b, cap, rest, rfl, h1, h2, _⟩
  · cases hc
  · cases hc
    exact ⟨h1, (List.getElem?_eq_some_iff.1 h2).1⟩
theorem OwnC.mono {N M : Nat} {s : St} {v : Value} {l : List α} (h : OwnC C N s v l) (hM : M ≤ N) : OwnC C M s v l := by
  rcases h with h | ⟨b, cap, rest, e, h1, h2⟩
  · exact .inl h
  · exact .inr ⟨b, cap, rest, e, by omega, h2⟩
theorem OwnC.keep {N : Nat} {B : Option Nat} {s t : St} {v : Value} {l : List α} (h : OwnC C N s v l) (k : Keep B s t) (hb : ∀ c, blkOf v = some c → B ≠ some c) : OwnC C N t v l := by
  rcases h with h | ⟨b, cap, rest, rfl, h1, h2, h3⟩
  · exact .inl h
  · exact .inr ⟨b, cap, rest, rfl, h1, by rw [k.2 b (List.getElem?_eq_some_iff.1 h2).1 (hb b rfl)]; exact h2, h3⟩
theorem OwnC.notup {N : Nat} {s : St} {v : Value} {l : List α} (h : OwnC C N s v l) : noTup v = true := by
  rcases h with ⟨rfl, _⟩ | ⟨b, cap, rest, rfl, _⟩ <;> rfl

theorem room_mono {q p w : Nat} (h : q ≤ p) (hr : roomA p w) : roomA q w := by
  rcases hr with g | g
  · exact .inl (Nat.le_trans (Nat.mul_le_mul_right _ h) g)
  · exact .inr (Nat.le_trans (Nat.mul_le_mul_right _ (by omega)) g)
theorem rep_all {z : List Value} (h : z.all leafOk = true) : ∀ n, (repCells z n).all leafOk = true
  | 0 => rfl
  | n + 1 => by rw [repCells, List.all_append, h, rep_all h n]; rfl
theorem rep_len (z : List Value) : ∀ n, (repCells z n).length = n * z.length
  | 0 => by simp [repCells]
  | n + 1 => by rw [repCells, List.length_append, rep_len z n, Nat.add_mul]; omega

/-- some are taken out -/
theorem ownC_del {N w : Nat} {s : St} {v : Value} {l : List α} (h : OwnC C N s v l) {i j : Nat} (hij : i < j) (hj : j ≤ l.length) (hw : 0 < w) (hb : roomA l.length w) {z : List Value} (hz : z.length = C.n) (hzl : z.all leafOk = true) {n : Nat} (hn : n = C.n) :
    ∃ v4 v5 v6 v8 s2 t, asliceV n v none (some (.int .i64 (i : Int))) none = some v4 ∧ asliceV n v (some (.int .i64 (j : Int))) none none = some v5 ∧ aappend n w v4 v5 s = some (v6, s2) ∧ s.heap.length ≤ s2.heap.length ∧
      (∀ e, alenV (.slice e) v6 s2 = some (.int .i64 ((i + (l.length - j) : Nat) : Int))) ∧ asliceV n v6 (some (.int .i64 ((i + (l.length - j) : Nat) : Int))) (some (.int .i64 ((l.length : Nat) : Int))) none = some v8 ∧ aclear n z v8 s2 = some t ∧
      OwnC C N t v6 (l.take i ++ l.drop j) ∧ Keep (blkOf v) s t ∧ blkOf v6 = blkOf v := by
  subst hn
  rcases h with ⟨_, rfl⟩ | ⟨b, cap, rest, rfl, h1, h2, h3, h4⟩
  · simp at hj; omega
  have hle : l.length ≤ cap := OwnC.cap_le (N := N) (s := s) (b := b) (len := l.length) h3
  have hpos := C.pos
  have m1 : i * C.n ≤ l.length * C.n := Nat.mul_le_mul_right _ (by omega)
  have m2 : j * C.n ≤ l.length * C.n := Nat.mul_le_mul_right _ hj
  have m3 : (i + (l.length - j)) * C.n = i * C.n + (l.length * C.n - j * C.n) := by rw [Nat.add_mul, Nat.sub_mul]
  have m4 : i * C.n + C.n ≤ j * C.n := by rw [← Nat.succ_mul]; exact Nat.mul_le_mul_right _ hij
  have m5 : (l.length - j) * C.n = l.length * C.n - j * C.n := Nat.sub_mul _ _ _
  have m6 : (j - i) * C.n = j * C.n - i * C.n := Nat.sub_mul _ _ _
  have hll : (encL C l).length = l.length * C.n := encL_len C l
  have hbl : b < s.heap.length := (List.getElem?_eq_some_iff.1 h2).1
  -- the parts
  have e4 : asliceV C.n (.slice (some ⟨b, 0, none⟩) l.length cap) none (some (.int .i64 (i : Int))) none = some (.slice (some ⟨b, 0, none⟩) i cap) := by
    simp only [asliceV, asliceSl, abound, Int.toNat_natCast, Option.isNone_none, Bool.true_or, if_true, Option.bind_some]
    rw [if_pos (by omega)]
    simp only [Option.bind_some]
    rw [if_pos (by omega)]
    simp [cutRow]
  have e5 : asliceV C.n (.slice (some ⟨b, 0, none⟩) l.length cap) (some (.int .i64 (j : Int))) none none = some (.slice (some ⟨b, j * C.n, none⟩) (l.length - j) (cap - j)) := by
    simp only [asliceV, asliceSl, abound, Int.toNat_natCast, Option.isNone_none, Bool.true_or, if_true, Option.bind_some]
    rw [if_pos (by omega)]
    simp only [Option.bind_some]
    rw [if_pos (by omega)]
    simp [cutRow]
  have hread : elemsOf C.n (.slice (some ⟨b, j * C.n, none⟩) (l.length - j) (cap - j)) s = some (encL C (l.drop j)) := by
    show readN s b (j * C.n) ((l.length - j) * C.n) = _
    unfold readN Ab.readRow
    rw [h2]
    simp only [Option.bind_some]
    rw [if_pos (by rw [List.length_append]; omega)]
    congr 1
    rw [List.drop_append_of_le_length (by omega), encL_drop, List.take_append_of_le_length (by rw [encL_len, List.length_drop]; omega), List.take_of_length_le (by rw [encL_len, List.length_drop]; omega)]
  have hdl : (encL C (l.drop j)).length = (l.length - j) * C.n := by rw [encL_len, List.length_drop]
  -- in its place
  have hput : ∃ r2 : List Value, (encL C (l.take i) ++ encL C (l.drop j) ++ r2).length = cap * C.n ∧ r2.all leafOk = true ∧ (j - i) * C.n ≤ r2.length ∧ aappend C.n w (.slice (some ⟨b, 0, none⟩) i cap) (.slice (some ⟨b, j * C.n, none⟩) (l.length - j) (cap - j)) s = some (.slice (some ⟨b, 0, none⟩) (i + (l.length - j)) cap, s.putB b (.row C.n (encL C (l.take i) ++ encL C (l.drop j) ++ r2) .act)) := by
    refine ⟨(encL C l ++ rest).drop (i * C.n + (l.length - j) * C.n), ?_, ?_, ?_, ?_⟩
    · rw [← encL_append, List.length_append, encL_len, List.length_append, List.length_take, List.length_drop, List.length_drop, h3, show min i l.length = i by omega, m3]
      rw [List.length_append] at h3
      omega
    · rw [List.all_eq_true]
      intro x hx
      have := List.mem_of_mem_drop hx
      rcases List.mem_append.1 this with g | g
      · exact List.all_eq_true.1 (encL_leaf C l) x g
      · exact List.all_eq_true.1 h4 x g
    · rw [List.length_drop, h3]
      rw [List.length_append] at h3
      omega
    · unfold aappend
      rw [if_pos hw]
      simp only [lenV, Option.bind_some, hread]
      have hroom : roomA (i + (l.length - j)) w := room_mono (by omega) hb
      rw [if_pos hroom, if_pos (by omega)]
      have hrow : encL C l ++ rest = encL C (l.take i) ++ (encL C l ++ rest).drop (i * C.n) := by
        conv => lhs; rw [← List.take_append_drop (i * C.n) (encL C l ++ rest)]
        rw [List.take_append_of_le_length (by omega), encL_take]
      by_cases hm : l.length - j = 0
      · rw [if_pos hm, hm]
        have hd : l.drop j = [] := List.drop_eq_nil_of_le (by omega)
        rw [hd, encL_nil, List.append_nil, Nat.zero_mul, Nat.add_zero, Nat.add_zero, ← hrow]
        rw [putB_same h2]
      · rw [if_neg hm]
        unfold writeN
        rw [h2]
        simp only [Nat.zero_add]
        rw [if_pos (by rw [hdl, List.length_append]; omega)]
        simp only [Option.map_some]
        congr 3
        unfold putCells
        rw [List.take_append_of_le_length (by omega), encL_take, hdl]
  obtain ⟨r2, g1, g2, g3, g4⟩ := hput
  have e8 : asliceV C.n (.slice (some ⟨b, 0, none⟩) (i + (l.length - j)) cap) (some (.int .i64 ((i + (l.length - j) : Nat) : Int))) (some (.int .i64 ((l.length : Nat) : Int))) none = some (.slice (some ⟨b, (i + (l.length - j)) * C.n, none⟩) (j - i) (cap - (i + (l.length - j)))) := by
    simp only [asliceV, asliceSl, abound, Int.toNat_natCast, Option.isNone_none, Bool.true_or, if_true, Option.bind_some]
    rw [if_pos (by omega), if_pos (by omega)]
    simp only [Option.bind_some]
    rw [if_pos (by omega)]
    simp only [cutRow, Nat.zero_add]
    rw [show l.length - (i + (l.length - j)) = j - i by omega]
  have hb2 : (s.putB b (.row C.n (encL C (l.take i) ++ encL C (l.drop j) ++ r2) .act)).heap[b]? = some (.row C.n (encL C (l.take i) ++ encL C (l.drop j) ++ r2) .act) := putB_get hbl
  have htl : (encL C (l.take i) ++ encL C (l.drop j)).length = (i + (l.length - j)) * C.n := by
    rw [← encL_append, encL_len, List.length_append, List.length_take, List.length_drop, show min i l.length = i by omega]
  have hclr : aclear C.n z (.slice (some ⟨b, (i + (l.length - j)) * C.n, none⟩) (j - i) (cap - (i + (l.length - j)))) (s.putB b (.row C.n (encL C (l.take i) ++ encL C (l.drop j) ++ r2) .act)) = some ((s.putB b (.row C.n (encL C (l.take i) ++ encL C (l.drop j) ++ r2) .act)).putB b (.row C.n (encL C (l.take i) ++ encL C (l.drop j) ++ (repCells z (j - i) ++ r2.drop ((j - i) * C.n))) .act)) := by
    obtain ⟨q, hq⟩ : ∃ q, j - i = q + 1 := ⟨j - i - 1, by omega⟩
    unfold aclear
    rw [hq]
    simp only
    rw [if_pos ⟨hz, leaf_isLeaf hzl⟩]
    unfold writeN
    rw [hb2]
    simp only
    have hrl : (repCells z (q + 1)).length = (j - i) * C.n := by rw [rep_len, hz, hq]
    rw [if_pos (by rw [hrl, List.length_append, htl]; omega)]
    congr 3
    unfold putCells
    rw [hrl, ← htl, List.take_left, ← List.drop_drop, List.drop_left, List.append_assoc, hq]
  refine ⟨_, _, _, _, _, _, e4, e5, g4, by simp [St.putB], fun e => rfl, e8, hclr, .inr ⟨b, cap, repCells z (j - i) ++ r2.drop ((j - i) * C.n), ?_, h1, ?_, ?_, ?_⟩, putB_keep.trans putB_keep, rfl⟩
  · rw [List.length_append, List.length_take, List.length_drop, show min i l.length = i by omega]
  · rw [encL_append]
    exact putB_get (by simpa [St.putB] using hbl)
  · have g5 := g1
    simp only [encL_append, List.length_append, rep_len, hz, List.length_drop] at g5 ⊢
    omega
  · rw [List.all_append, rep_all hzl, List.all_eq_true.2 fun x hx => List.all_eq_true.1 g2 x (List.mem_of_mem_drop hx)]
    rfl

/-- a part of one is written -/
theorem ownC_set {N : Nat} {s : St} {v : Value} {l : List α} (h : OwnC C N s v l) {i k : Nat} (hi : i < l.length) {a : α} {x : Value} (hk : k < C.n) (hx : cellsV x = [x]) (hxl : leafOk x = true) (ha : C.enc a = (C.enc l[i]).set k x) {kd : IntKind} {n : Nat} (hn : n = C.n) :
    ∃ p q t, aindexS n v (.int kd (i : Int)) = some p ∧ afieldAddr k p = some q ∧ astore 1 q x s = some t ∧ OwnC C N t v (l.set i a) ∧ Keep (blkOf v) s t := by
  subst hn
  rcases h with ⟨_, rfl⟩ | ⟨b, cap, rest, rfl, h1, h2, h3, h4⟩
  · simp at hi
  have hbl : b < s.heap.length := (List.getElem?_eq_some_iff.1 h2).1
  have hxi : isLeaf x = true := by
    have := leaf_isLeaf (l := [x]) (by simp [hxl])
    simpa using this
  have m1 : i * C.n + C.n ≤ l.length * C.n := by rw [← Nat.succ_mul]; exact Nat.mul_le_mul_right _ hi
  have hll : (encL C l).length = l.length * C.n := encL_len C l
  have hset : ∀ (l : List α) (i : Nat) (hi : i < l.length), C.enc a = (C.enc l[i]).set k x → (encL C l).set (i * C.n + k) x = encL C (l.set i a) := by
    intro l
    induction l with
    | nil => intro i hi; simp at hi
    | cons y l ih =>
      intro i hi ha
      cases i with
      | zero =>
        rw [encL_cons, Nat.zero_mul, Nat.zero_add, List.set_append_left _ _ (by rw [C.len]; exact hk), List.set_cons_zero, encL_cons]
        simp only [List.getElem_cons_zero] at ha
        rw [ha]
      | succ i =>
        rw [encL_cons, List.set_append_right _ _ (by rw [C.len, Nat.add_mul]; omega), C.len, List.set_cons_succ, encL_cons]
        rw [show (i + 1) * C.n + k - C.n = i * C.n + k by rw [Nat.add_mul]; omega]
        rw [ih i (by simpa using hi) (by simpa using ha)]
  have hput : putCells (encL C l ++ rest) (i * C.n + k) [x] = encL C (l.set i a) ++ rest := by
    have e1 : putCells (encL C l ++ rest) (i * C.n + k) [x] = (encL C l ++ rest).set (i * C.n + k) x := by
      unfold putCells
      rw [List.set_eq_take_append_cons_drop, if_pos (by rw [List.length_append]; omega)]
      simp
    rw [e1, List.set_append_left _ _ (by omega), hset l i hi ha]
  refine ⟨.pointer (some ⟨b, i * C.n, none⟩), .pointer (some ⟨b, i * C.n + k, none⟩), s.putB b (.row C.n (encL C (l.set i a) ++ rest) .act), by simp [aindexS, hi], rfl, ?_, .inr ⟨b, cap, rest, by rw [List.length_set], h1, putB_get hbl, ?_, h4⟩, putB_keep⟩
  · unfold astore writeN
    simp only [hx, List.length_singleton, List.all_cons, hxi, List.all_nil, Bool.and_self, true_and, if_true, h2]
    rw [if_pos (by rw [List.length_append]; omega), hput]
  · rw [← h3, List.length_append, List.length_append, encL_len, encL_len, List.length_set]

/-- one more at the end -/
theorem ownC_push {N w : Nat} {s : St} {v y : Value} {l : List α} {a : α} (h : OwnC C N s v l) (hN : N ≤ s.heap.length) (hw : 0 < w) (hy : listOf C y s = some [a]) (hb : roomA (l.length + 1) w) {n : Nat} (hn : n = C.n) :
    ∃ v' t, aappend n w v y s = some (v', t) ∧ OwnC C N t v' (l ++ [a]) ∧ Keep (blkOf v) s t ∧ Fresh s v v' ∧ (∀ c, blkOf v' = some c → N ≤ c) := by
  subst hn
  have hpos := C.pos
  have hel : encL C [a] = C.enc a := by simp [encL]
  unfold aappend
  rw [if_pos hw, list_lenV hy, list_elems hy]
  simp only [Option.bind_some, List.length_cons, List.length_nil, Nat.zero_add, hel]
  rcases h with ⟨rfl, rfl⟩ | ⟨b, cap, rest, rfl, h1, h2, h3, h4⟩
  · simp only
    rw [if_pos (by simpa using hb), if_neg (by omega)]
    refine ⟨_, _, rfl, .inr ⟨s.heap.length, 1, [], rfl, hN, ?_, ?_, rfl⟩, (Ext.push _ (Nat.le_refl _) _).keep, .inr fun c hc => ?_, fun c hc => ?_⟩
    · rw [List.append_nil, List.nil_append, hel]; exact push_get
    · rw [List.append_nil, List.nil_append, hel, C.len, Nat.one_mul]
    · cases hc; exact Nat.le_refl _
    · cases hc; exact hN
  · have hle : l.length ≤ cap := OwnC.cap_le (N := N) (s := s) (b := b) (len := l.length) h3
    have hll : (encL C l).length = l.length * C.n := encL_len C l
    have hbl : b < s.heap.length := (List.getElem?_eq_some_iff.1 h2).1
    simp only
    rw [if_pos hb]
    by_cases hc : l.length + 1 ≤ cap
    · have hc2 : (l.length + 1) * C.n ≤ cap * C.n := Nat.mul_le_mul_right _ hc
      rw [Nat.add_mul] at hc2
      have h3' := h3
      rw [List.length_append] at h3'
      rw [if_pos hc, if_neg (by omega)]
      refine ⟨.slice (some ⟨b, 0, none⟩) (l.length + 1) cap, s.putB b (.row C.n (encL C (l ++ [a]) ++ rest.drop C.n) .act), ?_, .inr ⟨b, cap, rest.drop C.n, by simp, h1, putB_get hbl, ?_, ?_⟩, putB_keep, .inl rfl, fun c hc => by cases hc; exact h1⟩
      · unfold writeN
        rw [h2]
        simp only [Nat.zero_add]
        rw [if_pos (by rw [C.len, List.length_append]; omega)]
        simp only [Option.map_some]
        congr 3
        unfold putCells
        rw [← hll, List.take_left, C.len, ← List.drop_drop, List.drop_left, encL_append, hel]
      · rw [encL_append, List.length_append, List.length_append, List.length_drop, hel, C.len]
        omega
      · rw [List.all_eq_true]
        intro x hx
        exact List.all_eq_true.1 h4 x (List.mem_of_mem_drop hx)
    · have hcap : l.length = cap := by omega
      have h3' := h3
      rw [List.length_append, hll, ← hcap] at h3'
      have hr : rest = [] := List.eq_nil_of_length_eq_zero (by omega)
      subst hr
      rw [List.append_nil] at h2
      rw [if_neg hc, h2]
      simp only
      rw [if_pos ⟨trivial, trivial, hll.symm⟩]
      have hlen2 : s.heap.length = (s.putB b (.row C.n (encL C l) .dead)).heap.length := by simp [St.putB]
      refine ⟨_, _, rfl, .inr ⟨s.heap.length, l.length + 1, [], by simp, hN, ?_, ?_, rfl⟩, ?_, .inr fun c hc => ?_, fun c hc => ?_⟩
      · rw [List.append_nil, encL_append, hel, hlen2]
        exact push_get
      · rw [List.append_nil, encL_len]; simp
      · exact putB_keep.trans (Ext.push _ (Nat.le_refl _) _).keep
      · cases hc; exact Nat.le_refl _
      · cases hc; exact hN
end

end Go.Proofs.Ytamaapapaiopiaa.Ab

/- Rows of one's own: parts of an element; what an 'append' leaves as it was. -/
namespace Go.Proofs.Ytamaapapaiopiaa.Ab
open Go

theorem cells_field {s : St} {n : Nat} {v : Value} {cs : List Value} (h : cellsOf n v s = some cs) {i j : Nat} (hj : j < n) (hi : i * n + n ≤ cs.length) {c : Value} (hc : cs[i * n + j]? = some c) {k : IntKind} : ∃ p, aindexS n v (.int k (i : Int)) = some p ∧ ∃ q, afieldAddr j p = some q ∧ aload false 1 q s = some c := by
  unfold cellsOf at h
  split at h
  · cases h
    simp only [List.length_nil] at hi
    omega
  · rename_i b o len cap
    split at h
    case isFalse => cases h
    obtain ⟨row, h1, h2, h3⟩ := readN_some h
    have hlen : cs.length = len * n := by
      rw [h3]
      simp
      omega
    have hlt : i < len := by
      rcases Nat.lt_or_ge i len with hh | hh
      · exact hh
      · have := Nat.mul_le_mul_right n hh; omega
    refine ⟨.pointer (some ⟨b, o + i * n, none⟩), by simp [aindexS, hlt], .pointer (some ⟨b, o + i * n + j, none⟩), rfl, ?_⟩
    simp only [aload, h1, Option.bind_some, Bool.false_eq_true, if_false]
    rw [h3, List.getElem?_take_of_lt (by omega), List.getElem?_drop] at hc
    rw [Nat.add_assoc]
    exact hc
  · cases h
theorem aappend_keep {n w : Nat} {x y : Value} {s : St} {v' : Value} {t : St} (h : aappend n w x y s = some (v', t)) : Keep (blkOf x) s t ∧ Fresh s x v' := by
  unfold aappend at h
  split at h
  case isFalse => cases h
  simp only [Option.bind_eq_some_iff] at h
  obtain ⟨m, hm, new, hn, h⟩ := h
  split at h
  · split at h
    case isFalse => cases h
    split at h
    · cases h; exact ⟨.refl _ _, .inl rfl⟩
    · cases h
      exact ⟨(Ext.push _ (Nat.le_refl _) _).keep, .inr fun c hc => by cases hc; exact Nat.le_refl _⟩
  · rename_i b o len cap
    split at h
    case isFalse => cases h
    split at h
    · split at h
      · cases h; exact ⟨.refl _ _, .inl rfl⟩
      · simp only [Option.map_eq_some_iff] at h
        obtain ⟨s2, h2, h3⟩ := h
        cases h3
        unfold writeN at h2
        split at h2
        · split at h2
          case isFalse => cases h2
          cases h2
          exact ⟨putB_keep, .inl rfl⟩
        · cases h2
    · split at h
      · split at h
        case isFalse => cases h
        cases h
        refine ⟨putB_keep.trans (Ext.push _ (Nat.le_refl _) _).keep, .inr fun c hc => ?_⟩
        cases hc
        exact Nat.le_refl _
      · cases h
  · cases h
theorem own_addK {N n w : Nat} {s : St} {x : Value} {cells z : List Value} {v : Value} (h : Own N n s x cells) (hN : N ≤ s.heap.length) (hw : 0 < w) (hn : 0 < n) (hn2 : n ≤ 16777216) (hz : z.length = n) (hzl : z.all isLeaf = true) (hv : (cellsV v).length = n) (hvl : (cellsV v).all isLeaf = true)
    (hb : (cells.length + n) * w ≤ 140737488355328 * n) : ∃ r, abuildSl n z 1 [(0, v)] s = some r ∧ ∃ v' t, aappend n w x r.1 r.2 = some (v', t) ∧ Own N n t v' (cells ++ cellsV v) ∧ Keep (blkOf x) s t ∧ Fresh s x v' := by
  obtain ⟨r, h1, v', t, h2, h3, h4⟩ := own_add h hN hw hn hn2 hz hzl hv hvl hb
  obtain ⟨k1, k2⟩ := aappend_keep h2
  unfold abuildSl at h1
  split at h1
  case isFalse => cases h1
  simp only [Option.map_eq_some_iff] at h1
  obtain ⟨cs, _, h5⟩ := h1
  subst h5
  refine ⟨_, by unfold abuildSl; rw [if_pos ‹_›]; simp only [‹afill _ _ _ = some cs›, Option.map_some], v', t, h2, h3, (Ext.push _ (Nat.le_refl _) _).keep.trans k1, ?_⟩
  rcases k2 with k2 | k2
  · exact .inl k2
  · exact .inr fun c hc => by have := k2 c hc; rw [push_len] at this; omega
theorem Own.keep {N n : Nat} {B : Option Nat} {s t : St} {v : Value} {cs : List Value} (h : Own N n s v cs) (k : Keep B s t) (hb : ∀ c, blkOf v = some c → B ≠ some c) : Own N n t v cs := by
  rcases h with h | ⟨b, len, rfl, h1, h2, h3⟩
  · exact .inl h
  · exact .inr ⟨b, len, rfl, h1, by rw [k.2 b (List.getElem?_eq_some_iff.1 h2).1 (hb b rfl)]; exact h2, h3⟩
theorem Own.blk {N n : Nat} {s : St} {v : Value} {cs : List Value} (h : Own N n s v cs) : ∀ c, blkOf v = some c → N ≤ c ∧ c < s.heap.length := by
  intro c hc
  rcases h with ⟨rfl, _⟩ | ⟨b, len, rfl, h1, h2, h3⟩
  · cases hc
  · cases hc; exact ⟨h1, (List.getElem?_eq_some_iff.1 h2).1⟩
theorem Own.notup {N n : Nat} {s : St} {v : Value} {cs : List Value} (h : Own N n s v cs) : noTup v = true := by
  rcases h with ⟨rfl, _⟩ | ⟨b, len, rfl, _⟩ <;> rfl
/-- rows of unlike elements are unlike -/
theorem own_apart {α : Type} {C : Cod α} {N M n : Nat} {s : St} {v w : Value} {l : List α} {cs : List Value} (h : OwnC C N s v l) (g : Own M n s w cs) (hn : n ≠ C.n) : ∀ c, blkOf v = some c → blkOf w ≠ some c := by
  intro c hc hd
  rcases h with ⟨rfl, _⟩ | ⟨b, cap, rest, rfl, _, h2, _⟩
  · cases hc
  · cases hc
    rcases g with ⟨rfl, _⟩ | ⟨b2, len, rfl, _, g2, _⟩
    · cases hd
    · cases hd
      rw [h2] at g2
      cases g2
      exact hn rfl

theorem own_add1R {α : Type} {C : Cod α} {N w : Nat} {s : St} {x : Value} {l : List α} {a : α} {z : List Value} {v : Value} (h : Own N C.n s x (encL C l)) (hN : N ≤ s.heap.length) (hw : 0 < w) (hn2 : C.n ≤ 16777216) (hz : z.length = C.n) (hzl : z.all isLeaf = true) (hv : cellsV v = C.enc a) (hb : roomA (l.length + 1) w) {n : Nat} (hn : n = C.n) :
    ∃ r, abuildSl n z 1 [(0, v)] s = some r ∧ s.heap.length ≤ r.2.heap.length ∧ ∃ v' s', aappend n w x r.1 r.2 = some (v', s') ∧ Own N C.n s' v' (encL C (l ++ [a])) ∧ Ext N s s' ∧ r.2.heap.length ≤ s'.heap.length := by
  subst hn
  have hvl : (cellsV v).length = C.n := by rw [hv, C.len]
  have hvf : (cellsV v).all isLeaf = true := by rw [hv]; exact leaf_isLeaf (C.leaf a)
  have h1 : abuildSl C.n z 1 [(0, v)] s = some (.slice (some ⟨s.heap.length, 0, none⟩) 1 1, s.push (.row C.n (cellsV v) .act)) := by
    have hrep : repCells z 1 = z := by simp [repCells]
    have hput : putCells z 0 (cellsV v) = cellsV v := by simp [putCells, hvl, hz]
    unfold abuildSl
    rw [if_pos ⟨by omega, hz, hzl⟩]
    simp only [hrep, afill, placeA, Nat.zero_mul]
    rw [if_pos ⟨hvl, by omega, hvf⟩, hput]
    rfl
  have hE : Ext N s (s.push (.row C.n (cellsV v) .act)) := .push N hN _
  have hO : Own N C.n (s.push (.row C.n (cellsV v) .act)) x (encL C l) := by
    rcases h with h | ⟨b, len, e1, e2, e3, e4, e5⟩
    · exact .inl h
    · exact .inr ⟨b, len, e1, e2, by rw [push_old (List.getElem?_eq_some_iff.1 e3).1]; exact e3, e4, e5⟩
  have hy : listOf C (.slice (some ⟨s.heap.length, 0, none⟩) 1 1) (s.push (.row C.n (cellsV v) .act)) = some [a] := by
    refine (listOf_iff C).2 ?_
    simp only [cellsOf, Nat.le_refl, if_true, readN, Ab.readRow, push_get, Option.bind_some]
    rw [if_pos (by omega), List.drop_zero, Nat.one_mul, ← hvl, List.take_length, hv]
    simp [encL]
  have hq : ∀ q, q * C.n = (encL C l).length + (encL C [a]).length → roomA q w := by
    intro q hq
    rw [encL_len, encL_len, ← Nat.add_mul] at hq
    rw [Nat.eq_of_mul_eq_mul_right C.pos hq]
    exact hb
  obtain ⟨v', s', g1, g2, g3⟩ := own_appendR hO (by rw [push_len]; omega) hw C.pos (list_lenV hy) (list_elems hy) (encL_len C [a]) hq
  rw [← encL_append] at g2
  exact ⟨_, h1, by simp [St.push], v', s', g1, g2, hE.trans g3, g3.1⟩

end Go.Proofs.Ytamaapapaiopiaa.Ab

/- Things of one's own that hold others: slices in slices, each row of one's own. -/
namespace Go.Proofs.Ytamaapapaiopiaa.Ab
open Go

/-- how a thing lies in cells, whose rows are one's own: blocks from lo on, below hi -/
structure OCod (α : Type) where
  C : NCod α
  own : Nat → Nat → α → St → List Value → Prop
  rel : ∀ {lo hi a s cs}, own lo hi a s cs → C.rel a s cs
  keep : ∀ {lo hi a s t cs}, own lo hi a s cs → (∀ b, lo ≤ b → b < hi → t.heap[b]? = s.heap[b]?) → own lo hi a t cs
  mono : ∀ {lo hi lo' hi' a s cs}, own lo hi a s cs → lo' ≤ lo → hi ≤ hi' → own lo' hi' a s cs
  leaf : ∀ {lo hi a s cs}, own lo hi a s cs → cs.all isLeaf = true

def OList {α : Type} (O : OCod α) (B : Nat) (lo hi : Nat) (l : List α) (s : St) (v : Value) : Prop :=
  l.length * B ≤ reachBytes ∧ ((v = .slice none 0 0 ∧ l = []) ∨ ∃ (b : Nat) (css : List (List Value)), v = .slice (some ⟨b, 0, none⟩) l.length l.length ∧ lo ≤ b ∧ b < hi ∧ 0 < l.length ∧ s.heap[b]? = some (.row O.C.n css.flatten .act) ∧ All2 (fun a c => O.own lo b a s c) l css)

theorem flat_len {α : Type} {O : OCod α} {lo b : Nat} {s : St} : ∀ {l : List α} {css : List (List Value)}, All2 (fun a c => O.own lo b a s c) l css → css.flatten.length = l.length * O.C.n ∧ css.flatten.all isLeaf = true
  | [], [], _ => ⟨by simp, rfl⟩
  | a :: l, c :: css, ⟨h1, h2⟩ => by
    obtain ⟨g1, g2⟩ := flat_len h2
    refine ⟨?_, ?_⟩
    · rw [List.flatten_cons, List.length_append, g1, O.C.len (O.rel h1), List.length_cons, Nat.add_mul]; omega
    · rw [List.flatten_cons, List.all_append, O.leaf h1, g2]; rfl

theorem OList.listN {α : Type} {O : OCod α} {B lo hi : Nat} {l : List α} {s : St} {v : Value} (h : OList O B lo hi l s v) : ListN O.C B l s v := by
  obtain ⟨h1, h2⟩ := h
  refine ⟨h1, ?_⟩
  rcases h2 with h2 | ⟨b, css, g1, _, _, _, g2, g3⟩
  · exact .inl h2
  · exact .inr ⟨b, css, .act, _, g1, g2, by simp, g3.mono fun a c h => O.rel h⟩
theorem OList.keep {α : Type} {O : OCod α} {B lo hi : Nat} {l : List α} {s t : St} {v : Value} (h : OList O B lo hi l s v) (k : ∀ b, lo ≤ b → b < hi → t.heap[b]? = s.heap[b]?) : OList O B lo hi l t v := by
  obtain ⟨h1, h2⟩ := h
  refine ⟨h1, ?_⟩
  rcases h2 with h2 | ⟨b, css, g1, g2, g3, g4, g5, g6⟩
  · exact .inl h2
  · exact .inr ⟨b, css, g1, g2, g3, g4, by rw [k b g2 g3]; exact g5, g6.mono fun a c h => O.keep h fun b' h1 h2 => k b' h1 (by omega)⟩
theorem OList.mono {α : Type} {O : OCod α} {B lo hi lo' hi' : Nat} {l : List α} {s : St} {v : Value} (h : OList O B lo hi l s v) (h1 : lo' ≤ lo) (h2 : hi ≤ hi') : OList O B lo' hi' l s v := by
  obtain ⟨h3, h4⟩ := h
  refine ⟨h3, ?_⟩
  rcases h4 with h4 | ⟨b, css, g1, g2, g3, g4, g5, g6⟩
  · exact .inl h4
  · exact .inr ⟨b, css, g1, by omega, by omega, g4, g5, g6.mono fun a c h => O.mono h h1 (Nat.le_refl _)⟩
theorem OList.leaf {α : Type} {O : OCod α} {B lo hi : Nat} {l : List α} {s : St} {v : Value} (h : OList O B lo hi l s v) : isLeaf v = true := by
  rcases h.2 with ⟨rfl, _⟩ | ⟨b, css, rfl, _⟩ <;> rfl
theorem OList.nil {α : Type} {O : OCod α} {B lo hi : Nat} {s : St} : OList O B lo hi ([] : List α) s (.slice none 0 0) := ⟨by simp, .inl ⟨rfl, rfl⟩⟩
theorem OList.own {α : Type} {O : OCod α} {B lo hi : Nat} {l : List α} {s : St} {v : Value} (h : OList O B lo hi l s v) : ∃ css : List (List Value), Own lo O.C.n s v css.flatten ∧ css.flatten.length = l.length * O.C.n := by
  rcases h.2 with ⟨rfl, rfl⟩ | ⟨b, css, rfl, g2, g3, g4, g5, g6⟩
  · exact ⟨[], .inl ⟨rfl, rfl⟩, by simp⟩
  · have := (flat_len g6).1
    exact ⟨css, .inr ⟨b, l.length, rfl, g2, g5, this, g4⟩, this⟩

namespace OCod
def ofC {α : Type} (C : Cod α) (Pr : α → Prop) : OCod α where
  C := .ofC C Pr
  own _ _ a s cs := cs = C.enc a ∧ Pr a
  rel h := h
  keep h _ := h
  mono h _ _ := h
  leaf h := by rw [h.1]; exact leaf_isLeaf (C.leaf _)
def list {α : Type} (O : OCod α) (B : Nat) : OCod (List α) where
  C := O.C.list B
  own lo hi l s cs := ∃ v, cs = [v] ∧ OList O B lo hi l s v
  rel h := by obtain ⟨v, rfl, h⟩ := h; exact ⟨v, rfl, h.listN⟩
  keep h k := by obtain ⟨v, rfl, h⟩ := h; exact ⟨v, rfl, h.keep k⟩
  mono h h1 h2 := by obtain ⟨v, rfl, h⟩ := h; exact ⟨v, rfl, h.mono h1 h2⟩
  leaf h := by obtain ⟨v, rfl, h⟩ := h; simp [h.leaf]
def unit : OCod Unit where
  C := .unit
  own _ _ _ _ cs := cs = []
  rel h := h
  keep h _ := h
  mono h _ _ := h
  leaf h := by rw [h]; rfl
def pair {α β : Type} (A : OCod α) (B : OCod β) : OCod (α × β) where
  C := A.C.pair B.C
  own lo hi p s cs := ∃ c d m, cs = c ++ d ∧ lo ≤ m ∧ m ≤ hi ∧ A.own lo m p.1 s c ∧ B.own m hi p.2 s d
  rel h := by obtain ⟨c, d, m, rfl, _, _, h1, h2⟩ := h; exact ⟨c, d, rfl, A.rel h1, B.rel h2⟩
  keep h k := by obtain ⟨c, d, m, rfl, g1, g2, h1, h2⟩ := h; exact ⟨c, d, m, rfl, g1, g2, A.keep h1 fun b e1 e2 => k b e1 (by omega), B.keep h2 fun b e1 e2 => k b (by omega) e2⟩
  mono h k1 k2 := by obtain ⟨c, d, m, rfl, g1, g2, h1, h2⟩ := h; exact ⟨c, d, m, rfl, by omega, by omega, A.mono h1 k1 (Nat.le_refl _), B.mono h2 (Nat.le_refl _) k2⟩
  leaf h := by obtain ⟨c, d, m, rfl, _, _, h1, h2⟩ := h; rw [List.all_append, A.leaf h1, B.leaf h2]; rfl
def map {α β : Type} (A : OCod α) (f : β → α) : OCod β where
  C := A.C.map f
  own lo hi b s cs := A.own lo hi (f b) s cs
  rel h := A.rel h
  keep h k := A.keep h k
  mono h h1 h2 := A.mono h h1 h2
  leaf h := A.leaf h
end OCod

/-- one more element: the row is a new one -/
theorem own_push {N n w : Nat} {s : St} {x : Value} {cells z : List Value} {v : Value} (h : Own N n s x cells) (hN : N ≤ s.heap.length) (hw : 0 < w) (hn : 0 < n) (hn2 : n ≤ 16777216) (hz : z.length = n) (hzl : z.all isLeaf = true) (hv : (cellsV v).length = n) (hvl : (cellsV v).all isLeaf = true) {len : Nat} (hlen : cells.length = len * n)
    (hb : (len + 1) * w ≤ 140737488355328) : ∃ r, abuildSl n z 1 [(0, v)] s = some r ∧ ∃ b t, aappend n w x r.1 r.2 = some (.slice (some ⟨b, 0, none⟩) (len + 1) (len + 1), t) ∧ t.heap[b]? = some (.row n (cells ++ cellsV v) .act) ∧ s.heap.length ≤ b ∧ t.heap.length = b + 1 ∧ Keep (blkOf x) s t := by
  have h1 : abuildSl n z 1 [(0, v)] s = some (.slice (some ⟨s.heap.length, 0, none⟩) 1 1, s.push (.row n (cellsV v) .act)) := by
    have hrep : repCells z 1 = z := by simp [repCells]
    have hput : putCells z 0 (cellsV v) = cellsV v := by simp [putCells, hv, hz]
    unfold abuildSl
    rw [if_pos ⟨by omega, hz, hzl⟩]
    simp only [hrep, afill, placeA, Nat.zero_mul]
    rw [if_pos ⟨hv, by omega, hvl⟩, hput]
    rfl
  refine ⟨_, h1, ?_⟩
  have hcells : cellsOf n (.slice (some ⟨s.heap.length, 0, none⟩) 1 1) (s.push (.row n (cellsV v) .act)) = some (cellsV v) := by
    simp only [cellsOf, Nat.le_refl, if_true, readN, Ab.readRow, push_get, Option.bind_some]
    rw [if_pos (by omega), List.drop_zero, Nat.one_mul, ← hv, List.take_length]
  have hroom : roomA (len + 1) w := .inl hb
  have hk0 : Keep (blkOf x) s (s.push (.row n (cellsV v) .act)) := (Ext.push _ (Nat.le_refl _) _).keep
  unfold aappend
  rw [if_pos hw]
  simp only [lenV, Option.bind_some, elems_of hcells]
  rcases h with ⟨rfl, rfl⟩ | ⟨b, len', rfl, g1, g2, g3, g4⟩
  · have hl0 : len = 0 := by
      have : len * n = 0 := by simpa using hlen.symm
      rcases Nat.mul_eq_zero.1 this with h | h <;> omega
    subst hl0
    simp only
    rw [if_pos (by simpa using hroom), if_neg (by omega)]
    refine ⟨_, _, rfl, by simpa using push_get, by rw [push_len]; omega, push_len, hk0.trans (Ext.push _ (Nat.le_refl _) _).keep⟩
  · obtain rfl : len' = len := Nat.eq_of_mul_eq_mul_right hn (by omega)
    simp only
    have hbl : b < s.heap.length := (List.getElem?_eq_some_iff.1 g2).1
    rw [if_pos hroom, if_neg (by omega), push_old hbl, g2]
    simp only
    rw [if_pos ⟨trivial, trivial, by omega⟩]
    refine ⟨_, _, rfl, ?_, by rw [push_len]; omega, ?_, ?_⟩
    · have e : (s.push (.row n (cellsV v) .act)).heap.length = ((s.push (.row n (cellsV v) .act)).putB b (.row n cells .dead)).heap.length := by simp [St.putB]
      rw [e]
      exact push_get
    · rw [push_len]; simp [St.putB]
    · refine hk0.trans ((putB_keep (b := b)).trans (Ext.push _ (Nat.le_refl _) _).keep)
theorem All2.snoc {α β : Type} {R : α → β → Prop} : ∀ {l : List α} {m : List β} {a : α} {b : β}, All2 R l m → R a b → All2 R (l ++ [a]) (m ++ [b])
  | [], [], _, _, _, h => ⟨h, trivial⟩
  | _ :: _, _ :: _, _, _, ⟨h1, h2⟩, h => ⟨h1, All2.snoc h2 h⟩
theorem OList.push {α : Type} {O : OCod α} {B lo hi m n w : Nat} {l : List α} {a : α} {s0 s : St} {x : Value} {z : List Value} {v : Value} (h : OList O B lo hi l s x) (hhi : hi ≤ m) (hm : m ≤ s.heap.length) (hlo : lo ≤ hi) (ha : O.own m s.heap.length a s (cellsV v))
    (hw : 0 < w) (hn : n = O.C.n) (hpos : 0 < n) (hn2 : n ≤ 16777216) (hz : z.length = n) (hzl : z.all isLeaf = true) (hb : (l.length + 1) * w ≤ 140737488355328) (hb2 : (l.length + 1) * B ≤ reachBytes) :
    ∃ r, abuildSl n z 1 [(0, v)] s = some r ∧ ∃ v' t, aappend n w x r.1 r.2 = some (v', t) ∧ OList O B lo t.heap.length (l ++ [a]) t v' ∧ s.heap.length ≤ t.heap.length ∧ (∀ b, b < s.heap.length → (b < lo ∨ hi ≤ b) → t.heap[b]? = s.heap[b]?) ∧ noTup v' = true := by
  subst hn
  have hv : (cellsV v).length = O.C.n := O.C.len (O.rel ha)
  obtain ⟨css, hown, hlen, hall, hblk⟩ : ∃ css : List (List Value), Own lo O.C.n s x css.flatten ∧ css.flatten.length = l.length * O.C.n ∧ (∀ b', s.heap.length ≤ b' → ∀ t : St, Keep (blkOf x) s t → All2 (fun a c => O.own lo b' a t c) l css) ∧ (∀ c, blkOf x = some c → lo ≤ c ∧ c < hi) := by
    rcases h.2 with ⟨rfl, rfl⟩ | ⟨b, css, rfl, g2, g3, g4, g5, g6⟩
    · exact ⟨[], .inl ⟨rfl, rfl⟩, by simp, fun _ _ _ _ => trivial, fun c hc => by cases hc⟩
    · have := (flat_len g6).1
      refine ⟨css, .inr ⟨b, l.length, rfl, g2, g5, this, g4⟩, this, fun b' hb' t k => g6.mono fun a c h => O.mono (O.keep h fun b2 h1 h2 => k.2 b2 (by omega) fun e => by have e2 : b = b2 := Option.some.inj e; omega) (Nat.le_refl _) (by omega), fun c hc => by cases hc; exact ⟨g2, g3⟩⟩
  obtain ⟨r, h1, b, t, h2, h3, h4, h5, h6⟩ := own_push (w := w) hown (by omega) hw hpos hn2 hz hzl hv (O.leaf ha) hlen hb
  refine ⟨r, h1, _, t, h2, ⟨by simpa using hb2, .inr ⟨b, css ++ [cellsV v], by simp, by omega, by omega, by simp, by simpa using h3, ?_⟩⟩, h6.1, fun c hc hor => h6.2 c hc fun e => ?_, rfl⟩
  · refine (hall b h4 t h6).snoc (O.mono (O.keep ha fun b2 g1 g2 => h6.2 b2 g2 fun e => ?_) (by omega) h4)
    have := (hblk b2 e).2
    omega
  · have := hblk c e
    omega

end Go.Proofs.Ytamaapapaiopiaa.Ab

/- Readers: a row of one's own with what is left of some bytes and the first error; what reads is told by a parser. -/
namespace Go.Proofs.Ytamaapapaiopiaa.Ab
open Go

/-! ### Parsers -/
def Par (α : Type) := List UInt8 → Except Int (α × List UInt8)
namespace Par
def pure {α : Type} (a : α) : Par α := fun r => .ok (a, r)
def fail {α : Type} (e : Int) : Par α := fun _ => .error e
def bind {α β : Type} (p : Par α) (q : α → Par β) : Par β := fun r => match p r with
  | .ok (a, r') => q a r'
  | .error e => .error e
def map {α β : Type} (p : Par α) (f : α → β) : Par β := p.bind fun a => .pure (f a)
def rep {α : Type} (p : Par α) : Nat → Par (List α)
  | 0 => .pure []
  | k + 1 => p.bind fun a => (rep p k).bind fun l => .pure (a :: l)
end Par
/-- a reader goes from x (what is left, the first error) to y, and gives a -/
structure Does {α : Type} (p : Par α) (x : List UInt8 × Int) (a : α) (y : List UInt8 × Int) : Prop where
  err : x.2 ≠ 0 → y.2 = x.2
  ok : x.2 = 0 → ∀ a0 r0, p x.1 = .ok (a0, r0) → y = (r0, 0) ∧ a = a0
  bad : x.2 = 0 → ∀ e, p x.1 = .error e → y.2 = e ∧ e ≠ 0
section
variable {α β : Type} {x y z : List UInt8 × Int} {a : α} {b : β}
theorem Does.pure {a : α} : Does (.pure a) x a x := ⟨fun _ => rfl, fun h a0 r0 h1 => by cases h1; exact ⟨by rw [← h], rfl⟩, fun _ e h => by cases h⟩
theorem Does.bind {p : Par α} {q : α → Par β} (h : Does p x a y) (g : Does (q a) y b z) : Does (p.bind q) x b z := by
  refine ⟨fun hx => ?_, fun hx a0 r0 h1 => ?_, fun hx e h1 => ?_⟩
  · have := h.err hx
    rw [g.err (by rw [this]; exact hx), this]
  · unfold Par.bind at h1
    cases hp : p x.1 with
    | error e => rw [hp] at h1; cases h1
    | ok t =>
      obtain ⟨a1, r1⟩ := t
      rw [hp] at h1
      obtain ⟨rfl, rfl⟩ := h.ok hx a1 r1 hp
      exact g.ok rfl a0 r0 h1
  · unfold Par.bind at h1
    cases hp : p x.1 with
    | error e' =>
      rw [hp] at h1
      cases h1
      obtain ⟨h2, h3⟩ := h.bad hx e hp
      rw [g.err (by rw [h2]; exact h3), h2]
      exact ⟨rfl, h3⟩
    | ok t =>
      obtain ⟨a1, r1⟩ := t
      rw [hp] at h1
      obtain ⟨rfl, rfl⟩ := h.ok hx a1 r1 hp
      exact g.bad rfl e h1
theorem Does.map {p : Par α} {f : α → β} (h : Does p x a y) : Does (p.map f) x (f a) y := h.bind .pure
theorem Does.cons {p : Par α} {k : Nat} {m : List α} (h : Does p x a y) (g : Does (p.rep k) y m z) : Does (p.rep (k + 1)) x (a :: m) z := h.bind (g.bind .pure)
theorem Does.weaken {p : Par α} {a' : α} (h : Does p x a y) (g : y.2 = 0 → a' = a) : Does p x a' y := ⟨h.err, fun hx a0 r0 h1 => by
  obtain ⟨h2, h3⟩ := h.ok hx a0 r0 h1
  exact ⟨h2, by rw [g (by rw [h2]), h3]⟩, h.bad⟩
theorem Does.of_ok {p : Par α} {r0 : List UInt8} (hx : x.2 = 0) (hp : p x.1 = .ok (a, r0)) (hy : y = (r0, 0)) : Does p x a y := by
  refine ⟨fun h => absurd hx h, fun _ a1 r1 h1 => ?_, fun _ e h1 => ?_⟩
  · rw [hp] at h1
    cases h1
    exact ⟨hy, rfl⟩
  · rw [hp] at h1; cases h1
theorem Does.of_err {p : Par α} {e : Int} (hx : x.2 = 0) (hp : p x.1 = .error e) (he : e ≠ 0) (hy : y.2 = e) : Does p x a y := by
  refine ⟨fun h => absurd hx h, fun _ a1 r1 h1 => ?_, fun _ e1 h1 => ?_⟩
  · rw [hp] at h1; cases h1
  · rw [hp] at h1
    cases h1
    exact ⟨hy, he⟩
/-- where there was an error all goes -/
theorem Does.stuck {p : Par α} (hx : x.2 ≠ 0) (h : y.2 = x.2) : Does p x a y := ⟨fun _ => h, fun h => absurd h hx, fun h => absurd h hx⟩
theorem Does.fail {e : Int} (he : e ≠ 0) (h : y.2 = if x.2 = 0 then e else x.2) : Does (.fail e) x a y := by
  refine ⟨fun hx => (by rw [h, if_neg hx]), fun _ _ _ h => (by cases h), fun hx e' h1 => ?_⟩
  have e1 : e = e' := by injection h1
  subst e1
  rw [h, if_pos hx]
  exact ⟨rfl, he⟩
theorem Does.ok_of {p : Par α} (h : Does p x a y) (hx : x.2 = 0) (hy : y.2 = 0) : p x.1 = .ok (a, y.1) := by
  cases hp : p x.1 with
  | error e =>
    obtain ⟨h1, h2⟩ := h.bad hx e hp
    exact absurd (h1 ▸ hy) h2
  | ok t =>
    obtain ⟨a0, r0⟩ := t
    obtain ⟨rfl, rfl⟩ := h.ok hx a0 r0 hp
    rfl
theorem Does.err_of {p : Par α} (h : Does p x a y) (hx : x.2 = 0) (hy : y.2 ≠ 0) : p x.1 = .error y.2 := by
  cases hp : p x.1 with
  | error e => rw [(h.bad hx e hp).1]
  | ok t =>
    obtain ⟨a0, r0⟩ := t
    obtain ⟨rfl, rfl⟩ := h.ok hx a0 r0 hp
    exact absurd rfl hy
theorem Does.same {p : Par α} {a1 a2 : α} {x y1 y2 : List UInt8 × Int} (h : Does p x a1 y1) (g : Does p x a2 y2) (hx : x.2 = 0) : y1.2 = y2.2 ∧ (y1.2 = 0 → a1 = a2 ∧ y1 = y2) := by
  cases hp : p x.1 with
  | error e =>
    obtain ⟨h1, h2⟩ := h.bad hx e hp
    obtain ⟨g1, g2⟩ := g.bad hx e hp
    exact ⟨by rw [h1, g1], fun h => absurd (h1 ▸ h) h2⟩
  | ok t =>
    obtain ⟨a0, r0⟩ := t
    obtain ⟨rfl, rfl⟩ := h.ok hx a0 r0 hp
    obtain ⟨rfl, rfl⟩ := g.ok hx _ r0 hp
    exact ⟨rfl, fun _ => ⟨rfl, rfl⟩⟩
end

/-! ### The reader in memory -/
abbrev rp (N : Nat) : Value := .pointer (some ⟨N, 0, none⟩)
structure RdV (N : Nat) (s : St) (v : Value) (x : List UInt8 × Int) : Prop where
  blk : s.heap[N]? = some (.row 0 [v, .int .i64 x.2] .act)
  byt : bytesOf v s = some x.1
  apart : ∀ c, blkOf v = some c → c < N
  small : x.1.length ≤ 140737488355328
def Rd (N : Nat) (s : St) (x : List UInt8 × Int) : Prop := ∃ v, RdV N s v x
def setR (N : Nat) (v : Value) (e : Int) (s : St) : St := s.putB N (.row 0 [v, .int .i64 e] .act)
section
variable {N : Nat} {s t : St} {v u : Value} {x : List UInt8 × Int}
theorem RdV.lt (h : RdV N s v x) : N < s.heap.length := (List.getElem?_eq_some_iff.1 h.blk).1
theorem rp_nil : anilCheck (rp N) = some (rp N) := rfl
theorem rp_f0 : afieldAddr 0 (rp N) = some (rp N) := rfl
theorem rp_f1 : afieldAddr 1 (rp N) = some (.pointer (some ⟨N, 1, none⟩)) := by simp [afieldAddr]
theorem RdV.row (h : RdV N s v x) : readRow s N = some [v, .int .i64 x.2] := by unfold Ab.readRow; rw [h.blk]
theorem RdV.ld0 (h : RdV N s v x) : aload false 1 (rp N) s = some v := by simp [aload, h.row]
theorem RdV.ld1 (h : RdV N s v x) : aload false 1 (.pointer (some ⟨N, 1, none⟩)) s = some (.int .i64 x.2) := by simp [aload, h.row]
theorem RdV.ld0f (h : RdV N s v x) : aload false 1 (rp N) (frzS s) = some v := by simp [aload, readRow_frz, h.row]
theorem RdV.ld1f (h : RdV N s v x) : aload false 1 (.pointer (some ⟨N, 1, none⟩)) (frzS s) = some (.int .i64 x.2) := by simp [aload, readRow_frz, h.row]
theorem blk_slice {v : Value} {s : St} {l : List UInt8} (h : bytesOf v s = some l) : isLeaf v = true ∧ cellsV v = [v] ∧ noTup v = true := by
  unfold bytesOf at h
  simp only [Option.bind_eq_some_iff] at h
  obtain ⟨cs, h1, _⟩ := h
  obtain ⟨a, len, cap, rfl, _⟩ := cellsOf_len h1
  exact ⟨rfl, rfl, rfl⟩
theorem RdV.st1 (h : RdV N s v x) (e : Int) : astore 1 (.pointer (some ⟨N, 1, none⟩)) (.int .i64 e) s = some (setR N v e s) := by
  simp [astore, cellsV, isLeaf, writeN, h.blk, putCells, setR]
theorem RdV.st0 (h : RdV N s v x) (h1 : isLeaf u = true) (h2 : cellsV u = [u]) : astore 1 (rp N) u s = some (setR N u x.2 s) := by
  simp [astore, h1, h2, writeN, h.blk, putCells, setR]
theorem keep_bytes {B : Nat} (h : Keep (some B) s t) {l : List UInt8} (hv : bytesOf v s = some l) (hb : blkOf v ≠ some B) : bytesOf v t = some l := by
  unfold bytesOf at hv ⊢
  simp only [Option.bind_eq_some_iff] at hv ⊢
  obtain ⟨cs, h1, h2⟩ := hv
  refine ⟨cs, ?_, h2⟩
  unfold cellsOf at h1 ⊢
  split at h1
  · exact h1
  · rename_i b o len cap
    split at h1
    case isFalse => cases h1
    rename_i hlc
    rw [if_pos hlc]
    unfold readN at h1 ⊢
    have hbb : b ≠ B := fun e => hb (by rw [e]; rfl)
    cases hr : readRow s b with
    | none => rw [hr] at h1; cases h1
    | some row =>
      have : readRow t b = readRow s b := by unfold Ab.readRow; rw [h.2 b (readRow_lt hr) (fun e => hbb (Option.some.inj e).symm)]
      rw [this]
      exact h1
  · cases h1
theorem setR_keep {e : Int} : Keep (some N) s (setR N u e s) := putB_keep
theorem RdV.set (h : RdV N s v x) {y : List UInt8 × Int} (hu : bytesOf u s = some y.1) (ha : ∀ c, blkOf u = some c → c < N) (hl : y.1.length ≤ 140737488355328) : RdV N (setR N u y.2 s) u y := ⟨putB_get h.lt, keep_bytes setR_keep hu (fun e => Nat.lt_irrefl _ (ha _ e)), ha, hl⟩
/-- an error is kept -/
theorem RdV.seterr (h : RdV N s v x) (e : Int) : Rd N (setR N v e s) (x.1, e) := ⟨v, h.set (y := (x.1, e)) h.byt h.apart h.small⟩
theorem bytes_drop {l : List UInt8} (h : bytesOf v s = some l) {i : Nat} (hi : i ≤ l.length) {k : IntKind} : ∃ u, asliceV 1 v (some (.int k (i : Int))) none none = some u ∧ bytesOf u s = some (l.drop i) ∧ ∀ c, blkOf u = some c → blkOf v = some c := by
  obtain ⟨u, h1, h2⟩ := bytes_slice h (lo := some (.int k (i : Int))) (hi := none) (mx := none) (i := i) (j := l.length) (by simp [abound]) rfl hi (Nat.le_refl _) (.inl rfl)
  refine ⟨u, h1, by rw [h2, List.take_of_length_le (by simp)], fun c hc => ?_⟩
  unfold asliceV at h1
  split at h1
  case h_2 => cases h1
  rename_i a len cap
  unfold asliceSl at h1
  split at h1
  case isFalse => cases h1
  simp only [Option.bind_eq_some_iff] at h1
  obtain ⟨m, _, hh, _, ll, _, h1⟩ := h1
  split at h1
  case isFalse => cases h1
  unfold cutRow at h1
  split at h1
  · cases h1; cases hc
  · cases h1; exact hc
  · cases h1
/-- what is left is less -/
theorem RdV.drop (h : RdV N s v x) {i : Nat} (hi : i ≤ x.1.length) {k : IntKind} : ∃ u, asliceV 1 v (some (.int k (i : Int))) none none = some u ∧ astore 1 (rp N) u s = some (setR N u x.2 s) ∧ Rd N (setR N u x.2 s) (x.1.drop i, x.2) := by
  obtain ⟨u, h1, h2, h3⟩ := bytes_drop h.byt hi (k := k)
  obtain ⟨g1, g2, _⟩ := blk_slice h2
  refine ⟨u, h1, h.st0 g1 g2, u, h.set (y := (x.1.drop i, x.2)) h2 (fun c e => h.apart c (h3 _ e)) (by have := h.small; simp; omega)⟩
end
theorem bytes_blk {s : St} {v : Value} {l : List UInt8} (h : bytesOf v s = some l) : ∀ c, blkOf v = some c → c < s.heap.length := by
  intro c hc
  unfold bytesOf at h
  simp only [Option.bind_eq_some_iff] at h
  obtain ⟨cs, h1, h2⟩ := h
  unfold cellsOf at h1
  split at h1
  · cases hc
  · split at h1
    case isFalse => cases h1
    obtain ⟨row, g1, _⟩ := readN_some h1
    cases hc
    exact readRow_lt g1
  · cases h1
theorem rd_new {s : St} {v : Value} {l : List UInt8} (h : bytesOf v s = some l) (hl : l.length ≤ 140737488355328) : Rd s.heap.length (s.push (.row 0 [v, .int .i64 0] .act)) (l, 0) :=
  ⟨v, push_get, Ext.bytes (.push _ (Nat.le_refl _) _) h, bytes_blk h, hl⟩
theorem bytes_same {s t : St} {v : Value} {l : List UInt8} (h : bytesOf v s = some l) (k : ∀ c, blkOf v = some c → t.heap[c]? = s.heap[c]?) : bytesOf v t = some l := by
  unfold bytesOf at h ⊢
  simp only [Option.bind_eq_some_iff] at h ⊢
  obtain ⟨cs, h1, h2⟩ := h
  refine ⟨cs, ?_, h2⟩
  unfold cellsOf at h1 ⊢
  split at h1
  · exact h1
  · rename_i b o len cap
    split at h1
    case isFalse => cases h1
    rename_i hlc
    rw [if_pos hlc]
    unfold readN Ab.readRow at h1 ⊢
    rw [k b rfl]
    exact h1
  · cases h1
theorem Rd.keep {N : Nat} {s t : St} {x : List UInt8 × Int} (h : Rd N s x) (k : ∀ b, b ≤ N → t.heap[b]? = s.heap[b]?) : Rd N t x := by
  obtain ⟨v, h⟩ := h
  exact ⟨v, ⟨by rw [k N (Nat.le_refl _)]; exact h.blk, bytes_same h.byt fun c hc => k c (Nat.le_of_lt (h.apart c hc)), h.apart, h.small⟩⟩
theorem Rd.ext {N : Nat} {s t : St} {x : List UInt8 × Int} (h : Rd N s x) (k : Ext s.heap.length s t) : Rd N t x := h.keep fun b hb => k.2 b (by obtain ⟨v, h⟩ := h; have := h.lt; omega)
theorem Rd.lt {N : Nat} {s : St} {x : List UInt8 × Int} (h : Rd N s x) : N < s.heap.length := by obtain ⟨v, h⟩ := h; exact h.lt

/-! ### What reads -/
def Shape (ag : Bool) (u : Value) (cs : List Value) : Prop := match ag with
  | true => u = .agg cs.toArray
  | false => cs = [u]
theorem Shape.cells {ag : Bool} {u : Value} {cs : List Value} (h : Shape ag u cs) (hl : cs.all isLeaf = true) : cellsV u = cs ∧ noTup u = true := by
  cases ag with
  | true =>
    have h : u = .agg cs.toArray := h
    subst h
    exact ⟨by simp [cellsV], rfl⟩
  | false =>
    have h : cs = [u] := h
    subst h
    simp at hl
    cases u <;> first | exact ⟨rfl, rfl⟩ | (simp [isLeaf] at hl)
def Reads {α : Type} (N : Nat) (f : St → Option (Value × St)) (ag : Bool) (O : OCod α) (p : Par α) : Prop :=
  ∀ (s : St) (x : List UInt8 × Int), Rd N s x → ∃ (a : α) (u : Value) (cs : List Value) (s' : St) (y : List UInt8 × Int), f s = some (u, s') ∧ Rd N s' y ∧ Keep (some N) s s' ∧ Shape ag u cs ∧ O.own s.heap.length s'.heap.length a s' cs ∧ Does p x a y
/-- of the blocks below M none but N has changed -/
def FrM (N M : Nat) (s t : St) : Prop := s.heap.length ≤ t.heap.length ∧ ∀ c, c < M → c ≠ N → t.heap[c]? = s.heap[c]?
theorem FrM.refl (N M : Nat) (s : St) : FrM N M s s := ⟨Nat.le_refl _, fun _ _ _ => rfl⟩
theorem FrM.trans {N M : Nat} {s t u : St} (h : FrM N M s t) (g : FrM N M t u) : FrM N M s u := ⟨Nat.le_trans h.1 g.1, fun c h1 h2 => (g.2 c h1 h2).trans (h.2 c h1 h2)⟩
theorem Keep.frM {N M : Nat} {s t : St} (h : Keep (some N) s t) (hM : M ≤ s.heap.length) : FrM N M s t := ⟨h.1, fun c h1 h2 => h.2 c (by omega) fun e => h2 (Option.some.inj e).symm⟩
theorem FrM.keep {N : Nat} {s t : St} (h : FrM N s.heap.length s t) : Keep (some N) s t := ⟨h.1, fun c h1 h2 => h.2 c h1 fun e => h2 (by rw [e])⟩
theorem frM_push {N M : Nat} {s : St} {B : Blk} (hM : M ≤ s.heap.length) : FrM N M s (s.push B) := ⟨by rw [push_len]; omega, fun c h1 h2 => push_old (by omega)⟩
theorem frM_put {N M b : Nat} {s : St} {B : Blk} (hM : M ≤ b) : FrM N M s (s.putB b B) := ⟨by simp [St.putB], fun c h1 h2 => by simp only [St.putB]; rw [List.getElem?_set_ne (by omega)]⟩
theorem FrM.ext {N M : Nat} {s t : St} (h : Ext s.heap.length s t) (hM : M ≤ s.heap.length) : FrM N M s t := ⟨h.1, fun c h1 h2 => h.2 c (by omega)⟩
theorem putB_len {s : St} {b : Nat} {B : Blk} : (s.putB b B).heap.length = s.heap.length := by simp [St.putB]
theorem putB_ne {s : St} {b c : Nat} {B : Blk} (h : c ≠ b) : (s.putB b B).heap[c]? = s.heap[c]? := by simp only [St.putB]; rw [List.getElem?_set_ne (by omega)]
theorem Rd.put {N b : Nat} {s : St} {B : Blk} {x : List UInt8 × Int} (h : Rd N s x) (hb : N < b) : Rd N (s.putB b B) x := h.keep fun c hc => putB_ne (by omega)
theorem Rd.push {N : Nat} {s : St} {B : Blk} {x : List UInt8 × Int} (h : Rd N s x) : Rd N (s.push B) x := h.keep fun c hc => push_old (by have := h.lt; omega)
theorem ld_cell {s : St} {B n i : Nat} {cells : List Value} {st : Stat} {c : Value} (h : s.heap[B]? = some (.row n cells st)) (hst : st ≠ .dead) (hc : cells[i]? = some c) : aload false 1 (.pointer (some ⟨B, i, none⟩)) s = some c := by
  have : readRow s B = some cells := by
    unfold Ab.readRow
    rw [h]
    cases st with
    | dead => exact absurd rfl hst
    | act => rfl
    | ro => rfl
  simp [aload, this, hc]
theorem ld_cells {s : St} {B n m : Nat} {cells : List Value} {st : Stat} (h : s.heap[B]? = some (.row n cells st)) (hst : st ≠ .dead) (hm : cells.length = m) : aload true m (.pointer (some ⟨B, 0, none⟩)) s = some (.agg cells.toArray) := by
  have : readRow s B = some cells := by
    unfold Ab.readRow
    rw [h]
    cases st with
    | dead => exact absurd rfl hst
    | act => rfl
    | ro => rfl
  subst hm
  simp [aload, readN, this]
theorem st_cell {s : St} {B n i : Nat} {cells : List Value} {v : Value} (h : s.heap[B]? = some (.row n cells .act)) (hi : i < cells.length) (hv : isLeaf v = true) (hc : cellsV v = [v]) : astore 1 (.pointer (some ⟨B, i, none⟩)) v s = some (s.putB B (.row n (cells.set i v) .act)) := by
  have hput : putCells cells i [v] = cells.set i v := by
    unfold putCells
    rw [List.set_eq_take_append_cons_drop, if_pos hi]
    simp
  simp [astore, hc, hv, writeN, h, hput, Nat.succ_le_of_lt hi]
theorem st_cells {s : St} {B n m : Nat} {cells vs : List Value} (h : s.heap[B]? = some (.row n cells .act)) (hm : vs.length = m) (hl : cells.length = m) (hv : vs.all isLeaf = true) : astore m (.pointer (some ⟨B, 0, none⟩)) (.agg vs.toArray) s = some (s.putB B (.row n vs .act)) := by
  subst hm
  have h1 : cellsV (.agg vs.toArray) = vs := by simp [cellsV]
  have hput : putCells cells 0 vs = vs := by simp [putCells, hl]
  have hle : 0 + vs.length ≤ cells.length := by omega
  unfold astore
  simp only [h1]
  rw [if_pos ⟨trivial, hv⟩]
  unfold writeN
  simp only [h]
  rw [if_pos hle, hput]
theorem own_keep {α : Type} {O : OCod α} {N lo hi : Nat} {a : α} {s t : St} {cs : List Value} (h : O.own lo hi a s cs) (k : Keep (some N) s t) (hN : N < lo) (hhi : hi ≤ s.heap.length) : O.own lo hi a t cs :=
  O.keep h fun b h1 h2 => k.2 b (by omega) fun e => by have := Option.some.inj e; omega
theorem own_more' {α : Type} {O : OCod α} {N lo : Nat} {a : α} {s t : St} {cs : List Value} (h : O.own lo s.heap.length a s cs) (k : Keep (some N) s t) (hN : N < lo) {lo' : Nat} (hlo : lo' ≤ lo) : O.own lo' t.heap.length a t cs :=
  O.mono (own_keep h k hN (Nat.le_refl _)) hlo k.1

/-! ### Numbers that are none below nothing -/
def natC (k : IntKind) : Cod Nat where
  n := 1
  enc i := [.int k (i : Int)]
  pos := by decide
  len _ := rfl
  inj a b h := by
    have := List.cons.inj h
    have h2 : (a : Int) = (b : Int) := by injection this.1
    exact_mod_cast h2
  leaf _ := rfl
abbrev oNat (k : IntKind) (m : Nat) : OCod Nat := .ofC (natC k) fun n => n ≤ m
abbrev oStr : OCod (List UInt8) := .ofC strgC fun k => k.length ≤ reachBytes

end Go.Proofs.Ytamaapapaiopiaa.Ab

/- Nodes are read: what each function of the program's reader reads. -/
namespace Go.Proofs.Ytamaapapaiopiaa.Ab
open Go

def pNum (most : Nat) : Par Nat := fun r => if (readNum r).2.2 ≠ 0 then .error (readNum r).2.2 else if most < (readNum r).1 then .error 11 else .ok ((readNum r).1, r.drop (readNum r).2.1)
def pText (most : Int) : Par BL := fun r => if (readText r most).2.2 = 2 then .error 11 else if (readText r most).2.2 ≠ 0 then .error (readText r most).2.2 else .ok ((readText r most).1, r.drop (readText r most).2.1)
def pByte : Par Nat := fun r => match r with
  | [] => .error 10
  | c :: r => .ok (c.toNat, r)
theorem readText_k (l : BL) (m : Int) : (readText l m).2.2 = 0 → (readText l m).2.1 ≤ l.length := by
  unfold readText
  have := readNum_k l
  generalize readNum l = r at *
  obtain ⟨n, k, e⟩ := r
  simp only at this ⊢
  split
  · intro h; rename_i h2; exact absurd h h2
  · rename_i h2
    have := this (by simpa using h2)
    split
    · intro h; cases h
    · split
      · intro h; cases h
      · intro _; simp only; omega
theorem readText_len (l : BL) (m : Int) (hm : 0 ≤ m) : ((readText l m).1.length : Int) ≤ m := by
  unfold readText
  generalize readNum l = r
  obtain ⟨n, k, e⟩ := r
  simp only
  split
  · simpa using hm
  · split
    · simpa using hm
    · split
      · simpa using hm
      · simp; omega
theorem rn_e (r : BL) : (readNum r).2.2 = 0 ∨ (readNum r).2.2 = 10 ∨ (readNum r).2.2 = 11 := by
  unfold readNum
  cases h : rdN 0 0 r with
  | none => exact .inr (.inl rfl)
  | some t => rcases (rdN_k h).1 with h | h
              · exact .inl h
              · exact .inr (.inr h)
theorem kRN {s : St} {v : Value} {l : BL} (h : bytesOf v s = some l) : (run Try.prog (libL libT) hints) 74 [v] s = some (tup3 (readNum l).1 (readNum l).2.1 (readNum l).2.2, s) := (known (g := gReadNum) rfl).trans (gReadNum_eq h)
theorem kRT {s : St} {v : Value} {l : BL} (h : bytesOf v s = some l) (hl : l.length ≤ 140737488355328) : (run Try.prog (libL libT) hints) 75 [v, .int .i64 480] s = some (tupT (readText l 480).1 (readText l 480).2.1 (readText l 480).2.2, s) := (known (g := gReadText) rfl).trans (gReadText_eq h (by omega) (by omega) (by omega))
theorem ret0 {s : St} : retV [] s = some (undef, s) := rfl

section
variable {N : Nat} {s : St} {v : Value} {x : BL × Int}
theorem fail_run (h : RdV N s v x) (hx : x.2 = 0) (e : Int) : (run Try.prog (libL libT) hints) 22 [rp N, .int .i64 e] s = some (undef, setR N v e s) := by
  have hz : (x.2 == 0) = true := by simp [hx]
  refine node_reader_fail_of rfl ?_
  unfold node_reader_fail
  simp only [rp_nil, rp_f1, h.ld1, h.st1, hz, ret0, n_bind, n_map, getL_0, getL_1, getL_2, getL_3, getL_4, getL_5, getL_6, getL_7, getL_8, getL_9, getL_10, getL_11, getL_12, condV_t, condV_f, guardV_tt, guardV_ff, guardV_tf, guardV_ft, guardV_u, apick_t, apick_f, exV_exit, exV_ret, lookE_same, joinK_eq, seqA_n, seqA_e, seqA_r, e_add, e_sub, e_mul, e_eql, e_neq, e_lss, e_leq, e_gtr, e_geq, e_conv, e_not, e_neg, and_guard, or_guard]
theorem fail_no (h : RdV N s v x) (hx : x.2 ≠ 0) (e : Int) : (run Try.prog (libL libT) hints) 22 [rp N, .int .i64 e] s = some (undef, s) := by
  have hz : (x.2 == 0) = false := by simp [hx]
  refine node_reader_fail_of rfl ?_
  unfold node_reader_fail
  simp only [rp_nil, rp_f1, h.ld1, h.st1, hz, ret0, n_bind, n_map, getL_0, getL_1, getL_2, getL_3, getL_4, getL_5, getL_6, getL_7, getL_8, getL_9, getL_10, getL_11, getL_12, condV_t, condV_f, guardV_tt, guardV_ff, guardV_tf, guardV_ft, guardV_u, apick_t, apick_f, exV_exit, exV_ret, lookE_same, joinK_eq, seqA_n, seqA_e, seqA_r, e_add, e_sub, e_mul, e_eql, e_neq, e_lss, e_leq, e_gtr, e_geq, e_conv, e_not, e_neg, and_guard, or_guard]
theorem rfail_run (h : RdV N s v x) (hx : x.2 = 0) (e : Int) : (run Try.prog (libL libT) hints) 24 [rp N, .int .i64 e] s = some (undef, setR N v e s) := by
  have hz : (x.2 == 0) = true := by simp [hx]
  refine ref13_R_fail_of rfl ?_
  unfold ref13_R_fail
  simp only [rp_nil, rp_f1, h.ld1, h.st1, hz, ret0, n_bind, n_map, getL_0, getL_1, getL_2, getL_3, getL_4, getL_5, getL_6, getL_7, getL_8, getL_9, getL_10, getL_11, getL_12, condV_t, condV_f, guardV_tt, guardV_ff, guardV_tf, guardV_ft, guardV_u, apick_t, apick_f, exV_exit, exV_ret, lookE_same, joinK_eq, seqA_n, seqA_e, seqA_r, e_add, e_sub, e_mul, e_eql, e_neq, e_lss, e_leq, e_gtr, e_geq, e_conv, e_not, e_neg, and_guard, or_guard]
theorem rfail_no (h : RdV N s v x) (hx : x.2 ≠ 0) (e : Int) : (run Try.prog (libL libT) hints) 24 [rp N, .int .i64 e] s = some (undef, s) := by
  have hz : (x.2 == 0) = false := by simp [hx]
  refine ref13_R_fail_of rfl ?_
  unfold ref13_R_fail
  simp only [rp_nil, rp_f1, h.ld1, h.st1, hz, ret0, n_bind, n_map, getL_0, getL_1, getL_2, getL_3, getL_4, getL_5, getL_6, getL_7, getL_8, getL_9, getL_10, getL_11, getL_12, condV_t, condV_f, guardV_tt, guardV_ff, guardV_tf, guardV_ft, guardV_u, apick_t, apick_f, exV_exit, exV_ret, lookE_same, joinK_eq, seqA_n, seqA_e, seqA_r, e_add, e_sub, e_mul, e_eql, e_neq, e_lss, e_leq, e_gtr, e_geq, e_conv, e_not, e_neg, and_guard, or_guard]
end

theorem number_run {N : Nat} {most : Nat} (hm : most < 18446744073709551616) : Reads N (fun s => (run Try.prog (libL libT) hints) 46 [rp N, .int .u64 (most : Int)] s) false (oNat .u64 most) (pNum most) := by
  intro s x ⟨v, h⟩
  have hr1 : ∀ (n : Int) (s : St), retV [.int .u64 n] s = some (.int .u64 n, s) := fun n s => ret1 rfl
  by_cases hx : x.2 = 0
  · have hz : (x.2 != 0) = false := by simp [hx]
    have hrn := rn_e x.1
    have hrk := readNum_k x.1
    have hk := kRN h.byt
    by_cases he : (readNum x.1).2.2 = 0
    · have h1 : ((0 : Int) == 0) = true := rfl
      have h2 : ((0 : Int) != 0) = false := rfl
      have h3 : ((11 : Int) != 0) = true := rfl
      rw [he] at hk
      by_cases hn : most < (readNum x.1).1
      · have hd : decide (((readNum x.1).1 : Int) > (most : Int)) = true := by simp; omega
        refine ⟨0, .int .u64 0, _, _, (x.1, 11), node_reader_number_of rfl ?_, h.seterr 11, setR_keep, rfl, ⟨rfl, Nat.zero_le _⟩, .of_err hx (by unfold pNum; rw [if_neg (by simp [he]), if_pos hn]) (e := 11) (by decide) rfl⟩
        unfold node_reader_number
        simp only [rp_nil, rp_f1, rp_f0, h.ld1, h.ld0, hz, octet_ReadNum_call, hk, x3_0, x3_1, x3_2, h1, hd, h3, node_reader_number.j0, node_reader_fail_call, fail_run h hx 11, hr1, Bool.true_and, n_bind, n_map, getL_0, getL_1, getL_2, getL_3, getL_4, getL_5, getL_6, getL_7, getL_8, getL_9, getL_10, getL_11, getL_12, condV_t, condV_f, guardV_tt, guardV_ff, guardV_tf, guardV_ft, guardV_u, apick_t, apick_f, exV_exit, exV_ret, lookE_same, joinK_eq, seqA_n, seqA_e, seqA_r, e_add, e_sub, e_mul, e_eql, e_neq, e_lss, e_leq, e_gtr, e_geq, e_conv, e_not, e_neg, and_guard, or_guard]
      · have hd : decide (((readNum x.1).1 : Int) > (most : Int)) = false := by simp; omega
        obtain ⟨u, g1, g2, g3⟩ := h.drop (hrk he).2 (k := .i64)
        refine ⟨(readNum x.1).1, .int .u64 ((readNum x.1).1 : Int), _, _, (x.1.drop (readNum x.1).2.1, x.2), node_reader_number_of rfl ?_, g3, setR_keep, rfl, ⟨rfl, by omega⟩, .of_ok hx (by unfold pNum; rw [if_neg (by simp [he]), if_neg hn]) (by rw [hx])⟩
        unfold node_reader_number
        simp only [rp_nil, rp_f1, rp_f0, h.ld1, h.ld0, hz, octet_ReadNum_call, hk, x3_0, x3_1, x3_2, h1, hd, h2, node_reader_number.j0, g1, g2, hr1, Bool.true_and, n_bind, n_map, getL_0, getL_1, getL_2, getL_3, getL_4, getL_5, getL_6, getL_7, getL_8, getL_9, getL_10, getL_11, getL_12, condV_t, condV_f, guardV_tt, guardV_ff, guardV_tf, guardV_ft, guardV_u, apick_t, apick_f, exV_exit, exV_ret, lookE_same, joinK_eq, seqA_n, seqA_e, seqA_r, e_add, e_sub, e_mul, e_eql, e_neq, e_lss, e_leq, e_gtr, e_geq, e_conv, e_not, e_neg, and_guard, or_guard]
    · have h1 : ((readNum x.1).2.2 == 0) = false := by simp [he]
      have h2 : ((readNum x.1).2.2 != 0) = true := by simp [he]
      refine ⟨0, .int .u64 0, _, _, (x.1, (readNum x.1).2.2), node_reader_number_of rfl ?_, h.seterr _, setR_keep, rfl, ⟨rfl, Nat.zero_le _⟩, .of_err hx (by unfold pNum; rw [if_pos he]) he rfl⟩
      unfold node_reader_number
      simp only [rp_nil, rp_f1, rp_f0, h.ld1, h.ld0, hz, octet_ReadNum_call, hk, x3_0, x3_1, x3_2, h1, h2, node_reader_number.j0, node_reader_fail_call, fail_run h hx, hr1, n_bind, n_map, getL_0, getL_1, getL_2, getL_3, getL_4, getL_5, getL_6, getL_7, getL_8, getL_9, getL_10, getL_11, getL_12, condV_t, condV_f, guardV_tt, guardV_ff, guardV_tf, guardV_ft, guardV_u, apick_t, apick_f, exV_exit, exV_ret, lookE_same, joinK_eq, seqA_n, seqA_e, seqA_r, e_add, e_sub, e_mul, e_eql, e_neq, e_lss, e_leq, e_gtr, e_geq, e_conv, e_not, e_neg, and_guard, or_guard]
  · have hz : (x.2 != 0) = true := by simp [hx]
    refine ⟨0, .int .u64 0, _, s, x, node_reader_number_of rfl ?_, ⟨v, h⟩, .refl _ _, rfl, ⟨rfl, Nat.zero_le _⟩, .stuck hx rfl⟩
    unfold node_reader_number
    simp only [rp_nil, rp_f1, h.ld1, hz, hr1, n_bind, n_map, getL_0, getL_1, getL_2, getL_3, getL_4, getL_5, getL_6, getL_7, getL_8, getL_9, getL_10, getL_11, getL_12, condV_t, condV_f, guardV_tt, guardV_ff, guardV_tf, guardV_ft, guardV_u, apick_t, apick_f, exV_exit, exV_ret, lookE_same, joinK_eq, seqA_n, seqA_e, seqA_r, e_add, e_sub, e_mul, e_eql, e_neq, e_lss, e_leq, e_gtr, e_geq, e_conv, e_not, e_neg, and_guard, or_guard]

theorem text_run {N : Nat} : Reads N (fun s => (run Try.prog (libL libT) hints) 51 [rp N] s) false oStr (pText 480) := by
  intro s x ⟨v, h⟩
  have hr1 : ∀ (k : BL) (s : St), retV [sv k] s = some (sv k, s) := fun n s => ret1 rfl
  have hr0 : ∀ (s : St), retV [.string ⟨#[]⟩] s = some (sv [], s) := fun s => ret1 rfl
  have own0 : ∀ lo hi s, oStr.own lo hi ([] : BL) s (cellsV (sv [])) := fun lo hi s => ⟨rfl, by simp⟩
  by_cases hx : x.2 = 0
  · have hz : (x.2 != 0) = false := by simp [hx]
    have hrk := readText_k x.1 480
    have hrl := readText_len x.1 480 (by decide)
    have hk := kRT h.byt h.small
    by_cases he2 : (readText x.1 480).2.2 = 2
    · have h1 : ((2 : Int) == 2) = true := rfl
      have h3 : ((11 : Int) != 0) = true := rfl
      rw [he2] at hk
      refine ⟨[], sv [], _, _, (x.1, 11), node_reader_text_of rfl ?_, h.seterr 11, setR_keep, rfl, own0 _ _ _, .of_err hx (by unfold pText; rw [if_pos he2]) (e := 11) (by decide) rfl⟩
      unfold node_reader_text
      simp only [rp_nil, rp_f1, rp_f0, h.ld1, h.ld0, hz, octet_ReadText_call, hk, xT_0, xT_1, xT_2, h1, h3, node_reader_text.j0, node_reader_fail_call, fail_run h hx 11, hr0, n_bind, n_map, getL_0, getL_1, getL_2, getL_3, getL_4, getL_5, getL_6, getL_7, getL_8, getL_9, getL_10, getL_11, getL_12, condV_t, condV_f, guardV_tt, guardV_ff, guardV_tf, guardV_ft, guardV_u, apick_t, apick_f, exV_exit, exV_ret, lookE_same, joinK_eq, seqA_n, seqA_e, seqA_r, e_add, e_sub, e_mul, e_eql, e_neq, e_lss, e_leq, e_gtr, e_geq, e_conv, e_not, e_neg, and_guard, or_guard]
    · have h1 : ((readText x.1 480).2.2 == 2) = false := by simp [he2]
      by_cases he : (readText x.1 480).2.2 = 0
      · have h2 : ((readText x.1 480).2.2 != 0) = false := by simp [he]
        obtain ⟨u, g1, g2, g3⟩ := h.drop (hrk he) (k := .i64)
        refine ⟨(readText x.1 480).1, sv (readText x.1 480).1, _, _, (x.1.drop (readText x.1 480).2.1, x.2), node_reader_text_of rfl ?_, g3, setR_keep, rfl, ⟨rfl, by unfold reachBytes; omega⟩, .of_ok hx (by unfold pText; rw [if_neg he2, if_neg (by simp [he])]) (by rw [hx])⟩
        unfold node_reader_text
        simp only [rp_nil, rp_f1, rp_f0, h.ld1, h.ld0, hz, octet_ReadText_call, hk, xT_0, xT_1, xT_2, h1, h2, node_reader_text.j0, g1, g2, hr1, n_bind, n_map, getL_0, getL_1, getL_2, getL_3, getL_4, getL_5, getL_6, getL_7, getL_8, getL_9, getL_10, getL_11, getL_12, condV_t, condV_f, guardV_tt, guardV_ff, guardV_tf, guardV_ft, guardV_u, apick_t, apick_f, exV_exit, exV_ret, lookE_same, joinK_eq, seqA_n, seqA_e, seqA_r, e_add, e_sub, e_mul, e_eql, e_neq, e_lss, e_leq, e_gtr, e_geq, e_conv, e_not, e_neg, and_guard, or_guard]
      · have h2 : ((readText x.1 480).2.2 != 0) = true := by simp [he]
        refine ⟨[], sv [], _, _, (x.1, (readText x.1 480).2.2), node_reader_text_of rfl ?_, h.seterr _, setR_keep, rfl, own0 _ _ _, .of_err hx (by unfold pText; rw [if_neg he2, if_pos he]) he rfl⟩
        unfold node_reader_text
        simp only [rp_nil, rp_f1, rp_f0, h.ld1, h.ld0, hz, octet_ReadText_call, hk, xT_0, xT_1, xT_2, h1, h2, node_reader_text.j0, node_reader_fail_call, fail_run h hx, hr0, n_bind, n_map, getL_0, getL_1, getL_2, getL_3, getL_4, getL_5, getL_6, getL_7, getL_8, getL_9, getL_10, getL_11, getL_12, condV_t, condV_f, guardV_tt, guardV_ff, guardV_tf, guardV_ft, guardV_u, apick_t, apick_f, exV_exit, exV_ret, lookE_same, joinK_eq, seqA_n, seqA_e, seqA_r, e_add, e_sub, e_mul, e_eql, e_neq, e_lss, e_leq, e_gtr, e_geq, e_conv, e_not, e_neg, and_guard, or_guard]
  · have hz : (x.2 != 0) = true := by simp [hx]
    refine ⟨[], sv [], _, s, x, node_reader_text_of rfl ?_, ⟨v, h⟩, .refl _ _, rfl, own0 _ _ _, .stuck hx rfl⟩
    unfold node_reader_text
    simp only [rp_nil, rp_f1, h.ld1, hz, hr0, n_bind, n_map, getL_0, getL_1, getL_2, getL_3, getL_4, getL_5, getL_6, getL_7, getL_8, getL_9, getL_10, getL_11, getL_12, condV_t, condV_f, guardV_tt, guardV_ff, guardV_tf, guardV_ft, guardV_u, apick_t, apick_f, exV_exit, exV_ret, lookE_same, joinK_eq, seqA_n, seqA_e, seqA_r, e_add, e_sub, e_mul, e_eql, e_neq, e_lss, e_leq, e_gtr, e_geq, e_conv, e_not, e_neg, and_guard, or_guard]
theorem byte_run {N : Nat} : Reads N (fun s => (run Try.prog (libL libT) hints) 44 [rp N] s) false (oNat .u8 255) pByte := by
  intro s x ⟨v, h⟩
  have hr1 : ∀ (n : Int) (s : St), retV [.int .u8 n] s = some (.int .u8 n, s) := fun n s => ret1 rfl
  by_cases hx : x.2 = 0
  · have hz : (x.2 == 0) = true := by simp [hx]
    have hz2 : (x.2 != 0) = false := by simp [hx]
    cases hl : x.1 with
    | nil =>
      have h1 : (((x.1.length : Nat) : Int) == 0) = true := by rw [hl]; rfl
      have h3 : ((10 : Int) != 0) = true := rfl
      obtain ⟨v', h'⟩ := h.seterr 10
      have l1 := h'.ld1
      refine ⟨0, .int .u8 0, _, _, (x.1, 10), node_reader_byte_of rfl ?_, ⟨v', h'⟩, setR_keep, rfl, ⟨rfl, Nat.zero_le _⟩, .of_err hx (by rw [hl]; rfl) (e := 10) (by decide) rfl⟩
      unfold node_reader_byte
      simp only [rp_nil, rp_f1, rp_f0, h.ld1, h.ld0, hz, bytes_len h.byt, h1, node_reader_byte.j0, node_reader_fail_call, fail_run h hx 10, l1, h3, hr1, Bool.true_and, n_bind, n_map, getL_0, getL_1, getL_2, getL_3, getL_4, getL_5, getL_6, getL_7, getL_8, getL_9, getL_10, getL_11, getL_12, condV_t, condV_f, guardV_tt, guardV_ff, guardV_tf, guardV_ft, guardV_u, apick_t, apick_f, exV_exit, exV_ret, lookE_same, joinK_eq, seqA_n, seqA_e, seqA_r, e_add, e_sub, e_mul, e_eql, e_neq, e_lss, e_leq, e_gtr, e_geq, e_conv, e_not, e_neg, and_guard, or_guard]
    | cons c r =>
      have h1 : (((x.1.length : Nat) : Int) == 0) = false := by rw [hl]; simp; omega
      obtain ⟨p, f1, f2⟩ := bytes_at h.byt (i := 0) (by rw [hl]; simp) (k := .i64)
      obtain ⟨u, g1, g2, g3⟩ := h.drop (i := 1) (by rw [hl]; simp) (k := .i64)
      have hc : x.1[0]'(by rw [hl]; simp) = c := by simp [hl]
      rw [hc] at f2
      have f1' : aindexS 1 v (.int .i64 0) = some p := f1
      have g1' : asliceV 1 v (some (.int .i64 1)) none none = some u := g1
      refine ⟨c.toNat, .int .u8 ((c.toNat : Nat) : Int), _, _, (x.1.drop 1, x.2), node_reader_byte_of rfl ?_, g3, setR_keep, rfl, ⟨rfl, by have := c.toNat_lt; omega⟩, .of_ok (r0 := r) hx (by rw [hl]; rfl) (by rw [hx, hl]; rfl)⟩
      unfold node_reader_byte
      simp only [rp_nil, rp_f1, rp_f0, h.ld1, h.ld0, hz, hz2, bytes_len h.byt, h1, node_reader_byte.j0, f1', f2, g1', g2, hr1, Bool.true_and, n_bind, n_map, getL_0, getL_1, getL_2, getL_3, getL_4, getL_5, getL_6, getL_7, getL_8, getL_9, getL_10, getL_11, getL_12, condV_t, condV_f, guardV_tt, guardV_ff, guardV_tf, guardV_ft, guardV_u, apick_t, apick_f, exV_exit, exV_ret, lookE_same, joinK_eq, seqA_n, seqA_e, seqA_r, e_add, e_sub, e_mul, e_eql, e_neq, e_lss, e_leq, e_gtr, e_geq, e_conv, e_not, e_neg, and_guard, or_guard]
  · have hz : (x.2 == 0) = false := by simp [hx]
    have hz2 : (x.2 != 0) = true := by simp [hx]
    refine ⟨0, .int .u8 0, _, s, x, node_reader_byte_of rfl ?_, ⟨v, h⟩, .refl _ _, rfl, ⟨rfl, Nat.zero_le _⟩, .stuck hx rfl⟩
    unfold node_reader_byte
    simp only [rp_nil, rp_f1, rp_f0, h.ld1, hz, hz2, node_reader_byte.j0, hr1, Bool.false_and, n_bind, n_map, getL_0, getL_1, getL_2, getL_3, getL_4, getL_5, getL_6, getL_7, getL_8, getL_9, getL_10, getL_11, getL_12, condV_t, condV_f, guardV_tt, guardV_ff, guardV_tf, guardV_ft, guardV_u, apick_t, apick_f, exV_exit, exV_ret, lookE_same, joinK_eq, seqA_n, seqA_e, seqA_r, e_add, e_sub, e_mul, e_eql, e_neq, e_lss, e_leq, e_gtr, e_geq, e_conv, e_not, e_neg, and_guard, or_guard]

end Go.Proofs.Ytamaapapaiopiaa.Ab

/- Nodes are read: lists, pairs, kids, entries. -/
namespace Go.Proofs.Ytamaapapaiopiaa.Ab
open Go

/-! ### So many of something -/
noncomputable def rowsB (n w : Nat) (z : List Value) (R : Caller) (T : List Value) (s : St) : Res :=
(abin Try.prog .lss 3 (.tmp 9) (.tmp 8) (getL T 4) (getL T 3)).bind fun v0 =>
condV v0
 ((anilCheck (getL T 0)).bind fun v1 =>
(afieldAddr 1 v1).bind fun v2 =>
(aload false 1 v2 s).bind fun v3 =>
(abin Try.prog .neq 30 (.tmp 14) (.const (.int .i64 0)) v3 (.int .i64 0)).bind fun v4 =>
condV v4
 (some (.ret, [(.slice none 0 0)], s))
 ((callV Try.prog R (getL T 1) [] s).bind fun r5 =>
(abuildSl n z 1 [(0, r5.1)] r5.2).bind fun r6 =>
(aappend n w (getL T 2) r6.1 r6.2).bind fun r7 =>
(abin Try.prog .add 3 (.tmp 9) (.const (.int .i64 1)) (getL T 4) (.int .i64 1)).bind fun v8 =>
some (.normal, [(getL T 0), (getL T 1), r7.1, (getL T 3), v8], r7.2)))
 (some (.exit 0, [(getL T 2)], s))

theorem rows_loop {α : Type} {O : OCod α} {B n w N : Nat} {z : List Value} {p : Par α} {one : Value} {ag : Bool} (hR : Reads N (fun s => callV Try.prog (run Try.prog (libL libT) hints) one [] s) ag O p) (hw : 0 < w) (hw2 : w ≤ 1000) (hB : B ≤ 1000) (hn : n = O.C.n) (hpos : 0 < n) (hn2 : n ≤ 1000) (hz : z.length = n) (hzl : z.all isLeaf = true) {cnt : Nat} (hcnt : cnt ≤ 1000) :
    ∀ (k i : Nat) (l : List α) (acc : Value) (s : St) (x : BL × Int) (lo : Nat), i + k = cnt → l.length = i → Rd N s x → N < lo → lo ≤ s.heap.length → OList O B lo s.heap.length l s acc → noTup acc = true →
      ∃ (ex : Ex) (u : Value) (s' : St) (y : BL × Int) (l' m : List α), loopL (rowsB n w z (run Try.prog (libL libT) hints)) [rp N, one, acc, .int .i64 (cnt : Int), .int .i64 (i : Int)] s = some (ex, [u], s') ∧ (ex = .exit 0 ∨ ex = .ret) ∧ Rd N s' y ∧ s.heap.length ≤ s'.heap.length ∧ (∀ b, b < lo → b ≠ N → s'.heap[b]? = s.heap[b]?) ∧ OList O B lo s'.heap.length l' s' u ∧ noTup u = true ∧ Does (p.rep k) x m y ∧ (y.2 = 0 → l' = l ++ m) := by
  intro k
  induction k with
  | zero =>
    intro i l acc s x lo hi hl hx hN hlo ho hacc
    have h1 : decide ((i : Int) < (cnt : Int)) = false := by simp; omega
    refine ⟨.exit 0, acc, s, x, l, [], ?_, .inl rfl, hx, Nat.le_refl _, fun _ _ _ => rfl, ho, hacc, .pure, fun _ => by simp⟩
    rw [loopL_eq]
    simp only [rowsB, h1, n_bind, n_map, getL_0, getL_1, getL_2, getL_3, getL_4, getL_5, getL_6, getL_7, getL_8, getL_9, getL_10, getL_11, getL_12, condV_t, condV_f, guardV_tt, guardV_ff, guardV_tf, guardV_ft, guardV_u, apick_t, apick_f, exV_exit, exV_ret, lookE_same, joinK_eq, seqA_n, seqA_e, seqA_r, e_add, e_sub, e_mul, e_eql, e_neq, e_lss, e_leq, e_gtr, e_geq, e_conv, e_not, e_neg, and_guard, or_guard]
  | succ k ih =>
    intro i l acc s x lo hi hl hx hN hlo ho hacc
    have h1 : decide ((i : Int) < (cnt : Int)) = true := by simp; omega
    obtain ⟨v, hv⟩ := id hx
    by_cases hx2 : x.2 = 0
    · have hz2 : (x.2 != 0) = false := by simp [hx2]
      obtain ⟨a, u1, cs1, s1, y1, g1, g2, g3, g5, g4, g6⟩ := hR s x hx
      rw [← (g5.cells (O.leaf g4)).1] at g4
      have g1' : callV Try.prog (run Try.prog (libL libT) hints) one [] s = some (u1, s1) := g1
      have ho1 : OList O B lo s.heap.length l s1 acc := ho.keep fun b hb1 hb2 => g3.2 b hb2 fun e => by have := Option.some.inj e; omega
      obtain ⟨r, f1, v', t, f2, f3, f4, f5, f6⟩ := OList.push (s0 := s) (w := w) (n := n) (z := z) ho1 (Nat.le_refl _) g3.1 hlo g4 hw hn hpos (by omega) hz hzl (by
        have : (l.length + 1) * w ≤ 1001 * 1000 := Nat.mul_le_mul (by omega) hw2
        omega) (by
        have : (l.length + 1) * B ≤ 1001 * 1000 := Nat.mul_le_mul (by omega) hB
        unfold reachBytes
        omega)
      have hy : Rd N t y1 := g2.keep fun b hb => f5 b (by have := g3.1; omega) (.inl (by omega))
      obtain ⟨ex, u, s', y, l', m, j1, j2, j3, j4, j5, j6, j7, j8, j9⟩ := ih (i + 1) (l ++ [a]) v' t y1 lo (by omega) (by simp [hl]) hy hN (by have := g3.1; omega) f3 f6
      refine ⟨ex, u, s', y, l', a :: m, ?_, j2, j3, by have := g3.1; omega, fun b hb1 hb2 => ?_, j6, j7, g6.bind (j8.bind .pure), fun h => by rw [j9 h]; simp⟩
      · rw [loopL_eq, ← j1]
        simp only [rowsB, h1, rp_nil, rp_f1, hv.ld1, hz2, g1', f1, f2, inc_i64 (show i < 140737488355328 by omega), n_bind, n_map, getL_0, getL_1, getL_2, getL_3, getL_4, getL_5, getL_6, getL_7, getL_8, getL_9, getL_10, getL_11, getL_12, condV_t, condV_f, guardV_tt, guardV_ff, guardV_tf, guardV_ft, guardV_u, apick_t, apick_f, exV_exit, exV_ret, lookE_same, joinK_eq, seqA_n, seqA_e, seqA_r, e_add, e_sub, e_mul, e_eql, e_neq, e_lss, e_leq, e_gtr, e_geq, e_conv, e_not, e_neg, and_guard, or_guard]
      · rw [j5 b hb1 hb2, f5 b (by have := g3.1; omega) (.inl hb1), g3.2 b (by omega) fun e => hb2 (Option.some.inj e).symm]
    · have hz2 : (x.2 != 0) = true := by simp [hx2]
      refine ⟨.ret, .slice none 0 0, s, x, [], [], ?_, .inr rfl, hx, Nat.le_refl _, fun _ _ _ => rfl, .nil, rfl, .stuck hx2 rfl, fun h => absurd h hx2⟩
      rw [loopL_eq]
      simp only [rowsB, h1, rp_nil, rp_f1, hv.ld1, hz2, n_bind, n_map, getL_0, getL_1, getL_2, getL_3, getL_4, getL_5, getL_6, getL_7, getL_8, getL_9, getL_10, getL_11, getL_12, condV_t, condV_f, guardV_tt, guardV_ff, guardV_tf, guardV_ft, guardV_u, apick_t, apick_f, exV_exit, exV_ret, lookE_same, joinK_eq, seqA_n, seqA_e, seqA_r, e_add, e_sub, e_mul, e_eql, e_neq, e_lss, e_leq, e_gtr, e_geq, e_conv, e_not, e_neg, and_guard, or_guard]
theorem rows_reads {α : Type} {O : OCod α} {B n w N : Nat} {z : List Value} {p : Par α} {one : Value} {ag : Bool} (hR : Reads N (fun s => callV Try.prog (run Try.prog (libL libT) hints) one [] s) ag O p) (hw : 0 < w) (hw2 : w ≤ 1000) (hB : B ≤ 1000) (hn : n = O.C.n) (hpos : 0 < n) (hn2 : n ≤ 1000) (hz : z.length = n) (hzl : z.all isLeaf = true) {cnt : Nat} (hcnt : cnt ≤ 1000) :
    Reads N (fun s => (loopL (rowsB n w z (run Try.prog (libL libT) hints)) [rp N, one, .slice none 0 0, .int .i64 (cnt : Int), .int .i64 0] s).bind fun r9 => exV r9.1 [(0, retV [(getL r9.2.1 0)] r9.2.2)] (retV [(getL r9.2.1 0)] r9.2.2)) false (O.list B) (p.rep cnt) := by
  intro s x hx
  obtain ⟨ex, u, s', y, l', m, h1, h2, h3, h4, h5, h6, h7, h8, h9⟩ := rows_loop hR hw hw2 hB hn hpos hn2 hz hzl hcnt cnt 0 [] (.slice none 0 0) s x s.heap.length (by omega) rfl hx hx.lt (Nat.le_refl _) .nil rfl
  have h1' : loopL (rowsB n w z (run Try.prog (libL libT) hints)) [rp N, one, .slice none 0 0, .int .i64 (cnt : Int), .int .i64 0] s = some (ex, [u], s') := h1
  refine ⟨l', u, [u], s', y, ?_, h3, ⟨h4, fun c hc hB => h5 c hc fun e => hB (by rw [e])⟩, rfl, ⟨u, rfl, h6⟩, h8.weaken fun h => by simpa using h9 h⟩
  simp only [h1', n_bind, getL_0]
  rcases h2 with rfl | rfl <;> simp only [exV_exit, exV_ret, lookE_same, ret1 h7]

abbrev oPr : OCod Rg := .ofC prC fun _ => True
abbrev oEn : OCod En := .ofC enC fun e => (Lit.int .u64 e.1).wf = true
abbrev oKid : OCod Int := .ofC (intC .i64) fun i => (Lit.int .i64 i).wf = true
def pPair : Par Rg := (pText 480).bind fun k => (pText 480).bind fun v => .pure (k, v)
def pKid : Par Int := (pNum 2147483647).bind fun n => .pure (n : Int)
def pEntry : Par En := (pNum 18446744073709551615).bind fun seq => pByte.bind fun k =>
  if k = 2 then (pText 480).bind fun a => (pText 480).bind fun b => .pure ((seq : Int), ⟨2, a, b, [], [], 0⟩)
  else if k = 3 then (pText 480).bind fun a => .pure ((seq : Int), ⟨3, a, [], [], [], 0⟩)
  else if k = 5 then (pText 480).bind fun a => (pText 480).bind fun b => .pure ((seq : Int), ⟨5, [], [], a, b, 0⟩)
  else .fail 11
def pBuf : Par (List En) := (pNum 480).bind fun n => pEntry.rep n
theorem ab_pair (x y : BL) : abuild Try.prog 45 [(0, sv x), (1, sv y)] = some (rv (x, y)) := by kernel_rfl
theorem str_val {lo hi : Nat} {a : BL} {s : St} {u : Value} {cs : List Value} (h : oStr.own lo hi a s cs) (g : Shape false u cs) : u = sv a ∧ a.length ≤ reachBytes := by
  obtain ⟨h1, h2⟩ := h
  have g : cs = [u] := g
  rw [g] at h1
  exact ⟨(List.cons.inj h1).1, h2⟩
theorem nat_val {k : IntKind} {m lo hi a : Nat} {s : St} {u : Value} {cs : List Value} (h : (oNat k m).own lo hi a s cs) (g : Shape false u cs) : u = .int k (a : Int) ∧ a ≤ m := by
  obtain ⟨h1, h2⟩ := h
  have g : cs = [u] := g
  rw [g] at h1
  exact ⟨(List.cons.inj h1).1, h2⟩
theorem pair_run {N : Nat} : Reads N (fun s => (run Try.prog (libL libT) hints) 47 [rp N] s) true oPr pPair := by
  intro s x hx
  obtain ⟨a, u1, c1, s1, y1, f1, f2, f3, f4, f5, f6⟩ := text_run s x hx
  obtain ⟨b, u2, c2, s2, y2, g1, g2, g3, g4, g5, g6⟩ := text_run s1 y1 f2
  obtain ⟨rfl, _⟩ := str_val f5 f4
  obtain ⟨rfl, _⟩ := str_val g5 g4
  refine ⟨(a, b), rv (a, b), _, s2, y2, node_reader_pair_of rfl ?_, g2, f3.trans g3, rfl, ⟨rfl, trivial⟩, f6.bind (g6.bind .pure)⟩
  have f1 : (run Try.prog (libL libT) hints) 51 [rp N] s = some (sv a, s1) := f1
  have g1 : (run Try.prog (libL libT) hints) 51 [rp N] s1 = some (sv b, s2) := g1
  unfold node_reader_pair
  simp only [node_reader_text_call, f1, g1, ab_pair, nil_sv, z_rv2, st_rv, ld_rv, n_bind, n_map, getL_0, getL_1, getL_2, getL_3, getL_4, getL_5, getL_6, getL_7, getL_8, getL_9, getL_10, getL_11, getL_12, condV_t, condV_f, guardV_tt, guardV_ff, guardV_tf, guardV_ft, guardV_u, apick_t, apick_f, exV_exit, exV_ret, lookE_same, joinK_eq, seqA_n, seqA_e, seqA_r, e_add, e_sub, e_mul, e_eql, e_neq, e_lss, e_leq, e_gtr, e_geq, e_conv, e_not, e_neg, and_guard, or_guard]
  exact ret1 rfl
theorem kid_run {N : Nat} : Reads N (fun s => (run Try.prog (libL libT) hints) 49 [rp N] s) false oKid pKid := by
  intro s x hx
  obtain ⟨a, u1, c1, s1, y1, f1, f2, f3, f4, f5, f6⟩ := number_run (most := 2147483647) (by decide) s x hx
  obtain ⟨rfl, h⟩ := nat_val f5 f4
  have hw : IntKind.wrap .i64 (a : Int) = (a : Int) := wrap_i64 (by omega) (by omega)
  have f1 : (run Try.prog (libL libT) hints) 46 [rp N, .int .u64 2147483647] s = some (.int .u64 (a : Int), s1) := f1
  refine ⟨(a : Int), .int .i64 (a : Int), _, s1, y1, node_reader_kid_of rfl ?_, f2, f3, rfl, ⟨rfl, by simp [Lit.wf, IntKind.signed, IntKind.bits, IntKind.min, IntKind.max]; omega⟩, f6.bind .pure⟩
  unfold node_reader_kid
  simp only [node_reader_number_call, f1, hw, n_bind, n_map, getL_0, getL_1, getL_2, getL_3, getL_4, getL_5, getL_6, getL_7, getL_8, getL_9, getL_10, getL_11, getL_12, condV_t, condV_f, guardV_tt, guardV_ff, guardV_tf, guardV_ft, guardV_u, apick_t, apick_f, exV_exit, exV_ret, lookE_same, joinK_eq, seqA_n, seqA_e, seqA_r, e_add, e_sub, e_mul, e_eql, e_neq, e_lss, e_leq, e_gtr, e_geq, e_conv, e_not, e_neg, and_guard, or_guard]
  exact ret1 rfl

/-! ### An entry -/
def enL (seq k : Int) (a b c d : BL) : List Value := [.int .u64 seq, .int .i64 k, sv a, sv b, sv c, sv d, .int .i64 0]
theorem enL_eq (seq k : Int) (a b c d : BL) : enL seq k a b c d = enC.enc (seq, ⟨k, a, b, c, d, 0⟩) := rfl
theorem ab_en (seq : Int) : abuild Try.prog 66 [(0, .int .u64 seq)] = some (.agg (enL seq 0 [] [] [] []).toArray) := by kernel_rfl
theorem new_en (s : St) : anew [(.int .u64 0), (.int .i64 0), (.string ⟨#[]⟩), (.string ⟨#[]⟩), (.string ⟨#[]⟩), (.string ⟨#[]⟩), (.int .i64 0)] s = some (.pointer (some ⟨s.heap.length, 0, none⟩), s.push (.row 0 (enL 0 0 [] [] [] []) .act)) := rfl
theorem ad_at {B i j : Nat} : afieldAddr i (.pointer (some ⟨B, j, none⟩)) = some (.pointer (some ⟨B, j + i, none⟩)) := rfl
theorem nil_at {B i : Nat} : anilCheck (.pointer (some ⟨B, i, none⟩)) = some (.pointer (some ⟨B, i, none⟩)) := rfl
theorem eq_nilS {o1 o2 : Operand} {b len cap : Nat} : abin Try.prog .eql 98 o1 o2 (.slice (some ⟨b, 0, none⟩) len cap) (.slice none 0 0) = some (.bool false) := by kernel_rfl
theorem eq_nilN {o1 o2 : Operand} : abin Try.prog .eql 98 o1 o2 (.slice none 0 0) (.slice none 0 0) = some (.bool true) := by kernel_rfl
theorem ptrs2 {B i j : Nat} (s : St) : abuildSl 1 [.pointer none] 2 [(0, .pointer (some ⟨B, i, none⟩)), (1, .pointer (some ⟨B, j, none⟩))] s = some (.slice (some ⟨s.heap.length, 0, none⟩) 2 2, s.push (.row 1 [.pointer (some ⟨B, i, none⟩), .pointer (some ⟨B, j, none⟩)] .act)) := rfl
theorem ptrs1 {B i : Nat} (s : St) : abuildSl 1 [.pointer none] 1 [(0, .pointer (some ⟨B, i, none⟩))] s = some (.slice (some ⟨s.heap.length, 0, none⟩) 1 1, s.push (.row 1 [.pointer (some ⟨B, i, none⟩)] .act)) := rfl
theorem own_push2 {α : Type} {v : α} {s : St} {B : Blk} : ownR s (v, s.push B) = some (v, s.push B) := by
  unfold ownR
  rw [if_pos (by rw [push_len]; omega)]
theorem fields_run {s : St} {B k : Nat} {seq : Int} {a b c d : BL} (h : s.heap[B]? = some (.row 0 (enL seq (k : Int) a b c d) .act)) : (run Try.prog (libL libT) hints) 65 [.pointer (some ⟨B, 1, none⟩)] s =
    some (if k = 2 then (.slice (some ⟨s.heap.length, 0, none⟩) 2 2, s.push (.row 1 [.pointer (some ⟨B, 2, none⟩), .pointer (some ⟨B, 3, none⟩)] .act))
      else if k = 3 then (.slice (some ⟨s.heap.length, 0, none⟩) 1 1, s.push (.row 1 [.pointer (some ⟨B, 2, none⟩)] .act))
      else if k = 5 then (.slice (some ⟨s.heap.length, 0, none⟩) 2 2, s.push (.row 1 [.pointer (some ⟨B, 4, none⟩), .pointer (some ⟨B, 5, none⟩)] .act))
      else (.slice none 0 0, s)) := by
  have h1 : aload false 1 (.pointer (some ⟨B, 1, none⟩)) s = some (.int .i64 (k : Int)) := ld_cell h (by simp) rfl
  have hr : ∀ a l c (s : St), retV [.slice a l c] s = some (.slice a l c, s) := fun a l c s => ret1 rfl
  refine node_fields_of rfl ?_
  unfold node_fields
  by_cases c2 : k = 2
  · have e2 : ((k : Int) == 2) = true := by simp [c2]
    simp only [nil_at, ad_at, Nat.add_zero, Nat.reduceAdd, h1, e2, if_pos c2, ptrs2, own_push2, hr, n_bind, n_map, getL_0, getL_1, getL_2, getL_3, getL_4, getL_5, getL_6, getL_7, getL_8, getL_9, getL_10, getL_11, getL_12, condV_t, condV_f, guardV_tt, guardV_ff, guardV_tf, guardV_ft, guardV_u, apick_t, apick_f, exV_exit, exV_ret, lookE_same, joinK_eq, seqA_n, seqA_e, seqA_r, e_add, e_sub, e_mul, e_eql, e_neq, e_lss, e_leq, e_gtr, e_geq, e_conv, e_not, e_neg, and_guard, or_guard]
  · have e2 : ((k : Int) == 2) = false := by simp; omega
    by_cases c3 : k = 3
    · have e3 : ((k : Int) == 3) = true := by simp [c3]
      simp only [nil_at, ad_at, Nat.add_zero, Nat.reduceAdd, h1, e2, e3, if_neg c2, if_pos c3, ptrs1, hr, n_bind, n_map, getL_0, getL_1, getL_2, getL_3, getL_4, getL_5, getL_6, getL_7, getL_8, getL_9, getL_10, getL_11, getL_12, condV_t, condV_f, guardV_tt, guardV_ff, guardV_tf, guardV_ft, guardV_u, apick_t, apick_f, exV_exit, exV_ret, lookE_same, joinK_eq, seqA_n, seqA_e, seqA_r, e_add, e_sub, e_mul, e_eql, e_neq, e_lss, e_leq, e_gtr, e_geq, e_conv, e_not, e_neg, and_guard, or_guard]
    · have e3 : ((k : Int) == 3) = false := by simp; omega
      by_cases c5 : k = 5
      · have e5 : ((k : Int) == 5) = true := by simp [c5]
        simp only [nil_at, ad_at, Nat.add_zero, Nat.reduceAdd, h1, e2, e3, e5, if_neg c2, if_neg c3, if_pos c5, ptrs2, own_push2, hr, n_bind, n_map, getL_0, getL_1, getL_2, getL_3, getL_4, getL_5, getL_6, getL_7, getL_8, getL_9, getL_10, getL_11, getL_12, condV_t, condV_f, guardV_tt, guardV_ff, guardV_tf, guardV_ft, guardV_u, apick_t, apick_f, exV_exit, exV_ret, lookE_same, joinK_eq, seqA_n, seqA_e, seqA_r, e_add, e_sub, e_mul, e_eql, e_neq, e_lss, e_leq, e_gtr, e_geq, e_conv, e_not, e_neg, and_guard, or_guard]
      · have e5 : ((k : Int) == 5) = false := by simp; omega
        simp only [nil_at, ad_at, Nat.add_zero, Nat.reduceAdd, h1, e2, e3, e5, if_neg c2, if_neg c3, if_neg c5, hr, n_bind, n_map, getL_0, getL_1, getL_2, getL_3, getL_4, getL_5, getL_6, getL_7, getL_8, getL_9, getL_10, getL_11, getL_12, condV_t, condV_f, guardV_tt, guardV_ff, guardV_tf, guardV_ft, guardV_u, apick_t, apick_f, exV_exit, exV_ret, lookE_same, joinK_eq, seqA_n, seqA_e, seqA_r, e_add, e_sub, e_mul, e_eql, e_neq, e_lss, e_leq, e_gtr, e_geq, e_conv, e_not, e_neg, and_guard, or_guard]

/-- one more text is read into the entry -/
theorem entry_step {N B M i : Nat} {s : St} {x : BL × Int} {cells : List Value} (hx : Rd N s x) (hN : N < M) (hM : M ≤ B) (h : s.heap[B]? = some (.row 0 cells .act)) (hi : i < cells.length) :
    ∃ (a : BL) (s1 : St) (y : BL × Int), (run Try.prog (libL libT) hints) 51 [rp N] s = some (sv a, s1) ∧ astore 1 (.pointer (some ⟨B, i, none⟩)) (sv a) s1 = some (s1.putB B (.row 0 (cells.set i (sv a)) .act)) ∧ Rd N (s1.putB B (.row 0 (cells.set i (sv a)) .act)) y ∧ Does (pText 480) x a y ∧
      (s1.putB B (.row 0 (cells.set i (sv a)) .act)).heap[B]? = some (.row 0 (cells.set i (sv a)) .act) ∧ (∀ b, b < s.heap.length → b ≠ N → b ≠ B → (s1.putB B (.row 0 (cells.set i (sv a)) .act)).heap[b]? = s.heap[b]?) ∧ FrM N M s (s1.putB B (.row 0 (cells.set i (sv a)) .act)) := by
  obtain ⟨a, u1, c1, s1, y1, f1, f2, f3, f4, f5, f6⟩ := text_run s x hx
  obtain ⟨rfl, _⟩ := str_val f5 f4
  have hB : B < s.heap.length := (List.getElem?_eq_some_iff.1 h).1
  have h1 : s1.heap[B]? = some (.row 0 cells .act) := by rw [f3.2 B hB fun e => by have := Option.some.inj e; omega]; exact h
  refine ⟨a, s1, y1, f1, st_cell h1 hi rfl rfl, f2.put (by omega), f6, putB_get (by have := f3.1; omega), fun b g1 g2 g3 => by rw [putB_ne g3, f3.2 b g1 fun e => g2 (Option.some.inj e).symm], (f3.frM (by omega)).trans (frM_put hM)⟩

theorem entry_run {N : Nat} : Reads N (fun s => (run Try.prog (libL libT) hints) 77 [rp N] s) true oEn pEntry := by
  intro s x hx
  obtain ⟨seq, u1, c1, s1, y1, f1, f2, f3, f4, f5, f6⟩ := number_run (most := 18446744073709551615) (by decide) s x hx
  obtain ⟨rfl, hseq⟩ := nat_val f5 f4
  have f1 : (run Try.prog (libL libT) hints) 46 [rp N, .int .u64 18446744073709551615] s = some (.int .u64 (seq : Int), s1) := f1
  have hwf : (Lit.int .u64 (seq : Int)).wf = true := by simp [Lit.wf, IntKind.signed, IntKind.bits, IntKind.min, IntKind.max]; omega
  have hN := hx.lt
  have hs1 : s.heap.length ≤ s1.heap.length := f3.1
  -- the entry in memory
  generalize hB : s1.heap.length = B at *
  have hst3 : astore 7 (.pointer (some ⟨B, 0, none⟩)) (.agg (enL seq 0 [] [] [] []).toArray) (s1.push (.row 0 (enL 0 0 [] [] [] []) .act)) = some ((s1.push (.row 0 (enL 0 0 [] [] [] []) .act)).putB B (.row 0 (enL seq 0 [] [] [] []) .act)) := by
    subst hB
    exact st_cells push_get rfl rfl rfl
  have hnew := new_en s1
  rw [hB] at hnew
  generalize hs3 : (s1.push (.row 0 (enL 0 0 [] [] [] []) .act)).putB B (.row 0 (enL seq 0 [] [] [] []) .act) = s3 at *
  have h3 : s3.heap[B]? = some (.row 0 (enL seq 0 [] [] [] []) .act) := by
    rw [← hs3]
    exact putB_get (by rw [push_len]; omega)
  have hl3 : s3.heap.length = B + 1 := by rw [← hs3, putB_len, push_len, hB]
  have fr3 : FrM N s.heap.length s s3 := by
    rw [← hs3]
    exact (f3.frM (Nat.le_refl _)).trans ((frM_push (by omega)).trans (frM_put (by omega)))
  have rd3 : Rd N s3 y1 := by
    rw [← hs3]
    exact (f2.push).put (by omega)
  obtain ⟨k, u4, c4, s4, y4, g1, g2, g3, g4, g5, g6⟩ := byte_run s3 y1 rd3
  obtain ⟨rfl, hk⟩ := nat_val g5 g4
  have g1 : (run Try.prog (libL libT) hints) 44 [rp N] s3 = some (.int .u8 (k : Int), s4) := g1
  have hw : IntKind.wrap .i64 (k : Int) = (k : Int) := wrap_i64 (by omega) (by omega)
  have h4 : s4.heap[B]? = some (.row 0 (enL seq 0 [] [] [] []) .act) := by rw [g3.2 B (by omega) fun e => by have := Option.some.inj e; omega]; exact h3
  have hst5 : astore 1 (.pointer (some ⟨B, 1, none⟩)) (.int .i64 (k : Int)) s4 = some (s4.putB B (.row 0 (enL seq k [] [] [] []) .act)) := st_cell h4 (by simp [enL]) rfl rfl
  have hl4 : B + 1 ≤ s4.heap.length := by have := g3.1; omega
  have h5 : (s4.putB B (.row 0 (enL seq k [] [] [] []) .act)).heap[B]? = some (.row 0 (enL seq k [] [] [] []) .act) := putB_get (by omega)
  have fr5 : FrM N s.heap.length s (s4.putB B (.row 0 (enL seq k [] [] [] []) .act)) := fr3.trans ((g3.frM (by omega)).trans (frM_put (by omega)))
  have rd5 : Rd N (s4.putB B (.row 0 (enL seq k [] [] [] []) .act)) y4 := g2.put (by omega)
  generalize hs5 : s4.putB B (.row 0 (enL seq k [] [] [] []) .act) = s5 at *
  have hl5 : B + 1 ≤ s5.heap.length := by rw [← hs5, putB_len]; exact hl4
  have hfl := fields_run h5
  have d00 : decide ((0 : Int) < ((0 : Nat) : Int)) = false := rfl
  have d01 : decide ((0 : Int) < ((1 : Nat) : Int)) = true := rfl
  have d11 : decide ((1 : Int) < ((1 : Nat) : Int)) = false := rfl
  have d02 : decide ((0 : Int) < ((2 : Nat) : Int)) = true := rfl
  have d12 : decide ((1 : Int) < ((2 : Nat) : Int)) = true := rfl
  have d22 : decide ((2 : Int) < ((2 : Nat) : Int)) = false := rfl
  have w01 : IntKind.wrap .i64 ((0 : Int) + 1) = 1 := rfl
  have w12 : IntKind.wrap .i64 ((1 : Int) + 1) = 2 := rfl
  have ln : ∀ (b : Nat) (n : Nat) (t : TypeId) (s : St), alenV (.slice t) (.slice (some ⟨b, 0, none⟩) n n) s = some (.int .i64 (n : Int)) := fun b n t s => rfl
  have ln0 : ∀ (t : TypeId) (s : St), alenV (.slice t) (.slice none 0 0) s = some (.int .i64 ((0 : Nat) : Int)) := fun t s => rfl
  have i0 : ∀ (b n : Nat), 0 < n → aindexS 1 (.slice (some ⟨b, 0, none⟩) n n) (.int .i64 0) = some (.pointer (some ⟨b, 0, none⟩)) := fun b n h => by simp [aindexS]; omega
  have i1 : ∀ (b n : Nat), 1 < n → aindexS 1 (.slice (some ⟨b, 0, none⟩) n n) (.int .i64 1) = some (.pointer (some ⟨b, 1, none⟩)) := fun b n h => by simp [aindexS]; omega
  have hret : ∀ (cs : List Value) (s : St), retV [.agg cs.toArray] s = some (.agg cs.toArray, s) := fun cs s => ret1 rfl
  have fin : ∀ (kk : Int) (a b c d : BL), lstore 7 lptr (.agg (enL seq kk a b c d).toArray) (.agg #[(.int .u64 0), (.int .i64 0), (.string ⟨#[]⟩), (.string ⟨#[]⟩), (.string ⟨#[]⟩), (.string ⟨#[]⟩), (.int .i64 0)]) = some (.agg (enL seq kk a b c d).toArray) ∧ lload true 7 lptr (.agg (enL seq kk a b c d).toArray) = some (.agg (enL seq kk a b c d).toArray) := fun kk a b c d => ⟨rfl, rfl⟩
  by_cases c2 : k = 2
  · subst c2
    rw [if_pos rfl] at hfl
    have r6 : Rd N (s5.push (.row 1 [.pointer (some ⟨B, 2, none⟩), .pointer (some ⟨B, 3, none⟩)] .act)) y4 := rd5.push
    have h6 : (s5.push (.row 1 [.pointer (some ⟨B, 2, none⟩), .pointer (some ⟨B, 3, none⟩)] .act)).heap[B]? = some (.row 0 (enL seq 2 [] [] [] []) .act) := by rw [push_old (by omega)]; exact h5
    have fr6 : FrM N s.heap.length s (s5.push (.row 1 [.pointer (some ⟨B, 2, none⟩), .pointer (some ⟨B, 3, none⟩)] .act)) := fr5.trans (frM_push (by have := fr5.1; omega))
    have p6 : (s5.push (.row 1 [.pointer (some ⟨B, 2, none⟩), .pointer (some ⟨B, 3, none⟩)] .act)).heap[s5.heap.length]? = some (.row 1 [.pointer (some ⟨B, 2, none⟩), .pointer (some ⟨B, 3, none⟩)] .act) := push_get
    generalize hs6 : s5.push (.row 1 [.pointer (some ⟨B, 2, none⟩), .pointer (some ⟨B, 3, none⟩)] .act) = s6 at *
    have hl6 : s5.heap.length < s6.heap.length := by rw [← hs6, push_len]; omega
    obtain ⟨a, s7, y7, j1, j2, j3, j4, j5, j6, j7⟩ := entry_step (M := s.heap.length) (i := 2) r6 hN (by omega) h6 (by simp [enL])
    have l0 := ld_cell (i := 0) p6 (by simp) rfl
    generalize hs8 : s7.putB B _ = s8 at *
    have p8 := j6 _ hl6 (by omega) (by omega)
    rw [p6] at p8
    obtain ⟨b, s9, y9, k1, k2, k3, k4, k5, k6, k7⟩ := entry_step (M := s.heap.length) (i := 3) j3 hN (by omega) j5 (by simp [enL])
    have l1 := ld_cell (i := 1) p8 (by simp) rfl
    generalize hs10 : s9.putB B _ = s10 at *
    have e10 : ((enL seq 2 [] [] [] []).set 2 (sv a)).set 3 (sv b) = enL seq 2 a b [] [] := rfl
    rw [e10] at k5
    have l10 := ld_cells (m := 7) k5 (by simp) rfl
    refine ⟨((seq : Int), ⟨2, a, b, [], [], 0⟩), .agg (enL seq 2 a b [] []).toArray, _, s10, y9, node_reader_entry_of rfl ?_, k3, (fr6.trans (j7.trans k7)).keep, rfl, ⟨rfl, hwf⟩, f6.bind (g6.bind ?_)⟩
    · have hfl : (run Try.prog (libL libT) hints) 65 [.pointer (some ⟨B, 1, none⟩)] s5 = some (.slice (some ⟨s5.heap.length, 0, none⟩) 2 2, s6) := hfl
      unfold node_reader_entry
      simp only [node_reader_number_call, f1, ab_en, hnew, hst3, node_reader_byte_call, g1, hw, ad_at, Nat.zero_add, Nat.add_zero, hst5, node_fields_call, hfl, eq_nilS, node_reader_entry.j0, ln, n_bind, n_map, getL_0, getL_1, getL_2, getL_3, getL_4, getL_5, getL_6, getL_7, getL_8, getL_9, getL_10, getL_11, getL_12, condV_t, condV_f, guardV_tt, guardV_ff, guardV_tf, guardV_ft, guardV_u, apick_t, apick_f, exV_exit, exV_ret, lookE_same, joinK_eq, seqA_n, seqA_e, seqA_r, e_add, e_sub, e_mul, e_eql, e_neq, e_lss, e_leq, e_gtr, e_geq, e_conv, e_not, e_neg, and_guard, or_guard]
      rw [loopL_eq]
      simp only [node_reader_entry.b0, d02, i0 _ 2 (by decide), l0, node_reader_text_call, j1, nil_at, j2, w01, n_bind, n_map, getL_0, getL_1, getL_2, getL_3, getL_4, getL_5, getL_6, getL_7, getL_8, getL_9, getL_10, getL_11, getL_12, condV_t, condV_f, guardV_tt, guardV_ff, guardV_tf, guardV_ft, guardV_u, apick_t, apick_f, exV_exit, exV_ret, lookE_same, joinK_eq, seqA_n, seqA_e, seqA_r, e_add, e_sub, e_mul, e_eql, e_neq, e_lss, e_leq, e_gtr, e_geq, e_conv, e_not, e_neg, and_guard, or_guard]
      rw [loopL_eq]
      simp only [node_reader_entry.b0, d12, i1 _ 2 (by decide), l1, node_reader_text_call, k1, nil_at, k2, w12, n_bind, n_map, getL_0, getL_1, getL_2, getL_3, getL_4, getL_5, getL_6, getL_7, getL_8, getL_9, getL_10, getL_11, getL_12, condV_t, condV_f, guardV_tt, guardV_ff, guardV_tf, guardV_ft, guardV_u, apick_t, apick_f, exV_exit, exV_ret, lookE_same, joinK_eq, seqA_n, seqA_e, seqA_r, e_add, e_sub, e_mul, e_eql, e_neq, e_lss, e_leq, e_gtr, e_geq, e_conv, e_not, e_neg, and_guard, or_guard]
      rw [loopL_eq]
      simp only [node_reader_entry.b0, d22, l10, fin, hret, n_bind, n_map, getL_0, getL_1, getL_2, getL_3, getL_4, getL_5, getL_6, getL_7, getL_8, getL_9, getL_10, getL_11, getL_12, condV_t, condV_f, guardV_tt, guardV_ff, guardV_tf, guardV_ft, guardV_u, apick_t, apick_f, exV_exit, exV_ret, lookE_same, joinK_eq, seqA_n, seqA_e, seqA_r, e_add, e_sub, e_mul, e_eql, e_neq, e_lss, e_leq, e_gtr, e_geq, e_conv, e_not, e_neg, and_guard, or_guard]
    · rw [if_pos rfl]
      exact j4.bind (k4.bind .pure)
  · by_cases c3 : k = 3
    · subst c3
      rw [if_neg (by decide), if_pos rfl] at hfl
      have r6 : Rd N (s5.push (.row 1 [.pointer (some ⟨B, 2, none⟩)] .act)) y4 := rd5.push
      have h6 : (s5.push (.row 1 [.pointer (some ⟨B, 2, none⟩)] .act)).heap[B]? = some (.row 0 (enL seq 3 [] [] [] []) .act) := by rw [push_old (by omega)]; exact h5
      have fr6 : FrM N s.heap.length s (s5.push (.row 1 [.pointer (some ⟨B, 2, none⟩)] .act)) := fr5.trans (frM_push (by have := fr5.1; omega))
      have p6 : (s5.push (.row 1 [.pointer (some ⟨B, 2, none⟩)] .act)).heap[s5.heap.length]? = some (.row 1 [.pointer (some ⟨B, 2, none⟩)] .act) := push_get
      generalize hs6 : s5.push (.row 1 [.pointer (some ⟨B, 2, none⟩)] .act) = s6 at *
      have hl6 : s5.heap.length < s6.heap.length := by rw [← hs6, push_len]; omega
      obtain ⟨a, s7, y7, j1, j2, j3, j4, j5, j6, j7⟩ := entry_step (M := s.heap.length) (i := 2) r6 hN (by omega) h6 (by simp [enL])
      have l0 := ld_cell (i := 0) p6 (by simp) rfl
      generalize hs8 : s7.putB B _ = s8 at *
      have e10 : (enL seq 3 [] [] [] []).set 2 (sv a) = enL seq 3 a [] [] [] := rfl
      rw [e10] at j5
      have l10 := ld_cells (m := 7) j5 (by simp) rfl
      refine ⟨((seq : Int), ⟨3, a, [], [], [], 0⟩), .agg (enL seq 3 a [] [] []).toArray, _, s8, y7, node_reader_entry_of rfl ?_, j3, (fr6.trans j7).keep, rfl, ⟨rfl, hwf⟩, f6.bind (g6.bind ?_)⟩
      · have hfl : (run Try.prog (libL libT) hints) 65 [.pointer (some ⟨B, 1, none⟩)] s5 = some (.slice (some ⟨s5.heap.length, 0, none⟩) 1 1, s6) := hfl
        unfold node_reader_entry
        simp only [node_reader_number_call, f1, ab_en, hnew, hst3, node_reader_byte_call, g1, hw, ad_at, Nat.zero_add, Nat.add_zero, hst5, node_fields_call, hfl, eq_nilS, node_reader_entry.j0, ln, n_bind, n_map, getL_0, getL_1, getL_2, getL_3, getL_4, getL_5, getL_6, getL_7, getL_8, getL_9, getL_10, getL_11, getL_12, condV_t, condV_f, guardV_tt, guardV_ff, guardV_tf, guardV_ft, guardV_u, apick_t, apick_f, exV_exit, exV_ret, lookE_same, joinK_eq, seqA_n, seqA_e, seqA_r, e_add, e_sub, e_mul, e_eql, e_neq, e_lss, e_leq, e_gtr, e_geq, e_conv, e_not, e_neg, and_guard, or_guard]
        rw [loopL_eq]
        simp only [node_reader_entry.b0, d01, i0 _ 1 (by decide), l0, node_reader_text_call, j1, nil_at, j2, w01, n_bind, n_map, getL_0, getL_1, getL_2, getL_3, getL_4, getL_5, getL_6, getL_7, getL_8, getL_9, getL_10, getL_11, getL_12, condV_t, condV_f, guardV_tt, guardV_ff, guardV_tf, guardV_ft, guardV_u, apick_t, apick_f, exV_exit, exV_ret, lookE_same, joinK_eq, seqA_n, seqA_e, seqA_r, e_add, e_sub, e_mul, e_eql, e_neq, e_lss, e_leq, e_gtr, e_geq, e_conv, e_not, e_neg, and_guard, or_guard]
        rw [loopL_eq]
        simp only [node_reader_entry.b0, d11, l10, fin, hret, n_bind, n_map, getL_0, getL_1, getL_2, getL_3, getL_4, getL_5, getL_6, getL_7, getL_8, getL_9, getL_10, getL_11, getL_12, condV_t, condV_f, guardV_tt, guardV_ff, guardV_tf, guardV_ft, guardV_u, apick_t, apick_f, exV_exit, exV_ret, lookE_same, joinK_eq, seqA_n, seqA_e, seqA_r, e_add, e_sub, e_mul, e_eql, e_neq, e_lss, e_leq, e_gtr, e_geq, e_conv, e_not, e_neg, and_guard, or_guard]
      · rw [if_neg (by decide), if_pos rfl]
        exact j4.bind .pure
    · by_cases c5 : k = 5
      · subst c5
        rw [if_neg (by decide), if_neg (by decide), if_pos rfl] at hfl
        have r6 : Rd N (s5.push (.row 1 [.pointer (some ⟨B, 4, none⟩), .pointer (some ⟨B, 5, none⟩)] .act)) y4 := rd5.push
        have h6 : (s5.push (.row 1 [.pointer (some ⟨B, 4, none⟩), .pointer (some ⟨B, 5, none⟩)] .act)).heap[B]? = some (.row 0 (enL seq 5 [] [] [] []) .act) := by rw [push_old (by omega)]; exact h5
        have fr6 : FrM N s.heap.length s (s5.push (.row 1 [.pointer (some ⟨B, 4, none⟩), .pointer (some ⟨B, 5, none⟩)] .act)) := fr5.trans (frM_push (by have := fr5.1; omega))
        have p6 : (s5.push (.row 1 [.pointer (some ⟨B, 4, none⟩), .pointer (some ⟨B, 5, none⟩)] .act)).heap[s5.heap.length]? = some (.row 1 [.pointer (some ⟨B, 4, none⟩), .pointer (some ⟨B, 5, none⟩)] .act) := push_get
        generalize hs6 : s5.push (.row 1 [.pointer (some ⟨B, 4, none⟩), .pointer (some ⟨B, 5, none⟩)] .act) = s6 at *
        have hl6 : s5.heap.length < s6.heap.length := by rw [← hs6, push_len]; omega
        obtain ⟨a, s7, y7, j1, j2, j3, j4, j5, j6, j7⟩ := entry_step (M := s.heap.length) (i := 4) r6 hN (by omega) h6 (by simp [enL])
        have l0 := ld_cell (i := 0) p6 (by simp) rfl
        generalize hs8 : s7.putB B _ = s8 at *
        have p8 := j6 _ hl6 (by omega) (by omega)
        rw [p6] at p8
        obtain ⟨b, s9, y9, k1, k2, k3, k4, k5, k6, k7⟩ := entry_step (M := s.heap.length) (i := 5) j3 hN (by omega) j5 (by simp [enL])
        have l1 := ld_cell (i := 1) p8 (by simp) rfl
        generalize hs10 : s9.putB B _ = s10 at *
        have e10 : ((enL seq 5 [] [] [] []).set 4 (sv a)).set 5 (sv b) = enL seq 5 [] [] a b := rfl
        rw [e10] at k5
        have l10 := ld_cells (m := 7) k5 (by simp) rfl
        refine ⟨((seq : Int), ⟨5, [], [], a, b, 0⟩), .agg (enL seq 5 [] [] a b).toArray, _, s10, y9, node_reader_entry_of rfl ?_, k3, (fr6.trans (j7.trans k7)).keep, rfl, ⟨rfl, hwf⟩, f6.bind (g6.bind ?_)⟩
        · have hfl : (run Try.prog (libL libT) hints) 65 [.pointer (some ⟨B, 1, none⟩)] s5 = some (.slice (some ⟨s5.heap.length, 0, none⟩) 2 2, s6) := hfl
          unfold node_reader_entry
          simp only [node_reader_number_call, f1, ab_en, hnew, hst3, node_reader_byte_call, g1, hw, ad_at, Nat.zero_add, Nat.add_zero, hst5, node_fields_call, hfl, eq_nilS, node_reader_entry.j0, ln, n_bind, n_map, getL_0, getL_1, getL_2, getL_3, getL_4, getL_5, getL_6, getL_7, getL_8, getL_9, getL_10, getL_11, getL_12, condV_t, condV_f, guardV_tt, guardV_ff, guardV_tf, guardV_ft, guardV_u, apick_t, apick_f, exV_exit, exV_ret, lookE_same, joinK_eq, seqA_n, seqA_e, seqA_r, e_add, e_sub, e_mul, e_eql, e_neq, e_lss, e_leq, e_gtr, e_geq, e_conv, e_not, e_neg, and_guard, or_guard]
          rw [loopL_eq]
          simp only [node_reader_entry.b0, d02, i0 _ 2 (by decide), l0, node_reader_text_call, j1, nil_at, j2, w01, n_bind, n_map, getL_0, getL_1, getL_2, getL_3, getL_4, getL_5, getL_6, getL_7, getL_8, getL_9, getL_10, getL_11, getL_12, condV_t, condV_f, guardV_tt, guardV_ff, guardV_tf, guardV_ft, guardV_u, apick_t, apick_f, exV_exit, exV_ret, lookE_same, joinK_eq, seqA_n, seqA_e, seqA_r, e_add, e_sub, e_mul, e_eql, e_neq, e_lss, e_leq, e_gtr, e_geq, e_conv, e_not, e_neg, and_guard, or_guard]
          rw [loopL_eq]
          simp only [node_reader_entry.b0, d12, i1 _ 2 (by decide), l1, node_reader_text_call, k1, nil_at, k2, w12, n_bind, n_map, getL_0, getL_1, getL_2, getL_3, getL_4, getL_5, getL_6, getL_7, getL_8, getL_9, getL_10, getL_11, getL_12, condV_t, condV_f, guardV_tt, guardV_ff, guardV_tf, guardV_ft, guardV_u, apick_t, apick_f, exV_exit, exV_ret, lookE_same, joinK_eq, seqA_n, seqA_e, seqA_r, e_add, e_sub, e_mul, e_eql, e_neq, e_lss, e_leq, e_gtr, e_geq, e_conv, e_not, e_neg, and_guard, or_guard]
          rw [loopL_eq]
          simp only [node_reader_entry.b0, d22, l10, fin, hret, n_bind, n_map, getL_0, getL_1, getL_2, getL_3, getL_4, getL_5, getL_6, getL_7, getL_8, getL_9, getL_10, getL_11, getL_12, condV_t, condV_f, guardV_tt, guardV_ff, guardV_tf, guardV_ft, guardV_u, apick_t, apick_f, exV_exit, exV_ret, lookE_same, joinK_eq, seqA_n, seqA_e, seqA_r, e_add, e_sub, e_mul, e_eql, e_neq, e_lss, e_leq, e_gtr, e_geq, e_conv, e_not, e_neg, and_guard, or_guard]
        · rw [if_neg (by decide), if_neg (by decide), if_pos rfl]
          exact j4.bind (k4.bind .pure)
      · rw [if_neg c2, if_neg c3, if_neg c5] at hfl
        have hp : (if k = 2 then (pText 480).bind fun a => (pText 480).bind fun b => .pure ((seq : Int), (⟨2, a, b, [], [], 0⟩ : OpT))
            else if k = 3 then (pText 480).bind fun a => .pure ((seq : Int), ⟨3, a, [], [], [], 0⟩)
            else if k = 5 then (pText 480).bind fun a => (pText 480).bind fun b => .pure ((seq : Int), ⟨5, [], [], a, b, 0⟩)
            else .fail 11 : Par En) = .fail 11 := by rw [if_neg c2, if_neg c3, if_neg c5]
        have hfl : (run Try.prog (libL libT) hints) 65 [.pointer (some ⟨B, 1, none⟩)] s5 = some (.slice none 0 0, s5) := hfl
        obtain ⟨v5, hv5⟩ := id rd5
        by_cases hy : y4.2 = 0
        · have hf := fail_run hv5 hy 11
          have h6 : (setR N v5 11 s5).heap[B]? = some (.row 0 (enL seq k [] [] [] []) .act) := by
            unfold setR
            rw [putB_ne (by omega)]
            exact h5
          have l10 := ld_cells (m := 7) h6 (by simp) rfl
          refine ⟨((seq : Int), ⟨k, [], [], [], [], 0⟩), .agg (enL seq k [] [] [] []).toArray, _, setR N v5 11 s5, (y4.1, 11), node_reader_entry_of rfl ?_, hv5.seterr 11, (fr5.trans (setR_keep.frM (by have := fr5.1; omega))).keep, rfl, ⟨rfl, hwf⟩, f6.bind (g6.bind ?_)⟩
          · unfold node_reader_entry
            simp only [node_reader_number_call, f1, ab_en, hnew, hst3, node_reader_byte_call, g1, hw, ad_at, Nat.zero_add, Nat.add_zero, hst5, node_fields_call, hfl, eq_nilN, node_reader_fail_call, hf, node_reader_entry.j0, ln0, n_bind, n_map, getL_0, getL_1, getL_2, getL_3, getL_4, getL_5, getL_6, getL_7, getL_8, getL_9, getL_10, getL_11, getL_12, condV_t, condV_f, guardV_tt, guardV_ff, guardV_tf, guardV_ft, guardV_u, apick_t, apick_f, exV_exit, exV_ret, lookE_same, joinK_eq, seqA_n, seqA_e, seqA_r, e_add, e_sub, e_mul, e_eql, e_neq, e_lss, e_leq, e_gtr, e_geq, e_conv, e_not, e_neg, and_guard, or_guard]
            rw [loopL_eq]
            simp only [node_reader_entry.b0, d00, l10, fin, hret, n_bind, n_map, getL_0, getL_1, getL_2, getL_3, getL_4, getL_5, getL_6, getL_7, getL_8, getL_9, getL_10, getL_11, getL_12, condV_t, condV_f, guardV_tt, guardV_ff, guardV_tf, guardV_ft, guardV_u, apick_t, apick_f, exV_exit, exV_ret, lookE_same, joinK_eq, seqA_n, seqA_e, seqA_r, e_add, e_sub, e_mul, e_eql, e_neq, e_lss, e_leq, e_gtr, e_geq, e_conv, e_not, e_neg, and_guard, or_guard]
          · rw [hp]
            exact .fail (by decide) (by rw [if_pos hy])
        · have hf := fail_no hv5 hy 11
          have l10 := ld_cells (m := 7) h5 (by simp) rfl
          refine ⟨((seq : Int), ⟨k, [], [], [], [], 0⟩), .agg (enL seq k [] [] [] []).toArray, _, s5, y4, node_reader_entry_of rfl ?_, rd5, fr5.keep, rfl, ⟨rfl, hwf⟩, f6.bind (g6.bind ?_)⟩
          · unfold node_reader_entry
            simp only [node_reader_number_call, f1, ab_en, hnew, hst3, node_reader_byte_call, g1, hw, ad_at, Nat.zero_add, Nat.add_zero, hst5, node_fields_call, hfl, eq_nilN, node_reader_fail_call, hf, node_reader_entry.j0, ln0, n_bind, n_map, getL_0, getL_1, getL_2, getL_3, getL_4, getL_5, getL_6, getL_7, getL_8, getL_9, getL_10, getL_11, getL_12, condV_t, condV_f, guardV_tt, guardV_ff, guardV_tf, guardV_ft, guardV_u, apick_t, apick_f, exV_exit, exV_ret, lookE_same, joinK_eq, seqA_n, seqA_e, seqA_r, e_add, e_sub, e_mul, e_eql, e_neq, e_lss, e_leq, e_gtr, e_geq, e_conv, e_not, e_neg, and_guard, or_guard]
            rw [loopL_eq]
            simp only [node_reader_entry.b0, d00, l10, fin, hret, n_bind, n_map, getL_0, getL_1, getL_2, getL_3, getL_4, getL_5, getL_6, getL_7, getL_8, getL_9, getL_10, getL_11, getL_12, condV_t, condV_f, guardV_tt, guardV_ff, guardV_tf, guardV_ft, guardV_u, apick_t, apick_f, exV_exit, exV_ret, lookE_same, joinK_eq, seqA_n, seqA_e, seqA_r, e_add, e_sub, e_mul, e_eql, e_neq, e_lss, e_leq, e_gtr, e_geq, e_conv, e_not, e_neg, and_guard, or_guard]
          · rw [hp]
            exact .fail (by decide) (by rw [if_neg hy])

/-! ### Lists, and a node -/
theorem callM {f : FuncId} {N : Nat} (h : funcOk Try.prog f = true) {s : St} : callV Try.prog (run Try.prog (libL libT) hints) (.func (.func f) #[rp N] #[]) [] s = (run Try.prog (libL libT) hints) f [rp N] s := by simp [callV, h]
theorem Reads.call {α : Type} {N : Nat} {f : FuncId} {ag : Bool} {O : OCod α} {p : Par α} (h : Reads N (fun s => (run Try.prog (libL libT) hints) f [rp N] s) ag O p) (hf : funcOk Try.prog f = true) : Reads N (fun s => callV Try.prog (run Try.prog (libL libT) hints) (.func (.func f) #[rp N] #[]) [] s) ag O p := by
  have : (fun s => callV Try.prog (run Try.prog (libL libT) hints) (.func (.func f) #[rp N] #[]) [] s) = fun s => (run Try.prog (libL libT) hints) f [rp N] s := funext fun s => callM hf
  rw [this]
  exact h
theorem Reads.run {α : Type} {N : Nat} {f : St → Option (Value × St)} {g : St → Option (Value × St)} {ag : Bool} {O : OCod α} {p : Par α} (h : Reads N f ag O p) (hg : ∀ s r, f s = some r → g s = some r) : Reads N g ag O p := fun s x hx => by
  obtain ⟨a, u, cs, s', y, h1, h2⟩ := h s x hx
  exact ⟨a, u, cs, s', y, hg s _ h1, h2⟩
theorem rows_pair {N cnt : Nat} (hc : cnt ≤ 1000) : Reads N (fun s => (run Try.prog (libL libT) hints) 45 [rp N, .int .i64 (cnt : Int), .func (.func 47) #[rp N] #[]] s) false (oPr.list 32) (pPair.rep cnt) :=
  (rows_reads (n := 2) (w := 32) (z := [(.string ⟨#[]⟩), (.string ⟨#[]⟩)]) (pair_run.call node_reader_pair_ok) (by decide) (by decide) (by decide) rfl (by decide) (by decide) rfl rfl hc).run fun s r h => node_rows_api_Pair_of rfl h
theorem rows_kid {N cnt : Nat} (hc : cnt ≤ 1000) : Reads N (fun s => (run Try.prog (libL libT) hints) 48 [rp N, .int .i64 (cnt : Int), .func (.func 49) #[rp N] #[]] s) false (oKid.list 8) (pKid.rep cnt) :=
  (rows_reads (n := 1) (w := 8) (z := [.int .i64 0]) (kid_run.call node_reader_kid_ok) (by decide) (by decide) (by decide) rfl (by decide) (by decide) rfl rfl hc).run fun s r h => node_rows_int_of rfl h
theorem rows_text {N cnt : Nat} (hc : cnt ≤ 1000) : Reads N (fun s => (run Try.prog (libL libT) hints) 50 [rp N, .int .i64 (cnt : Int), .func (.func 51) #[rp N] #[]] s) false (oStr.list 16) ((pText 480).rep cnt) :=
  (rows_reads (n := 1) (w := 16) (z := [.string ⟨#[]⟩]) (text_run.call node_reader_text_ok) (by decide) (by decide) (by decide) rfl (by decide) (by decide) rfl rfl hc).run fun s r h => node_rows_string_of rfl h
theorem rows_entry {N cnt : Nat} (hc : cnt ≤ 1000) : Reads N (fun s => (run Try.prog (libL libT) hints) 76 [rp N, .int .i64 (cnt : Int), .func (.func 77) #[rp N] #[]] s) false (oEn.list 88) (pEntry.rep cnt) :=
  (rows_reads (n := 7) (w := 88) (z := [(.int .u64 0), (.int .i64 0), (.string ⟨#[]⟩), (.string ⟨#[]⟩), (.string ⟨#[]⟩), (.string ⟨#[]⟩), (.int .i64 0)]) (entry_run.call node_reader_entry_ok) (by decide) (by decide) (by decide) rfl (by decide) (by decide) rfl rfl hc).run fun s r h => node_rows_api_Entry_2_of rfl h
theorem seqR {α β : Type} {N : Nat} {s : St} {x y z : BL × Int} {a : α} {b : β} {s1 s2 : St} {cs : List Value} {O : OCod α} (h : O.own s.heap.length s1.heap.length a s1 cs) (k : Keep (some N) s1 s2) (hN : N < s.heap.length) : O.own s.heap.length s2.heap.length a s2 cs := own_more' h k hN (Nat.le_refl _)
theorem buffer_run {N : Nat} : Reads N (fun s => (run Try.prog (libL libT) hints) 53 [rp N] s) false (oEn.list 88) pBuf := by
  intro s x hx
  obtain ⟨n, u1, c1, s1, y1, f1, f2, f3, f4, f5, f6⟩ := number_run (most := 480) (by decide) s x hx
  obtain ⟨rfl, hn⟩ := nat_val f5 f4
  obtain ⟨l, u2, c2, s2, y2, g1, g2, g3, g4, g5, g6⟩ := rows_entry (cnt := n) (by omega) s1 y1 f2
  have f1 : (run Try.prog (libL libT) hints) 46 [rp N, .int .u64 480] s = some (.int .u64 (n : Int), s1) := f1
  have g1 : (run Try.prog (libL libT) hints) 76 [rp N, .int .i64 (n : Int), .func (.func 77) #[rp N] #[]] s1 = some (u2, s2) := g1
  have hw : IntKind.wrap .i64 (n : Int) = (n : Int) := wrap_i64 (by omega) (by omega)
  have hmk : amkFunc 77 [rp N] [] = some (.func (.func 77) #[rp N] #[]) := rfl
  refine ⟨l, u2, c2, s2, y2, node_reader_buffer_of rfl ?_, g2, f3.trans g3, g4, OCod.mono _ g5 f3.1 (Nat.le_refl _), f6.bind g6⟩
  unfold node_reader_buffer
  simp only [node_reader_number_call, f1, hw, hmk, node_rows_api_Entry_2_call, g1, n_bind, n_map, getL_0, getL_1, getL_2, getL_3, getL_4, getL_5, getL_6, getL_7, getL_8, getL_9, getL_10, getL_11, getL_12, condV_t, condV_f, guardV_tt, guardV_ff, guardV_tf, guardV_ft, guardV_u, apick_t, apick_f, exV_exit, exV_ret, lookE_same, joinK_eq, seqA_n, seqA_e, seqA_r, e_add, e_sub, e_mul, e_eql, e_neq, e_lss, e_leq, e_gtr, e_geq, e_conv, e_not, e_neg, and_guard, or_guard]
  exact ret1 (g4.cells (OCod.leaf _ g5)).2
theorem rows_buf {N cnt : Nat} (hc : cnt ≤ 1000) : Reads N (fun s => (run Try.prog (libL libT) hints) 52 [rp N, .int .i64 (cnt : Int), .func (.func 53) #[rp N] #[]] s) false ((oEn.list 88).list 24) (pBuf.rep cnt) :=
  (rows_reads (n := 1) (w := 24) (z := [.slice none 0 0]) (buffer_run.call node_reader_buffer_ok) (by decide) (by decide) (by decide) rfl (by decide) (by decide) rfl rfl hc).run fun s r h => node_rows_api_Entry_of rfl h

end Go.Proofs.Ytamaapapaiopiaa.Ab

/- Bytes are appended: numbers, texts, one by one. -/
namespace Go.Proofs.Ytamaapapaiopiaa.Ab
open Go

/-- what has been appended to: the same bytes and new ones, in a block of one's own; nothing else has changed -/
def App (N : Nat) (s : St) (x : Value) (m : List UInt8) (r : Value × St) : Prop :=
  Own N 1 r.2 r.1 (bv m) ∧ Keep (blkOf x) s r.2 ∧ Fresh s x r.1
theorem App.len {N : Nat} {s : St} {x : Value} {m : List UInt8} {r : Value × St} (h : App N s x m r) : s.heap.length ≤ r.2.heap.length := h.2.1.1
theorem App.start {N : Nat} {s : St} {x : Value} {l : List UInt8} (h : Own N 1 s x (bv l)) : App N s x l (x, s) := ⟨h, .refl _ _, .inl rfl⟩
theorem App.trans {N : Nat} {s : St} {x : Value} {m m2 : List UInt8} {r r2 : Value × St} (h : App N s x m r) (g : App N r.2 r.1 m2 r2) : App N s x m2 r2 := by
  refine ⟨g.1, ⟨Nat.le_trans h.2.1.1 g.2.1.1, fun c hc hB => ?_⟩, ?_⟩
  · rw [g.2.1.2 c (Nat.lt_of_lt_of_le hc h.2.1.1) fun e => ?_, h.2.1.2 c hc hB]
    rcases h.2.2 with h3 | h3
    · exact hB (by rw [← h3]; exact e)
    · exact absurd (h3 c e) (by omega)
  · rcases g.2.2 with g3 | g3
    · rcases h.2.2 with h3 | h3
      · exact .inl (g3.trans h3)
      · exact .inr fun c hc => h3 c (by rw [← g3]; exact hc)
    · exact .inr fun c hc => Nat.le_trans h.2.1.1 (g3 c hc)
theorem App.ext {N : Nat} {s : St} {x : Value} {l m : List UInt8} {r : Value × St} (h : App N s x m r) (ho : Own N 1 s x (bv l)) (hN : N ≤ s.heap.length) : Ext N s r.2 := h.2.1.ext hN fun c hc => (ho.blk c hc).1
theorem App.list {α : Type} {C : Cod α} {N : Nat} {s : St} {x v : Value} {m : List UInt8} {l : List α} {r : Value × St} (h : App N s x m r) (hv : listOf C v s = some l) (hne : ∀ c, blkOf v = some c → blkOf x ≠ some c) : listOf C v r.2 = some l := h.2.1.list hv hne
/-- a block that is not x's is not r's -/
theorem App.ne {N : Nat} {s : St} {x : Value} {m : List UInt8} {r : Value × St} (h : App N s x m r) {c : Nat} (hc : c < s.heap.length) (hne : blkOf x ≠ some c) : blkOf r.1 ≠ some c := fun e => by
  rcases h.2.2 with h3 | h3
  · exact hne (by rw [← h3]; exact e)
  · exact absurd (h3 c e) (by omega)
theorem App.push {N : Nat} {s : St} {x : Value} {m : List UInt8} {r : Value × St} {B : Blk} (h : App N (s.push B) x m r) : App N s x m r := by
  refine ⟨h.1, ⟨by have := h.2.1.1; rw [push_len] at this; omega, fun c hc hB => ?_⟩, ?_⟩
  · rw [h.2.1.2 c (by rw [push_len]; omega) hB]
    simp only [St.push]
    rw [List.getElem?_append_left hc]
  · rcases h.2.2 with h3 | h3
    · exact .inl h3
    · exact .inr fun c hc => by have := h3 c hc; rw [push_len] at this; omega
theorem own_pushB {N : Nat} {s : St} {x : Value} {cs : List Value} {B : Blk} (h : Own N 1 s x cs) : Own N 1 (s.push B) x cs := by
  rcases h with h | ⟨b, len, rfl, h1, h2, h3, h4⟩
  · exact .inl h
  · refine .inr ⟨b, len, rfl, h1, ?_, h3, h4⟩
    simp only [St.push]
    rw [List.getElem?_append_left (List.getElem?_eq_some_iff.1 h2).1]
    exact h2
/-- some bytes that lie elsewhere are appended -/
theorem app_bytes {N : Nat} {s : St} {x v : Value} {l m : List UInt8} (h : Own N 1 s x (bv l)) (hN : N ≤ s.heap.length) (hv : bytesOf v s = some m) (hb : l.length + m.length ≤ 140737488355328) : ∃ r, aappend 1 1 x v s = some r ∧ App N s x (l ++ m) r := by
  obtain ⟨v', s', h1, h2, _⟩ := own_more h hN hv hb
  obtain ⟨k1, k2⟩ := aappend_keep h1
  exact ⟨(v', s'), h1, h2, k1, k2⟩
theorem app_new {N : Nat} {s : St} {x : Value} {l m : List UInt8} (h : Own N 1 s x (bv l)) (hN : N ≤ s.heap.length) (hb : l.length + m.length ≤ 140737488355328) : ∃ r, aappend 1 1 x (newBytes m s).1 (newBytes m s).2 = some r ∧ App N s x (l ++ m) r := by
  have h1 : Own N 1 (newBytes m s).2 x (bv l) := own_pushB h
  obtain ⟨r, g1, g2⟩ := app_bytes h1 (Nat.le_trans hN (newBytes_ext (N := s.heap.length) (Nat.le_refl _)).1) newBytes_bytes hb
  exact ⟨r, g1, g2.push⟩
theorem ret_own {N : Nat} {r : Value × St} {m : List UInt8} (h : Own N 1 r.2 r.1 (bv m)) : retV [r.1] r.2 = some (r.1, r.2) := ret1 h.notup

theorem kn_num {n : Nat} (hn : n < 18446744073709551616) {s : St} : (run Try.prog (libL libT) hints) 84 [.int .u64 (n : Int)] s = some (newBytes (enc n) s) := (known (g := gNum) rfl).trans (gNum_eq hn)
theorem kn_refnum {n : Nat} (hn : n < 18446744073709551616) {s : St} : (run Try.prog (libL libT) hints) 68 [.int .u64 (n : Int)] s = some (newBytes (enc n) s) := (known (g := gNum) rfl).trans (gNum_eq hn)
def tB (k : BL) : BL := enc k.length ++ k
theorem textB_tB (k : BL) : textB ⟨k.toArray⟩ = tB k := rfl
theorem kn_text {k : BL} (hk : k.length ≤ 140737488300000) {s : St} : (run Try.prog (libL libT) hints) 85 [sv k] s = some (newBytes (tB k) s) := by
  have := gText_eq (t := ⟨k.toArray⟩) (s := s) hk
  rw [textB_tB] at this
  exact (known (g := gText) rfl).trans this
theorem kn_reftext {k : BL} (hk : k.length ≤ 140737488300000) {s : St} : (run Try.prog (libL libT) hints) 86 [sv k] s = some (newBytes (tB k) s) := by
  have := gText_eq (t := ⟨k.toArray⟩) (s := s) hk
  rw [textB_tB] at this
  exact (known (g := gText) rfl).trans this

section
variable {N : Nat} {s : St} {x : Value} {l : List UInt8} (h : Own N 1 s x (bv l)) (hN : N ≤ s.heap.length)
include h hN
theorem num_app {n : Nat} (hn : n < 18446744073709551616) (hb : l.length + (enc n).length ≤ 140737488355328) : ∃ r, (run Try.prog (libL libT) hints) 63 [x, .int .u64 (n : Int)] s = some r ∧ App N s x (l ++ enc n) r := by
  obtain ⟨r, g1, g2⟩ := app_new (m := enc n) h hN hb
  refine ⟨r, node_num_of rfl ?_, g2⟩
  unfold node_num
  simp only [octet_Num_call, kn_num hn, g1, ret_own g2.1, n_bind, n_map, getL_0, getL_1, getL_2, getL_3, getL_4, getL_5, getL_6, getL_7, getL_8, getL_9, getL_10, getL_11, getL_12, condV_t, condV_f, guardV_tt, guardV_ff, guardV_tf, guardV_ft, guardV_u, apick_t, apick_f, exV_exit, exV_ret, lookE_same, joinK_eq, seqA_n, seqA_e, seqA_r, e_add, e_sub, e_mul, e_eql, e_neq, e_lss, e_leq, e_gtr, e_geq, e_conv, e_not, e_neg, and_guard, or_guard]
theorem refnum_app {n : Nat} (hn : n < 9223372036854775808) (hb : l.length + (enc n).length ≤ 140737488355328) : ∃ r, (run Try.prog (libL libT) hints) 66 [x, .int .i64 (n : Int)] s = some r ∧ App N s x (l ++ enc n) r := by
  obtain ⟨r, g1, g2⟩ := app_new (m := enc n) h hN hb
  refine ⟨r, ref13_num_of rfl ?_, g2⟩
  have hw : IntKind.wrap .u64 (n : Int) = (n : Int) := uwrap rfl (Nat.lt_trans hn (by decide))
  unfold ref13_num
  simp only [hw, ref01_Num_call, kn_refnum (show n < 18446744073709551616 by omega), g1, ret_own g2.1, n_bind, n_map, getL_0, getL_1, getL_2, getL_3, getL_4, getL_5, getL_6, getL_7, getL_8, getL_9, getL_10, getL_11, getL_12, condV_t, condV_f, guardV_tt, guardV_ff, guardV_tf, guardV_ft, guardV_u, apick_t, apick_f, exV_exit, exV_ret, lookE_same, joinK_eq, seqA_n, seqA_e, seqA_r, e_add, e_sub, e_mul, e_eql, e_neq, e_lss, e_leq, e_gtr, e_geq, e_conv, e_not, e_neg, and_guard, or_guard]
theorem reftext_app {k : BL} (hb : l.length + (tB k).length ≤ 140737488300000) : ∃ r, (run Try.prog (libL libT) hints) 67 [x, sv k] s = some r ∧ App N s x (l ++ tB k) r := by
  have hk : k.length ≤ 140737488300000 := by unfold tB at hb; rw [List.length_append] at hb; omega
  obtain ⟨r, g1, g2⟩ := app_new (m := tB k) h hN (by omega)
  refine ⟨r, ref13_text_of rfl ?_, g2⟩
  unfold ref13_text
  simp only [ref01_Text_call, kn_reftext hk, g1, ret_own g2.1, n_bind, n_map, getL_0, getL_1, getL_2, getL_3, getL_4, getL_5, getL_6, getL_7, getL_8, getL_9, getL_10, getL_11, getL_12, condV_t, condV_f, guardV_tt, guardV_ff, guardV_tf, guardV_ft, guardV_u, apick_t, apick_f, exV_exit, exV_ret, lookE_same, joinK_eq, seqA_n, seqA_e, seqA_r, e_add, e_sub, e_mul, e_eql, e_neq, e_lss, e_leq, e_gtr, e_geq, e_conv, e_not, e_neg, and_guard, or_guard]
end
/-- several texts, one behind another -/
def tBs (l : List BL) : BL := l.flatMap tB
theorem tBs_cons (k : BL) (l : List BL) : tBs (k :: l) = tB k ++ tBs l := rfl
theorem text_loop {y : Value} {ks : List BL} (hl : ks.length < 140737488355328) : ∀ (rest : List BL) (i : Nat) (N : Nat) (s : St) (x : Value) (l : List UInt8), ks.drop i = rest → i ≤ ks.length → Own N 1 s x (bv l) → N ≤ s.heap.length → listOf strC y s = some ks → (∀ c, blkOf y = some c → c < s.heap.length ∧ blkOf x ≠ some c) → l.length + (tBs rest).length ≤ 140737488300000 →
    ∃ r, loopL (node_text.b0 (run Try.prog (libL libT) hints)) [x, y, .int .i64 ((ks.length : Nat) : Int), .int .i64 (i : Int)] s = some (.exit 0, [r.1], r.2) ∧ App N s x (l ++ tBs rest) r := by
  intro rest
  induction rest with
  | nil =>
    intro i N s x l hi hle ho hN hy hne hb
    have h1 : decide ((i : Int) < ((ks.length : Nat) : Int)) = false := by
      have := List.drop_eq_nil_iff.1 hi
      simp; omega
    refine ⟨(x, s), ?_, by rw [show tBs [] = [] from rfl, List.append_nil]; exact .start ho⟩
    rw [loopL_eq]
    simp only [node_text.b0, h1, n_bind, n_map, getL_0, getL_1, getL_2, getL_3, getL_4, getL_5, getL_6, getL_7, getL_8, getL_9, getL_10, getL_11, getL_12, condV_t, condV_f, guardV_tt, guardV_ff, guardV_tf, guardV_ft, guardV_u, apick_t, apick_f, exV_exit, exV_ret, lookE_same, joinK_eq, seqA_n, seqA_e, seqA_r, e_add, e_sub, e_mul, e_eql, e_neq, e_lss, e_leq, e_gtr, e_geq, e_conv, e_not, e_neg, and_guard, or_guard]
  | cons k rest ih =>
    intro i N s x l hi hle ho hN hy hne hb
    obtain ⟨hlt, he, hd⟩ := drop_get hi
    have h1 : decide ((i : Int) < ((ks.length : Nat) : Int)) = true := by simp; omega
    obtain ⟨a, h2, h3⟩ := str_at hy hlt
    rw [he] at h3
    rw [tBs_cons, List.length_append] at hb
    have hk : k.length ≤ 140737488300000 := by unfold tB at hb; rw [List.length_append] at hb; omega
    obtain ⟨r, g1, g2⟩ := app_new (m := tB k) ho hN (by omega)
    obtain ⟨r2, f1, f2⟩ := ih (i + 1) N r.2 r.1 (l ++ tB k) hd (by omega) g2.1 (Nat.le_trans hN g2.len) (g2.list hy fun c hc => (hne c hc).2) (fun c hc => ⟨Nat.lt_of_lt_of_le (hne c hc).1 g2.len, g2.ne (hne c hc).1 (hne c hc).2⟩) (by rw [List.length_append]; omega)
    refine ⟨r2, ?_, by rw [tBs_cons, ← List.append_assoc]; exact g2.trans f2⟩
    rw [loopL_eq]
    simp only [node_text.b0, h1, h2, h3, octet_Text_call, kn_text hk, g1, inc_i64 (show i < 140737488355328 by omega), n_bind, n_map, getL_0, getL_1, getL_2, getL_3, getL_4, getL_5, getL_6, getL_7, getL_8, getL_9, getL_10, getL_11, getL_12, condV_t, condV_f, guardV_tt, guardV_ff, guardV_tf, guardV_ft, guardV_u, apick_t, apick_f, exV_exit, exV_ret, lookE_same, joinK_eq, seqA_n, seqA_e, seqA_r, e_add, e_sub, e_mul, e_eql, e_neq, e_lss, e_leq, e_gtr, e_geq, e_conv, e_not, e_neg, and_guard, or_guard]
    exact f1
theorem text_app {N : Nat} {s : St} {x y : Value} {l : List UInt8} {ks : List BL} (ho : Own N 1 s x (bv l)) (hN : N ≤ s.heap.length) (hy : listOf strC y s = some ks) (hl : ks.length < 140737488355328) (hne : ∀ c, blkOf y = some c → c < s.heap.length ∧ blkOf x ≠ some c) (hb : l.length + (tBs ks).length ≤ 140737488300000) :
    ∃ r, (run Try.prog (libL libT) hints) 64 [x, y] s = some r ∧ App N s x (l ++ tBs ks) r := by
  obtain ⟨r, f1, f2⟩ := text_loop hl ks 0 N s x l rfl (Nat.zero_le _) ho hN hy hne hb
  refine ⟨r, node_text_of rfl ?_, f2⟩
  rw [show ((0 : Nat) : Int) = 0 from rfl] at f1
  unfold node_text
  simp only [list_len hy, f1, ret_own f2.1, n_bind, n_map, getL_0, getL_1, getL_2, getL_3, getL_4, getL_5, getL_6, getL_7, getL_8, getL_9, getL_10, getL_11, getL_12, condV_t, condV_f, guardV_tt, guardV_ff, guardV_tf, guardV_ft, guardV_u, apick_t, apick_f, exV_exit, exV_ret, lookE_same, joinK_eq, seqA_n, seqA_e, seqA_r, e_add, e_sub, e_mul, e_eql, e_neq, e_lss, e_leq, e_gtr, e_geq, e_conv, e_not, e_neg, and_guard, or_guard]

/-- the same in a region whose order is drawn -/
theorem app_drawn {N : Nat} {s : St} {x w : Value} {l m : List UInt8} {f : St → Option (Value × St)} (ho : Own N 1 s x (bv l)) (hN : N ≤ s.heap.length) (hw : blkV w = []) (hf : ∀ s', Own N 1 s' x (bv l) → N ≤ s'.heap.length → ∃ r, f s' = some r ∧ App N s' x m r) :
    ∃ r, ((f (⟨onlyL (blksV [x, w]) 0 s.heap⟩ : St)).bind fun r => some (r.1, r.2)).bind (appR (blksV [x, w]) [] s) = some r ∧ App N s x m r := by
  have hB : ∀ b, (blksV [x, w]).contains b = true ↔ blkOf x = some b := fun b => by
    rw [show blksV [x, w] = blkV x ++ (blkV w ++ []) from rfl, hw, List.nil_append, List.append_nil]
    rcases ho with ⟨rfl, _⟩ | ⟨c, len, rfl, _⟩
    · simp [blkV, blkOf]
    · simp only [blkV, blkOf, List.contains_cons, List.contains_nil, Bool.or_false, beq_iff_eq, Option.some.injEq]
      exact eq_comm
  generalize blksV [x, w] = B at *
  have ho1 : Own N 1 (⟨onlyL B 0 s.heap⟩ : St) x (bv l) := by
    rcases ho with h | ⟨c, len, rfl, h1, h2, h3, h4⟩
    · exact .inl h
    · refine .inr ⟨c, len, rfl, h1, ?_, h3, h4⟩
      have hc : B.contains c = true := (hB c).2 rfl
      simp only
      rw [onlyL_get, Nat.zero_add, if_pos hc, h2]
      rfl
  obtain ⟨r, g1, g2, g3, g4⟩ := hf _ ho1 (by simp only; rw [onlyL_length]; exact hN)
  have hlen : s.heap.length ≤ r.2.heap.length := by
    have := g3.1
    simp only at this
    rwa [onlyL_length] at this
  simp only [g1, Option.bind_some]
  have hc : (B.all (fun b => !([] : List Nat).contains b) && Nat.ble s.heap.length r.2.heap.length && apartL [] s.heap.length r.2.heap.length) = true := by
    simp only [Bool.and_eq_true, List.all_eq_true, Nat.ble_eq, apartL, List.all_nil, and_true]
    exact ⟨fun b _ => rfl, hlen⟩
  have g4' : blkOf r.1 = blkOf x ∨ ∀ c, blkOf r.1 = some c → s.heap.length ≤ c := by
    rcases g4 with h | h
    · exact .inl h
    · exact .inr fun c hc => by have := h c hc; simp only at this; rwa [onlyL_length] at this
  refine ⟨(r.1, ⟨mergeB B r.2.heap 0 s.heap ++ r.2.heap.drop s.heap.length⟩), by unfold appR; rw [if_pos hc], ?_, ⟨by simp [mergeB_length], fun c hc hne => ?_⟩, g4'⟩
  · rcases g2 with h | ⟨c, len, e, h1, h2, h3, h4⟩
    · exact .inl h
    · refine .inr ⟨c, len, e, h1, ?_, h3, h4⟩
      simp only
      by_cases hcs : c < s.heap.length
      · rw [List.getElem?_append_left (by rw [mergeB_length]; exact hcs), mergeB_get, Nat.zero_add, List.getElem?_eq_getElem hcs, Option.map_some]
        have : B.contains c = true := (hB c).2 (by
          have hb : blkOf r.1 = some c := by rw [e]; rfl
          rcases g4' with h | h
          · rw [← h]; exact hb
          · exact absurd (h c hb) (by omega))
        rw [if_pos this, h2, Option.getD_some]
      · rw [List.getElem?_append_right (by rw [mergeB_length]; omega), mergeB_length, List.getElem?_drop, show s.heap.length + (c - s.heap.length) = c by omega]
        exact h2
  · simp only
    rw [List.getElem?_append_left (by rw [mergeB_length]; exact hc), mergeB_get, Nat.zero_add, List.getElem?_eq_getElem hc, Option.map_some]
    have : ¬ B.contains c = true := fun e => hne ((hB c).1 e)
    rw [if_neg this]
theorem frzK_nil (s : St) : (⟨frzK [] 0 s.heap⟩ : St) = frzS s := rfl
theorem apart_nil {α : Type} {s : St} {r : α × St} : apartR [] s r = some (quietR s r) := rfl

end Go.Proofs.Ytamaapapaiopiaa.Ab

/- A node's bytes, however many. -/
namespace Go.Proofs.Ytamaapapaiopiaa.Ab
open Go

def wP (p : Rg) : BL := tBs [p.1, p.2]
def fldsE (o : OpT) : List BL := if o.kind = 2 then [o.key, o.val] else if o.kind = 3 then [o.key] else if o.kind = 5 then [o.lo, o.hi] else []
def wE (e : En) : BL := enc e.1.toNat ++ [UInt8.ofNat e.2.kind.toNat] ++ tBs (fldsE e.2)
def wBuf (l : List En) : BL := enc l.length ++ l.flatMap wE
def wholeB (n : Nd) : BL := if n.leaf = true then [1] ++ enc n.pairs.length ++ n.pairs.flatMap wP else [2] ++ enc n.kids.length ++ n.kids.flatMap (fun k => enc k.toNat) ++ tBs n.pivots ++ n.bufs.flatMap wBuf
theorem fm_cons {α : Type} (f : α → BL) (a : α) (l : List α) : (a :: l).flatMap f = f a ++ l.flatMap f := rfl

/-! ### What lies in memory stays -/
theorem list_blk {α : Type} {C : Cod α} {s : St} {v : Value} {l : List α} (h : listOf C v s = some l) : ∀ c, blkOf v = some c → c < s.heap.length := by
  intro c hc
  have h1 := (listOf_iff C).1 h
  unfold cellsOf at h1
  split at h1
  · cases hc
  · rename_i b o len cap
    split at h1
    · have e : b = c := Option.some.inj hc
      subst e
      unfold Ab.readN Ab.readRow at h1
      simp only [Option.bind_eq_some_iff] at h1
      obtain ⟨cs, h2, _⟩ := h1
      rcases Nat.lt_or_ge b s.heap.length with h3 | h3
      · exact h3
      · rw [List.getElem?_eq_none h3] at h2
        cases h2
    · cases h1
  · cases h1
/-- a list below is no list of one's own -/
theorem list_ne {α : Type} {C : Cod α} {s0 s : St} {x v : Value} {cs : List Value} {l : List α} (h : listOf C v s0 = some l) (ho : Own s0.heap.length 1 s x cs) (hN : s0.heap.length ≤ s.heap.length) : ∀ c, blkOf v = some c → c < s.heap.length ∧ blkOf x ≠ some c := fun c hc => by
  have := list_blk h c hc
  exact ⟨by omega, fun e => by have := (ho.blk c e).1; omega⟩
theorem App.get {N : Nat} {s : St} {x : Value} {m : List UInt8} {r : Value × St} (h : App N s x m r) {c : Nat} {B : Blk} (hc : s.heap[c]? = some B) (hne : blkOf x ≠ some c) : r.2.heap[c]? = some B ∧ blkOf r.1 ≠ some c := by
  have hlt := (List.getElem?_eq_some_iff.1 hc).1
  exact ⟨by rw [h.2.1.2 c hlt hne]; exact hc, h.ne hlt hne⟩
theorem one_byte {z : Value} (k : Nat) (hk : k < 256) (s : St) : abuildSl 1 [.int .u8 0] 1 [(0, .int .u8 (k : Int))] s = some (newBytes [UInt8.ofNat k] s) := by
  have h : ((UInt8.ofNat k).toNat : Int) = (k : Int) := by simp; omega
  have : bv [UInt8.ofNat k] = [.int .u8 (k : Int)] := by simp only [bv, List.map_cons, List.map_nil, h]
  unfold newBytes
  rw [this]
  rfl
theorem str1 {k : BL} (s : St) : abuildSl 1 [.string ⟨#[]⟩] 1 [(0, sv k)] s = some (.slice (some ⟨s.heap.length, 0, none⟩) 1 1, s.push (.row 1 [sv k] .act)) := rfl
theorem str2 {a b : BL} (s : St) : abuildSl 1 [.string ⟨#[]⟩] 2 [(0, sv a), (1, sv b)] s = some (.slice (some ⟨s.heap.length, 0, none⟩) 2 2, s.push (.row 1 [sv a, sv b] .act)) := rfl
theorem str_list {ks : List BL} {s : St} {n : Nat} (hn : ks.length = n) : listOf strC (.slice (some ⟨s.heap.length, 0, none⟩) n n) (s.push (.row 1 (ks.map sv) .act)) = some ks := by
  subst hn
  refine (listOf_iff _).2 ?_
  have he : encL strC ks = ks.map sv := by
    induction ks with
    | nil => rfl
    | cons k ks ih => rw [encL_cons, ih]; rfl
  have hn1 : strC.n = 1 := rfl
  simp only [cellsOf, Nat.le_refl, if_true, readN, Ab.readRow, push_get, Option.bind_some, hn1, Nat.mul_one, Nat.zero_add, List.length_map]
  rw [he, List.drop_zero]
  congr 1
  rw [show ks.length = (ks.map sv).length by simp, List.take_length]
/-- texts that have just been put in a list are appended -/
theorem text_new {N : Nat} {s : St} {x : Value} {l : List UInt8} (ks : List BL) {n : Nat} (hn : ks.length = n) (hl : ks.length < 1000) (ho : Own N 1 s x (bv l)) (hN : N ≤ s.heap.length) (hb : l.length + (tBs ks).length ≤ 140737488300000) :
    ∃ r, (run Try.prog (libL libT) hints) 64 [x, .slice (some ⟨s.heap.length, 0, none⟩) n n] (s.push (.row 1 (ks.map sv) .act)) = some r ∧ App N s x (l ++ tBs ks) r := by
  obtain ⟨r, h1, h2⟩ := text_app (own_pushB (B := .row 1 (ks.map sv) .act) ho) (by rw [push_len]; omega) (str_list hn) (by omega) (fun c hc => by
    have : c = s.heap.length := (Option.some.inj hc).symm
    subst this
    exact ⟨by rw [push_len]; omega, fun e => by have := (ho.blk _ e).2; omega⟩) hb
  exact ⟨r, h1, h2.push⟩
theorem tBs_one (k : BL) : tBs [k] = tB k := by rw [tBs_cons, show tBs [] = [] from rfl, List.append_nil]
theorem tBs_two (a b : BL) : tBs [a, b] = tB a ++ tB b := by rw [tBs_cons, tBs_one]
theorem own_ok {N : Nat} {s : St} {x : Value} {m : List UInt8} {r : Value × St} (h : App N s x m r) : ownR s (r.1, r.2) = some (r.1, r.2) := by
  unfold ownR
  rw [if_pos h.len]
theorem r_eta {α : Type} {o : Option (Value × St)} {r : Value × St} (h : o = some r) : o = some (r.1, r.2) := h

/-! ### A leaf -/
theorem pairs_loop {s0 : St} {y : Value} {ps : List Rg} (hy : listOf prC y s0 = some ps) (hl : ps.length < 140737488355328) : ∀ (rest : List Rg) (i : Nat) (s : St) (x : Value) (l : List UInt8), ps.drop i = rest → i ≤ ps.length → Own s0.heap.length 1 s x (bv l) → Ext s0.heap.length s0 s → l.length + (rest.flatMap wP).length ≤ 140737488300000 →
    ∃ r, loopL (node_whole.b0 (run Try.prog (libL libT) hints)) [x, y, .int .i64 ((ps.length : Nat) : Int), .int .i64 (i : Int)] s = some (.exit 0, [r.1], r.2) ∧ App s0.heap.length s x (l ++ rest.flatMap wP) r := by
  intro rest
  induction rest with
  | nil =>
    intro i s x l hi hle ho hx hb
    have h1 : decide ((i : Int) < ((ps.length : Nat) : Int)) = false := by
      have := List.drop_eq_nil_iff.1 hi
      simp; omega
    refine ⟨(x, s), ?_, by rw [List.flatMap_nil, List.append_nil]; exact .start ho⟩
    rw [loopL_eq]
    simp only [node_whole.b0, h1, n_bind, n_map, getL_0, getL_1, getL_2, getL_3, getL_4, getL_5, getL_6, getL_7, getL_8, getL_9, getL_10, getL_11, getL_12, condV_t, condV_f, guardV_tt, guardV_ff, guardV_tf, guardV_ft, guardV_u, apick_t, apick_f, exV_exit, exV_ret, lookE_same, joinK_eq, seqA_n, seqA_e, seqA_r, e_add, e_sub, e_mul, e_eql, e_neq, e_lss, e_leq, e_gtr, e_geq, e_conv, e_not, e_neg, and_guard, or_guard]
  | cons k rest ih =>
    intro i s x l hi hle ho hx hb
    obtain ⟨hlt, he, hd⟩ := drop_get hi
    have h1 : decide ((i : Int) < ((ps.length : Nat) : Int)) = true := by simp; omega
    obtain ⟨a, h2, h3⟩ := list_at (n := 2) (list_ext hx hy) hlt (k := .i64) rfl
    rw [he] at h3
    have h3' : aload true 2 a s = some (rv k) := h3
    rw [fm_cons, List.length_append] at hb
    obtain ⟨r, g1, g2⟩ := text_new [k.1, k.2] (n := 2) rfl (by simp) ho hx.1 (by unfold wP at hb; omega)
    obtain ⟨r2, f1, f2⟩ := ih (i + 1) r.2 r.1 (l ++ wP k) hd (by omega) g2.1 (hx.trans (g2.ext ho hx.1)) (by rw [List.length_append]; omega)
    refine ⟨r2, ?_, by rw [fm_cons, ← List.append_assoc]; exact g2.trans f2⟩
    have g1' : (run Try.prog (libL libT) hints) 64 [x, .slice (some ⟨s.heap.length, 0, none⟩) 2 2] (s.push (.row 1 [sv k.1, sv k.2] .act)) = some r := g1
    have hz : (Value.agg #[(.string ⟨#[]⟩), (.string ⟨#[]⟩)]) = rv ([], []) := rfl
    have l0 : lload false 1 lptr (rv k) = some (sv k.1) := rfl
    have l1 : lload false 1 (.pointer (some ⟨0, 1, none⟩)) (rv k) = some (sv k.2) := rfl
    rw [loopL_eq]
    simp only [node_whole.b0, h1, h2, h3', hz, st_rv, l0, l1, str2, node_text_call, g1', inc_i64 (show i < 140737488355328 by omega), n_bind, n_map, getL_0, getL_1, getL_2, getL_3, getL_4, getL_5, getL_6, getL_7, getL_8, getL_9, getL_10, getL_11, getL_12, condV_t, condV_f, guardV_tt, guardV_ff, guardV_tf, guardV_ft, guardV_u, apick_t, apick_f, exV_exit, exV_ret, lookE_same, joinK_eq, seqA_n, seqA_e, seqA_r, e_add, e_sub, e_mul, e_eql, e_neq, e_lss, e_leq, e_gtr, e_geq, e_conv, e_not, e_neg, and_guard, or_guard]
    exact f1
theorem rpairs_loop {s0 : St} {y : Value} {ps : List Rg} (hy : listOf prC y s0 = some ps) (hl : ps.length < 140737488355328) : ∀ (rest : List Rg) (i : Nat) (s : St) (x : Value) (l : List UInt8), ps.drop i = rest → i ≤ ps.length → Own s0.heap.length 1 s x (bv l) → Ext s0.heap.length s0 s → l.length + (rest.flatMap wP).length ≤ 140737488300000 →
    ∃ r, loopL (ref13_whole.b0 (run Try.prog (libL libT) hints)) [x, y, .int .i64 ((ps.length : Nat) : Int), .int .i64 (i : Int)] s = some (.exit 0, [r.1], r.2) ∧ App s0.heap.length s x (l ++ rest.flatMap wP) r := by
  intro rest
  induction rest with
  | nil =>
    intro i s x l hi hle ho hx hb
    have h1 : decide ((i : Int) < ((ps.length : Nat) : Int)) = false := by
      have := List.drop_eq_nil_iff.1 hi
      simp; omega
    refine ⟨(x, s), ?_, by rw [List.flatMap_nil, List.append_nil]; exact .start ho⟩
    rw [loopL_eq]
    simp only [ref13_whole.b0, h1, n_bind, n_map, getL_0, getL_1, getL_2, getL_3, getL_4, getL_5, getL_6, getL_7, getL_8, getL_9, getL_10, getL_11, getL_12, condV_t, condV_f, guardV_tt, guardV_ff, guardV_tf, guardV_ft, guardV_u, apick_t, apick_f, exV_exit, exV_ret, lookE_same, joinK_eq, seqA_n, seqA_e, seqA_r, e_add, e_sub, e_mul, e_eql, e_neq, e_lss, e_leq, e_gtr, e_geq, e_conv, e_not, e_neg, and_guard, or_guard]
  | cons k rest ih =>
    intro i s x l hi hle ho hx hb
    obtain ⟨hlt, he, hd⟩ := drop_get hi
    have h1 : decide ((i : Int) < ((ps.length : Nat) : Int)) = true := by simp; omega
    obtain ⟨a, h2, h3⟩ := list_at (n := 2) (list_ext hx hy) hlt (k := .i64) rfl
    rw [he] at h3
    have h3' : aload true 2 a s = some (rv k) := h3
    rw [fm_cons, List.length_append] at hb
    unfold wP at hb
    rw [tBs_two, List.length_append] at hb
    obtain ⟨r, g1, g2⟩ := reftext_app (k := k.1) ho hx.1 (by omega)
    obtain ⟨q, e1, e2⟩ := reftext_app (k := k.2) g2.1 (Nat.le_trans hx.1 g2.len) (by rw [List.length_append]; omega)
    have e3 : App s0.heap.length s x (l ++ wP k) q := by
      have := g2.trans e2
      rw [List.append_assoc, ← tBs_two] at this
      exact this
    obtain ⟨r2, f1, f2⟩ := ih (i + 1) q.2 q.1 (l ++ wP k) hd (by omega) e3.1 (hx.trans (e3.ext ho hx.1)) (by unfold wP; rw [tBs_two, List.length_append, List.length_append]; omega)
    refine ⟨r2, ?_, by rw [fm_cons, ← List.append_assoc]; exact e3.trans f2⟩
    have hz : (Value.agg #[(.string ⟨#[]⟩), (.string ⟨#[]⟩)]) = rv ([], []) := rfl
    have l0 : lload false 1 lptr (rv k) = some (sv k.1) := rfl
    have l1 : lload false 1 (.pointer (some ⟨0, 1, none⟩)) (rv k) = some (sv k.2) := rfl
    rw [loopL_eq]
    simp only [ref13_whole.b0, h1, h2, h3', hz, st_rv, l0, l1, ref13_text_call, g1, e1, own_ok g2, own_ok e2, inc_i64 (show i < 140737488355328 by omega), n_bind, n_map, getL_0, getL_1, getL_2, getL_3, getL_4, getL_5, getL_6, getL_7, getL_8, getL_9, getL_10, getL_11, getL_12, condV_t, condV_f, guardV_tt, guardV_ff, guardV_tf, guardV_ft, guardV_u, apick_t, apick_f, exV_exit, exV_ret, lookE_same, joinK_eq, seqA_n, seqA_e, seqA_r, e_add, e_sub, e_mul, e_eql, e_neq, e_lss, e_leq, e_gtr, e_geq, e_conv, e_not, e_neg, and_guard, or_guard]
    exact f1

/-! ### Kids, pivots -/
theorem kids_loop {s0 : St} {y P V : Value} {ks : List Int} (hy : listOf (intC .i64) y s0 = some ks) (hl : ks.length < 140737488355328) (hk : ∀ k ∈ ks, 0 ≤ k ∧ k < 9223372036854775808) : ∀ (rest : List Int) (i : Nat) (s : St) (x : Value) (l : List UInt8), ks.drop i = rest → i ≤ ks.length → Own s0.heap.length 1 s x (bv l) → Ext s0.heap.length s0 s → l.length + (rest.flatMap fun k => enc k.toNat).length ≤ 140737488300000 →
    ∃ r, loopL (node_whole.b1 (run Try.prog (libL libT) hints)) [P, x, y, .int .i64 ((ks.length : Nat) : Int), .int .i64 (i : Int), V] s = some (.exit 2, [P, r.1, V], r.2) ∧ App s0.heap.length s x (l ++ rest.flatMap fun k => enc k.toNat) r := by
  intro rest
  induction rest with
  | nil =>
    intro i s x l hi hle ho hx hb
    have h1 : decide ((i : Int) < ((ks.length : Nat) : Int)) = false := by
      have := List.drop_eq_nil_iff.1 hi
      simp; omega
    refine ⟨(x, s), ?_, by rw [List.flatMap_nil, List.append_nil]; exact .start ho⟩
    rw [loopL_eq]
    simp only [node_whole.b1, h1, n_bind, n_map, getL_0, getL_1, getL_2, getL_3, getL_4, getL_5, getL_6, getL_7, getL_8, getL_9, getL_10, getL_11, getL_12, condV_t, condV_f, guardV_tt, guardV_ff, guardV_tf, guardV_ft, guardV_u, apick_t, apick_f, exV_exit, exV_ret, lookE_same, joinK_eq, seqA_n, seqA_e, seqA_r, e_add, e_sub, e_mul, e_eql, e_neq, e_lss, e_leq, e_gtr, e_geq, e_conv, e_not, e_neg, and_guard, or_guard]
  | cons k rest ih =>
    intro i s x l hi hle ho hx hb
    obtain ⟨hlt, he, hd⟩ := drop_get hi
    have h1 : decide ((i : Int) < ((ks.length : Nat) : Int)) = true := by simp; omega
    obtain ⟨a, h2, h3⟩ := int_at (list_ext hx hy) hlt
    rw [he] at h3
    obtain ⟨k0, k1⟩ := hk k (by rw [← he]; exact List.getElem_mem _)
    rw [fm_cons, List.length_append] at hb
    have hkk : ((k.toNat : Nat) : Int) = k := Int.toNat_of_nonneg k0
    have hw : IntKind.wrap .u64 k = ((k.toNat : Nat) : Int) := by rw [← hkk]; exact uwrap rfl (Nat.lt_trans (show k.toNat < 9223372036854775808 by omega) (by decide))
    obtain ⟨r, g1, g2⟩ := num_app (n := k.toNat) ho hx.1 (by omega) (by omega)
    obtain ⟨r2, f1, f2⟩ := ih (i + 1) r.2 r.1 (l ++ enc k.toNat) hd (by omega) g2.1 (hx.trans (g2.ext ho hx.1)) (by rw [List.length_append]; omega)
    refine ⟨r2, ?_, by rw [fm_cons, ← List.append_assoc]; exact g2.trans f2⟩
    rw [loopL_eq]
    simp only [node_whole.b1, h1, h2, h3, hw, node_num_call, g1, inc_i64 (show i < 140737488355328 by omega), n_bind, n_map, getL_0, getL_1, getL_2, getL_3, getL_4, getL_5, getL_6, getL_7, getL_8, getL_9, getL_10, getL_11, getL_12, condV_t, condV_f, guardV_tt, guardV_ff, guardV_tf, guardV_ft, guardV_u, apick_t, apick_f, exV_exit, exV_ret, lookE_same, joinK_eq, seqA_n, seqA_e, seqA_r, e_add, e_sub, e_mul, e_eql, e_neq, e_lss, e_leq, e_gtr, e_geq, e_conv, e_not, e_neg, and_guard, or_guard]
    exact f1
theorem rkids_loop {s0 : St} {y P V : Value} {ks : List Int} (hy : listOf (intC .i64) y s0 = some ks) (hl : ks.length < 140737488355328) (hk : ∀ k ∈ ks, 0 ≤ k ∧ k < 9223372036854775808) : ∀ (rest : List Int) (i : Nat) (s : St) (x : Value) (l : List UInt8), ks.drop i = rest → i ≤ ks.length → Own s0.heap.length 1 s x (bv l) → Ext s0.heap.length s0 s → l.length + (rest.flatMap fun k => enc k.toNat).length ≤ 140737488300000 →
    ∃ r, loopL (ref13_whole.b1 (run Try.prog (libL libT) hints)) [P, x, y, .int .i64 ((ks.length : Nat) : Int), .int .i64 (i : Int), V] s = some (.exit 2, [P, r.1, V], r.2) ∧ App s0.heap.length s x (l ++ rest.flatMap fun k => enc k.toNat) r := by
  intro rest
  induction rest with
  | nil =>
    intro i s x l hi hle ho hx hb
    have h1 : decide ((i : Int) < ((ks.length : Nat) : Int)) = false := by
      have := List.drop_eq_nil_iff.1 hi
      simp; omega
    refine ⟨(x, s), ?_, by rw [List.flatMap_nil, List.append_nil]; exact .start ho⟩
    rw [loopL_eq]
    simp only [ref13_whole.b1, h1, n_bind, n_map, getL_0, getL_1, getL_2, getL_3, getL_4, getL_5, getL_6, getL_7, getL_8, getL_9, getL_10, getL_11, getL_12, condV_t, condV_f, guardV_tt, guardV_ff, guardV_tf, guardV_ft, guardV_u, apick_t, apick_f, exV_exit, exV_ret, lookE_same, joinK_eq, seqA_n, seqA_e, seqA_r, e_add, e_sub, e_mul, e_eql, e_neq, e_lss, e_leq, e_gtr, e_geq, e_conv, e_not, e_neg, and_guard, or_guard]
  | cons k rest ih =>
    intro i s x l hi hle ho hx hb
    obtain ⟨hlt, he, hd⟩ := drop_get hi
    have h1 : decide ((i : Int) < ((ks.length : Nat) : Int)) = true := by simp; omega
    obtain ⟨a, h2, h3⟩ := int_at (list_ext hx hy) hlt
    rw [he] at h3
    obtain ⟨k0, k1⟩ := hk k (by rw [← he]; exact List.getElem_mem _)
    rw [fm_cons, List.length_append] at hb
    have hkk : ((k.toNat : Nat) : Int) = k := Int.toNat_of_nonneg k0
    obtain ⟨r, g1, g2⟩ := refnum_app (n := k.toNat) ho hx.1 (by omega) (by omega)
    rw [hkk] at g1
    obtain ⟨r2, f1, f2⟩ := ih (i + 1) r.2 r.1 (l ++ enc k.toNat) hd (by omega) g2.1 (hx.trans (g2.ext ho hx.1)) (by rw [List.length_append]; omega)
    refine ⟨r2, ?_, by rw [fm_cons, ← List.append_assoc]; exact g2.trans f2⟩
    rw [loopL_eq]
    simp only [ref13_whole.b1, h1, h2, h3, ref13_num_call, g1, inc_i64 (show i < 140737488355328 by omega), n_bind, n_map, getL_0, getL_1, getL_2, getL_3, getL_4, getL_5, getL_6, getL_7, getL_8, getL_9, getL_10, getL_11, getL_12, condV_t, condV_f, guardV_tt, guardV_ff, guardV_tf, guardV_ft, guardV_u, apick_t, apick_f, exV_exit, exV_ret, lookE_same, joinK_eq, seqA_n, seqA_e, seqA_r, e_add, e_sub, e_mul, e_eql, e_neq, e_lss, e_leq, e_gtr, e_geq, e_conv, e_not, e_neg, and_guard, or_guard]
    exact f1
theorem rpivs_loop {s0 : St} {y P V : Value} {ks : List BL} (hy : listOf strC y s0 = some ks) (hl : ks.length < 140737488355328) : ∀ (rest : List BL) (i : Nat) (s : St) (x : Value) (l : List UInt8), ks.drop i = rest → i ≤ ks.length → Own s0.heap.length 1 s x (bv l) → Ext s0.heap.length s0 s → l.length + (tBs rest).length ≤ 140737488300000 →
    ∃ r, loopL (ref13_whole.b2 (run Try.prog (libL libT) hints)) [P, x, y, .int .i64 ((ks.length : Nat) : Int), .int .i64 (i : Int), V] s = some (.exit 4, [P, r.1, V], r.2) ∧ App s0.heap.length s x (l ++ tBs rest) r := by
  intro rest
  induction rest with
  | nil =>
    intro i s x l hi hle ho hx hb
    have h1 : decide ((i : Int) < ((ks.length : Nat) : Int)) = false := by
      have := List.drop_eq_nil_iff.1 hi
      simp; omega
    refine ⟨(x, s), ?_, by rw [show tBs [] = [] from rfl, List.append_nil]; exact .start ho⟩
    rw [loopL_eq]
    simp only [ref13_whole.b2, h1, n_bind, n_map, getL_0, getL_1, getL_2, getL_3, getL_4, getL_5, getL_6, getL_7, getL_8, getL_9, getL_10, getL_11, getL_12, condV_t, condV_f, guardV_tt, guardV_ff, guardV_tf, guardV_ft, guardV_u, apick_t, apick_f, exV_exit, exV_ret, lookE_same, joinK_eq, seqA_n, seqA_e, seqA_r, e_add, e_sub, e_mul, e_eql, e_neq, e_lss, e_leq, e_gtr, e_geq, e_conv, e_not, e_neg, and_guard, or_guard]
  | cons k rest ih =>
    intro i s x l hi hle ho hx hb
    obtain ⟨hlt, he, hd⟩ := drop_get hi
    have h1 : decide ((i : Int) < ((ks.length : Nat) : Int)) = true := by simp; omega
    obtain ⟨a, h2, h3⟩ := str_at (list_ext hx hy) hlt
    rw [he] at h3
    rw [tBs_cons, List.length_append] at hb
    obtain ⟨r, g1, g2⟩ := reftext_app (k := k) ho hx.1 (by omega)
    obtain ⟨r2, f1, f2⟩ := ih (i + 1) r.2 r.1 (l ++ tB k) hd (by omega) g2.1 (hx.trans (g2.ext ho hx.1)) (by rw [List.length_append]; omega)
    refine ⟨r2, ?_, by rw [tBs_cons, ← List.append_assoc]; exact g2.trans f2⟩
    rw [loopL_eq]
    simp only [ref13_whole.b2, h1, h2, h3, ref13_text_call, g1, inc_i64 (show i < 140737488355328 by omega), n_bind, n_map, getL_0, getL_1, getL_2, getL_3, getL_4, getL_5, getL_6, getL_7, getL_8, getL_9, getL_10, getL_11, getL_12, condV_t, condV_f, guardV_tt, guardV_ff, guardV_tf, guardV_ft, guardV_u, apick_t, apick_f, exV_exit, exV_ret, lookE_same, joinK_eq, seqA_n, seqA_e, seqA_r, e_add, e_sub, e_mul, e_eql, e_neq, e_lss, e_leq, e_gtr, e_geq, e_conv, e_not, e_neg, and_guard, or_guard]
    exact f1

end Go.Proofs.Ytamaapapaiopiaa.Ab

/- A node's bytes: its buffers; the whole of it. -/
namespace Go.Proofs.Ytamaapapaiopiaa.Ab
open Go

def okEn (e : En) : Prop := (0 ≤ e.1 ∧ e.1 < 18446744073709551616) ∧ (e.2.kind = 2 ∨ e.2.kind = 3 ∨ e.2.kind = 5) ∧ e.2.most = 0

/-! ### In a region whose order is drawn -/
theorem blks_mem {N : Nat} {s : St} {x w : Value} {cs : List Value} (ho : Own N 1 s x cs) (hw : blkV w = []) (b : Nat) : (blksV [x, w] ++ []).contains b = true ↔ blkOf x = some b := by
  rw [show blksV [x, w] ++ [] = (blkV x ++ (blkV w ++ [])) ++ [] from rfl, hw, List.nil_append, List.append_nil, List.append_nil]
  rcases ho with ⟨rfl, _⟩ | ⟨c, len, rfl, _⟩
  · simp [blkV, blkOf]
  · simp only [blkV, blkOf, List.contains_cons, List.contains_nil, Bool.or_false, beq_iff_eq, Option.some.injEq]
    exact eq_comm
theorem ld_frzK {K : List Nat} {s : St} {B n i : Nat} {cells : List Value} {c : Value} (h : s.heap[B]? = some (.row n cells .act)) (hK : K.contains B = false) (hc : cells[i]? = some c) : aload false 1 (.pointer (some ⟨B, i, none⟩)) (⟨frzK K 0 s.heap⟩ : St) = some c := by
  have h2 : (⟨frzK K 0 s.heap⟩ : St).heap[B]? = some (.row n cells .ro) := by
    simp only
    rw [frzK_get, Nat.zero_add, h, if_neg (by rw [hK]; simp)]
    rfl
  exact ld_cell h2 (by simp) hc
theorem apart_same {K : List Nat} {s : St} {v : Value} : apartR K s (v, (⟨frzK K 0 s.heap⟩ : St)) = some (v, s) := by
  unfold apartR
  have h1 : (⟨frzK K 0 s.heap⟩ : St).heap.length = s.heap.length := frzK_length
  have h2 : apartL K s.heap.length (⟨frzK K 0 s.heap⟩ : St).heap.length = true := by
    rw [h1]
    simp only [apartL, List.all_eq_true, Bool.or_eq_true, decide_eq_true_eq]
    intro x _
    omega
  simp only [if_pos h2, quietR]
  rw [List.drop_eq_nil_of_le (by rw [h1]; exact Nat.le_refl _), List.append_nil]
theorem apart_new {K : List Nat} {s : St} {m : List UInt8} (hK : ∀ b, K.contains b = true → b < s.heap.length) : apartR K s ((newBytes m (⟨frzK K 0 s.heap⟩ : St)).1, (newBytes m (⟨frzK K 0 s.heap⟩ : St)).2) = some (newBytes m s) := by
  unfold apartR
  have h1 : (frzK K 0 s.heap).length = s.heap.length := frzK_length
  have h2 : apartL K s.heap.length (newBytes m (⟨frzK K 0 s.heap⟩ : St)).2.heap.length = true := by
    simp only [apartL, List.all_eq_true, Bool.or_eq_true, decide_eq_true_eq]
    intro x hx
    exact .inl (hK x (by simpa using hx))
  simp only [if_pos h2]
  simp [quietR, newBytes, St.push, h1]
theorem num_drawn {N : Nat} {s : St} {x w : Value} {l : List UInt8} {n : Nat} (ho : Own N 1 s x (bv l)) (hN : N ≤ s.heap.length) (hw : blkV w = []) (hn : n < 18446744073709551616) (hb : l.length + (enc n).length ≤ 140737488355328) :
    ∃ r, (((run Try.prog (libL libT) hints) 63 [x, .int .u64 (n : Int)] (⟨onlyL (blksV [x, w]) 0 s.heap⟩ : St)).bind fun r => some (r.1, r.2)).bind (appR (blksV [x, w]) [] s) = some r ∧ App N s x (l ++ enc n) r :=
  app_drawn (f := fun s' => (run Try.prog (libL libT) hints) 63 [x, .int .u64 (n : Int)] s') ho hN hw fun s' h1 h2 => num_app h1 h2 hn hb
theorem push_put {s : St} {X Y : Blk} : (s.push X).putB s.heap.length Y = s.push Y := by
  simp only [St.push, St.putB]
  congr 1
  simp [List.set_append]

theorem ext_load {s0 s : St} (hx : Ext s0.heap.length s0 s) {p c : Value} (h : aload false 1 p s0 = some c) : aload false 1 p s = some c := by
  unfold aload at h ⊢
  split at h
  · rename_i b off
    simp only [Bool.false_eq_true, if_false, Option.bind_eq_some_iff] at h
    obtain ⟨cs, h1, h2⟩ := h
    have hb : b < s0.heap.length := by
      unfold Ab.readRow at h1
      rcases Nat.lt_or_ge b s0.heap.length with h3 | h3
      · exact h3
      · rw [List.getElem?_eq_none h3] at h1
        cases h1
    simp only [Bool.false_eq_true, if_false, Ext.readRow hx hb, h1, Option.bind_some]
    exact h2
  · cases h

/-! ### An entry -/
def ptrs (B : Nat) (l : List (Nat × BL)) : List Value := l.map fun p => .pointer (some ⟨B, p.1, none⟩)
theorem flds_gen {s : St} {B k : Nat} {seq : Int} {a b c d : BL} (hk : k = 2 ∨ k = 3 ∨ k = 5) (h : s.heap[B]? = some (.row 0 (enL seq (k : Int) a b c d) .act)) :
    ∃ full : List (Nat × BL), full.length ≤ 2 ∧ full.map (·.2) = fldsE ⟨(k : Int), a, b, c, d, 0⟩ ∧ (∀ p ∈ full, (enL seq (k : Int) a b c d)[p.1]? = some (sv p.2)) ∧ (run Try.prog (libL libT) hints) 65 [.pointer (some ⟨B, 1, none⟩)] s = some (.slice (some ⟨s.heap.length, 0, none⟩) full.length full.length, s.push (.row 1 (ptrs B full) .act)) := by
  have hr := fields_run h
  rcases hk with rfl | rfl | rfl
  · exact ⟨[(2, a), (3, b)], by simp, rfl, by simp [enL], hr⟩
  · exact ⟨[(2, a)], by simp, rfl, by simp [enL], hr⟩
  · exact ⟨[(4, c), (5, d)], by simp, rfl, by simp [enL], hr⟩
theorem flds_loop {B P N : Nat} {cs : List Value} {T1 T2 T3 T4 T5 T6 : Value} {full : List (Nat × BL)} (hl : full.length ≤ 2) (hf : ∀ p ∈ full, cs[p.1]? = some (sv p.2)) : ∀ (rest : List (Nat × BL)) (i : Nat) (s : St) (x : Value) (l : List UInt8), full.drop i = rest → i ≤ full.length → Own N 1 s x (bv l) → N ≤ s.heap.length → s.heap[P]? = some (.row 1 (ptrs B full) .act) → s.heap[B]? = some (.row 0 cs .act) → blkOf x ≠ some P → blkOf x ≠ some B → l.length + (tBs (rest.map (·.2))).length ≤ 140737488300000 →
    ∃ r, loopL (node_whole.b4 (run Try.prog (libL libT) hints)) [x, T1, T2, T3, T4, T5, T6, .slice (some ⟨P, 0, none⟩) full.length full.length, .int .i64 ((full.length : Nat) : Int), .int .i64 (i : Int)] s = some (.exit 8, [r.1, T1, T2, T3, T4, T5, T6], r.2) ∧ App N s x (l ++ tBs (rest.map (·.2))) r := by
  intro rest
  induction rest with
  | nil =>
    intro i s x l hi hle ho hN hP hB hxP hxB hb
    have h1 : decide ((i : Int) < ((full.length : Nat) : Int)) = false := by
      have := List.drop_eq_nil_iff.1 hi
      simp; omega
    refine ⟨(x, s), ?_, by rw [List.map_nil, show tBs [] = [] from rfl, List.append_nil]; exact .start ho⟩
    rw [loopL_eq]
    simp only [node_whole.b4, h1, n_bind, n_map, getL_0, getL_1, getL_2, getL_3, getL_4, getL_5, getL_6, getL_7, getL_8, getL_9, getL_10, getL_11, getL_12, condV_t, condV_f, guardV_tt, guardV_ff, guardV_tf, guardV_ft, guardV_u, apick_t, apick_f, exV_exit, exV_ret, lookE_same, joinK_eq, seqA_n, seqA_e, seqA_r, e_add, e_sub, e_mul, e_eql, e_neq, e_lss, e_leq, e_gtr, e_geq, e_conv, e_not, e_neg, and_guard, or_guard]
  | cons k rest ih =>
    intro i s x l hi hle ho hN hP hB hxP hxB hb
    obtain ⟨hlt, he, hd⟩ := drop_get hi
    have h1 : decide ((i : Int) < ((full.length : Nat) : Int)) = true := by simp; omega
    have h2 : aindexS 1 (.slice (some ⟨P, 0, none⟩) full.length full.length) (.int .i64 (i : Int)) = some (.pointer (some ⟨P, i, none⟩)) := by simp [aindexS]; omega
    have h3 : aload false 1 (.pointer (some ⟨P, i, none⟩)) s = some (.pointer (some ⟨B, k.1, none⟩)) := ld_cell hP (by simp) (by
      unfold ptrs
      rw [List.getElem?_map, List.getElem?_eq_getElem hlt, he]
      rfl)
    have h4 : aload false 1 (.pointer (some ⟨B, k.1, none⟩)) s = some (sv k.2) := ld_cell hB (by simp) (hf k (by rw [← he]; exact List.getElem_mem _))
    rw [List.map_cons, tBs_cons, List.length_append] at hb
    obtain ⟨r, g1, g2⟩ := text_new [k.2] (n := 1) rfl (by simp) ho hN (by rw [tBs_one]; omega)
    rw [tBs_one] at g2
    obtain ⟨p1, p2⟩ := g2.get hP hxP
    obtain ⟨b1, b2⟩ := g2.get hB hxB
    obtain ⟨r2, f1, f2⟩ := ih (i + 1) r.2 r.1 (l ++ tB k.2) hd (by omega) g2.1 (Nat.le_trans hN g2.len) p1 b1 p2 b2 (by rw [List.length_append]; omega)
    refine ⟨r2, ?_, by rw [List.map_cons, tBs_cons, ← List.append_assoc]; exact g2.trans f2⟩
    have g1' : (run Try.prog (libL libT) hints) 64 [x, .slice (some ⟨s.heap.length, 0, none⟩) 1 1] (s.push (.row 1 [sv k.2] .act)) = some r := g1
    rw [loopL_eq]
    simp only [node_whole.b4, h1, h2, h3, nil_at, h4, str1, node_text_call, g1', inc_i64 (show i < 140737488355328 by omega), n_bind, n_map, getL_0, getL_1, getL_2, getL_3, getL_4, getL_5, getL_6, getL_7, getL_8, getL_9, getL_10, getL_11, getL_12, condV_t, condV_f, guardV_tt, guardV_ff, guardV_tf, guardV_ft, guardV_u, apick_t, apick_f, exV_exit, exV_ret, lookE_same, joinK_eq, seqA_n, seqA_e, seqA_r, e_add, e_sub, e_mul, e_eql, e_neq, e_lss, e_leq, e_gtr, e_geq, e_conv, e_not, e_neg, and_guard, or_guard]
    exact f1
theorem entry_split {e : En} (h : okEn e) : ∃ (n k : Nat) (a b c d : BL), e = ((n : Int), ⟨(k : Int), a, b, c, d, 0⟩) ∧ n < 18446744073709551616 ∧ (k = 2 ∨ k = 3 ∨ k = 5) := by
  obtain ⟨seq, ⟨k, a, b, c, d, m⟩⟩ := e
  obtain ⟨⟨h1, h2⟩, h3, h4⟩ := h
  simp only at h1 h2 h3 h4
  subst h4
  refine ⟨seq.toNat, k.toNat, a, b, c, d, ?_, by omega, by omega⟩
  rw [Int.toNat_of_nonneg h1, Int.toNat_of_nonneg (by omega)]
theorem ents_loop {s0 : St} {y T1 T2 T3 : Value} {es : List En} (hy : listOf enC y s0 = some es) (hl : es.length < 140737488355328) (hk : ∀ e ∈ es, okEn e) : ∀ (rest : List En) (i : Nat) (s : St) (x : Value) (l : List UInt8), es.drop i = rest → i ≤ es.length → Own s0.heap.length 1 s x (bv l) → Ext s0.heap.length s0 s → l.length + (rest.flatMap wE).length ≤ 140737488300000 →
    ∃ r, loopL (node_whole.b3 (run Try.prog (libL libT) hints)) [x, T1, T2, T3, y, .int .i64 ((es.length : Nat) : Int), .int .i64 (i : Int)] s = some (.exit 6, [r.1, T1, T2, T3], r.2) ∧ App s0.heap.length s x (l ++ rest.flatMap wE) r := by
  intro rest
  induction rest with
  | nil =>
    intro i s x l hi hle ho hx hb
    have h1 : decide ((i : Int) < ((es.length : Nat) : Int)) = false := by
      have := List.drop_eq_nil_iff.1 hi
      simp; omega
    refine ⟨(x, s), ?_, by rw [List.flatMap_nil, List.append_nil]; exact .start ho⟩
    rw [loopL_eq]
    simp only [node_whole.b3, h1, n_bind, n_map, getL_0, getL_1, getL_2, getL_3, getL_4, getL_5, getL_6, getL_7, getL_8, getL_9, getL_10, getL_11, getL_12, condV_t, condV_f, guardV_tt, guardV_ff, guardV_tf, guardV_ft, guardV_u, apick_t, apick_f, exV_exit, exV_ret, lookE_same, joinK_eq, seqA_n, seqA_e, seqA_r, e_add, e_sub, e_mul, e_eql, e_neq, e_lss, e_leq, e_gtr, e_geq, e_conv, e_not, e_neg, and_guard, or_guard]
  | cons e rest ih =>
    intro i s x l hi hle ho hx hb
    obtain ⟨hlt, he, hd⟩ := drop_get hi
    have h1 : decide ((i : Int) < ((es.length : Nat) : Int)) = true := by simp; omega
    obtain ⟨a0, h2, h3⟩ := list_at (n := 7) (list_ext hx hy) hlt (k := .i64) rfl
    rw [he] at h3
    have hke := hk e (by rw [← he]; exact List.getElem_mem _)
    obtain ⟨n, k, a, b, c, d, rfl, hn, hkk⟩ := entry_split hke
    have hwE : wE ((n : Int), ⟨(k : Int), a, b, c, d, 0⟩) = enc n ++ [UInt8.ofNat k] ++ tBs (fldsE ⟨(k : Int), a, b, c, d, 0⟩) := by simp only [wE, Int.toNat_natCast]
    rw [fm_cons, hwE, List.length_append, List.length_append, List.length_append, List.length_singleton] at hb
    have h3' : aload true 7 a0 s = some (.agg (enL n k a b c d).toArray) := h3
    have hst : astore 7 (.pointer (some ⟨s.heap.length, 0, none⟩)) (.agg (enL n k a b c d).toArray) (s.push (.row 0 (enL 0 0 [] [] [] []) .act)) = some (s.push (.row 0 (enL n k a b c d) .act)) := by
      exact (st_cells (vs := enL n k a b c d) (cells := enL 0 0 [] [] [] []) push_get rfl rfl rfl).trans (by rw [push_put])
    have hxB : blkOf x ≠ some s.heap.length := fun e => by have := (ho.blk _ e).2; omega
    have ho2 : Own s0.heap.length 1 (s.push (.row 0 (enL n k a b c d) .act)) x (bv l) := own_pushB ho
    have hN2 : s0.heap.length ≤ (s.push (.row 0 (enL n k a b c d) .act)).heap.length := by rw [push_len]; have := hx.1; omega
    have hB2 : (s.push (.row 0 (enL n k a b c d) .act)).heap[s.heap.length]? = some (.row 0 (enL n k a b c d) .act) := push_get
    have hnw := new_en s
    generalize hBB : s.heap.length = B at *
    generalize hS : s.push (.row 0 (enL n k a b c d) .act) = S at *
    have e1 : aload false 1 (.pointer (some ⟨B, 0, none⟩)) S = some (.int .u64 (n : Int)) := ld_cell hB2 (by simp) rfl
    have hw8 : IntKind.wrap .u8 (k : Int) = (k : Int) := uwrap rfl (show k < 2 ^ IntKind.bits .u8 by rcases hkk with rfl | rfl | rfl <;> decide)
    have hk8 : k < 256 := by omega
    -- once, to see what it does
    obtain ⟨r1, c1, c2⟩ := num_app (n := n) ho2 hN2 hn (by omega)
    obtain ⟨b1, _⟩ := c2.get hB2 hxB
    have e2 : aload false 1 (.pointer (some ⟨B, 1, none⟩)) r1.2 = some (.int .i64 (k : Int)) := ld_cell b1 (by simp) rfl
    obtain ⟨r1', c3, _⟩ := app_new (m := [UInt8.ofNat k]) c2.1 (Nat.le_trans hN2 c2.len) (by rw [List.length_append, List.length_singleton]; omega)
    -- and in any order
    have e3 : aload false 1 (.pointer (some ⟨B, 0, none⟩)) (⟨frzK [] 0 S.heap⟩ : St) = some (.int .u64 (n : Int)) := ld_frzK hB2 rfl rfl
    obtain ⟨r2, d1, d2⟩ := num_drawn (w := .int .u64 (n : Int)) ho2 hN2 rfl hn (by omega)
    obtain ⟨b2, hxB2⟩ := d2.get hB2 hxB
    have hmem := blks_mem (w := .int .u64 (n : Int)) ho2 rfl
    generalize hK : (blksV [x, .int .u64 (n : Int)] ++ []) = K at hmem
    have e4 : aload false 1 (.pointer (some ⟨B, 1, none⟩)) (⟨frzK K 0 r2.2.heap⟩ : St) = some (.int .i64 (k : Int)) := ld_frzK b2 (by
      rw [Bool.eq_false_iff]
      exact fun h => hxB ((hmem B).1 h)) rfl
    have e5 : ∀ s : St, abuildSl 1 [.int .u8 0] 1 [(0, .int .u8 (k : Int))] s = some (newBytes [UInt8.ofNat k] s) := fun s => one_byte (z := undef) k hk8 s
    have e6 : apartR K r2.2 ((newBytes [UInt8.ofNat k] (⟨frzK K 0 r2.2.heap⟩ : St)).1, (newBytes [UInt8.ofNat k] (⟨frzK K 0 r2.2.heap⟩ : St)).2) = some (newBytes [UInt8.ofNat k] r2.2) := apart_new fun b hb => by
      have := (ho2.blk _ ((hmem b).1 hb)).2
      have := d2.len
      omega
    obtain ⟨r3, f1, f2⟩ := app_new (m := [UInt8.ofNat k]) d2.1 (Nat.le_trans hN2 d2.len) (by rw [List.length_append, List.length_singleton]; omega)
    have ho3 : ownR (newBytes [UInt8.ofNat k] r2.2).2 (r3.1, r3.2) = some (r3.1, r3.2) := by
      have := (aappend_keep f1).1.1
      unfold ownR
      rw [if_pos this]
    obtain ⟨b3, hxB3⟩ := f2.get b2 hxB2
    have d3 := d2.trans f2
    obtain ⟨full, q1, q2, q3, q4⟩ := flds_gen (seq := (n : Int)) (a := a) (b := b) (c := c) (d := d) hkk b3
    have b4 : (r3.2.push (.row 1 (ptrs B full) .act)).heap[B]? = some (.row 0 (enL n k a b c d) .act) := by
      simp only [St.push]
      rw [List.getElem?_append_left (List.getElem?_eq_some_iff.1 b3).1]
      exact b3
    obtain ⟨r4, m1, m2⟩ := flds_loop (B := B) (P := r3.2.heap.length) (N := s0.heap.length) (T1 := T1) (T2 := T2) (T3 := T3) (T4 := y) (T5 := .int .i64 ((es.length : Nat) : Int)) (T6 := .int .i64 (i : Int)) q1 q3 full 0 (r3.2.push (.row 1 (ptrs B full) .act)) r3.1 _ rfl (Nat.zero_le _) (own_pushB d3.1) (by rw [push_len]; have := d3.len; omega) push_get b4 (fun e => by have := (d3.1.blk _ e).2; omega) hxB3 (by rw [q2, List.length_append, List.length_append, List.length_singleton]; omega)
    rw [q2] at m2
    have m3 : App s0.heap.length s x (l ++ wE ((n : Int), ⟨(k : Int), a, b, c, d, 0⟩)) r4 := by
      have h := d3.trans m2.push
      rw [← hS] at h
      have h := h.push
      rw [hwE]
      simpa only [List.append_assoc] using h
    obtain ⟨r5, z1, z2⟩ := ih (i + 1) r4.2 r4.1 (l ++ wE ((n : Int), ⟨(k : Int), a, b, c, d, 0⟩)) hd (by omega) m3.1 (hx.trans (m3.ext ho (by have := hx.1; omega))) (by rw [hwE]; simp only [List.length_append, List.length_singleton] at *; omega)
    refine ⟨r5, ?_, by rw [fm_cons, ← List.append_assoc]; exact m3.trans z2⟩
    have m1' : loopL (node_whole.b4 (run Try.prog (libL libT) hints)) [r3.1, T1, T2, T3, y, .int .i64 ((es.length : Nat) : Int), .int .i64 (i : Int), .slice (some ⟨r3.2.heap.length, 0, none⟩) full.length full.length, .int .i64 ((full.length : Nat) : Int), .int .i64 0] (r3.2.push (.row 1 (ptrs B full) .act)) = some (.exit 8, [r4.1, T1, T2, T3, y, .int .i64 ((es.length : Nat) : Int), .int .i64 (i : Int)], r4.2) := m1
    have hal : ∀ s2 t, alenV (.slice t) (.slice (some ⟨r3.2.heap.length, 0, none⟩) full.length full.length) s2 = some (.int .i64 ((full.length : Nat) : Int)) := fun s2 t => rfl
    rw [loopL_eq]
    simp only [node_whole.b3, h1, h2, h3', hnw, hst, ad_at, Nat.zero_add, Nat.add_zero, e1, node_num_call, c1, e2, hw8, e5, c3, e3, apart_same, d1, hK, e4, e6, f1, ho3, node_fields_call, q4, hal, m1', inc_i64 (show i < 140737488355328 by omega), n_bind, n_map, getL_0, getL_1, getL_2, getL_3, getL_4, getL_5, getL_6, getL_7, getL_8, getL_9, getL_10, getL_11, getL_12, condV_t, condV_f, guardV_tt, guardV_ff, guardV_tf, guardV_ft, guardV_u, apick_t, apick_f, exV_exit, exV_ret, lookE_same, joinK_eq, seqA_n, seqA_e, seqA_r, e_add, e_sub, e_mul, e_eql, e_neq, e_lss, e_leq, e_gtr, e_geq, e_conv, e_not, e_neg, and_guard, or_guard]
    exact z1
theorem bufs_loop {s0 : St} {y : Value} {bs : List (List En)} (hy : ListN (.list enN 88) 24 bs s0 y) (hk : ∀ l ∈ bs, ∀ e ∈ l, okEn e) : ∀ (rest : List (List En)) (i : Nat) (s : St) (x : Value) (l : List UInt8), bs.drop i = rest → i ≤ bs.length → Own s0.heap.length 1 s x (bv l) → Ext s0.heap.length s0 s → l.length + (rest.flatMap wBuf).length ≤ 140737488300000 →
    ∃ r, loopL (node_whole.b2 (run Try.prog (libL libT) hints)) [x, y, .int .i64 ((bs.length : Nat) : Int), .int .i64 (i : Int)] s = some (.exit 4, [r.1], r.2) ∧ App s0.heap.length s x (l ++ rest.flatMap wBuf) r := by
  have hl : bs.length < 140737488355328 := by
    have h1 : bs.length * 24 ≤ 140737488351232 := hy.1
    omega
  intro rest
  induction rest with
  | nil =>
    intro i s x l hi hle ho hx hb
    have h1 : decide ((i : Int) < ((bs.length : Nat) : Int)) = false := by
      have := List.drop_eq_nil_iff.1 hi
      simp; omega
    refine ⟨(x, s), ?_, by rw [List.flatMap_nil, List.append_nil]; exact .start ho⟩
    rw [loopL_eq]
    simp only [node_whole.b2, h1, n_bind, n_map, getL_0, getL_1, getL_2, getL_3, getL_4, getL_5, getL_6, getL_7, getL_8, getL_9, getL_10, getL_11, getL_12, condV_t, condV_f, guardV_tt, guardV_ff, guardV_tf, guardV_ft, guardV_u, apick_t, apick_f, exV_exit, exV_ret, lookE_same, joinK_eq, seqA_n, seqA_e, seqA_r, e_add, e_sub, e_mul, e_eql, e_neq, e_lss, e_leq, e_gtr, e_geq, e_conv, e_not, e_neg, and_guard, or_guard]
  | cons w rest ih =>
    intro i s x l hi hle ho hx hb
    obtain ⟨hlt, he, hd⟩ := drop_get hi
    have h1 : decide ((i : Int) < ((bs.length : Nat) : Int)) = true := by simp; omega
    obtain ⟨a, c, h2, h3, h4⟩ := listN_at rfl (hy.ext hx) hlt
    obtain ⟨a', c', h2', h3', h4'⟩ := listN_at rfl hy hlt
    obtain rfl : a' = a := Option.some.inj (h2'.symm.trans h2)
    rw [he] at h4'
    obtain ⟨g1, g2⟩ := row_plain h4'
    have hcc : c' = c := by
      have : aload false 1 a' s = some c' := ext_load hx h3'
      exact Option.some.inj (this.symm.trans h3)
    rw [hcc] at g1
    have hkw : ∀ e ∈ w, okEn e := hk w (by rw [← he]; exact List.getElem_mem _)
    rw [fm_cons, show wBuf w = enc w.length ++ w.flatMap wE from rfl, List.length_append, List.length_append] at hb
    have hlen : ∀ s2 t, alenV (.slice t) c s2 = some (.int .i64 ((w.length : Nat) : Int)) := fun s2 t => list_len g1
    have hw : IntKind.wrap .u64 ((w.length : Nat) : Int) = ((w.length : Nat) : Int) := uwrap rfl (Nat.lt_trans g2 (by decide))
    obtain ⟨r, e1, e2⟩ := num_app (n := w.length) ho hx.1 (by omega) (by omega)
    obtain ⟨q, f1, f2⟩ := ents_loop (T1 := y) (T2 := .int .i64 ((bs.length : Nat) : Int)) (T3 := .int .i64 (i : Int)) g1 g2 hkw w 0 r.2 r.1 (l ++ enc w.length) rfl (Nat.zero_le _) e2.1 (hx.trans (e2.ext ho hx.1)) (by rw [List.length_append]; omega)
    have e3 : App s0.heap.length s x (l ++ wBuf w) q := by
      have := e2.trans f2
      rwa [List.append_assoc] at this
    obtain ⟨r2, k1, k2⟩ := ih (i + 1) q.2 q.1 (l ++ wBuf w) hd (by omega) e3.1 (hx.trans (e3.ext ho hx.1)) (by rw [show wBuf w = enc w.length ++ w.flatMap wE from rfl, List.length_append, List.length_append]; omega)
    refine ⟨r2, ?_, by rw [fm_cons, ← List.append_assoc]; exact e3.trans k2⟩
    rw [show ((0 : Nat) : Int) = 0 from rfl] at f1
    rw [loopL_eq]
    simp only [node_whole.b2, h1, h2, h3, hlen, hw, node_num_call, e1, f1, inc_i64 (show i < 140737488355328 by omega), n_bind, n_map, getL_0, getL_1, getL_2, getL_3, getL_4, getL_5, getL_6, getL_7, getL_8, getL_9, getL_10, getL_11, getL_12, condV_t, condV_f, guardV_tt, guardV_ff, guardV_tf, guardV_ft, guardV_u, apick_t, apick_f, exV_exit, exV_ret, lookE_same, joinK_eq, seqA_n, seqA_e, seqA_r, e_add, e_sub, e_mul, e_eql, e_neq, e_lss, e_leq, e_gtr, e_geq, e_conv, e_not, e_neg, and_guard, or_guard]
    exact k1

end Go.Proofs.Ytamaapapaiopiaa.Ab

/- A node's bytes: the document's; the whole of it. -/
namespace Go.Proofs.Ytamaapapaiopiaa.Ab
open Go

section
variable {n k : Int} {a b c d : BL}
theorem en_st : lstore 7 lptr (.agg (enL n k a b c d).toArray) (.agg #[(.int .u64 0), (.int .i64 0), (.string ⟨#[]⟩), (.string ⟨#[]⟩), (.string ⟨#[]⟩), (.string ⟨#[]⟩), (.int .i64 0)]) = some (.agg (enL n k a b c d).toArray) := rfl
theorem en_l0 : lload false 1 lptr (.agg (enL n k a b c d).toArray) = some (.int .u64 n) := rfl
theorem en_l1 : lload false 1 (.pointer (some ⟨0, 1, none⟩)) (.agg (enL n k a b c d).toArray) = some (.int .i64 k) := rfl
theorem en_l2 : lload false 1 (.pointer (some ⟨0, 2, none⟩)) (.agg (enL n k a b c d).toArray) = some (sv a) := rfl
theorem en_l3 : lload false 1 (.pointer (some ⟨0, 3, none⟩)) (.agg (enL n k a b c d).toArray) = some (sv b) := rfl
theorem en_l4 : lload false 1 (.pointer (some ⟨0, 4, none⟩)) (.agg (enL n k a b c d).toArray) = some (sv c) := rfl
theorem en_l5 : lload false 1 (.pointer (some ⟨0, 5, none⟩)) (.agg (enL n k a b c d).toArray) = some (sv d) := rfl
end
theorem reftext2_app {N : Nat} {s : St} {x : Value} {l : List UInt8} (ho : Own N 1 s x (bv l)) (hN : N ≤ s.heap.length) {a b : BL} (hb : l.length + (tBs [a, b]).length ≤ 140737488300000) :
    ∃ r q, (run Try.prog (libL libT) hints) 67 [x, sv a] s = some r ∧ App N s x (l ++ tB a) r ∧ (run Try.prog (libL libT) hints) 67 [r.1, sv b] r.2 = some q ∧ App N r.2 r.1 (l ++ tB a ++ tB b) q ∧ App N s x (l ++ tBs [a, b]) q := by
  rw [tBs_two, List.length_append] at hb
  obtain ⟨r, g1, g2⟩ := reftext_app (k := a) ho hN (by omega)
  obtain ⟨q, e1, e2⟩ := reftext_app (k := b) g2.1 (Nat.le_trans hN g2.len) (by rw [List.length_append]; omega)
  refine ⟨r, q, g1, g2, e1, e2, ?_⟩
  have := g2.trans e2
  rwa [List.append_assoc, ← tBs_two] at this
theorem rents_loop {s0 : St} {y T1 T2 T3 : Value} {es : List En} (hy : listOf enC y s0 = some es) (hl : es.length < 140737488355328) (hk : ∀ e ∈ es, okEn e) : ∀ (rest : List En) (i : Nat) (s : St) (x : Value) (l : List UInt8), es.drop i = rest → i ≤ es.length → Own s0.heap.length 1 s x (bv l) → Ext s0.heap.length s0 s → l.length + (rest.flatMap wE).length ≤ 140737488300000 →
    ∃ r, loopL (ref13_whole.b4 (run Try.prog (libL libT) hints)) [x, T1, T2, T3, y, .int .i64 ((es.length : Nat) : Int), .int .i64 (i : Int)] s = some (.exit 8, [r.1, T1, T2, T3], r.2) ∧ App s0.heap.length s x (l ++ rest.flatMap wE) r := by
  intro rest
  induction rest with
  | nil =>
    intro i s x l hi hle ho hx hb
    have h1 : decide ((i : Int) < ((es.length : Nat) : Int)) = false := by
      have := List.drop_eq_nil_iff.1 hi
      simp; omega
    refine ⟨(x, s), ?_, by rw [List.flatMap_nil, List.append_nil]; exact .start ho⟩
    rw [loopL_eq]
    simp only [ref13_whole.b4, h1, n_bind, n_map, getL_0, getL_1, getL_2, getL_3, getL_4, getL_5, getL_6, getL_7, getL_8, getL_9, getL_10, getL_11, getL_12, condV_t, condV_f, guardV_tt, guardV_ff, guardV_tf, guardV_ft, guardV_u, apick_t, apick_f, exV_exit, exV_ret, lookE_same, joinK_eq, seqA_n, seqA_e, seqA_r, e_add, e_sub, e_mul, e_eql, e_neq, e_lss, e_leq, e_gtr, e_geq, e_conv, e_not, e_neg, and_guard, or_guard]
  | cons e rest ih =>
    intro i s x l hi hle ho hx hb
    obtain ⟨hlt, he, hd⟩ := drop_get hi
    have h1 : decide ((i : Int) < ((es.length : Nat) : Int)) = true := by simp; omega
    obtain ⟨a0, h2, h3⟩ := list_at (n := 7) (list_ext hx hy) hlt (k := .i64) rfl
    rw [he] at h3
    have hke := hk e (by rw [← he]; exact List.getElem_mem _)
    obtain ⟨n, k, a, b, c, d, rfl, hn, hkk⟩ := entry_split hke
    have hwE : wE ((n : Int), ⟨(k : Int), a, b, c, d, 0⟩) = enc n ++ [UInt8.ofNat k] ++ tBs (fldsE ⟨(k : Int), a, b, c, d, 0⟩) := by simp only [wE, Int.toNat_natCast]
    rw [fm_cons, hwE, List.length_append, List.length_append, List.length_append, List.length_singleton] at hb
    have h3' : aload true 7 a0 s = some (.agg (enL n k a b c d).toArray) := h3
    have hw8 : IntKind.wrap .u8 (k : Int) = (k : Int) := uwrap rfl (show k < 2 ^ IntKind.bits .u8 by rcases hkk with rfl | rfl | rfl <;> decide)
    have hk8 : k < 256 := by omega
    have e5 : ∀ s : St, abuildSl 1 [.int .u8 0] 1 [(0, .int .u8 (k : Int))] s = some (newBytes [UInt8.ofNat k] s) := fun s => one_byte (z := undef) k hk8 s
    obtain ⟨r2, d1, d2⟩ := app_new (m := enc n) ho hx.1 (by omega)
    obtain ⟨r3, f1, f2⟩ := app_new (m := [UInt8.ofNat k]) d2.1 (Nat.le_trans hx.1 d2.len) (by rw [List.length_append, List.length_singleton]; omega)
    have d3 := d2.trans f2
    rw [List.append_assoc] at d3
    have hN3 : s0.heap.length ≤ r3.2.heap.length := Nat.le_trans hx.1 d3.len
    have fin : ∀ q, App s0.heap.length r3.2 r3.1 (l ++ (enc n ++ [UInt8.ofNat k]) ++ tBs (fldsE ⟨(k : Int), a, b, c, d, 0⟩)) q → ∃ r, ref13_whole.j0 (run Try.prog (libL libT) hints) [q.1, T1, T2, T3, y, .int .i64 ((es.length : Nat) : Int), .int .i64 (i : Int)] q.2 = some (.normal, [q.1, T1, T2, T3, y, .int .i64 ((es.length : Nat) : Int), .int .i64 ((i + 1 : Nat) : Int)], q.2) ∧ loopL (ref13_whole.b4 (run Try.prog (libL libT) hints)) [q.1, T1, T2, T3, y, .int .i64 ((es.length : Nat) : Int), .int .i64 ((i + 1 : Nat) : Int)] q.2 = some (.exit 8, [r.1, T1, T2, T3], r.2) ∧ App s0.heap.length s x (l ++ List.flatMap wE (((n : Int), ⟨(k : Int), a, b, c, d, 0⟩) :: rest)) r := by
      intro q hq
      have m3 : App s0.heap.length s x (l ++ wE ((n : Int), ⟨(k : Int), a, b, c, d, 0⟩)) q := by
        have h := d3.trans hq
        rw [hwE]
        simpa only [List.append_assoc] using h
      obtain ⟨r5, z1, z2⟩ := ih (i + 1) q.2 q.1 (l ++ wE ((n : Int), ⟨(k : Int), a, b, c, d, 0⟩)) hd (by omega) m3.1 (hx.trans (m3.ext ho hx.1)) (by rw [hwE]; simp only [List.length_append, List.length_singleton] at *; omega)
      refine ⟨r5, ?_, z1, by rw [fm_cons, ← List.append_assoc]; exact m3.trans z2⟩
      simp only [ref13_whole.j0, inc_i64 (show i < 140737488355328 by omega), n_bind, n_map, getL_0, getL_1, getL_2, getL_3, getL_4, getL_5, getL_6, getL_7, getL_8, getL_9, getL_10, getL_11, getL_12, condV_t, condV_f, guardV_tt, guardV_ff, guardV_tf, guardV_ft, guardV_u, apick_t, apick_f, exV_exit, exV_ret, lookE_same, joinK_eq, seqA_n, seqA_e, seqA_r, e_add, e_sub, e_mul, e_eql, e_neq, e_lss, e_leq, e_gtr, e_geq, e_conv, e_not, e_neg, and_guard, or_guard]
    have hb3 : (l ++ (enc n ++ [UInt8.ofNat k])).length + (tBs (fldsE ⟨(k : Int), a, b, c, d, 0⟩)).length ≤ 140737488300000 := by simp only [List.length_append, List.length_singleton]; omega
    rcases hkk with rfl | rfl | rfl
    · obtain ⟨r, q, g1, g2, g3, g4, g5⟩ := reftext2_app (a := a) (b := b) d3.1 hN3 hb3
      obtain ⟨r5, z0, z1, z2⟩ := fin q g5
      refine ⟨r5, ?_, z2⟩
      have b2 : (((2 : Nat) : Int) == 2) = true := rfl
      rw [loopL_eq]
      simp only [ref13_whole.b4, h1, h2, h3', en_st, en_l0, en_l1, en_l2, en_l3, ref01_Num_call, kn_refnum hn, d1, hw8, e5, f1, b2, ref13_text_call, g1, own_ok g2, g3, own_ok g4, z0, n_bind, n_map, getL_0, getL_1, getL_2, getL_3, getL_4, getL_5, getL_6, getL_7, getL_8, getL_9, getL_10, getL_11, getL_12, condV_t, condV_f, guardV_tt, guardV_ff, guardV_tf, guardV_ft, guardV_u, apick_t, apick_f, exV_exit, exV_ret, lookE_same, joinK_eq, seqA_n, seqA_e, seqA_r, e_add, e_sub, e_mul, e_eql, e_neq, e_lss, e_leq, e_gtr, e_geq, e_conv, e_not, e_neg, and_guard, or_guard]
      exact z1
    · obtain ⟨q, g1, g2⟩ := reftext_app (k := a) d3.1 hN3 (by rw [show fldsE ⟨((3 : Nat) : Int), a, b, c, d, 0⟩ = [a] from rfl, tBs_one] at hb3; exact hb3)
      obtain ⟨r5, z0, z1, z2⟩ := fin q (by rw [show fldsE ⟨((3 : Nat) : Int), a, b, c, d, 0⟩ = [a] from rfl, tBs_one]; exact g2)
      refine ⟨r5, ?_, z2⟩
      have b2 : (((3 : Nat) : Int) == 2) = false := rfl
      have b3 : (((3 : Nat) : Int) == 3) = true := rfl
      rw [loopL_eq]
      simp only [ref13_whole.b4, h1, h2, h3', en_st, en_l0, en_l1, en_l2, en_l3, ref01_Num_call, kn_refnum hn, d1, hw8, e5, f1, b2, b3, ref13_text_call, g1, z0, n_bind, n_map, getL_0, getL_1, getL_2, getL_3, getL_4, getL_5, getL_6, getL_7, getL_8, getL_9, getL_10, getL_11, getL_12, condV_t, condV_f, guardV_tt, guardV_ff, guardV_tf, guardV_ft, guardV_u, apick_t, apick_f, exV_exit, exV_ret, lookE_same, joinK_eq, seqA_n, seqA_e, seqA_r, e_add, e_sub, e_mul, e_eql, e_neq, e_lss, e_leq, e_gtr, e_geq, e_conv, e_not, e_neg, and_guard, or_guard]
      exact z1
    · obtain ⟨r, q, g1, g2, g3, g4, g5⟩ := reftext2_app (a := c) (b := d) d3.1 hN3 hb3
      obtain ⟨r5, z0, z1, z2⟩ := fin q g5
      refine ⟨r5, ?_, z2⟩
      have b2 : (((5 : Nat) : Int) == 2) = false := rfl
      have b3 : (((5 : Nat) : Int) == 3) = false := rfl
      rw [loopL_eq]
      simp only [ref13_whole.b4, h1, h2, h3', en_st, en_l0, en_l1, en_l4, en_l5, ref01_Num_call, kn_refnum hn, d1, hw8, e5, f1, b2, b3, ref13_text_call, g1, own_ok g2, g3, own_ok g4, z0, n_bind, n_map, getL_0, getL_1, getL_2, getL_3, getL_4, getL_5, getL_6, getL_7, getL_8, getL_9, getL_10, getL_11, getL_12, condV_t, condV_f, guardV_tt, guardV_ff, guardV_tf, guardV_ft, guardV_u, apick_t, apick_f, exV_exit, exV_ret, lookE_same, joinK_eq, seqA_n, seqA_e, seqA_r, e_add, e_sub, e_mul, e_eql, e_neq, e_lss, e_leq, e_gtr, e_geq, e_conv, e_not, e_neg, and_guard, or_guard]
      exact z1
theorem rbufs_loop {s0 : St} {y : Value} {bs : List (List En)} (hy : ListN (.list enN 88) 24 bs s0 y) (hk : ∀ l ∈ bs, ∀ e ∈ l, okEn e) : ∀ (rest : List (List En)) (i : Nat) (s : St) (x : Value) (l : List UInt8), bs.drop i = rest → i ≤ bs.length → Own s0.heap.length 1 s x (bv l) → Ext s0.heap.length s0 s → l.length + (rest.flatMap wBuf).length ≤ 140737488300000 →
    ∃ r, loopL (ref13_whole.b3 (run Try.prog (libL libT) hints)) [x, y, .int .i64 ((bs.length : Nat) : Int), .int .i64 (i : Int)] s = some (.exit 6, [r.1], r.2) ∧ App s0.heap.length s x (l ++ rest.flatMap wBuf) r := by
  have hl : bs.length < 140737488355328 := by
    have h1 : bs.length * 24 ≤ 140737488351232 := hy.1
    omega
  intro rest
  induction rest with
  | nil =>
    intro i s x l hi hle ho hx hb
    have h1 : decide ((i : Int) < ((bs.length : Nat) : Int)) = false := by
      have := List.drop_eq_nil_iff.1 hi
      simp; omega
    refine ⟨(x, s), ?_, by rw [List.flatMap_nil, List.append_nil]; exact .start ho⟩
    rw [loopL_eq]
    simp only [ref13_whole.b3, h1, n_bind, n_map, getL_0, getL_1, getL_2, getL_3, getL_4, getL_5, getL_6, getL_7, getL_8, getL_9, getL_10, getL_11, getL_12, condV_t, condV_f, guardV_tt, guardV_ff, guardV_tf, guardV_ft, guardV_u, apick_t, apick_f, exV_exit, exV_ret, lookE_same, joinK_eq, seqA_n, seqA_e, seqA_r, e_add, e_sub, e_mul, e_eql, e_neq, e_lss, e_leq, e_gtr, e_geq, e_conv, e_not, e_neg, and_guard, or_guard]
  | cons w rest ih =>
    intro i s x l hi hle ho hx hb
    obtain ⟨hlt, he, hd⟩ := drop_get hi
    have h1 : decide ((i : Int) < ((bs.length : Nat) : Int)) = true := by simp; omega
    obtain ⟨a, c, h2, h3, h4⟩ := listN_at rfl (hy.ext hx) hlt
    obtain ⟨a', c', h2', h3', h4'⟩ := listN_at rfl hy hlt
    obtain rfl : a' = a := Option.some.inj (h2'.symm.trans h2)
    rw [he] at h4'
    obtain ⟨g1, g2⟩ := row_plain h4'
    have hcc : c' = c := by
      have : aload false 1 a' s = some c' := ext_load hx h3'
      exact Option.some.inj (this.symm.trans h3)
    rw [hcc] at g1
    have hkw : ∀ e ∈ w, okEn e := hk w (by rw [← he]; exact List.getElem_mem _)
    rw [fm_cons, show wBuf w = enc w.length ++ w.flatMap wE from rfl, List.length_append, List.length_append] at hb
    have hlen : ∀ s2 t, alenV (.slice t) c s2 = some (.int .i64 ((w.length : Nat) : Int)) := fun s2 t => list_len g1
    obtain ⟨r, e1, e2⟩ := refnum_app (n := w.length) ho hx.1 (by omega) (by omega)
    obtain ⟨q, f1, f2⟩ := rents_loop (T1 := y) (T2 := .int .i64 ((bs.length : Nat) : Int)) (T3 := .int .i64 (i : Int)) g1 g2 hkw w 0 r.2 r.1 (l ++ enc w.length) rfl (Nat.zero_le _) e2.1 (hx.trans (e2.ext ho hx.1)) (by rw [List.length_append]; omega)
    have e3 : App s0.heap.length s x (l ++ wBuf w) q := by
      have := e2.trans f2
      rwa [List.append_assoc] at this
    obtain ⟨r2, k1, k2⟩ := ih (i + 1) q.2 q.1 (l ++ wBuf w) hd (by omega) e3.1 (hx.trans (e3.ext ho hx.1)) (by rw [show wBuf w = enc w.length ++ w.flatMap wE from rfl, List.length_append, List.length_append]; omega)
    refine ⟨r2, ?_, by rw [fm_cons, ← List.append_assoc]; exact e3.trans k2⟩
    rw [show ((0 : Nat) : Int) = 0 from rfl] at f1
    rw [loopL_eq]
    simp only [ref13_whole.b3, h1, h2, h3, hlen, ref13_num_call, e1, f1, inc_i64 (show i < 140737488355328 by omega), n_bind, n_map, getL_0, getL_1, getL_2, getL_3, getL_4, getL_5, getL_6, getL_7, getL_8, getL_9, getL_10, getL_11, getL_12, condV_t, condV_f, guardV_tt, guardV_ff, guardV_tf, guardV_ft, guardV_u, apick_t, apick_f, exV_exit, exV_ret, lookE_same, joinK_eq, seqA_n, seqA_e, seqA_r, e_add, e_sub, e_mul, e_eql, e_neq, e_lss, e_leq, e_gtr, e_geq, e_conv, e_not, e_neg, and_guard, or_guard]
    exact k1

end Go.Proofs.Ytamaapapaiopiaa.Ab

/- Nodes: the document's Check. -/
namespace Go.Proofs.Ytamaapapaiopiaa.Ab
open Go

def kidBad (k : Int) : Bool := decide (k < 1) || decide (k > 2147483647)
theorem mn_le : ∀ (l : List Int) (a : Int), (mnL a l < 1 ↔ a < 1 ∨ ∃ k ∈ l, k < 1)
  | [], a => by simp [mnL]
  | x :: l, a => by
    rw [mnL, mn_le l]
    constructor
    · rintro (h | ⟨k, h1, h2⟩)
      · split at h
        · exact .inr ⟨x, List.mem_cons_self .., h⟩
        · exact .inl h
      · exact .inr ⟨k, List.mem_cons_of_mem _ h1, h2⟩
    · rintro (h | ⟨k, h1, h2⟩)
      · left
        split <;> omega
      · rcases List.mem_cons.1 h1 with rfl | h1
        · left
          split <;> omega
        · exact .inr ⟨k, h1, h2⟩
theorem mx_le : ∀ (l : List Int) (a : Int), (mxL a l > 2147483647 ↔ a > 2147483647 ∨ ∃ k ∈ l, k > 2147483647)
  | [], a => by simp [mxL]
  | x :: l, a => by
    rw [mxL, mx_le l]
    constructor
    · rintro (h | ⟨k, h1, h2⟩)
      · split at h
        · exact .inr ⟨x, List.mem_cons_self .., h⟩
        · exact .inl h
      · exact .inr ⟨k, List.mem_cons_of_mem _ h1, h2⟩
    · rintro (h | ⟨k, h1, h2⟩)
      · left
        split <;> omega
      · rcases List.mem_cons.1 h1 with rfl | h1
        · left
          split <;> omega
        · exact .inr ⟨k, h1, h2⟩
theorem kids_bad {n : Nd} (h : n.kids ≠ []) : (decide (mnK n < 1) || decide (mxK n > 2147483647)) = n.kids.any kidBad := by
  unfold mnK mxK
  cases hk : n.kids with
  | nil => exact absurd hk h
  | cons x l =>
    simp only
    rw [Bool.eq_iff_iff]
    simp only [Bool.or_eq_true, decide_eq_true_eq, List.any_eq_true, kidBad, mn_le, mx_le]
    constructor
    · rintro ((h | ⟨k, h1, h2⟩) | (h | ⟨k, h1, h2⟩))
      · exact ⟨x, List.mem_cons_self .., .inl h⟩
      · exact ⟨k, List.mem_cons_of_mem _ h1, .inl h2⟩
      · exact ⟨x, List.mem_cons_self .., .inr h⟩
      · exact ⟨k, List.mem_cons_of_mem _ h1, .inr h2⟩
    · rintro ⟨k, h1, h2⟩
      rcases List.mem_cons.1 h1 with rfl | h1
      · rcases h2 with h2 | h2
        · exact .inl (.inl h2)
        · exact .inr (.inl h2)
      · rcases h2 with h2 | h2
        · exact .inl (.inr ⟨k, h1, h2⟩)
        · exact .inr (.inr ⟨k, h1, h2⟩)
theorem k_bchkR {v : Value} {s : St} {l : List En} (h : listOf enC v s = some l) (hl : l.length < 140737488355328) : (run Try.prog (libL libT) hints) 40 [v] s = some (.int .i64 (eB l), s) := (known (g := gEB) rfl).trans (gL_eq h hl)
theorem k_mapR {v : Value} {s : St} {m : List Rg} (hm : listOf prC v s = some m) (hl : m.length < 140737488355328) : (run Try.prog (libL libT) hints) 38 [v] s = some (.int .i64 (mapE [] m), s) := (known (g := gMapE) rfl).trans (gL_eq hm hl)
theorem k_piv {v : Value} {s : St} {ps : List BL} (h : listOf strC v s = some ps) (hl : ps.length < 140737488355328) : (run Try.prog (libL libT) hints) 39 [v] s = some (.int .i64 (if okP none ps = true then 0 else 20), s) := ref12_Pivots_of rfl (Pivots_run (R := (run Try.prog (libL libT) hints)) (fun k s => (known (g := gKey) rfl).trans key_eq) h hl)
theorem rc0_loop {P1 v0 : Value} {v : Value} {s : St} {l : List Int} (h : listOf (intC .i64) v s = some l) (hl : l.length < 140737488355328) : ∀ (rest : List Int) (i : Nat), l.drop i = rest → i ≤ l.length →
    loopL (ref13_Check.b0 (run Try.prog (libL libT) hints)) [P1, v, .int .i64 ((l.length : Nat) : Int), .int .i64 (i : Int), v0] s = if rest.any kidBad = true then some (.ret, [.int .i64 130], s) else some (.exit 0, [P1, v0], s) := by
  intro rest
  induction rest with
  | nil =>
    intro i hi hle
    have h1 : decide ((i : Int) < ((l.length : Nat) : Int)) = false := by
      have := List.drop_eq_nil_iff.1 hi
      simp; omega
    rw [loopL_eq]
    simp only [ref13_Check.b0, h1, n_bind, n_map, getL_0, getL_1, getL_2, getL_3, getL_4, getL_5, getL_6, getL_7, getL_8, getL_9, getL_10, getL_11, getL_12, condV_t, condV_f, guardV_tt, guardV_ff, guardV_tf, guardV_ft, guardV_u, apick_t, apick_f, exV_exit, exV_ret, lookE_same, joinK_eq, seqA_n, seqA_e, seqA_r, e_add, e_sub, e_mul, e_eql, e_neq, e_lss, e_leq, e_gtr, e_geq, e_conv, e_not, e_neg, and_guard, or_guard, List.any_nil, Bool.false_eq_true, if_false]
  | cons x rest ih =>
    intro i hi hle
    obtain ⟨hlt, he, hd⟩ := drop_get hi
    have h1 : decide ((i : Int) < ((l.length : Nat) : Int)) = true := by simp; omega
    obtain ⟨p, h2, h3⟩ := int_at h hlt
    rw [he] at h3
    rw [loopL_eq]
    rcases Bool.eq_false_or_eq_true (kidBad x) with c | c
    · have c' : (decide (x < 1) || decide (x > 2147483647)) = true := c
      simp only [ref13_Check.b0, h1, h2, h3, c', List.any_cons, c, Bool.true_or, if_true, n_bind, n_map, getL_0, getL_1, getL_2, getL_3, getL_4, getL_5, getL_6, getL_7, getL_8, getL_9, getL_10, getL_11, getL_12, condV_t, condV_f, guardV_tt, guardV_ff, guardV_tf, guardV_ft, guardV_u, apick_t, apick_f, exV_exit, exV_ret, lookE_same, joinK_eq, seqA_n, seqA_e, seqA_r, e_add, e_sub, e_mul, e_eql, e_neq, e_lss, e_leq, e_gtr, e_geq, e_conv, e_not, e_neg, and_guard, or_guard]
    · have c' : (decide (x < 1) || decide (x > 2147483647)) = false := c
      have := ih (i + 1) hd (by omega)
      simp only [ref13_Check.b0, h1, h2, h3, c', List.any_cons, c, Bool.false_or, inc_i64 (show i < 140737488355328 by omega), n_bind, n_map, getL_0, getL_1, getL_2, getL_3, getL_4, getL_5, getL_6, getL_7, getL_8, getL_9, getL_10, getL_11, getL_12, condV_t, condV_f, guardV_tt, guardV_ff, guardV_tf, guardV_ft, guardV_u, apick_t, apick_f, exV_exit, exV_ret, lookE_same, joinK_eq, seqA_n, seqA_e, seqA_r, e_add, e_sub, e_mul, e_eql, e_neq, e_lss, e_leq, e_gtr, e_geq, e_conv, e_not, e_neg, and_guard, or_guard]
      exact this
theorem rc1_loop {P1 v0 : Value} {b : Value} {s : St} {bs : List (List En)} (h : ListN (.list enN 88) 24 bs s b) : ∀ (rest : List (List En)) (i : Nat), bs.drop i = rest → i ≤ bs.length →
    loopL (ref13_Check.b1 (run Try.prog (libL libT) hints)) [P1, b, .int .i64 ((bs.length : Nat) : Int), .int .i64 (i : Int), v0] s = if (firstE rest == 0) = true then some (.exit 2, [P1, v0], s) else some (.ret, [.int .i64 (firstE rest)], s) := by
  have hl : bs.length < 140737488355328 := by
    have h1 : bs.length * 24 ≤ 140737488351232 := h.1
    omega
  intro rest
  induction rest with
  | nil =>
    intro i hi hle
    have h1 : decide ((i : Int) < ((bs.length : Nat) : Int)) = false := by
      have := List.drop_eq_nil_iff.1 hi
      simp; omega
    rw [loopL_eq]
    simp only [ref13_Check.b1, h1, n_bind, n_map, getL_0, getL_1, getL_2, getL_3, getL_4, getL_5, getL_6, getL_7, getL_8, getL_9, getL_10, getL_11, getL_12, condV_t, condV_f, guardV_tt, guardV_ff, guardV_tf, guardV_ft, guardV_u, apick_t, apick_f, exV_exit, exV_ret, lookE_same, joinK_eq, seqA_n, seqA_e, seqA_r, e_add, e_sub, e_mul, e_eql, e_neq, e_lss, e_leq, e_gtr, e_geq, e_conv, e_not, e_neg, and_guard, or_guard, firstE]
    rfl
  | cons x rest ih =>
    intro i hi hle
    obtain ⟨hlt, he, hd⟩ := drop_get hi
    have h1 : decide ((i : Int) < ((bs.length : Nat) : Int)) = true := by simp; omega
    obtain ⟨a, c, h2, h3, h4⟩ := listN_at rfl h hlt
    rw [he] at h4
    obtain ⟨g1, g2⟩ := row_plain h4
    have key := ih (i + 1) hd (by omega)
    rw [loopL_eq]
    by_cases c0 : eB x = 0
    · have z : (eB x == 0) = true := by simp [c0]
      have z2 : ((0 : Int) != 0) = false := rfl
      simp only [ref13_Check.b1, h1, h2, h3, ref12_Check_call, k_bchkR g1 g2, c0, z2, firstE, beq_self_eq_true, if_true, inc_i64 (show i < 140737488355328 by omega), n_bind, n_map, getL_0, getL_1, getL_2, getL_3, getL_4, getL_5, getL_6, getL_7, getL_8, getL_9, getL_10, getL_11, getL_12, condV_t, condV_f, guardV_tt, guardV_ff, guardV_tf, guardV_ft, guardV_u, apick_t, apick_f, exV_exit, exV_ret, lookE_same, joinK_eq, seqA_n, seqA_e, seqA_r, e_add, e_sub, e_mul, e_eql, e_neq, e_lss, e_leq, e_gtr, e_geq, e_conv, e_not, e_neg, and_guard, or_guard]
      exact key
    · have z : (eB x == 0) = false := by simp [c0]
      have z2 : (eB x != 0) = true := by simp [c0]
      simp only [ref13_Check.b1, h1, h2, h3, ref12_Check_call, k_bchkR g1 g2, z2, firstE, z, Bool.false_eq_true, if_false, n_bind, n_map, getL_0, getL_1, getL_2, getL_3, getL_4, getL_5, getL_6, getL_7, getL_8, getL_9, getL_10, getL_11, getL_12, condV_t, condV_f, guardV_tt, guardV_ff, guardV_tf, guardV_ft, guardV_u, apick_t, apick_f, exV_exit, exV_ret, lookE_same, joinK_eq, seqA_n, seqA_e, seqA_r, e_add, e_sub, e_mul, e_eql, e_neq, e_lss, e_leq, e_gtr, e_geq, e_conv, e_not, e_neg, and_guard, or_guard]
theorem en_kind (e : En) : lload false 1 (.pointer (some ⟨0, 1, none⟩)) (enV e) = some (.int .i64 e.2.kind) := rfl
theorem en_key (e : En) : lload false 1 (.pointer (some ⟨0, 2, none⟩)) (enV e) = some (sv e.2.key) := rfl
theorem en_lo (e : En) : lload false 1 (.pointer (some ⟨0, 4, none⟩)) (enV e) = some (sv e.2.lo) := rfl
theorem en_hi (e : En) : lload false 1 (.pointer (some ⟨0, 5, none⟩)) (enV e) = some (sv e.2.hi) := rfl
theorem kCovR (a b : Rg) (s : St) : (run Try.prog (libL libT) hints) 42 [rv a, rv b] s = some (.bool (covL a b), s) := (known (g := gCov) rfl).trans cov_eq
theorem kHasR (r : Rg) (k : BL) (s : St) : (run Try.prog (libL libT) hints) 43 [rv r, sv k] s = some (.bool (hasR r k), s) := (known (g := gHas) rfl).trans has_eq
theorem rc3_loop {P0 P1 P2 A B v0 : Value} {r : Rg} {v : Value} {s : St} {l : List En} (h : listOf enC v s = some l) (hll : l.length < 140737488355328) : ∀ (rest : List En) (j : Nat), l.drop j = rest → j ≤ l.length →
    loopL (ref13_Check.b3 (run Try.prog (libL libT) hints)) [P0, lptr, P1, P2, A, v, .int .i64 ((l.length : Nat) : Int), .int .i64 (j : Int), v0, rv r] s = if rest.any (fun e => !wiE r e.2) = true then some (.ret, [.int .i64 130], s) else some (.exit 6, [P0, P1, P2, A, v0], s) := by
  intro rest
  induction rest with
  | nil =>
    intro j hj hle
    have h1 : decide ((j : Int) < ((l.length : Nat) : Int)) = false := by
      have := List.drop_eq_nil_iff.1 hj
      simp; omega
    rw [loopL_eq]
    simp only [ref13_Check.b3, h1, n_bind, n_map, getL_0, getL_1, getL_2, getL_3, getL_4, getL_5, getL_6, getL_7, getL_8, getL_9, getL_10, getL_11, getL_12, condV_t, condV_f, guardV_tt, guardV_ff, guardV_tf, guardV_ft, guardV_u, apick_t, apick_f, exV_exit, exV_ret, lookE_same, joinK_eq, seqA_n, seqA_e, seqA_r, e_add, e_sub, e_mul, e_eql, e_neq, e_lss, e_leq, e_gtr, e_geq, e_conv, e_not, e_neg, and_guard, or_guard, List.any_nil, Bool.false_eq_true, if_false]
  | cons x rest ih =>
    intro j hj hle
    obtain ⟨hlt, he, hd⟩ := drop_get hj
    have h1 : decide ((j : Int) < ((l.length : Nat) : Int)) = true := by simp; omega
    obtain ⟨a, h2, h3⟩ := list_at h hlt (k := .i64) (n := 7) rfl
    rw [en_enc, he] at h3
    have key := ih (j + 1) hd (by omega)
    have hst : lstore 7 lptr (enV x) (.agg #[(.int .u64 0), (.int .i64 0), (.string ⟨#[]⟩), (.string ⟨#[]⟩), (.string ⟨#[]⟩), (.string ⟨#[]⟩), (.int .i64 0)]) = some (enV x) := rfl
    have hn : (x.2.kind != 5) = !(x.2.kind == 5) := rfl
    rw [loopL_eq]
    rcases Bool.eq_false_or_eq_true (x.2.kind == 5) with c | c
    · rcases Bool.eq_false_or_eq_true (covL r (x.2.lo, x.2.hi)) with d | d
      · have hw : wiE r x.2 = true := by unfold wiE; rw [if_pos c]; exact d
        simp only [ref13_Check.b3, h1, h2, h3, hst, en_kind, c, ld_rv, en_lo, en_hi, ab2, ref02_Covers_call, kCovR, d, Bool.not_true, hn, Bool.and_false, Bool.or_false, Bool.true_and, List.any_cons, hw, Bool.false_or, inc_i64 (show j < 140737488355328 by omega), n_bind, n_map, getL_0, getL_1, getL_2, getL_3, getL_4, getL_5, getL_6, getL_7, getL_8, getL_9, getL_10, getL_11, getL_12, condV_t, condV_f, guardV_tt, guardV_ff, guardV_tf, guardV_ft, guardV_u, apick_t, apick_f, exV_exit, exV_ret, lookE_same, joinK_eq, seqA_n, seqA_e, seqA_r, e_add, e_sub, e_mul, e_eql, e_neq, e_lss, e_leq, e_gtr, e_geq, e_conv, e_not, e_neg, and_guard, or_guard]
        exact key
      · have hw : wiE r x.2 = false := by unfold wiE; rw [if_pos c]; exact d
        simp only [ref13_Check.b3, h1, h2, h3, hst, en_kind, c, ld_rv, en_lo, en_hi, ab2, ref02_Covers_call, kCovR, d, Bool.not_false, Bool.and_true, Bool.true_or, List.any_cons, hw, if_true, n_bind, n_map, getL_0, getL_1, getL_2, getL_3, getL_4, getL_5, getL_6, getL_7, getL_8, getL_9, getL_10, getL_11, getL_12, condV_t, condV_f, guardV_tt, guardV_ff, guardV_tf, guardV_ft, guardV_u, apick_t, apick_f, exV_exit, exV_ret, lookE_same, joinK_eq, seqA_n, seqA_e, seqA_r, e_add, e_sub, e_mul, e_eql, e_neq, e_lss, e_leq, e_gtr, e_geq, e_conv, e_not, e_neg, and_guard, or_guard]
    · rcases Bool.eq_false_or_eq_true (hasR r x.2.key) with d | d
      · have hw : wiE r x.2 = true := by unfold wiE; rw [if_neg (by rw [c]; simp)]; exact d
        simp only [ref13_Check.b3, h1, h2, h3, hst, en_kind, c, hn, Bool.not_false, ld_rv, en_key, ref02_Has_call, kHasR, d, Bool.not_true, Bool.and_false, Bool.false_and, Bool.false_or, List.any_cons, hw, inc_i64 (show j < 140737488355328 by omega), n_bind, n_map, getL_0, getL_1, getL_2, getL_3, getL_4, getL_5, getL_6, getL_7, getL_8, getL_9, getL_10, getL_11, getL_12, condV_t, condV_f, guardV_tt, guardV_ff, guardV_tf, guardV_ft, guardV_u, apick_t, apick_f, exV_exit, exV_ret, lookE_same, joinK_eq, seqA_n, seqA_e, seqA_r, e_add, e_sub, e_mul, e_eql, e_neq, e_lss, e_leq, e_gtr, e_geq, e_conv, e_not, e_neg, and_guard, or_guard]
        exact key
      · have hw : wiE r x.2 = false := by unfold wiE; rw [if_neg (by rw [c]; simp)]; exact d
        simp only [ref13_Check.b3, h1, h2, h3, hst, en_kind, c, hn, Bool.not_false, ld_rv, en_key, ref02_Has_call, kHasR, d, Bool.not_false, Bool.and_true, Bool.false_and, Bool.false_or, List.any_cons, hw, Bool.true_or, if_true, n_bind, n_map, getL_0, getL_1, getL_2, getL_3, getL_4, getL_5, getL_6, getL_7, getL_8, getL_9, getL_10, getL_11, getL_12, condV_t, condV_f, guardV_tt, guardV_ff, guardV_tf, guardV_ft, guardV_u, apick_t, apick_f, exV_exit, exV_ret, lookE_same, joinK_eq, seqA_n, seqA_e, seqA_r, e_add, e_sub, e_mul, e_eql, e_neq, e_lss, e_leq, e_gtr, e_geq, e_conv, e_not, e_neg, and_guard, or_guard]
theorem rc2_loop {f : Bool} {p k q b : Value} {s : St} {ps : List BL} {bs : List (List En)} (hl : ps.length < 140737488355328) (hlb : bs.length < 140737488355328) (hbp : bs.length ≤ ps.length + 1) (hlf : leafs p k q b) (hq : listOf strC q s = some ps) (h : ListN (.list enN 88) 24 bs s b) : ∀ (rest : List (List En)) (i : Nat), bs.drop i = rest → i ≤ bs.length →
    loopL (ref13_Check.b2 (run Try.prog (libL libT) hints)) [lptr, b, .int .i64 ((bs.length : Nat) : Int), .int .i64 (i : Int), ndV f p k q b] s = if outF ps i rest = true then some (.ret, [.int .i64 130], s) else some (.exit 4, [], s) := by
  intro rest
  induction rest with
  | nil =>
    intro i hi hle
    have h1 : decide ((i : Int) < ((bs.length : Nat) : Int)) = false := by
      have := List.drop_eq_nil_iff.1 hi
      simp; omega
    rw [loopL_eq]
    simp only [ref13_Check.b2, h1, n_bind, n_map, getL_0, getL_1, getL_2, getL_3, getL_4, getL_5, getL_6, getL_7, getL_8, getL_9, getL_10, getL_11, getL_12, condV_t, condV_f, guardV_tt, guardV_ff, guardV_tf, guardV_ft, guardV_u, apick_t, apick_f, exV_exit, exV_ret, lookE_same, joinK_eq, seqA_n, seqA_e, seqA_r, e_add, e_sub, e_mul, e_eql, e_neq, e_lss, e_leq, e_gtr, e_geq, e_conv, e_not, e_neg, and_guard, or_guard, outF, Bool.false_eq_true, if_false]
  | cons x rest ih =>
    intro i hi hle
    obtain ⟨hlt, he, hd⟩ := drop_get hi
    have h1 : decide ((i : Int) < ((bs.length : Nat) : Int)) = true := by simp; omega
    obtain ⟨a, c, h2, h3, h4⟩ := listN_at rfl h hlt
    rw [he] at h4
    obtain ⟨g1, g2⟩ := row_plain h4
    have hR := ref12_Range_of (lib := libL libT) rfl (Range_run (R := (run Try.prog (libL libT) hints)) hq hl (i := i) (by omega))
    have hst : lstore 2 lptr (rv (rgI ps i)) (.agg #[(.string ⟨#[]⟩), (.string ⟨#[]⟩)]) = some (rv (rgI ps i)) := rfl
    have key3 := rc3_loop (P0 := lptr) (P1 := b) (P2 := .int .i64 ((bs.length : Nat) : Int)) (A := .int .i64 (i : Int)) (B := lptr) (v0 := ndV f p k q b) (r := rgI ps i) g1 g2 x 0 rfl (Nat.zero_le _)
    rw [show ((0 : Nat) : Int) = 0 from rfl] at key3
    rw [loopL_eq]
    by_cases c1 : (x.any fun e => !wiE (rgI ps i) e.2) = true
    · have ho : outF ps i (x :: rest) = true := by simp only [outF, c1, Bool.true_or]
      rw [if_pos c1] at key3
      simp only [ref13_Check.b2, h1, h2, h3, p_3, nd_3 f p k q b hlf.2.2.1, ref12_Range_call, hR, hst, list_len g1, key3, ho, if_true, n_bind, n_map, getL_0, getL_1, getL_2, getL_3, getL_4, getL_5, getL_6, getL_7, getL_8, getL_9, getL_10, getL_11, getL_12, condV_t, condV_f, guardV_tt, guardV_ff, guardV_tf, guardV_ft, guardV_u, apick_t, apick_f, exV_exit, exV_ret, lookE_same, joinK_eq, seqA_n, seqA_e, seqA_r, e_add, e_sub, e_mul, e_eql, e_neq, e_lss, e_leq, e_gtr, e_geq, e_conv, e_not, e_neg, and_guard, or_guard]
    · have ho : outF ps i (x :: rest) = outF ps (i + 1) rest := by
        have : (x.any fun e => !wiE (rgI ps i) e.2) = false := by simpa using c1
        simp only [outF, this, Bool.false_or]
      rw [if_neg c1] at key3
      have key := ih (i + 1) hd (by omega)
      simp only [ref13_Check.b2, h1, h2, h3, p_3, nd_3 f p k q b hlf.2.2.1, ref12_Range_call, hR, hst, list_len g1, key3, ho, inc_i64 (show i < 140737488355328 by omega), n_bind, n_map, getL_0, getL_1, getL_2, getL_3, getL_4, getL_5, getL_6, getL_7, getL_8, getL_9, getL_10, getL_11, getL_12, condV_t, condV_f, guardV_tt, guardV_ff, guardV_tf, guardV_ft, guardV_u, apick_t, apick_f, exV_exit, exV_ret, lookE_same, joinK_eq, seqA_n, seqA_e, seqA_r, e_add, e_sub, e_mul, e_eql, e_neq, e_lss, e_leq, e_gtr, e_geq, e_conv, e_not, e_neg, and_guard, or_guard]
      exact key

theorem rCheck_run {n : Nd} {s : St} {v : Value} (h : NArg nodeC n s v) : (run Try.prog (libL libT) hints) 18 [v] s = some (.int .i64 (eN n), s) := by
  obtain ⟨p, k, q, b, rfl, hp, hk, hq, hb⟩ := node_inv h
  have hlf : leafs p k q b := ⟨listN_leaf hp, listN_leaf hk, listN_leaf hq, listN_leaf hb⟩
  have hv : (.agg #[.bool n.leaf, p, k, q, b] : Value) = ndV n.leaf p k q b := rfl
  rw [hv]
  obtain ⟨p1, _, p2⟩ := hp.plain
  obtain ⟨k1, _, k2⟩ := hk.plain
  obtain ⟨q1, _, q2⟩ := (ListN.plain (C := strC) (Pr := fun k => k.length ≤ reachBytes) hq)
  have b2 : n.bufs.length * 24 ≤ 140737488351232 := hb.1
  have hbx := nd_box n.leaf p k q b hlf
  have l0 : lload false 1 lptr (ndV n.leaf p k q b) = some (.bool n.leaf) := rfl
  have l1 : lload false 1 (.pointer (some ⟨0, 1, none⟩)) (ndV n.leaf p k q b) = some p := rfl
  have l2 : lload false 1 (.pointer (some ⟨0, 2, none⟩)) (ndV n.leaf p k q b) = some k := rfl
  have l3 : lload false 1 (.pointer (some ⟨0, 3, none⟩)) (ndV n.leaf p k q b) = some q := rfl
  have l4 : lload false 1 (.pointer (some ⟨0, 4, none⟩)) (ndV n.leaf p k q b) = some b := rfl
  have w1 : IntKind.wrap .i64 (((n.kids.length : Nat) : Int) + ((n.pivots.length : Nat) : Int)) = ((n.kids.length + n.pivots.length : Nat) : Int) := by rw [wrap_i64 (by omega) (by omega)]; omega
  have w2 : IntKind.wrap .i64 (((n.kids.length + n.pivots.length : Nat) : Int) + ((n.bufs.length : Nat) : Int)) = ((n.kids.length + n.pivots.length + n.bufs.length : Nat) : Int) := by rw [wrap_i64 (by omega) (by omega)]; omega
  have hr : ∀ (m : Int) s, retV [.int .i64 m] s = some (.int .i64 m, s) := fun m s => ret1 rfl
  have lb : ∀ e s, alenV (.slice e) b s = some (.int .i64 ((n.bufs.length : Nat) : Int)) := fun e s => listN_len hb
  refine ref13_Check_of rfl ?_
  rcases Bool.eq_false_or_eq_true n.leaf with c0 | c0
  · replace l0 : lload false 1 lptr (ndV n.leaf p k q b) = some (.bool true) := l0.trans (by rw [c0])
    rcases Bool.eq_false_or_eq_true (decide (((n.kids.length + n.pivots.length + n.bufs.length : Nat) : Int) > 0)) with c1 | c1
    · have hN : eN n = 130 := by unfold eN; rw [if_pos c0, if_pos c1]
      rw [hN]
      unfold ref13_Check
      simp only [hbx, l0, l2, l3, l4, list_len k1, list_len q1, lb, w1, w2, c1, hr, n_bind, n_map, getL_0, getL_1, getL_2, getL_3, getL_4, getL_5, getL_6, getL_7, getL_8, getL_9, getL_10, getL_11, getL_12, condV_t, condV_f, guardV_tt, guardV_ff, guardV_tf, guardV_ft, guardV_u, apick_t, apick_f, exV_exit, exV_ret, lookE_same, joinK_eq, seqA_n, seqA_e, seqA_r, e_add, e_sub, e_mul, e_eql, e_neq, e_lss, e_leq, e_gtr, e_geq, e_conv, e_not, e_neg, and_guard, or_guard]
    · have hN : eN n = mapE [] n.pairs := by unfold eN; rw [if_pos c0, if_neg (by rw [c1]; simp)]
      rw [hN]
      unfold ref13_Check
      simp only [hbx, l0, l1, l2, l3, l4, list_len k1, list_len q1, lb, w1, w2, c1, ref04_CheckMap_call, k_mapR p1 (show n.pairs.length < 140737488355328 by omega), hr, n_bind, n_map, getL_0, getL_1, getL_2, getL_3, getL_4, getL_5, getL_6, getL_7, getL_8, getL_9, getL_10, getL_11, getL_12, condV_t, condV_f, guardV_tt, guardV_ff, guardV_tf, guardV_ft, guardV_u, apick_t, apick_f, exV_exit, exV_ret, lookE_same, joinK_eq, seqA_n, seqA_e, seqA_r, e_add, e_sub, e_mul, e_eql, e_neq, e_lss, e_leq, e_gtr, e_geq, e_conv, e_not, e_neg, and_guard, or_guard]
  · replace l0 : lload false 1 lptr (ndV n.leaf p k q b) = some (.bool false) := l0.trans (by rw [c0])
    have hc0 : ¬ n.leaf = true := by rw [c0]; simp
    rcases Bool.eq_false_or_eq_true (bad5 n) with a1 | a1
    · have hN : eN n = 130 := by unfold eN; rw [if_neg hc0, if_pos (by simp only [badN, a1, Bool.true_or])]
      rw [hN]
      unfold bad5 at a1
      unfold ref13_Check
      simp only [hbx, l0, l1, l2, l3, l4, list_len p1, list_len k1, list_len q1, lb, a1, hr, n_bind, n_map, getL_0, getL_1, getL_2, getL_3, getL_4, getL_5, getL_6, getL_7, getL_8, getL_9, getL_10, getL_11, getL_12, condV_t, condV_f, guardV_tt, guardV_ff, guardV_tf, guardV_ft, guardV_u, apick_t, apick_f, exV_exit, exV_ret, lookE_same, joinK_eq, seqA_n, seqA_e, seqA_r, e_add, e_sub, e_mul, e_eql, e_neq, e_lss, e_leq, e_gtr, e_geq, e_conv, e_not, e_neg, and_guard, or_guard]
    · have hne : n.kids ≠ [] := by
        intro e
        simp [bad5, e] at a1
      have hbp : n.bufs.length ≤ n.pivots.length + 1 := by
        have w3 : IntKind.wrap .i64 (((n.kids.length : Nat) : Int) - 1) = ((n.kids.length : Nat) : Int) - 1 := wrap_i64 (by omega) (by omega)
        have a2 := a1
        simp only [bad5, Bool.or_eq_false_iff] at a2
        obtain ⟨⟨_, a4⟩, a5⟩ := a2
        rw [w3] at a4
        simp at a4 a5
        omega
      have hbad : badN n = n.kids.any kidBad := by
        unfold badN
        rw [a1, Bool.false_or, kids_bad hne]
      unfold bad5 at a1
      have key0 := rc0_loop (P1 := lptr) (v0 := ndV n.leaf p k q b) k1 (by omega) n.kids 0 rfl (Nat.zero_le _)
      have key1 := rc1_loop (P1 := lptr) (v0 := ndV n.leaf p k q b) hb n.bufs 0 rfl (Nat.zero_le _)
      have key2 := rc2_loop (f := n.leaf) (by omega) (by omega) hbp hlf q1 hb n.bufs 0 rfl (Nat.zero_le _)
      rw [show ((0 : Nat) : Int) = 0 from rfl] at key0 key1 key2
      have kp := k_piv q1 (show n.pivots.length < 140737488355328 by omega)
      by_cases d0 : n.kids.any kidBad = true
      · have hN : eN n = 130 := by unfold eN; rw [if_neg hc0, if_pos (by rw [hbad]; exact d0)]
        rw [hN]
        rw [if_pos d0] at key0
        unfold ref13_Check
        simp only [hbx, l0, l1, l2, l3, l4, list_len p1, list_len k1, list_len q1, lb, a1, key0, hr, n_bind, n_map, getL_0, getL_1, getL_2, getL_3, getL_4, getL_5, getL_6, getL_7, getL_8, getL_9, getL_10, getL_11, getL_12, condV_t, condV_f, guardV_tt, guardV_ff, guardV_tf, guardV_ft, guardV_u, apick_t, apick_f, exV_exit, exV_ret, lookE_same, joinK_eq, seqA_n, seqA_e, seqA_r, e_add, e_sub, e_mul, e_eql, e_neq, e_lss, e_leq, e_gtr, e_geq, e_conv, e_not, e_neg, and_guard, or_guard]
      · rw [if_neg d0] at key0
        have hgood : eN n = eNi n := by unfold eN; rw [if_neg hc0, if_neg (by rw [hbad]; exact d0)]
        rw [hgood]
        unfold eNi
        by_cases d1 : okP none n.pivots = true
        · rw [if_pos d1] at kp
          rw [if_pos d1]
          have z0 : ((0 : Int) != 0) = false := rfl
          by_cases d2 : (firstE n.bufs == 0) = true
          · rw [if_pos d2] at key1
            rw [if_pos d2]
            by_cases d3 : outF n.pivots 0 n.bufs = true
            · rw [if_pos d3] at key2
              rw [if_pos d3]
              unfold ref13_Check
              simp only [hbx, l0, l1, l2, l3, l4, p_3, p_4, list_len p1, list_len k1, list_len q1, lb, a1, key0, ref12_Pivots_call, kp, z0, key1, key2, hr, n_bind, n_map, getL_0, getL_1, getL_2, getL_3, getL_4, getL_5, getL_6, getL_7, getL_8, getL_9, getL_10, getL_11, getL_12, condV_t, condV_f, guardV_tt, guardV_ff, guardV_tf, guardV_ft, guardV_u, apick_t, apick_f, exV_exit, exV_ret, lookE_same, joinK_eq, seqA_n, seqA_e, seqA_r, e_add, e_sub, e_mul, e_eql, e_neq, e_lss, e_leq, e_gtr, e_geq, e_conv, e_not, e_neg, and_guard, or_guard]
            · rw [if_neg d3] at key2
              rw [if_neg d3]
              unfold ref13_Check
              simp only [hbx, l0, l1, l2, l3, l4, p_3, p_4, list_len p1, list_len k1, list_len q1, lb, a1, key0, ref12_Pivots_call, kp, z0, key1, key2, hr, n_bind, n_map, getL_0, getL_1, getL_2, getL_3, getL_4, getL_5, getL_6, getL_7, getL_8, getL_9, getL_10, getL_11, getL_12, condV_t, condV_f, guardV_tt, guardV_ff, guardV_tf, guardV_ft, guardV_u, apick_t, apick_f, exV_exit, exV_ret, lookE_same, joinK_eq, seqA_n, seqA_e, seqA_r, e_add, e_sub, e_mul, e_eql, e_neq, e_lss, e_leq, e_gtr, e_geq, e_conv, e_not, e_neg, and_guard, or_guard]
          · rw [if_neg d2] at key1
            rw [if_neg d2]
            unfold ref13_Check
            simp only [hbx, l0, l1, l2, l3, l4, p_3, p_4, list_len p1, list_len k1, list_len q1, lb, a1, key0, ref12_Pivots_call, kp, z0, key1, hr, n_bind, n_map, getL_0, getL_1, getL_2, getL_3, getL_4, getL_5, getL_6, getL_7, getL_8, getL_9, getL_10, getL_11, getL_12, condV_t, condV_f, guardV_tt, guardV_ff, guardV_tf, guardV_ft, guardV_u, apick_t, apick_f, exV_exit, exV_ret, lookE_same, joinK_eq, seqA_n, seqA_e, seqA_r, e_add, e_sub, e_mul, e_eql, e_neq, e_lss, e_leq, e_gtr, e_geq, e_conv, e_not, e_neg, and_guard, or_guard]
        · rw [if_neg d1] at kp
          rw [if_neg d1]
          have z0 : ((20 : Int) != 0) = true := rfl
          unfold ref13_Check
          simp only [hbx, l0, l1, l2, l3, l4, p_3, p_4, list_len p1, list_len k1, list_len q1, lb, a1, key0, ref12_Pivots_call, kp, z0, hr, n_bind, n_map, getL_0, getL_1, getL_2, getL_3, getL_4, getL_5, getL_6, getL_7, getL_8, getL_9, getL_10, getL_11, getL_12, condV_t, condV_f, guardV_tt, guardV_ff, guardV_tf, guardV_ft, guardV_u, apick_t, apick_f, exV_exit, exV_ret, lookE_same, joinK_eq, seqA_n, seqA_e, seqA_r, e_add, e_sub, e_mul, e_eql, e_neq, e_lss, e_leq, e_gtr, e_geq, e_conv, e_not, e_neg, and_guard, or_guard]

end Go.Proofs.Ytamaapapaiopiaa.Ab
