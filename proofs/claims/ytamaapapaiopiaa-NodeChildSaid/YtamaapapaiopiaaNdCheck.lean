/- Nodes: which may be. -/
import Derived.Test.YtamaapapaiopiaaNdArg
import Derived.Test.YtamaapapaiopiaaPivVal
import Derived.Test.YtamaapapaiopiaaSh
set_option linter.unusedVariables false
set_option linter.unusedSimpArgs false
set_option linter.unusedSectionVars false
namespace Go.Proofs.Ytamaapapaiopiaa.Ab
open Go

/-! ### The least and the greatest of some numbers -/
def mnL (a : Int) : List Int → Int
  | [] => a
  | x :: l => mnL (if x < a then x else a) l
def mxL (a : Int) : List Int → Int
  | [] => a
  | x :: l => mxL (if x > a then x else a) l
theorem amin_e {k : IntKind} {x y : Int} : amin2 (.int k x) (.int k y) = some (.int k (if y < x then y else x)) := by simp [amin2]
theorem amax_e {k : IntKind} {x y : Int} : amax2 (.int k x) (.int k y) = some (.int k (if y > x then y else x)) := by simp [amax2]
theorem int_at {v : Value} {s : St} {l : List Int} (h : listOf (intC .i64) v s = some l) {i : Nat} (hi : i < l.length) : ∃ p, aindexS 1 v (.int .i64 (i : Int)) = some p ∧ aload false 1 p s = some (.int .i64 l[i]) := by
  obtain ⟨p, h1, q, h2, h3⟩ := list_field h hi (j := 0) (c := .int .i64 l[i]) rfl (k := .i64) (n := 1) rfl
  refine ⟨p, h1, ?_⟩
  have : q = p := by
    unfold afieldAddr at h2
    split at h2
    · cases h2; rfl
    · cases h2
  rw [← this]
  exact h3
theorem slices_Min_int_int_loop {R : Caller} {v : Value} {s : St} {l : List Int} (h : listOf (intC .i64) v s = some l) (hl : l.length < 140737488355328) : ∀ (rest : List Int) (i : Nat) (a : Int), l.drop i = rest → i ≤ l.length →
    loopL (slices_Min_int_int.b0 R) [v, .int .i64 a, .int .i64 (i : Int)] s = some (.exit 0, [.int .i64 (mnL a rest)], s) := by
  intro rest
  induction rest with
  | nil =>
    intro i a hi hle
    have h1 : decide ((i : Int) < ((l.length : Nat) : Int)) = false := by
      have := List.drop_eq_nil_iff.1 hi
      simp; omega
    rw [loopL_eq]
    simp only [slices_Min_int_int.b0, list_len h, h1, mnL, n_bind, n_map, getL_0, getL_1, getL_2, getL_3, getL_4, getL_5, getL_6, getL_7, getL_8, getL_9, getL_10, getL_11, getL_12, condV_t, condV_f, guardV_tt, guardV_ff, guardV_tf, guardV_ft, guardV_u, apick_t, apick_f, exV_exit, exV_ret, lookE_same, joinK_eq, seqA_n, seqA_e, seqA_r, e_add, e_sub, e_mul, e_eql, e_neq, e_lss, e_leq, e_gtr, e_geq, e_conv, e_not, e_neg, and_guard, or_guard]
  | cons x rest ih =>
    intro i a hi hle
    obtain ⟨hlt, he, hd⟩ := drop_get hi
    have h1 : decide ((i : Int) < ((l.length : Nat) : Int)) = true := by simp; omega
    obtain ⟨p, h2, h3⟩ := int_at h hlt
    rw [he] at h3
    rw [loopL_eq]
    simp only [slices_Min_int_int.b0, list_len h, h1, h2, h3, amin_e, inc_i64 (show i < 140737488355328 by omega), n_bind, n_map, getL_0, getL_1, getL_2, getL_3, getL_4, getL_5, getL_6, getL_7, getL_8, getL_9, getL_10, getL_11, getL_12, condV_t, condV_f, guardV_tt, guardV_ff, guardV_tf, guardV_ft, guardV_u, apick_t, apick_f, exV_exit, exV_ret, lookE_same, joinK_eq, seqA_n, seqA_e, seqA_r, e_add, e_sub, e_mul, e_eql, e_neq, e_lss, e_leq, e_gtr, e_geq, e_conv, e_not, e_neg, and_guard, or_guard]
    exact ih (i + 1) _ hd (by omega)
theorem slices_Min_int_int_run {R : Caller} {v : Value} {s : St} {l : List Int} {x : Int} {r : List Int} (hl2 : l = x :: r) (h : listOf (intC .i64) v s = some l) (hl : l.length < 140737488355328) : slices_Min_int_int R v s = some (.int .i64 (mnL x r), s) := by
  have h0 : 0 < l.length := by rw [hl2]; simp
  have h1 : decide (((l.length : Nat) : Int) < 1) = false := by simp; omega
  obtain ⟨p, h2, h3⟩ := int_at h h0
  have hx : l[0] = x := by subst hl2; rfl
  rw [hx] at h3
  have key := slices_Min_int_int_loop (R := R) h hl r 1 x (by rw [hl2]; rfl) (by omega)
  have h2' : aindexS 1 v (.int .i64 0) = some p := h2
  have key' : loopL (slices_Min_int_int.b0 R) [v, .int .i64 x, .int .i64 1] s = some (.exit 0, [.int .i64 (mnL x r)], s) := key
  unfold slices_Min_int_int
  simp only [list_len h, h1, slices_Min_int_int.j0, h2', h3, key', n_bind, n_map, getL_0, getL_1, getL_2, getL_3, getL_4, getL_5, getL_6, getL_7, getL_8, getL_9, getL_10, getL_11, getL_12, condV_t, condV_f, guardV_tt, guardV_ff, guardV_tf, guardV_ft, guardV_u, apick_t, apick_f, exV_exit, exV_ret, lookE_same, joinK_eq, seqA_n, seqA_e, seqA_r, e_add, e_sub, e_mul, e_eql, e_neq, e_lss, e_leq, e_gtr, e_geq, e_conv, e_not, e_neg, and_guard, or_guard]
  exact ret1 rfl
theorem slices_Max_int_int_loop {R : Caller} {v : Value} {s : St} {l : List Int} (h : listOf (intC .i64) v s = some l) (hl : l.length < 140737488355328) : ∀ (rest : List Int) (i : Nat) (a : Int), l.drop i = rest → i ≤ l.length →
    loopL (slices_Max_int_int.b0 R) [v, .int .i64 a, .int .i64 (i : Int)] s = some (.exit 0, [.int .i64 (mxL a rest)], s) := by
  intro rest
  induction rest with
  | nil =>
    intro i a hi hle
    have h1 : decide ((i : Int) < ((l.length : Nat) : Int)) = false := by
      have := List.drop_eq_nil_iff.1 hi
      simp; omega
    rw [loopL_eq]
    simp only [slices_Max_int_int.b0, list_len h, h1, mxL, n_bind, n_map, getL_0, getL_1, getL_2, getL_3, getL_4, getL_5, getL_6, getL_7, getL_8, getL_9, getL_10, getL_11, getL_12, condV_t, condV_f, guardV_tt, guardV_ff, guardV_tf, guardV_ft, guardV_u, apick_t, apick_f, exV_exit, exV_ret, lookE_same, joinK_eq, seqA_n, seqA_e, seqA_r, e_add, e_sub, e_mul, e_eql, e_neq, e_lss, e_leq, e_gtr, e_geq, e_conv, e_not, e_neg, and_guard, or_guard]
  | cons x rest ih =>
    intro i a hi hle
    obtain ⟨hlt, he, hd⟩ := drop_get hi
    have h1 : decide ((i : Int) < ((l.length : Nat) : Int)) = true := by simp; omega
    obtain ⟨p, h2, h3⟩ := int_at h hlt
    rw [he] at h3
    rw [loopL_eq]
    simp only [slices_Max_int_int.b0, list_len h, h1, h2, h3, amax_e, inc_i64 (show i < 140737488355328 by omega), n_bind, n_map, getL_0, getL_1, getL_2, getL_3, getL_4, getL_5, getL_6, getL_7, getL_8, getL_9, getL_10, getL_11, getL_12, condV_t, condV_f, guardV_tt, guardV_ff, guardV_tf, guardV_ft, guardV_u, apick_t, apick_f, exV_exit, exV_ret, lookE_same, joinK_eq, seqA_n, seqA_e, seqA_r, e_add, e_sub, e_mul, e_eql, e_neq, e_lss, e_leq, e_gtr, e_geq, e_conv, e_not, e_neg, and_guard, or_guard]
    exact ih (i + 1) _ hd (by omega)
theorem slices_Max_int_int_run {R : Caller} {v : Value} {s : St} {l : List Int} {x : Int} {r : List Int} (hl2 : l = x :: r) (h : listOf (intC .i64) v s = some l) (hl : l.length < 140737488355328) : slices_Max_int_int R v s = some (.int .i64 (mxL x r), s) := by
  have h0 : 0 < l.length := by rw [hl2]; simp
  have h1 : decide (((l.length : Nat) : Int) < 1) = false := by simp; omega
  obtain ⟨p, h2, h3⟩ := int_at h h0
  have hx : l[0] = x := by subst hl2; rfl
  rw [hx] at h3
  have key := slices_Max_int_int_loop (R := R) h hl r 1 x (by rw [hl2]; rfl) (by omega)
  have h2' : aindexS 1 v (.int .i64 0) = some p := h2
  have key' : loopL (slices_Max_int_int.b0 R) [v, .int .i64 x, .int .i64 1] s = some (.exit 0, [.int .i64 (mxL x r)], s) := key
  unfold slices_Max_int_int
  simp only [list_len h, h1, slices_Max_int_int.j0, h2', h3, key', n_bind, n_map, getL_0, getL_1, getL_2, getL_3, getL_4, getL_5, getL_6, getL_7, getL_8, getL_9, getL_10, getL_11, getL_12, condV_t, condV_f, guardV_tt, guardV_ff, guardV_tf, guardV_ft, guardV_u, apick_t, apick_f, exV_exit, exV_ret, lookE_same, joinK_eq, seqA_n, seqA_e, seqA_r, e_add, e_sub, e_mul, e_eql, e_neq, e_lss, e_leq, e_gtr, e_geq, e_conv, e_not, e_neg, and_guard, or_guard]
  exact ret1 rfl

/-! ### Rows of rows -/
theorem listN_len {α : Type} {C : NCod α} {B : Nat} {l : List α} {s s2 : St} {v : Value} (h : ListN C B l s v) {e : TypeId} : alenV (.slice e) v s2 = some (.int .i64 ((l.length : Nat) : Int)) := by
  rcases h.2 with ⟨rfl, rfl⟩ | ⟨b, css, st, rfl, _⟩
  · rfl
  · rfl
theorem flat1 {α : Type} {C : NCod α} (hn : C.n = 1) {s : St} : ∀ {l : List α} {css : List (List Value)}, All2 (fun a c => C.rel a s c) l css → css.flatten.length = l.length ∧ ∀ (i : Nat) (hi : i < l.length), ∃ c, css.flatten[i]? = some c ∧ C.rel l[i] s [c]
  | [], [], _ => ⟨rfl, fun i hi => by simp at hi⟩
  | a :: l, c :: css, ⟨h1, h2⟩ => by
    have hl := C.len h1
    rw [hn] at hl
    obtain ⟨x, rfl⟩ := List.length_eq_one_iff.1 hl
    obtain ⟨g1, g2⟩ := flat1 hn h2
    refine ⟨by simpa using g1, fun i hi => ?_⟩
    cases i with
    | zero => exact ⟨x, rfl, h1⟩
    | succ i => simpa using g2 i (by simpa using hi)
theorem listN_at {α : Type} {C : NCod α} (hn : C.n = 1) {B : Nat} {l : List α} {s : St} {v : Value} (h : ListN C B l s v) {i : Nat} (hi : i < l.length) : ∃ p c, aindexS 1 v (.int .i64 (i : Int)) = some p ∧ aload false 1 p s = some c ∧ C.rel l[i] s [c] := by
  rcases h.2 with ⟨rfl, rfl⟩ | ⟨b, css, st, rfl, h2, h3, h4⟩
  · simp at hi
  · obtain ⟨g1, g2⟩ := flat1 hn h4
    obtain ⟨c, g3, g4⟩ := g2 i hi
    refine ⟨.pointer (some ⟨b, i, none⟩), c, by simp [aindexS, hi], ?_, g4⟩
    have hr : readRow s b = some css.flatten := by
      unfold Ab.readRow
      rw [h2]
      cases st with
      | dead => exact absurd rfl h3
      | act => rfl
      | ro => rfl
    simp [aload, hr, g3]

/-! ### Which kid's entries lie within its bounds -/
def wiE (r : Rg) (o : OpT) : Bool := if o.kind == 5 then covL r (o.lo, o.hi) else hasR r o.key
theorem within_run {R : Caller} (hC : ∀ a b s, R 61 [rv a, rv b] s = some (.bool (covL a b), s)) (hH : ∀ r k s, R 62 [rv r, sv k] s = some (.bool (hasR r k), s)) (r : Rg) (o : OpT) (s : St) : node_within R (rv r) (oV o) s = some (.bool (wiE r o), s) := by
  unfold node_within wiE
  have hb : ∀ b : Bool, retV [.bool b] s = some (.bool b, s) := fun b => ret1 rfl
  rcases Bool.eq_false_or_eq_true (o.kind == 5) with c | c
  · simp only [box_rv, o_box, o_0, o_3, o_4, ab2, c, ld_rv, span_Covers_call, hC, hb, if_true, n_bind, n_map, getL_0, getL_1, getL_2, getL_3, getL_4, getL_5, getL_6, getL_7, getL_8, getL_9, getL_10, getL_11, getL_12, condV_t, condV_f, guardV_tt, guardV_ff, guardV_tf, guardV_ft, guardV_u, apick_t, apick_f, exV_exit, exV_ret, lookE_same, joinK_eq, seqA_n, seqA_e, seqA_r, e_add, e_sub, e_mul, e_eql, e_neq, e_lss, e_leq, e_gtr, e_geq, e_conv, e_not, e_neg, and_guard, or_guard]
  · simp only [box_rv, o_box, o_0, o_1, c, ld_rv, span_Has_call, hH, hb, Bool.false_eq_true, if_false, n_bind, n_map, getL_0, getL_1, getL_2, getL_3, getL_4, getL_5, getL_6, getL_7, getL_8, getL_9, getL_10, getL_11, getL_12, condV_t, condV_f, guardV_tt, guardV_ff, guardV_tf, guardV_ft, guardV_u, apick_t, apick_f, exV_exit, exV_ret, lookE_same, joinK_eq, seqA_n, seqA_e, seqA_r, e_add, e_sub, e_mul, e_eql, e_neq, e_lss, e_leq, e_gtr, e_geq, e_conv, e_not, e_neg, and_guard, or_guard]
def ndV (f : Bool) (p k q b : Value) : Value := .agg #[.bool f, p, k, q, b]
def leafs (p k q b : Value) : Prop := isLeaf p = true ∧ isLeaf k = true ∧ isLeaf q = true ∧ isLeaf b = true
theorem nd_box (f : Bool) (p k q b : Value) (h : leafs p k q b) : lbox (ndV f p k q b) = some (ndV f p k q b) := by
  obtain ⟨h1, h2, h3, h4⟩ := h
  unfold lbox ndV
  rw [if_pos (by simp only [cellsV, List.all_cons, h1, h2, h3, h4, List.all_nil]; rfl)]
  rfl
theorem nd_3 (f : Bool) (p k q b : Value) (hq : isLeaf q = true) : lload false 1 (.pointer (some ⟨0, 3, none⟩)) (ndV f p k q b) = some q := rfl
theorem bounds_run {R : Caller} {f : Bool} {p k q b : Value} {s : St} {ps : List BL} (h : listOf strC q s = some ps) (hlf : leafs p k q b) (hl : ps.length < 140737488355328) {i : Nat} (hi : i ≤ ps.length) : node_bounds R (ndV f p k q b) (.int .i64 (i : Int)) s = some (rv (rgI ps i), s) := by
  have hret : ∀ r, retV [rv r] s = some (rv r, s) := fun r => ret1 rfl
  have hq := hlf.2.2.1
  have hbx := nd_box f p k q b hlf
  have hj1 : ∀ lo, lo = lowP ps i → node_bounds.j1 R [.int .i64 (i : Int), lptr, lptr, lptr, ndV f p k q b, rv ([], []), rv (lo, [])] s = some (rv (rgI ps i), s) := fun lo hlo => by
    subst hlo
    unfold node_bounds.j1
    by_cases c : i < ps.length
    · have h1 : decide ((i : Int) < ((ps.length : Nat) : Int)) = true := by simp; omega
      obtain ⟨a, h2, h3⟩ := str_at h c
      have hget : ps[i] = ps.getD i [] := by simp [List.getD_eq_getElem?_getD, c]
      simp only [p_3, nd_3 f p k q b hq, list_len h, h1, h2, h3, p_1, st_1, node_bounds.j0, ld_rv, st_rv, hret, n_bind, n_map, getL_0, getL_1, getL_2, getL_3, getL_4, getL_5, getL_6, getL_7, getL_8, getL_9, getL_10, getL_11, getL_12, condV_t, condV_f, guardV_tt, guardV_ff, guardV_tf, guardV_ft, guardV_u, apick_t, apick_f, exV_exit, exV_ret, lookE_same, joinK_eq, seqA_n, seqA_e, seqA_r, e_add, e_sub, e_mul, e_eql, e_neq, e_lss, e_leq, e_gtr, e_geq, e_conv, e_not, e_neg, and_guard, or_guard]
      rw [hget]
      rfl
    · have h1 : decide ((i : Int) < ((ps.length : Nat) : Int)) = false := by simp; omega
      have hget : ps.getD i [] = [] := by simp [List.getD_eq_getElem?_getD, List.getElem?_eq_none (Nat.le_of_not_lt c)]
      simp only [p_3, nd_3 f p k q b hq, list_len h, h1, node_bounds.j0, ld_rv, st_rv, hret, n_bind, n_map, getL_0, getL_1, getL_2, getL_3, getL_4, getL_5, getL_6, getL_7, getL_8, getL_9, getL_10, getL_11, getL_12, condV_t, condV_f, guardV_tt, guardV_ff, guardV_tf, guardV_ft, guardV_u, apick_t, apick_f, exV_exit, exV_ret, lookE_same, joinK_eq, seqA_n, seqA_e, seqA_r, e_add, e_sub, e_mul, e_eql, e_neq, e_lss, e_leq, e_gtr, e_geq, e_conv, e_not, e_neg, and_guard, or_guard]
      unfold rgI
      rw [hget]
  unfold node_bounds
  cases i with
  | zero =>
    have c3 : decide (((0 : Nat) : Int) > 0) = false := rfl
    simp only [hbx, c3, nil_sv, z_rv2, n_bind, n_map, getL_0, getL_1, getL_2, getL_3, getL_4, getL_5, getL_6, getL_7, getL_8, getL_9, getL_10, getL_11, getL_12, condV_t, condV_f, guardV_tt, guardV_ff, guardV_tf, guardV_ft, guardV_u, apick_t, apick_f, exV_exit, exV_ret, lookE_same, joinK_eq, seqA_n, seqA_e, seqA_r, e_add, e_sub, e_mul, e_eql, e_neq, e_lss, e_leq, e_gtr, e_geq, e_conv, e_not, e_neg, and_guard, or_guard]
    exact hj1 [] rfl
  | succ j =>
    have c3 : decide (((j + 1 : Nat) : Int) > 0) = true := decide_eq_true (by omega)
    have hj : j < ps.length := by omega
    obtain ⟨a, f1, f2⟩ := str_at h hj
    have hd1 : IntKind.wrap .i64 (((j + 1 : Nat) : Int) - 1) = ((j : Nat) : Int) := by rw [wrap_i64 (by omega) (by omega)]; omega
    have hs0 : lstore 1 lptr (sv ps[j]) (rv ([], [])) = some (rv (ps[j], [])) := rfl
    simp only [hbx, nd_3 f p k q b hq, c3, nil_sv, z_rv2, hd1, f1, f2, hs0, n_bind, n_map, getL_0, getL_1, getL_2, getL_3, getL_4, getL_5, getL_6, getL_7, getL_8, getL_9, getL_10, getL_11, getL_12, condV_t, condV_f, guardV_tt, guardV_ff, guardV_tf, guardV_ft, guardV_u, apick_t, apick_f, exV_exit, exV_ret, lookE_same, joinK_eq, seqA_n, seqA_e, seqA_r, e_add, e_sub, e_mul, e_eql, e_neq, e_lss, e_leq, e_gtr, e_geq, e_conv, e_not, e_neg, and_guard, or_guard]
    exact hj1 _ (by simp [lowP, List.getD_eq_getElem?_getD, hj])

end Go.Proofs.Ytamaapapaiopiaa.Ab
