/- The laws of owners: OwnerMoved, OwnerTurns. -/
import Derived.Test.YtmnmpackcjakdaaOwLawA
set_option linter.unusedVariables false
set_option linter.unusedSimpArgs false
set_option linter.unusedSectionVars false
namespace Go.Proofs.Ytmnmpackcjakdaa.Ab
open Go

theorem x2_i {a : Value} {k : IntKind} {n : Int} : aextract 1 (.tuple #[a, .int k n]) = some (.int k n) := Eq.trans rfl (Eq.refl _)
theorem Okay.only {l : List Ow} (h : Okay l) {k : BL} {i : Nat} (hi : i < l.length) (h1 : bl k (loA l i) = false) (h2 : ∀ j, i < j → j < l.length → bl k (loA l j) = true) : fiO l k = i := by
  obtain ⟨g1, g2, g3⟩ := h.find k
  rcases Nat.lt_trichotomy i (fiO l k) with c | c | c
  · have := h2 _ c g1
    rw [g2] at this; cases this
  · exact c.symm
  · have := g3 _ c hi
    rw [h1] at this; cases this
theorem fi_split {l : List Ow} {k : BL} (h : spE l k = 0) : fiO (spM l k) k = fiO l k + 1 := by
  obtain ⟨hok, hk, hne, h6⟩ := spE_0 h
  obtain ⟨g1, g2, g3⟩ := hok.find k
  have hlen := sp_len g1
  refine (sp_okay h).only (by omega) ?_ fun j hj hjl => ?_
  · rw [sp_lo g1, if_neg (by omega), if_pos rfl]; exact bl_irrefl k
  · rw [sp_lo g1, if_neg (by omega), if_neg (by omega)]; exact g3 _ (by omega) (by omega)
theorem fi_give {l : List Ow} {n sh : Int} (h : gvE l n sh = 0) (o : BL) : fiO (gvM l n sh) o = fiO l o := by
  obtain ⟨hok, _⟩ := gvE_0 h
  obtain ⟨g1, g2, g3⟩ := hok.find o
  have hlen : (gvM l n sh).length = l.length := by simp [gvM]
  refine (gv_okay h).only (by omega) ?_ fun j hj hjl => ?_
  · rw [gv_lo]; exact g2
  · rw [gv_lo]; exact g3 _ hj (by omega)
theorem fi_back {l : List Ow} {k o : BL} (h : spE l k = 0) (hne : fiO (spM l k) o ≠ fiO l k + 1) : shA (spM l k) (fiO (spM l k) o) = shA l (fiO l o) := by
  obtain ⟨hok, hk, _, h6⟩ := spE_0 h
  obtain ⟨g1, _, _⟩ := hok.find k
  have hlen := sp_len g1
  obtain ⟨f1, f2, f3⟩ := (sp_okay h).find o
  rw [sp_sh g1]
  rw [sp_lo g1] at f2
  by_cases c : fiO (spM l k) o ≤ fiO l k
  · rw [if_pos c] at f2 ⊢
    have := hok.only (i := fiO (spM l k) o) (by omega) f2 fun j hj hjl => by
      by_cases d : j ≤ fiO l k
      · have := f3 j hj (by omega)
        rwa [sp_lo g1, if_pos d] at this
      · have := f3 (j + 1) (by omega) (by omega)
        rwa [sp_lo g1, if_neg (by omega), if_neg (by omega)] at this
    rw [this]
  · rw [if_neg c, if_neg hne] at f2 ⊢
    have := hok.only (i := fiO (spM l k) o - 1) (by omega) f2 fun j hj hjl => by
      have := f3 (j + 1) (by omega) (by omega)
      rwa [sp_lo g1, if_neg (by omega), if_neg (by omega)] at this
    rw [this]

theorem OwnerMoved_law (s : St) (v : Value) (l : List Ow) (h : listOf owC v s = some l) (hl : l.length ≤ 6000000000000) (k : ByteArray) (wk : k.size ≤ 140737488351232) (sh : Int) (ws : (Lit.int .i64 sh).wf = true) (o : ByteArray) (wo : o.size ≤ 140737488351232) : ∃ s', (run Try.prog (libL libT) hints) 6 [v, .string k, .int .i64 sh, .string o] s = some (.bool true, s') := by
  rw [sv_of k, sv_of o]
  generalize k.data.toList = k
  generalize o.data.toList = o
  have hl2 : l.length < 140737488355328 := by omega
  have z : (Value.agg #[sv [], sv []]) = rv ([], []) := rfl
  obtain ⟨a, t, a1, a2, a3⟩ := k_split h hl2 k
  by_cases c : spE l k = 0
  · obtain ⟨hok, hk, hne, h6⟩ := spE_0 c
    obtain ⟨g1, _, _⟩ := hok.find k
    have hlen := sp_len g1
    have hokm := sp_okay c
    have hom := okay_iff.2 hokm
    rw [if_pos c] at a2
    have hm : listOf owC a t = some (spM l k) := a2.list
    have hml : (spM l k).length < 140737488355328 := by omega
    have e1 : fiN (spM l k) k = ((fiO l k + 1 : Nat) : Int) := by unfold fiN; rw [if_pos ⟨hom, hk⟩, fi_split c]
    have e2 : fiE (spM l k) k = 0 := fiE_0.2 ⟨hom, hk⟩
    obtain ⟨b, t2, b1, b2, b3⟩ := k_give hm hml ((fiO l k + 1 : Nat) : Int) sh
    have e3 : gvE (spM l k) ((fiO l k + 1 : Nat) : Int) sh = if shOk sh = true then 0 else 1 := by unfold gvE; rw [if_pos hom, if_pos ⟨by omega, by omega⟩]
    have hm2 := list_ext b3 hm
    have e4 : roR (spM l k) ((fiO l k + 1 : Nat) : Int) = keyR (spM l k) (fiO l k + 1) := by unfold roR; rw [if_pos hom, if_pos ⟨by omega, by omega⟩, Int.toNat_natCast]
    have e5 : roE (spM l k) ((fiO l k + 1 : Nat) : Int) = 0 := by unfold roE; rw [if_pos hom, if_pos ⟨by omega, by omega⟩]
    have q1 : ((0 : Int) == 0) = true := rfl
    have q2 : ((1 : Int) == 0) = false := rfl
    have q3 : ((1 : Int) != 0) = true := rfl
    have tb : ∀ b : Bool, (!(b == b)) = false := fun b => by cases b <;> rfl
    have hge : decide (sh ≥ 1) = !decide (sh < 1) := by
      by_cases d : sh < 1
      · rw [decide_eq_true d, decide_eq_false (by omega)]; rfl
      · rw [decide_eq_false d, decide_eq_true (by omega)]; rfl
    have hle : decide (sh ≤ 4) = !decide (sh > 4) := by
      by_cases d : sh > 4
      · rw [decide_eq_true d, decide_eq_false (by omega)]; rfl
      · rw [decide_eq_false d, decide_eq_true (by omega)]; rfl
    have hshd : shOk sh = (!(decide (sh < 1)) && !(decide (sh > 4))) := rfl
    by_cases f : shOk sh = true
    · rw [if_pos f] at e3
      rw [if_pos e3] at b2
      rw [hshd] at f
      simp only [Bool.and_eq_true, Bool.not_eq_true'] at f
      by_cases g : ckK o = true
      · have hbo := okay_iff.2 (gv_okay e3)
        have hlx := list_ext b3 (list_ext a3 h)
        have p1 : fiN l o = ((fiO l o : Nat) : Int) := by unfold fiN; rw [if_pos ⟨okay_iff.2 hok, g⟩]
        have p2 : fiN (gvM (spM l k) ((fiO l k + 1 : Nat) : Int) sh) o = ((fiO (spM l k) o : Nat) : Int) := by unfold fiN; rw [if_pos ⟨hbo, g⟩, fi_give e3]
        have p3 : fiE (gvM (spM l k) ((fiO l k + 1 : Nat) : Int) sh) o = 0 := fiE_0.2 ⟨hbo, g⟩
        have hlenb : (gvM (spM l k) ((fiO l k + 1 : Nat) : Int) sh).length = l.length + 1 := by simp [gvM, hlen]
        obtain ⟨w1, _, _⟩ := hokm.find o
        obtain ⟨x1, u1, x2, u2, u3⟩ := ow_sh hlx (hok.find o).1
        obtain ⟨y1, v1, y2, v2, v3⟩ := ow_sh b2.list (i := fiO (spM l k) o) (by omega)
        rw [← shA_lt] at u3 v3
        rw [gv_sh w1, Int.toNat_natCast] at v3
        have hk0 : loA (spM l k) (fiO l k + 1) = k := by rw [sp_lo g1, if_neg (by omega), if_pos rfl]
        have hkey : eK o = 0 := by unfold eK; rw [g]; rfl
        have e0 : ∀ x : Int, (x == x) = true := fun x => beq_self_eq_true x
        have e0' : ∀ x : BL, (x == x) = true := fun x => beq_self_eq_true x
        have hld : lload false 1 (.pointer (some ⟨0, 0, none⟩)) (rv (keyR (spM l k) (fiO l k + 1))) = some (sv k) := by rw [ld_00]; unfold keyR; rw [hk0]
        refine ⟨t2, law17_OwnerMoved_of rfl ?_⟩
        unfold law17_OwnerMoved
        simp only [law17_live_call, k_live, owner_Split_call, a1, x2_0 a2.tup, x2_i, c, isOk_0, owner_Find_call, k_fi hm hml, x_fi0, x_fi1, e1, e2, owner_Give_call, b1, x2_0 b2.tup, x2_i, e3, q1, hge, hle, f.1, f.2, Bool.not_false, neq_bool Try.underlying4, tb, owner_RangeOf_call, k_ro hm2 hml, x_ro0, x_ro1, e4, e5, nil_sv, z, st_rvO, ld_rv, span_CheckKey_call, k_key, hkey, k_fi hlx hl2, p1, k_fi b2.list (show _ < 140737488355328 by rw [hlenb]; omega), p2, p3, u1, u2, u3, span_Has_call, k_has, hokm.has g (show fiO l k + 1 < (spM l k).length by omega), n_bind, n_map, getL_0, getL_1, getL_2, getL_3, getL_4, getL_5, getL_6, getL_7, getL_8, getL_9, getL_10, getL_11, getL_12, condV_t, condV_f, guardV_tt, guardV_ff, guardV_tf, guardV_ft, guardV_u, apick_t, apick_f, exV_exit, exV_ret, lookE_same, joinK_eq, seqA_n, seqA_e, seqA_r, e_add, e_sub, e_mul, e_eql, e_neq, e_lss, e_leq, e_gtr, e_geq, e_conv, e_not, e_neg, and_guard, or_guard]
        by_cases d : fiO l k + 1 = fiO (spM l k) o
        · have d1 : decide (fiO l k + 1 = fiO (spM l k) o) = true := decide_eq_true d
          rw [if_pos d] at v3
          simp only [d1, condV_t, joinK_eq, law17_OwnerMoved.j0, q1, ad_0, ld_00, hld, e_seql, e0, e0', v1, v2, v3, n_bind, n_map, getL_0, getL_1, getL_2, getL_3, getL_4, getL_5, getL_6, getL_7, getL_8, getL_9, getL_10, getL_11, getL_12, condV_t, condV_f, guardV_tt, guardV_ff, guardV_tf, guardV_ft, guardV_u, apick_t, apick_f, exV_exit, exV_ret, lookE_same, joinK_eq, seqA_n, seqA_e, seqA_r, e_add, e_sub, e_mul, e_eql, e_neq, e_lss, e_leq, e_gtr, e_geq, e_conv, e_not, e_neg, and_guard, or_guard, ret_bool]
        · have d1 : decide (fiO l k + 1 = fiO (spM l k) o) = false := decide_eq_false d
          rw [if_neg d, fi_back c (Ne.symm d)] at v3
          simp only [d1, condV_f, joinK_eq, law17_OwnerMoved.j0, q1, ad_0, ld_00, hld, e_seql, e0, e0', v1, v2, v3, n_bind, n_map, getL_0, getL_1, getL_2, getL_3, getL_4, getL_5, getL_6, getL_7, getL_8, getL_9, getL_10, getL_11, getL_12, condV_t, condV_f, guardV_tt, guardV_ff, guardV_tf, guardV_ft, guardV_u, apick_t, apick_f, exV_exit, exV_ret, lookE_same, joinK_eq, seqA_n, seqA_e, seqA_r, e_add, e_sub, e_mul, e_eql, e_neq, e_lss, e_leq, e_gtr, e_geq, e_conv, e_not, e_neg, and_guard, or_guard, ret_bool]
      · have hkey : (eK o != 0) = true := by rw [eK_n]; simpa using g
        refine ⟨t2, law17_OwnerMoved_of rfl ?_⟩
        unfold law17_OwnerMoved
        simp only [law17_live_call, k_live, owner_Split_call, a1, x2_0 a2.tup, x2_i, c, isOk_0, owner_Find_call, k_fi hm hml, x_fi0, x_fi1, e1, e2, owner_Give_call, b1, x2_0 b2.tup, x2_i, e3, q1, hge, hle, f.1, f.2, Bool.not_false, neq_bool Try.underlying4, tb, owner_RangeOf_call, k_ro hm2 hml, x_ro0, x_ro1, e4, e5, nil_sv, z, st_rvO, ld_rv, span_CheckKey_call, k_key, hkey, n_bind, n_map, getL_0, getL_1, getL_2, getL_3, getL_4, getL_5, getL_6, getL_7, getL_8, getL_9, getL_10, getL_11, getL_12, condV_t, condV_f, guardV_tt, guardV_ff, guardV_tf, guardV_ft, guardV_u, apick_t, apick_f, exV_exit, exV_ret, lookE_same, joinK_eq, seqA_n, seqA_e, seqA_r, e_add, e_sub, e_mul, e_eql, e_neq, e_lss, e_leq, e_gtr, e_geq, e_conv, e_not, e_neg, and_guard, or_guard, ret_bool]
    · have f2 : (!decide (sh < 1) && !decide (sh > 4)) = false := by rw [← hshd]; simpa using f
      rw [if_neg f] at e3
      have tf : (!(false == false)) = false := rfl
      refine ⟨t2, law17_OwnerMoved_of rfl ?_⟩
      unfold law17_OwnerMoved
      have hsplit : (decide (sh < 1) = true) ∨ (decide (sh < 1) = false ∧ decide (sh > 4) = true) := by
        cases q : decide (sh < 1) <;> cases r : decide (sh > 4) <;> simp_all
      rcases hsplit with f3 | ⟨f3, f4⟩
      · simp only [law17_live_call, k_live, owner_Split_call, a1, x2_0 a2.tup, x2_i, c, isOk_0, owner_Find_call, k_fi hm hml, x_fi0, x_fi1, e1, e2, owner_Give_call, b1, x2_0 b2.tup, x2_i, e3, q1, q2, q3, hge, hle, f3, Bool.not_false, Bool.not_true, neq_bool Try.underlying4, tf, owner_RangeOf_call, k_ro hm2 hml, x_ro0, x_ro1, e4, e5, nil_sv, z, st_rvO, ld_rv, n_bind, n_map, getL_0, getL_1, getL_2, getL_3, getL_4, getL_5, getL_6, getL_7, getL_8, getL_9, getL_10, getL_11, getL_12, condV_t, condV_f, guardV_tt, guardV_ff, guardV_tf, guardV_ft, guardV_u, apick_t, apick_f, exV_exit, exV_ret, lookE_same, joinK_eq, seqA_n, seqA_e, seqA_r, e_add, e_sub, e_mul, e_eql, e_neq, e_lss, e_leq, e_gtr, e_geq, e_conv, e_not, e_neg, and_guard, or_guard, ret_bool]
      · simp only [law17_live_call, k_live, owner_Split_call, a1, x2_0 a2.tup, x2_i, c, isOk_0, owner_Find_call, k_fi hm hml, x_fi0, x_fi1, e1, e2, owner_Give_call, b1, x2_0 b2.tup, x2_i, e3, q1, q2, q3, hge, hle, f3, f4, Bool.not_false, Bool.not_true, neq_bool Try.underlying4, tf, owner_RangeOf_call, k_ro hm2 hml, x_ro0, x_ro1, e4, e5, nil_sv, z, st_rvO, ld_rv, n_bind, n_map, getL_0, getL_1, getL_2, getL_3, getL_4, getL_5, getL_6, getL_7, getL_8, getL_9, getL_10, getL_11, getL_12, condV_t, condV_f, guardV_tt, guardV_ff, guardV_tf, guardV_ft, guardV_u, apick_t, apick_f, exV_exit, exV_ret, lookE_same, joinK_eq, seqA_n, seqA_e, seqA_r, e_add, e_sub, e_mul, e_eql, e_neq, e_lss, e_leq, e_gtr, e_geq, e_conv, e_not, e_neg, and_guard, or_guard, ret_bool]
  · refine ⟨t, law17_OwnerMoved_of rfl ?_⟩
    unfold law17_OwnerMoved
    simp only [law17_live_call, k_live, owner_Split_call, a1, x2_0 a2.tup, x2_i, isNot_0 c, n_bind, n_map, getL_0, getL_1, getL_2, getL_3, getL_4, getL_5, getL_6, getL_7, getL_8, getL_9, getL_10, getL_11, getL_12, condV_t, condV_f, guardV_tt, guardV_ff, guardV_tf, guardV_ft, guardV_u, apick_t, apick_f, exV_exit, exV_ret, lookE_same, joinK_eq, seqA_n, seqA_e, seqA_r, e_add, e_sub, e_mul, e_eql, e_neq, e_lss, e_leq, e_gtr, e_geq, e_conv, e_not, e_neg, and_guard, or_guard, ret_bool]
theorem turns_b1 {R : Caller} {N : Nat} {x0 x1 x2 x3 x4 x5 a x7 x8 : Value} {n : Nat} (hn : n < 140737488355328) : ∀ (d i : Nat) (t : St) (A : List Ow), A.length = n → n - i = d → i ≤ n → OwnC owC N t a A →
    ∃ t', loopL (law17_OwnerTurns.b1 R) [x0, x1, x2, x3, x4, x5, a, x7, x8, .int .i64 (n : Int), .int .i64 (i : Int)] t = some (.exit 2, [x0, x1, x2, x3, x4, x5, x7, x8], t') ∧ Keep (blkOf a) t t' := by
  intro d
  induction d with
  | zero =>
    intro i t A hA hd hi ho
    have h1 : decide ((i : Int) < (n : Int)) = false := decide_eq_false (by omega)
    refine ⟨t, ?_, .refl _ _⟩
    rw [loopL_eq]
    simp only [law17_OwnerTurns.b1, h1, n_bind, n_map, getL_0, getL_1, getL_2, getL_3, getL_4, getL_5, getL_6, getL_7, getL_8, getL_9, getL_10, getL_11, getL_12, condV_t, condV_f, guardV_tt, guardV_ff, guardV_tf, guardV_ft, guardV_u, apick_t, apick_f, exV_exit, exV_ret, lookE_same, joinK_eq, seqA_n, seqA_e, seqA_r, e_add, e_sub, e_mul, e_eql, e_neq, e_lss, e_leq, e_gtr, e_geq, e_conv, e_not, e_neg, and_guard, or_guard]
  | succ d ih =>
    intro i t A hA hd hi ho
    have h1 : decide ((i : Int) < (n : Int)) = true := decide_eq_true (by omega)
    obtain ⟨p, q, t1, k1, k2, k3, k4, k5⟩ := ownC_set ho (i := i) (k := 1) (a := (A[i].1, 99)) (x := .int .i64 99) (by omega) (by decide) rfl rfl w_set (kd := .i64) (n := 2) rfl
    obtain ⟨t', g1, g2⟩ := ih (i + 1) t1 _ (by simp [hA]) (by omega) (by omega) k4
    refine ⟨t', ?_, k5.trans g2⟩
    rw [loopL_eq]
    simp only [law17_OwnerTurns.b1, h1, k1, k2, k3, inc_i (show i < 140737488355328 by omega), n_bind, n_map, getL_0, getL_1, getL_2, getL_3, getL_4, getL_5, getL_6, getL_7, getL_8, getL_9, getL_10, getL_11, getL_12, condV_t, condV_f, guardV_tt, guardV_ff, guardV_tf, guardV_ft, guardV_u, apick_t, apick_f, exV_exit, exV_ret, lookE_same, joinK_eq, seqA_n, seqA_e, seqA_r, e_add, e_sub, e_mul, e_eql, e_neq, e_lss, e_leq, e_gtr, e_geq, e_conv, e_not, e_neg, and_guard, or_guard]
    exact g1
theorem turns_b2 {R : Caller} {N : Nat} {x0 x1 x2 x3 x4 x5 a x7 : Value} {n : Nat} (hn : n < 140737488355328) : ∀ (d i : Nat) (t : St) (A : List Ow), A.length = n → n - i = d → i ≤ n → OwnC owC N t a A →
    ∃ t', loopL (law17_OwnerTurns.b2 R) [x0, x1, x2, x3, x4, x5, a, x7, .int .i64 (n : Int), .int .i64 (i : Int)] t = some (.exit 4, [x0, x1, x2, x3, x4, x5, x7], t') ∧ Keep (blkOf a) t t' := by
  intro d
  induction d with
  | zero =>
    intro i t A hA hd hi ho
    have h1 : decide ((i : Int) < (n : Int)) = false := decide_eq_false (by omega)
    refine ⟨t, ?_, .refl _ _⟩
    rw [loopL_eq]
    simp only [law17_OwnerTurns.b2, h1, n_bind, n_map, getL_0, getL_1, getL_2, getL_3, getL_4, getL_5, getL_6, getL_7, getL_8, getL_9, getL_10, getL_11, getL_12, condV_t, condV_f, guardV_tt, guardV_ff, guardV_tf, guardV_ft, guardV_u, apick_t, apick_f, exV_exit, exV_ret, lookE_same, joinK_eq, seqA_n, seqA_e, seqA_r, e_add, e_sub, e_mul, e_eql, e_neq, e_lss, e_leq, e_gtr, e_geq, e_conv, e_not, e_neg, and_guard, or_guard]
  | succ d ih =>
    intro i t A hA hd hi ho
    have h1 : decide ((i : Int) < (n : Int)) = true := decide_eq_true (by omega)
    obtain ⟨p, q, t1, k1, k2, k3, k4, k5⟩ := ownC_set ho (i := i) (k := 1) (a := (A[i].1, 99)) (x := .int .i64 99) (by omega) (by decide) rfl rfl w_set (kd := .i64) (n := 2) rfl
    obtain ⟨t', g1, g2⟩ := ih (i + 1) t1 _ (by simp [hA]) (by omega) (by omega) k4
    refine ⟨t', ?_, k5.trans g2⟩
    rw [loopL_eq]
    simp only [law17_OwnerTurns.b2, h1, k1, k2, k3, inc_i (show i < 140737488355328 by omega), n_bind, n_map, getL_0, getL_1, getL_2, getL_3, getL_4, getL_5, getL_6, getL_7, getL_8, getL_9, getL_10, getL_11, getL_12, condV_t, condV_f, guardV_tt, guardV_ff, guardV_tf, guardV_ft, guardV_u, apick_t, apick_f, exV_exit, exV_ret, lookE_same, joinK_eq, seqA_n, seqA_e, seqA_r, e_add, e_sub, e_mul, e_eql, e_neq, e_lss, e_leq, e_gtr, e_geq, e_conv, e_not, e_neg, and_guard, or_guard]
    exact g1
theorem OwnC.extE {α : Type} {C : Cod α} {N : Nat} {s t : St} {v : Value} {l : List α} (h : OwnC C N s v l) (k : Ext s.heap.length s t) : OwnC C N t v l := h.keep (k.keep (B := none)) (fun c _ e => by cases e)
theorem spM_len (l : List Ow) (k : BL) : (if spE l k = 0 then spM l k else []).length < 140737488355328 := by
  split
  · rename_i c
    obtain ⟨hok, _, _, h6⟩ := spE_0 c
    rw [sp_len (hok.find k).1]; omega
  · simp
theorem gvM_len (l : List Ow) (n sh : Int) : (if gvE l n sh = 0 then gvM l n sh else []).length < 140737488355328 := by
  split
  · rename_i c
    have := (gvE_0 c).1.len
    simp [gvM]; omega
  · simp
theorem turns_round {v w : Value} {s : St} {l : List Ow} (h : listOf owC v s = some l) (hw : listOf owC w s = some l) (hl : l.length < 140737488355328) (k : BL) (n sh : Int) {i : Nat} (hi : i < 2) :
    ∃ t, law17_OwnerTurns.b0 (run Try.prog (libL libT) hints) [v, sv k, .int .i64 n, .int .i64 sh, .bool true, w, .int .i64 (i : Int)] s = some (.normal, [v, sv k, .int .i64 n, .int .i64 sh, .bool true, w, .int .i64 ((i + 1 : Nat) : Int)], t) ∧ Ext s.heap.length s t := by
  have h1 : decide ((i : Int) < 2) = true := decide_eq_true (by omega)
  obtain ⟨a, t1, a1, a2, a3⟩ := k_split hw hl k
  obtain ⟨b, t2, b1, b2, b3⟩ := k_rsplit (list_ext a3 h) hl k
  have x2 : Ext s.heap.length s t2 := a3.trans (b3.less a3.1)
  obtain ⟨c, t3, c1, c2, c3⟩ := k_give (list_ext x2 hw) hl n sh
  have x3 : Ext s.heap.length s t3 := x2.trans (c3.less x2.1)
  obtain ⟨d, t4, d1, d2, d3⟩ := k_rgive (list_ext x3 h) hl n sh
  have x4 : Ext s.heap.length s t4 := x3.trans (d3.less x3.1)
  have A4 : OwnC owC s.heap.length t4 a (if spE l k = 0 then spM l k else []) := ((a2.extE b3).extE c3).extE d3
  have B4 := (b2.extE c3).extE d3
  have C4 := c2.extE d3
  have s1 := k_same A4.list B4.list (spM_len l k)
  have s2 := k_same C4.list d2.list (gvM_len l n sh)
  have s3 := k_same (list_ext x4 hw) (list_ext x4 h) hl
  have q0 : ∀ x : Int, (x != x) = false := fun x => by simp
  obtain ⟨t5, e1, e2⟩ := turns_b1 (R := (run Try.prog (libL libT) hints)) (N := s.heap.length) (x0 := v) (x1 := sv k) (x2 := .int .i64 n) (x3 := .int .i64 sh) (x4 := .bool true) (x5 := w) (x7 := c) (x8 := .int .i64 (i : Int)) (spM_len l k) _ 0 t4 _ rfl rfl (Nat.zero_le _) A4
  have hapart : ∀ z, blkOf c = some z → blkOf a ≠ some z := fun z hz hz2 => by
    have g1 := (c2.blk z hz).1
    have g2 := (a2.blk z hz2).2
    have := b3.1
    omega
  have C5 := C4.keep e2 hapart
  obtain ⟨t6, f1, f2⟩ := turns_b2 (R := (run Try.prog (libL libT) hints)) (x0 := v) (x1 := sv k) (x2 := .int .i64 n) (x3 := .int .i64 sh) (x4 := .bool true) (x5 := w) (x7 := .int .i64 (i : Int)) (gvM_len l n sh) _ 0 t5 _ rfl rfl (Nat.zero_le _) C5
  rw [show ((0 : Nat) : Int) = 0 from rfl] at e1 f1
  have x5 : Ext s.heap.length s t5 := x4.trans (e2.ext x4.1 fun z hz => (a2.blk z hz).1)
  have x6 : Ext s.heap.length s t6 := x5.trans (f2.ext x5.1 fun z hz => Nat.le_trans x2.1 (c2.blk z hz).1)
  refine ⟨t6, ?_, x6⟩
  have la : ∀ e s2, alenV (.slice e) a s2 = some (.int .i64 (((if spE l k = 0 then spM l k else []).length : Nat) : Int)) := fun e s2 => a2.alen
  have lc : ∀ e s2, alenV (.slice e) c s2 = some (.int .i64 (((if gvE l n sh = 0 then gvM l n sh else []).length : Nat) : Int)) := fun e s2 => c2.alen
  unfold law17_OwnerTurns.b0
  simp only [h1, owner_Split_call, a1, x2_0 a2.tup, x2_i, ref17_Split_call, b1, x2_0 b2.tup, owner_Give_call, c1, x2_0 c2.tup, x2_i, ref17_Give_call, d1, x2_0 d2.tup, ref17_Same_call, s1, s2, s3, decide_true, Bool.not_true, q0, la, e1, lc, f1, inc_i (show i < 140737488355328 by omega), n_bind, n_map, getL_0, getL_1, getL_2, getL_3, getL_4, getL_5, getL_6, getL_7, getL_8, getL_9, getL_10, getL_11, getL_12, condV_t, condV_f, guardV_tt, guardV_ff, guardV_tf, guardV_ft, guardV_u, apick_t, apick_f, exV_exit, exV_ret, lookE_same, joinK_eq, seqA_n, seqA_e, seqA_r, e_add, e_sub, e_mul, e_eql, e_neq, e_lss, e_leq, e_gtr, e_geq, e_conv, e_not, e_neg, and_guard, or_guard]
theorem OwnerTurns_law (s : St) (v : Value) (l : List Ow) (h : listOf owC v s = some l) (hl : l.length * 24 ≤ 140737488351232) (k : ByteArray) (wk : k.size ≤ 140737488351232) (n : Int) (wi : (Lit.int .i64 n).wf = true) (sh : Int) (ws : (Lit.int .i64 sh).wf = true) : ∃ s', (run Try.prog (libL libT) hints) 3 [v, .string k, .int .i64 n, .int .i64 sh] s = some (.bool true, s') := by
  rw [sv_of]
  generalize k.data.toList = k
  have hl2 : l.length < 140737488355328 := by omega
  obtain ⟨w, t, w1, w2, w3⟩ := append_nil h (n := 2) (w := 24) rfl (by decide) (.inl (by omega))
  have hw := w2.toC.list
  have hv := list_ext w3 h
  obtain ⟨t1, r1, x1⟩ := turns_round hv hw hl2 k n sh (i := 0) (by omega)
  obtain ⟨t2, r2, x2⟩ := turns_round (list_ext x1 hv) (list_ext x1 hw) hl2 k n sh (i := 1) (by omega)
  have h1 : decide (((2 : Nat) : Int) < 2) = false := rfl
  refine ⟨t2, law17_OwnerTurns_of rfl ?_⟩
  unfold law17_OwnerTurns
  rw [show (.int .i64 0 : Value) = .int .i64 ((0 : Nat) : Int) from rfl]
  simp only [law17_live_call, k_live, w1, n_bind]
  rw [loopL_eq, r1, seqA_n, loopL_eq, r2, seqA_n, loopL_eq]
  simp only [law17_OwnerTurns.b0, h1, n_bind, n_map, getL_0, getL_1, getL_2, getL_3, getL_4, getL_5, getL_6, getL_7, getL_8, getL_9, getL_10, getL_11, getL_12, condV_t, condV_f, guardV_tt, guardV_ff, guardV_tf, guardV_ft, guardV_u, apick_t, apick_f, exV_exit, exV_ret, lookE_same, joinK_eq, seqA_n, seqA_e, seqA_r, e_add, e_sub, e_mul, e_eql, e_neq, e_lss, e_leq, e_gtr, e_geq, e_conv, e_not, e_neg, and_guard, or_guard, ret_bool]
end Go.Proofs.Ytmnmpackcjakdaa.Ab
