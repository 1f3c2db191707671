/- The laws of owners: OwnerAsks, OwnerOnce, OwnerMoved. -/
import Derived.Test.YtmnmpackcjakdaaOwLib
set_option linter.unusedVariables false
set_option linter.unusedSimpArgs false
set_option linter.unusedSectionVars false
namespace Go.Proofs.Ytmnmpackcjakdaa.Ab
open Go

theorem eql_bool {t : TypeId} (ht : Try.prog.underlying t = some .bool) {o1 o2 : Operand} {a b : Bool} : abin Try.prog .eql t o1 o2 (.bool a) (.bool b) = some (.bool (a == b)) := by
  unfold abin
  simp only [ht, Option.bind_some, eqSmall, Option.map_some]
theorem neq_bool {t : TypeId} (ht : Try.prog.underlying t = some .bool) {o1 o2 : Operand} {a b : Bool} : abin Try.prog .neq t o1 o2 (.bool a) (.bool b) = some (.bool (!(a == b))) := by
  unfold abin
  simp only [ht, Option.bind_some, eqSmall, Option.map_some]
theorem rv_of (a c : ByteArray) : Value.agg #[.string a, .string c] = rv (a.data.toList, c.data.toList) := by
  unfold rv
  rw [← sv_of, ← sv_of]

theorem asks_run (s : St) (v : Value) (l : List Ow) (h : listOf owC v s = some l) (hl : l.length < 140737488355328) (k : BL) (i sh : Int) (r : Rg) : law17_OwnerAsks (run Try.prog (libL libT) hints) v (sv k) (.int .i64 i) (.int .i64 sh) (rv r) s = some (.bool true, s) := by
  have z : (Value.agg #[sv [], sv []]) = rv ([], []) := rfl
  have e1 : ∀ x : Int, (x == x) = true := fun x => beq_self_eq_true x
  have e2 : ∀ x : BL, (x == x) = true := fun x => beq_self_eq_true x
  unfold law17_OwnerAsks
  simp only [box_rv, law17_live_call, k_live, owner_Find_call, k_fi h hl, ref17_Find_call, k_rfi h hl, owner_RangeOf_call, k_ro h hl, ref17_RangeOf_call, k_rro h hl, owner_Check_call, k_chkO h hl, ref17_Check_call, k_rchkO h hl, owner_Owns_call, k_owns h hl, ref17_Owns_call, k_rowns h hl, x_fi0, x_fi1, x_ro0, x_ro1, nil_sv, z, st_rvO, ld_rv, own_id, e1, e2, rv_eql, Bool.and_self, eql_bool Try.underlying4, n_bind, n_map, getL_0, getL_1, getL_2, getL_3, getL_4, getL_5, getL_6, getL_7, getL_8, getL_9, getL_10, getL_11, getL_12, condV_t, condV_f, guardV_tt, guardV_ff, guardV_tf, guardV_ft, guardV_u, apick_t, apick_f, exV_exit, exV_ret, lookE_same, joinK_eq, seqA_n, seqA_e, seqA_r, e_add, e_sub, e_mul, e_eql, e_neq, e_lss, e_leq, e_gtr, e_geq, e_conv, e_not, e_neg, and_guard, or_guard, ret_bool]
  simp only [beq_self_eq_true]
theorem OwnerAsks_law (s : St) (v : Value) (l : List Ow) (h : listOf owC v s = some l) (hl : l.length ≤ 6000000000000) (k : ByteArray) (wk : k.size ≤ 140737488351232) (i : Int) (wi : (Lit.int .i64 i).wf = true) (sh : Int) (ws : (Lit.int .i64 sh).wf = true) (a c : ByteArray) (wa : a.size ≤ maxLen) (wc : c.size ≤ maxLen) : ∃ s', (run Try.prog (libL libT) hints) 4 [v, .string k, .int .i64 i, .int .i64 sh, .agg #[.string a, .string c]] s = some (.bool true, s') := by
  rw [rv_of, sv_of]
  exact ⟨s, law17_OwnerAsks_of rfl (asks_run s v l h (by omega) _ i sh _)⟩

/-! ### What comes out may be -/
theorem shA_sh {l : List Ow} (h : Okay l) {i : Nat} (hi : i < l.length) : shOk (shA l i) = true := by rw [shA_lt hi]; exact h.sh i hi
theorem sp_len {l : List Ow} {k : BL} (h : fiO l k < l.length) : (spM l k).length = l.length + 1 := by
  unfold spM
  rw [List.length_append, List.length_cons, List.length_take, List.length_drop]
  omega
theorem sp_get {l : List Ow} {k : BL} (h : fiO l k < l.length) (i : Nat) : (spM l k)[i]? = if i ≤ fiO l k then l[i]? else if i = fiO l k + 1 then some (k, shA l (fiO l k)) else l[i - 1]? := by
  unfold spM
  have hlen : (l.take (fiO l k + 1)).length = fiO l k + 1 := by rw [List.length_take]; omega
  by_cases c : i ≤ fiO l k
  · rw [if_pos c, List.getElem?_append_left (by omega), List.getElem?_take_of_lt (by omega)]
  · rw [if_neg c, List.getElem?_append_right (by omega), hlen]
    by_cases d : i = fiO l k + 1
    · rw [if_pos d, d, Nat.sub_self, List.getElem?_cons_zero]
    · rw [if_neg d]
      obtain ⟨j, hj⟩ : ∃ j, i - (fiO l k + 1) = j + 1 := ⟨i - (fiO l k + 1) - 1, by omega⟩
      rw [hj, List.getElem?_cons_succ, List.getElem?_drop]
      congr 1
      omega
theorem sp_lo {l : List Ow} {k : BL} (h : fiO l k < l.length) (i : Nat) : loA (spM l k) i = if i ≤ fiO l k then loA l i else if i = fiO l k + 1 then k else loA l (i - 1) := by
  unfold loA
  rw [sp_get h]
  by_cases c : i ≤ fiO l k
  · simp only [if_pos c]
  · by_cases d : i = fiO l k + 1
    · simp only [if_neg c, if_pos d]
    · simp only [if_neg c, if_neg d]
theorem sp_sh {l : List Ow} {k : BL} (h : fiO l k < l.length) (i : Nat) : shA (spM l k) i = if i ≤ fiO l k then shA l i else if i = fiO l k + 1 then shA l (fiO l k) else shA l (i - 1) := by
  unfold shA
  rw [sp_get h]
  by_cases c : i ≤ fiO l k
  · simp only [if_pos c]
  · by_cases d : i = fiO l k + 1
    · simp only [if_neg c, if_pos d]
      rfl
    · simp only [if_neg c, if_neg d]
theorem okay_of {l : List Ow} (h6 : l.length ≤ 6) (h0 : 0 < l.length) (hm : ∀ i j, i < j → j < l.length → bl (loA l i) (loA l j) = true) (hf : loA l 0 = []) (hk : ∀ i, 0 < i → i < l.length → ckK (loA l i) = true) (hs : ∀ i, i < l.length → shOk (shA l i) = true) : Okay l :=
  ⟨h6, h0, List.pairwise_iff_getElem.2 fun i j hi hj hij => by
    have := hm i j hij hj
    rwa [loA_lt hi, loA_lt hj] at this, hf, hk, fun i hi => by
    have := hs i hi
    rwa [shA_lt hi] at this⟩
theorem spE_0 {l : List Ow} {k : BL} (h : spE l k = 0) : Okay l ∧ ckK k = true ∧ loA l (fiO l k) ≠ k ∧ l.length < 6 := by
  unfold spE at h
  split at h
  · rename_i c
    obtain ⟨c1, c2⟩ := fiE_0.1 c
    have hok := okay_iff.1 c1
    have h6 := hok.len
    split at h
    · cases h
    · rename_i d
      split at h
      · cases h
      · exact ⟨hok, c2, d, by omega⟩
  · rename_i c; exact absurd h c
theorem sp_okay {l : List Ow} {k : BL} (h : spE l k = 0) : Okay (spM l k) := by
  obtain ⟨hok, hk, hne, h6⟩ := spE_0 h
  obtain ⟨g1, g2, g3⟩ := hok.find k
  have hlen := sp_len g1
  have hpos := hok.pos
  have hlk : bl (loA l (fiO l k)) k = true := by
    rcases bl_total hne with q | q
    · exact q
    · rw [q] at g2; cases g2
  refine okay_of (by omega) (by omega) (fun i j hij hj => ?_) ?_ (fun i h0 hi => ?_) fun i hi => ?_
  · rw [sp_lo g1, sp_lo g1]
    by_cases c1 : i ≤ fiO l k
    · rw [if_pos c1]
      by_cases c2 : j ≤ fiO l k
      · rw [if_pos c2]; exact hok.mono hij (by omega)
      · rw [if_neg c2]
        by_cases c3 : j = fiO l k + 1
        · rw [if_pos c3]
          by_cases c4 : i = fiO l k
          · rw [c4]; exact hlk
          · exact bl_trans (hok.mono (i := i) (j := fiO l k) (by omega) g1) hlk
        · rw [if_neg c3]; exact hok.mono (by omega) (by omega)
    · rw [if_neg c1]
      have c2 : ¬ j ≤ fiO l k := by omega
      have c3 : ¬ j = fiO l k + 1 := by omega
      rw [if_neg c2, if_neg c3]
      by_cases c4 : i = fiO l k + 1
      · rw [if_pos c4]; exact g3 (j - 1) (by omega) (by omega)
      · rw [if_neg c4]; exact hok.mono (by omega) (by omega)
  · rw [sp_lo g1, if_pos (by omega)]; exact hok.first
  · rw [sp_lo g1]
    split
    · exact hok.key i h0 (by omega)
    · split
      · exact hk
      · exact hok.key (i - 1) (by omega) (by omega)
  · rw [sp_sh g1]
    split
    · exact shA_sh hok (by omega)
    · split
      · exact shA_sh hok g1
      · exact shA_sh hok (by omega)
theorem gvE_0 {l : List Ow} {n sh : Int} (h : gvE l n sh = 0) : Okay l ∧ 0 ≤ n ∧ n < (l.length : Int) ∧ shOk sh = true := by
  unfold gvE at h
  split at h
  · rename_i c
    split at h
    · rename_i d
      split at h
      · rename_i e; exact ⟨okay_iff.1 c, d.1, d.2, e⟩
      · cases h
    · cases h
  · cases h
theorem gv_lo {l : List Ow} {n sh : Int} (i : Nat) : loA (gvM l n sh) i = loA l i := by
  unfold gvM
  by_cases c : i < l.length
  · by_cases d : n.toNat = i
    · rw [loA_lt (by simpa using c), d]
      simp
    · rw [loA_lt (by simpa using c), List.getElem_set_ne d, loA_lt c]
  · rw [loA_ge (by simp; omega), loA_ge (by omega)]
theorem gv_sh {l : List Ow} {n sh : Int} {i : Nat} (hi : i < l.length) : shA (gvM l n sh) i = if n.toNat = i then sh else shA l i := by
  unfold gvM
  rw [shA_lt (by simpa using hi), shA_lt hi, List.getElem_set]
  split <;> rfl
theorem gv_okay {l : List Ow} {n sh : Int} (h : gvE l n sh = 0) : Okay (gvM l n sh) := by
  obtain ⟨hok, _, _, hs⟩ := gvE_0 h
  have hlen : (gvM l n sh).length = l.length := by simp [gvM]
  refine okay_of (by rw [hlen]; exact hok.len) (by rw [hlen]; exact hok.pos) (fun i j hij hj => ?_) ?_ (fun i h0 hi => ?_) fun i hi => ?_
  · rw [gv_lo, gv_lo]; exact hok.mono hij (by omega)
  · rw [gv_lo]; exact hok.first
  · rw [gv_lo]; exact hok.key i h0 (by omega)
  · rw [gv_sh (by omega)]
    split
    · exact hs
    · exact shA_sh hok (by omega)

theorem once_loop {v : Value} {s : St} {l : List Ow} (h : listOf owC v s = some l) (hok : Okay l) {k : BL} (hk : ckK k = true) (x2 x3 x4 : Value) : ∀ (d i : Nat), l.length - i = d → i ≤ l.length →
    loopL (law17_OwnerOnce.b0 (run Try.prog (libL libT) hints)) [v, sv k, x2, x3, x4, .int .i64 ((fiO l k : Nat) : Int), .int .i64 (i : Int), .int .i64 ((l.length : Nat) : Int), .int .i64 (i : Int)] s = some (.exit 0, [v, sv k, x2, x3, x4, .int .i64 ((l.length : Nat) : Int)], s) := by
  have hl6 := hok.len
  have z : (Value.agg #[sv [], sv []]) = rv ([], []) := rfl
  intro d
  induction d with
  | zero =>
    intro i hd hi
    have e : i = l.length := by omega
    have h1 : decide ((i : Int) < ((l.length : Nat) : Int)) = false := decide_eq_false (by omega)
    rw [loopL_eq]
    simp only [law17_OwnerOnce.b0, h1, n_bind, n_map, getL_0, getL_1, getL_2, getL_3, getL_4, getL_5, getL_6, getL_7, getL_8, getL_9, getL_10, getL_11, getL_12, condV_t, condV_f, guardV_tt, guardV_ff, guardV_tf, guardV_ft, guardV_u, apick_t, apick_f, exV_exit, exV_ret, lookE_same, joinK_eq, seqA_n, seqA_e, seqA_r, e_add, e_sub, e_mul, e_eql, e_neq, e_lss, e_leq, e_gtr, e_geq, e_conv, e_not, e_neg, and_guard, or_guard]
    rw [e]
  | succ d ih =>
    intro i hd hi
    have hlt : i < l.length := by omega
    have h1 : decide ((i : Int) < ((l.length : Nat) : Int)) = true := decide_eq_true (by omega)
    have e1 : roR l (i : Int) = keyR l i := by
      unfold roR
      rw [if_pos (okay_iff.2 hok), if_pos ⟨by omega, by omega⟩, Int.toNat_natCast]
    have e2 : roE l (i : Int) = 0 := by
      unfold roE
      rw [if_pos (okay_iff.2 hok), if_pos ⟨by omega, by omega⟩]
    have e3 : eR (keyR l i) = 0 := by unfold eR; rw [hok.range hlt]; rfl
    have e4 : ((i : Int) == ((fiO l k : Nat) : Int)) = decide (i = fiO l k) := by
      by_cases c : i = fiO l k
      · rw [c]; simp
      · rw [decide_eq_false c, beq_eq_false_iff_ne]; omega
    have z0 : ((0 : Int) != 0) = false := rfl
    have e5 : ∀ b : Bool, (!(b == b)) = false := fun b => by cases b <;> rfl
    have key := ih (i + 1) (by omega) (by omega)
    rw [loopL_eq]
    simp only [law17_OwnerOnce.b0, h1, owner_RangeOf_call, k_ro h (show l.length < 140737488355328 by omega), x_ro0, x_ro1, e1, e2, nil_sv, z, st_rvO, ld_rv, z0, span_Check_call, k_chk, e3, span_Has_call, k_has, hok.has hk hlt, e4, neq_bool Try.underlying4, e5, inc_i (show i < 140737488355328 by omega), n_bind, n_map, getL_0, getL_1, getL_2, getL_3, getL_4, getL_5, getL_6, getL_7, getL_8, getL_9, getL_10, getL_11, getL_12, condV_t, condV_f, guardV_tt, guardV_ff, guardV_tf, guardV_ft, guardV_u, apick_t, apick_f, exV_exit, exV_ret, lookE_same, joinK_eq, seqA_n, seqA_e, seqA_r, e_add, e_sub, e_mul, e_eql, e_neq, e_lss, e_leq, e_gtr, e_geq, e_conv, e_not, e_neg, and_guard, or_guard]
    exact key
theorem isOk_0 : ((0 : Int) != 0) = false := rfl
theorem isNot_0 {e : Int} (h : e ≠ 0) : (e != 0) = true := by simpa using h
theorem OwnC.alen {α : Type} {C : Cod α} {N : Nat} {s s2 : St} {v : Value} {l : List α} (h : OwnC C N s v l) {e : TypeId} : alenV (.slice e) v s2 = some (.int .i64 ((l.length : Nat) : Int)) := list_len h.list
theorem OwnerOnce_law (s : St) (v : Value) (l : List Ow) (h : listOf owC v s = some l) (hl : l.length ≤ 6000000000000) (k : ByteArray) (wk : k.size ≤ 140737488351232) (n : Int) (wi : (Lit.int .i64 n).wf = true) (sh : Int) (ws : (Lit.int .i64 sh).wf = true) : ∃ s', (run Try.prog (libL libT) hints) 5 [v, .string k, .int .i64 n, .int .i64 sh] s = some (.bool true, s') := by
  rw [sv_of]
  generalize k.data.toList = k
  have hl2 : l.length < 140737488355328 := by omega
  by_cases c : fiE l k = 0
  · obtain ⟨c1, c2⟩ := fiE_0.1 c
    have hok := okay_iff.1 c1
    have h6 := hok.len
    obtain ⟨g1, _, _⟩ := hok.find k
    have en : fiN l k = ((fiO l k : Nat) : Int) := by unfold fiN; rw [if_pos ⟨c1, c2⟩]
    have hloop := once_loop h hok c2 (.int .i64 n) (.int .i64 sh) (.bool true) l.length 0 (by omega) (Nat.zero_le _)
    rw [show ((0 : Nat) : Int) = 0 from rfl] at hloop
    obtain ⟨a, t, a1, a2, a3⟩ := k_split h hl2 k
    obtain ⟨b, t2, b1, b2, b3⟩ := k_give (list_ext a3 h) hl2 n sh
    have hA := k_chkO (list_ext b3 a2.list) (by split <;> first | (rw [sp_len g1]; omega) | simp)
    have hB := k_chkO b2.list (by split <;> simp [gvM]; omega)
    have eq1 : (((l.length : Nat) : Int) == ((l.length : Nat) : Int)) = true := beq_self_eq_true _
    refine ⟨t2, law17_OwnerOnce_of rfl ?_⟩
    unfold law17_OwnerOnce
    simp only [law17_live_call, k_live, owner_Find_call, k_fi h hl2, x_fi0, x_fi1, c, en, isOk_0, list_len h, hloop, owner_Split_call, a1, x2_0 a2.tup, x2_1 (show isTup (.int .i64 (spE l k)) = false from rfl), owner_Give_call, b1, x2_0 b2.tup, x2_1 (show isTup (.int .i64 (gvE l n sh)) = false from rfl), eq1, n_bind, n_map, getL_0, getL_1, getL_2, getL_3, getL_4, getL_5, getL_6, getL_7, getL_8, getL_9, getL_10, getL_11, getL_12, condV_t, condV_f, guardV_tt, guardV_ff, guardV_tf, guardV_ft, guardV_u, apick_t, apick_f, exV_exit, exV_ret, lookE_same, joinK_eq, seqA_n, seqA_e, seqA_r, e_add, e_sub, e_mul, e_eql, e_neq, e_lss, e_leq, e_gtr, e_geq, e_conv, e_not, e_neg, and_guard, or_guard]
    have hAl : ∀ e s2, alenV (.slice e) a s2 = some (.int .i64 (((if spE l k = 0 then spM l k else []).length : Nat) : Int)) := fun e s2 => a2.alen
    have hBl : ∀ e s2, alenV (.slice e) b s2 = some (.int .i64 (((if gvE l n sh = 0 then gvM l n sh else []).length : Nat) : Int)) := fun e s2 => b2.alen
    by_cases d : spE l k = 0
    · have d2 : eO (spM l k) = 0 := by unfold eO; rw [okay_iff.2 (sp_okay d)]; rfl
      rw [if_pos d, d2] at hA
      rw [if_pos d, sp_len g1] at hAl
      have q1 : ((0 : Int) == 0) = true := rfl
      by_cases f : gvE l n sh = 0
      · have f2 : eO (gvM l n sh) = 0 := by unfold eO; rw [okay_iff.2 (gv_okay f)]; rfl
        have f3 : (gvM l n sh).length = l.length := by simp [gvM]
        rw [if_pos f, f2] at hB
        rw [if_pos f, f3] at hBl
        have eq2 : (((l.length + 1 : Nat) : Int) == ((l.length + 1 : Nat) : Int)) = true := beq_self_eq_true _
        simp only [d, f, isOk_0, owner_Check_call, hA, hB, hAl, hBl, q1, inc_i (show l.length < 140737488355328 by omega), eq1, eq2, n_bind, n_map, getL_0, getL_1, getL_2, getL_3, getL_4, getL_5, getL_6, getL_7, getL_8, getL_9, getL_10, getL_11, getL_12, condV_t, condV_f, guardV_tt, guardV_ff, guardV_tf, guardV_ft, guardV_u, apick_t, apick_f, exV_exit, exV_ret, lookE_same, joinK_eq, seqA_n, seqA_e, seqA_r, e_add, e_sub, e_mul, e_eql, e_neq, e_lss, e_leq, e_gtr, e_geq, e_conv, e_not, e_neg, and_guard, or_guard, ret_bool]
      · have eq2 : (((l.length + 1 : Nat) : Int) == ((l.length + 1 : Nat) : Int)) = true := beq_self_eq_true _
        simp only [d, isNot_0 f, isOk_0, owner_Check_call, hA, hAl, q1, inc_i (show l.length < 140737488355328 by omega), eq1, eq2, n_bind, n_map, getL_0, getL_1, getL_2, getL_3, getL_4, getL_5, getL_6, getL_7, getL_8, getL_9, getL_10, getL_11, getL_12, condV_t, condV_f, guardV_tt, guardV_ff, guardV_tf, guardV_ft, guardV_u, apick_t, apick_f, exV_exit, exV_ret, lookE_same, joinK_eq, seqA_n, seqA_e, seqA_r, e_add, e_sub, e_mul, e_eql, e_neq, e_lss, e_leq, e_gtr, e_geq, e_conv, e_not, e_neg, and_guard, or_guard, ret_bool]
    · by_cases f : gvE l n sh = 0
      · have f2 : eO (gvM l n sh) = 0 := by unfold eO; rw [okay_iff.2 (gv_okay f)]; rfl
        have f3 : (gvM l n sh).length = l.length := by simp [gvM]
        have q1 : ((0 : Int) == 0) = true := rfl
        rw [if_pos f, f2] at hB
        rw [if_pos f, f3] at hBl
        simp only [isNot_0 d, f, isOk_0, owner_Check_call, hB, hBl, q1, eq1, n_bind, n_map, getL_0, getL_1, getL_2, getL_3, getL_4, getL_5, getL_6, getL_7, getL_8, getL_9, getL_10, getL_11, getL_12, condV_t, condV_f, guardV_tt, guardV_ff, guardV_tf, guardV_ft, guardV_u, apick_t, apick_f, exV_exit, exV_ret, lookE_same, joinK_eq, seqA_n, seqA_e, seqA_r, e_add, e_sub, e_mul, e_eql, e_neq, e_lss, e_leq, e_gtr, e_geq, e_conv, e_not, e_neg, and_guard, or_guard, ret_bool]
      · simp only [isNot_0 d, isNot_0 f, n_bind, n_map, getL_0, getL_1, getL_2, getL_3, getL_4, getL_5, getL_6, getL_7, getL_8, getL_9, getL_10, getL_11, getL_12, condV_t, condV_f, guardV_tt, guardV_ff, guardV_tf, guardV_ft, guardV_u, apick_t, apick_f, exV_exit, exV_ret, lookE_same, joinK_eq, seqA_n, seqA_e, seqA_r, e_add, e_sub, e_mul, e_eql, e_neq, e_lss, e_leq, e_gtr, e_geq, e_conv, e_not, e_neg, and_guard, or_guard, ret_bool]
  · refine ⟨s, law17_OwnerOnce_of rfl ?_⟩
    unfold law17_OwnerOnce
    simp only [law17_live_call, k_live, owner_Find_call, k_fi h hl2, x_fi0, x_fi1, isNot_0 c, n_bind, n_map, getL_0, getL_1, getL_2, getL_3, getL_4, getL_5, getL_6, getL_7, getL_8, getL_9, getL_10, getL_11, getL_12, condV_t, condV_f, guardV_tt, guardV_ff, guardV_tf, guardV_ft, guardV_u, apick_t, apick_f, exV_exit, exV_ret, lookE_same, joinK_eq, seqA_n, seqA_e, seqA_r, e_add, e_sub, e_mul, e_eql, e_neq, e_lss, e_leq, e_gtr, e_geq, e_conv, e_not, e_neg, and_guard, or_guard, ret_bool]
end Go.Proofs.Ytmnmpackcjakdaa.Ab
