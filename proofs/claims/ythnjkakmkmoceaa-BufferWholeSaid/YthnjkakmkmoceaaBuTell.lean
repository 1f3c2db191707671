/- What Find tells is what is there behind Apply. -/
import Derived.Test.YthnjkakmkmoceaaBuLib
import Derived.Test.YthnjkakmkmoceaaOpPure2
set_option linter.unusedVariables false
set_option linter.unusedSimpArgs false
set_option linter.unusedSectionVars false
namespace Go.Proofs.Ythnjkakmkmoceaa.Ab
open Go

/-! ### Apply -/
def opsL (l : List En) : List OpT := l.map (·.2)
theorem eBF_all : ∀ {l : List En} {p : Option Int}, eBF p l = 0 → ∀ e ∈ l, ckO e.2 = 0 ∧ wrt e.2.kind = true
  | [], _, _, e, he => by cases he
  | x :: l, p, h, e, he => by
    unfold eBF at h
    have hs : stE p x = 0 := by
      by_cases c : (stE p x == 0) = true
      · simpa using c
      · rw [if_neg c] at h; exact h
    have hx : ckO x.2 = 0 ∧ wrt x.2.kind = true := by
      unfold stE at hs
      by_cases c : (ckO x.2 == 0) = true
      · rw [if_pos c] at hs
        by_cases c2 : wrt x.2.kind = true
        · exact ⟨by simpa using c, c2⟩
        · rw [if_neg c2] at hs; cases hs
      · rw [if_neg c] at hs
        exact absurd (by simp [hs]) c
    rcases List.mem_cons.1 he with rfl | he
    · exact hx
    · have hz : (stE p x == 0) = true := by rw [hs]; rfl
      rw [if_pos hz] at h
      exact eBF_all h e he
theorem allE_of : ∀ {l : List OpT}, (∀ o ∈ l, ckO o = 0) → allE l = 0
  | [], _ => rfl
  | o :: l, h => by
    rw [allE_cons, if_pos (h o (List.mem_cons_self ..))]
    exact allE_of fun x hx => h x (List.mem_cons_of_mem _ hx)
theorem eB_ops {l : List En} (h : eB l = 0) : allE (opsL l) = 0 := allE_of fun o ho => by
  obtain ⟨e, he, rfl⟩ := List.mem_map.1 ho
  exact (eBF_all h e he).1

theorem ops_loop {R : Caller} {v : Value} {s0 : St} {l : List En} (h : listOf enC v s0 = some l) (hl : l.length ≤ 1600000000000) : ∀ (rest : List En) (i : Nat) (s : St) (out : Value), l.drop i = rest → i ≤ l.length → Ext s0.heap.length s0 s → Own s0.heap.length 6 s out (encL opC (opsL (l.take i))) →
    ∃ v' t, loopL (buffer_ops.b0 R) [out, v, .int .i64 ((l.length : Nat) : Int), .int .i64 (i : Int)] s = some (.exit 0, [v'], t) ∧ Own s0.heap.length 6 t v' (encL opC (opsL l)) ∧ Ext s0.heap.length s0 t := by
  intro rest
  induction rest with
  | nil =>
    intro i s out hi hle hx ho
    have hge := List.drop_eq_nil_iff.1 hi
    have h1 : decide ((i : Int) < ((l.length : Nat) : Int)) = false := by simp; omega
    refine ⟨out, s, ?_, ?_, hx⟩
    · rw [loopL_eq]
      simp only [buffer_ops.b0, h1, n_bind, n_map, getL_0, getL_1, getL_2, getL_3, getL_4, getL_5, getL_6, getL_7, getL_8, getL_9, getL_10, getL_11, getL_12, condV_t, condV_f, guardV_tt, guardV_ff, guardV_tf, guardV_ft, guardV_u, apick_t, apick_f, exV_exit, exV_ret, lookE_same, joinK_eq, seqA_n, seqA_e, seqA_r, e_add, e_sub, e_mul, e_eql, e_neq, e_lss, e_leq, e_gtr, e_geq, e_conv, e_not, e_neg, and_guard, or_guard]
    · rwa [List.take_of_length_le hge] at ho
  | cons o rest ih =>
    intro i s out hi hle hx ho
    obtain ⟨hlt, he, hd⟩ := drop_get hi
    have h1 : decide ((i : Int) < ((l.length : Nat) : Int)) = true := by simp; omega
    obtain ⟨p, h2, h3⟩ := list_at (list_ext hx h) hlt (k := .i64) (n := 7) rfl
    rw [en_enc, he] at h3
    obtain ⟨r, a1, a2, v', s', a3, a4, a5, a6⟩ := own_add1 (C := opC) (w := 80) (a := o.2) (v := oV o.2) (z := [(.int .i64 0), (.string ⟨#[]⟩), (.string ⟨#[]⟩), (.string ⟨#[]⟩), (.string ⟨#[]⟩), (.int .i64 0)]) ho hx.1 (by decide) (by decide) rfl rfl rfl (by
      unfold opsL
      rw [List.length_map, List.length_take]; omega) (n := 6) rfl
    have htk : opsL (l.take i) ++ [o.2] = opsL (l.take (i + 1)) := by
      unfold opsL
      rw [List.take_add_one, List.getElem?_eq_getElem hlt, he]
      simp
    rw [htk] at a4
    obtain ⟨v2, t, k1, k2, k3⟩ := ih (i + 1) s' v' hd (by omega) (hx.trans a5) a4
    refine ⟨v2, t, ?_, k2, k3⟩
    rw [← k1, loopL_eq]
    simp only [buffer_ops.b0, h1, h2, h3, nil_sv, n_z, n_st, n_op, n_bind, n_map, getL_0, getL_1, getL_2, getL_3, getL_4, getL_5, getL_6, getL_7, getL_8, getL_9, getL_10, getL_11, getL_12, condV_t, condV_f, guardV_tt, guardV_ff, guardV_tf, guardV_ft, guardV_u, apick_t, apick_f, exV_exit, exV_ret, lookE_same, joinK_eq, seqA_n, seqA_e, seqA_r, e_add, e_sub, e_mul, e_eql, e_neq, e_lss, e_leq, e_gtr, e_geq, e_conv, e_not, e_neg, and_guard, or_guard]
    rw [nil_sv] at a1
    simp only [a1, a3, inc_i64 (show i < 140737488355328 by omega), n_bind, n_map, getL_0, getL_1, getL_2, getL_3, getL_4, getL_5, getL_6, getL_7, getL_8, getL_9, getL_10, getL_11, getL_12, condV_t, condV_f, guardV_tt, guardV_ff, guardV_tf, guardV_ft, guardV_u, apick_t, apick_f, exV_exit, exV_ret, lookE_same, joinK_eq, seqA_n, seqA_e, seqA_r, e_add, e_sub, e_mul, e_eql, e_neq, e_lss, e_leq, e_gtr, e_geq, e_conv, e_not, e_neg, and_guard, or_guard]
theorem ops_run {R : Caller} {v : Value} {s : St} {l : List En} (h : listOf enC v s = some l) (hl : l.length ≤ 1600000000000) : ∃ v' t, buffer_ops R v s = some (v', t) ∧ listOf opC v' t = some (opsL l) ∧ Ext s.heap.length s t := by
  obtain ⟨v', t, k1, k2, k3⟩ := ops_loop (R := R) h hl l 0 s (.slice none 0 0) rfl (Nat.zero_le _) (.refl _ _) (.nil _ _ _)
  rw [show ((0 : Nat) : Int) = 0 from rfl] at k1
  refine ⟨v', t, ?_, own_list (C := opC) k2, k3⟩
  unfold buffer_ops
  simp only [list_len h, k1, n_bind, n_map, getL_0, getL_1, getL_2, getL_3, getL_4, getL_5, getL_6, getL_7, getL_8, getL_9, getL_10, getL_11, getL_12, condV_t, condV_f, guardV_tt, guardV_ff, guardV_tf, guardV_ft, guardV_u, apick_t, apick_f, exV_exit, exV_ret, lookE_same, joinK_eq, seqA_n, seqA_e, seqA_r, e_add, e_sub, e_mul, e_eql, e_neq, e_lss, e_leq, e_gtr, e_geq, e_conv, e_not, e_neg, and_guard, or_guard, ret1 k2.notup]
def bE (m : List Rg) (l : List En) : Int := if mapE [] m = 0 then eB l else mapE [] m
theorem opHT {R : Caller} (hR : R = (run Try.prog (libL libT) hints)) : OpH R := by
  subst hR
  exact ⟨fun x y s r h => op_get_of rfl h, fun x y s r h => op_put_of rfl h, fun x y s r h => op_del_of rfl h, fun x y s r h => op_scan_of rfl h, fun x y s r h => op_clear_of rfl h, fun xs s => known (g := gAt) rfl, fun xs s => known (g := gIns) rfl, fun o s => (known (g := gOf) rfl).trans of_eq, fun xs s => known (g := gEnds) rfl, fun a b c s r h => slices_Delete_api_Pair_api_Pair_of rfl h, fun a s r h => slices_Clone_api_Pair_api_Pair_of rfl h, fun xs s => known (g := gMapE) rfl, fun xs s => known (g := gAllE) rfl, fun s => (known (g := gForms) rfl).trans forms_eq⟩
theorem k_map {v : Value} {s : St} {m : List Rg} (hm : listOf prC v s = some m) (hl : m.length < 140737488355328) : (run Try.prog (libL libT) hints) 18 [v] s = some (.int .i64 (mapE [] m), s) := (known (g := gMapE) rfl).trans (gL_eq hm hl)
theorem x_30 {a : Value} (h : noTup a = true) (b c : Value) : aextract 0 (.tuple #[a, b, c]) = some a := by cases a <;> first | rfl | (cases h; done)
theorem x_31 {b : Value} (h : noTup b = true) (a c : Value) : aextract 1 (.tuple #[a, b, c]) = some b := by cases b <;> first | rfl | (cases h; done)
theorem x_32 (a b : Value) (n : Int) : aextract 2 (.tuple #[a, b, .int .i64 n]) = some (.int .i64 n) := Eq.trans rfl (Eq.refl _)
theorem x_20 {a : Value} (h : noTup a = true) (b : Value) : aextract 0 (.tuple #[a, b]) = some a := by cases a <;> first | rfl | (cases h; done)
theorem x_21 (a : Value) (n : Int) : aextract 1 (.tuple #[a, .int .i64 n]) = some (.int .i64 n) := Eq.trans rfl (Eq.refl _)
theorem ret2T {a : Value} {n : Int} {s : St} (h : noTup a = true) : retV [a, .int .i64 n] s = some (.tuple #[a, .int .i64 n], s) := by
  unfold retV
  rw [if_pos (by simp only [List.all_cons, h, List.all_nil]; rfl)]
  rfl
theorem k_bapply {v w : Value} {s : St} {m : List Rg} {l : List En} (hm : listOf prC v s = some m) (h : listOf enC w s = some l) (hml : m.length ≤ 4500000000000) (hl : l.length ≤ 1600000000000) :
    if bE m l = 0 then ∃ a t, (run Try.prog (libL libT) hints) 13 [v, w] s = some (.tuple #[a, .int .i64 0], t) ∧ OwnC prC s.heap.length t a (apM m (opsL l)) ∧ Ext s.heap.length s t
    else (run Try.prog (libL libT) hints) 13 [v, w] s = some (.tuple #[.slice none 0 0, .int .i64 (bE m l)], s) := by
  have z0 : ((0 : Int) != 0) = false := rfl
  unfold bE
  by_cases c1 : mapE [] m = 0
  · rw [if_pos c1]
    by_cases c2 : eB l = 0
    · rw [if_pos c2]
      obtain ⟨x, t1, g1, g2, g3⟩ := ops_run (R := (run Try.prog (libL libT) hints)) h hl
      have hops := buffer_ops_of (lib := libL libT) rfl g1
      have hA := Apply_run (R := (run Try.prog (libL libT) hints)) (opHT rfl) (list_ext g3 hm) g2 (by unfold opsL; rw [List.length_map]; omega) (by unfold opsL; rw [List.length_map]; omega)
      have hap : apE m (opsL l) = 0 := by unfold apE; rw [if_pos c1]; exact eB_ops c2
      rw [if_pos hap] at hA
      obtain ⟨a, r, t, f1, f2, f3, f4⟩ := hA
      have happ := op_Apply_of (lib := libL libT) rfl f1
      refine ⟨a, t, buffer_Apply_of rfl ?_, f2.mono g3.1, g3.trans (f4.less g3.1)⟩
      have hrt : noTup r = true := by
        obtain ⟨q, _, hq, _⟩ := f3
        exact hq.notup
      have y0 := x_30 f2.notup r (.int .i64 0)
      have y1 := x_31 hrt a (.int .i64 0)
      have y2 := x_32 a r 0
      unfold buffer_Apply
      simp only [op_CheckMap_call, k_map hm (by omega), c1, z0, buffer_Check_call, k_chkE h (by omega), c2, buffer_ops_call, hops, op_Apply_call, happ, y0, y1, y2, ret2T f2.notup, n_bind, n_map, getL_0, getL_1, getL_2, getL_3, getL_4, getL_5, getL_6, getL_7, getL_8, getL_9, getL_10, getL_11, getL_12, condV_t, condV_f, guardV_tt, guardV_ff, guardV_tf, guardV_ft, guardV_u, apick_t, apick_f, exV_exit, exV_ret, lookE_same, joinK_eq, seqA_n, seqA_e, seqA_r, e_add, e_sub, e_mul, e_eql, e_neq, e_lss, e_leq, e_gtr, e_geq, e_conv, e_not, e_neg, and_guard, or_guard]
    · rw [if_neg c2]
      have n2 : (eB l != 0) = true := by simp [c2]
      refine buffer_Apply_of rfl ?_
      unfold buffer_Apply
      simp only [op_CheckMap_call, k_map hm (by omega), c1, z0, buffer_Check_call, k_chkE h (by omega), n2, n_bind, n_map, getL_0, getL_1, getL_2, getL_3, getL_4, getL_5, getL_6, getL_7, getL_8, getL_9, getL_10, getL_11, getL_12, condV_t, condV_f, guardV_tt, guardV_ff, guardV_tf, guardV_ft, guardV_u, apick_t, apick_f, exV_exit, exV_ret, lookE_same, joinK_eq, seqA_n, seqA_e, seqA_r, e_add, e_sub, e_mul, e_eql, e_neq, e_lss, e_leq, e_gtr, e_geq, e_conv, e_not, e_neg, and_guard, or_guard]
      exact ret2T rfl
  · rw [if_neg c1, if_neg c1]
    have n1 : (mapE [] m != 0) = true := by simp [c1]
    refine buffer_Apply_of rfl ?_
    unfold buffer_Apply
    simp only [op_CheckMap_call, k_map hm (by omega), n1, n_bind, n_map, getL_0, getL_1, getL_2, getL_3, getL_4, getL_5, getL_6, getL_7, getL_8, getL_9, getL_10, getL_11, getL_12, condV_t, condV_f, guardV_tt, guardV_ff, guardV_tf, guardV_ft, guardV_u, apick_t, apick_f, exV_exit, exV_ret, lookE_same, joinK_eq, seqA_n, seqA_e, seqA_r, e_add, e_sub, e_mul, e_eql, e_neq, e_lss, e_leq, e_gtr, e_geq, e_conv, e_not, e_neg, and_guard, or_guard]
    exact ret2T rfl

/-! ### What it tells -/
theorem tch_sp {o : OpT} (h : ckO o = 0) (hw : wrt o.kind = true) {k : BL} : tch o k = (hasR (spR o) k && wrt o.kind) := by
  rw [hw, Bool.and_true]
  have hk : o.kind = 2 ∨ o.kind = 3 ∨ o.kind = 5 := by
    unfold wrt at hw
    simp at hw
    omega
  rcases hk with hk | hk | hk
  · obtain ⟨g1, g2⟩ := sp_keyed h (by rw [hk]; rfl)
    rw [g1, has_pt g2]
    unfold tch
    rw [hk]
    show (o.key == k) = (k == o.key)
    rw [Bool.eq_iff_iff, beq_iff_eq, beq_iff_eq]
    exact eq_comm
  · obtain ⟨g1, g2⟩ := sp_keyed h (by rw [hk]; rfl)
    rw [g1, has_pt g2]
    unfold tch
    rw [hk]
    show (o.key == k) = (k == o.key)
    rw [Bool.eq_iff_iff, beq_iff_eq, beq_iff_eq]
    exact eq_comm
  · obtain ⟨g1, g2⟩ := sp_ranged h (by rw [hk]; rfl)
    rw [g1]
    unfold tch
    rw [hk]
    rfl
def sayM (f : Say) (x : Option BL) : Option BL := if f.2.2 = true then (if f.2.1 = true then some f.1 else none) else x
theorem tells_pure {m : List Rg} {k : BL} : ∀ (n : Nat) {l : List En}, l.length = n → (∀ e ∈ l, ckO e.2 = 0 ∧ wrt e.2.kind = true) → cGet (apM m (opsL l)) k = sayM (findE l k) (cGet m k) ∧ ((findE l k).2.1 = false → (findE l k).1 = [])
  | 0, l, hn, _ => by
    obtain rfl := List.eq_nil_of_length_eq_zero hn
    exact ⟨rfl, fun _ => rfl⟩
  | n + 1, l, hn, hl => by
    have hne : l ≠ [] := fun e => by rw [e] at hn; cases hn
    obtain ⟨l2, e, rfl⟩ : ∃ l2 e, l = l2 ++ [e] := ⟨l.dropLast, l.getLast hne, (List.dropLast_concat_getLast hne).symm⟩
    have hn2 : l2.length = n := by simp at hn; exact hn
    obtain ⟨ih1, ih2⟩ := tells_pure n hn2 fun x hx => hl x (List.mem_append_left _ hx)
    obtain ⟨h1, h2⟩ := hl e (by simp)
    have hops : opsL (l2 ++ [e]) = opsL l2 ++ [e.2] := by simp [opsL]
    have hf : findE (l2 ++ [e]) k = sayF (findE l2 k) e k := by simp [findE, List.foldl_append]
    rw [hops, apM_snoc, get_do h1, hf, ← tch_sp h1 h2]
    unfold sayF
    rcases Bool.eq_false_or_eq_true (tch e.2 k) with c | c
    · rw [c]
      simp only [if_true]
      unfold sayO sayM
      by_cases c2 : e.2.kind = 2
      · have c3 : (e.2.kind == 2) = true := by simp [c2]
        simp only [c3, if_true, if_pos c2]
        exact ⟨trivial, fun h => by cases h⟩
      · have c3 : ¬ (e.2.kind == 2) = true := by simp [c2]
        simp only [if_neg c3, if_neg c2, if_true, Bool.false_eq_true, if_false]
        exact ⟨trivial, fun _ => trivial⟩
    · rw [c]
      simp only [Bool.false_eq_true, if_false]
      exact ⟨ih1, ih2⟩

theorem tells_run (s : St) (v w : Value) (m : List Rg) (l : List En) (hm : listOf prC v s = some m) (h : listOf enC w s = some l) (hml : m.length ≤ 4500000000000) (hl : l.length ≤ 1600000000000) (k : BL) : ∃ t, law12_BufferTells (run Try.prog (libL libT) hints) v w (sv k) s = some (.bool true, t) := by
  have hA := k_bapply hm h hml hl
  have z0 : ((0 : Int) != 0) = false := rfl
  have hkey : ∀ s, (run Try.prog (libL libT) hints) 17 [sv k] s = some (.int .i64 (eK k), s) := fun s => (known (g := gKey) rfl).trans key_eq
  by_cases c : bE m l = 0
  · rw [if_pos c] at hA
    obtain ⟨a, t, g1, g2, g3⟩ := hA
    have hm2 := list_ext g3 hm
    have h2 := list_ext g3 h
    have c1 : mapE [] m = 0 := by
      unfold bE at c
      by_cases c1 : mapE [] m = 0
      · exact c1
      · rw [if_neg c1] at c; exact c
    have c2 : eB l = 0 := by
      unfold bE at c
      rwa [if_pos c1] at c
    refine ⟨t, ?_⟩
    have y0 := x_20 g2.notup (.int .i64 0)
    have y1 := x_21 a 0
    obtain ⟨x0, x1, x2⟩ := x_say (findE l k)
    unfold law12_BufferTells
    simp only [law12_live_call, k_live, buffer_Apply_call, g1, y0, y1, z0, ref02_CheckKey_call, hkey, eK_n, op_CheckMap_call, k_map hm2 (show m.length < 140737488355328 by omega), c1, n_bind, n_map, getL_0, getL_1, getL_2, getL_3, getL_4, getL_5, getL_6, getL_7, getL_8, getL_9, getL_10, getL_11, getL_12, condV_t, condV_f, guardV_tt, guardV_ff, guardV_tf, guardV_ft, guardV_u, apick_t, apick_f, exV_exit, exV_ret, lookE_same, joinK_eq, seqA_n, seqA_e, seqA_r, e_add, e_sub, e_mul, e_eql, e_neq, e_lss, e_leq, e_gtr, e_geq, e_conv, e_not, e_neg, and_guard, or_guard]
    rcases Bool.eq_false_or_eq_true (ckK k) with c3 | c3
    · obtain ⟨p1, p2⟩ := tells_pure (m := m) (k := k) l.length rfl (eBF_all c2)
      have hfa := ref04_Find_of (lib := libL libT) rfl (find_run (R := (run Try.prog (libL libT) hints)) k g2.list (by have := len_ap (m := m) (l := opsL l); unfold opsL at this ⊢; rw [List.length_map] at this; omega))
      have hfm := ref04_Find_of (lib := libL libT) rfl (find_run (R := (run Try.prog (libL libT) hints)) k hm2 (by omega))
      have hj : ∀ (val : BL) (is : Bool), (val == (cGet (apM m (opsL l)) k).getD []) = true → (is == (cGet (apM m (opsL l)) k).isSome) = true → law12_BufferTells.j0 (run Try.prog (libL libT) hints) [sv k, .bool true, a, sv val, .bool is] t = some (.bool true, t) := fun val is e1 e2 => by
        unfold law12_BufferTells.j0
        simp only [ref04_Find_call, hfa, x_fd0, x_fd1, e_seql, e1, eq_bool, e2, n_bind, n_map, getL_0, getL_1, getL_2, getL_3, getL_4, getL_5, getL_6, getL_7, getL_8, getL_9, getL_10, getL_11, getL_12, condV_t, condV_f, guardV_tt, guardV_ff, guardV_tf, guardV_ft, guardV_u, apick_t, apick_f, exV_exit, exV_ret, lookE_same, joinK_eq, seqA_n, seqA_e, seqA_r, e_add, e_sub, e_mul, e_eql, e_neq, e_lss, e_leq, e_gtr, e_geq, e_conv, e_not, e_neg, and_guard, or_guard, ret1 (show noTup (.bool _) = true from rfl)]
      simp only [c3, Bool.not_true, buffer_Find_call, k_find h2 (show l.length ≤ 140737488351232 by omega) k, x0, x1, x2, n_bind, n_map, getL_0, getL_1, getL_2, getL_3, getL_4, getL_5, getL_6, getL_7, getL_8, getL_9, getL_10, getL_11, getL_12, condV_t, condV_f, guardV_tt, guardV_ff, guardV_tf, guardV_ft, guardV_u, apick_t, apick_f, exV_exit, exV_ret, lookE_same, joinK_eq, seqA_n, seqA_e, seqA_r, e_add, e_sub, e_mul, e_eql, e_neq, e_lss, e_leq, e_gtr, e_geq, e_conv, e_not, e_neg, and_guard, or_guard]
      rcases Bool.eq_false_or_eq_true ((findE l k).2.2) with c4 | c4
      · simp only [c4, Bool.not_true, n_bind, n_map, getL_0, getL_1, getL_2, getL_3, getL_4, getL_5, getL_6, getL_7, getL_8, getL_9, getL_10, getL_11, getL_12, condV_t, condV_f, guardV_tt, guardV_ff, guardV_tf, guardV_ft, guardV_u, apick_t, apick_f, exV_exit, exV_ret, lookE_same, joinK_eq, seqA_n, seqA_e, seqA_r, e_add, e_sub, e_mul, e_eql, e_neq, e_lss, e_leq, e_gtr, e_geq, e_conv, e_not, e_neg, and_guard, or_guard]
        unfold sayM at p1
        rw [if_pos c4] at p1
        rcases Bool.eq_false_or_eq_true ((findE l k).2.1) with c5 | c5
        · rw [if_pos c5] at p1
          exact hj _ _ (by rw [p1]; simp) (by rw [p1, c5]; rfl)
        · rw [if_neg (by simp [c5])] at p1
          exact hj _ _ (by rw [p1, p2 c5]; rfl) (by rw [p1, c5]; rfl)
      · simp only [c4, Bool.not_false, ref04_Find_call, hfm, x_fd0, x_fd1, n_bind, n_map, getL_0, getL_1, getL_2, getL_3, getL_4, getL_5, getL_6, getL_7, getL_8, getL_9, getL_10, getL_11, getL_12, condV_t, condV_f, guardV_tt, guardV_ff, guardV_tf, guardV_ft, guardV_u, apick_t, apick_f, exV_exit, exV_ret, lookE_same, joinK_eq, seqA_n, seqA_e, seqA_r, e_add, e_sub, e_mul, e_eql, e_neq, e_lss, e_leq, e_gtr, e_geq, e_conv, e_not, e_neg, and_guard, or_guard]
        unfold sayM at p1
        rw [if_neg (by simp [c4])] at p1
        exact hj _ _ (by rw [p1]; simp) (by rw [p1]; simp)
    · simp only [c3, Bool.not_false, Bool.true_or, n_bind, n_map, getL_0, getL_1, getL_2, getL_3, getL_4, getL_5, getL_6, getL_7, getL_8, getL_9, getL_10, getL_11, getL_12, condV_t, condV_f, guardV_tt, guardV_ff, guardV_tf, guardV_ft, guardV_u, apick_t, apick_f, exV_exit, exV_ret, lookE_same, joinK_eq, seqA_n, seqA_e, seqA_r, e_add, e_sub, e_mul, e_eql, e_neq, e_lss, e_leq, e_gtr, e_geq, e_conv, e_not, e_neg, and_guard, or_guard, ret1 (show noTup (.bool _) = true from rfl)]
  · rw [if_neg c] at hA
    have n1 : (bE m l != 0) = true := by simp [c]
    refine ⟨s, ?_⟩
    have y0 := x_20 (a := .slice none 0 0) rfl (.int .i64 (bE m l))
    have y1 := x_21 (.slice none 0 0) (bE m l)
    unfold law12_BufferTells
    simp only [law12_live_call, k_live, buffer_Apply_call, hA, y0, y1, n1, n_bind, n_map, getL_0, getL_1, getL_2, getL_3, getL_4, getL_5, getL_6, getL_7, getL_8, getL_9, getL_10, getL_11, getL_12, condV_t, condV_f, guardV_tt, guardV_ff, guardV_tf, guardV_ft, guardV_u, apick_t, apick_f, exV_exit, exV_ret, lookE_same, joinK_eq, seqA_n, seqA_e, seqA_r, e_add, e_sub, e_mul, e_eql, e_neq, e_lss, e_leq, e_gtr, e_geq, e_conv, e_not, e_neg, and_guard, or_guard, ret1 (show noTup (.bool _) = true from rfl)]
theorem BufferTells_law (s : St) (v : Value) (m : List Rg) (hm : listOf prC v s = some m) (hml : m.length ≤ 4500000000000) (w : Value) (l : List En) (h : listOf enC w s = some l) (hl : l.length ≤ 1600000000000) (k : ByteArray) (wk : k.size ≤ 140737488351232) : ∃ s', (run Try.prog (libL libT) hints) 5 [v, w, .string k] s = some (.bool true, s') := by
  rw [sv_of]
  obtain ⟨t, h1⟩ := tells_run s v w m l hm h hml hl k.data.toList
  exact ⟨t, law12_BufferTells_of rfl h1⟩

end Go.Proofs.Ythnjkakmkmoceaa.Ab
