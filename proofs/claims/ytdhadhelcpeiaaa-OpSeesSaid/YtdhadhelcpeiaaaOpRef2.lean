/- What the document's answer does to a map, one operation after another; whether two maps, two tellings are the same. -/
import Derived.Test.YtdhadhelcpeiaaaOpRef
import Derived.Test.YtdhadhelcpeiaaaOpEq
set_option linter.unusedVariables false
set_option linter.unusedSimpArgs false
set_option linter.unusedSectionVars false
namespace Go.Proofs.Ytdhadhelcpeiaaa.Ab
open Go

theorem pt_out {m : List Rg} (h : Val m) {k : BL} (hk : ckK k = true) : cOut m (ptR k) = cDel m k := by
  obtain ⟨p1, p2, p3, p4⟩ := pt_facts hk
  refine filter_same fun q hq => ?_
  have hq1 := (h.2 q hq).1
  rw [has_iff p2 hq1, p1]
  by_cases e : q.1 = k
  · rw [e, bl_irrefl, p4]; simp
  · have e1 : (q.1 != k) = true := by simp [e]
    rw [e1]
    cases h1 : bl q.1 k
    · cases h2 : ((ptR k).2 == [] || bl q.1 (ptR k).2)
      · rfl
      · exact absurd (p3 q.1 (ckK_len hq1).1 h1 h2) e
    · rfl
theorem ab_res (b : Bool) (x : BL) : abuild Try.prog 34 [(0, .bool b), (1, sv x)] = some (tellV b x (.slice none 0 0)) := by kernel_rfl
structure RefH (R : Caller) : Prop where
  fd : ∀ k v s m, listOf prC v s = some m → m.length < 140737488355328 → R 19 [v, sv k] s = some (fdV m k, s)
  pu : ∀ x y s r, ref04_put R x y s = some r → R 49 [x, y] s = some r
  wo : ∀ x y s r, ref04_without R x y s = some r → R 50 [x, y] s = some r
  wi : ∀ x y z s r, ref04_Within R x y z s = some r → R 51 [x, y, z] s = some r
  pt : ∀ k s, R 41 [sv k] s = some (ptV (ptL k), s)
  hs : ∀ r k s, R 57 [rv r, sv k] s = some (.bool (hasR r k), s)
theorem rdo_run {R : Caller} (H : RefH R) {N : Nat} {v : Value} {s : St} {m : List Rg} (h : Own N 2 s v (encL prC m)) (hN : N ≤ s.heap.length) (hm : m.length ≤ 6300000000000) (hv : Val m) (o : OpT) (ho : ckO o = 0) :
    ∃ v' pv t, ref04_Do R v (oV o) s = some (.tuple #[v', tellV (doR m o).1 (doR m o).2.1 pv], t) ∧ Own N 2 t v' (encL prC (doM m o)) ∧ Own s.heap.length 2 t pv (encL prC (doR m o).2.2) ∧ Ext s.heap.length s t := by
  obtain ⟨k1, k2, k3, k4, k5, k6⟩ := ckO_key ho
  have hls : listOf prC v s = some m := own_list (C := prC) h
  have hnt := h.notup
  have less : ∀ {n t a cs}, Own s.heap.length n t a cs → Own N n t a cs := by
    intro n t a cs g
    rcases g with g | ⟨b, len, e1, e2, e3⟩
    · exact .inl g
    · exact .inr ⟨b, len, e1, by omega, e3⟩
  unfold ref04_Do
  simp only [o_box, o_3, o_4, o_0, ab2, z_rv, st_rv, n_bind, n_map, getL_0, getL_1, getL_2, getL_3, getL_4, getL_5, getL_6, getL_7, getL_8, getL_9, getL_10, getL_11, getL_12, condV_t, condV_f, guardV_tt, guardV_ff, guardV_tf, guardV_ft, guardV_u, apick_t, apick_f, exV_exit, exV_ret, lookE_same, joinK_eq, seqA_n, seqA_e, seqA_r, e_add, e_sub, e_mul, e_eql, e_neq, e_lss, e_leq, e_gtr, e_geq, e_conv, e_not, e_neg, and_guard, or_guard]
  rcases kinds k1 with e | e | e | e | e
  · have e1 : doM m o = m := by unfold doM; rw [e]; rfl
    have e2 : doR m o = ((cGet m o.key).isSome, (cGet m o.key).getD [], []) := by unfold doR; rw [e]; rfl
    have c1 : ((1 : Int) == 1) = true := rfl
    rw [e, e1, e2]
    refine ⟨v, _, s, ?_, h, .nil _ _ _, .refl _ _⟩
    simp only [c1, o_1, ref04_Find_call, H.fd o.key v s m hls (by omega), x_fd0, x_fd1, ab_res, res_00, res_st _ _ (.slice none 0 0) rfl, res_ld, n_bind, n_map, getL_0, getL_1, getL_2, getL_3, getL_4, getL_5, getL_6, getL_7, getL_8, getL_9, getL_10, getL_11, getL_12, condV_t, condV_f, guardV_tt, guardV_ff, guardV_tf, guardV_ft, guardV_u, apick_t, apick_f, exV_exit, exV_ret, lookE_same, joinK_eq, seqA_n, seqA_e, seqA_r, e_add, e_sub, e_mul, e_eql, e_neq, e_lss, e_leq, e_gtr, e_geq, e_conv, e_not, e_neg, and_guard, or_guard, retV, List.all_cons, hnt]
    rfl
  · have e1 : doM m o = cPut m o.key o.val := by unfold doM; rw [e]; rfl
    have e2 : doR m o = (false, [], []) := by unfold doR; rw [e]; rfl
    have c1 : ((2 : Int) == 1) = false := rfl
    have c2 : ((2 : Int) == 2) = true := rfl
    obtain ⟨out, t, g1, g2, g3⟩ := pu_run (R := R) o.key o.val hls hv.1 hm
    rw [e, e1, e2]
    refine ⟨out, _, t, ?_, less g2, .nil _ _ _, g3⟩
    simp only [c1, c2, o_1, o_2, pr_build, ref04_put_call, H.pu _ _ _ _ g1, res_00, n_bind, n_map, getL_0, getL_1, getL_2, getL_3, getL_4, getL_5, getL_6, getL_7, getL_8, getL_9, getL_10, getL_11, getL_12, condV_t, condV_f, guardV_tt, guardV_ff, guardV_tf, guardV_ft, guardV_u, apick_t, apick_f, exV_exit, exV_ret, lookE_same, joinK_eq, seqA_n, seqA_e, seqA_r, e_add, e_sub, e_mul, e_eql, e_neq, e_lss, e_leq, e_gtr, e_geq, e_conv, e_not, e_neg, and_guard, or_guard, retV, List.all_cons, g2.notup]
    rfl
  · have e1 : doM m o = cDel m o.key := by unfold doM; rw [e]; rfl
    have e2 : doR m o = (false, [], []) := by unfold doR; rw [e]; rfl
    have c1 : ((3 : Int) == 1) = false := rfl
    have c2 : ((3 : Int) == 2) = false := rfl
    have c3 : ((3 : Int) == 3) = true := rfl
    have hk : ckK o.key = true := k2 (by rw [e]; rfl)
    have hpt : ptL o.key = (ptR o.key, 0) := by unfold ptL; rw [if_pos hk]
    obtain ⟨out, t, g1, g2, g3⟩ := wo_run (R := R) H.hs (ptR o.key) hls (by omega)
    rw [pt_out hv hk] at g2
    rw [e, e1, e2]
    refine ⟨out, _, t, ?_, less g2, .nil _ _ _, g3⟩
    simp only [c1, c2, c3, o_1, ref02_Point_call, H.pt, hpt, x_pt0, x_pt1, st_rv, ld_rv, ref04_without_call, H.wo _ _ _ _ g1, res_00, n_bind, n_map, getL_0, getL_1, getL_2, getL_3, getL_4, getL_5, getL_6, getL_7, getL_8, getL_9, getL_10, getL_11, getL_12, condV_t, condV_f, guardV_tt, guardV_ff, guardV_tf, guardV_ft, guardV_u, apick_t, apick_f, exV_exit, exV_ret, lookE_same, joinK_eq, seqA_n, seqA_e, seqA_r, e_add, e_sub, e_mul, e_eql, e_neq, e_lss, e_leq, e_gtr, e_geq, e_conv, e_not, e_neg, and_guard, or_guard, retV, List.all_cons, g2.notup]
    rfl
  · have e1 : doM m o = m := by unfold doM; rw [e]; rfl
    have e2 : doR m o = (false, [], (cIn m (o.lo, o.hi)).take o.most.toNat) := by unfold doR; rw [e]; rfl
    have c1 : ((4 : Int) == 1) = false := rfl
    have c2 : ((4 : Int) == 2) = false := rfl
    have c3 : ((4 : Int) == 3) = false := rfl
    have c4 : ((4 : Int) == 4) = true := rfl
    obtain ⟨q1, q2⟩ := k6 e
    have hmo : o.most = ((o.most.toNat : Nat) : Int) := by omega
    obtain ⟨pv, t, g1, g2, g3⟩ := wi_run (R := R) H.hs (o.lo, o.hi) o.most.toNat hls (by omega)
    rw [← hmo] at g1
    have hlf : isLeaf pv = true := by rcases g2 with ⟨rfl, _⟩ | ⟨b, len, rfl, _⟩ <;> rfl
    have hb : abuild Try.prog 34 [(2, pv)] = some (tellV false [] pv) := by
      rcases g2 with ⟨rfl, _⟩ | ⟨b, len, rfl, _⟩ <;> kernel_rfl
    rw [e, e1, e2]
    refine ⟨v, pv, t, ?_, h.keep (g3.keep (B := none)) (fun c hc => by simp), g2, g3⟩
    simp only [c1, c2, c3, c4, o_5, ld_rv, ref04_Within_call, H.wi _ _ _ _ _ g1, hb, res_00, res_st _ _ pv hlf, res_ld, n_bind, n_map, getL_0, getL_1, getL_2, getL_3, getL_4, getL_5, getL_6, getL_7, getL_8, getL_9, getL_10, getL_11, getL_12, condV_t, condV_f, guardV_tt, guardV_ff, guardV_tf, guardV_ft, guardV_u, apick_t, apick_f, exV_exit, exV_ret, lookE_same, joinK_eq, seqA_n, seqA_e, seqA_r, e_add, e_sub, e_mul, e_eql, e_neq, e_lss, e_leq, e_gtr, e_geq, e_conv, e_not, e_neg, and_guard, or_guard, retV, List.all_cons, hnt]
    rfl
  · have e1 : doM m o = cOut m (o.lo, o.hi) := by unfold doM; rw [e]; rfl
    have e2 : doR m o = (false, [], []) := by unfold doR; rw [e]; rfl
    have c1 : ((5 : Int) == 1) = false := rfl
    have c2 : ((5 : Int) == 2) = false := rfl
    have c3 : ((5 : Int) == 3) = false := rfl
    have c4 : ((5 : Int) == 4) = false := rfl
    obtain ⟨out, t, g1, g2, g3⟩ := wo_run (R := R) H.hs (o.lo, o.hi) hls (by omega)
    rw [e, e1, e2]
    refine ⟨out, _, t, ?_, less g2, .nil _ _ _, g3⟩
    simp only [c1, c2, c3, c4, ld_rv, ref04_without_call, H.wo _ _ _ _ g1, res_00, n_bind, n_map, getL_0, getL_1, getL_2, getL_3, getL_4, getL_5, getL_6, getL_7, getL_8, getL_9, getL_10, getL_11, getL_12, condV_t, condV_f, guardV_tt, guardV_ff, guardV_tf, guardV_ft, guardV_u, apick_t, apick_f, exV_exit, exV_ret, lookE_same, joinK_eq, seqA_n, seqA_e, seqA_r, e_add, e_sub, e_mul, e_eql, e_neq, e_lss, e_leq, e_gtr, e_geq, e_conv, e_not, e_neg, and_guard, or_guard, retV, List.all_cons, g2.notup]
    rfl
structure RefA (R : Caller) : Prop where
  H : RefH R
  dd : ∀ x y s r, ref04_Do R x y s = some r → R 34 [x, y] s = some r
  hM : ∀ xs s, R 28 xs s = gMapE xs s
  hL : ∀ xs s, R 33 xs s = gAllE xs s
theorem refApply_loop {R : Caller} (H : RefA R) {v : Value} {s0 : St} {l : List OpT} (h : listOf opC v s0 = some l) (hl : l.length ≤ 1759218604391) {m0 : List Rg} (hm : m0.length ≤ 4400000000000) (hv : Val m0) (hall : allE l = 0) : ∀ (rest : List OpT) (i : Nat) (s : St) (mv out : Value) (q : List (Rs × Value)), l.drop i = rest → i ≤ l.length → Ext s0.heap.length s0 s → Own s0.heap.length 2 s mv (encL prC (apM m0 (l.take i))) → Own s0.heap.length 3 s out (encR q) → q.map (·.1) = apR m0 (l.take i) → (∀ x ∈ q, OwnC prC s0.heap.length s x.2 x.1.2.2) →
    ∃ mv' out' t, loopL (ref04_Apply.b0 R) [mv, out, v, .int .i64 ((l.length : Nat) : Int), .int .i64 (i : Int)] s = some (.exit 0, [mv', out'], t) ∧ Own s0.heap.length 2 t mv' (encL prC (apM m0 l)) ∧ Rdy s0.heap.length t out' (apR m0 l) ∧ Ext s0.heap.length s0 t := by
  intro rest
  induction rest with
  | nil =>
    intro i s mv out q hi hle hx h1 h2 h3 h4
    have hge := List.drop_eq_nil_iff.1 hi
    have hd : decide ((i : Int) < ((l.length : Nat) : Int)) = false := by simp; omega
    rw [List.take_of_length_le hge] at h1 h3
    refine ⟨mv, out, s, ?_, h1, ⟨q, h3, h2, h4⟩, hx⟩
    rw [loopL_eq]
    simp only [ref04_Apply.b0, hd, n_bind, n_map, getL_0, getL_1, getL_2, getL_3, getL_4, getL_5, getL_6, getL_7, getL_8, getL_9, getL_10, getL_11, getL_12, condV_t, condV_f, guardV_tt, guardV_ff, guardV_tf, guardV_ft, guardV_u, apick_t, apick_f, exV_exit, exV_ret, lookE_same, joinK_eq, seqA_n, seqA_e, seqA_r, e_add, e_sub, e_mul, e_eql, e_neq, e_lss, e_leq, e_gtr, e_geq, e_conv, e_not, e_neg, and_guard, or_guard]
  | cons o rest ih =>
    intro i s mv out q hi hle hx h1 h2 h3 h4
    obtain ⟨hlt, he, hd⟩ := drop_get hi
    have hdc : decide ((i : Int) < ((l.length : Nat) : Int)) = true := by simp; omega
    obtain ⟨p, a1, a2⟩ := list_at (list_ext hx h) hlt (k := .i64) (n := 6) rfl
    rw [op_enc, he] at a2
    have ho : ckO o = 0 := allE_mem hall o (he ▸ List.getElem_mem hlt)
    have htk : l.take (i + 1) = l.take i ++ [o] := by rw [List.take_add_one, List.getElem?_eq_getElem hlt, he]; rfl
    have hlm : (apM m0 (l.take i)).length ≤ 6300000000000 := by
      have := len_ap (l := l.take i) (m := m0)
      rw [List.length_take] at this
      omega
    have hval : Val (apM m0 (l.take i)) := by
      refine val_ap hv ?_
      have : ∀ {a b : List OpT}, allE (a ++ b) = 0 → allE a = 0 := by
        intro a
        induction a with
        | nil => intro _ _; rfl
        | cons y a ih =>
          intro b hb
          obtain ⟨c1, c2⟩ := allE_cons0 (l := a ++ b) hb
          rw [allE_cons, if_pos c1]
          exact ih c2
      exact this (b := l.drop i) (by rw [List.take_append_drop]; exact hall)
    obtain ⟨mv2, pv, t, b2, b3, b4, b5⟩ := rdo_run H.H h1 hx.1 hlm hval o ho
    have hk : Keep none s t := b5.keep
    have ho2 : Own s0.heap.length 3 t out (encR q) := h2.keep hk fun c hc => by simp
    have hpl : isLeaf pv = true ∧ cellsV pv = [pv] := by rcases b4 with ⟨rfl, _⟩ | ⟨b, cap, rfl, _⟩ <;> exact ⟨rfl, rfl⟩
    have hql : q.length = i := by
      have := congrArg List.length h3
      rw [List.length_map, apR_len, List.length_take] at this
      omega
    obtain ⟨r, c1, out2, t2, c2, c3, c4, c5⟩ := own_addK (w := 48) (z := [(.bool false), (.string ⟨#[]⟩), (.slice none 0 0)]) (v := tellV (doR (apM m0 (l.take i)) o).1 (doR (apM m0 (l.take i)) o).2.1 pv) ho2 (Nat.le_trans hx.1 b5.1) (by decide) (by decide) (by decide) rfl rfl rfl (by
      show ([_, _, pv] : List Value).all isLeaf = true
      simp only [List.all_cons, hpl.1, List.all_nil, Bool.and_true]
      rfl) (by rw [encR_len]; omega)
    have hx3 : Ext s0.heap.length t t2 := c4.ext (Nat.le_trans hx.1 b5.1) fun c hc => (ho2.blk c hc).1
    have hx4 := hx.trans ((b5.less hx.1).trans hx3)
    have hm2 : Own s0.heap.length 2 t2 mv2 (encL prC (apM m0 (l.take (i + 1)))) := by
      rw [htk, apM_snoc]
      exact b3.keep c4 fun c hc => own_apart (Own.toC (C := prC) b3) ho2 (by decide) c hc
    have hq2 : ∀ x ∈ q ++ [((doR (apM m0 (l.take i)) o), pv)], OwnC prC s0.heap.length t2 x.2 x.1.2.2 := by
      intro x hxq
      rcases List.mem_append.1 hxq with hxq | hxq
      · have g1 := (h4 x hxq).keep hk fun c hc => by simp
        exact g1.keep c4 fun c hc => own_apart g1 ho2 (by decide) c hc
      · rcases List.mem_singleton.1 hxq with rfl
        have g1 := (Own.toC (C := prC) b4).mono hx.1
        exact g1.keep c4 fun c hc => own_apart g1 ho2 (by decide) c hc
    have hout : Own s0.heap.length 3 t2 out2 (encR (q ++ [((doR (apM m0 (l.take i)) o), pv)])) := by
      rw [encR_app]
      exact c3
    obtain ⟨mv3, out3, t3, d1, d2, d3, d4⟩ := ih (i + 1) t2 mv2 out2 (q ++ [((doR (apM m0 (l.take i)) o), pv)]) hd (by omega) hx4 hm2 hout (by
      rw [htk, apR_snoc, List.map_append, h3]
      rfl) hq2
    refine ⟨mv3, out3, t3, ?_, d2, d3, d4⟩
    rw [← d1, loopL_eq]
    simp only [ref04_Apply.b0, hdc, a1, a2, o_st, o_all, ref04_Do_call, H.dd _ _ _ _ b2, x_t0 b3.notup, x_t1, res_00, res_st _ _ pv hpl.1, res_ld, c1, c2, inc_i64 (show i < 140737488355328 by omega), n_bind, n_map, getL_0, getL_1, getL_2, getL_3, getL_4, getL_5, getL_6, getL_7, getL_8, getL_9, getL_10, getL_11, getL_12, condV_t, condV_f, guardV_tt, guardV_ff, guardV_tf, guardV_ft, guardV_u, apick_t, apick_f, exV_exit, exV_ret, lookE_same, joinK_eq, seqA_n, seqA_e, seqA_r, e_add, e_sub, e_mul, e_eql, e_neq, e_lss, e_leq, e_gtr, e_geq, e_conv, e_not, e_neg, and_guard, or_guard]
theorem refApply_run {R : Caller} (H : RefA R) {v w : Value} {s : St} {m : List Rg} {l : List OpT} (hm : listOf prC v s = some m) (h : listOf opC w s = some l) (hml : m.length ≤ 4400000000000) (hl : l.length ≤ 1759218604391) :
    if apE m l = 0 then ∃ a r t, ref04_Apply R v w s = some (.tuple #[a, r, .int .i64 0], t) ∧ Own s.heap.length 2 t a (encL prC (apM m l)) ∧ Rdy s.heap.length t r (apR m l) ∧ Ext s.heap.length s t
    else ref04_Apply R v w s = some (.tuple #[.slice none 0 0, .slice none 0 0, .int .i64 (apE m l)], s) := by
  unfold apE ref04_Apply
  have z0 : ((0 : Int) != 0) = false := rfl
  by_cases h1 : mapE [] m = 0
  · rw [if_pos h1]
    by_cases h2 : allE l = 0
    · rw [if_pos h2]
      have hap : ∃ v' t, aappend 2 32 (.slice none 0 0) v s = some (v', t) ∧ Own s.heap.length 2 t v' (encL prC m) ∧ Ext s.heap.length s t := by
        have he : elemsOf 2 v s = some (encL prC m) := list_elems hm
        obtain ⟨v', t, g1, g2, g3⟩ := own_appendR (N := s.heap.length) (n := 2) (w := 32) (x := .slice none 0 0) (cells := []) (.nil _ _ _) (Nat.le_refl _) (by decide) (by decide) (list_lenV hm) he (encL_len prC m) (fun q hq => by
          rw [encL_len, List.length_nil, Nat.zero_add] at hq
          have : q = m.length := Nat.eq_of_mul_eq_mul_right (show 0 < 2 by decide) hq
          exact room32 (by omega))
        exact ⟨v', t, g1, g2, g3⟩
      obtain ⟨mv, t, g1, g2, g3⟩ := hap
      obtain ⟨mv2, out, u, k1, k2, k3, k4⟩ := refApply_loop H (s0 := s) h hl hml (val_mapE.1 h1) h2 l 0 t mv (.slice none 0 0) [] rfl (Nat.zero_le _) g3 g2 (.nil _ _ _) rfl (fun x hx => by cases hx)
      rw [show ((0 : Nat) : Int) = 0 from rfl] at k1
      refine ⟨mv2, out, u, ?_, k2, k3, k4⟩
      obtain ⟨q, _, k5, _⟩ := k3
      simp only [ref04_CheckMap_call, H.hM, mapE_eq hm (show m.length < 140737488355328 by omega), h1, z0, ref04_All_call, H.hL, allE_eq h (show l.length < 140737488355328 by omega), h2, g1, list_len h, k1, n_bind, n_map, getL_0, getL_1, getL_2, getL_3, getL_4, getL_5, getL_6, getL_7, getL_8, getL_9, getL_10, getL_11, getL_12, condV_t, condV_f, guardV_tt, guardV_ff, guardV_tf, guardV_ft, guardV_u, apick_t, apick_f, exV_exit, exV_ret, lookE_same, joinK_eq, seqA_n, seqA_e, seqA_r, e_add, e_sub, e_mul, e_eql, e_neq, e_lss, e_leq, e_gtr, e_geq, e_conv, e_not, e_neg, and_guard, or_guard, retV, List.all_cons, k2.notup, k5.notup]
      rfl
    · rw [if_neg h2]
      have h5 : (allE l != 0) = true := by simp [h2]
      simp only [ref04_CheckMap_call, H.hM, mapE_eq hm (show m.length < 140737488355328 by omega), h1, z0, ref04_All_call, H.hL, allE_eq h (show l.length < 140737488355328 by omega), h5, n_bind, n_map, getL_0, getL_1, getL_2, getL_3, getL_4, getL_5, getL_6, getL_7, getL_8, getL_9, getL_10, getL_11, getL_12, condV_t, condV_f, guardV_tt, guardV_ff, guardV_tf, guardV_ft, guardV_u, apick_t, apick_f, exV_exit, exV_ret, lookE_same, joinK_eq, seqA_n, seqA_e, seqA_r, e_add, e_sub, e_mul, e_eql, e_neq, e_lss, e_leq, e_gtr, e_geq, e_conv, e_not, e_neg, and_guard, or_guard, retV]
      rfl
  · rw [if_neg h1, if_neg h1]
    have h5 : (mapE [] m != 0) = true := by simp [h1]
    simp only [ref04_CheckMap_call, H.hM, mapE_eq hm (show m.length < 140737488355328 by omega), h5, n_bind, n_map, getL_0, getL_1, getL_2, getL_3, getL_4, getL_5, getL_6, getL_7, getL_8, getL_9, getL_10, getL_11, getL_12, condV_t, condV_f, guardV_tt, guardV_ff, guardV_tf, guardV_ft, guardV_u, apick_t, apick_f, exV_exit, exV_ret, lookE_same, joinK_eq, seqA_n, seqA_e, seqA_r, e_add, e_sub, e_mul, e_eql, e_neq, e_lss, e_leq, e_gtr, e_geq, e_conv, e_not, e_neg, and_guard, or_guard, retV]
    rfl

/-! ### Whether two are the same -/
theorem same_loop {R : Caller} {v w : Value} {s : St} {a b : List Rg} (ha : listOf prC v s = some a) (hb : listOf prC w s = some b) (hab : a.length = b.length) (hl : a.length < 140737488355328) : ∀ (ra rb : List Rg) (i : Nat), a.drop i = ra → b.drop i = rb → i ≤ a.length →
    loopL (ref04_SameMap.b0 R) [v, w, .int .i64 ((a.length : Nat) : Int), .int .i64 (i : Int)] s = some (if ra = rb then (.exit 0, [], s) else (.ret, [.bool false], s)) := by
  intro ra
  induction ra with
  | nil =>
    intro rb i h1 h2 hle
    have hge := List.drop_eq_nil_iff.1 h1
    have hrb : rb = [] := by rw [← h2]; exact List.drop_eq_nil_of_le (by omega)
    have hd : decide ((i : Int) < ((a.length : Nat) : Int)) = false := by simp; omega
    rw [hrb, if_pos rfl, loopL_eq]
    simp only [ref04_SameMap.b0, hd, n_bind, n_map, getL_0, getL_1, getL_2, getL_3, getL_4, getL_5, getL_6, getL_7, getL_8, getL_9, getL_10, getL_11, getL_12, condV_t, condV_f, guardV_tt, guardV_ff, guardV_tf, guardV_ft, guardV_u, apick_t, apick_f, exV_exit, exV_ret, lookE_same, joinK_eq, seqA_n, seqA_e, seqA_r, e_add, e_sub, e_mul, e_eql, e_neq, e_lss, e_leq, e_gtr, e_geq, e_conv, e_not, e_neg, and_guard, or_guard]
  | cons p ra ih =>
    intro rb i h1 h2 hle
    obtain ⟨hlt, he, hd⟩ := drop_get h1
    have hdc : decide ((i : Int) < ((a.length : Nat) : Int)) = true := by simp; omega
    cases rb with
    | nil =>
      have := List.drop_eq_nil_iff.1 h2
      omega
    | cons q rb =>
      obtain ⟨hlt2, he2, hd2⟩ := drop_get h2
      obtain ⟨x, a1, a2⟩ := list_at (s := frzS s) (by rw [list_frz]; exact ha) hlt (k := .i64) (n := 2) rfl
      obtain ⟨y, b1, b2⟩ := list_at (s := frzS s) (by rw [list_frz]; exact hb) hlt2 (k := .i64) (n := 2) rfl
      rw [pr_enc, he] at a2
      rw [pr_enc, he2] at b2
      have key := ih rb (i + 1) hd hd2 (by omega)
      rw [loopL_eq]
      simp only [ref04_SameMap.b0, hdc, a1, a2, b1, b2, pr_neq, n_bind, n_map, getL_0, getL_1, getL_2, getL_3, getL_4, getL_5, getL_6, getL_7, getL_8, getL_9, getL_10, getL_11, getL_12, condV_t, condV_f, guardV_tt, guardV_ff, guardV_tf, guardV_ft, guardV_u, apick_t, apick_f, exV_exit, exV_ret, lookE_same, joinK_eq, seqA_n, seqA_e, seqA_r, e_add, e_sub, e_mul, e_eql, e_neq, e_lss, e_leq, e_gtr, e_geq, e_conv, e_not, e_neg, and_guard, or_guard]
      by_cases e : p = q
      · subst e
        have e1 : (!(p.1 == p.1 && p.2 == p.2)) = false := by simp
        simp only [e1, inc_i64 (show i < 140737488355328 by omega), n_bind, n_map, getL_0, getL_1, getL_2, getL_3, getL_4, getL_5, getL_6, getL_7, getL_8, getL_9, getL_10, getL_11, getL_12, condV_t, condV_f, guardV_tt, guardV_ff, guardV_tf, guardV_ft, guardV_u, apick_t, apick_f, exV_exit, exV_ret, lookE_same, joinK_eq, seqA_n, seqA_e, seqA_r, e_add, e_sub, e_mul, e_eql, e_neq, e_lss, e_leq, e_gtr, e_geq, e_conv, e_not, e_neg, and_guard, or_guard]
        rw [key]
        simp
      · have e1 : (!(p.1 == q.1 && p.2 == q.2)) = true := by
          simp only [Bool.not_eq_true', Bool.and_eq_false_iff, beq_eq_false_iff_ne]
          by_cases c : p.1 = q.1
          · exact .inr fun d => e (Prod.ext c d)
          · exact .inl c
        simp only [e1, n_bind, n_map, getL_0, getL_1, getL_2, getL_3, getL_4, getL_5, getL_6, getL_7, getL_8, getL_9, getL_10, getL_11, getL_12, condV_t, condV_f, guardV_tt, guardV_ff, guardV_tf, guardV_ft, guardV_u, apick_t, apick_f, exV_exit, exV_ret, lookE_same, joinK_eq, seqA_n, seqA_e, seqA_r, e_add, e_sub, e_mul, e_eql, e_neq, e_lss, e_leq, e_gtr, e_geq, e_conv, e_not, e_neg, and_guard, or_guard]
        rw [if_neg fun c => e (List.cons.inj c).1]
theorem same_run {R : Caller} {v w : Value} {s : St} {a b : List Rg} (ha : listOf prC v s = some a) (hb : listOf prC w s = some b) (hl : a.length < 140737488355328) : ref04_SameMap R v w s = some (.bool (decide (a = b)), s) := by
  unfold ref04_SameMap
  simp only [list_len ha, list_len hb, n_bind, n_map, getL_0, getL_1, getL_2, getL_3, getL_4, getL_5, getL_6, getL_7, getL_8, getL_9, getL_10, getL_11, getL_12, condV_t, condV_f, guardV_tt, guardV_ff, guardV_tf, guardV_ft, guardV_u, apick_t, apick_f, exV_exit, exV_ret, lookE_same, joinK_eq, seqA_n, seqA_e, seqA_r, e_add, e_sub, e_mul, e_eql, e_neq, e_lss, e_leq, e_gtr, e_geq, e_conv, e_not, e_neg, and_guard, or_guard]
  by_cases e : a.length = b.length
  · have h1 := same_loop (R := R) ha hb e hl a b 0 rfl rfl (Nat.zero_le _)
    rw [show ((0 : Nat) : Int) = 0 from rfl] at h1
    have e1 : (((a.length : Nat) : Int) != ((b.length : Nat) : Int)) = false := by simp [e]
    simp only [e1, h1, n_bind, n_map, getL_0, getL_1, getL_2, getL_3, getL_4, getL_5, getL_6, getL_7, getL_8, getL_9, getL_10, getL_11, getL_12, condV_t, condV_f, guardV_tt, guardV_ff, guardV_tf, guardV_ft, guardV_u, apick_t, apick_f, exV_exit, exV_ret, lookE_same, joinK_eq, seqA_n, seqA_e, seqA_r, e_add, e_sub, e_mul, e_eql, e_neq, e_lss, e_leq, e_gtr, e_geq, e_conv, e_not, e_neg, and_guard, or_guard]
    by_cases c : a = b
    · rw [if_pos c]
      simp only [c, n_bind, n_map, getL_0, getL_1, getL_2, getL_3, getL_4, getL_5, getL_6, getL_7, getL_8, getL_9, getL_10, getL_11, getL_12, condV_t, condV_f, guardV_tt, guardV_ff, guardV_tf, guardV_ft, guardV_u, apick_t, apick_f, exV_exit, exV_ret, lookE_same, joinK_eq, seqA_n, seqA_e, seqA_r, e_add, e_sub, e_mul, e_eql, e_neq, e_lss, e_leq, e_gtr, e_geq, e_conv, e_not, e_neg, and_guard, or_guard, retV]
      rfl
    · rw [if_neg c]
      simp only [c, n_bind, n_map, getL_0, getL_1, getL_2, getL_3, getL_4, getL_5, getL_6, getL_7, getL_8, getL_9, getL_10, getL_11, getL_12, condV_t, condV_f, guardV_tt, guardV_ff, guardV_tf, guardV_ft, guardV_u, apick_t, apick_f, exV_exit, exV_ret, lookE_same, joinK_eq, seqA_n, seqA_e, seqA_r, e_add, e_sub, e_mul, e_eql, e_neq, e_lss, e_leq, e_gtr, e_geq, e_conv, e_not, e_neg, and_guard, or_guard, retV]
      rfl
  · have e1 : (((a.length : Nat) : Int) != ((b.length : Nat) : Int)) = true := by simp; omega
    have e2 : ¬ a = b := fun h => e (by rw [h])
    simp only [e1, e2, n_bind, n_map, getL_0, getL_1, getL_2, getL_3, getL_4, getL_5, getL_6, getL_7, getL_8, getL_9, getL_10, getL_11, getL_12, condV_t, condV_f, guardV_tt, guardV_ff, guardV_tf, guardV_ft, guardV_u, apick_t, apick_f, exV_exit, exV_ret, lookE_same, joinK_eq, seqA_n, seqA_e, seqA_r, e_add, e_sub, e_mul, e_eql, e_neq, e_lss, e_leq, e_gtr, e_geq, e_conv, e_not, e_neg, and_guard, or_guard, retV]
    rfl
/-- what was told, somewhere -/
def RdyL (s : St) (v : Value) (l : List Rs) : Prop := ∃ q, q.map (·.1) = l ∧ cellsOf 3 v s = some (encR q) ∧ ∀ x ∈ q, listOf prC x.2 s = some x.1.2.2
theorem Rdy.toL {N : Nat} {s : St} {v : Value} {l : List Rs} (h : Rdy N s v l) : RdyL s v l := by
  obtain ⟨q, h1, h2, h3⟩ := h
  exact ⟨q, h1, h2.cells, fun x hx => (h3 x hx).list⟩
theorem RdyL.ext {s t : St} {v : Value} {l : List Rs} (h : RdyL s v l) (hx : Ext s.heap.length s t) : RdyL t v l := by
  obtain ⟨q, h1, h2, h3⟩ := h
  exact ⟨q, h1, hx.cells h2, fun x hxq => list_ext hx (h3 x hxq)⟩
theorem cells_alen {s s2 : St} {v : Value} {q : List (Rs × Value)} (h : cellsOf 3 v s = some (encR q)) {e : TypeId} : alenV (.slice e) v s2 = some (.int .i64 ((q.length : Nat) : Int)) := by
  obtain ⟨a, len, cap, rfl, h2⟩ := cellsOf_len h
  rw [encR_len] at h2
  have : len = q.length := by omega
  subst this
  rfl
theorem sameR_loop {R : Caller} (hS : ∀ v w s a b, listOf prC v s = some a → listOf prC w s = some b → a.length < 140737488355328 → R 13 [v, w] s = some (.bool (decide (a = b)), s)) {v w : Value} {s : St} {a b : List (Rs × Value)} (ha : cellsOf 3 v s = some (encR a)) (hb : cellsOf 3 w s = some (encR b)) (ga : ∀ x ∈ a, listOf prC x.2 s = some x.1.2.2 ∧ x.1.2.2.length < 140737488355328) (gb : ∀ x ∈ b, listOf prC x.2 s = some x.1.2.2) (hab : a.length = b.length) (hl : a.length < 140737488355328) : ∀ (ra rb : List (Rs × Value)) (i : Nat), a.drop i = ra → b.drop i = rb → i ≤ a.length →
    loopL (ref04_SameResults.b0 R) [v, w, .int .i64 ((a.length : Nat) : Int), .int .i64 (i : Int)] s = some (if ra.map (·.1) = rb.map (·.1) then (.exit 0, [], s) else (.ret, [.bool false], s)) := by
  intro ra
  induction ra with
  | nil =>
    intro rb i h1 h2 hle
    have hge := List.drop_eq_nil_iff.1 h1
    have hrb : rb = [] := by rw [← h2]; exact List.drop_eq_nil_of_le (by omega)
    have hd : decide ((i : Int) < ((a.length : Nat) : Int)) = false := by simp; omega
    rw [hrb, if_pos rfl, loopL_eq]
    simp only [ref04_SameResults.b0, hd, n_bind, n_map, getL_0, getL_1, getL_2, getL_3, getL_4, getL_5, getL_6, getL_7, getL_8, getL_9, getL_10, getL_11, getL_12, condV_t, condV_f, guardV_tt, guardV_ff, guardV_tf, guardV_ft, guardV_u, apick_t, apick_f, exV_exit, exV_ret, lookE_same, joinK_eq, seqA_n, seqA_e, seqA_r, e_add, e_sub, e_mul, e_eql, e_neq, e_lss, e_leq, e_gtr, e_geq, e_conv, e_not, e_neg, and_guard, or_guard]
  | cons p ra ih =>
    intro rb i h1 h2 hle
    obtain ⟨hlt, he, hd⟩ := drop_get h1
    have hdc : decide ((i : Int) < ((a.length : Nat) : Int)) = true := by simp; omega
    cases rb with
    | nil =>
      have := List.drop_eq_nil_iff.1 h2
      omega
    | cons q rb =>
      obtain ⟨hlt2, he2, hd2⟩ := drop_get h2
      have ha' : cellsOf 3 v (frzS s) = some (encR a) := by rw [cellsOf_frz]; exact ha
      have hb' : cellsOf 3 w (frzS s) = some (encR b) := by rw [cellsOf_frz]; exact hb
      obtain ⟨x0, x1, x2⟩ := encR_get a i hlt
      obtain ⟨y0, y1, y2⟩ := encR_get b i hlt2
      rw [he] at x0 x1 x2
      rw [he2] at y0 y1 y2
      have la : i * 3 + 3 ≤ (encR a).length := by rw [encR_len]; omega
      have lb : i * 3 + 3 ≤ (encR b).length := by rw [encR_len]; omega
      obtain ⟨p1, a1, p2, a2, a3⟩ := cells_field ha' (j := 0) (by decide) la x0 (k := .i64)
      obtain ⟨p1', a1', p3, a4, a5⟩ := cells_field ha' (j := 1) (by decide) la x1 (k := .i64)
      obtain ⟨p1'', a1'', p4, a6, a7⟩ := cells_field ha' (j := 2) (by decide) la x2 (k := .i64)
      obtain ⟨q1, b1, q2, b2, b3⟩ := cells_field hb' (j := 0) (by decide) lb y0 (k := .i64)
      obtain ⟨q1', b1', q3, b4, b5⟩ := cells_field hb' (j := 1) (by decide) lb y1 (k := .i64)
      obtain ⟨q1'', b1'', q4, b6, b7⟩ := cells_field hb' (j := 2) (by decide) lb y2 (k := .i64)
      rw [a1] at a1' a1''
      cases a1'; cases a1''
      rw [b1] at b1' b1''
      cases b1'; cases b1''
      have gp := ga p (he ▸ List.getElem_mem hlt)
      have gq := gb q (he2 ▸ List.getElem_mem hlt2)
      have hsm := hS p.2 q.2 s p.1.2.2 q.1.2.2 gp.1 gq gp.2
      have key := ih rb (i + 1) hd hd2 (by omega)
      rw [loopL_eq]
      simp only [ref04_SameResults.b0, hdc, a1, a2, a3, b1, b2, b3, ne_bool, n_bind, n_map, getL_0, getL_1, getL_2, getL_3, getL_4, getL_5, getL_6, getL_7, getL_8, getL_9, getL_10, getL_11, getL_12, condV_t, condV_f, guardV_tt, guardV_ff, guardV_tf, guardV_ft, guardV_u, apick_t, apick_f, exV_exit, exV_ret, lookE_same, joinK_eq, seqA_n, seqA_e, seqA_r, e_add, e_sub, e_mul, e_eql, e_neq, e_lss, e_leq, e_gtr, e_geq, e_conv, e_not, e_neg, and_guard, or_guard]
      have hcons : ((p :: ra).map (·.1) = (q :: rb).map (·.1)) ↔ (p.1.1 = q.1.1 ∧ p.1.2.1 = q.1.2.1 ∧ p.1.2.2 = q.1.2.2 ∧ ra.map (·.1) = rb.map (·.1)) := by
        simp only [List.map_cons, List.cons.injEq, Prod.ext_iff, and_assoc]
      cases e1 : (p.1.1 != q.1.1)
      · simp only [a1, a4, a5, b1, b4, b5, e_sneq, n_bind, n_map, getL_0, getL_1, getL_2, getL_3, getL_4, getL_5, getL_6, getL_7, getL_8, getL_9, getL_10, getL_11, getL_12, condV_t, condV_f, guardV_tt, guardV_ff, guardV_tf, guardV_ft, guardV_u, apick_t, apick_f, exV_exit, exV_ret, lookE_same, joinK_eq, seqA_n, seqA_e, seqA_r, e_add, e_sub, e_mul, e_eql, e_neq, e_lss, e_leq, e_gtr, e_geq, e_conv, e_not, e_neg, and_guard, or_guard]
        have f1 : p.1.1 = q.1.1 := by simpa using e1
        cases e2 : (!(p.1.2.1 == q.1.2.1))
        · have f2 : p.1.2.1 = q.1.2.1 := by simpa using e2
          simp only [a1, a6, a7, b1, b6, b7, ref04_SameMap_call, hsm, own_id, n_bind, n_map, getL_0, getL_1, getL_2, getL_3, getL_4, getL_5, getL_6, getL_7, getL_8, getL_9, getL_10, getL_11, getL_12, condV_t, condV_f, guardV_tt, guardV_ff, guardV_tf, guardV_ft, guardV_u, apick_t, apick_f, exV_exit, exV_ret, lookE_same, joinK_eq, seqA_n, seqA_e, seqA_r, e_add, e_sub, e_mul, e_eql, e_neq, e_lss, e_leq, e_gtr, e_geq, e_conv, e_not, e_neg, and_guard, or_guard]
          by_cases e3 : p.1.2.2 = q.1.2.2
          · have e4 : (!decide (p.1.2.2 = q.1.2.2)) = false := by simp [e3]
            simp only [e4, inc_i64 (show i < 140737488355328 by omega), n_bind, n_map, getL_0, getL_1, getL_2, getL_3, getL_4, getL_5, getL_6, getL_7, getL_8, getL_9, getL_10, getL_11, getL_12, condV_t, condV_f, guardV_tt, guardV_ff, guardV_tf, guardV_ft, guardV_u, apick_t, apick_f, exV_exit, exV_ret, lookE_same, joinK_eq, seqA_n, seqA_e, seqA_r, e_add, e_sub, e_mul, e_eql, e_neq, e_lss, e_leq, e_gtr, e_geq, e_conv, e_not, e_neg, and_guard, or_guard]
            rw [key]
            by_cases c : ra.map (·.1) = rb.map (·.1)
            · rw [if_pos c, if_pos (hcons.2 ⟨f1, f2, e3, c⟩)]
            · rw [if_neg c, if_neg fun h => c (hcons.1 h).2.2.2]
          · have e4 : (!decide (p.1.2.2 = q.1.2.2)) = true := by simp [e3]
            simp only [e4, n_bind, n_map, getL_0, getL_1, getL_2, getL_3, getL_4, getL_5, getL_6, getL_7, getL_8, getL_9, getL_10, getL_11, getL_12, condV_t, condV_f, guardV_tt, guardV_ff, guardV_tf, guardV_ft, guardV_u, apick_t, apick_f, exV_exit, exV_ret, lookE_same, joinK_eq, seqA_n, seqA_e, seqA_r, e_add, e_sub, e_mul, e_eql, e_neq, e_lss, e_leq, e_gtr, e_geq, e_conv, e_not, e_neg, and_guard, or_guard]
            rw [if_neg fun c => e3 (hcons.1 c).2.2.1]
        · have f2 : ¬ p.1.2.1 = q.1.2.1 := by simpa using e2
          simp only [own_id, n_bind, n_map, getL_0, getL_1, getL_2, getL_3, getL_4, getL_5, getL_6, getL_7, getL_8, getL_9, getL_10, getL_11, getL_12, condV_t, condV_f, guardV_tt, guardV_ff, guardV_tf, guardV_ft, guardV_u, apick_t, apick_f, exV_exit, exV_ret, lookE_same, joinK_eq, seqA_n, seqA_e, seqA_r, e_add, e_sub, e_mul, e_eql, e_neq, e_lss, e_leq, e_gtr, e_geq, e_conv, e_not, e_neg, and_guard, or_guard]
          rw [if_neg fun c => f2 (hcons.1 c).2.1]
      · have f1 : ¬ p.1.1 = q.1.1 := by simpa using e1
        simp only [own_id, n_bind, n_map, getL_0, getL_1, getL_2, getL_3, getL_4, getL_5, getL_6, getL_7, getL_8, getL_9, getL_10, getL_11, getL_12, condV_t, condV_f, guardV_tt, guardV_ff, guardV_tf, guardV_ft, guardV_u, apick_t, apick_f, exV_exit, exV_ret, lookE_same, joinK_eq, seqA_n, seqA_e, seqA_r, e_add, e_sub, e_mul, e_eql, e_neq, e_lss, e_leq, e_gtr, e_geq, e_conv, e_not, e_neg, and_guard, or_guard]
        rw [if_neg fun c => f1 (hcons.1 c).1]
theorem sameR_run {R : Caller} (hS : ∀ v w s a b, listOf prC v s = some a → listOf prC w s = some b → a.length < 140737488355328 → R 13 [v, w] s = some (.bool (decide (a = b)), s)) {v w : Value} {s : St} {a b : List Rs} (ha : RdyL s v a) (hb : RdyL s w b) (hl : a.length < 140737488355328) (hll : ∀ x ∈ a, x.2.2.length < 140737488355328) : ref04_SameResults R v w s = some (.bool (decide (a = b)), s) := by
  obtain ⟨q, rfl, a2, a3⟩ := ha
  obtain ⟨r, rfl, b2, b3⟩ := hb
  rw [List.length_map] at hl
  unfold ref04_SameResults
  simp only [cells_alen a2, cells_alen b2, n_bind, n_map, getL_0, getL_1, getL_2, getL_3, getL_4, getL_5, getL_6, getL_7, getL_8, getL_9, getL_10, getL_11, getL_12, condV_t, condV_f, guardV_tt, guardV_ff, guardV_tf, guardV_ft, guardV_u, apick_t, apick_f, exV_exit, exV_ret, lookE_same, joinK_eq, seqA_n, seqA_e, seqA_r, e_add, e_sub, e_mul, e_eql, e_neq, e_lss, e_leq, e_gtr, e_geq, e_conv, e_not, e_neg, and_guard, or_guard]
  by_cases e : q.length = r.length
  · have h1 := sameR_loop (R := R) hS a2 b2 (fun x hx => ⟨a3 x hx, hll x.1 (List.mem_map_of_mem hx)⟩) b3 e hl q r 0 rfl rfl (Nat.zero_le _)
    rw [show ((0 : Nat) : Int) = 0 from rfl] at h1
    have e1 : (((q.length : Nat) : Int) != ((r.length : Nat) : Int)) = false := by simp [e]
    simp only [e1, h1, n_bind, n_map, getL_0, getL_1, getL_2, getL_3, getL_4, getL_5, getL_6, getL_7, getL_8, getL_9, getL_10, getL_11, getL_12, condV_t, condV_f, guardV_tt, guardV_ff, guardV_tf, guardV_ft, guardV_u, apick_t, apick_f, exV_exit, exV_ret, lookE_same, joinK_eq, seqA_n, seqA_e, seqA_r, e_add, e_sub, e_mul, e_eql, e_neq, e_lss, e_leq, e_gtr, e_geq, e_conv, e_not, e_neg, and_guard, or_guard]
    by_cases c : q.map (·.1) = r.map (·.1)
    · rw [if_pos c]
      simp only [c, n_bind, n_map, getL_0, getL_1, getL_2, getL_3, getL_4, getL_5, getL_6, getL_7, getL_8, getL_9, getL_10, getL_11, getL_12, condV_t, condV_f, guardV_tt, guardV_ff, guardV_tf, guardV_ft, guardV_u, apick_t, apick_f, exV_exit, exV_ret, lookE_same, joinK_eq, seqA_n, seqA_e, seqA_r, e_add, e_sub, e_mul, e_eql, e_neq, e_lss, e_leq, e_gtr, e_geq, e_conv, e_not, e_neg, and_guard, or_guard, retV]
      rfl
    · rw [if_neg c]
      simp only [c, n_bind, n_map, getL_0, getL_1, getL_2, getL_3, getL_4, getL_5, getL_6, getL_7, getL_8, getL_9, getL_10, getL_11, getL_12, condV_t, condV_f, guardV_tt, guardV_ff, guardV_tf, guardV_ft, guardV_u, apick_t, apick_f, exV_exit, exV_ret, lookE_same, joinK_eq, seqA_n, seqA_e, seqA_r, e_add, e_sub, e_mul, e_eql, e_neq, e_lss, e_leq, e_gtr, e_geq, e_conv, e_not, e_neg, and_guard, or_guard, retV]
      rfl
  · have e1 : (((q.length : Nat) : Int) != ((r.length : Nat) : Int)) = true := by simp; omega
    have e2 : ¬ q.map (·.1) = r.map (·.1) := fun h => e (by have := congrArg List.length h; simpa using this)
    simp only [e1, e2, n_bind, n_map, getL_0, getL_1, getL_2, getL_3, getL_4, getL_5, getL_6, getL_7, getL_8, getL_9, getL_10, getL_11, getL_12, condV_t, condV_f, guardV_tt, guardV_ff, guardV_tf, guardV_ft, guardV_u, apick_t, apick_f, exV_exit, exV_ret, lookE_same, joinK_eq, seqA_n, seqA_e, seqA_r, e_add, e_sub, e_mul, e_eql, e_neq, e_lss, e_leq, e_gtr, e_geq, e_conv, e_not, e_neg, and_guard, or_guard, retV]
    rfl

end Go.Proofs.Ytdhadhelcpeiaaa.Ab
