/- Operations done to a map, one after another. -/
import Derived.Test.YtdhadhelcpeiaaaOpPure
import Derived.Test.YtdhadhelcpeiaaaBList3
set_option linter.unusedVariables false
set_option linter.unusedSimpArgs false
set_option linter.unusedSectionVars false
namespace Go.Proofs.Ytdhadhelcpeiaaa.Ab
open Go

def encR (q : List (Rs × Value)) : List Value := q.flatMap fun x => [.bool x.1.1, sv x.1.2.1, x.2]
theorem encR_app (q r : List (Rs × Value)) : encR (q ++ r) = encR q ++ encR r := by simp [encR]
theorem encR_len : ∀ q : List (Rs × Value), (encR q).length = q.length * 3
  | [] => rfl
  | x :: q => by
    show ([_, _, _] ++ encR q).length = _
    rw [List.length_append, encR_len q]
    simp
    omega
theorem encR_get : ∀ (q : List (Rs × Value)) (i : Nat) (h : i < q.length), (encR q)[i * 3 + 0]? = some (.bool q[i].1.1) ∧ (encR q)[i * 3 + 1]? = some (sv q[i].1.2.1) ∧ (encR q)[i * 3 + 2]? = some q[i].2
  | [], _, h => by simp at h
  | x :: q, 0, _ => ⟨rfl, rfl, rfl⟩
  | x :: q, i + 1, h => by
    have := encR_get q i (by simpa using h)
    show (_ :: _ :: _ :: encR q)[_]? = _ ∧ (_ :: _ :: _ :: encR q)[_]? = _ ∧ (_ :: _ :: _ :: encR q)[_]? = _
    rw [show (i + 1) * 3 + 0 = i * 3 + 0 + 1 + 1 + 1 by omega, show (i + 1) * 3 + 1 = i * 3 + 1 + 1 + 1 + 1 by omega, show (i + 1) * 3 + 2 = i * 3 + 2 + 1 + 1 + 1 by omega]
    simp only [List.getElem?_cons_succ]
    exact this
/-- what was told, in rows of one's own -/
def Rdy (N : Nat) (s : St) (v : Value) (l : List Rs) : Prop := ∃ q, q.map (·.1) = l ∧ Own N 3 s v (encR q) ∧ ∀ x ∈ q, OwnC prC N s x.2 x.1.2.2

theorem x_t0 {v : Value} (h : noTup v = true) (f : Bool) (x : BL) (p : Value) : aextract 0 (.tuple #[v, tellV f x p]) = some v := by cases v <;> first | rfl | (cases h; done)
theorem x_t1 (v : Value) (f : Bool) (x : BL) (p : Value) : aextract 1 (.tuple #[v, tellV f x p]) = some (tellV f x p) := Eq.trans rfl (Eq.refl _)

structure OpH (R : Caller) : Prop where
  gg : ∀ x y s r, op_get R x y s = some r → R 44 [x, y] s = some r
  gp : ∀ x y s r, op_put R x y s = some r → R 45 [x, y] s = some r
  gd : ∀ x y s r, op_del R x y s = some r → R 46 [x, y] s = some r
  gs : ∀ x y s r, op_scan R x y s = some r → R 47 [x, y] s = some r
  gc : ∀ x y s r, op_clear R x y s = some r → R 48 [x, y] s = some r
  hA : ∀ xs s, R 53 xs s = gAt xs s
  hI : ∀ xs s, R 54 xs s = gIns xs s
  hO : ∀ o s, R 37 [oV o] s = some (rv (o.lo, o.hi), s)
  hE : ∀ xs s, R 56 xs s = gEnds xs s
  hD : ∀ a b c s r, slices_Delete_api_Pair_api_Pair R a b c s = some r → R 55 [a, b, c] s = some r
  hC : ∀ a s r, slices_Clone_api_Pair_api_Pair R a s = some r → R 31 [a] s = some r
  hM : ∀ xs s, R 16 xs s = gMapE xs s
  hL : ∀ xs s, R 30 xs s = gAllE xs s
  hF : ∀ s, R 32 [] s = some (formsV, s)
theorem do_run {R : Caller} (H : OpH R)
    {N : Nat} {v : Value} {s : St} {m : List Rg} (h : OwnC prC N s v m) (hN : N ≤ s.heap.length) (hl : m.length + 1 ≤ 6500000000000) (hv : Val m) (o : OpT) (ho : ckO o = 0) :
    ∃ fv v' pv t, afield false 5 1 (formV o.kind) = some fv ∧ callV Try.prog R fv [v, oV o] s = some (.tuple #[v', tellV (doR m o).1 (doR m o).2.1 pv], t) ∧ OwnC prC N t v' (doM m o) ∧ OwnC prC s.heap.length t pv (doR m o).2.2 ∧ Keep (blkOf v) s t ∧ Fresh s v v' ∧ (∀ c, blkOf v' = some c → N ≤ c) ∧ (∀ c, blkOf pv = some c → blkOf v' ≠ some c) := by
  obtain ⟨k1, k2, k3, k4, k5, k6⟩ := ckO_key ho
  obtain ⟨gg, gp, gd, gs, gc, hA, hI, hO, hE, hD, hC, _, _, _⟩ := H
  rcases kinds k1 with e | e | e | e | e
  · have e1 : doM m o = m := by unfold doM; rw [e]; rfl
    have e2 : doR m o = ((cGet m o.key).isSome, (cGet m o.key).getD [], []) := by unfold doR; rw [e]; rfl
    have g := get_run (R := R) hA h.list (by omega) hv.1 o h.notup
    rw [getR_eq hv.1] at g
    rw [e, e1, e2]
    refine ⟨_, v, _, s, rfl, ?_, h, .inl ⟨rfl, rfl⟩, .refl _ _, .inl rfl, fun c hc => (h.blk c hc).1, fun c hc => by cases hc⟩
    rw [op_get_call]
    exact gg _ _ _ _ g
  · have e1 : doM m o = cPut m o.key o.val := by unfold doM; rw [e]; rfl
    have e2 : doR m o = (false, [], []) := by unfold doR; rw [e]; rfl
    obtain ⟨v', t, g1, g2, g3, g4, g5⟩ := put_run (R := R) hA hI h hN hl hv.1 o
    rw [putL_eq hv.1] at g2
    rw [e, e1, e2]
    refine ⟨_, v', _, t, rfl, ?_, g2, .inl ⟨rfl, rfl⟩, g3, g4, g5, fun c hc => by cases hc⟩
    rw [op_put_call]
    exact gp _ _ _ _ g1
  · have e1 : doM m o = cDel m o.key := by unfold doM; rw [e]; rfl
    have e2 : doR m o = (false, [], []) := by unfold doR; rw [e]; rfl
    obtain ⟨v', t, g1, g2, g3, g4⟩ := del_run (R := R) hA hD h hN (by omega) hv.1 o
    rw [delL_eq hv.1] at g2
    rw [e, e1, e2]
    refine ⟨_, v', _, t, rfl, ?_, g2, .inl ⟨rfl, rfl⟩, g3, .inl g4, fun c hc => (g2.blk c hc).1, fun c hc => by cases hc⟩
    rw [op_del_call]
    exact gd _ _ _ _ g1
  · have e1 : doM m o = m := by unfold doM; rw [e]; rfl
    have e2 : doR m o = (false, [], (cIn m (o.lo, o.hi)).take o.most.toNat) := by unfold doR; rw [e]; rfl
    have hr : ckR (o.lo, o.hi) = true := (k3 (by rw [e]; rfl)).2
    obtain ⟨q1, q2⟩ := k6 e
    obtain ⟨pv, t, g1, g2, g3⟩ := scan_run (R := R) hO hE hC h.list h.notup (by omega) hv.1 o hr (most := o.most.toNat) (by omega) (by omega)
    rw [scanL_eq hv hr] at g2
    rw [e, e1, e2]
    refine ⟨_, v, pv, t, rfl, ?_, h.keep (B := none) ⟨g3.1, fun c hc _ => g3.2 c hc⟩ (fun c hc => by simp), g2, g3.keep, .inl rfl, fun c hc => (h.blk c hc).1, fun c hc hd => ?_⟩
    · rw [op_scan_call]
      exact gs _ _ _ _ g1
    · have := (g2.blk c hc).1
      have := (h.blk c hd).2
      omega
  · have e1 : doM m o = cOut m (o.lo, o.hi) := by unfold doM; rw [e]; rfl
    have e2 : doR m o = (false, [], []) := by unfold doR; rw [e]; rfl
    have hr : ckR (o.lo, o.hi) = true := (k3 (by rw [e]; rfl)).2
    obtain ⟨v', t, g1, g2, g3, g4⟩ := clear_run (R := R) hO hE hD h hN (by omega) hv.1 o hr
    rw [clearL_eq hv hr] at g2
    rw [e, e1, e2]
    refine ⟨_, v', _, t, rfl, ?_, g2, .inl ⟨rfl, rfl⟩, g3, .inl g4, fun c hc => (g2.blk c hc).1, fun c hc => by cases hc⟩
    rw [op_clear_call]
    exact gc _ _ _ _ g1
theorem allE_mem : ∀ {l : List OpT}, allE l = 0 → ∀ o ∈ l, ckO o = 0
  | [], _, o, h => by cases h
  | p :: l, h, o, ho => by
    obtain ⟨h1, h2⟩ := allE_cons0 h
    rcases List.mem_cons.1 ho with rfl | ho
    · exact h1
    · exact allE_mem h2 o ho
theorem Apply_loop {R : Caller} (H : OpH R) {v : Value} {s0 : St} {l : List OpT} (h : listOf opC v s0 = some l) (hl : l.length ≤ 1759218604391) {m0 : List Rg} (hm : m0.length + l.length ≤ 6200000000000) (hv : Val m0) (hall : allE l = 0) : ∀ (rest : List OpT) (i : Nat) (s : St) (mv out : Value) (q : List (Rs × Value)), l.drop i = rest → i ≤ l.length → Ext s0.heap.length s0 s → OwnC prC s0.heap.length s mv (apM m0 (l.take i)) → Own s0.heap.length 3 s out (encR q) → q.map (·.1) = apR m0 (l.take i) → (∀ x ∈ q, OwnC prC s0.heap.length s x.2 x.1.2.2) → (∀ x ∈ q, ∀ c, blkOf x.2 = some c → blkOf mv ≠ some c) →
    ∃ mv' out' t, loopL (op_Apply.b0 R) [mv, out, v, .int .i64 ((l.length : Nat) : Int), .int .i64 (i : Int)] s = some (.exit 0, [mv', out'], t) ∧ OwnC prC s0.heap.length t mv' (apM m0 l) ∧ Rdy s0.heap.length t out' (apR m0 l) ∧ Ext s0.heap.length s0 t := by
  intro rest
  induction rest with
  | nil =>
    intro i s mv out q hi hle hx h1 h2 h3 h4 h5
    have hge := List.drop_eq_nil_iff.1 hi
    have hd : decide ((i : Int) < ((l.length : Nat) : Int)) = false := by simp; omega
    rw [List.take_of_length_le hge] at h1 h3
    refine ⟨mv, out, s, ?_, h1, ⟨q, h3, h2, h4⟩, hx⟩
    rw [loopL_eq]
    simp only [op_Apply.b0, hd, n_bind, n_map, getL_0, getL_1, getL_2, getL_3, getL_4, getL_5, getL_6, getL_7, getL_8, getL_9, getL_10, getL_11, getL_12, condV_t, condV_f, guardV_tt, guardV_ff, guardV_tf, guardV_ft, guardV_u, apick_t, apick_f, exV_exit, exV_ret, lookE_same, joinK_eq, seqA_n, seqA_e, seqA_r, e_add, e_sub, e_mul, e_eql, e_neq, e_lss, e_leq, e_gtr, e_geq, e_conv, e_not, e_neg, and_guard, or_guard]
  | cons o rest ih =>
    intro i s mv out q hi hle hx h1 h2 h3 h4 h5
    obtain ⟨hlt, he, hd⟩ := drop_get hi
    have hdc : decide ((i : Int) < ((l.length : Nat) : Int)) = true := by simp; omega
    obtain ⟨p, a1, a2⟩ := list_at (list_ext hx h) hlt (k := .i64) (n := 6) rfl
    rw [op_enc, he] at a2
    have ho : ckO o = 0 := allE_mem hall o (he ▸ List.getElem_mem hlt)
    have htk : l.take (i + 1) = l.take i ++ [o] := by rw [List.take_add_one, List.getElem?_eq_getElem hlt, he]; rfl
    have hlm : (apM m0 (l.take i)).length + 1 ≤ 6500000000000 := by
      have := len_ap (l := l.take i) (m := m0)
      rw [List.length_take] at this
      omega
    have hval : Val (apM m0 (l.take i)) := by
      refine val_ap hv ?_
      have : ∀ {a b : List OpT}, allE (a ++ b) = 0 → allE a = 0 := by
        intro a
        induction a with
        | nil => intro _ _; rfl
        | cons y a ih =>
          intro b hb
          obtain ⟨c1, c2⟩ := allE_cons0 (l := a ++ b) hb
          rw [allE_cons, if_pos c1]
          exact ih c2
      exact this (b := l.drop i) (by rw [List.take_append_drop]; exact hall)
    obtain ⟨fv, mv2, pv, t, b1, b2, b3, b4, b5, b6, b7, b8⟩ := do_run H h1 hx.1 hlm hval o ho
    have hkind : okKind o.kind = true := (ckO_key ho).1
    have hix : aindexAgg true 6 6 formsV (.int .i64 o.kind) = some (formV o.kind) := by rcases kinds hkind with e | e | e | e | e <;> rw [e] <;> rfl
    have hap : ∀ c, blkOf out = some c → blkOf mv ≠ some c := fun c hc hd2 => own_apart h1 h2 (by decide) c hd2 hc
    have ho2 : Own s0.heap.length 3 t out (encR q) := h2.keep b5 hap
    have hpl : isLeaf pv = true ∧ cellsV pv = [pv] := by rcases b4 with ⟨rfl, _⟩ | ⟨b, cap, rest, rfl, _⟩ <;> exact ⟨rfl, rfl⟩
    have hql : q.length = i := by
      have := congrArg List.length h3
      rw [List.length_map, apR_len, List.length_take] at this
      omega
    obtain ⟨r, c1, out2, t2, c2, c3, c4, c5⟩ := own_addK (w := 48) (z := [(.bool false), (.string ⟨#[]⟩), (.slice none 0 0)]) (v := tellV (doR (apM m0 (l.take i)) o).1 (doR (apM m0 (l.take i)) o).2.1 pv) ho2 (Nat.le_trans hx.1 b5.1) (by decide) (by decide) (by decide) rfl rfl rfl (by
      show ([_, _, pv] : List Value).all isLeaf = true
      simp only [List.all_cons, hpl.1, List.all_nil, Bool.and_true]
      rfl) (by rw [encR_len]; omega)
    have hx2 : Ext s0.heap.length s t := b5.ext hx.1 fun c hc => (h1.blk c hc).1
    have hx3 : Ext s0.heap.length t t2 := c4.ext (Nat.le_trans hx.1 b5.1) fun c hc => (ho2.blk c hc).1
    have hx4 := hx.trans (hx2.trans hx3)
    have hm2 : OwnC prC s0.heap.length t2 mv2 (apM m0 (l.take (i + 1))) := by
      rw [htk, apM_snoc]
      exact b3.keep c4 fun c hc => own_apart b3 ho2 (by decide) c hc
    have hq2 : ∀ x ∈ q ++ [((doR (apM m0 (l.take i)) o), pv)], OwnC prC s0.heap.length t2 x.2 x.1.2.2 := by
      intro x hxq
      rcases List.mem_append.1 hxq with hxq | hxq
      · have g1 := (h4 x hxq).keep b5 fun c hc => h5 x hxq c hc
        exact g1.keep c4 fun c hc => own_apart g1 ho2 (by decide) c hc
      · rcases List.mem_singleton.1 hxq with rfl
        have g1 := b4.mono hx.1
        exact g1.keep c4 fun c hc => own_apart g1 ho2 (by decide) c hc
    have hap2 : ∀ x ∈ q ++ [((doR (apM m0 (l.take i)) o), pv)], ∀ c, blkOf x.2 = some c → blkOf mv2 ≠ some c := by
      intro x hxq c hc
      rcases List.mem_append.1 hxq with hxq | hxq
      · rcases b6 with b6 | b6
        · rw [b6]; exact h5 x hxq c hc
        · intro hc2
          have := b6 c hc2
          have := ((h4 x hxq).blk c hc).2
          omega
      · rcases List.mem_singleton.1 hxq with rfl
        exact b8 c hc
    have hout : Own s0.heap.length 3 t2 out2 (encR (q ++ [((doR (apM m0 (l.take i)) o), pv)])) := by
      rw [encR_app]
      exact c3
    obtain ⟨mv3, out3, t3, d1, d2, d3, d4⟩ := ih (i + 1) t2 mv2 out2 (q ++ [((doR (apM m0 (l.take i)) o), pv)]) hd (by omega) hx4 hm2 hout (by
      rw [htk, apR_snoc, List.map_append, h3]
      rfl) hq2 hap2
    refine ⟨mv3, out3, t3, ?_, d2, d3, d4⟩
    rw [← d1, loopL_eq]
    simp only [op_Apply.b0, hdc, a1, a2, o_st, o_all, o_0, op_forms_call, H.hF, own_id, hix, b1, b2, own_ok b5.1, x_t0 b3.notup, x_t1, res_00, res_st _ _ pv hpl.1, res_ld, c1, c2, inc_i64 (show i < 140737488355328 by omega), n_bind, n_map, getL_0, getL_1, getL_2, getL_3, getL_4, getL_5, getL_6, getL_7, getL_8, getL_9, getL_10, getL_11, getL_12, condV_t, condV_f, guardV_tt, guardV_ff, guardV_tf, guardV_ft, guardV_u, apick_t, apick_f, exV_exit, exV_ret, lookE_same, joinK_eq, seqA_n, seqA_e, seqA_r, e_add, e_sub, e_mul, e_eql, e_neq, e_lss, e_leq, e_gtr, e_geq, e_conv, e_not, e_neg, and_guard, or_guard]
def apE (m : List Rg) (l : List OpT) : Int := if mapE [] m = 0 then allE l else mapE [] m
theorem Apply_run {R : Caller} (H : OpH R) {v w : Value} {s : St} {m : List Rg} {l : List OpT} (hm : listOf prC v s = some m) (h : listOf opC w s = some l) (hml : m.length + l.length ≤ 6200000000000) (hl : l.length ≤ 1759218604391) :
    if apE m l = 0 then ∃ a r t, op_Apply R v w s = some (.tuple #[a, r, .int .i64 0], t) ∧ OwnC prC s.heap.length t a (apM m l) ∧ Rdy s.heap.length t r (apR m l) ∧ Ext s.heap.length s t
    else op_Apply R v w s = some (.tuple #[.slice none 0 0, .slice none 0 0, .int .i64 (apE m l)], s) := by
  unfold apE op_Apply
  have z0 : ((0 : Int) != 0) = false := rfl
  by_cases h1 : mapE [] m = 0
  · rw [if_pos h1]
    by_cases h2 : allE l = 0
    · rw [if_pos h2]
      obtain ⟨mv, t, g1, g2, g3⟩ := clone_run (R := R) hm (by omega)
      obtain ⟨mv2, out, u, k1, k2, k3, k4⟩ := Apply_loop H (s0 := s) h hl hml (val_mapE.1 h1) h2 l 0 t mv (.slice none 0 0) [] rfl (Nat.zero_le _) g3 g2 (.nil _ _ _) rfl (fun x hx => by cases hx) (fun x hx => by cases hx)
      rw [show ((0 : Nat) : Int) = 0 from rfl] at k1
      refine ⟨mv2, out, u, ?_, k2, k3, k4⟩
      obtain ⟨q, _, k5, _⟩ := k3
      simp only [op_CheckMap_call, H.hM, mapE_eq hm (show m.length < 140737488355328 by omega), h1, z0, op_all_call, H.hL, allE_eq h (show l.length < 140737488355328 by omega), h2, slices_Clone_api_Pair_api_Pair_call, H.hC _ _ _ g1, list_len h, k1, n_bind, n_map, getL_0, getL_1, getL_2, getL_3, getL_4, getL_5, getL_6, getL_7, getL_8, getL_9, getL_10, getL_11, getL_12, condV_t, condV_f, guardV_tt, guardV_ff, guardV_tf, guardV_ft, guardV_u, apick_t, apick_f, exV_exit, exV_ret, lookE_same, joinK_eq, seqA_n, seqA_e, seqA_r, e_add, e_sub, e_mul, e_eql, e_neq, e_lss, e_leq, e_gtr, e_geq, e_conv, e_not, e_neg, and_guard, or_guard, retV, List.all_cons, k2.notup, k5.notup]
      rfl
    · rw [if_neg h2]
      have h5 : (allE l != 0) = true := by simp [h2]
      simp only [op_CheckMap_call, H.hM, mapE_eq hm (show m.length < 140737488355328 by omega), h1, z0, op_all_call, H.hL, allE_eq h (show l.length < 140737488355328 by omega), h5, n_bind, n_map, getL_0, getL_1, getL_2, getL_3, getL_4, getL_5, getL_6, getL_7, getL_8, getL_9, getL_10, getL_11, getL_12, condV_t, condV_f, guardV_tt, guardV_ff, guardV_tf, guardV_ft, guardV_u, apick_t, apick_f, exV_exit, exV_ret, lookE_same, joinK_eq, seqA_n, seqA_e, seqA_r, e_add, e_sub, e_mul, e_eql, e_neq, e_lss, e_leq, e_gtr, e_geq, e_conv, e_not, e_neg, and_guard, or_guard, retV]
      rfl
  · rw [if_neg h1, if_neg h1]
    have h5 : (mapE [] m != 0) = true := by simp [h1]
    simp only [op_CheckMap_call, H.hM, mapE_eq hm (show m.length < 140737488355328 by omega), h5, n_bind, n_map, getL_0, getL_1, getL_2, getL_3, getL_4, getL_5, getL_6, getL_7, getL_8, getL_9, getL_10, getL_11, getL_12, condV_t, condV_f, guardV_tt, guardV_ff, guardV_tf, guardV_ft, guardV_u, apick_t, apick_f, exV_exit, exV_ret, lookE_same, joinK_eq, seqA_n, seqA_e, seqA_r, e_add, e_sub, e_mul, e_eql, e_neq, e_lss, e_leq, e_gtr, e_geq, e_conv, e_not, e_neg, and_guard, or_guard, retV]
    rfl

end Go.Proofs.Ytdhadhelcpeiaaa.Ab
