/- Operations done to a map, one after another. -/
import Derived.Test.YthnjkakmkmoceaaOpPure
import Derived.Test.YthnjkakmkmoceaaBList3
import Derived.Test.YthnjkakmkmoceaaOpAll
set_option linter.unusedVariables false
set_option linter.unusedSimpArgs false
set_option linter.unusedSectionVars false
namespace Go.Proofs.Ythnjkakmkmoceaa.Ab
open Go

def encR (q : List (Rs × Value)) : List Value := q.flatMap fun x => [.bool x.1.1, sv x.1.2.1, x.2]
theorem encR_app (q r : List (Rs × Value)) : encR (q ++ r) = encR q ++ encR r := by simp [encR]
theorem encR_len : ∀ q : List (Rs × Value), (encR q).length = q.length * 3
  | [] => rfl
  | x :: q => by
    show ([_, _, _] ++ encR q).length = _
    rw [List.length_append, encR_len q]
    simp
    omega
theorem encR_get : ∀ (q : List (Rs × Value)) (i : Nat) (h : i < q.length), (encR q)[i * 3 + 0]? = some (.bool q[i].1.1) ∧ (encR q)[i * 3 + 1]? = some (sv q[i].1.2.1) ∧ (encR q)[i * 3 + 2]? = some q[i].2
  | [], _, h => by simp at h
  | x :: q, 0, _ => ⟨rfl, rfl, rfl⟩
  | x :: q, i + 1, h => by
    have := encR_get q i (by simpa using h)
    show (_ :: _ :: _ :: encR q)[_]? = _ ∧ (_ :: _ :: _ :: encR q)[_]? = _ ∧ (_ :: _ :: _ :: encR q)[_]? = _
    rw [show (i + 1) * 3 + 0 = i * 3 + 0 + 1 + 1 + 1 by omega, show (i + 1) * 3 + 1 = i * 3 + 1 + 1 + 1 + 1 by omega, show (i + 1) * 3 + 2 = i * 3 + 2 + 1 + 1 + 1 by omega]
    simp only [List.getElem?_cons_succ]
    exact this
/-- what was told, in rows of one's own -/
def Rdy (N : Nat) (s : St) (v : Value) (l : List Rs) : Prop := ∃ q, q.map (·.1) = l ∧ Own N 3 s v (encR q) ∧ ∀ x ∈ q, OwnC prC N s x.2 x.1.2.2

theorem x_t0 {v : Value} (h : noTup v = true) (f : Bool) (x : BL) (p : Value) : aextract 0 (.tuple #[v, tellV f x p]) = some v := by cases v <;> first | rfl | (cases h; done)
theorem x_t1 (v : Value) (f : Bool) (x : BL) (p : Value) : aextract 1 (.tuple #[v, tellV f x p]) = some (tellV f x p) := Eq.trans rfl (Eq.refl _)

structure OpH (R : Caller) : Prop where
  gg : ∀ x y s r, op_get R x y s = some r → R 61 [x, y] s = some r
  gp : ∀ x y s r, op_put R x y s = some r → R 62 [x, y] s = some r
  gd : ∀ x y s r, op_del R x y s = some r → R 63 [x, y] s = some r
  gs : ∀ x y s r, op_scan R x y s = some r → R 64 [x, y] s = some r
  gc : ∀ x y s r, op_clear R x y s = some r → R 65 [x, y] s = some r
  hA : ∀ xs s, R 76 xs s = gAt xs s
  hI : ∀ xs s, R 77 xs s = gIns xs s
  hO : ∀ o s, R 48 [oV o] s = some (rv (o.lo, o.hi), s)
  hE : ∀ xs s, R 79 xs s = gEnds xs s
  hD : ∀ a b c s r, slices_Delete_api_Pair_api_Pair R a b c s = some r → R 78 [a, b, c] s = some r
  hC : ∀ a s r, slices_Clone_api_Pair_api_Pair R a s = some r → R 53 [a] s = some r
  hM : ∀ xs s, R 18 xs s = gMapE xs s
  hL : ∀ xs s, R 52 xs s = gAllE xs s
  hF : ∀ s, R 54 [] s = some (formsV, s)
theorem do_run {R : Caller} (H : OpH R)
    {N : Nat} {v : Value} {s : St} {m : List Rg} (h : OwnC prC N s v m) (hN : N ≤ s.heap.length) (hl : m.length + 1 ≤ 6500000000000) (hv : Val m) (o : OpT) (ho : ckO o = 0) :
    ∃ fv v' pv t, afield false 5 1 (formV o.kind) = some fv ∧ callV Try.prog R fv [v, oV o] s = some (.tuple #[v', tellV (doR m o).1 (doR m o).2.1 pv], t) ∧ OwnC prC N t v' (doM m o) ∧ OwnC prC s.heap.length t pv (doR m o).2.2 ∧ Keep (blkOf v) s t ∧ Fresh s v v' ∧ (∀ c, blkOf v' = some c → N ≤ c) ∧ (∀ c, blkOf pv = some c → blkOf v' ≠ some c) := by
  obtain ⟨k1, k2, k3, k4, k5, k6⟩ := ckO_key ho
  obtain ⟨gg, gp, gd, gs, gc, hA, hI, hO, hE, hD, hC, _, _, _⟩ := H
  rcases kinds k1 with e | e | e | e | e
  · have e1 : doM m o = m := by unfold doM; rw [e]; rfl
    have e2 : doR m o = ((cGet m o.key).isSome, (cGet m o.key).getD [], []) := by unfold doR; rw [e]; rfl
    have g := get_run (R := R) hA h.list (by omega) hv.1 o h.notup
    rw [getR_eq hv.1] at g
    rw [e, e1, e2]
    refine ⟨_, v, _, s, rfl, ?_, h, .inl ⟨rfl, rfl⟩, .refl _ _, .inl rfl, fun c hc => (h.blk c hc).1, fun c hc => by cases hc⟩
    rw [op_get_call]
    exact gg _ _ _ _ g
  · have e1 : doM m o = cPut m o.key o.val := by unfold doM; rw [e]; rfl
    have e2 : doR m o = (false, [], []) := by unfold doR; rw [e]; rfl
    obtain ⟨v', t, g1, g2, g3, g4, g5⟩ := put_run (R := R) hA hI h hN hl hv.1 o
    rw [putL_eq hv.1] at g2
    rw [e, e1, e2]
    refine ⟨_, v', _, t, rfl, ?_, g2, .inl ⟨rfl, rfl⟩, g3, g4, g5, fun c hc => by cases hc⟩
    rw [op_put_call]
    exact gp _ _ _ _ g1
  · have e1 : doM m o = cDel m o.key := by unfold doM; rw [e]; rfl
    have e2 : doR m o = (false, [], []) := by unfold doR; rw [e]; rfl
    obtain ⟨v', t, g1, g2, g3, g4⟩ := del_run (R := R) hA hD h hN (by omega) hv.1 o
    rw [delL_eq hv.1] at g2
    rw [e, e1, e2]
    refine ⟨_, v', _, t, rfl, ?_, g2, .inl ⟨rfl, rfl⟩, g3, .inl g4, fun c hc => (g2.blk c hc).1, fun c hc => by cases hc⟩
    rw [op_del_call]
    exact gd _ _ _ _ g1
  · have e1 : doM m o = m := by unfold doM; rw [e]; rfl
    have e2 : doR m o = (false, [], (cIn m (o.lo, o.hi)).take o.most.toNat) := by unfold doR; rw [e]; rfl
    have hr : ckR (o.lo, o.hi) = true := (k3 (by rw [e]; rfl)).2
    obtain ⟨q1, q2⟩ := k6 e
    obtain ⟨pv, t, g1, g2, g3⟩ := scan_run (R := R) hO hE hC h.list h.notup (by omega) hv.1 o hr (most := o.most.toNat) (by omega) (by omega)
    rw [scanL_eq hv hr] at g2
    rw [e, e1, e2]
    refine ⟨_, v, pv, t, rfl, ?_, h.keep (B := none) ⟨g3.1, fun c hc _ => g3.2 c hc⟩ (fun c hc => by simp), g2, g3.keep, .inl rfl, fun c hc => (h.blk c hc).1, fun c hc hd => ?_⟩
    · rw [op_scan_call]
      exact gs _ _ _ _ g1
    · have := (g2.blk c hc).1
      have := (h.blk c hd).2
      omega
  · have e1 : doM m o = cOut m (o.lo, o.hi) := by unfold doM; rw [e]; rfl
    have e2 : doR m o = (false, [], []) := by unfold doR; rw [e]; rfl
    have hr : ckR (o.lo, o.hi) = true := (k3 (by rw [e]; rfl)).2
    obtain ⟨v', t, g1, g2, g3, g4⟩ := clear_run (R := R) hO hE hD h hN (by omega) hv.1 o hr
    rw [clearL_eq hv hr] at g2
    rw [e, e1, e2]
    refine ⟨_, v', _, t, rfl, ?_, g2, .inl ⟨rfl, rfl⟩, g3, .inl g4, fun c hc => (g2.blk c hc).1, fun c hc => by cases hc⟩
    rw [op_clear_call]
    exact gc _ _ _ _ g1
theorem allE_mem : ∀ {l : List OpT}, allE l = 0 → ∀ o ∈ l, ckO o = 0
  | [], _, o, h => by cases h
  | p :: l, h, o, ho => by
    obtain ⟨h1, h2⟩ := allE_cons0 h
    rcases List.mem_cons.1 ho with rfl | ho
    · exact h1
    · exact allE_mem h2 o ho
theorem Apply_loop {R : Caller} (H : OpH R) {v : Value} {s0 : St} {l : List OpT} (h : listOf opC v s0 = some l) (hl : l.length ≤ 1759218604391) {m0 : List Rg} (hm : m0.length + l.length ≤ 6200000000000) (hv : Val m0) (hall : allE l = 0) : ∀ (rest : List OpT) (i : Nat) (s : St) (mv out : Value) (q : List (Rs × Value)), l.drop i = rest → i ≤ l.length → Ext s0.heap.length s0 s → OwnC prC s0.heap.length s mv (apM m0 (l.take i)) → Own s0.heap.length 3 s out (encR q) → q.map (·.1) = apR m0 (l.take i) → (∀ x ∈ q, OwnC prC s0.heap.length s x.2 x.1.2.2) → (∀ x ∈ q, ∀ c, blkOf x.2 = some c → blkOf mv ≠ some c) →
    ∃ mv' out' t, loopL (op_Apply.b0 R) [mv, out, v, .int .i64 ((l.length : Nat) : Int), .int .i64 (i : Int)] s = some (.exit 0, [mv', out'], t) ∧ OwnC prC s0.heap.length t mv' (apM m0 l) ∧ Rdy s0.heap.length t out' (apR m0 l) ∧ Ext s0.heap.length s0 t := by
  intro rest
  induction rest with
  | nil =>
    intro i s mv out q hi hle hx h1 h2 h3 h4 h5
    have hge := List.drop_eq_nil_iff.1 hi
    have hd : decide ((i : Int) < ((l.length : Nat) : Int)) = false := by simp; omega
    rw [List.take_of_length_le hge] at h1 h3
    refine ⟨mv, out, s, ?_, h1, ⟨q, h3, h2, h4⟩, hx⟩
    rw [loopL_eq]
    simp only [op_Apply.b0, hd, n_bind, n_map, getL_0, getL_1, getL_2, getL_3, getL_4, getL_5, getL_6, getL_7, getL_8, getL_9, getL_10, getL_11, getL_12, condV_t, condV_f, guardV_tt, guardV_ff, guardV_tf, guardV_ft, guardV_u, apick_t, apick_f, exV_exit, exV_ret, lookE_same, joinK_eq, seqA_n, seqA_e, seqA_r, e_add, e_sub, e_mul, e_eql, e_neq, e_lss, e_leq, e_gtr, e_geq, e_conv, e_not, e_neg, and_guard, or_guard]
  | cons o rest ih =>
    intro i s mv out q hi hle hx h1 h2 h3 h4 h5
    obtain ⟨hlt, he, hd⟩ := drop_get hi
    have hdc : decide ((i : Int) < ((l.length : Nat) : Int)) = true := by simp; omega
    obtain ⟨p, a1, a2⟩ := list_at (list_ext hx h) hlt (k := .i64) (n := 6) rfl
    rw [op_enc, he] at a2
    have ho : ckO o = 0 := allE_mem hall o (he ▸ List.getElem_mem hlt)
    have htk : l.take (i + 1) = l.take i ++ [o] := by rw [List.take_add_one, List.getElem?_eq_getElem hlt, he]; rfl
    have hlm : (apM m0 (l.take i)).length + 1 ≤ 6500000000000 := by
      have := len_ap (l := l.take i) (m := m0)
      rw [List.length_take] at this
      omega
    have hval : Val (apM m0 (l.take i)) := by
      refine val_ap hv ?_
      have : ∀ {a b : List OpT}, allE (a ++ b) = 0 → allE a = 0 := by
        intro a
        induction a with
        | nil => intro _ _; rfl
        | cons y a ih =>
          intro b hb
          obtain ⟨c1, c2⟩ := allE_cons0 (l := a ++ b) hb
          rw [allE_cons, if_pos c1]
          exact ih c2
      exact this (b := l.drop i) (by rw [List.take_append_drop]; exact hall)
    obtain ⟨fv, mv2, pv, t, b1, b2, b3, b4, b5, b6, b7, b8⟩ := do_run H h1 hx.1 hlm hval o ho
    have hkind : okKind o.kind = true := (ckO_key ho).1
    have hix : aindexAgg true 6 6 formsV (.int .i64 o.kind) = some (formV o.kind) := by rcases kinds hkind with e | e | e | e | e <;> rw [e] <;> rfl
    have hap : ∀ c, blkOf out = some c → blkOf mv ≠ some c := fun c hc hd2 => own_apart h1 h2 (by decide) c hd2 hc
    have ho2 : Own s0.heap.length 3 t out (encR q) := h2.keep b5 hap
    have hpl : isLeaf pv = true ∧ cellsV pv = [pv] := by rcases b4 with ⟨rfl, _⟩ | ⟨b, cap, rest, rfl, _⟩ <;> exact ⟨rfl, rfl⟩
    have hql : q.length = i := by
      have := congrArg List.length h3
      rw [List.length_map, apR_len, List.length_take] at this
      omega
    obtain ⟨r, c1, out2, t2, c2, c3, c4, c5⟩ := own_addK (w := 48) (z := [(.bool false), (.string ⟨#[]⟩), (.slice none 0 0)]) (v := tellV (doR (apM m0 (l.take i)) o).1 (doR (apM m0 (l.take i)) o).2.1 pv) ho2 (Nat.le_trans hx.1 b5.1) (by decide) (by decide) (by decide) rfl rfl rfl (by
      show ([_, _, pv] : List Value).all isLeaf = true
      simp only [List.all_cons, hpl.1, List.all_nil, Bool.and_true]
      rfl) (by rw [encR_len]; omega)
    have hx2 : Ext s0.heap.length s t := b5.ext hx.1 fun c hc => (h1.blk c hc).1
    have hx3 : Ext s0.heap.length t t2 := c4.ext (Nat.le_trans hx.1 b5.1) fun c hc => (ho2.blk c hc).1
    have hx4 := hx.trans (hx2.trans hx3)
    have hm2 : OwnC prC s0.heap.length t2 mv2 (apM m0 (l.take (i + 1))) := by
      rw [htk, apM_snoc]
      exact b3.keep c4 fun c hc => own_apart b3 ho2 (by decide) c hc
    have hq2 : ∀ x ∈ q ++ [((doR (apM m0 (l.take i)) o), pv)], OwnC prC s0.heap.length t2 x.2 x.1.2.2 := by
      intro x hxq
      rcases List.mem_append.1 hxq with hxq | hxq
      · have g1 := (h4 x hxq).keep b5 fun c hc => h5 x hxq c hc
        exact g1.keep c4 fun c hc => own_apart g1 ho2 (by decide) c hc
      · rcases List.mem_singleton.1 hxq with rfl
        have g1 := b4.mono hx.1
        exact g1.keep c4 fun c hc => own_apart g1 ho2 (by decide) c hc
    have hap2 : ∀ x ∈ q ++ [((doR (apM m0 (l.take i)) o), pv)], ∀ c, blkOf x.2 = some c → blkOf mv2 ≠ some c := by
      intro x hxq c hc
      rcases List.mem_append.1 hxq with hxq | hxq
      · rcases b6 with b6 | b6
        · rw [b6]; exact h5 x hxq c hc
        · intro hc2
          have := b6 c hc2
          have := ((h4 x hxq).blk c hc).2
          omega
      · rcases List.mem_singleton.1 hxq with rfl
        exact b8 c hc
    have hout : Own s0.heap.length 3 t2 out2 (encR (q ++ [((doR (apM m0 (l.take i)) o), pv)])) := by
      rw [encR_app]
      exact c3
    obtain ⟨mv3, out3, t3, d1, d2, d3, d4⟩ := ih (i + 1) t2 mv2 out2 (q ++ [((doR (apM m0 (l.take i)) o), pv)]) hd (by omega) hx4 hm2 hout (by
      rw [htk, apR_snoc, List.map_append, h3]
      rfl) hq2 hap2
    refine ⟨mv3, out3, t3, ?_, d2, d3, d4⟩
    rw [← d1, loopL_eq]
    simp only [op_Apply.b0, hdc, a1, a2, o_st, o_all, o_0, op_forms_call, H.hF, own_id, hix, b1, b2, own_ok b5.1, x_t0 b3.notup, x_t1, res_00, res_st _ _ pv hpl.1, res_ld, c1, c2, inc_i64 (show i < 140737488355328 by omega), n_bind, n_map, getL_0, getL_1, getL_2, getL_3, getL_4, getL_5, getL_6, getL_7, getL_8, getL_9, getL_10, getL_11, getL_12, condV_t, condV_f, guardV_tt, guardV_ff, guardV_tf, guardV_ft, guardV_u, apick_t, apick_f, exV_exit, exV_ret, lookE_same, joinK_eq, seqA_n, seqA_e, seqA_r, e_add, e_sub, e_mul, e_eql, e_neq, e_lss, e_leq, e_gtr, e_geq, e_conv, e_not, e_neg, and_guard, or_guard]
def apE (m : List Rg) (l : List OpT) : Int := if mapE [] m = 0 then allE l else mapE [] m
theorem Apply_run {R : Caller} (H : OpH R) {v w : Value} {s : St} {m : List Rg} {l : List OpT} (hm : listOf prC v s = some m) (h : listOf opC w s = some l) (hml : m.length + l.length ≤ 6200000000000) (hl : l.length ≤ 1759218604391) :
    if apE m l = 0 then ∃ a r t, op_Apply R v w s = some (.tuple #[a, r, .int .i64 0], t) ∧ OwnC prC s.heap.length t a (apM m l) ∧ Rdy s.heap.length t r (apR m l) ∧ Ext s.heap.length s t
    else op_Apply R v w s = some (.tuple #[.slice none 0 0, .slice none 0 0, .int .i64 (apE m l)], s) := by
  unfold apE op_Apply
  have z0 : ((0 : Int) != 0) = false := rfl
  by_cases h1 : mapE [] m = 0
  · rw [if_pos h1]
    by_cases h2 : allE l = 0
    · rw [if_pos h2]
      obtain ⟨mv, t, g1, g2, g3⟩ := clone_run (R := R) hm (by omega)
      obtain ⟨mv2, out, u, k1, k2, k3, k4⟩ := Apply_loop H (s0 := s) h hl hml (val_mapE.1 h1) h2 l 0 t mv (.slice none 0 0) [] rfl (Nat.zero_le _) g3 g2 (.nil _ _ _) rfl (fun x hx => by cases hx) (fun x hx => by cases hx)
      rw [show ((0 : Nat) : Int) = 0 from rfl] at k1
      refine ⟨mv2, out, u, ?_, k2, k3, k4⟩
      obtain ⟨q, _, k5, _⟩ := k3
      simp only [op_CheckMap_call, H.hM, mapE_eq hm (show m.length < 140737488355328 by omega), h1, z0, op_all_call, H.hL, allE_eq h (show l.length < 140737488355328 by omega), h2, slices_Clone_api_Pair_api_Pair_call, H.hC _ _ _ g1, list_len h, k1, n_bind, n_map, getL_0, getL_1, getL_2, getL_3, getL_4, getL_5, getL_6, getL_7, getL_8, getL_9, getL_10, getL_11, getL_12, condV_t, condV_f, guardV_tt, guardV_ff, guardV_tf, guardV_ft, guardV_u, apick_t, apick_f, exV_exit, exV_ret, lookE_same, joinK_eq, seqA_n, seqA_e, seqA_r, e_add, e_sub, e_mul, e_eql, e_neq, e_lss, e_leq, e_gtr, e_geq, e_conv, e_not, e_neg, and_guard, or_guard, retV, List.all_cons, k2.notup, k5.notup]
      rfl
    · rw [if_neg h2]
      have h5 : (allE l != 0) = true := by simp [h2]
      simp only [op_CheckMap_call, H.hM, mapE_eq hm (show m.length < 140737488355328 by omega), h1, z0, op_all_call, H.hL, allE_eq h (show l.length < 140737488355328 by omega), h5, n_bind, n_map, getL_0, getL_1, getL_2, getL_3, getL_4, getL_5, getL_6, getL_7, getL_8, getL_9, getL_10, getL_11, getL_12, condV_t, condV_f, guardV_tt, guardV_ff, guardV_tf, guardV_ft, guardV_u, apick_t, apick_f, exV_exit, exV_ret, lookE_same, joinK_eq, seqA_n, seqA_e, seqA_r, e_add, e_sub, e_mul, e_eql, e_neq, e_lss, e_leq, e_gtr, e_geq, e_conv, e_not, e_neg, and_guard, or_guard, retV]
      rfl
  · rw [if_neg h1, if_neg h1]
    have h5 : (mapE [] m != 0) = true := by simp [h1]
    simp only [op_CheckMap_call, H.hM, mapE_eq hm (show m.length < 140737488355328 by omega), h5, n_bind, n_map, getL_0, getL_1, getL_2, getL_3, getL_4, getL_5, getL_6, getL_7, getL_8, getL_9, getL_10, getL_11, getL_12, condV_t, condV_f, guardV_tt, guardV_ff, guardV_tf, guardV_ft, guardV_u, apick_t, apick_f, exV_exit, exV_ret, lookE_same, joinK_eq, seqA_n, seqA_e, seqA_r, e_add, e_sub, e_mul, e_eql, e_neq, e_lss, e_leq, e_gtr, e_geq, e_conv, e_not, e_neg, and_guard, or_guard, retV]
    rfl

end Go.Proofs.Ythnjkakmkmoceaa.Ab

/- What the document's answer does to a map. -/
namespace Go.Proofs.Ythnjkakmkmoceaa.Ab
open Go

/-! ### Find -/
def fdV (m : List Rg) (k : BL) : Value := .tuple #[sv ((cGet m k).getD []), .bool (cGet m k).isSome]
theorem x_fd0 (m : List Rg) (k : BL) : aextract 0 (fdV m k) = some (sv ((cGet m k).getD [])) := Eq.trans rfl (Eq.refl _)
theorem x_fd1 (m : List Rg) (k : BL) : aextract 1 (fdV m k) = some (.bool (cGet m k).isSome) := Eq.trans rfl (Eq.refl _)
theorem find_loop {R : Caller} (k : BL) {v : Value} {s : St} {m : List Rg} (h : listOf prC v s = some m) (hl : m.length < 140737488355328) : ∀ (rest : List Rg) (i : Nat), m.drop i = rest → i ≤ m.length →
    loopL (ref04_Find.b0 R) [sv k, v, .int .i64 ((m.length : Nat) : Int), .int .i64 (i : Int)] s = some ((match cGet rest k with | some x => (Ex.ret, [sv x, .bool true]) | none => (Ex.exit 0, [])).1, (match cGet rest k with | some x => (Ex.ret, [sv x, .bool true]) | none => (Ex.exit 0, [])).2, s) := by
  intro rest
  induction rest with
  | nil =>
    intro i hi hle
    have h1 : decide ((i : Int) < ((m.length : Nat) : Int)) = false := by
      have := List.drop_eq_nil_iff.1 hi
      simp; omega
    rw [loopL_eq]
    simp only [ref04_Find.b0, h1, n_bind, n_map, getL_0, getL_1, getL_2, getL_3, getL_4, getL_5, getL_6, getL_7, getL_8, getL_9, getL_10, getL_11, getL_12, condV_t, condV_f, guardV_tt, guardV_ff, guardV_tf, guardV_ft, guardV_u, apick_t, apick_f, exV_exit, exV_ret, lookE_same, joinK_eq, seqA_n, seqA_e, seqA_r, e_add, e_sub, e_mul, e_eql, e_neq, e_lss, e_leq, e_gtr, e_geq, e_conv, e_not, e_neg, and_guard, or_guard]
    rfl
  | cons p rest ih =>
    intro i hi hle
    obtain ⟨hlt, he, hd⟩ := drop_get hi
    have h1 : decide ((i : Int) < ((m.length : Nat) : Int)) = true := by simp; omega
    obtain ⟨a, h2, h3⟩ := list_at h hlt (k := .i64) (n := 2) rfl
    rw [pr_enc, he] at h3
    rw [loopL_eq, cGet_cons]
    simp only [ref04_Find.b0, h1, h2, h3, z_rv, st_rv, ld_rv, ld_0, ld_1, e_seql, n_bind, n_map, getL_0, getL_1, getL_2, getL_3, getL_4, getL_5, getL_6, getL_7, getL_8, getL_9, getL_10, getL_11, getL_12, condV_t, condV_f, guardV_tt, guardV_ff, guardV_tf, guardV_ft, guardV_u, apick_t, apick_f, exV_exit, exV_ret, lookE_same, joinK_eq, seqA_n, seqA_e, seqA_r, e_add, e_sub, e_mul, e_eql, e_neq, e_lss, e_leq, e_gtr, e_geq, e_conv, e_not, e_neg, and_guard, or_guard]
    cases h4 : (p.1 == k)
    · simp only [Bool.false_eq_true, if_false, inc_i64 (show i < 140737488355328 by omega), n_bind, n_map, getL_0, getL_1, getL_2, getL_3, getL_4, getL_5, getL_6, getL_7, getL_8, getL_9, getL_10, getL_11, getL_12, condV_t, condV_f, guardV_tt, guardV_ff, guardV_tf, guardV_ft, guardV_u, apick_t, apick_f, exV_exit, exV_ret, lookE_same, joinK_eq, seqA_n, seqA_e, seqA_r, e_add, e_sub, e_mul, e_eql, e_neq, e_lss, e_leq, e_gtr, e_geq, e_conv, e_not, e_neg, and_guard, or_guard]
      exact ih (i + 1) hd (by omega)
    · simp only [if_true, n_bind, n_map, getL_0, getL_1, getL_2, getL_3, getL_4, getL_5, getL_6, getL_7, getL_8, getL_9, getL_10, getL_11, getL_12, condV_t, condV_f, guardV_tt, guardV_ff, guardV_tf, guardV_ft, guardV_u, apick_t, apick_f, exV_exit, exV_ret, lookE_same, joinK_eq, seqA_n, seqA_e, seqA_r, e_add, e_sub, e_mul, e_eql, e_neq, e_lss, e_leq, e_gtr, e_geq, e_conv, e_not, e_neg, and_guard, or_guard]
theorem find_run {R : Caller} (k : BL) {v : Value} {s : St} {m : List Rg} (h : listOf prC v s = some m) (hl : m.length < 140737488355328) : ref04_Find R v (sv k) s = some (fdV m k, s) := by
  have h1 := find_loop (R := R) k h hl m 0 rfl (Nat.zero_le _)
  rw [show ((0 : Nat) : Int) = 0 from rfl] at h1
  unfold ref04_Find fdV
  simp only [list_len h, h1, n_bind, n_map, getL_0, getL_1, getL_2, getL_3, getL_4, getL_5, getL_6, getL_7, getL_8, getL_9, getL_10, getL_11, getL_12, condV_t, condV_f, guardV_tt, guardV_ff, guardV_tf, guardV_ft, guardV_u, apick_t, apick_f, exV_exit, exV_ret, lookE_same, joinK_eq, seqA_n, seqA_e, seqA_r, e_add, e_sub, e_mul, e_eql, e_neq, e_lss, e_leq, e_gtr, e_geq, e_conv, e_not, e_neg, and_guard, or_guard]
  cases h2 : cGet m k with
  | none => simp only [n_bind, n_map, getL_0, getL_1, getL_2, getL_3, getL_4, getL_5, getL_6, getL_7, getL_8, getL_9, getL_10, getL_11, getL_12, condV_t, condV_f, guardV_tt, guardV_ff, guardV_tf, guardV_ft, guardV_u, apick_t, apick_f, exV_exit, exV_ret, lookE_same, joinK_eq, seqA_n, seqA_e, seqA_r, e_add, e_sub, e_mul, e_eql, e_neq, e_lss, e_leq, e_gtr, e_geq, e_conv, e_not, e_neg, and_guard, or_guard, retV]; rfl
  | some x => simp only [n_bind, n_map, getL_0, getL_1, getL_2, getL_3, getL_4, getL_5, getL_6, getL_7, getL_8, getL_9, getL_10, getL_11, getL_12, condV_t, condV_f, guardV_tt, guardV_ff, guardV_tf, guardV_ft, guardV_u, apick_t, apick_f, exV_exit, exV_ret, lookE_same, joinK_eq, seqA_n, seqA_e, seqA_r, e_add, e_sub, e_mul, e_eql, e_neq, e_lss, e_leq, e_gtr, e_geq, e_conv, e_not, e_neg, and_guard, or_guard, retV]; rfl

/-! ### without -/

/-! ### Within -/
theorem cIn_cons (p : Rg) (m : List Rg) (r : Rg) : cIn (p :: m) r = if hasR r p.1 = true then p :: cIn m r else cIn m r := by
  unfold cIn
  rw [List.filter_cons]
theorem wi_loop {R : Caller} (hH : ∀ r k s, R 37 [rv r, sv k] s = some (.bool (hasR r k), s)) (r : Rg) (n : Nat) {v : Value} {s0 : St} {m : List Rg} (h : listOf prC v s0 = some m) : ∀ (rest : List Rg) (i : Nat) (s : St) (out : Value) (acc : List Rg), m.drop i = rest → i ≤ m.length → acc.length + rest.length ≤ 6400000000000 → m.length ≤ 6400000000000 → acc.length ≤ n → Ext s0.heap.length s0 s → Own s0.heap.length 2 s out (encL prC acc) →
    ∃ out' t, loopL (ref04_Within.b0 R) [.int .i64 (n : Int), lptr, out, v, .int .i64 ((m.length : Nat) : Int), .int .i64 (i : Int), rv r] s = some (.exit 0, [out'], t) ∧ Own s0.heap.length 2 t out' (encL prC (acc ++ (cIn rest r).take (n - acc.length))) ∧ Ext s0.heap.length s0 t := by
  intro rest
  induction rest with
  | nil =>
    intro i s out acc hi hle hb hm han hx ho
    have h1 : decide ((i : Int) < ((m.length : Nat) : Int)) = false := by
      have := List.drop_eq_nil_iff.1 hi
      simp; omega
    refine ⟨out, s, ?_, by simpa [cIn] using ho, hx⟩
    rw [loopL_eq]
    simp only [ref04_Within.b0, h1, n_bind, n_map, getL_0, getL_1, getL_2, getL_3, getL_4, getL_5, getL_6, getL_7, getL_8, getL_9, getL_10, getL_11, getL_12, condV_t, condV_f, guardV_tt, guardV_ff, guardV_tf, guardV_ft, guardV_u, apick_t, apick_f, exV_exit, exV_ret, lookE_same, joinK_eq, seqA_n, seqA_e, seqA_r, e_add, e_sub, e_mul, e_eql, e_neq, e_lss, e_leq, e_gtr, e_geq, e_conv, e_not, e_neg, and_guard, or_guard]
  | cons p rest ih =>
    intro i s out acc hi hle hb hm han hx ho
    obtain ⟨hlt, he, hd⟩ := drop_get hi
    simp only [List.length_cons] at hb
    have h1 : decide ((i : Int) < ((m.length : Nat) : Int)) = true := by simp; omega
    obtain ⟨a, h2, h3⟩ := list_at (list_ext hx h) hlt (k := .i64) (n := 2) rfl
    rw [pr_enc, he] at h3
    have hn0 : decide ((n : Int) < 0) = false := by simp
    have hlen : ∀ e s2, alenV (.slice e) out s2 = some (.int .i64 ((acc.length : Nat) : Int)) := fun e s2 => list_len (own_list (C := prC) ho)
    have hcm : decide (((acc.length : Nat) : Int) < (n : Int)) = decide (acc.length < n) := by simp
    rw [loopL_eq]
    simp only [ref04_Within.b0, h1, h2, h3, z_rv, st_rv, ld_rv, ld_0, ld_1, ref02_Has_call, hH, hn0, hlen, hcm, n_bind, n_map, getL_0, getL_1, getL_2, getL_3, getL_4, getL_5, getL_6, getL_7, getL_8, getL_9, getL_10, getL_11, getL_12, condV_t, condV_f, guardV_tt, guardV_ff, guardV_tf, guardV_ft, guardV_u, apick_t, apick_f, exV_exit, exV_ret, lookE_same, joinK_eq, seqA_n, seqA_e, seqA_r, e_add, e_sub, e_mul, e_eql, e_neq, e_lss, e_leq, e_gtr, e_geq, e_conv, e_not, e_neg, and_guard, or_guard]
    rw [cIn_cons]
    cases h4 : hasR r p.1
    · obtain ⟨out', t, b1, b2, b3⟩ := ih (i + 1) s out acc hd (by omega) (by omega) hm han hx ho
      refine ⟨out', t, ?_, by simpa using b2, b3⟩
      rw [← b1]
      simp only [ref04_Within.j0, inc_i64 (show i < 140737488355328 by omega), n_bind, n_map, getL_0, getL_1, getL_2, getL_3, getL_4, getL_5, getL_6, getL_7, getL_8, getL_9, getL_10, getL_11, getL_12, condV_t, condV_f, guardV_tt, guardV_ff, guardV_tf, guardV_ft, guardV_u, apick_t, apick_f, exV_exit, exV_ret, lookE_same, joinK_eq, seqA_n, seqA_e, seqA_r, e_add, e_sub, e_mul, e_eql, e_neq, e_lss, e_leq, e_gtr, e_geq, e_conv, e_not, e_neg, and_guard, or_guard]
    · by_cases h5 : acc.length < n
      · obtain ⟨q, a1, a2, v', s', a3, a4, a5, a6⟩ := own_add1R (C := prC) (w := 32) (a := p) (v := rv p) (z := [(.string ⟨#[]⟩), (.string ⟨#[]⟩)]) ho hx.1 (by decide) (by decide) rfl rfl rfl (room32 (by omega)) (n := 2) rfl
        obtain ⟨out', t, b1, b2, b3⟩ := ih (i + 1) s' v' (acc ++ [p]) hd (by omega) (by simp; omega) hm (by simp; omega) (hx.trans a5) a4
        refine ⟨out', t, ?_, ?_, b3⟩
        · rw [← b1]
          have h6 : decide (acc.length < n) = true := by simpa using h5
          simp only [h6, a1, a3, ref04_Within.j0, inc_i64 (show i < 140737488355328 by omega), n_bind, n_map, getL_0, getL_1, getL_2, getL_3, getL_4, getL_5, getL_6, getL_7, getL_8, getL_9, getL_10, getL_11, getL_12, condV_t, condV_f, guardV_tt, guardV_ff, guardV_tf, guardV_ft, guardV_u, apick_t, apick_f, exV_exit, exV_ret, lookE_same, joinK_eq, seqA_n, seqA_e, seqA_r, e_add, e_sub, e_mul, e_eql, e_neq, e_lss, e_leq, e_gtr, e_geq, e_conv, e_not, e_neg, and_guard, or_guard]
        · rw [if_pos rfl, show n - acc.length = (n - (acc ++ [p]).length) + 1 by simp; omega, List.take_succ_cons]
          simpa using b2
      · obtain ⟨out', t, b1, b2, b3⟩ := ih (i + 1) s out acc hd (by omega) (by omega) hm han hx ho
        refine ⟨out', t, ?_, ?_, b3⟩
        · rw [← b1]
          have h6 : decide (acc.length < n) = false := by simpa using h5
          simp only [h6, ref04_Within.j0, inc_i64 (show i < 140737488355328 by omega), n_bind, n_map, getL_0, getL_1, getL_2, getL_3, getL_4, getL_5, getL_6, getL_7, getL_8, getL_9, getL_10, getL_11, getL_12, condV_t, condV_f, guardV_tt, guardV_ff, guardV_tf, guardV_ft, guardV_u, apick_t, apick_f, exV_exit, exV_ret, lookE_same, joinK_eq, seqA_n, seqA_e, seqA_r, e_add, e_sub, e_mul, e_eql, e_neq, e_lss, e_leq, e_gtr, e_geq, e_conv, e_not, e_neg, and_guard, or_guard]
        · rw [show n - acc.length = 0 by omega] at b2 ⊢
          simpa using b2
theorem wi_run {R : Caller} (hH : ∀ r k s, R 37 [rv r, sv k] s = some (.bool (hasR r k), s)) (r : Rg) (n : Nat) {v : Value} {s : St} {m : List Rg} (h : listOf prC v s = some m) (hm : m.length ≤ 6400000000000) :
    ∃ out t, ref04_Within R v (rv r) (.int .i64 (n : Int)) s = some (out, t) ∧ Own s.heap.length 2 t out (encL prC ((cIn m r).take n)) ∧ Ext s.heap.length s t := by
  obtain ⟨out, t, h1, h2, h3⟩ := wi_loop hH r n h m 0 s (.slice none 0 0) [] rfl (Nat.zero_le _) (by simpa using hm) hm (Nat.zero_le _) (.refl _ _) (.nil _ _ _)
  rw [show ((0 : Nat) : Int) = 0 from rfl] at h1
  refine ⟨out, t, ?_, h2, h3⟩
  unfold ref04_Within
  simp only [box_rv, list_len h, h1, n_bind, n_map, getL_0, getL_1, getL_2, getL_3, getL_4, getL_5, getL_6, getL_7, getL_8, getL_9, getL_10, getL_11, getL_12, condV_t, condV_f, guardV_tt, guardV_ff, guardV_tf, guardV_ft, guardV_u, apick_t, apick_f, exV_exit, exV_ret, lookE_same, joinK_eq, seqA_n, seqA_e, seqA_r, e_add, e_sub, e_mul, e_eql, e_neq, e_lss, e_leq, e_gtr, e_geq, e_conv, e_not, e_neg, and_guard, or_guard, retV, List.all_cons, h2.notup]
  rfl

/-! ### put -/
def pStep (k w : BL) (st : List Rg × Bool) (x : Rg) : List Rg × Bool :=
  (if (x.1 != k) = true then (if (!st.2 && !bl x.1 k) = true then st.1 ++ [(k, w)] else st.1) ++ [x] else (if (!st.2 && !bl x.1 k) = true then st.1 ++ [(k, w)] else st.1), st.2 || !bl x.1 k)
def pFin (k w : BL) (st : List Rg × Bool) : List Rg := if st.2 = true then st.1 else st.1 ++ [(k, w)]
theorem pStep_len {k w : BL} {st : List Rg × Bool} {x : Rg} : (pStep k w st x).1.length ≤ st.1.length + 1 + (if st.2 = (pStep k w st x).2 then 0 else 1) := by
  unfold pStep
  cases h1 : st.2 <;> cases h2 : bl x.1 k <;> cases h3 : (x.1 != k) <;> simp
theorem put_done {k w : BL} : ∀ (m : List Rg) (out : List Rg), m.foldl (pStep k w) (out, true) = (out ++ m.filter (fun p => p.1 != k), true)
  | [], out => by simp
  | x :: m, out => by
    have : pStep k w (out, true) x = (if (x.1 != k) = true then out ++ [x] else out, true) := by simp [pStep]
    rw [List.foldl_cons, List.filter_cons, this, put_done m]
    split <;> simp
theorem put_pure {k w : BL} : ∀ (m : List Rg) (_ : Srt m) (out : List Rg), pFin k w (m.foldl (pStep k w) (out, false)) = out ++ cPut m k w
  | [], _, out => by simp [pFin, cPut]
  | x :: m, h, out => by
    obtain ⟨h1, h2⟩ := srt_cons.1 h
    rw [List.foldl_cons]
    unfold cPut
    rw [List.filter_cons, List.filter_cons]
    by_cases c : bl x.1 k = true
    · have e : (x.1 != k) = true := by simp [bne, (beq_of_bl c).1]
      have : pStep k w (out, false) x = (out ++ [x], false) := by simp [pStep, c, e]
      rw [this, put_pure m h2, if_pos c, bl_asym c]
      simp [cPut]
    · have c2 : bl x.1 k = false := by simpa using c
      have hf1 : m.filter (fun p => bl p.1 k) = [] := filter_none fun q hq => bl_up c2 (h1 q hq)
      have hk : ∀ q ∈ m, bl k q.1 = true := fun q hq => by
        by_cases e : x.1 = k
        · rw [← e]; exact h1 q hq
        · rcases bl_total e with e2 | e2
          · rw [e2] at c2; cases c2
          · exact bl_trans e2 (h1 q hq)
      have hf2 : m.filter (fun p => bl k p.1) = m := List.filter_eq_self.2 hk
      have hf3 : m.filter (fun p => p.1 != k) = m := List.filter_eq_self.2 fun q hq => by simp [bne, (beq_of_bl (hk q hq)).2]
      rw [if_neg c, hf1, hf2]
      by_cases e : x.1 = k
      · have e1 : (x.1 != k) = false := by simp [e]
        have : pStep k w (out, false) x = (out ++ [(k, w)], true) := by simp [pStep, c2, e1]
        rw [this, put_done, hf3, e, bl_irrefl]
        simp [pFin]
      · have e1 : (x.1 != k) = true := by simp [e]
        have e2 : bl k x.1 = true := by
          rcases bl_total e with e2 | e2
          · rw [e2] at c2; cases c2
          · exact e2
        have : pStep k w (out, false) x = (out ++ [(k, w)] ++ [x], true) := by simp [pStep, c2, e1]
        rw [this, put_done, hf3, e2]
        simp [pFin]

end Go.Proofs.Ythnjkakmkmoceaa.Ab

/- Pairs, locks: whether two are the same. -/
namespace Go.Proofs.Ythnjkakmkmoceaa.Ab
open Go

theorem eq_bool (o1 o2 : Operand) (a b : Bool) : abin Try.prog .eql 4 o1 o2 (.bool a) (.bool b) = some (.bool (a == b)) := by
  unfold abin
  rw [Try.underlying4]
  rfl
theorem ne_bool (o1 o2 : Operand) (a b : Bool) : abin Try.prog .neq 4 o1 o2 (.bool a) (.bool b) = some (.bool (a != b)) := by
  unfold abin
  rw [Try.underlying4]
  rfl
theorem pr_eql (o1 o2 : Operand) (a b : Rg) : abin Try.prog .eql 75 o1 o2 (rv a) (rv b) = some (.bool (a.1 == b.1 && a.2 == b.2)) := by
  have hu := pr_und Try.underlying75
  have hg : pureRun Try.prog (eqGuard .eql 75 o1 o2 (.agg #[sv a.1, sv a.2]) (.agg #[sv b.1, sv b.2])) = some () := by kernel_rfl
  have hh : Try.prog.stoodInHeld 75 = false := by kernel_rfl
  have hp : ∀ x y : BL, pureRun Try.prog (part 9 #[sv x, sv y] 0) = some (sv x) ∧ pureRun Try.prog (part 9 #[sv x, sv y] 1) = some (sv y) := fun x y => by
    refine ⟨?_, ?_⟩ <;> kernel_rfl
  have he : ∀ (n : Nat) (x y : BL), pureRun Try.prog (Op.equalIn (n + 1) 9 (sv x) (sv y)) = some (x == y) := fun n x y => by
    unfold sv
    rw [pr_str Try.underlying9, bytes_beq]
  unfold abin aggBin rv
  simp only
  have hc : (constOk (.agg #[sv a.1, sv a.2]) && constOk (.agg #[sv b.1, sv b.2])) = true := rfl
  rw [if_pos hc, pr_bind, hg]
  simp only [Option.bind_some, binOp]
  rw [pr_bind]
  have key : pureRun Try.prog (Op.equal 75 (.agg #[sv a.1, sv a.2]) (.agg #[sv b.1, sv b.2])) = some (a.1 == b.1 && a.2 == b.2) := by
    unfold Op.equal Op.maxDepth Op.equalIn
    rw [pr_bind, hu]
    simp only [Option.bind_some]
    rw [pr_bind, pr_program]
    simp only [Option.bind_some, hh, Bool.false_eq_true, if_false, pr_bind]
    have hKey : ("Key" ≠ "_") = True := by simp
    have hValue : ("Value" ≠ "_") = True := by simp
    simp only [List.forIn_toArray, List.forIn_cons, List.forIn_nil]
    cases h1 : (a.1 == b.1)
    · simp only [Option.bind_some, pr_bind, pr_pure, Nat.reduceAdd, hKey, hValue, if_true, (hp _ _).1, (hp _ _).2, he, Bool.not_true, Bool.not_false, Bool.false_eq_true, if_false, Bool.true_and, Bool.false_and, Bool.and_true, h1]
    cases h2 : (a.2 == b.2)
    · simp only [Option.bind_some, pr_bind, pr_pure, Nat.reduceAdd, hKey, hValue, if_true, (hp _ _).1, (hp _ _).2, he, Bool.not_true, Bool.not_false, Bool.false_eq_true, if_false, Bool.true_and, Bool.false_and, Bool.and_true, h1, h2]
    · simp only [Option.bind_some, pr_bind, pr_pure, Nat.reduceAdd, hKey, hValue, if_true, (hp _ _).1, (hp _ _).2, he, Bool.not_true, Bool.not_false, Bool.false_eq_true, if_false, Bool.true_and, Bool.false_and, Bool.and_true, h1, h2]
  rw [key]
  rfl

theorem pr_neq (o1 o2 : Operand) (a b : Rg) : abin Try.prog .neq 75 o1 o2 (rv a) (rv b) = some (.bool (!(a.1 == b.1 && a.2 == b.2))) := by
  have hu := pr_und Try.underlying75
  have hg : pureRun Try.prog (eqGuard .neq 75 o1 o2 (.agg #[sv a.1, sv a.2]) (.agg #[sv b.1, sv b.2])) = some () := by kernel_rfl
  have h0 := pr_eql o1 o2 a b
  have hg0 : pureRun Try.prog (eqGuard .eql 75 o1 o2 (.agg #[sv a.1, sv a.2]) (.agg #[sv b.1, sv b.2])) = some () := by kernel_rfl
  unfold abin aggBin rv at h0 ⊢
  simp only at h0 ⊢
  have hc : (constOk (.agg #[sv a.1, sv a.2]) && constOk (.agg #[sv b.1, sv b.2])) = true := rfl
  rw [if_pos hc, pr_bind, hg0] at h0
  rw [if_pos hc, pr_bind, hg]
  simp only [Option.bind_some, binOp, pr_bind, pr_pure] at h0 ⊢
  cases e : pureRun Try.prog (Op.equal 75 (.agg #[sv a.1, sv a.2]) (.agg #[sv b.1, sv b.2])) with
  | none => rw [e] at h0; cases h0
  | some r =>
    rw [e] at h0
    simp only [Option.bind_some] at h0 ⊢
    cases h0
    rfl

theorem bln_eqIn (n : Nat) (x y : Bool) : pureRun Try.prog (Op.equalIn (n + 1) 4 (.bool x) (.bool y)) = some (x == y) := by
  unfold Op.equalIn
  rw [pr_bind, pr_und Try.underlying4]
  rfl
theorem str_eqIn (n : Nat) (x y : BL) : pureRun Try.prog (Op.equalIn (n + 1) 9 (sv x) (sv y)) = some (x == y) := by
  unfold sv
  rw [pr_str Try.underlying9, bytes_beq]
theorem rg_eqIn (n : Nat) (a b : Rg) : pureRun Try.prog (Op.equalIn (n + 2) 38 (.agg #[sv a.1, sv a.2]) (.agg #[sv b.1, sv b.2])) = some (a.1 == b.1 && a.2 == b.2) := by
  have hu := pr_und Try.underlying38
  have hh : Try.prog.stoodInHeld 38 = false := by kernel_rfl
  have hp : ∀ x y : BL, pureRun Try.prog (part 9 #[sv x, sv y] 0) = some (sv x) ∧ pureRun Try.prog (part 9 #[sv x, sv y] 1) = some (sv y) := fun x y => by
    refine ⟨?_, ?_⟩ <;> kernel_rfl
  unfold Op.equalIn
  rw [pr_bind, hu]
  simp only [Option.bind_some]
  rw [pr_bind, pr_program]
  simp only [Option.bind_some, hh, Bool.false_eq_true, if_false, pr_bind]
  have hLo : ("Lo" ≠ "_") = True := by simp
  have hHi : ("Hi" ≠ "_") = True := by simp
  simp only [List.forIn_toArray, List.forIn_cons, List.forIn_nil]
  cases h1 : (a.1 == b.1)
  · simp only [Option.bind_some, pr_bind, pr_pure, Nat.reduceAdd, hLo, hHi, if_true, (hp _ _).1, (hp _ _).2, str_eqIn, Bool.not_true, Bool.not_false, Bool.false_eq_true, if_false, Bool.true_and, Bool.false_and, Bool.and_true, h1]
  cases h2 : (a.2 == b.2)
  · simp only [Option.bind_some, pr_bind, pr_pure, Nat.reduceAdd, hLo, hHi, if_true, (hp _ _).1, (hp _ _).2, str_eqIn, Bool.not_true, Bool.not_false, Bool.false_eq_true, if_false, Bool.true_and, Bool.false_and, Bool.and_true, h1, h2]
  · simp only [Option.bind_some, pr_bind, pr_pure, Nat.reduceAdd, hLo, hHi, if_true, (hp _ _).1, (hp _ _).2, str_eqIn, Bool.not_true, Bool.not_false, Bool.false_eq_true, if_false, Bool.true_and, Bool.false_and, Bool.and_true, h1, h2]

end Go.Proofs.Ythnjkakmkmoceaa.Ab

/- What the document's answer does to a map, one operation after another; whether two maps, two tellings are the same. -/
namespace Go.Proofs.Ythnjkakmkmoceaa.Ab
open Go

theorem pt_out {m : List Rg} (h : Val m) {k : BL} (hk : ckK k = true) : cOut m (ptR k) = cDel m k := by
  obtain ⟨p1, p2, p3, p4⟩ := pt_facts hk
  refine filter_same fun q hq => ?_
  have hq1 := (h.2 q hq).1
  rw [has_iff p2 hq1, p1]
  by_cases e : q.1 = k
  · rw [e, bl_irrefl, p4]; simp
  · have e1 : (q.1 != k) = true := by simp [e]
    rw [e1]
    cases h1 : bl q.1 k
    · cases h2 : ((ptR k).2 == [] || bl q.1 (ptR k).2)
      · rfl
      · exact absurd (p3 q.1 (ckK_len hq1).1 h1 h2) e
    · rfl
theorem ab_res (b : Bool) (x : BL) : abuild Try.prog 95 [(0, .bool b), (1, sv x)] = some (tellV b x (.slice none 0 0)) := by kernel_rfl

/-! ### Whether two are the same -/
theorem same_loop {R : Caller} {v w : Value} {s : St} {a b : List Rg} (ha : listOf prC v s = some a) (hb : listOf prC w s = some b) (hab : a.length = b.length) (hl : a.length < 140737488355328) : ∀ (ra rb : List Rg) (i : Nat), a.drop i = ra → b.drop i = rb → i ≤ a.length →
    loopL (ref04_SameMap.b0 R) [v, w, .int .i64 ((a.length : Nat) : Int), .int .i64 (i : Int)] s = some (if ra = rb then (.exit 0, [], s) else (.ret, [.bool false], s)) := by
  intro ra
  induction ra with
  | nil =>
    intro rb i h1 h2 hle
    have hge := List.drop_eq_nil_iff.1 h1
    have hrb : rb = [] := by rw [← h2]; exact List.drop_eq_nil_of_le (by omega)
    have hd : decide ((i : Int) < ((a.length : Nat) : Int)) = false := by simp; omega
    rw [hrb, if_pos rfl, loopL_eq]
    simp only [ref04_SameMap.b0, hd, n_bind, n_map, getL_0, getL_1, getL_2, getL_3, getL_4, getL_5, getL_6, getL_7, getL_8, getL_9, getL_10, getL_11, getL_12, condV_t, condV_f, guardV_tt, guardV_ff, guardV_tf, guardV_ft, guardV_u, apick_t, apick_f, exV_exit, exV_ret, lookE_same, joinK_eq, seqA_n, seqA_e, seqA_r, e_add, e_sub, e_mul, e_eql, e_neq, e_lss, e_leq, e_gtr, e_geq, e_conv, e_not, e_neg, and_guard, or_guard]
  | cons p ra ih =>
    intro rb i h1 h2 hle
    obtain ⟨hlt, he, hd⟩ := drop_get h1
    have hdc : decide ((i : Int) < ((a.length : Nat) : Int)) = true := by simp; omega
    cases rb with
    | nil =>
      have := List.drop_eq_nil_iff.1 h2
      omega
    | cons q rb =>
      obtain ⟨hlt2, he2, hd2⟩ := drop_get h2
      obtain ⟨x, a1, a2⟩ := list_at (s := frzS s) (by rw [list_frz]; exact ha) hlt (k := .i64) (n := 2) rfl
      obtain ⟨y, b1, b2⟩ := list_at (s := frzS s) (by rw [list_frz]; exact hb) hlt2 (k := .i64) (n := 2) rfl
      rw [pr_enc, he] at a2
      rw [pr_enc, he2] at b2
      have key := ih rb (i + 1) hd hd2 (by omega)
      rw [loopL_eq]
      simp only [ref04_SameMap.b0, hdc, a1, a2, b1, b2, pr_neq, n_bind, n_map, getL_0, getL_1, getL_2, getL_3, getL_4, getL_5, getL_6, getL_7, getL_8, getL_9, getL_10, getL_11, getL_12, condV_t, condV_f, guardV_tt, guardV_ff, guardV_tf, guardV_ft, guardV_u, apick_t, apick_f, exV_exit, exV_ret, lookE_same, joinK_eq, seqA_n, seqA_e, seqA_r, e_add, e_sub, e_mul, e_eql, e_neq, e_lss, e_leq, e_gtr, e_geq, e_conv, e_not, e_neg, and_guard, or_guard]
      by_cases e : p = q
      · subst e
        have e1 : (!(p.1 == p.1 && p.2 == p.2)) = false := by simp
        simp only [e1, inc_i64 (show i < 140737488355328 by omega), n_bind, n_map, getL_0, getL_1, getL_2, getL_3, getL_4, getL_5, getL_6, getL_7, getL_8, getL_9, getL_10, getL_11, getL_12, condV_t, condV_f, guardV_tt, guardV_ff, guardV_tf, guardV_ft, guardV_u, apick_t, apick_f, exV_exit, exV_ret, lookE_same, joinK_eq, seqA_n, seqA_e, seqA_r, e_add, e_sub, e_mul, e_eql, e_neq, e_lss, e_leq, e_gtr, e_geq, e_conv, e_not, e_neg, and_guard, or_guard]
        rw [key]
        simp
      · have e1 : (!(p.1 == q.1 && p.2 == q.2)) = true := by
          simp only [Bool.not_eq_true', Bool.and_eq_false_iff, beq_eq_false_iff_ne]
          by_cases c : p.1 = q.1
          · exact .inr fun d => e (Prod.ext c d)
          · exact .inl c
        simp only [e1, n_bind, n_map, getL_0, getL_1, getL_2, getL_3, getL_4, getL_5, getL_6, getL_7, getL_8, getL_9, getL_10, getL_11, getL_12, condV_t, condV_f, guardV_tt, guardV_ff, guardV_tf, guardV_ft, guardV_u, apick_t, apick_f, exV_exit, exV_ret, lookE_same, joinK_eq, seqA_n, seqA_e, seqA_r, e_add, e_sub, e_mul, e_eql, e_neq, e_lss, e_leq, e_gtr, e_geq, e_conv, e_not, e_neg, and_guard, or_guard]
        rw [if_neg fun c => e (List.cons.inj c).1]
theorem same_run {R : Caller} {v w : Value} {s : St} {a b : List Rg} (ha : listOf prC v s = some a) (hb : listOf prC w s = some b) (hl : a.length < 140737488355328) : ref04_SameMap R v w s = some (.bool (decide (a = b)), s) := by
  unfold ref04_SameMap
  simp only [list_len ha, list_len hb, n_bind, n_map, getL_0, getL_1, getL_2, getL_3, getL_4, getL_5, getL_6, getL_7, getL_8, getL_9, getL_10, getL_11, getL_12, condV_t, condV_f, guardV_tt, guardV_ff, guardV_tf, guardV_ft, guardV_u, apick_t, apick_f, exV_exit, exV_ret, lookE_same, joinK_eq, seqA_n, seqA_e, seqA_r, e_add, e_sub, e_mul, e_eql, e_neq, e_lss, e_leq, e_gtr, e_geq, e_conv, e_not, e_neg, and_guard, or_guard]
  by_cases e : a.length = b.length
  · have h1 := same_loop (R := R) ha hb e hl a b 0 rfl rfl (Nat.zero_le _)
    rw [show ((0 : Nat) : Int) = 0 from rfl] at h1
    have e1 : (((a.length : Nat) : Int) != ((b.length : Nat) : Int)) = false := by simp [e]
    simp only [e1, h1, n_bind, n_map, getL_0, getL_1, getL_2, getL_3, getL_4, getL_5, getL_6, getL_7, getL_8, getL_9, getL_10, getL_11, getL_12, condV_t, condV_f, guardV_tt, guardV_ff, guardV_tf, guardV_ft, guardV_u, apick_t, apick_f, exV_exit, exV_ret, lookE_same, joinK_eq, seqA_n, seqA_e, seqA_r, e_add, e_sub, e_mul, e_eql, e_neq, e_lss, e_leq, e_gtr, e_geq, e_conv, e_not, e_neg, and_guard, or_guard]
    by_cases c : a = b
    · rw [if_pos c]
      simp only [c, n_bind, n_map, getL_0, getL_1, getL_2, getL_3, getL_4, getL_5, getL_6, getL_7, getL_8, getL_9, getL_10, getL_11, getL_12, condV_t, condV_f, guardV_tt, guardV_ff, guardV_tf, guardV_ft, guardV_u, apick_t, apick_f, exV_exit, exV_ret, lookE_same, joinK_eq, seqA_n, seqA_e, seqA_r, e_add, e_sub, e_mul, e_eql, e_neq, e_lss, e_leq, e_gtr, e_geq, e_conv, e_not, e_neg, and_guard, or_guard, retV]
      rfl
    · rw [if_neg c]
      simp only [c, n_bind, n_map, getL_0, getL_1, getL_2, getL_3, getL_4, getL_5, getL_6, getL_7, getL_8, getL_9, getL_10, getL_11, getL_12, condV_t, condV_f, guardV_tt, guardV_ff, guardV_tf, guardV_ft, guardV_u, apick_t, apick_f, exV_exit, exV_ret, lookE_same, joinK_eq, seqA_n, seqA_e, seqA_r, e_add, e_sub, e_mul, e_eql, e_neq, e_lss, e_leq, e_gtr, e_geq, e_conv, e_not, e_neg, and_guard, or_guard, retV]
      rfl
  · have e1 : (((a.length : Nat) : Int) != ((b.length : Nat) : Int)) = true := by simp; omega
    have e2 : ¬ a = b := fun h => e (by rw [h])
    simp only [e1, e2, n_bind, n_map, getL_0, getL_1, getL_2, getL_3, getL_4, getL_5, getL_6, getL_7, getL_8, getL_9, getL_10, getL_11, getL_12, condV_t, condV_f, guardV_tt, guardV_ff, guardV_tf, guardV_ft, guardV_u, apick_t, apick_f, exV_exit, exV_ret, lookE_same, joinK_eq, seqA_n, seqA_e, seqA_r, e_add, e_sub, e_mul, e_eql, e_neq, e_lss, e_leq, e_gtr, e_geq, e_conv, e_not, e_neg, and_guard, or_guard, retV]
    rfl
/-- what was told, somewhere -/
def RdyL (s : St) (v : Value) (l : List Rs) : Prop := ∃ q, q.map (·.1) = l ∧ cellsOf 3 v s = some (encR q) ∧ ∀ x ∈ q, listOf prC x.2 s = some x.1.2.2
theorem Rdy.toL {N : Nat} {s : St} {v : Value} {l : List Rs} (h : Rdy N s v l) : RdyL s v l := by
  obtain ⟨q, h1, h2, h3⟩ := h
  exact ⟨q, h1, h2.cells, fun x hx => (h3 x hx).list⟩
theorem RdyL.ext {s t : St} {v : Value} {l : List Rs} (h : RdyL s v l) (hx : Ext s.heap.length s t) : RdyL t v l := by
  obtain ⟨q, h1, h2, h3⟩ := h
  exact ⟨q, h1, hx.cells h2, fun x hxq => list_ext hx (h3 x hxq)⟩
theorem cells_alen {s s2 : St} {v : Value} {q : List (Rs × Value)} (h : cellsOf 3 v s = some (encR q)) {e : TypeId} : alenV (.slice e) v s2 = some (.int .i64 ((q.length : Nat) : Int)) := by
  obtain ⟨a, len, cap, rfl, h2⟩ := cellsOf_len h
  rw [encR_len] at h2
  have : len = q.length := by omega
  subst this
  rfl

end Go.Proofs.Ythnjkakmkmoceaa.Ab
