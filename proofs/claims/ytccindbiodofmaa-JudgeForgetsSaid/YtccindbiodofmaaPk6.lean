/- Texts of this proof, packed: JuSee3, JuRun, JuPl, JuOwn, JuPl2, JuLawA, JuLawB, JuPl3, JuLawC, BArg, BSized. -/
import Derived.Test.YtccindbiodofmaaPk5
import Derived.SizedLaws
import Derived.ChangeSlices
set_option linter.unusedVariables false
set_option linter.unusedSimpArgs false
set_option linter.unusedSectionVars false
/- One that is seen: the walk. -/
namespace Go.Proofs.Ytccindbiodofmaa.Ab
open Go
set_option maxRecDepth 100000

theorem lp_0 : afieldAddr 0 lptr = some lptr := rfl
theorem lp_3 : afieldAddr 3 lptr = some (.pointer (some ⟨0, 3, none⟩)) := rfl
theorem lp_5 : afieldAddr 5 lptr = some (.pointer (some ⟨0, 5, none⟩)) := rfl
theorem kn_ad0 {N : Nat} : afieldAddr 0 (.pointer (some ⟨N, 0, none⟩)) = some (.pointer (some ⟨N, 0, none⟩)) := kn_ad
theorem ex0 {v : Value} (b : Value) (h : isTup v = false) : aextract 0 (.tuple #[v, b]) = some v := by simp [aextract, h]
theorem ex1 {v : Value} {b : Bool} : aextract 1 (.tuple #[v, .bool b]) = some (.bool b) := Eq.trans rfl (Eq.refl _)
theorem lit_see {a b c : Bool} {k : Int} : litF .i64 (.bool false) [(1, .bool a), (2, .bool b), (3, .bool c)] (.int .i64 k) = some (.bool (twiceP k a b c)) := by
  have hc : ([(1, .bool a), (2, .bool b), (3, .bool c)] : List (Int × Value)).all (fun e => constOk e.2) = true := rfl
  unfold litF
  rw [if_pos hc]
  simp only [if_true, litG, twiceP, beq_iff_eq]
  split
  · rfl
  · split
    · rfl
    · split <;> rfl
theorem ops_tup {s : St} {v : Value} {l : List OpT} (h : listOf opC v s = some l) : isTup v = false := by
  obtain ⟨a, cap, rfl⟩ := list_shape h
  rfl
/-- what the three maps say of a request -/
theorem asks {s0 t : St} {K : Kn} {ea eb ec : List (Value × Value × Nat)} {ca cb cc : Nat} {mv : Value} (h : KS s0 t K ea eb ec ca cb cc mv) (r : Rq) :
    (∃ v, isTup v = false ∧ (∀ ok, alookupE Try.prog 77 (.slice none 0 0) ea (rqV r) ok = some (cond ok (.tuple #[v, .bool (lookR r K.ops).isSome]) v)) ∧ ∀ l, lookR r K.ops = some l → listOf opC v s0 = some l) ∧
    (∃ v, isTup v = false ∧ (∀ ok, alookupE Try.prog 77 (.slice none 0 0) eb (rqV r) ok = some (cond ok (.tuple #[v, .bool (lookR r K.res).isSome]) v)) ∧ RdyL t v ((lookR r K.res).getD [])) ∧
    (∀ ok, alookupE Try.prog 77 (.bool false) ec (rqV r) ok = some (cond ok (.tuple #[.bool (lookR r K.told).isSome, .bool (lookR r K.told).isSome]) (.bool (lookR r K.told).isSome))) := by
  refine ⟨?_, ?_, ?_⟩
  · have := look_rq (r := r) h.ra (.slice none 0 0)
    cases e : lookR r K.ops with
    | none => rw [e] at this; exact ⟨_, rfl, this, fun l hl => (by cases hl)⟩
    | some l =>
      rw [e] at this
      obtain ⟨v, h1, h2⟩ := this
      exact ⟨v, ops_tup h2, h1, fun l' hl => (by cases hl; exact h2)⟩
  · have := look_rq (r := r) h.rb (.slice none 0 0)
    cases e : lookR r K.res with
    | none => rw [e] at this; exact ⟨_, rfl, this, [], rfl, rfl, fun x hx => (by cases hx)⟩
    | some l =>
      rw [e] at this
      obtain ⟨v, h1, h2⟩ := this
      exact ⟨v, h2.istup, h1, h2.toL⟩
  · have := look_rq (r := r) h.rc (.bool false)
    cases e : lookR r K.told with
    | none => rw [e] at this; exact this
    | some l =>
      rw [e] at this
      obtain ⟨v, h1, rfl⟩ := this
      exact h1
theorem none_of {A : Type} {x : Option A} (h : x.isSome = false) : x = none := by cases x with
  | none => rfl
  | some a => cases h

theorem see_run {s0 t : St} {K : Kn} {ea eb ec : List (Value × Value × Nat)} {ca cb cc : Nat} {mv : Value} (h : KS s0 t K ea eb ec ca cb cc mv) {i : Nat} (hk : KOk K i) (hi : i ≤ 1759218604391) {x : Sn} {o r : Value} (ho : listOf opC o s0 = some x.ops) (hol : x.ops.length < 140737488355328) (hr : RdyL s0 r x.res) :
    ∃ t', (run Try.prog (libL libT) hints) 28 [.pointer (some ⟨s0.heap.length + 3, 0, none⟩), snV x o r] t = some (.int .i64 (seeP K x).1, t') ∧ KSt s0 t' (seeP K x).2 := by
  have hot := list_ext h.ext ho
  have hrt := hr.ext h.ext
  have hck := ckS_run (s := t) hot hol (rdy_leaf hrt)
  have hbx := sn_box (x := x) (ops_leaf ho) (rdy_leaf hr)
  have hN0 : aload false 1 (.pointer (some ⟨s0.heap.length + 3, 0, none⟩)) t = some (.map (some s0.heap.length)) := kn_ld h.k rfl
  have hN1 : aload false 1 (.pointer (some ⟨s0.heap.length + 3, 1, none⟩)) t = some (.map (some (s0.heap.length + 1))) := kn_ld h.k rfl
  have hN2 : aload false 1 (.pointer (some ⟨s0.heap.length + 3, 2, none⟩)) t = some (.map (some (s0.heap.length + 2))) := kn_ld h.k rfl
  have hN3 : aload false 1 (.pointer (some ⟨s0.heap.length + 3, 3, none⟩)) t = some mv := kn_ld h.k rfl
  obtain ⟨⟨vo, hvo, ho1, ho2⟩, ⟨vr, hvr, hr1, hr2⟩, ht1⟩ := asks h (x.client, x.req)
  have stay : KSt s0 t K := ⟨_, _, _, _, _, _, _, h⟩
  have z0 : ((0 : Int) != 0) = false := rfl
  have z1 : ((1 : Int) != 0) = true := rfl
  cases hg : goodS x with
  | false =>
    have e : seeP K x = (1, K) := by unfold seeP; rw [if_pos hg]
    rw [e]
    refine ⟨t, judge_known_see_of rfl ?_, stay⟩
    unfold judge_known_see
    simp only [hg, Bool.false_eq_true, if_false, z1, hN0, hN1, hN2, kn_ad, kn_nil, kn_ad0, lp_0, lp_3, lp_5, judge_check_call, hck, hbx, sn_all, sn_0, sn_1, sn_2, sn_3, sn_4, sn_5, rq_build, rq_st, rq_all, mp_look h.a, mp_look h.b, mp_look h.c, ho1, hr1, ht1, cond_true, cond_false, ex0 _ hvo, ex0 _ hvr, ex1, own_id, lit_see, judge_known_see.j0, judge_known_see.j1, n_bind, n_map, getL_0, getL_1, getL_2, getL_3, getL_4, getL_5, getL_6, getL_7, getL_8, getL_9, getL_10, getL_11, getL_12, condV_t, condV_f, guardV_tt, guardV_ff, guardV_tf, guardV_ft, guardV_u, apick_t, apick_f, exV_exit, exV_ret, lookE_same, joinK_eq, seqA_n, seqA_e, seqA_r, e_add, e_sub, e_mul, e_eql, e_neq, e_lss, e_leq, e_gtr, e_geq, e_conv, e_not, e_neg, and_guard, or_guard, retV]
    rfl
  | true =>
  have hgn : ¬ goodS x = false := by rw [hg]; simp
  simp only [hg, if_true] at hck
  cases ht : twiceP x.kind (lookR (x.client, x.req) K.ops).isSome (lookR (x.client, x.req) K.res).isSome (lookR (x.client, x.req) K.told).isSome with
  | true =>
    have e : seeP K x = (6, K) := by unfold seeP; rw [if_neg hgn, if_pos ht]
    rw [e]
    refine ⟨t, judge_known_see_of rfl ?_, stay⟩
    unfold judge_known_see
    simp only [z0, ht, hN0, hN1, hN2, kn_ad, kn_nil, kn_ad0, lp_0, lp_3, lp_5, judge_check_call, hck, hbx, sn_all, sn_0, sn_1, sn_2, sn_3, sn_4, sn_5, rq_build, rq_st, rq_all, mp_look h.a, mp_look h.b, mp_look h.c, ho1, hr1, ht1, cond_true, cond_false, ex0 _ hvo, ex0 _ hvr, ex1, own_id, lit_see, judge_known_see.j0, judge_known_see.j1, n_bind, n_map, getL_0, getL_1, getL_2, getL_3, getL_4, getL_5, getL_6, getL_7, getL_8, getL_9, getL_10, getL_11, getL_12, condV_t, condV_f, guardV_tt, guardV_ff, guardV_tf, guardV_ft, guardV_u, apick_t, apick_f, exV_exit, exV_ret, lookE_same, joinK_eq, seqA_n, seqA_e, seqA_r, e_add, e_sub, e_mul, e_eql, e_neq, e_lss, e_leq, e_gtr, e_geq, e_conv, e_not, e_neg, and_guard, or_guard, retV]
    rfl
  | false =>
  have htn : ¬ twiceP x.kind (lookR (x.client, x.req) K.ops).isSome (lookR (x.client, x.req) K.res).isSome (lookR (x.client, x.req) K.told).isSome = true := by rw [ht]; simp
  cases hk1 : (x.kind == 1) with
  | true =>
    have hk1' : x.kind = 1 := by simpa using hk1
    have hno : lookR (x.client, x.req) K.ops = none := none_of (by unfold twiceP at ht; rw [hk1] at ht; simpa using ht)
    have e : seeP K x = (0, { K with ops := K.ops ++ [((x.client, x.req), x.ops)] }) := by unfold seeP; rw [if_neg hgn, if_neg htn, if_pos hk1']
    rw [e]
    refine ⟨_, judge_known_see_of rfl ?_, h.addOps (r := (x.client, x.req)) ho⟩
    have hup := mp_new h.a h.ra hno (ops_tup ho)
    unfold judge_known_see
    simp only [z0, ht, hk1, hup, own_ok (Nat.le_of_eq put_len.symm), hN0, hN1, hN2, kn_ad, kn_nil, kn_ad0, lp_0, lp_3, lp_5, judge_check_call, hck, hbx, sn_all, sn_0, sn_1, sn_2, sn_3, sn_4, sn_5, rq_build, rq_st, rq_all, mp_look h.a, mp_look h.b, mp_look h.c, ho1, hr1, ht1, cond_true, cond_false, ex0 _ hvo, ex0 _ hvr, ex1, own_id, lit_see, judge_known_see.j0, judge_known_see.j1, n_bind, n_map, getL_0, getL_1, getL_2, getL_3, getL_4, getL_5, getL_6, getL_7, getL_8, getL_9, getL_10, getL_11, getL_12, condV_t, condV_f, guardV_tt, guardV_ff, guardV_tf, guardV_ft, guardV_u, apick_t, apick_f, exV_exit, exV_ret, lookE_same, joinK_eq, seqA_n, seqA_e, seqA_r, e_add, e_sub, e_mul, e_eql, e_neq, e_lss, e_leq, e_gtr, e_geq, e_conv, e_not, e_neg, and_guard, or_guard, retV]
    rfl
  | false =>
  have hk1n : ¬ x.kind = 1 := by simpa using hk1
  cases hlo : lookR (x.client, x.req) K.ops with
  | none =>
    have e : seeP K x = (5, K) := by unfold seeP; rw [if_neg hgn, if_neg htn, if_neg hk1n, hlo]
    rw [e]
    refine ⟨t, judge_known_see_of rfl ?_, stay⟩
    have hs : (lookR (x.client, x.req) K.ops).isSome = false := by rw [hlo]; rfl
    rw [hs] at ho1 ht
    unfold judge_known_see
    simp only [z0, ht, hk1, Bool.not_false, hN0, hN1, hN2, kn_ad, kn_nil, kn_ad0, lp_0, lp_3, lp_5, judge_check_call, hck, hbx, sn_all, sn_0, sn_1, sn_2, sn_3, sn_4, sn_5, rq_build, rq_st, rq_all, mp_look h.a, mp_look h.b, mp_look h.c, ho1, hr1, ht1, cond_true, cond_false, ex0 _ hvo, ex0 _ hvr, ex1, own_id, lit_see, judge_known_see.j0, judge_known_see.j1, n_bind, n_map, getL_0, getL_1, getL_2, getL_3, getL_4, getL_5, getL_6, getL_7, getL_8, getL_9, getL_10, getL_11, getL_12, condV_t, condV_f, guardV_tt, guardV_ff, guardV_tf, guardV_ft, guardV_u, apick_t, apick_f, exV_exit, exV_ret, lookE_same, joinK_eq, seqA_n, seqA_e, seqA_r, e_add, e_sub, e_mul, e_eql, e_neq, e_lss, e_leq, e_gtr, e_geq, e_conv, e_not, e_neg, and_guard, or_guard, retV]
    rfl
  | some l =>
  have hs : (lookR (x.client, x.req) K.ops).isSome = true := by rw [hlo]; rfl
  rw [hs] at ho1 ht
  have e0 : seeP K x = (if x.kind = 2 then
      if (lookR (x.client, x.req) K.told).isSome = true then (4, K) else (0, { K with m := apM K.m l, res := K.res ++ [((x.client, x.req), apR K.m l)] })
    else
      if ((x.code == 1) != (lookR (x.client, x.req) K.res).isSome) = true then (4, K) else
      if formB x ((lookR (x.client, x.req) K.res).getD []) = true then (11, K) else (0, { K with told := K.told ++ [((x.client, x.req), ())] })) := by unfold seeP; rw [if_neg hgn, if_neg htn, if_neg hk1n, hlo]
  rw [e0]
  cases hk2 : (x.kind == 2) with
  | true =>
    have hk2' : x.kind = 2 := by simpa using hk2
    rw [if_pos hk2']
    cases hto : (lookR (x.client, x.req) K.told).isSome with
    | true =>
      rw [if_pos rfl]
      rw [hto] at ht1 ht
      refine ⟨t, judge_known_see_of rfl ?_, stay⟩
      unfold judge_known_see
      simp only [z0, ht, hk1, hk2, Bool.not_true, hN0, hN1, hN2, kn_ad, kn_nil, kn_ad0, lp_0, lp_3, lp_5, judge_check_call, hck, hbx, sn_all, sn_0, sn_1, sn_2, sn_3, sn_4, sn_5, rq_build, rq_st, rq_all, mp_look h.a, mp_look h.b, mp_look h.c, ho1, hr1, ht1, cond_true, cond_false, ex0 _ hvo, ex0 _ hvr, ex1, own_id, lit_see, judge_known_see.j0, judge_known_see.j1, n_bind, n_map, getL_0, getL_1, getL_2, getL_3, getL_4, getL_5, getL_6, getL_7, getL_8, getL_9, getL_10, getL_11, getL_12, condV_t, condV_f, guardV_tt, guardV_ff, guardV_tf, guardV_ft, guardV_u, apick_t, apick_f, exV_exit, exV_ret, lookE_same, joinK_eq, seqA_n, seqA_e, seqA_r, e_add, e_sub, e_mul, e_eql, e_neq, e_lss, e_leq, e_gtr, e_geq, e_conv, e_not, e_neg, and_guard, or_guard, retV]
      rfl
    | false =>
      rw [if_neg (by simp)]
      rw [hto] at ht1 ht
      have hnr : lookR (x.client, x.req) K.res = none := none_of (by unfold twiceP at ht; rw [hk1, hk2] at ht; simpa using ht)
      have hm := lookR_mem hlo
      obtain ⟨a1, a2⟩ := hk.ops _ hm
      simp only at a1 a2
      have hroom := hk.room hi
      have hap := t_apply h.m.list (list_ext h.ext (ho2 l hlo)) (by omega) (by omega)
      rw [if_pos (apE_join hk.val a1)] at hap
      obtain ⟨a, rr, t1, g1, g2, g3, g4⟩ := hap
      have hl4 : s0.heap.length + 4 ≤ t.heap.length := by have := (List.getElem?_eq_some_iff.1 h.k).1; omega
      have h1 := h.later g4
      obtain ⟨t2, t3, t4, q1, q2, q3, q4, q5, q6, q7⟩ := h1.addRes (r := (x.client, x.req)) (g2.mono hl4) (g3.mono hl4) hnr
      have hN1' : aload false 1 (.pointer (some ⟨s0.heap.length + 3, 1, none⟩)) t1 = some (.map (some (s0.heap.length + 1))) := kn_ld h1.k rfl
      have hk3 : (x.kind == 3) = false := by rw [hk2']; rfl
      have ea2 : aextract 1 (.tuple #[.slice none 0 0, goInt cb]) = some (goInt cb) := rfl
      refine ⟨t4, judge_known_see_of rfl ?_, q7⟩
      unfold judge_known_see
      simp only [z0, ht, hk1, hk2, hk3, Bool.not_true, hN3, op_Apply_call, g1, y3_0 g2.istup, y3_1 g3.istup, y3_2, hN1', q1, own_ok q2, q3, own_ok q4, ea2, q5, own_ok q6, hN0, hN1, hN2, kn_ad, kn_nil, kn_ad0, lp_0, lp_3, lp_5, judge_check_call, hck, hbx, sn_all, sn_0, sn_1, sn_2, sn_3, sn_4, sn_5, rq_build, rq_st, rq_all, mp_look h.a, mp_look h.b, mp_look h.c, ho1, hr1, ht1, cond_true, cond_false, ex0 _ hvo, ex0 _ hvr, ex1, own_id, lit_see, judge_known_see.j0, judge_known_see.j1, n_bind, n_map, getL_0, getL_1, getL_2, getL_3, getL_4, getL_5, getL_6, getL_7, getL_8, getL_9, getL_10, getL_11, getL_12, condV_t, condV_f, guardV_tt, guardV_ff, guardV_tf, guardV_ft, guardV_u, apick_t, apick_f, exV_exit, exV_ret, lookE_same, joinK_eq, seqA_n, seqA_e, seqA_r, e_add, e_sub, e_mul, e_eql, e_neq, e_lss, e_leq, e_gtr, e_geq, e_conv, e_not, e_neg, and_guard, or_guard, retV]
      rfl
  | false =>
    have hk2n : ¬ x.kind = 2 := by simpa using hk2
    rw [if_neg hk2n]
    have hk3 : (x.kind == 3) = true ∧ ((x.code == 1) = true ∨ ((x.code == 1) = false ∧ (x.code == 2) = true)) := by
      unfold goodS at hg
      rw [hk1, hk2] at hg
      cases c3 : (x.kind == 3) with
      | false => rw [c3] at hg; simp at hg
      | true =>
        rw [c3] at hg
        simp only [Bool.false_eq_true, if_false, if_true, Bool.and_eq_true, Bool.or_eq_true] at hg
        refine ⟨rfl, ?_⟩
        cases c1 : (x.code == 1) with
        | true => exact .inl rfl
        | false =>
          rw [c1] at hg
          exact .inr ⟨rfl, hg.2.resolve_left (by simp)⟩
    obtain ⟨hk3, hcd⟩ := hk3
    have ne_b : ∀ (o1 o2 : Operand) (a b : Bool), abin Try.prog .neq 4 o1 o2 (.bool a) (.bool b) = some (.bool (a != b)) := ne_bool
    cases hto : ((x.code == 1) != (lookR (x.client, x.req) K.res).isSome) with
    | true =>
      rw [if_pos rfl]
      refine ⟨t, judge_known_see_of rfl ?_, stay⟩
      unfold judge_known_see
      simp only [z0, ht, hk1, hk2, hk3, ne_b, hto, Bool.not_true, hN0, hN1, hN2, kn_ad, kn_nil, kn_ad0, lp_0, lp_3, lp_5, judge_check_call, hck, hbx, sn_all, sn_0, sn_1, sn_2, sn_3, sn_4, sn_5, rq_build, rq_st, rq_all, mp_look h.a, mp_look h.b, mp_look h.c, ho1, hr1, ht1, cond_true, cond_false, ex0 _ hvo, ex0 _ hvr, ex1, own_id, lit_see, judge_known_see.j0, judge_known_see.j1, n_bind, n_map, getL_0, getL_1, getL_2, getL_3, getL_4, getL_5, getL_6, getL_7, getL_8, getL_9, getL_10, getL_11, getL_12, condV_t, condV_f, guardV_tt, guardV_ff, guardV_tf, guardV_ft, guardV_u, apick_t, apick_f, exV_exit, exV_ret, lookE_same, joinK_eq, seqA_n, seqA_e, seqA_r, e_add, e_sub, e_mul, e_eql, e_neq, e_lss, e_leq, e_gtr, e_geq, e_conv, e_not, e_neg, and_guard, or_guard, retV]
      rfl
    | false =>
      rw [if_neg (by simp)]
      have hrl : ((lookR (x.client, x.req) K.res).getD []).length < 140737488355328 ∧ ∀ y ∈ (lookR (x.client, x.req) K.res).getD [], y.2.2.length < 140737488355328 := by
        cases e : lookR (x.client, x.req) K.res with
        | none => exact ⟨by simp, fun y hy => (by cases hy)⟩
        | some q =>
          obtain ⟨b1, b2⟩ := hk.res _ (lookR_mem e)
          simp only [Option.getD_some]
          exact ⟨by simp only at b1; omega, fun y hy => by have := b2 y hy; omega⟩
      have hsm := k_sameJ hr2 hrt hrl.1 hrl.2
      have hlen : alenV (.slice 82) r t = some (.int .i64 ((x.res.length : Nat) : Int)) := by
        obtain ⟨q, hq, hc, _⟩ := hrt
        rw [cells_alen hc, ← hq, List.length_map]
      have hgt : decide (((x.res.length : Nat) : Int) > 0) = decide (0 < x.res.length) := by
        by_cases c : 0 < x.res.length
        · rw [decide_eq_true c, decide_eq_true (by omega)]
        · rw [decide_eq_false c, decide_eq_false (by omega)]
      cases hf : formB x ((lookR (x.client, x.req) K.res).getD []) with
      | true =>
        rw [if_pos rfl]
        refine ⟨t, judge_known_see_of rfl ?_, stay⟩
        rcases hcd with c1 | ⟨c1, c2⟩
        · unfold formB at hf
          rw [c1, if_pos rfl] at hf
          rw [c1] at hto
          unfold judge_known_see
          simp only [z0, ht, hk1, hk2, hk3, c1, ne_b, hto, judge_same_call, hsm, hf, Bool.not_true, hN0, hN1, hN2, kn_ad, kn_nil, kn_ad0, lp_0, lp_3, lp_5, judge_check_call, hck, hbx, sn_all, sn_0, sn_1, sn_2, sn_3, sn_4, sn_5, rq_build, rq_st, rq_all, mp_look h.a, mp_look h.b, mp_look h.c, ho1, hr1, ht1, cond_true, cond_false, ex0 _ hvo, ex0 _ hvr, ex1, own_id, lit_see, judge_known_see.j0, judge_known_see.j1, n_bind, n_map, getL_0, getL_1, getL_2, getL_3, getL_4, getL_5, getL_6, getL_7, getL_8, getL_9, getL_10, getL_11, getL_12, condV_t, condV_f, guardV_tt, guardV_ff, guardV_tf, guardV_ft, guardV_u, apick_t, apick_f, exV_exit, exV_ret, lookE_same, joinK_eq, seqA_n, seqA_e, seqA_r, e_add, e_sub, e_mul, e_eql, e_neq, e_lss, e_leq, e_gtr, e_geq, e_conv, e_not, e_neg, and_guard, or_guard, retV]
          rfl
        · unfold formB at hf
          rw [c1, if_neg (by simp)] at hf
          rw [c1] at hto
          unfold judge_known_see
          simp only [z0, ht, hk1, hk2, hk3, c1, c2, ne_b, hto, hlen, hgt, hf, Bool.not_true, hN0, hN1, hN2, kn_ad, kn_nil, kn_ad0, lp_0, lp_3, lp_5, judge_check_call, hck, hbx, sn_all, sn_0, sn_1, sn_2, sn_3, sn_4, sn_5, rq_build, rq_st, rq_all, mp_look h.a, mp_look h.b, mp_look h.c, ho1, hr1, ht1, cond_true, cond_false, ex0 _ hvo, ex0 _ hvr, ex1, own_id, lit_see, judge_known_see.j0, judge_known_see.j1, n_bind, n_map, getL_0, getL_1, getL_2, getL_3, getL_4, getL_5, getL_6, getL_7, getL_8, getL_9, getL_10, getL_11, getL_12, condV_t, condV_f, guardV_tt, guardV_ff, guardV_tf, guardV_ft, guardV_u, apick_t, apick_f, exV_exit, exV_ret, lookE_same, joinK_eq, seqA_n, seqA_e, seqA_r, e_add, e_sub, e_mul, e_eql, e_neq, e_lss, e_leq, e_gtr, e_geq, e_conv, e_not, e_neg, and_guard, or_guard, retV]
          rfl
      | false =>
        rw [if_neg (by simp)]
        have hnt : lookR (x.client, x.req) K.told = none := none_of (by unfold twiceP at ht; rw [hk1, hk2, hk3] at ht; simpa using ht)
        have hup := mp_new h.c h.rc hnt (v := .bool true) rfl
        refine ⟨_, judge_known_see_of rfl ?_, h.addTold (r := (x.client, x.req))⟩
        rcases hcd with c1 | ⟨c1, c2⟩
        · unfold formB at hf
          rw [c1, if_pos rfl] at hf
          rw [c1] at hto
          have c2 : (x.code == 2) = false := by
            have : x.code = 1 := by simpa using c1
            rw [this]
            rfl
          unfold judge_known_see
          simp only [z0, ht, hk1, hk2, hk3, c1, c2, ne_b, hto, judge_same_call, hsm, hf, hup, own_ok (Nat.le_of_eq put_len.symm), Bool.not_true, hN0, hN1, hN2, kn_ad, kn_nil, kn_ad0, lp_0, lp_3, lp_5, judge_check_call, hck, hbx, sn_all, sn_0, sn_1, sn_2, sn_3, sn_4, sn_5, rq_build, rq_st, rq_all, mp_look h.a, mp_look h.b, mp_look h.c, ho1, hr1, ht1, cond_true, cond_false, ex0 _ hvo, ex0 _ hvr, ex1, own_id, lit_see, judge_known_see.j0, judge_known_see.j1, n_bind, n_map, getL_0, getL_1, getL_2, getL_3, getL_4, getL_5, getL_6, getL_7, getL_8, getL_9, getL_10, getL_11, getL_12, condV_t, condV_f, guardV_tt, guardV_ff, guardV_tf, guardV_ft, guardV_u, apick_t, apick_f, exV_exit, exV_ret, lookE_same, joinK_eq, seqA_n, seqA_e, seqA_r, e_add, e_sub, e_mul, e_eql, e_neq, e_lss, e_leq, e_gtr, e_geq, e_conv, e_not, e_neg, and_guard, or_guard, retV]
          rfl
        · unfold formB at hf
          rw [c1, if_neg (by simp)] at hf
          rw [c1] at hto
          unfold judge_known_see
          simp only [z0, ht, hk1, hk2, hk3, c1, c2, ne_b, hto, hlen, hgt, hf, hup, own_ok (Nat.le_of_eq put_len.symm), Bool.not_true, hN0, hN1, hN2, kn_ad, kn_nil, kn_ad0, lp_0, lp_3, lp_5, judge_check_call, hck, hbx, sn_all, sn_0, sn_1, sn_2, sn_3, sn_4, sn_5, rq_build, rq_st, rq_all, mp_look h.a, mp_look h.b, mp_look h.c, ho1, hr1, ht1, cond_true, cond_false, ex0 _ hvo, ex0 _ hvr, ex1, own_id, lit_see, judge_known_see.j0, judge_known_see.j1, n_bind, n_map, getL_0, getL_1, getL_2, getL_3, getL_4, getL_5, getL_6, getL_7, getL_8, getL_9, getL_10, getL_11, getL_12, condV_t, condV_f, guardV_tt, guardV_ff, guardV_tf, guardV_ft, guardV_u, apick_t, apick_f, exV_exit, exV_ret, lookE_same, joinK_eq, seqA_n, seqA_e, seqA_r, e_add, e_sub, e_mul, e_eql, e_neq, e_lss, e_leq, e_gtr, e_geq, e_conv, e_not, e_neg, and_guard, or_guard, retV]
          rfl

end Go.Proofs.Ytccindbiodofmaa.Ab

/- All that are seen, one after another; Judge and Replay. -/
namespace Go.Proofs.Ytccindbiodofmaa.Ab
open Go
set_option maxRecDepth 100000

def judgeP : List Sn → Nat → Kn → Int × Int × Kn
  | [], _, K => (-1, 0, K)
  | x :: l, i, K => if (seeP K x).1 = 0 then judgeP l (i + 1) (seeP K x).2 else ((i : Int), (seeP K x).1, (seeP K x).2)
abbrev pK (s : St) : Value := .pointer (some ⟨s.heap.length + 3, 0, none⟩)
def fresh4 (s : St) : St := (((s.push (.map [] 0)).push (.map [] 0)).push (.map [] 0)).push (.row 0 (kCells s.heap.length (.slice none 0 0)) .act)
theorem fresh_ks (s : St) : KS s (fresh4 s) Kn.nil [] [] [] 0 0 0 (.slice none 0 0) := by
  have e0 : (fresh4 s).heap = s.heap ++ [.map [] 0, .map [] 0, .map [] 0, .row 0 (kCells s.heap.length (.slice none 0 0)) .act] := by
    simp [fresh4, St.push]
  refine ⟨⟨by rw [e0]; simp, fun b hb => by rw [e0, List.getElem?_append_left hb]⟩, ?_, ?_, ?_, ?_, .inl ⟨rfl, rfl⟩, trivial, trivial, trivial, fun e he => (by cases he)⟩
  · rw [e0, List.getElem?_append_right (Nat.le_refl _), Nat.sub_self]; rfl
  · rw [e0, List.getElem?_append_right (by omega), show s.heap.length + 1 - s.heap.length = 1 by omega]; rfl
  · rw [e0, List.getElem?_append_right (by omega), show s.heap.length + 2 - s.heap.length = 2 by omega]; rfl
  · rw [e0, List.getElem?_append_right (by omega), show s.heap.length + 3 - s.heap.length = 3 by omega]; rfl
theorem none_run (s : St) : (run Try.prog (libL libT) hints) 18 [] s = some (pK s, fresh4 s) := by
  refine judge_none_of rfl ?_
  have hb : ∀ a b c : Nat, abuild Try.prog 61 [(0, .map (some a)), (1, .map (some b)), (2, .map (some c))] = some (.agg #[.map (some a), .map (some b), .map (some c), .slice none 0 0]) := fun a b c => by kernel_rfl
  have l1 : ∀ B : Blk, (s.push B).heap.length = s.heap.length + 1 := fun B => by simp [St.push]
  have l2 : ∀ B C : Blk, ((s.push B).push C).heap.length = s.heap.length + 2 := fun B C => by simp [St.push]
  have l3 : ∀ B C D : Blk, (((s.push B).push C).push D).heap.length = s.heap.length + 3 := fun B C D => by simp [St.push]
  have ha : ∀ a b c : Nat, (cellsV (.agg #[.map (some a), .map (some b), .map (some c), .slice none 0 0])).all isLeaf = true := fun a b c => rfl
  unfold judge_none
  simp only [amakeMap, l1, l2, hb, anew, ha, if_true, l3, n_bind, n_map, getL_0, getL_1, getL_2, getL_3, getL_4, getL_5, getL_6, getL_7, getL_8, getL_9, getL_10, getL_11, getL_12, condV_t, condV_f, guardV_tt, guardV_ff, guardV_tf, guardV_ft, guardV_u, apick_t, apick_f, exV_exit, exV_ret, lookE_same, joinK_eq, seqA_n, seqA_e, seqA_r, e_add, e_sub, e_mul, e_eql, e_neq, e_lss, e_leq, e_gtr, e_geq, e_conv, e_not, e_neg, and_guard, or_guard, retV]
  rfl
theorem begin_run {s0 t : St} {K : Kn} (h : KSt s0 t K) : ∃ t', (run Try.prog (libL libT) hints) 27 [pK s0] t = some (.tuple #[], t') ∧ KSt s0 t' Kn.nil := by
  obtain ⟨ea, eb, ec, ca, cb, cc, mv, h⟩ := h
  have hlt := (List.getElem?_eq_some_iff.1 h.k).1
  have a0 : aload false 1 (.pointer (some ⟨s0.heap.length + 3, 0, none⟩)) t = some (.map (some s0.heap.length)) := kn_ld h.k rfl
  have c0 : aclearM (.map (some s0.heap.length)) t = some (t.putB s0.heap.length (.map [] ca)) := by simp only [aclearM, h.a]
  generalize ht1 : t.putB s0.heap.length (.map [] ca) = t1 at c0
  have n1 : ∀ b, b ≠ s0.heap.length → t1.heap[b]? = t.heap[b]? := fun b hb => by rw [← ht1]; exact put_ne hb
  have a1 : aload false 1 (.pointer (some ⟨s0.heap.length + 3, 1, none⟩)) t1 = some (.map (some (s0.heap.length + 1))) := kn_ld (by rw [n1 _ (by omega)]; exact h.k) rfl
  have c1 : aclearM (.map (some (s0.heap.length + 1))) t1 = some (t1.putB (s0.heap.length + 1) (.map [] cb)) := by simp only [aclearM, n1 (s0.heap.length + 1) (by omega), h.b]
  generalize ht2 : t1.putB (s0.heap.length + 1) (.map [] cb) = t2 at c1
  have n2 : ∀ b, b ≠ s0.heap.length + 1 → t2.heap[b]? = t1.heap[b]? := fun b hb => by rw [← ht2]; exact put_ne hb
  have a2 : aload false 1 (.pointer (some ⟨s0.heap.length + 3, 2, none⟩)) t2 = some (.map (some (s0.heap.length + 2))) := kn_ld (by rw [n2 _ (by omega), n1 _ (by omega)]; exact h.k) rfl
  have c2 : aclearM (.map (some (s0.heap.length + 2))) t2 = some (t2.putB (s0.heap.length + 2) (.map [] cc)) := by simp only [aclearM, n2 (s0.heap.length + 2) (by omega), n1 (s0.heap.length + 2) (by omega), h.c]
  generalize ht3 : t2.putB (s0.heap.length + 2) (.map [] cc) = t3 at c2
  have n3 : ∀ b, b ≠ s0.heap.length + 2 → t3.heap[b]? = t2.heap[b]? := fun b hb => by rw [← ht3]; exact put_ne hb
  have g1 : t1.heap.length = t.heap.length := by rw [← ht1]; exact put_len
  have g2 : t2.heap.length = t.heap.length := by rw [← ht2, put_len]; exact g1
  have g3 : t3.heap.length = t.heap.length := by rw [← ht3, put_len]; exact g2
  have c3 : astore 1 (.pointer (some ⟨s0.heap.length + 3, 3, none⟩)) (.slice none 0 0) t3 = some (t3.putB (s0.heap.length + 3) (.row 0 (kCells s0.heap.length (.slice none 0 0)) .act)) := kn_st (mv := mv) (by rw [n3 _ (by omega), n2 _ (by omega), n1 _ (by omega)]; exact h.k) rfl rfl rfl
  refine ⟨t3.putB (s0.heap.length + 3) (.row 0 (kCells s0.heap.length (.slice none 0 0)) .act), judge_known_begin_of rfl ?_, [], [], [], ca, cb, cc, .slice none 0 0, ?_⟩
  · unfold judge_known_begin pK
    simp only [kn_nil, kn_ad0, kn_ad, a0, c0, a1, c1, a2, c2, c3, n_bind, n_map, getL_0, getL_1, getL_2, getL_3, getL_4, getL_5, getL_6, getL_7, getL_8, getL_9, getL_10, getL_11, getL_12, condV_t, condV_f, guardV_tt, guardV_ff, guardV_tf, guardV_ft, guardV_u, apick_t, apick_f, exV_exit, exV_ret, lookE_same, joinK_eq, seqA_n, seqA_e, seqA_r, e_add, e_sub, e_mul, e_eql, e_neq, e_lss, e_leq, e_gtr, e_geq, e_conv, e_not, e_neg, and_guard, or_guard, retV]
    rfl
  · refine ⟨?_, ?_, ?_, ?_, ?_, .inl ⟨rfl, rfl⟩, trivial, trivial, trivial, fun e he => (by cases he)⟩
    · refine Ext.put ?_ (by omega)
      rw [← ht3, ← ht2, ← ht1]
      exact ((h.ext.put (Nat.le_refl _)).put (by omega)).put (by omega)
    · rw [put_ne (by omega), n3 _ (by omega), n2 _ (by omega), ← ht1]; exact putB_get (by omega)
    · rw [put_ne (by omega), n3 _ (by omega), ← ht2]; exact putB_get (by omega)
    · rw [put_ne (by omega), ← ht3]; exact putB_get (by omega)
    · exact putB_get (by omega)
theorem judge_loop {s0 : St} {v : Value} {l : List Sn} (hv : SnL s0 v l) (hl : l.length ≤ 1759218604391) : ∀ (rest : List Sn) (i : Nat) (t : St) (K : Kn), l.drop i = rest → i ≤ l.length → KSt s0 t K → KOk K i →
    ∃ t', loopL (judge_known_judge.b0 (run Try.prog (libL libT) hints)) [pK s0, v, .int .i64 ((l.length : Nat) : Int), .int .i64 (i : Int)] t = (if (judgeP rest i K).2.1 = 0 then some (.exit 0, [], t') else some (.ret, [.int .i64 (judgeP rest i K).1, .int .i64 (judgeP rest i K).2.1], t')) ∧ KSt s0 t' (judgeP rest i K).2.2 := by
  intro rest
  induction rest with
  | nil =>
    intro i t K hi hle hs hk
    have hge := List.drop_eq_nil_iff.1 hi
    have h1 : decide ((i : Int) < ((l.length : Nat) : Int)) = false := by simp; omega
    refine ⟨t, ?_, hs⟩
    rw [loopL_eq]
    simp only [judge_known_judge.b0, h1, judgeP, if_true, n_bind, n_map, getL_0, getL_1, getL_2, getL_3, getL_4, getL_5, getL_6, getL_7, getL_8, getL_9, getL_10, getL_11, getL_12, condV_t, condV_f, guardV_tt, guardV_ff, guardV_tf, guardV_ft, guardV_u, apick_t, apick_f, exV_exit, exV_ret, lookE_same, joinK_eq, seqA_n, seqA_e, seqA_r, e_add, e_sub, e_mul, e_eql, e_neq, e_lss, e_leq, e_gtr, e_geq, e_conv, e_not, e_neg, and_guard, or_guard]
  | cons x rest ih =>
    intro i t K hi hle hs hk
    obtain ⟨hlt, he, hd⟩ := drop_get hi
    have h1 : decide ((i : Int) < ((l.length : Nat) : Int)) = true := by simp; omega
    obtain ⟨ea, eb, ec, ca, cb, cc, mv, hs⟩ := hs
    obtain ⟨p, o, r, a1, a2, _, a3, a4, a5⟩ := (hv.ext hs.ext).at hlt
    obtain ⟨_, _, _, b1, b2, _, b3, b4, b5⟩ := hv.at hlt
    rw [a1] at b1
    cases b1
    have hsame := hs.ext
    -- the same cells, before and now
    have heq : aload true 6 p t = aload true 6 p s0 := by
      obtain ⟨css, h3, h4⟩ := hv
      obtain ⟨q, i0, _, j0⟩ := cells_at h3 (by decide) (i := i) (by rw [(sn_flat h4).1]; exact Nat.mul_le_mul_right _ hlt) (k := .i64)
      obtain ⟨q', i0', _, j0'⟩ := cells_at (hs.ext.cells h3) (by decide) (i := i) (by rw [(sn_flat h4).1]; exact Nat.mul_le_mul_right _ hlt) (k := .i64)
      rw [a1] at i0 i0'
      cases i0
      cases i0'
      rw [j0, j0']
    rw [heq, b2, he] at a2
    rw [he] at b3 b4 b5
    cases a2
    obtain ⟨t1, g1, g2⟩ := see_run hs hk (by omega) b3 b5 b4
    have hk1 := hk.see (by omega) x
    have ha : aload true 6 p t = some (snV x o r) := by rw [heq, b2, he]
    by_cases c : (seeP K x).1 = 0
    · have e : judgeP (x :: rest) i K = judgeP rest (i + 1) (seeP K x).2 := by rw [judgeP, if_pos c]
      rw [e]
      obtain ⟨t2, k1, k2⟩ := ih (i + 1) t1 _ hd (by omega) g2 hk1
      refine ⟨t2, ?_, k2⟩
      have z0 : ((0 : Int) != 0) = false := rfl
      rw [loopL_eq]
      simp only [judge_known_judge.b0, h1, a1, ha, judge_known_see_call, g1, c, z0, inc_i64 (show i < 140737488355328 by omega), n_bind, n_map, getL_0, getL_1, getL_2, getL_3, getL_4, getL_5, getL_6, getL_7, getL_8, getL_9, getL_10, getL_11, getL_12, condV_t, condV_f, guardV_tt, guardV_ff, guardV_tf, guardV_ft, guardV_u, apick_t, apick_f, exV_exit, exV_ret, lookE_same, joinK_eq, seqA_n, seqA_e, seqA_r, e_add, e_sub, e_mul, e_eql, e_neq, e_lss, e_leq, e_gtr, e_geq, e_conv, e_not, e_neg, and_guard, or_guard]
      exact k1
    · have e : judgeP (x :: rest) i K = ((i : Int), (seeP K x).1, (seeP K x).2) := by rw [judgeP, if_neg c]
      rw [e]
      refine ⟨t1, ?_, g2⟩
      rw [if_neg c, loopL_eq]
      simp only [judge_known_judge.b0, h1, a1, ha, judge_known_see_call, g1, ne0 c, n_bind, n_map, getL_0, getL_1, getL_2, getL_3, getL_4, getL_5, getL_6, getL_7, getL_8, getL_9, getL_10, getL_11, getL_12, condV_t, condV_f, guardV_tt, guardV_ff, guardV_tf, guardV_ft, guardV_u, apick_t, apick_f, exV_exit, exV_ret, lookE_same, joinK_eq, seqA_n, seqA_e, seqA_r, e_add, e_sub, e_mul, e_eql, e_neq, e_lss, e_leq, e_gtr, e_geq, e_conv, e_not, e_neg, and_guard, or_guard]
theorem all_run2 {s0 t : St} {v : Value} {l : List Sn} {K : Kn} (hv : SnL s0 v l) (hl : l.length ≤ 1759218604391) (hs : KSt s0 t K) : ∃ t', (run Try.prog (libL libT) hints) 19 [pK s0, v] t = some (.tuple #[.int .i64 (judgeP l 0 Kn.nil).1, .int .i64 (judgeP l 0 Kn.nil).2.1], t') ∧ KSt s0 t' (judgeP l 0 Kn.nil).2.2 := by
  obtain ⟨t1, g1, g2⟩ := begin_run hs
  obtain ⟨t2, k1, k2⟩ := judge_loop hv hl l 0 t1 _ rfl (Nat.zero_le _) g2 KOk.nil
  rw [show ((0 : Nat) : Int) = 0 from rfl] at k1
  refine ⟨t2, judge_known_judge_of rfl ?_, k2⟩
  have hlen : ∀ e s2, alenV (.slice e) v s2 = some (.int .i64 ((l.length : Nat) : Int)) := fun e s2 => hv.len
  have hm1 : ∀ (l : List Sn) (i : Nat) (K : Kn), (judgeP l i K).2.1 = 0 → (judgeP l i K).1 = -1 := by
    intro l
    induction l with
    | nil => intro i K h; rfl
    | cons x l ih =>
      intro i K h
      unfold judgeP at h ⊢
      split at h
      · rename_i c; rw [if_pos c]; exact ih _ _ h
      · rename_i c; exact absurd h c
  by_cases c : (judgeP l 0 Kn.nil).2.1 = 0
  · rw [if_pos c] at k1
    rw [hm1 _ _ _ c, c]
    unfold judge_known_judge
    simp only [judge_known_begin_call, g1, hlen, k1, n_bind, n_map, getL_0, getL_1, getL_2, getL_3, getL_4, getL_5, getL_6, getL_7, getL_8, getL_9, getL_10, getL_11, getL_12, condV_t, condV_f, guardV_tt, guardV_ff, guardV_tf, guardV_ft, guardV_u, apick_t, apick_f, exV_exit, exV_ret, lookE_same, joinK_eq, seqA_n, seqA_e, seqA_r, e_add, e_sub, e_mul, e_eql, e_neq, e_lss, e_leq, e_gtr, e_geq, e_conv, e_not, e_neg, and_guard, or_guard, retV]
    rfl
  · rw [if_neg c] at k1
    unfold judge_known_judge
    simp only [judge_known_begin_call, g1, hlen, k1, n_bind, n_map, getL_0, getL_1, getL_2, getL_3, getL_4, getL_5, getL_6, getL_7, getL_8, getL_9, getL_10, getL_11, getL_12, condV_t, condV_f, guardV_tt, guardV_ff, guardV_tf, guardV_ft, guardV_u, apick_t, apick_f, exV_exit, exV_ret, lookE_same, joinK_eq, seqA_n, seqA_e, seqA_r, e_add, e_sub, e_mul, e_eql, e_neq, e_lss, e_leq, e_gtr, e_geq, e_conv, e_not, e_neg, and_guard, or_guard, retV]
    rfl
/-- what Judge says -/
def judP (l : List Sn) : Int × Int := ((judgeP l 0 Kn.nil).1, (judgeP l 0 Kn.nil).2.1)
def mapP (l : List Sn) : List Rg := (judgeP l 0 Kn.nil).2.2.m
theorem Replay_run {s : St} {v : Value} {l : List Sn} (hv : SnL s v l) (hl : l.length ≤ 1759218604391) : ∃ m t, (run Try.prog (libL libT) hints) 11 [v] s = some (.tuple #[m, .int .i64 (judP l).2], t) ∧ Ext s.heap.length s t ∧ OwnC prC s.heap.length t m (if (judP l).2 = 0 then mapP l else []) := by
  obtain ⟨t1, g1, g2⟩ := all_run2 hv hl ⟨_, _, _, _, _, _, _, fresh_ks s⟩
  obtain ⟨_, _, _, _, _, _, mv, g2⟩ := g2
  have x0 : ∀ a b : Int, aextract 0 (.tuple #[.int .i64 a, .int .i64 b]) = some (.int .i64 a) := fun a b => rfl
  have x1 : ∀ a b : Int, aextract 1 (.tuple #[.int .i64 a, .int .i64 b]) = some (.int .i64 b) := fun a b => rfl
  by_cases c : (judgeP l 0 Kn.nil).2.1 = 0
  · have hm : aload false 1 (.pointer (some ⟨s.heap.length + 3, 3, none⟩)) t1 = some mv := kn_ld g2.k rfl
    have z0 : ((0 : Int) != 0) = false := rfl
    refine ⟨mv, t1, judge_Replay_of rfl ?_, g2.ext, ?_⟩
    · unfold judge_Replay judP
      simp only [judge_none_call, none_run, judge_known_judge_call, g1, x0, x1, c, z0, kn_nil, kn_ad, hm, n_bind, n_map, getL_0, getL_1, getL_2, getL_3, getL_4, getL_5, getL_6, getL_7, getL_8, getL_9, getL_10, getL_11, getL_12, condV_t, condV_f, guardV_tt, guardV_ff, guardV_tf, guardV_ft, guardV_u, apick_t, apick_f, exV_exit, exV_ret, lookE_same, joinK_eq, seqA_n, seqA_e, seqA_r, e_add, e_sub, e_mul, e_eql, e_neq, e_lss, e_leq, e_gtr, e_geq, e_conv, e_not, e_neg, and_guard, or_guard, retV, List.all_cons, g2.m.notup]
      rfl
    · rw [if_pos (show (judP l).2 = 0 from c)]
      exact g2.m.mono (by omega)
  · refine ⟨.slice none 0 0, t1, judge_Replay_of rfl ?_, g2.ext, ?_⟩
    · unfold judge_Replay judP
      simp only [judge_none_call, none_run, judge_known_judge_call, g1, x0, x1, ne0 c, n_bind, n_map, getL_0, getL_1, getL_2, getL_3, getL_4, getL_5, getL_6, getL_7, getL_8, getL_9, getL_10, getL_11, getL_12, condV_t, condV_f, guardV_tt, guardV_ff, guardV_tf, guardV_ft, guardV_u, apick_t, apick_f, exV_exit, exV_ret, lookE_same, joinK_eq, seqA_n, seqA_e, seqA_r, e_add, e_sub, e_mul, e_eql, e_neq, e_lss, e_leq, e_gtr, e_geq, e_conv, e_not, e_neg, and_guard, or_guard, retV]
      rfl
    · rw [if_neg (show ¬ (judP l).2 = 0 from c)]
      exact .inl ⟨rfl, rfl⟩

end Go.Proofs.Ytccindbiodofmaa.Ab

/- What is said of lists that are seen: beginnings. -/
namespace Go.Proofs.Ytccindbiodofmaa.Ab
open Go

/-! ### A beginning, in memory -/
theorem sn_take {s : St} : ∀ {l : List Sn} {css : List (List Value)} (c : Nat), All2 (SnRel s) l css → css.flatten.take (c * 6) = (css.take c).flatten ∧ All2 (SnRel s) (l.take c) (css.take c)
  | [], [], c, _ => by simp [All2]
  | a :: l, d :: css, 0, h => by simp [All2]
  | a :: l, d :: css, c + 1, ⟨h1, h2⟩ => by
    obtain ⟨g1, g2⟩ := sn_take c h2
    obtain ⟨o, r, rfl, _⟩ := id h1
    refine ⟨?_, h1, g2⟩
    rw [List.take_succ_cons, List.flatten_cons, List.flatten_cons, ← g1, Nat.add_mul, Nat.one_mul, Nat.add_comm, show 6 + c * 6 = (snCells a o r).length + c * 6 from rfl, List.take_length_add_append]
  | [], _ :: _, _, h => h.elim
  | _ :: _, [], _, h => h.elim
theorem SnL.take {s : St} {v : Value} {l : List Sn} (h : SnL s v l) {c : Nat} (hc : c ≤ l.length) : ∃ u, asliceV 6 v none (some (.int .i64 (c : Int))) none = some u ∧ SnL s u (l.take c) := by
  obtain ⟨css, h1, h2⟩ := h
  obtain ⟨a, len, cap, rfl, h3⟩ := cellsOf_len h1
  rw [(sn_flat h2).1] at h3
  have hl : len = l.length := by omega
  obtain ⟨u, e1, e2⟩ := cells_slice h1 (lo := none) (hi := some (.int .i64 (c : Int))) (mx := none) (i := 0) (j := c) rfl (by simp [abound]) (Nat.zero_le _) (by omega) (.inl rfl)
  obtain ⟨g1, g2⟩ := sn_take c h2
  refine ⟨u, e1, css.take c, ?_, g2⟩
  rw [e2, Nat.zero_mul, List.drop_zero, Nat.sub_zero, g1]

end Go.Proofs.Ytccindbiodofmaa.Ab

/- Lists of one's own of what is seen. -/
namespace Go.Proofs.Ytccindbiodofmaa.Ab
open Go
set_option maxRecDepth 100000

theorem all2_app {α β : Type} {R : α → β → Prop} : ∀ {a c : List α} {b d : List β}, All2 R a b → All2 R c d → All2 R (a ++ c) (b ++ d)
  | [], _, [], _, _, h => h
  | _ :: _, _, _ :: _, _, ⟨h1, h2⟩, h => ⟨h1, all2_app h2 h⟩
  | [], _, _ :: _, _, h, _ => h.elim
  | _ :: _, _, [], _, h, _ => h.elim
/-- a row of one's own; what they hold lies below -/
def SnOwn (s0 s : St) (v : Value) (l : List Sn) : Prop := Ext s0.heap.length s0 s ∧ ∃ css, Own s0.heap.length 6 s v css.flatten ∧ All2 (SnRel s0) l css
theorem SnOwn.list {s0 s : St} {v : Value} {l : List Sn} (h : SnOwn s0 s v l) : SnL s v l := by
  obtain ⟨hx, css, h1, h2⟩ := h
  exact ⟨css, h1.cells, h2.mono fun a c h => h.ext hx⟩
theorem SnOwn.nil {s0 s : St} (h : Ext s0.heap.length s0 s) : SnOwn s0 s (.slice none 0 0) [] := ⟨h, [], Own.nil _ _ _, trivial⟩
theorem SnOwn.ext {s0 s t : St} {v : Value} {l : List Sn} (h : SnOwn s0 s v l) (hx : Ext s.heap.length s t) : SnOwn s0 t v l := by
  obtain ⟨h0, css, h1, h2⟩ := h
  exact ⟨h0.trans (hx.less h0.1), css, h1.keep (hx.keep (B := none)) fun c hc e => (by cases e), h2⟩
theorem SnOwn.notup {s0 s : St} {v : Value} {l : List Sn} (h : SnOwn s0 s v l) : noTup v = true := by
  obtain ⟨_, css, h1, _⟩ := h
  exact h1.notup
/-- the cells of a list, to be appended -/
theorem sn_elems {s0 s : St} {v : Value} {css : List (List Value)} {l : List Sn} (h1 : cellsOf 6 v s = some css.flatten) (h2 : All2 (SnRel s0) l css) : lenV v = some l.length ∧ elemsOf 6 v s = some css.flatten ∧ css.flatten.length = l.length * 6 := by
  obtain ⟨g1, _⟩ := sn_flat h2
  obtain ⟨a, len, cap, rfl, h3⟩ := cellsOf_len h1
  rw [g1] at h3
  have : len = l.length := by omega
  subst this
  exact ⟨rfl, elems_of h1, g1⟩
theorem SnOwn.more {s0 s : St} {x y : Value} {l m : List Sn} (h : SnOwn s0 s x l) {css : List (List Value)} (h1 : cellsOf 6 y s = some css.flatten) (h2 : All2 (SnRel s0) m css) (hb : l.length + m.length ≤ 1000) : ∃ v t, aappend 6 80 x y s = some (v, t) ∧ SnOwn s0 t v (l ++ m) := by
  obtain ⟨h0, ds, g1, g2⟩ := h
  obtain ⟨e1, e2, e3⟩ := sn_elems h1 h2
  have e4 := (sn_flat g2).1
  obtain ⟨v, t, k1, k2, k3⟩ := own_append (w := 80) g1 h0.1 (by decide) (by decide) e1 e2 e3 (by rw [e3, e4]; omega)
  exact ⟨v, t, k1, h0.trans k3, ds ++ css, by rw [List.flatten_append]; exact k2, all2_app g2 h2⟩
abbrev zSn : List Value := [(.int .i64 0), (.int .i64 0), (.int .u64 0), (.int .i64 0), (.slice none 0 0), (.slice none 0 0)]
theorem sn_leafs {x : Sn} {o r : Value} (ho : isLeaf o = true) (hr : isLeaf r = true) : (cellsV (snV x o r)).all isLeaf = true := by
  rw [show cellsV (snV x o r) = [.int .i64 x.kind, .int .i64 x.client, .int .u64 x.req, .int .i64 x.code, o, r] from rfl]
  simp only [List.all_cons, ho, hr, List.all_nil, Bool.and_true]
  rfl
theorem SnOwn.add {s0 s : St} {v : Value} {l : List Sn} (h : SnOwn s0 s v l) {x : Sn} {o r : Value} (hr : SnRel s0 x (snCells x o r)) (hb : l.length ≤ 1000) : ∃ q, abuildSl 6 zSn 1 [(0, snV x o r)] s = some q ∧ ∃ v' t, aappend 6 80 v q.1 q.2 = some (v', t) ∧ SnOwn s0 t v' (l ++ [x]) := by
  obtain ⟨h0, ds, g1, g2⟩ := h
  have e4 := (sn_flat g2).1
  obtain ⟨o', r', e, q1, q2, q3⟩ := id hr
  cases e
  obtain ⟨q, a1, v', t, a2, a3, a4⟩ := own_add (w := 80) (z := zSn) (v := snV x o r) g1 h0.1 (by decide) (by decide) (by decide) rfl rfl rfl (sn_leafs (ops_leaf q1) (rdy_leaf q2)) (by rw [e4]; omega)
  refine ⟨q, a1, v', t, a2, h0.trans a4, ds ++ [snCells x o r], ?_, all2_app g2 ⟨hr, trivial⟩⟩
  rw [List.flatten_append]
  show Own _ _ _ _ (ds.flatten ++ (snCells x o r ++ []))
  rw [List.append_nil]
  exact a3
theorem SnOwn.len {s0 s s2 : St} {v : Value} {l : List Sn} (h : SnOwn s0 s v l) {e : TypeId} : alenV (.slice e) v s2 = some (.int .i64 ((l.length : Nat) : Int)) := h.list.len
/-- the last one's code is written -/
theorem SnOwn.code {s0 s : St} {v : Value} {l : List Sn} {x : Sn} (h : SnOwn s0 s v (l ++ [x])) (c : Int) (hlen : l.length < 1000) : ∃ p q t, aindexS 6 v (.int .i64 ((l.length : Nat) : Int)) = some p ∧ afieldAddr 3 p = some q ∧ astore 1 q (.int .i64 c) s = some t ∧ SnOwn s0 t v (l ++ [{ x with code := c }]) := by
  obtain ⟨h0, css, g1, g2⟩ := h
  have key : ∀ {l : List Sn} {css : List (List Value)}, All2 (SnRel s0) (l ++ [x]) css → ∃ ds o r, css = ds ++ [snCells x o r] ∧ All2 (SnRel s0) l ds ∧ SnRel s0 x (snCells x o r) := by
    intro l
    induction l with
    | nil => intro css h; cases css with
      | nil => exact h.elim
      | cons d css => cases css with
        | nil =>
          obtain ⟨h1, _⟩ := h
          obtain ⟨o, r, rfl, q⟩ := id h1
          exact ⟨[], o, r, rfl, trivial, h1⟩
        | cons => exact h.2.elim
    | cons a l ih => intro css h; cases css with
      | nil => exact h.elim
      | cons d css =>
        obtain ⟨ds, o, r, e, k1, k2⟩ := ih h.2
        exact ⟨d :: ds, o, r, by rw [e]; rfl, ⟨h.1, k1⟩, k2⟩
  obtain ⟨ds, o, r, rfl, k1, k2⟩ := key g2
  have e4 := (sn_flat k1).1
  have hfl : (ds ++ [snCells x o r]).flatten = ds.flatten ++ snCells x o r := by rw [List.flatten_append]; show _ ++ (_ ++ []) = _; rw [List.append_nil]
  rw [hfl] at g1
  rcases g1 with ⟨_, e⟩ | ⟨b, len, rfl, n1, n2, n3, n4⟩
  · exact absurd e (by simp [snCells])
  · have hl : len = l.length + 1 := by
      rw [List.length_append, e4] at n3
      have : (snCells x o r).length = 6 := rfl
      omega
    subst hl
    have hput : putCells (ds.flatten ++ snCells x o r) (l.length * 6 + 3) [.int .i64 c] = ds.flatten ++ snCells { x with code := c } o r := by
      rw [← e4]
      generalize ds.flatten = A
      unfold putCells
      rw [List.take_length_add_append, Nat.add_assoc, List.drop_length_add_append]
      simp [snCells]
    have hx : Ext s0.heap.length s0 (s.putB b (.row 6 (ds.flatten ++ snCells { x with code := c } o r) .act)) := h0.put n1
    refine ⟨.pointer (some ⟨b, l.length * 6, none⟩), .pointer (some ⟨b, l.length * 6 + 3, none⟩), s.putB b (.row 6 (ds.flatten ++ snCells { x with code := c } o r) .act), by simp [aindexS]; omega, by simp [afieldAddr], ?_, hx, ds ++ [snCells { x with code := c } o r], ?_, all2_app k1 ⟨?_, trivial⟩⟩
    · unfold astore
      have hc : cellsV (.int .i64 c) = [.int .i64 c] := rfl
      simp only [hc, writeN, n2, hput]
      have hle : l.length * 6 + 3 + [(Value.int .i64 c)].length ≤ (ds.flatten ++ snCells x o r).length := by rw [n3]; simp; omega
      rw [if_pos hle]
      rfl
    · rw [List.flatten_append]
      show Own _ _ _ _ (_ ++ (_ ++ []))
      rw [List.append_nil]
      exact .inr ⟨b, l.length + 1, rfl, n1, putB_get (List.getElem?_eq_some_iff.1 n2).1, by rw [List.length_append, e4]; show _ + 6 = _; omega, by omega⟩
    · obtain ⟨o', r', e, q⟩ := k2
      cases e
      exact ⟨_, _, rfl, q⟩

end Go.Proofs.Ytccindbiodofmaa.Ab

/- What is said of what is newly asked. -/
namespace Go.Proofs.Ytccindbiodofmaa.Ab
open Go

end Go.Proofs.Ytccindbiodofmaa.Ab

/- The laws of what is seen: JudgeBegins. -/
namespace Go.Proofs.Ytccindbiodofmaa.Ab
open Go
set_option maxRecDepth 100000

end Go.Proofs.Ytccindbiodofmaa.Ab

/- The laws of what is seen: JudgeMore. -/
namespace Go.Proofs.Ytccindbiodofmaa.Ab
open Go
set_option maxRecDepth 100000

theorem sn_st {x : Sn} {o r : Value} (ho : isLeaf o = true) (hr : isLeaf r = true) : lstore 6 lptr (snV x o r) (.agg #[(.int .i64 0), (.int .i64 0), (.int .u64 0), (.int .i64 0), (.slice none 0 0), (.slice none 0 0)]) = some (snV x o r) := by
  have h2 : ([.int .i64 x.kind, .int .i64 x.client, .int .u64 x.req, .int .i64 x.code, o, r] : List Value).all isLeaf = true := by
    simp only [List.all_cons, ho, hr, List.all_nil, Bool.and_true]
    rfl
  unfold lstore lptr
  simp only
  rw [if_pos ⟨rfl, h2, Nat.le_of_ble_eq_true rfl⟩]
  rfl
end Go.Proofs.Ytccindbiodofmaa.Ab

/- What was asked alone may be taken out. -/
namespace Go.Proofs.Ytccindbiodofmaa.Ab
open Go

abbrev rqOf (x : Sn) : Rq := (x.client, x.req)
theorem look_filter {A : Type} {P : Rq → Bool} {r : Rq} (hr : P r = false) : ∀ {l : List (Rq × A)}, lookR r (l.filter fun p => !P p.1) = lookR r l
  | [] => rfl
  | p :: l => by
    rw [List.filter_cons]
    split
    · rw [lookR, lookR, look_filter hr]
    · rename_i h
      rw [look_filter hr, lookR, if_neg]
      rintro rfl
      rw [hr] at h
      exact h rfl
structure Less (P : Rq → Bool) (K K' : Kn) : Prop where
  ops : K'.ops = K.ops.filter fun p => !P p.1
  res : K'.res = K.res
  told : K'.told = K.told
  m : K'.m = K.m
theorem less_see {P : Rq → Bool} {K K' : Kn} (h : Less P K K') {x : Sn} (hx : P (rqOf x) = false) : (seeP K' x).1 = (seeP K x).1 ∧ Less P (seeP K x).2 (seeP K' x).2 := by
  obtain ⟨h1, h2, h3, h4⟩ := h
  have e : lookR (x.client, x.req) K'.ops = lookR (x.client, x.req) K.ops := by rw [h1]; exact look_filter hx
  unfold seeP
  rw [e, h2, h3, h4]
  split
  · exact ⟨rfl, h1, h2, h3, h4⟩
  · split
    · exact ⟨rfl, h1, h2, h3, h4⟩
    · split
      · refine ⟨rfl, ?_, rfl, rfl, rfl⟩
        show K'.ops ++ _ = List.filter _ (K.ops ++ _)
        rw [List.filter_append, h1]
        have hx' : P (x.client, x.req) = false := hx
        simp [hx']
      · split
        · exact ⟨rfl, h1, h2, h3, h4⟩
        · split
          · split
            · exact ⟨rfl, h1, h2, h3, h4⟩
            · exact ⟨rfl, h1, rfl, rfl, rfl⟩
          · split
            · exact ⟨rfl, h1, h2, h3, h4⟩
            · split
              · exact ⟨rfl, h1, h2, h3, h4⟩
              · exact ⟨rfl, h1, rfl, rfl, rfl⟩
theorem less_skip {P : Rq → Bool} {K K' : Kn} (h : Less P K K') {x : Sn} (hx : P (rqOf x) = true) (hk : x.kind = 1) : Less P (seeP K x).2 K' := by
  obtain ⟨h1, h2, h3, h4⟩ := h
  unfold seeP
  split
  · exact ⟨h1, h2, h3, h4⟩
  · split
    · exact ⟨h1, h2, h3, h4⟩
    · refine ⟨?_, h2, h3, h4⟩
      show K'.ops = List.filter _ (K.ops ++ _)
      rw [List.filter_append, h1]
      have hx' : P (x.client, x.req) = true := hx
      simp [hx']
theorem less_judge {P : Rq → Bool} : ∀ {l : List Sn} {i j : Nat} {K K' : Kn}, (∀ x ∈ l, P (rqOf x) = true → x.kind = 1) → Less P K K' → (judgeP l i K).2.1 = 0 → (judgeP (l.filter fun x => !P (rqOf x)) j K').2.1 = 0 ∧ Less P (judgeP l i K).2.2 (judgeP (l.filter fun x => !P (rqOf x)) j K').2.2
  | [], i, j, K, K', _, h, _ => ⟨rfl, h⟩
  | x :: l, i, j, K, K', hP, h, h0 => by
    unfold judgeP at h0
    split at h0
    case isFalse c => exact absurd h0 c
    rename_i c
    have eK : judgeP (x :: l) i K = judgeP l (i + 1) (seeP K x).2 := by rw [judgeP, if_pos c]
    rw [eK, List.filter_cons]
    have hP' : ∀ y ∈ l, P (rqOf y) = true → y.kind = 1 := fun y hy => hP y (by simp [hy])
    cases hx : P (rqOf x) with
    | true =>
      simp only [Bool.not_true, Bool.false_eq_true, if_false]
      exact less_judge hP' (less_skip h hx (hP x (by simp) hx)) h0
    | false =>
      simp only [Bool.not_false, if_true]
      obtain ⟨a, b⟩ := less_see h hx
      have : judgeP (x :: l.filter fun x => !P (rqOf x)) j K' = judgeP (l.filter fun x => !P (rqOf x)) (j + 1) (seeP K' x).2 := by rw [judgeP, if_pos (a.trans c)]
      rw [this]
      exact less_judge hP' b h0
theorem jp_kok : ∀ (l : List Sn) (i : Nat) (K : Kn), KOk K i → i + l.length ≤ 1759218604391 → KOk (judgeP l i K).2.2 (i + l.length)
  | [], i, K, h, _ => h
  | x :: l, i, K, h, hl => by
    rw [List.length_cons] at hl ⊢
    have h1 := h.see (by omega) x
    unfold judgeP
    split
    · have := jp_kok l (i + 1) _ h1 (by omega)
      rw [show i + (l.length + 1) = i + 1 + l.length by omega]
      exact this
    · exact ⟨h1.val, h1.ops, h1.res, h1.nd, h1.sub, h1.len, Nat.le_trans h1.cnt (by omega)⟩
/-- whether there is more of one than that it is asked -/
def moreF (x : Sn) (i : Nat) (acc : Bool) : List Sn → Nat → Bool
  | [], _ => acc
  | y :: r, k => moreF x i (acc || (decide (k ≠ i) && (y.client == x.client && y.req == x.req))) r (k + 1)
def outF (l : List Sn) : List Sn → Nat → List Sn
  | [], _ => []
  | x :: r, i => if moreF x i (x.kind != 1) l 0 = true then x :: outF l r (i + 1) else outF l r (i + 1)
theorem moreF_iff {x : Sn} {i : Nat} : ∀ {r : List Sn} {k : Nat} {acc : Bool}, moreF x i acc r k = true ↔ acc = true ∨ ∃ (j : Nat) (y : Sn), r[j]? = some y ∧ k + j ≠ i ∧ rqOf y = rqOf x
  | [], k, acc => by simp [moreF]
  | y :: r, k, acc => by
    unfold moreF
    rw [moreF_iff]
    constructor
    · rintro (h | ⟨j, z, h1, h2, h3⟩)
      · rw [Bool.or_eq_true] at h
        rcases h with h | h
        · exact .inl h
        · simp only [Bool.and_eq_true, decide_eq_true_eq, beq_iff_eq] at h
          exact .inr ⟨0, y, rfl, h.1, Prod.ext h.2.1 h.2.2⟩
      · exact .inr ⟨j + 1, z, by simpa using h1, by omega, h3⟩
    · rintro (h | ⟨j, z, h1, h2, h3⟩)
      · exact .inl (by rw [h]; rfl)
      · cases j with
        | zero =>
          simp only [List.getElem?_cons_zero, Option.some.injEq] at h1
          subst h1
          have h4 : y.client = x.client := congrArg Prod.fst h3
          have h5 : y.req = x.req := congrArg Prod.snd h3
          exact .inl (by simp [h4, h5]; exact .inr (by omega))
        | succ j => exact .inr ⟨j, z, by simpa using h1, by omega, h3⟩
open Classical in
theorem forget_plain {l : List Sn} (h : (judP l).2 = 0) : (judP (outF l l 0)).2 = 0 ∧ mapP (outF l l 0) = mapP l := by
  let P : Rq → Bool := fun r => decide (∃ (i : Nat) (x : Sn), l[i]? = some x ∧ rqOf x = r ∧ moreF x i (x.kind != 1) l 0 = false)
  have hiff : ∀ (i : Nat) (x : Sn), l[i]? = some x → (P (rqOf x) = true ↔ moreF x i (x.kind != 1) l 0 = false) := fun i x hx => by
    constructor
    · intro hp
      obtain ⟨j, y, h1, h2, h3⟩ := of_decide_eq_true hp
      by_cases e : j = i
      · subst e
        rw [h1] at hx
        cases hx
        exact h3
      · have : moreF y j (y.kind != 1) l 0 = true := moreF_iff.2 (.inr ⟨i, x, hx, by omega, h2.symm⟩)
        rw [h3] at this
        cases this
    · intro hm
      exact decide_eq_true ⟨i, x, hx, rfl, hm⟩
  have hout : ∀ (r : List Sn) (i : Nat), l.drop i = r → outF l r i = r.filter fun x => !P (rqOf x) := by
    intro r
    induction r with
    | nil => intro i _; rfl
    | cons x r ih =>
      intro i hi
      have hx : l[i]? = some x := by
        have := congrArg (fun q => q[0]?) hi
        simpa using this
      have hd : l.drop (i + 1) = r := by
        rw [← List.drop_drop, hi]
        rfl
      rw [outF, List.filter_cons, ih (i + 1) hd]
      have := hiff i x hx
      cases hm : moreF x i (x.kind != 1) l 0 with
      | true =>
        rw [hm] at this
        have hp : P (rqOf x) = false := by
          cases hp : P (rqOf x) with
          | false => rfl
          | true => exact absurd (this.1 hp) (by simp)
        simp only [hp, Bool.not_false, if_true]
      | false =>
        rw [hm] at this
        have hp : P (rqOf x) = true := this.2 rfl
        simp only [hp, Bool.not_true, Bool.false_eq_true, if_false]
  rw [hout l 0 rfl]
  have hk : ∀ x ∈ l, P (rqOf x) = true → x.kind = 1 := fun x hx hp => by
    obtain ⟨i, hi⟩ := List.mem_iff_getElem?.1 hx
    have := (hiff i x hi).1 hp
    cases hc : (x.kind != 1) with
    | false => simpa using hc
    | true =>
      have h2 : moreF x i (x.kind != 1) l 0 = true := moreF_iff.2 (.inl hc)
      rw [this] at h2
      cases h2
  obtain ⟨a, b⟩ := less_judge (P := P) (l := l) (i := 0) (j := 0) (K := Kn.nil) (K' := Kn.nil) hk ⟨rfl, rfl, rfl, rfl⟩ h
  exact ⟨a, b.m⟩
theorem outF_len {l : List Sn} : ∀ (r : List Sn) (i : Nat), (outF l r i).length ≤ r.length
  | [], _ => Nat.le_refl _
  | x :: r, i => by
    have := outF_len (l := l) r (i + 1)
    unfold outF
    split <;> simp only [List.length_cons] <;> omega

end Go.Proofs.Ytccindbiodofmaa.Ab

/- The laws of what is seen: JudgeForgets. -/
namespace Go.Proofs.Ytccindbiodofmaa.Ab
open Go
set_option maxRecDepth 100000

/-- an element, loaded later -/
theorem SnL.at2 {s t : St} {v : Value} {l : List Sn} (h : SnL s v l) (hx : Ext s.heap.length s t) {i : Nat} (hi : i < l.length) : ∃ p o r, aindexS 6 v (.int .i64 (i : Int)) = some p ∧ aload true 6 p t = some (snV l[i] o r) ∧ aload true 6 p (frzS t) = some (snV l[i] o r) ∧ SnRel s l[i] (snCells l[i] o r) := by
  obtain ⟨css, h1, h2⟩ := h
  obtain ⟨g1, g2⟩ := sn_flat h2
  obtain ⟨o, r, e1, e2, e3, e4⟩ := g2 i hi
  have h1' := hx.cells h1
  obtain ⟨q, i0, _, j0⟩ := cells_at h1' (by decide) (i := i) (by rw [g1]; exact Nat.mul_le_mul_right _ hi) (k := .i64)
  obtain ⟨q', i0', _, j0'⟩ := cells_at (s := frzS t) (by rw [cellsOf_frz]; exact h1') (by decide) (i := i) (by rw [g1]; exact Nat.mul_le_mul_right _ hi) (k := .i64)
  rw [i0] at i0'
  cases i0'
  rw [e1] at j0 j0'
  exact ⟨q, o, r, i0, j0, j0', o, r, rfl, e2, e3, e4⟩
theorem lp_1 : afieldAddr 1 lptr = some (.pointer (some ⟨0, 1, none⟩)) := rfl
theorem lp_2 : afieldAddr 2 lptr = some (.pointer (some ⟨0, 2, none⟩)) := rfl
theorem fg1_loop {v out : Value} {s : St} {l : List Sn} (h : SnL s v l) (hl : l.length < 140737488355328) {x : Sn} {o r : Value} {i : Nat} : ∀ (rest : List Sn) (k : Nat) (acc : Bool), l.drop k = rest → k ≤ l.length →
    loopL (law23_JudgeForgets.b1 (run Try.prog (libL libT) hints)) [v, .bool true, out, .int .i64 (i : Int), lptr, .bool acc, v, .int .i64 ((l.length : Nat) : Int), .int .i64 (i : Int), v, .int .i64 ((l.length : Nat) : Int), .int .i64 (k : Int), snV x o r] s = some (.exit 2, [v, .bool true, out, lptr, .bool (moreF x i acc rest k), v, .int .i64 ((l.length : Nat) : Int), .int .i64 (i : Int), snV x o r], s) := by
  intro rest
  induction rest with
  | nil =>
    intro k acc hi hle
    have hge := List.drop_eq_nil_iff.1 hi
    have h1 : decide ((k : Int) < ((l.length : Nat) : Int)) = false := by simp; omega
    rw [loopL_eq]
    simp only [law23_JudgeForgets.b1, h1, moreF, n_bind, n_map, getL_0, getL_1, getL_2, getL_3, getL_4, getL_5, getL_6, getL_7, getL_8, getL_9, getL_10, getL_11, getL_12, condV_t, condV_f, guardV_tt, guardV_ff, guardV_tf, guardV_ft, guardV_u, apick_t, apick_f, exV_exit, exV_ret, lookE_same, joinK_eq, seqA_n, seqA_e, seqA_r, e_add, e_sub, e_mul, e_eql, e_neq, e_lss, e_leq, e_gtr, e_geq, e_conv, e_not, e_neg, and_guard, or_guard]
  | cons y rest ih =>
    intro k acc hi hle
    obtain ⟨hlt, he, hd⟩ := drop_get hi
    have h1 : decide ((k : Int) < ((l.length : Nat) : Int)) = true := by simp; omega
    obtain ⟨p, o2, r2, a1, a2, _, a3, a4, _⟩ := h.at hlt
    rw [he] at a2 a3 a4
    have hinc := inc_i64 (show k < 140737488355328 by omega)
    have hki : ((k : Int) != (i : Int)) = decide (k ≠ i) := by
      by_cases c : k = i
      · subst c; simp
      · have : (k : Int) ≠ (i : Int) := by omega
        simp [c, this]
    have key := ih (k + 1) (acc || (decide (k ≠ i) && (y.client == x.client && y.req == x.req))) hd (by omega)
    rw [loopL_eq, moreF]
    cases acc with
    | true =>
      simp only [law23_JudgeForgets.b1, h1, a1, a2, sn_st (ops_leaf a3) (rdy_leaf a4), hinc, Bool.true_or, n_bind, n_map, getL_0, getL_1, getL_2, getL_3, getL_4, getL_5, getL_6, getL_7, getL_8, getL_9, getL_10, getL_11, getL_12, condV_t, condV_f, guardV_tt, guardV_ff, guardV_tf, guardV_ft, guardV_u, apick_t, apick_f, exV_exit, exV_ret, lookE_same, joinK_eq, seqA_n, seqA_e, seqA_r, e_add, e_sub, e_mul, e_eql, e_neq, e_lss, e_leq, e_gtr, e_geq, e_conv, e_not, e_neg, and_guard, or_guard] at key ⊢
      exact key
    | false =>
      cases c1 : decide (k ≠ i) with
      | false =>
        rw [c1] at hki
        simp only [law23_JudgeForgets.b1, h1, a1, a2, sn_st (ops_leaf a3) (rdy_leaf a4), hki, c1, hinc, Bool.false_or, Bool.false_and, n_bind, n_map, getL_0, getL_1, getL_2, getL_3, getL_4, getL_5, getL_6, getL_7, getL_8, getL_9, getL_10, getL_11, getL_12, condV_t, condV_f, guardV_tt, guardV_ff, guardV_tf, guardV_ft, guardV_u, apick_t, apick_f, exV_exit, exV_ret, lookE_same, joinK_eq, seqA_n, seqA_e, seqA_r, e_add, e_sub, e_mul, e_eql, e_neq, e_lss, e_leq, e_gtr, e_geq, e_conv, e_not, e_neg, and_guard, or_guard] at key ⊢
        exact key
      | true =>
        rw [c1] at hki
        cases c2 : (y.client == x.client) with
        | false =>
          simp only [law23_JudgeForgets.b1, h1, a1, a2, sn_st (ops_leaf a3) (rdy_leaf a4), sn_1, sn_2, lp_1, lp_2, hki, c1, c2, hinc, Bool.false_or, Bool.false_and, Bool.true_and, n_bind, n_map, getL_0, getL_1, getL_2, getL_3, getL_4, getL_5, getL_6, getL_7, getL_8, getL_9, getL_10, getL_11, getL_12, condV_t, condV_f, guardV_tt, guardV_ff, guardV_tf, guardV_ft, guardV_u, apick_t, apick_f, exV_exit, exV_ret, lookE_same, joinK_eq, seqA_n, seqA_e, seqA_r, e_add, e_sub, e_mul, e_eql, e_neq, e_lss, e_leq, e_gtr, e_geq, e_conv, e_not, e_neg, and_guard, or_guard] at key ⊢
          exact key
        | true =>
          simp only [law23_JudgeForgets.b1, h1, a1, a2, sn_st (ops_leaf a3) (rdy_leaf a4), sn_1, sn_2, lp_1, lp_2, hki, c1, c2, hinc, Bool.false_or, Bool.false_and, Bool.true_and, n_bind, n_map, getL_0, getL_1, getL_2, getL_3, getL_4, getL_5, getL_6, getL_7, getL_8, getL_9, getL_10, getL_11, getL_12, condV_t, condV_f, guardV_tt, guardV_ff, guardV_tf, guardV_ft, guardV_u, apick_t, apick_f, exV_exit, exV_ret, lookE_same, joinK_eq, seqA_n, seqA_e, seqA_r, e_add, e_sub, e_mul, e_eql, e_neq, e_lss, e_leq, e_gtr, e_geq, e_conv, e_not, e_neg, and_guard, or_guard] at key ⊢
          exact key
theorem fg_loop {v : Value} {s : St} {l : List Sn} (h : SnL s v l) (hl : l.length ≤ 100) : ∀ (rest : List Sn) (i : Nat) (t : St) (out : Value) (acc : List Sn), l.drop i = rest → i ≤ l.length → SnOwn s t out acc → acc.length ≤ i →
    ∃ out' t', loopL (law23_JudgeForgets.b0 (run Try.prog (libL libT) hints)) [v, .bool true, out, v, .int .i64 ((l.length : Nat) : Int), .int .i64 (i : Int)] t = some (.exit 0, [v, .bool true, out'], t') ∧ SnOwn s t' out' (acc ++ outF l rest i) := by
  intro rest
  induction rest with
  | nil =>
    intro i t out acc hi hle ho _
    have hge := List.drop_eq_nil_iff.1 hi
    have h1 : decide ((i : Int) < ((l.length : Nat) : Int)) = false := by simp; omega
    refine ⟨out, t, ?_, by rw [outF, List.append_nil]; exact ho⟩
    rw [loopL_eq]
    simp only [law23_JudgeForgets.b0, h1, n_bind, n_map, getL_0, getL_1, getL_2, getL_3, getL_4, getL_5, getL_6, getL_7, getL_8, getL_9, getL_10, getL_11, getL_12, condV_t, condV_f, guardV_tt, guardV_ff, guardV_tf, guardV_ft, guardV_u, apick_t, apick_f, exV_exit, exV_ret, lookE_same, joinK_eq, seqA_n, seqA_e, seqA_r, e_add, e_sub, e_mul, e_eql, e_neq, e_lss, e_leq, e_gtr, e_geq, e_conv, e_not, e_neg, and_guard, or_guard]
  | cons x rest ih =>
    intro i t out acc hi hle ho hacc
    obtain ⟨hlt, he, hd⟩ := drop_get hi
    have h1 : decide ((i : Int) < ((l.length : Nat) : Int)) = true := by simp; omega
    obtain ⟨p, o, r, a1, a2, _, a3⟩ := h.at2 ho.1 hlt
    rw [he] at a2 a3
    obtain ⟨o', r', e, a4, a5, a6⟩ := id a3
    cases e
    have ht := h.ext ho.1
    have hlen : ∀ e s2, alenV (.slice e) v s2 = some (.int .i64 ((l.length : Nat) : Int)) := fun e s2 => h.len
    have hin := fg1_loop (out := out) ht (by omega) (x := x) (o := o) (r := r) (i := i) l 0 (x.kind != 1) rfl (Nat.zero_le _)
    rw [show ((0 : Nat) : Int) = 0 from rfl] at hin
    have hinc := inc_i64 (show i < 140737488355328 by omega)
    rw [outF]
    cases hm : moreF x i (x.kind != 1) l 0 with
    | true =>
      rw [hm] at hin
      obtain ⟨q, b1, v', t', b2, b3⟩ := ho.add a3 (by omega)
      obtain ⟨out', t2, k1, k2⟩ := ih (i + 1) t' v' (acc ++ [x]) hd (by omega) b3 (by simp; omega)
      refine ⟨out', t2, ?_, ?_⟩
      · rw [loopL_eq]
        simp only [law23_JudgeForgets.b0, law23_JudgeForgets.j0, h1, a1, a2, sn_st (ops_leaf a4) (rdy_leaf a5), sn_0, hlen, hin, sn_all, b1, b2, hinc, n_bind, n_map, getL_0, getL_1, getL_2, getL_3, getL_4, getL_5, getL_6, getL_7, getL_8, getL_9, getL_10, getL_11, getL_12, condV_t, condV_f, guardV_tt, guardV_ff, guardV_tf, guardV_ft, guardV_u, apick_t, apick_f, exV_exit, exV_ret, lookE_same, joinK_eq, seqA_n, seqA_e, seqA_r, e_add, e_sub, e_mul, e_eql, e_neq, e_lss, e_leq, e_gtr, e_geq, e_conv, e_not, e_neg, and_guard, or_guard]
        exact k1
      · simp only [if_true]
        rw [List.append_assoc] at k2
        exact k2
    | false =>
      rw [hm] at hin
      obtain ⟨out', t2, k1, k2⟩ := ih (i + 1) t out acc hd (by omega) ho (by omega)
      refine ⟨out', t2, ?_, ?_⟩
      · rw [loopL_eq]
        simp only [law23_JudgeForgets.b0, law23_JudgeForgets.j0, h1, a1, a2, sn_st (ops_leaf a4) (rdy_leaf a5), sn_0, hlen, hin, hinc, n_bind, n_map, getL_0, getL_1, getL_2, getL_3, getL_4, getL_5, getL_6, getL_7, getL_8, getL_9, getL_10, getL_11, getL_12, condV_t, condV_f, guardV_tt, guardV_ff, guardV_tf, guardV_ft, guardV_u, apick_t, apick_f, exV_exit, exV_ret, lookE_same, joinK_eq, seqA_n, seqA_e, seqA_r, e_add, e_sub, e_mul, e_eql, e_neq, e_lss, e_leq, e_gtr, e_geq, e_conv, e_not, e_neg, and_guard, or_guard]
        exact k1
      · simp only [Bool.false_eq_true, if_false]
        exact k2
theorem y2m_0 {a : Value} {b : Int} (h : isTup a = false) : aextract 0 (.tuple #[a, .int .i64 b]) = some a := by simp [aextract, h]
theorem y2m_1 {a : Value} {b : Int} : aextract 1 (.tuple #[a, .int .i64 b]) = some (.int .i64 b) := Eq.trans rfl (Eq.refl _)
theorem JudgeForgets_law (s : St) (v : Value) (l : List Sn) (h : ListN snN 80 l s v) : ∃ s', (run Try.prog (libL libT) hints) 5 [v] s = some (.bool true, s') := by
  obtain ⟨hv, hwf, hl⟩ := sn_list h
  have hlen : ∀ e s2, alenV (.slice e) v s2 = some (.int .i64 ((l.length : Nat) : Int)) := fun e s2 => hv.len
  by_cases hbig : 100 < l.length
  · have h1 : decide (((l.length : Nat) : Int) > 100) = true := by simp; omega
    refine ⟨s, law23_JudgeForgets_of rfl ?_⟩
    unfold law23_JudgeForgets
    simp only [law23_live_call, k_live, hlen, h1, n_bind, n_map, getL_0, getL_1, getL_2, getL_3, getL_4, getL_5, getL_6, getL_7, getL_8, getL_9, getL_10, getL_11, getL_12, condV_t, condV_f, guardV_tt, guardV_ff, guardV_tf, guardV_ft, guardV_u, apick_t, apick_f, exV_exit, exV_ret, lookE_same, joinK_eq, seqA_n, seqA_e, seqA_r, e_add, e_sub, e_mul, e_eql, e_neq, e_lss, e_leq, e_gtr, e_geq, e_conv, e_not, e_neg, and_guard, or_guard, retV]
    rfl
  have h1 : decide (((l.length : Nat) : Int) > 100) = false := by simp; omega
  obtain ⟨out, t1, g1, g2⟩ := fg_loop hv (by omega) l 0 s (.slice none 0 0) [] rfl (Nat.zero_le _) (SnOwn.nil (.refl _ _)) (Nat.le_refl _)
  rw [show ((0 : Nat) : Int) = 0 from rfl] at g1
  rw [List.nil_append] at g2
  obtain ⟨m, t2, a1, a2, a3⟩ := Replay_run (hv.ext g2.1) hl
  have hol := outF_len (l := l) l 0
  obtain ⟨n, t3, b1, b2, b3⟩ := Replay_run (g2.ext a2).list (by omega)
  have a4 := OwnC.istup a3
  have b4 := OwnC.istup b3
  refine ⟨t3, law23_JudgeForgets_of rfl ?_⟩
  by_cases he : (judP l).2 = 0
  · obtain ⟨e1, e2⟩ := forget_plain he
    rw [he] at a1
    rw [e1] at b1
    rw [if_pos he] at a3
    rw [if_pos e1, e2] at b3
    have hsm := k_same (L := libT) rfl (list_ext b2 a3.list) b3.list (by
      have hk : KOk (judgeP l 0 Kn.nil).2.2 (0 + l.length) := jp_kok l 0 Kn.nil KOk.nil (by omega)
      have := hk.room (by omega)
      show (mapP l).length < _
      unfold mapP
      omega)
    have z0 : ((0 : Int) != 0) = false := rfl
    have z1 : ((0 : Int) == 0) = true := rfl
    unfold law23_JudgeForgets
    simp only [law23_live_call, k_live, hlen, h1, g1, judge_Replay_call, a1, y2m_0 a4, y2m_1, b1, y2m_0 b4, z0, z1, ref04_SameMap_call, hsm, decide_true, n_bind, n_map, getL_0, getL_1, getL_2, getL_3, getL_4, getL_5, getL_6, getL_7, getL_8, getL_9, getL_10, getL_11, getL_12, condV_t, condV_f, guardV_tt, guardV_ff, guardV_tf, guardV_ft, guardV_u, apick_t, apick_f, exV_exit, exV_ret, lookE_same, joinK_eq, seqA_n, seqA_e, seqA_r, e_add, e_sub, e_mul, e_eql, e_neq, e_lss, e_leq, e_gtr, e_geq, e_conv, e_not, e_neg, and_guard, or_guard, retV]
    rfl
  · unfold law23_JudgeForgets
    simp only [law23_live_call, k_live, hlen, h1, g1, judge_Replay_call, a1, y2m_0 a4, y2m_1, b1, y2m_0 b4, ne0 he, n_bind, n_map, getL_0, getL_1, getL_2, getL_3, getL_4, getL_5, getL_6, getL_7, getL_8, getL_9, getL_10, getL_11, getL_12, condV_t, condV_f, guardV_tt, guardV_ff, guardV_tf, guardV_ft, guardV_u, apick_t, apick_f, exV_exit, exV_ret, lookE_same, joinK_eq, seqA_n, seqA_e, seqA_r, e_add, e_sub, e_mul, e_eql, e_neq, e_lss, e_leq, e_gtr, e_geq, e_conv, e_not, e_neg, and_guard, or_guard, retV]
    rfl

end Go.Proofs.Ytccindbiodofmaa.Ab

/- A law's arguments in memory, as the abstract machine has them: bytes. -/
namespace Go.Proofs.Ytccindbiodofmaa.Ab
open Go

end Go.Proofs.Ytccindbiodofmaa.Ab

/- A row's slice of whole numbers is no longer than its weight allows. (Began as the words that print.sh lays for rows over slices.) -/
namespace Go.Proofs.Ytccindbiodofmaa.Ab
open Go Go.ChangeShapes Go.WideShapes
end Go.Proofs.Ytccindbiodofmaa.Ab
