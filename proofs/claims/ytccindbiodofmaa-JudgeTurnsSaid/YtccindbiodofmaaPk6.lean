/- Texts of this proof, packed: JuSee, JuSee2, JuSee3, JuRun, JuPl, JuOwn, JuPl2, JuLawA, JuLawB, JuPl3, JuLawC, OpPure2, JuPl4, JuLawD, JuLawE, BArg, BSized. -/
import Derived.Test.YtccindbiodofmaaPk5
import Derived.SizedLaws
import Derived.ChangeSlices
set_option linter.unusedVariables false
set_option linter.unusedSimpArgs false
set_option linter.unusedSectionVars false
/- One that is seen: what is said of it, and what is known then. -/
namespace Go.Proofs.Ytccindbiodofmaa.Ab
open Go
set_option maxRecDepth 100000

/-! ### In plain Lean -/
def goodS (x : Sn) : Bool := (decide (x.client ≥ 1) && decide (x.client ≤ 4)) && (if x.kind == 1 then chkE x.ops == 0 else if x.kind == 3 then x.code == 1 || x.code == 2 else x.kind == 2)
def twiceP (k : Int) (a d t : Bool) : Bool := if k == 1 then a else if k == 2 then d else if k == 3 then t else false
def formB (x : Sn) (d : List Rs) : Bool := if x.code == 1 then !decide (d = x.res) else decide (0 < x.res.length)
def seeP (K : Kn) (x : Sn) : Int × Kn :=
  if goodS x = false then (1, K) else
  if twiceP x.kind (lookR (x.client, x.req) K.ops).isSome (lookR (x.client, x.req) K.res).isSome (lookR (x.client, x.req) K.told).isSome = true then (6, K) else
  if x.kind = 1 then (0, { K with ops := K.ops ++ [((x.client, x.req), x.ops)] }) else
  match lookR (x.client, x.req) K.ops with
  | none => (5, K)
  | some l =>
    if x.kind = 2 then
      if (lookR (x.client, x.req) K.told).isSome = true then (4, K) else (0, { K with m := apM K.m l, res := K.res ++ [((x.client, x.req), apR K.m l)] })
    else
      if ((x.code == 1) != (lookR (x.client, x.req) K.res).isSome) = true then (4, K) else
      if formB x ((lookR (x.client, x.req) K.res).getD []) = true then (11, K) else (0, { K with told := K.told ++ [((x.client, x.req), ())] })

/-! ### The cells of one that is seen -/
theorem sn_box {x : Sn} {o r : Value} (ho : isLeaf o = true) (hr : isLeaf r = true) : lbox (snV x o r) = some (snV x o r) := by
  have h2 : ([.int .i64 x.kind, .int .i64 x.client, .int .u64 x.req, .int .i64 x.code, o, r] : List Value).all isLeaf = true := by
    simp only [List.all_cons, ho, hr, List.all_nil, Bool.and_true]
    rfl
  unfold lbox
  rw [show cellsV (snV x o r) = [.int .i64 x.kind, .int .i64 x.client, .int .u64 x.req, .int .i64 x.code, o, r] from rfl, if_pos h2]
  rfl
theorem sn_all (x : Sn) (o r : Value) : lload true 6 lptr (snV x o r) = some (snV x o r) := rfl
theorem sn_0 (x : Sn) (o r : Value) : lload false 1 lptr (snV x o r) = some (.int .i64 x.kind) := rfl
theorem sn_1 (x : Sn) (o r : Value) : lload false 1 (.pointer (some ⟨0, 1, none⟩)) (snV x o r) = some (.int .i64 x.client) := rfl
theorem sn_2 (x : Sn) (o r : Value) : lload false 1 (.pointer (some ⟨0, 2, none⟩)) (snV x o r) = some (.int .u64 x.req) := rfl
theorem sn_3 (x : Sn) (o r : Value) : lload false 1 (.pointer (some ⟨0, 3, none⟩)) (snV x o r) = some (.int .i64 x.code) := rfl
theorem sn_4 (x : Sn) (o r : Value) : lload false 1 (.pointer (some ⟨0, 4, none⟩)) (snV x o r) = some o := rfl
theorem sn_5 (x : Sn) (o r : Value) : lload false 1 (.pointer (some ⟨0, 5, none⟩)) (snV x o r) = some r := rfl
theorem rq_build (c q : Int) : abuild Try.prog 77 [(0, .int .i64 c), (1, .int .u64 q)] = some (rqV (c, q)) := by kernel_rfl
theorem rq_st (r : Rq) : lstore 2 lptr (rqV r) (.agg #[(.int .i64 0), (.int .u64 0)]) = some (rqV r) := rfl
theorem rq_all (r : Rq) : lload true 2 lptr (rqV r) = some (rqV r) := rfl

theorem ckS_run {x : Sn} {o r : Value} {s : St} (ho : listOf opC o s = some x.ops) (hl : x.ops.length < 140737488355328) (hr : isLeaf r = true) : (run Try.prog (libL libT) hints) 34 [snV x o r] s = some (.int .i64 (if goodS x = true then 0 else 1), s) := by
  refine judge_check_of rfl ?_
  have hb := sn_box (x := x) (ops_leaf ho) hr
  have hc := k_chkO ho hl
  unfold judge_check goodS
  cases c1 : decide (x.client ≥ 1)
  · cases k1 : (x.kind == 1)
    · cases k3 : (x.kind == 3)
      · cases k2 : (x.kind == 2)
        · simp only [hb, sn_0, sn_1, sn_3, sn_4, c1, k1, k2, k3, judge_check.j0, n_bind, n_map, getL_0, getL_1, getL_2, getL_3, getL_4, getL_5, getL_6, getL_7, getL_8, getL_9, getL_10, getL_11, getL_12, condV_t, condV_f, guardV_tt, guardV_ff, guardV_tf, guardV_ft, guardV_u, apick_t, apick_f, exV_exit, exV_ret, lookE_same, joinK_eq, seqA_n, seqA_e, seqA_r, e_add, e_sub, e_mul, e_eql, e_neq, e_lss, e_leq, e_gtr, e_geq, e_conv, e_not, e_neg, and_guard, or_guard, retV]
          rfl
        · simp only [hb, sn_0, sn_1, sn_3, sn_4, c1, k1, k2, k3, judge_check.j0, n_bind, n_map, getL_0, getL_1, getL_2, getL_3, getL_4, getL_5, getL_6, getL_7, getL_8, getL_9, getL_10, getL_11, getL_12, condV_t, condV_f, guardV_tt, guardV_ff, guardV_tf, guardV_ft, guardV_u, apick_t, apick_f, exV_exit, exV_ret, lookE_same, joinK_eq, seqA_n, seqA_e, seqA_r, e_add, e_sub, e_mul, e_eql, e_neq, e_lss, e_leq, e_gtr, e_geq, e_conv, e_not, e_neg, and_guard, or_guard, retV]
          rfl
      · cases d1 : (x.code == 1) <;> cases d2 : (x.code == 2)
        all_goals
          simp only [hb, sn_0, sn_1, sn_3, sn_4, c1, k1, k3, d1, d2, judge_check.j0, n_bind, n_map, getL_0, getL_1, getL_2, getL_3, getL_4, getL_5, getL_6, getL_7, getL_8, getL_9, getL_10, getL_11, getL_12, condV_t, condV_f, guardV_tt, guardV_ff, guardV_tf, guardV_ft, guardV_u, apick_t, apick_f, exV_exit, exV_ret, lookE_same, joinK_eq, seqA_n, seqA_e, seqA_r, e_add, e_sub, e_mul, e_eql, e_neq, e_lss, e_leq, e_gtr, e_geq, e_conv, e_not, e_neg, and_guard, or_guard, retV]
          rfl
    · simp only [hb, sn_0, sn_1, sn_3, sn_4, c1, k1, judge_check.j0, n_bind, n_map, getL_0, getL_1, getL_2, getL_3, getL_4, getL_5, getL_6, getL_7, getL_8, getL_9, getL_10, getL_11, getL_12, condV_t, condV_f, guardV_tt, guardV_ff, guardV_tf, guardV_ft, guardV_u, apick_t, apick_f, exV_exit, exV_ret, lookE_same, joinK_eq, seqA_n, seqA_e, seqA_r, e_add, e_sub, e_mul, e_eql, e_neq, e_lss, e_leq, e_gtr, e_geq, e_conv, e_not, e_neg, and_guard, or_guard, retV]
      rfl
  · cases c2 : decide (x.client ≤ 4)
    · cases k1 : (x.kind == 1)
      · cases k3 : (x.kind == 3)
        · cases k2 : (x.kind == 2)
          · simp only [hb, sn_0, sn_1, sn_3, sn_4, c1, c2, k1, k2, k3, judge_check.j0, n_bind, n_map, getL_0, getL_1, getL_2, getL_3, getL_4, getL_5, getL_6, getL_7, getL_8, getL_9, getL_10, getL_11, getL_12, condV_t, condV_f, guardV_tt, guardV_ff, guardV_tf, guardV_ft, guardV_u, apick_t, apick_f, exV_exit, exV_ret, lookE_same, joinK_eq, seqA_n, seqA_e, seqA_r, e_add, e_sub, e_mul, e_eql, e_neq, e_lss, e_leq, e_gtr, e_geq, e_conv, e_not, e_neg, and_guard, or_guard, retV]
            rfl
          · simp only [hb, sn_0, sn_1, sn_3, sn_4, c1, c2, k1, k2, k3, judge_check.j0, n_bind, n_map, getL_0, getL_1, getL_2, getL_3, getL_4, getL_5, getL_6, getL_7, getL_8, getL_9, getL_10, getL_11, getL_12, condV_t, condV_f, guardV_tt, guardV_ff, guardV_tf, guardV_ft, guardV_u, apick_t, apick_f, exV_exit, exV_ret, lookE_same, joinK_eq, seqA_n, seqA_e, seqA_r, e_add, e_sub, e_mul, e_eql, e_neq, e_lss, e_leq, e_gtr, e_geq, e_conv, e_not, e_neg, and_guard, or_guard, retV]
            rfl
        · cases d1 : (x.code == 1) <;> cases d2 : (x.code == 2)
          all_goals
            simp only [hb, sn_0, sn_1, sn_3, sn_4, c1, c2, k1, k3, d1, d2, judge_check.j0, n_bind, n_map, getL_0, getL_1, getL_2, getL_3, getL_4, getL_5, getL_6, getL_7, getL_8, getL_9, getL_10, getL_11, getL_12, condV_t, condV_f, guardV_tt, guardV_ff, guardV_tf, guardV_ft, guardV_u, apick_t, apick_f, exV_exit, exV_ret, lookE_same, joinK_eq, seqA_n, seqA_e, seqA_r, e_add, e_sub, e_mul, e_eql, e_neq, e_lss, e_leq, e_gtr, e_geq, e_conv, e_not, e_neg, and_guard, or_guard, retV]
            rfl
      · simp only [hb, sn_0, sn_1, sn_3, sn_4, c1, c2, k1, judge_check.j0, n_bind, n_map, getL_0, getL_1, getL_2, getL_3, getL_4, getL_5, getL_6, getL_7, getL_8, getL_9, getL_10, getL_11, getL_12, condV_t, condV_f, guardV_tt, guardV_ff, guardV_tf, guardV_ft, guardV_u, apick_t, apick_f, exV_exit, exV_ret, lookE_same, joinK_eq, seqA_n, seqA_e, seqA_r, e_add, e_sub, e_mul, e_eql, e_neq, e_lss, e_leq, e_gtr, e_geq, e_conv, e_not, e_neg, and_guard, or_guard, retV]
        rfl
    · cases k1 : (x.kind == 1)
      · cases k3 : (x.kind == 3)
        · cases k2 : (x.kind == 2)
          · simp only [hb, sn_0, sn_1, sn_3, sn_4, c1, c2, k1, k2, k3, judge_check.j0, n_bind, n_map, getL_0, getL_1, getL_2, getL_3, getL_4, getL_5, getL_6, getL_7, getL_8, getL_9, getL_10, getL_11, getL_12, condV_t, condV_f, guardV_tt, guardV_ff, guardV_tf, guardV_ft, guardV_u, apick_t, apick_f, exV_exit, exV_ret, lookE_same, joinK_eq, seqA_n, seqA_e, seqA_r, e_add, e_sub, e_mul, e_eql, e_neq, e_lss, e_leq, e_gtr, e_geq, e_conv, e_not, e_neg, and_guard, or_guard, retV]
            rfl
          · simp only [hb, sn_0, sn_1, sn_3, sn_4, c1, c2, k1, k2, k3, judge_check.j0, n_bind, n_map, getL_0, getL_1, getL_2, getL_3, getL_4, getL_5, getL_6, getL_7, getL_8, getL_9, getL_10, getL_11, getL_12, condV_t, condV_f, guardV_tt, guardV_ff, guardV_tf, guardV_ft, guardV_u, apick_t, apick_f, exV_exit, exV_ret, lookE_same, joinK_eq, seqA_n, seqA_e, seqA_r, e_add, e_sub, e_mul, e_eql, e_neq, e_lss, e_leq, e_gtr, e_geq, e_conv, e_not, e_neg, and_guard, or_guard, retV]
            rfl
        · cases d1 : (x.code == 1) <;> cases d2 : (x.code == 2)
          all_goals
            simp only [hb, sn_0, sn_1, sn_3, sn_4, c1, c2, k1, k3, d1, d2, judge_check.j0, n_bind, n_map, getL_0, getL_1, getL_2, getL_3, getL_4, getL_5, getL_6, getL_7, getL_8, getL_9, getL_10, getL_11, getL_12, condV_t, condV_f, guardV_tt, guardV_ff, guardV_tf, guardV_ft, guardV_u, apick_t, apick_f, exV_exit, exV_ret, lookE_same, joinK_eq, seqA_n, seqA_e, seqA_r, e_add, e_sub, e_mul, e_eql, e_neq, e_lss, e_leq, e_gtr, e_geq, e_conv, e_not, e_neg, and_guard, or_guard, retV]
            rfl
      · cases k4 : (chkE x.ops == 0)
        · simp only [hb, sn_0, sn_1, sn_3, sn_4, c1, c2, k1, k4, op_Check_call, hc, judge_check.j0, n_bind, n_map, getL_0, getL_1, getL_2, getL_3, getL_4, getL_5, getL_6, getL_7, getL_8, getL_9, getL_10, getL_11, getL_12, condV_t, condV_f, guardV_tt, guardV_ff, guardV_tf, guardV_ft, guardV_u, apick_t, apick_f, exV_exit, exV_ret, lookE_same, joinK_eq, seqA_n, seqA_e, seqA_r, e_add, e_sub, e_mul, e_eql, e_neq, e_lss, e_leq, e_gtr, e_geq, e_conv, e_not, e_neg, and_guard, or_guard, retV]
          rfl
        · simp only [hb, sn_0, sn_1, sn_3, sn_4, c1, c2, k1, k4, op_Check_call, hc, judge_check.j0, n_bind, n_map, getL_0, getL_1, getL_2, getL_3, getL_4, getL_5, getL_6, getL_7, getL_8, getL_9, getL_10, getL_11, getL_12, condV_t, condV_f, guardV_tt, guardV_ff, guardV_tf, guardV_ft, guardV_u, apick_t, apick_f, exV_exit, exV_ret, lookE_same, joinK_eq, seqA_n, seqA_e, seqA_r, e_add, e_sub, e_mul, e_eql, e_neq, e_lss, e_leq, e_gtr, e_geq, e_conv, e_not, e_neg, and_guard, or_guard, retV]
          rfl

end Go.Proofs.Ytccindbiodofmaa.Ab

/- One that is seen: the three maps are asked, and written. -/
namespace Go.Proofs.Ytccindbiodofmaa.Ab
open Go
set_option maxRecDepth 100000

theorem lookR_mem {A : Type} {r : Rq} {a : A} : ∀ {l : List (Rq × A)}, lookR r l = some a → (r, a) ∈ l
  | [], h => by cases h
  | p :: l, h => by
    unfold lookR at h
    split at h
    · rename_i hp
      cases h
      subst hp
      exact List.mem_cons_self
    · exact List.mem_cons_of_mem _ (lookR_mem h)
theorem lookR_some {A : Type} {r : Rq} : ∀ {l : List (Rq × A)}, (lookR r l).isSome = true ↔ r ∈ l.map (·.1)
  | [] => by simp [lookR]
  | p :: l => by
    unfold lookR
    split
    · rename_i hp; simp [hp]
    · rename_i hp
      rw [lookR_some, List.map_cons, List.mem_cons]
      exact ⟨.inr, fun h => h.resolve_left fun e => hp e.symm⟩
theorem nodup_len {A : Type} [DecidableEq A] : ∀ {l m : List A}, l.Nodup → (∀ x ∈ l, x ∈ m) → l.length ≤ m.length
  | [], m, _, _ => Nat.zero_le _
  | a :: l, m, h, hs => by
    obtain ⟨h1, h2⟩ := List.nodup_cons.1 h
    have ha := hs a (by simp)
    have := nodup_len (l := l) (m := m.erase a) h2 fun x hx => (List.mem_erase_of_ne (a := x) (b := a) (by rintro rfl; exact h1 hx)).2 (hs x (by simp [hx]))
    rw [List.length_erase_of_mem ha] at this
    have hp : 0 < m.length := List.length_pos_of_mem ha
    simp only [List.length_cons]
    omega
/-- what stands fast of what is known -/
structure KOk (K : Kn) (i : Nat) : Prop where
  val : Val K.m
  ops : ∀ p ∈ K.ops, allE p.2 = 0 ∧ p.2.length ≤ 4
  res : ∀ p ∈ K.res, p.2.length ≤ 4 ∧ ∀ y ∈ p.2, y.2.2.length ≤ 6200000000000
  nd : (K.res.map (·.1)).Nodup
  sub : ∀ p ∈ K.res, p.1 ∈ K.ops.map (·.1)
  len : K.m.length ≤ 4 * K.res.length
  cnt : K.ops.length + K.res.length ≤ i
theorem KOk.room {K : Kn} {i : Nat} (h : KOk K i) (hi : i ≤ 1759218604391) : K.m.length + 4 ≤ 6200000000000 := by
  have := nodup_len h.nd (m := K.ops.map (·.1)) fun x hx => by
    obtain ⟨p, hp, rfl⟩ := List.mem_map.1 hx
    exact h.sub p hp
  simp only [List.length_map] at this
  have h1 := h.len
  have h2 := h.cnt
  omega
theorem KOk.nil : KOk Kn.nil 0 := ⟨val_mapE.1 rfl, fun p h => (by cases h), fun p h => (by cases h), List.nodup_nil, fun p h => (by cases h), Nat.le_refl _, Nat.le_refl _⟩
theorem chkE_ok {l : List OpT} (h : (chkE l == 0) = true) : allE l = 0 ∧ l.length ≤ 4 := by
  unfold chkE at h
  split at h
  · simp at h
  · rename_i c
    exact ⟨by simpa using h, by omega⟩
theorem good_ops {x : Sn} (h : goodS x = true) (hk : x.kind = 1) : allE x.ops = 0 ∧ x.ops.length ≤ 4 := by
  unfold goodS at h
  have : (x.kind == 1) = true := by simp [hk]
  rw [this, if_pos rfl, Bool.and_eq_true] at h
  exact chkE_ok h.2
theorem KOk.see {K : Kn} {i : Nat} (h : KOk K i) (hi : i ≤ 1759218604391) (x : Sn) : KOk (seeP K x).2 (i + 1) := by
  have up : KOk K (i + 1) := ⟨h.val, h.ops, h.res, h.nd, h.sub, h.len, Nat.le_succ_of_le h.cnt⟩
  unfold seeP
  split
  · exact up
  rename_i hg
  have hg : goodS x = true := by simpa using hg
  split
  · exact up
  rename_i ht
  split
  · rename_i hk
    obtain ⟨a1, a2⟩ := good_ops hg hk
    refine ⟨h.val, fun p hp => ?_, h.res, h.nd, fun p hp => ?_, h.len, by have := h.cnt; simp only [List.length_append, List.length_singleton]; omega⟩
    · rcases List.mem_append.1 hp with hp | hp
      · exact h.ops p hp
      · simp only [List.mem_singleton] at hp
        subst hp
        exact ⟨a1, a2⟩
    · rw [List.map_append]
      exact List.mem_append_left _ (h.sub p hp)
  · rename_i hk
    cases ha : lookR (x.client, x.req) K.ops with
    | none => exact up
    | some l =>
      have hm := lookR_mem ha
      obtain ⟨a1, a2⟩ := h.ops _ hm
      simp only at a1 a2 ⊢
      split
      · rename_i hk2
        split
        · exact up
        · have hd : ¬ (lookR (x.client, x.req) K.res).isSome = true := by
            unfold twiceP at ht
            have k1 : (x.kind == 1) = false := by simpa using hk
            have k2 : (x.kind == 2) = true := by simpa using hk2
            rw [k1, k2] at ht
            simpa using ht
          have hd2 : (x.client, x.req) ∉ K.res.map (·.1) := fun hc => hd (lookR_some.2 hc)
          refine ⟨val_ap h.val a1, h.ops, fun p hp => ?_, ?_, fun p hp => ?_, ?_, ?_⟩
          · rcases List.mem_append.1 hp with hp | hp
            · exact h.res p hp
            · simp only [List.mem_singleton] at hp
              subst hp
              refine ⟨by rw [apR_len]; exact a2, fun y hy => ?_⟩
              have := apR_len2 y hy
              have := h.room hi
              omega
          · rw [List.map_append, List.nodup_append]
            refine ⟨h.nd, by simp, fun a ha b hb => ?_⟩
            simp only [List.map_cons, List.map_nil, List.mem_singleton] at hb
            subst hb
            exact fun e => hd2 (e ▸ ha)
          · rcases List.mem_append.1 hp with hp | hp
            · exact h.sub p hp
            · simp only [List.mem_singleton] at hp
              subst hp
              exact List.mem_map_of_mem (f := Prod.fst) hm
          · have h1 := len_ap (l := l) (m := K.m)
            have h2 := h.len
            simp only [List.length_append, List.length_singleton]
            omega
          · have := h.cnt
            simp only [List.length_append, List.length_singleton]
            omega
      · split
        · exact up
        · split
          · exact up
          · exact ⟨h.val, h.ops, h.res, h.nd, h.sub, h.len, Nat.le_succ_of_le h.cnt⟩

/-! ### In memory -/
theorem kn_ld {t : St} {b : Nat} {cells : List Value} (h : t.heap[b]? = some (.row 0 cells .act)) {i : Nat} {c : Value} (hc : cells[i]? = some c) : aload false 1 (.pointer (some ⟨b, i, none⟩)) t = some c := by
  have : readRow t b = some cells := by
    unfold Ab.readRow
    rw [h]
  simp [aload, this, hc]
theorem kn_ad {N i : Nat} : afieldAddr i (.pointer (some ⟨N, 0, none⟩)) = some (.pointer (some ⟨N, i, none⟩)) := by simp [afieldAddr]
theorem kn_nil {N : Nat} : anilCheck (.pointer (some ⟨N, 0, none⟩)) = some (.pointer (some ⟨N, 0, none⟩)) := rfl
theorem mp_look {t : St} {b : Nat} {es : List (Value × Value × Nat)} {c : Nat} (h : t.heap[b]? = some (.map es c)) {z k : Value} {ok : Bool} {ky : TypeId} : alookup Try.prog ky z (.map (some b)) k ok t = alookupE Try.prog ky z es k ok := by
  simp only [alookup, h]
theorem put_ne {s : St} {b c : Nat} {B : Blk} (h : c ≠ b) : (s.putB b B).heap[c]? = s.heap[c]? := by
  simp only [St.putB]
  rw [List.getElem?_set_ne (Ne.symm h)]
theorem put_len {s : St} {b : Nat} {B : Blk} : (s.putB b B).heap.length = s.heap.length := by simp [St.putB]
theorem Ext.put {N b : Nat} {s t : St} {B : Blk} (h : Ext N s t) (hb : N ≤ b) : Ext N s (t.putB b B) := ⟨by rw [put_len]; exact h.1, fun c hc => by rw [put_ne (by omega)]; exact h.2 c hc⟩
theorem mp_new {A : Type} {Rl : Value → A → Prop} {t : St} {b : Nat} {es : List (Value × Value × Nat)} {c : Nat} {l : List (Rq × A)} {r : Rq} (h : t.heap[b]? = some (.map es c)) (he : Ents Rl es l) (hl : lookR r l = none) {v : Value} (hv : isTup v = false) : amapUpdate Try.prog 77 (.map (some b)) (rqV r) v t = some (t.putB b (.map (es ++ [(rqV r, v, c)]) (c + 1))) := by
  have h0 := key_rq (r := r) he
  rw [hl] at h0
  unfold amapUpdate
  rw [hv]
  simp only [Bool.false_eq_true, if_false, h]
  rw [if_pos (rq_fits _ _), h0]
  rfl
theorem mp_ent {A : Type} {Rl : Value → A → Prop} {t : St} {b : Nat} {es : List (Value × Value × Nat)} {c : Nat} {l : List (Rq × A)} {r : Rq} (h : t.heap[b]? = some (.map es c)) (he : Ents Rl es l) (hl : lookR r l = none) {z : Value} : amapEntry Try.prog 77 z (.map (some b)) (rqV r) t = some (.tuple #[z, goInt c], t.putB b (.map (es ++ [(rqV r, z, c)]) (c + 1))) := by
  have h0 := key_rq (r := r) he
  rw [hl] at h0
  unfold amapEntry
  simp only [h]
  rw [if_pos (rq_fits _ _), h0]
  rfl
theorem modify_last {A : Type} {f : A → A} {e : A} : ∀ {l : List A}, (l ++ [e]).modify l.length f = l ++ [f e]
  | [] => rfl
  | a :: l => by
    rw [List.cons_append, List.length_cons, List.modify_succ_cons, modify_last]
    rfl
theorem mp_fill {t : St} {b : Nat} {es : List (Value × Value × Nat)} {c d : Nat} {k z v : Value} (h : t.heap[b]? = some (.map (es ++ [(k, z, c)]) d)) (hc : ∀ e ∈ es, e.2.2 < c) (hv : isTup v = false) : aentryStore (.map (some b)) (goInt c) v t = some (t.putB b (.map (es ++ [(k, v, c)]) d)) := by
  unfold aentryStore
  rw [hv]
  simp only [Bool.false_eq_true, if_false, goInt, h]
  rw [born_last hc]
  simp only [modify_last]
theorem kn_st {t : St} {b : Nat} {N : Nat} {mv v : Value} (h : t.heap[b]? = some (.row 0 (kCells N mv) .act)) (hv : isLeaf v = true) (hc : (cellsV v).length = 1) (hcs : cellsV v = [v]) : astore 1 (.pointer (some ⟨b, 3, none⟩)) v t = some (t.putB b (.row 0 (kCells N v) .act)) := by
  unfold astore
  simp only [h, hcs, List.length_singleton]
  simp [kCells, putCells, hv, writeN, h]

/-! ### What is known, later -/
theorem KS.later {s0 t u : St} {K : Kn} {ea eb ec : List (Value × Value × Nat)} {ca cb cc : Nat} {mv : Value} (h : KS s0 t K ea eb ec ca cb cc mv) (hx : Ext t.heap.length t u) : KS s0 u K ea eb ec ca cb cc mv := by
  have lt : ∀ {b : Nat} {B : Blk}, t.heap[b]? = some B → u.heap[b]? = some B := fun {b B} hb => by rw [hx.2 b (List.getElem?_eq_some_iff.1 hb).1]; exact hb
  exact ⟨h.ext.trans (hx.less h.ext.1), lt h.a, lt h.b, lt h.c, lt h.k, (Hi.ext hx).own h.m, h.ra, h.rb.mono fun e p q => ⟨q.1, (Hi.ext hx).rdy q.2⟩, h.rc, h.bb⟩
theorem KS.addOps {s0 t : St} {K : Kn} {ea eb ec : List (Value × Value × Nat)} {ca cb cc : Nat} {mv : Value} (h : KS s0 t K ea eb ec ca cb cc mv) {r : Rq} {o : Value} {l : List OpT} (ho : listOf opC o s0 = some l) : KSt s0 (t.putB s0.heap.length (.map (ea ++ [(rqV r, o, ca)]) (ca + 1))) { K with ops := K.ops ++ [(r, l)] } := by
  have hlt := (List.getElem?_eq_some_iff.1 h.a).1
  have hi : Hi (s0.heap.length + 4) t (t.putB s0.heap.length (.map (ea ++ [(rqV r, o, ca)]) (ca + 1))) := Hi.put (by omega)
  exact ⟨_, eb, ec, ca + 1, cb, cc, mv, h.ext.put (Nat.le_refl _), putB_get hlt, by rw [put_ne (by omega)]; exact h.b, by rw [put_ne (by omega)]; exact h.c, by rw [put_ne (by omega)]; exact h.k, hi.own h.m, h.ra.add ho, h.rb.mono fun e p q => ⟨q.1, hi.rdy q.2⟩, h.rc, h.bb⟩
theorem KS.addTold {s0 t : St} {K : Kn} {ea eb ec : List (Value × Value × Nat)} {ca cb cc : Nat} {mv : Value} (h : KS s0 t K ea eb ec ca cb cc mv) {r : Rq} : KSt s0 (t.putB (s0.heap.length + 2) (.map (ec ++ [(rqV r, .bool true, cc)]) (cc + 1))) { K with told := K.told ++ [(r, ())] } := by
  have hlt := (List.getElem?_eq_some_iff.1 h.c).1
  have hi : Hi (s0.heap.length + 4) t (t.putB (s0.heap.length + 2) (.map (ec ++ [(rqV r, .bool true, cc)]) (cc + 1))) := Hi.put (by omega)
  exact ⟨ea, eb, _, ca, cb, cc + 1, mv, h.ext.put (by omega), by rw [put_ne (by omega)]; exact h.a, by rw [put_ne (by omega)]; exact h.b, putB_get hlt, by rw [put_ne (by omega)]; exact h.k, hi.own h.m, h.ra, h.rb.mono fun e p q => ⟨q.1, hi.rdy q.2⟩, h.rc.add rfl, h.bb⟩
theorem KS.addRes {s0 t : St} {K : Kn} {ea eb ec : List (Value × Value × Nat)} {ca cb cc : Nat} {mv : Value} (h : KS s0 t K ea eb ec ca cb cc mv) {r : Rq} {a v : Value} {m : List Rg} {l : List Rs} (ha : OwnC prC (s0.heap.length + 4) t a m) (hr : Rdy (s0.heap.length + 4) t v l) (hl : lookR r K.res = none) :
    ∃ t2 t3 t4 : St, astore 1 (.pointer (some ⟨s0.heap.length + 3, 3, none⟩)) a t = some t2 ∧ t.heap.length ≤ t2.heap.length ∧ amapEntry Try.prog 77 (.slice none 0 0) (.map (some (s0.heap.length + 1))) (rqV r) t2 = some (.tuple #[.slice none 0 0, goInt cb], t3) ∧ t2.heap.length ≤ t3.heap.length ∧ aentryStore (.map (some (s0.heap.length + 1))) (goInt cb) v t3 = some t4 ∧ t3.heap.length ≤ t4.heap.length ∧ KSt s0 t4 { K with m := m, res := K.res ++ [(r, l)] } := by
  have hla : isLeaf a = true ∧ cellsV a = [a] := by rcases ha with ⟨rfl, _⟩ | ⟨b, cap, rest, rfl, _⟩ <;> exact ⟨rfl, rfl⟩
  have hk := (List.getElem?_eq_some_iff.1 h.k).1
  have hb := (List.getElem?_eq_some_iff.1 h.b).1
  have s1 := kn_st h.k hla.1 (by rw [hla.2]; rfl) hla.2
  have b2 : (t.putB (s0.heap.length + 3) (.row 0 (kCells s0.heap.length a) .act)).heap[s0.heap.length + 1]? = some (.map eb cb) := by rw [put_ne (by omega)]; exact h.b
  have s2 := mp_ent (z := .slice none 0 0) b2 h.rb hl
  have b3 : ((t.putB (s0.heap.length + 3) (.row 0 (kCells s0.heap.length a) .act)).putB (s0.heap.length + 1) (.map (eb ++ [(rqV r, .slice none 0 0, cb)]) (cb + 1))).heap[s0.heap.length + 1]? = some (.map (eb ++ [(rqV r, .slice none 0 0, cb)]) (cb + 1)) := putB_get (by rw [put_len]; exact hb)
  have s3 := mp_fill b3 h.bb hr.istup
  have i1 : Hi (s0.heap.length + 4) t (t.putB (s0.heap.length + 3) (.row 0 (kCells s0.heap.length a) .act)) := Hi.put (by omega)
  have i2 : Hi (s0.heap.length + 4) t ((t.putB (s0.heap.length + 3) (.row 0 (kCells s0.heap.length a) .act)).putB (s0.heap.length + 1) (.map (eb ++ [(rqV r, .slice none 0 0, cb)]) (cb + 1))) := i1.trans (Hi.put (by omega))
  have i3 : Hi (s0.heap.length + 4) t (((t.putB (s0.heap.length + 3) (.row 0 (kCells s0.heap.length a) .act)).putB (s0.heap.length + 1) (.map (eb ++ [(rqV r, .slice none 0 0, cb)]) (cb + 1))).putB (s0.heap.length + 1) (.map (eb ++ [(rqV r, v, cb)]) (cb + 1))) := i2.trans (Hi.put (by omega))
  refine ⟨_, _, _, s1, Nat.le_of_eq (by simp only [put_len]), s2, Nat.le_of_eq (by simp only [put_len]), s3, Nat.le_of_eq (by simp only [put_len]), ea, eb ++ [(rqV r, v, cb)], ec, ca, cb + 1, cc, a, ?_⟩
  refine ⟨((h.ext.put (by omega)).put (by omega)).put (by omega), by rw [put_ne (by omega), put_ne (by omega), put_ne (by omega)]; exact h.a, putB_get (by rw [put_len, put_len]; exact hb), by rw [put_ne (by omega), put_ne (by omega), put_ne (by omega)]; exact h.c, by rw [put_ne (by omega), put_ne (by omega)]; exact putB_get hk, i3.own ha, h.ra, ?_, h.rc, fun e he => ?_⟩
  · exact Ents.add (h.rb.mono fun e p q => ⟨q.1, i3.rdy q.2⟩) (i3.rdy hr)
  · rcases List.mem_append.1 he with he | he
    · have := h.bb e he; omega
    · simp only [List.mem_singleton] at he
      subst he
      exact Nat.lt_succ_self _

end Go.Proofs.Ytccindbiodofmaa.Ab

/- One that is seen: the walk. -/
namespace Go.Proofs.Ytccindbiodofmaa.Ab
open Go
set_option maxRecDepth 100000

theorem lp_0 : afieldAddr 0 lptr = some lptr := rfl
theorem lp_3 : afieldAddr 3 lptr = some (.pointer (some ⟨0, 3, none⟩)) := rfl
theorem lp_5 : afieldAddr 5 lptr = some (.pointer (some ⟨0, 5, none⟩)) := rfl
theorem kn_ad0 {N : Nat} : afieldAddr 0 (.pointer (some ⟨N, 0, none⟩)) = some (.pointer (some ⟨N, 0, none⟩)) := kn_ad
theorem ex0 {v : Value} (b : Value) (h : isTup v = false) : aextract 0 (.tuple #[v, b]) = some v := by simp [aextract, h]
theorem ex1 {v : Value} {b : Bool} : aextract 1 (.tuple #[v, .bool b]) = some (.bool b) := Eq.trans rfl (Eq.refl _)
theorem lit_see {a b c : Bool} {k : Int} : litF .i64 (.bool false) [(1, .bool a), (2, .bool b), (3, .bool c)] (.int .i64 k) = some (.bool (twiceP k a b c)) := by
  have hc : ([(1, .bool a), (2, .bool b), (3, .bool c)] : List (Int × Value)).all (fun e => constOk e.2) = true := rfl
  unfold litF
  rw [if_pos hc]
  simp only [if_true, litG, twiceP, beq_iff_eq]
  split
  · rfl
  · split
    · rfl
    · split <;> rfl
theorem ops_tup {s : St} {v : Value} {l : List OpT} (h : listOf opC v s = some l) : isTup v = false := by
  obtain ⟨a, cap, rfl⟩ := list_shape h
  rfl
/-- what the three maps say of a request -/
theorem asks {s0 t : St} {K : Kn} {ea eb ec : List (Value × Value × Nat)} {ca cb cc : Nat} {mv : Value} (h : KS s0 t K ea eb ec ca cb cc mv) (r : Rq) :
    (∃ v, isTup v = false ∧ (∀ ok, alookupE Try.prog 77 (.slice none 0 0) ea (rqV r) ok = some (cond ok (.tuple #[v, .bool (lookR r K.ops).isSome]) v)) ∧ ∀ l, lookR r K.ops = some l → listOf opC v s0 = some l) ∧
    (∃ v, isTup v = false ∧ (∀ ok, alookupE Try.prog 77 (.slice none 0 0) eb (rqV r) ok = some (cond ok (.tuple #[v, .bool (lookR r K.res).isSome]) v)) ∧ RdyL t v ((lookR r K.res).getD [])) ∧
    (∀ ok, alookupE Try.prog 77 (.bool false) ec (rqV r) ok = some (cond ok (.tuple #[.bool (lookR r K.told).isSome, .bool (lookR r K.told).isSome]) (.bool (lookR r K.told).isSome))) := by
  refine ⟨?_, ?_, ?_⟩
  · have := look_rq (r := r) h.ra (.slice none 0 0)
    cases e : lookR r K.ops with
    | none => rw [e] at this; exact ⟨_, rfl, this, fun l hl => (by cases hl)⟩
    | some l =>
      rw [e] at this
      obtain ⟨v, h1, h2⟩ := this
      exact ⟨v, ops_tup h2, h1, fun l' hl => (by cases hl; exact h2)⟩
  · have := look_rq (r := r) h.rb (.slice none 0 0)
    cases e : lookR r K.res with
    | none => rw [e] at this; exact ⟨_, rfl, this, [], rfl, rfl, fun x hx => (by cases hx)⟩
    | some l =>
      rw [e] at this
      obtain ⟨v, h1, h2⟩ := this
      exact ⟨v, h2.istup, h1, h2.toL⟩
  · have := look_rq (r := r) h.rc (.bool false)
    cases e : lookR r K.told with
    | none => rw [e] at this; exact this
    | some l =>
      rw [e] at this
      obtain ⟨v, h1, rfl⟩ := this
      exact h1
theorem none_of {A : Type} {x : Option A} (h : x.isSome = false) : x = none := by cases x with
  | none => rfl
  | some a => cases h

theorem see_run {s0 t : St} {K : Kn} {ea eb ec : List (Value × Value × Nat)} {ca cb cc : Nat} {mv : Value} (h : KS s0 t K ea eb ec ca cb cc mv) {i : Nat} (hk : KOk K i) (hi : i ≤ 1759218604391) {x : Sn} {o r : Value} (ho : listOf opC o s0 = some x.ops) (hol : x.ops.length < 140737488355328) (hr : RdyL s0 r x.res) :
    ∃ t', (run Try.prog (libL libT) hints) 28 [.pointer (some ⟨s0.heap.length + 3, 0, none⟩), snV x o r] t = some (.int .i64 (seeP K x).1, t') ∧ KSt s0 t' (seeP K x).2 := by
  have hot := list_ext h.ext ho
  have hrt := hr.ext h.ext
  have hck := ckS_run (s := t) hot hol (rdy_leaf hrt)
  have hbx := sn_box (x := x) (ops_leaf ho) (rdy_leaf hr)
  have hN0 : aload false 1 (.pointer (some ⟨s0.heap.length + 3, 0, none⟩)) t = some (.map (some s0.heap.length)) := kn_ld h.k rfl
  have hN1 : aload false 1 (.pointer (some ⟨s0.heap.length + 3, 1, none⟩)) t = some (.map (some (s0.heap.length + 1))) := kn_ld h.k rfl
  have hN2 : aload false 1 (.pointer (some ⟨s0.heap.length + 3, 2, none⟩)) t = some (.map (some (s0.heap.length + 2))) := kn_ld h.k rfl
  have hN3 : aload false 1 (.pointer (some ⟨s0.heap.length + 3, 3, none⟩)) t = some mv := kn_ld h.k rfl
  obtain ⟨⟨vo, hvo, ho1, ho2⟩, ⟨vr, hvr, hr1, hr2⟩, ht1⟩ := asks h (x.client, x.req)
  have stay : KSt s0 t K := ⟨_, _, _, _, _, _, _, h⟩
  have z0 : ((0 : Int) != 0) = false := rfl
  have z1 : ((1 : Int) != 0) = true := rfl
  cases hg : goodS x with
  | false =>
    have e : seeP K x = (1, K) := by unfold seeP; rw [if_pos hg]
    rw [e]
    refine ⟨t, judge_known_see_of rfl ?_, stay⟩
    unfold judge_known_see
    simp only [hg, Bool.false_eq_true, if_false, z1, hN0, hN1, hN2, kn_ad, kn_nil, kn_ad0, lp_0, lp_3, lp_5, judge_check_call, hck, hbx, sn_all, sn_0, sn_1, sn_2, sn_3, sn_4, sn_5, rq_build, rq_st, rq_all, mp_look h.a, mp_look h.b, mp_look h.c, ho1, hr1, ht1, cond_true, cond_false, ex0 _ hvo, ex0 _ hvr, ex1, own_id, lit_see, judge_known_see.j0, judge_known_see.j1, n_bind, n_map, getL_0, getL_1, getL_2, getL_3, getL_4, getL_5, getL_6, getL_7, getL_8, getL_9, getL_10, getL_11, getL_12, condV_t, condV_f, guardV_tt, guardV_ff, guardV_tf, guardV_ft, guardV_u, apick_t, apick_f, exV_exit, exV_ret, lookE_same, joinK_eq, seqA_n, seqA_e, seqA_r, e_add, e_sub, e_mul, e_eql, e_neq, e_lss, e_leq, e_gtr, e_geq, e_conv, e_not, e_neg, and_guard, or_guard, retV]
    rfl
  | true =>
  have hgn : ¬ goodS x = false := by rw [hg]; simp
  simp only [hg, if_true] at hck
  cases ht : twiceP x.kind (lookR (x.client, x.req) K.ops).isSome (lookR (x.client, x.req) K.res).isSome (lookR (x.client, x.req) K.told).isSome with
  | true =>
    have e : seeP K x = (6, K) := by unfold seeP; rw [if_neg hgn, if_pos ht]
    rw [e]
    refine ⟨t, judge_known_see_of rfl ?_, stay⟩
    unfold judge_known_see
    simp only [z0, ht, hN0, hN1, hN2, kn_ad, kn_nil, kn_ad0, lp_0, lp_3, lp_5, judge_check_call, hck, hbx, sn_all, sn_0, sn_1, sn_2, sn_3, sn_4, sn_5, rq_build, rq_st, rq_all, mp_look h.a, mp_look h.b, mp_look h.c, ho1, hr1, ht1, cond_true, cond_false, ex0 _ hvo, ex0 _ hvr, ex1, own_id, lit_see, judge_known_see.j0, judge_known_see.j1, n_bind, n_map, getL_0, getL_1, getL_2, getL_3, getL_4, getL_5, getL_6, getL_7, getL_8, getL_9, getL_10, getL_11, getL_12, condV_t, condV_f, guardV_tt, guardV_ff, guardV_tf, guardV_ft, guardV_u, apick_t, apick_f, exV_exit, exV_ret, lookE_same, joinK_eq, seqA_n, seqA_e, seqA_r, e_add, e_sub, e_mul, e_eql, e_neq, e_lss, e_leq, e_gtr, e_geq, e_conv, e_not, e_neg, and_guard, or_guard, retV]
    rfl
  | false =>
  have htn : ¬ twiceP x.kind (lookR (x.client, x.req) K.ops).isSome (lookR (x.client, x.req) K.res).isSome (lookR (x.client, x.req) K.told).isSome = true := by rw [ht]; simp
  cases hk1 : (x.kind == 1) with
  | true =>
    have hk1' : x.kind = 1 := by simpa using hk1
    have hno : lookR (x.client, x.req) K.ops = none := none_of (by unfold twiceP at ht; rw [hk1] at ht; simpa using ht)
    have e : seeP K x = (0, { K with ops := K.ops ++ [((x.client, x.req), x.ops)] }) := by unfold seeP; rw [if_neg hgn, if_neg htn, if_pos hk1']
    rw [e]
    refine ⟨_, judge_known_see_of rfl ?_, h.addOps (r := (x.client, x.req)) ho⟩
    have hup := mp_new h.a h.ra hno (ops_tup ho)
    unfold judge_known_see
    simp only [z0, ht, hk1, hup, own_ok (Nat.le_of_eq put_len.symm), hN0, hN1, hN2, kn_ad, kn_nil, kn_ad0, lp_0, lp_3, lp_5, judge_check_call, hck, hbx, sn_all, sn_0, sn_1, sn_2, sn_3, sn_4, sn_5, rq_build, rq_st, rq_all, mp_look h.a, mp_look h.b, mp_look h.c, ho1, hr1, ht1, cond_true, cond_false, ex0 _ hvo, ex0 _ hvr, ex1, own_id, lit_see, judge_known_see.j0, judge_known_see.j1, n_bind, n_map, getL_0, getL_1, getL_2, getL_3, getL_4, getL_5, getL_6, getL_7, getL_8, getL_9, getL_10, getL_11, getL_12, condV_t, condV_f, guardV_tt, guardV_ff, guardV_tf, guardV_ft, guardV_u, apick_t, apick_f, exV_exit, exV_ret, lookE_same, joinK_eq, seqA_n, seqA_e, seqA_r, e_add, e_sub, e_mul, e_eql, e_neq, e_lss, e_leq, e_gtr, e_geq, e_conv, e_not, e_neg, and_guard, or_guard, retV]
    rfl
  | false =>
  have hk1n : ¬ x.kind = 1 := by simpa using hk1
  cases hlo : lookR (x.client, x.req) K.ops with
  | none =>
    have e : seeP K x = (5, K) := by unfold seeP; rw [if_neg hgn, if_neg htn, if_neg hk1n, hlo]
    rw [e]
    refine ⟨t, judge_known_see_of rfl ?_, stay⟩
    have hs : (lookR (x.client, x.req) K.ops).isSome = false := by rw [hlo]; rfl
    rw [hs] at ho1 ht
    unfold judge_known_see
    simp only [z0, ht, hk1, Bool.not_false, hN0, hN1, hN2, kn_ad, kn_nil, kn_ad0, lp_0, lp_3, lp_5, judge_check_call, hck, hbx, sn_all, sn_0, sn_1, sn_2, sn_3, sn_4, sn_5, rq_build, rq_st, rq_all, mp_look h.a, mp_look h.b, mp_look h.c, ho1, hr1, ht1, cond_true, cond_false, ex0 _ hvo, ex0 _ hvr, ex1, own_id, lit_see, judge_known_see.j0, judge_known_see.j1, n_bind, n_map, getL_0, getL_1, getL_2, getL_3, getL_4, getL_5, getL_6, getL_7, getL_8, getL_9, getL_10, getL_11, getL_12, condV_t, condV_f, guardV_tt, guardV_ff, guardV_tf, guardV_ft, guardV_u, apick_t, apick_f, exV_exit, exV_ret, lookE_same, joinK_eq, seqA_n, seqA_e, seqA_r, e_add, e_sub, e_mul, e_eql, e_neq, e_lss, e_leq, e_gtr, e_geq, e_conv, e_not, e_neg, and_guard, or_guard, retV]
    rfl
  | some l =>
  have hs : (lookR (x.client, x.req) K.ops).isSome = true := by rw [hlo]; rfl
  rw [hs] at ho1 ht
  have e0 : seeP K x = (if x.kind = 2 then
      if (lookR (x.client, x.req) K.told).isSome = true then (4, K) else (0, { K with m := apM K.m l, res := K.res ++ [((x.client, x.req), apR K.m l)] })
    else
      if ((x.code == 1) != (lookR (x.client, x.req) K.res).isSome) = true then (4, K) else
      if formB x ((lookR (x.client, x.req) K.res).getD []) = true then (11, K) else (0, { K with told := K.told ++ [((x.client, x.req), ())] })) := by unfold seeP; rw [if_neg hgn, if_neg htn, if_neg hk1n, hlo]
  rw [e0]
  cases hk2 : (x.kind == 2) with
  | true =>
    have hk2' : x.kind = 2 := by simpa using hk2
    rw [if_pos hk2']
    cases hto : (lookR (x.client, x.req) K.told).isSome with
    | true =>
      rw [if_pos rfl]
      rw [hto] at ht1 ht
      refine ⟨t, judge_known_see_of rfl ?_, stay⟩
      unfold judge_known_see
      simp only [z0, ht, hk1, hk2, Bool.not_true, hN0, hN1, hN2, kn_ad, kn_nil, kn_ad0, lp_0, lp_3, lp_5, judge_check_call, hck, hbx, sn_all, sn_0, sn_1, sn_2, sn_3, sn_4, sn_5, rq_build, rq_st, rq_all, mp_look h.a, mp_look h.b, mp_look h.c, ho1, hr1, ht1, cond_true, cond_false, ex0 _ hvo, ex0 _ hvr, ex1, own_id, lit_see, judge_known_see.j0, judge_known_see.j1, n_bind, n_map, getL_0, getL_1, getL_2, getL_3, getL_4, getL_5, getL_6, getL_7, getL_8, getL_9, getL_10, getL_11, getL_12, condV_t, condV_f, guardV_tt, guardV_ff, guardV_tf, guardV_ft, guardV_u, apick_t, apick_f, exV_exit, exV_ret, lookE_same, joinK_eq, seqA_n, seqA_e, seqA_r, e_add, e_sub, e_mul, e_eql, e_neq, e_lss, e_leq, e_gtr, e_geq, e_conv, e_not, e_neg, and_guard, or_guard, retV]
      rfl
    | false =>
      rw [if_neg (by simp)]
      rw [hto] at ht1 ht
      have hnr : lookR (x.client, x.req) K.res = none := none_of (by unfold twiceP at ht; rw [hk1, hk2] at ht; simpa using ht)
      have hm := lookR_mem hlo
      obtain ⟨a1, a2⟩ := hk.ops _ hm
      simp only at a1 a2
      have hroom := hk.room hi
      have hap := t_apply h.m.list (list_ext h.ext (ho2 l hlo)) (by omega) (by omega)
      rw [if_pos (apE_join hk.val a1)] at hap
      obtain ⟨a, rr, t1, g1, g2, g3, g4⟩ := hap
      have hl4 : s0.heap.length + 4 ≤ t.heap.length := by have := (List.getElem?_eq_some_iff.1 h.k).1; omega
      have h1 := h.later g4
      obtain ⟨t2, t3, t4, q1, q2, q3, q4, q5, q6, q7⟩ := h1.addRes (r := (x.client, x.req)) (g2.mono hl4) (g3.mono hl4) hnr
      have hN1' : aload false 1 (.pointer (some ⟨s0.heap.length + 3, 1, none⟩)) t1 = some (.map (some (s0.heap.length + 1))) := kn_ld h1.k rfl
      have hk3 : (x.kind == 3) = false := by rw [hk2']; rfl
      have ea2 : aextract 1 (.tuple #[.slice none 0 0, goInt cb]) = some (goInt cb) := rfl
      refine ⟨t4, judge_known_see_of rfl ?_, q7⟩
      unfold judge_known_see
      simp only [z0, ht, hk1, hk2, hk3, Bool.not_true, hN3, op_Apply_call, g1, y3_0 g2.istup, y3_1 g3.istup, y3_2, hN1', q1, own_ok q2, q3, own_ok q4, ea2, q5, own_ok q6, hN0, hN1, hN2, kn_ad, kn_nil, kn_ad0, lp_0, lp_3, lp_5, judge_check_call, hck, hbx, sn_all, sn_0, sn_1, sn_2, sn_3, sn_4, sn_5, rq_build, rq_st, rq_all, mp_look h.a, mp_look h.b, mp_look h.c, ho1, hr1, ht1, cond_true, cond_false, ex0 _ hvo, ex0 _ hvr, ex1, own_id, lit_see, judge_known_see.j0, judge_known_see.j1, n_bind, n_map, getL_0, getL_1, getL_2, getL_3, getL_4, getL_5, getL_6, getL_7, getL_8, getL_9, getL_10, getL_11, getL_12, condV_t, condV_f, guardV_tt, guardV_ff, guardV_tf, guardV_ft, guardV_u, apick_t, apick_f, exV_exit, exV_ret, lookE_same, joinK_eq, seqA_n, seqA_e, seqA_r, e_add, e_sub, e_mul, e_eql, e_neq, e_lss, e_leq, e_gtr, e_geq, e_conv, e_not, e_neg, and_guard, or_guard, retV]
      rfl
  | false =>
    have hk2n : ¬ x.kind = 2 := by simpa using hk2
    rw [if_neg hk2n]
    have hk3 : (x.kind == 3) = true ∧ ((x.code == 1) = true ∨ ((x.code == 1) = false ∧ (x.code == 2) = true)) := by
      unfold goodS at hg
      rw [hk1, hk2] at hg
      cases c3 : (x.kind == 3) with
      | false => rw [c3] at hg; simp at hg
      | true =>
        rw [c3] at hg
        simp only [Bool.false_eq_true, if_false, if_true, Bool.and_eq_true, Bool.or_eq_true] at hg
        refine ⟨rfl, ?_⟩
        cases c1 : (x.code == 1) with
        | true => exact .inl rfl
        | false =>
          rw [c1] at hg
          exact .inr ⟨rfl, hg.2.resolve_left (by simp)⟩
    obtain ⟨hk3, hcd⟩ := hk3
    have ne_b : ∀ (o1 o2 : Operand) (a b : Bool), abin Try.prog .neq 4 o1 o2 (.bool a) (.bool b) = some (.bool (a != b)) := ne_bool
    cases hto : ((x.code == 1) != (lookR (x.client, x.req) K.res).isSome) with
    | true =>
      rw [if_pos rfl]
      refine ⟨t, judge_known_see_of rfl ?_, stay⟩
      unfold judge_known_see
      simp only [z0, ht, hk1, hk2, hk3, ne_b, hto, Bool.not_true, hN0, hN1, hN2, kn_ad, kn_nil, kn_ad0, lp_0, lp_3, lp_5, judge_check_call, hck, hbx, sn_all, sn_0, sn_1, sn_2, sn_3, sn_4, sn_5, rq_build, rq_st, rq_all, mp_look h.a, mp_look h.b, mp_look h.c, ho1, hr1, ht1, cond_true, cond_false, ex0 _ hvo, ex0 _ hvr, ex1, own_id, lit_see, judge_known_see.j0, judge_known_see.j1, n_bind, n_map, getL_0, getL_1, getL_2, getL_3, getL_4, getL_5, getL_6, getL_7, getL_8, getL_9, getL_10, getL_11, getL_12, condV_t, condV_f, guardV_tt, guardV_ff, guardV_tf, guardV_ft, guardV_u, apick_t, apick_f, exV_exit, exV_ret, lookE_same, joinK_eq, seqA_n, seqA_e, seqA_r, e_add, e_sub, e_mul, e_eql, e_neq, e_lss, e_leq, e_gtr, e_geq, e_conv, e_not, e_neg, and_guard, or_guard, retV]
      rfl
    | false =>
      rw [if_neg (by simp)]
      have hrl : ((lookR (x.client, x.req) K.res).getD []).length < 140737488355328 ∧ ∀ y ∈ (lookR (x.client, x.req) K.res).getD [], y.2.2.length < 140737488355328 := by
        cases e : lookR (x.client, x.req) K.res with
        | none => exact ⟨by simp, fun y hy => (by cases hy)⟩
        | some q =>
          obtain ⟨b1, b2⟩ := hk.res _ (lookR_mem e)
          simp only [Option.getD_some]
          exact ⟨by simp only at b1; omega, fun y hy => by have := b2 y hy; omega⟩
      have hsm := k_sameJ hr2 hrt hrl.1 hrl.2
      have hlen : alenV (.slice 82) r t = some (.int .i64 ((x.res.length : Nat) : Int)) := by
        obtain ⟨q, hq, hc, _⟩ := hrt
        rw [cells_alen hc, ← hq, List.length_map]
      have hgt : decide (((x.res.length : Nat) : Int) > 0) = decide (0 < x.res.length) := by
        by_cases c : 0 < x.res.length
        · rw [decide_eq_true c, decide_eq_true (by omega)]
        · rw [decide_eq_false c, decide_eq_false (by omega)]
      cases hf : formB x ((lookR (x.client, x.req) K.res).getD []) with
      | true =>
        rw [if_pos rfl]
        refine ⟨t, judge_known_see_of rfl ?_, stay⟩
        rcases hcd with c1 | ⟨c1, c2⟩
        · unfold formB at hf
          rw [c1, if_pos rfl] at hf
          rw [c1] at hto
          unfold judge_known_see
          simp only [z0, ht, hk1, hk2, hk3, c1, ne_b, hto, judge_same_call, hsm, hf, Bool.not_true, hN0, hN1, hN2, kn_ad, kn_nil, kn_ad0, lp_0, lp_3, lp_5, judge_check_call, hck, hbx, sn_all, sn_0, sn_1, sn_2, sn_3, sn_4, sn_5, rq_build, rq_st, rq_all, mp_look h.a, mp_look h.b, mp_look h.c, ho1, hr1, ht1, cond_true, cond_false, ex0 _ hvo, ex0 _ hvr, ex1, own_id, lit_see, judge_known_see.j0, judge_known_see.j1, n_bind, n_map, getL_0, getL_1, getL_2, getL_3, getL_4, getL_5, getL_6, getL_7, getL_8, getL_9, getL_10, getL_11, getL_12, condV_t, condV_f, guardV_tt, guardV_ff, guardV_tf, guardV_ft, guardV_u, apick_t, apick_f, exV_exit, exV_ret, lookE_same, joinK_eq, seqA_n, seqA_e, seqA_r, e_add, e_sub, e_mul, e_eql, e_neq, e_lss, e_leq, e_gtr, e_geq, e_conv, e_not, e_neg, and_guard, or_guard, retV]
          rfl
        · unfold formB at hf
          rw [c1, if_neg (by simp)] at hf
          rw [c1] at hto
          unfold judge_known_see
          simp only [z0, ht, hk1, hk2, hk3, c1, c2, ne_b, hto, hlen, hgt, hf, Bool.not_true, hN0, hN1, hN2, kn_ad, kn_nil, kn_ad0, lp_0, lp_3, lp_5, judge_check_call, hck, hbx, sn_all, sn_0, sn_1, sn_2, sn_3, sn_4, sn_5, rq_build, rq_st, rq_all, mp_look h.a, mp_look h.b, mp_look h.c, ho1, hr1, ht1, cond_true, cond_false, ex0 _ hvo, ex0 _ hvr, ex1, own_id, lit_see, judge_known_see.j0, judge_known_see.j1, n_bind, n_map, getL_0, getL_1, getL_2, getL_3, getL_4, getL_5, getL_6, getL_7, getL_8, getL_9, getL_10, getL_11, getL_12, condV_t, condV_f, guardV_tt, guardV_ff, guardV_tf, guardV_ft, guardV_u, apick_t, apick_f, exV_exit, exV_ret, lookE_same, joinK_eq, seqA_n, seqA_e, seqA_r, e_add, e_sub, e_mul, e_eql, e_neq, e_lss, e_leq, e_gtr, e_geq, e_conv, e_not, e_neg, and_guard, or_guard, retV]
          rfl
      | false =>
        rw [if_neg (by simp)]
        have hnt : lookR (x.client, x.req) K.told = none := none_of (by unfold twiceP at ht; rw [hk1, hk2, hk3] at ht; simpa using ht)
        have hup := mp_new h.c h.rc hnt (v := .bool true) rfl
        refine ⟨_, judge_known_see_of rfl ?_, h.addTold (r := (x.client, x.req))⟩
        rcases hcd with c1 | ⟨c1, c2⟩
        · unfold formB at hf
          rw [c1, if_pos rfl] at hf
          rw [c1] at hto
          have c2 : (x.code == 2) = false := by
            have : x.code = 1 := by simpa using c1
            rw [this]
            rfl
          unfold judge_known_see
          simp only [z0, ht, hk1, hk2, hk3, c1, c2, ne_b, hto, judge_same_call, hsm, hf, hup, own_ok (Nat.le_of_eq put_len.symm), Bool.not_true, hN0, hN1, hN2, kn_ad, kn_nil, kn_ad0, lp_0, lp_3, lp_5, judge_check_call, hck, hbx, sn_all, sn_0, sn_1, sn_2, sn_3, sn_4, sn_5, rq_build, rq_st, rq_all, mp_look h.a, mp_look h.b, mp_look h.c, ho1, hr1, ht1, cond_true, cond_false, ex0 _ hvo, ex0 _ hvr, ex1, own_id, lit_see, judge_known_see.j0, judge_known_see.j1, n_bind, n_map, getL_0, getL_1, getL_2, getL_3, getL_4, getL_5, getL_6, getL_7, getL_8, getL_9, getL_10, getL_11, getL_12, condV_t, condV_f, guardV_tt, guardV_ff, guardV_tf, guardV_ft, guardV_u, apick_t, apick_f, exV_exit, exV_ret, lookE_same, joinK_eq, seqA_n, seqA_e, seqA_r, e_add, e_sub, e_mul, e_eql, e_neq, e_lss, e_leq, e_gtr, e_geq, e_conv, e_not, e_neg, and_guard, or_guard, retV]
          rfl
        · unfold formB at hf
          rw [c1, if_neg (by simp)] at hf
          rw [c1] at hto
          unfold judge_known_see
          simp only [z0, ht, hk1, hk2, hk3, c1, c2, ne_b, hto, hlen, hgt, hf, hup, own_ok (Nat.le_of_eq put_len.symm), Bool.not_true, hN0, hN1, hN2, kn_ad, kn_nil, kn_ad0, lp_0, lp_3, lp_5, judge_check_call, hck, hbx, sn_all, sn_0, sn_1, sn_2, sn_3, sn_4, sn_5, rq_build, rq_st, rq_all, mp_look h.a, mp_look h.b, mp_look h.c, ho1, hr1, ht1, cond_true, cond_false, ex0 _ hvo, ex0 _ hvr, ex1, own_id, lit_see, judge_known_see.j0, judge_known_see.j1, n_bind, n_map, getL_0, getL_1, getL_2, getL_3, getL_4, getL_5, getL_6, getL_7, getL_8, getL_9, getL_10, getL_11, getL_12, condV_t, condV_f, guardV_tt, guardV_ff, guardV_tf, guardV_ft, guardV_u, apick_t, apick_f, exV_exit, exV_ret, lookE_same, joinK_eq, seqA_n, seqA_e, seqA_r, e_add, e_sub, e_mul, e_eql, e_neq, e_lss, e_leq, e_gtr, e_geq, e_conv, e_not, e_neg, and_guard, or_guard, retV]
          rfl

end Go.Proofs.Ytccindbiodofmaa.Ab

/- All that are seen, one after another; Judge and Replay. -/
namespace Go.Proofs.Ytccindbiodofmaa.Ab
open Go
set_option maxRecDepth 100000

def judgeP : List Sn → Nat → Kn → Int × Int × Kn
  | [], _, K => (-1, 0, K)
  | x :: l, i, K => if (seeP K x).1 = 0 then judgeP l (i + 1) (seeP K x).2 else ((i : Int), (seeP K x).1, (seeP K x).2)
abbrev pK (s : St) : Value := .pointer (some ⟨s.heap.length + 3, 0, none⟩)
def fresh4 (s : St) : St := (((s.push (.map [] 0)).push (.map [] 0)).push (.map [] 0)).push (.row 0 (kCells s.heap.length (.slice none 0 0)) .act)
theorem fresh_ks (s : St) : KS s (fresh4 s) Kn.nil [] [] [] 0 0 0 (.slice none 0 0) := by
  have e0 : (fresh4 s).heap = s.heap ++ [.map [] 0, .map [] 0, .map [] 0, .row 0 (kCells s.heap.length (.slice none 0 0)) .act] := by
    simp [fresh4, St.push]
  refine ⟨⟨by rw [e0]; simp, fun b hb => by rw [e0, List.getElem?_append_left hb]⟩, ?_, ?_, ?_, ?_, .inl ⟨rfl, rfl⟩, trivial, trivial, trivial, fun e he => (by cases he)⟩
  · rw [e0, List.getElem?_append_right (Nat.le_refl _), Nat.sub_self]; rfl
  · rw [e0, List.getElem?_append_right (by omega), show s.heap.length + 1 - s.heap.length = 1 by omega]; rfl
  · rw [e0, List.getElem?_append_right (by omega), show s.heap.length + 2 - s.heap.length = 2 by omega]; rfl
  · rw [e0, List.getElem?_append_right (by omega), show s.heap.length + 3 - s.heap.length = 3 by omega]; rfl
theorem none_run (s : St) : (run Try.prog (libL libT) hints) 18 [] s = some (pK s, fresh4 s) := by
  refine judge_none_of rfl ?_
  have hb : ∀ a b c : Nat, abuild Try.prog 61 [(0, .map (some a)), (1, .map (some b)), (2, .map (some c))] = some (.agg #[.map (some a), .map (some b), .map (some c), .slice none 0 0]) := fun a b c => by kernel_rfl
  have l1 : ∀ B : Blk, (s.push B).heap.length = s.heap.length + 1 := fun B => by simp [St.push]
  have l2 : ∀ B C : Blk, ((s.push B).push C).heap.length = s.heap.length + 2 := fun B C => by simp [St.push]
  have l3 : ∀ B C D : Blk, (((s.push B).push C).push D).heap.length = s.heap.length + 3 := fun B C D => by simp [St.push]
  have ha : ∀ a b c : Nat, (cellsV (.agg #[.map (some a), .map (some b), .map (some c), .slice none 0 0])).all isLeaf = true := fun a b c => rfl
  unfold judge_none
  simp only [amakeMap, l1, l2, hb, anew, ha, if_true, l3, n_bind, n_map, getL_0, getL_1, getL_2, getL_3, getL_4, getL_5, getL_6, getL_7, getL_8, getL_9, getL_10, getL_11, getL_12, condV_t, condV_f, guardV_tt, guardV_ff, guardV_tf, guardV_ft, guardV_u, apick_t, apick_f, exV_exit, exV_ret, lookE_same, joinK_eq, seqA_n, seqA_e, seqA_r, e_add, e_sub, e_mul, e_eql, e_neq, e_lss, e_leq, e_gtr, e_geq, e_conv, e_not, e_neg, and_guard, or_guard, retV]
  rfl
theorem begin_run {s0 t : St} {K : Kn} (h : KSt s0 t K) : ∃ t', (run Try.prog (libL libT) hints) 27 [pK s0] t = some (.tuple #[], t') ∧ KSt s0 t' Kn.nil := by
  obtain ⟨ea, eb, ec, ca, cb, cc, mv, h⟩ := h
  have hlt := (List.getElem?_eq_some_iff.1 h.k).1
  have a0 : aload false 1 (.pointer (some ⟨s0.heap.length + 3, 0, none⟩)) t = some (.map (some s0.heap.length)) := kn_ld h.k rfl
  have c0 : aclearM (.map (some s0.heap.length)) t = some (t.putB s0.heap.length (.map [] ca)) := by simp only [aclearM, h.a]
  generalize ht1 : t.putB s0.heap.length (.map [] ca) = t1 at c0
  have n1 : ∀ b, b ≠ s0.heap.length → t1.heap[b]? = t.heap[b]? := fun b hb => by rw [← ht1]; exact put_ne hb
  have a1 : aload false 1 (.pointer (some ⟨s0.heap.length + 3, 1, none⟩)) t1 = some (.map (some (s0.heap.length + 1))) := kn_ld (by rw [n1 _ (by omega)]; exact h.k) rfl
  have c1 : aclearM (.map (some (s0.heap.length + 1))) t1 = some (t1.putB (s0.heap.length + 1) (.map [] cb)) := by simp only [aclearM, n1 (s0.heap.length + 1) (by omega), h.b]
  generalize ht2 : t1.putB (s0.heap.length + 1) (.map [] cb) = t2 at c1
  have n2 : ∀ b, b ≠ s0.heap.length + 1 → t2.heap[b]? = t1.heap[b]? := fun b hb => by rw [← ht2]; exact put_ne hb
  have a2 : aload false 1 (.pointer (some ⟨s0.heap.length + 3, 2, none⟩)) t2 = some (.map (some (s0.heap.length + 2))) := kn_ld (by rw [n2 _ (by omega), n1 _ (by omega)]; exact h.k) rfl
  have c2 : aclearM (.map (some (s0.heap.length + 2))) t2 = some (t2.putB (s0.heap.length + 2) (.map [] cc)) := by simp only [aclearM, n2 (s0.heap.length + 2) (by omega), n1 (s0.heap.length + 2) (by omega), h.c]
  generalize ht3 : t2.putB (s0.heap.length + 2) (.map [] cc) = t3 at c2
  have n3 : ∀ b, b ≠ s0.heap.length + 2 → t3.heap[b]? = t2.heap[b]? := fun b hb => by rw [← ht3]; exact put_ne hb
  have g1 : t1.heap.length = t.heap.length := by rw [← ht1]; exact put_len
  have g2 : t2.heap.length = t.heap.length := by rw [← ht2, put_len]; exact g1
  have g3 : t3.heap.length = t.heap.length := by rw [← ht3, put_len]; exact g2
  have c3 : astore 1 (.pointer (some ⟨s0.heap.length + 3, 3, none⟩)) (.slice none 0 0) t3 = some (t3.putB (s0.heap.length + 3) (.row 0 (kCells s0.heap.length (.slice none 0 0)) .act)) := kn_st (mv := mv) (by rw [n3 _ (by omega), n2 _ (by omega), n1 _ (by omega)]; exact h.k) rfl rfl rfl
  refine ⟨t3.putB (s0.heap.length + 3) (.row 0 (kCells s0.heap.length (.slice none 0 0)) .act), judge_known_begin_of rfl ?_, [], [], [], ca, cb, cc, .slice none 0 0, ?_⟩
  · unfold judge_known_begin pK
    simp only [kn_nil, kn_ad0, kn_ad, a0, c0, a1, c1, a2, c2, c3, n_bind, n_map, getL_0, getL_1, getL_2, getL_3, getL_4, getL_5, getL_6, getL_7, getL_8, getL_9, getL_10, getL_11, getL_12, condV_t, condV_f, guardV_tt, guardV_ff, guardV_tf, guardV_ft, guardV_u, apick_t, apick_f, exV_exit, exV_ret, lookE_same, joinK_eq, seqA_n, seqA_e, seqA_r, e_add, e_sub, e_mul, e_eql, e_neq, e_lss, e_leq, e_gtr, e_geq, e_conv, e_not, e_neg, and_guard, or_guard, retV]
    rfl
  · refine ⟨?_, ?_, ?_, ?_, ?_, .inl ⟨rfl, rfl⟩, trivial, trivial, trivial, fun e he => (by cases he)⟩
    · refine Ext.put ?_ (by omega)
      rw [← ht3, ← ht2, ← ht1]
      exact ((h.ext.put (Nat.le_refl _)).put (by omega)).put (by omega)
    · rw [put_ne (by omega), n3 _ (by omega), n2 _ (by omega), ← ht1]; exact putB_get (by omega)
    · rw [put_ne (by omega), n3 _ (by omega), ← ht2]; exact putB_get (by omega)
    · rw [put_ne (by omega), ← ht3]; exact putB_get (by omega)
    · exact putB_get (by omega)
theorem judge_loop {s0 : St} {v : Value} {l : List Sn} (hv : SnL s0 v l) (hl : l.length ≤ 1759218604391) : ∀ (rest : List Sn) (i : Nat) (t : St) (K : Kn), l.drop i = rest → i ≤ l.length → KSt s0 t K → KOk K i →
    ∃ t', loopL (judge_known_judge.b0 (run Try.prog (libL libT) hints)) [pK s0, v, .int .i64 ((l.length : Nat) : Int), .int .i64 (i : Int)] t = (if (judgeP rest i K).2.1 = 0 then some (.exit 0, [], t') else some (.ret, [.int .i64 (judgeP rest i K).1, .int .i64 (judgeP rest i K).2.1], t')) ∧ KSt s0 t' (judgeP rest i K).2.2 := by
  intro rest
  induction rest with
  | nil =>
    intro i t K hi hle hs hk
    have hge := List.drop_eq_nil_iff.1 hi
    have h1 : decide ((i : Int) < ((l.length : Nat) : Int)) = false := by simp; omega
    refine ⟨t, ?_, hs⟩
    rw [loopL_eq]
    simp only [judge_known_judge.b0, h1, judgeP, if_true, n_bind, n_map, getL_0, getL_1, getL_2, getL_3, getL_4, getL_5, getL_6, getL_7, getL_8, getL_9, getL_10, getL_11, getL_12, condV_t, condV_f, guardV_tt, guardV_ff, guardV_tf, guardV_ft, guardV_u, apick_t, apick_f, exV_exit, exV_ret, lookE_same, joinK_eq, seqA_n, seqA_e, seqA_r, e_add, e_sub, e_mul, e_eql, e_neq, e_lss, e_leq, e_gtr, e_geq, e_conv, e_not, e_neg, and_guard, or_guard]
  | cons x rest ih =>
    intro i t K hi hle hs hk
    obtain ⟨hlt, he, hd⟩ := drop_get hi
    have h1 : decide ((i : Int) < ((l.length : Nat) : Int)) = true := by simp; omega
    obtain ⟨ea, eb, ec, ca, cb, cc, mv, hs⟩ := hs
    obtain ⟨p, o, r, a1, a2, _, a3, a4, a5⟩ := (hv.ext hs.ext).at hlt
    obtain ⟨_, _, _, b1, b2, _, b3, b4, b5⟩ := hv.at hlt
    rw [a1] at b1
    cases b1
    have hsame := hs.ext
    -- the same cells, before and now
    have heq : aload true 6 p t = aload true 6 p s0 := by
      obtain ⟨css, h3, h4⟩ := hv
      obtain ⟨q, i0, _, j0⟩ := cells_at h3 (by decide) (i := i) (by rw [(sn_flat h4).1]; exact Nat.mul_le_mul_right _ hlt) (k := .i64)
      obtain ⟨q', i0', _, j0'⟩ := cells_at (hs.ext.cells h3) (by decide) (i := i) (by rw [(sn_flat h4).1]; exact Nat.mul_le_mul_right _ hlt) (k := .i64)
      rw [a1] at i0 i0'
      cases i0
      cases i0'
      rw [j0, j0']
    rw [heq, b2, he] at a2
    rw [he] at b3 b4 b5
    cases a2
    obtain ⟨t1, g1, g2⟩ := see_run hs hk (by omega) b3 b5 b4
    have hk1 := hk.see (by omega) x
    have ha : aload true 6 p t = some (snV x o r) := by rw [heq, b2, he]
    by_cases c : (seeP K x).1 = 0
    · have e : judgeP (x :: rest) i K = judgeP rest (i + 1) (seeP K x).2 := by rw [judgeP, if_pos c]
      rw [e]
      obtain ⟨t2, k1, k2⟩ := ih (i + 1) t1 _ hd (by omega) g2 hk1
      refine ⟨t2, ?_, k2⟩
      have z0 : ((0 : Int) != 0) = false := rfl
      rw [loopL_eq]
      simp only [judge_known_judge.b0, h1, a1, ha, judge_known_see_call, g1, c, z0, inc_i64 (show i < 140737488355328 by omega), n_bind, n_map, getL_0, getL_1, getL_2, getL_3, getL_4, getL_5, getL_6, getL_7, getL_8, getL_9, getL_10, getL_11, getL_12, condV_t, condV_f, guardV_tt, guardV_ff, guardV_tf, guardV_ft, guardV_u, apick_t, apick_f, exV_exit, exV_ret, lookE_same, joinK_eq, seqA_n, seqA_e, seqA_r, e_add, e_sub, e_mul, e_eql, e_neq, e_lss, e_leq, e_gtr, e_geq, e_conv, e_not, e_neg, and_guard, or_guard]
      exact k1
    · have e : judgeP (x :: rest) i K = ((i : Int), (seeP K x).1, (seeP K x).2) := by rw [judgeP, if_neg c]
      rw [e]
      refine ⟨t1, ?_, g2⟩
      rw [if_neg c, loopL_eq]
      simp only [judge_known_judge.b0, h1, a1, ha, judge_known_see_call, g1, ne0 c, n_bind, n_map, getL_0, getL_1, getL_2, getL_3, getL_4, getL_5, getL_6, getL_7, getL_8, getL_9, getL_10, getL_11, getL_12, condV_t, condV_f, guardV_tt, guardV_ff, guardV_tf, guardV_ft, guardV_u, apick_t, apick_f, exV_exit, exV_ret, lookE_same, joinK_eq, seqA_n, seqA_e, seqA_r, e_add, e_sub, e_mul, e_eql, e_neq, e_lss, e_leq, e_gtr, e_geq, e_conv, e_not, e_neg, and_guard, or_guard]
theorem all_run2 {s0 t : St} {v : Value} {l : List Sn} {K : Kn} (hv : SnL s0 v l) (hl : l.length ≤ 1759218604391) (hs : KSt s0 t K) : ∃ t', (run Try.prog (libL libT) hints) 19 [pK s0, v] t = some (.tuple #[.int .i64 (judgeP l 0 Kn.nil).1, .int .i64 (judgeP l 0 Kn.nil).2.1], t') ∧ KSt s0 t' (judgeP l 0 Kn.nil).2.2 := by
  obtain ⟨t1, g1, g2⟩ := begin_run hs
  obtain ⟨t2, k1, k2⟩ := judge_loop hv hl l 0 t1 _ rfl (Nat.zero_le _) g2 KOk.nil
  rw [show ((0 : Nat) : Int) = 0 from rfl] at k1
  refine ⟨t2, judge_known_judge_of rfl ?_, k2⟩
  have hlen : ∀ e s2, alenV (.slice e) v s2 = some (.int .i64 ((l.length : Nat) : Int)) := fun e s2 => hv.len
  have hm1 : ∀ (l : List Sn) (i : Nat) (K : Kn), (judgeP l i K).2.1 = 0 → (judgeP l i K).1 = -1 := by
    intro l
    induction l with
    | nil => intro i K h; rfl
    | cons x l ih =>
      intro i K h
      unfold judgeP at h ⊢
      split at h
      · rename_i c; rw [if_pos c]; exact ih _ _ h
      · rename_i c; exact absurd h c
  by_cases c : (judgeP l 0 Kn.nil).2.1 = 0
  · rw [if_pos c] at k1
    rw [hm1 _ _ _ c, c]
    unfold judge_known_judge
    simp only [judge_known_begin_call, g1, hlen, k1, n_bind, n_map, getL_0, getL_1, getL_2, getL_3, getL_4, getL_5, getL_6, getL_7, getL_8, getL_9, getL_10, getL_11, getL_12, condV_t, condV_f, guardV_tt, guardV_ff, guardV_tf, guardV_ft, guardV_u, apick_t, apick_f, exV_exit, exV_ret, lookE_same, joinK_eq, seqA_n, seqA_e, seqA_r, e_add, e_sub, e_mul, e_eql, e_neq, e_lss, e_leq, e_gtr, e_geq, e_conv, e_not, e_neg, and_guard, or_guard, retV]
    rfl
  · rw [if_neg c] at k1
    unfold judge_known_judge
    simp only [judge_known_begin_call, g1, hlen, k1, n_bind, n_map, getL_0, getL_1, getL_2, getL_3, getL_4, getL_5, getL_6, getL_7, getL_8, getL_9, getL_10, getL_11, getL_12, condV_t, condV_f, guardV_tt, guardV_ff, guardV_tf, guardV_ft, guardV_u, apick_t, apick_f, exV_exit, exV_ret, lookE_same, joinK_eq, seqA_n, seqA_e, seqA_r, e_add, e_sub, e_mul, e_eql, e_neq, e_lss, e_leq, e_gtr, e_geq, e_conv, e_not, e_neg, and_guard, or_guard, retV]
    rfl
/-- what Judge says -/
def judP (l : List Sn) : Int × Int := ((judgeP l 0 Kn.nil).1, (judgeP l 0 Kn.nil).2.1)
def mapP (l : List Sn) : List Rg := (judgeP l 0 Kn.nil).2.2.m
theorem Replay_run {s : St} {v : Value} {l : List Sn} (hv : SnL s v l) (hl : l.length ≤ 1759218604391) : ∃ m t, (run Try.prog (libL libT) hints) 11 [v] s = some (.tuple #[m, .int .i64 (judP l).2], t) ∧ Ext s.heap.length s t ∧ OwnC prC s.heap.length t m (if (judP l).2 = 0 then mapP l else []) := by
  obtain ⟨t1, g1, g2⟩ := all_run2 hv hl ⟨_, _, _, _, _, _, _, fresh_ks s⟩
  obtain ⟨_, _, _, _, _, _, mv, g2⟩ := g2
  have x0 : ∀ a b : Int, aextract 0 (.tuple #[.int .i64 a, .int .i64 b]) = some (.int .i64 a) := fun a b => rfl
  have x1 : ∀ a b : Int, aextract 1 (.tuple #[.int .i64 a, .int .i64 b]) = some (.int .i64 b) := fun a b => rfl
  by_cases c : (judgeP l 0 Kn.nil).2.1 = 0
  · have hm : aload false 1 (.pointer (some ⟨s.heap.length + 3, 3, none⟩)) t1 = some mv := kn_ld g2.k rfl
    have z0 : ((0 : Int) != 0) = false := rfl
    refine ⟨mv, t1, judge_Replay_of rfl ?_, g2.ext, ?_⟩
    · unfold judge_Replay judP
      simp only [judge_none_call, none_run, judge_known_judge_call, g1, x0, x1, c, z0, kn_nil, kn_ad, hm, n_bind, n_map, getL_0, getL_1, getL_2, getL_3, getL_4, getL_5, getL_6, getL_7, getL_8, getL_9, getL_10, getL_11, getL_12, condV_t, condV_f, guardV_tt, guardV_ff, guardV_tf, guardV_ft, guardV_u, apick_t, apick_f, exV_exit, exV_ret, lookE_same, joinK_eq, seqA_n, seqA_e, seqA_r, e_add, e_sub, e_mul, e_eql, e_neq, e_lss, e_leq, e_gtr, e_geq, e_conv, e_not, e_neg, and_guard, or_guard, retV, List.all_cons, g2.m.notup]
      rfl
    · rw [if_pos (show (judP l).2 = 0 from c)]
      exact g2.m.mono (by omega)
  · refine ⟨.slice none 0 0, t1, judge_Replay_of rfl ?_, g2.ext, ?_⟩
    · unfold judge_Replay judP
      simp only [judge_none_call, none_run, judge_known_judge_call, g1, x0, x1, ne0 c, n_bind, n_map, getL_0, getL_1, getL_2, getL_3, getL_4, getL_5, getL_6, getL_7, getL_8, getL_9, getL_10, getL_11, getL_12, condV_t, condV_f, guardV_tt, guardV_ff, guardV_tf, guardV_ft, guardV_u, apick_t, apick_f, exV_exit, exV_ret, lookE_same, joinK_eq, seqA_n, seqA_e, seqA_r, e_add, e_sub, e_mul, e_eql, e_neq, e_lss, e_leq, e_gtr, e_geq, e_conv, e_not, e_neg, and_guard, or_guard, retV]
      rfl
    · rw [if_neg (show ¬ (judP l).2 = 0 from c)]
      exact .inl ⟨rfl, rfl⟩

end Go.Proofs.Ytccindbiodofmaa.Ab

/- What is said of lists that are seen: beginnings. -/
namespace Go.Proofs.Ytccindbiodofmaa.Ab
open Go

theorem jp_ok : ∀ (l : List Sn) (i : Nat) (K : Kn), (judgeP l i K).2.1 = 0 → (judgeP l i K).1 = -1
  | [], i, K, h => rfl
  | x :: l, i, K, h => by
    unfold judgeP at h ⊢
    split at h
    · rename_i c; rw [if_pos c]; exact jp_ok _ _ _ h
    · rename_i c; exact absurd h c
theorem jp_take : ∀ (l : List Sn) (i c : Nat) (K : Kn), c ≤ l.length → ((judgeP l i K).2.1 = 0 ∨ ((i + c : Nat) : Int) ≤ (judgeP l i K).1) → (judgeP (l.take c) i K).2.1 = 0
  | [], i, c, K, hc, h => by
    have : c = 0 := by simpa using hc
    subst this
    rfl
  | x :: l, i, 0, K, hc, h => rfl
  | x :: l, i, c + 1, K, hc, h => by
    rw [List.take_succ_cons]
    unfold judgeP at h ⊢
    by_cases q : (seeP K x).1 = 0
    · rw [if_pos q] at h ⊢
      refine jp_take l (i + 1) c _ (by simpa using hc) ?_
      rcases h with h | h
      · exact .inl h
      · exact .inr (by omega)
    · rw [if_neg q] at h
      rcases h with h | h
      · exact absurd h q
      · simp only at h; omega
theorem jd_take {l : List Sn} {c : Nat} (hc : c ≤ l.length) (h : (judP l).2 = 0 ∨ (c : Int) ≤ (judP l).1) : judP (l.take c) = (-1, 0) := by
  have := jp_take l 0 c Kn.nil hc (by rw [Nat.zero_add]; exact h)
  exact Prod.ext (jp_ok _ _ _ this) this
/-! ### A beginning, in memory -/
theorem sn_take {s : St} : ∀ {l : List Sn} {css : List (List Value)} (c : Nat), All2 (SnRel s) l css → css.flatten.take (c * 6) = (css.take c).flatten ∧ All2 (SnRel s) (l.take c) (css.take c)
  | [], [], c, _ => by simp [All2]
  | a :: l, d :: css, 0, h => by simp [All2]
  | a :: l, d :: css, c + 1, ⟨h1, h2⟩ => by
    obtain ⟨g1, g2⟩ := sn_take c h2
    obtain ⟨o, r, rfl, _⟩ := id h1
    refine ⟨?_, h1, g2⟩
    rw [List.take_succ_cons, List.flatten_cons, List.flatten_cons, ← g1, Nat.add_mul, Nat.one_mul, Nat.add_comm, show 6 + c * 6 = (snCells a o r).length + c * 6 from rfl, List.take_length_add_append]
  | [], _ :: _, _, h => h.elim
  | _ :: _, [], _, h => h.elim
theorem SnL.take {s : St} {v : Value} {l : List Sn} (h : SnL s v l) {c : Nat} (hc : c ≤ l.length) : ∃ u, asliceV 6 v none (some (.int .i64 (c : Int))) none = some u ∧ SnL s u (l.take c) := by
  obtain ⟨css, h1, h2⟩ := h
  obtain ⟨a, len, cap, rfl, h3⟩ := cellsOf_len h1
  rw [(sn_flat h2).1] at h3
  have hl : len = l.length := by omega
  obtain ⟨u, e1, e2⟩ := cells_slice h1 (lo := none) (hi := some (.int .i64 (c : Int))) (mx := none) (i := 0) (j := c) rfl (by simp [abound]) (Nat.zero_le _) (by omega) (.inl rfl)
  obtain ⟨g1, g2⟩ := sn_take c h2
  refine ⟨u, e1, css.take c, ?_, g2⟩
  rw [e2, Nat.zero_mul, List.drop_zero, Nat.sub_zero, g1]

end Go.Proofs.Ytccindbiodofmaa.Ab

/- Lists of one's own of what is seen. -/
namespace Go.Proofs.Ytccindbiodofmaa.Ab
open Go
set_option maxRecDepth 100000

theorem all2_app {α β : Type} {R : α → β → Prop} : ∀ {a c : List α} {b d : List β}, All2 R a b → All2 R c d → All2 R (a ++ c) (b ++ d)
  | [], _, [], _, _, h => h
  | _ :: _, _, _ :: _, _, ⟨h1, h2⟩, h => ⟨h1, all2_app h2 h⟩
  | [], _, _ :: _, _, h, _ => h.elim
  | _ :: _, _, [], _, h, _ => h.elim
/-- a row of one's own; what they hold lies below -/
def SnOwn (s0 s : St) (v : Value) (l : List Sn) : Prop := Ext s0.heap.length s0 s ∧ ∃ css, Own s0.heap.length 6 s v css.flatten ∧ All2 (SnRel s0) l css
theorem SnOwn.list {s0 s : St} {v : Value} {l : List Sn} (h : SnOwn s0 s v l) : SnL s v l := by
  obtain ⟨hx, css, h1, h2⟩ := h
  exact ⟨css, h1.cells, h2.mono fun a c h => h.ext hx⟩
theorem SnOwn.nil {s0 s : St} (h : Ext s0.heap.length s0 s) : SnOwn s0 s (.slice none 0 0) [] := ⟨h, [], Own.nil _ _ _, trivial⟩
theorem SnOwn.ext {s0 s t : St} {v : Value} {l : List Sn} (h : SnOwn s0 s v l) (hx : Ext s.heap.length s t) : SnOwn s0 t v l := by
  obtain ⟨h0, css, h1, h2⟩ := h
  exact ⟨h0.trans (hx.less h0.1), css, h1.keep (hx.keep (B := none)) fun c hc e => (by cases e), h2⟩
theorem SnOwn.notup {s0 s : St} {v : Value} {l : List Sn} (h : SnOwn s0 s v l) : noTup v = true := by
  obtain ⟨_, css, h1, _⟩ := h
  exact h1.notup
/-- the cells of a list, to be appended -/
theorem sn_elems {s0 s : St} {v : Value} {css : List (List Value)} {l : List Sn} (h1 : cellsOf 6 v s = some css.flatten) (h2 : All2 (SnRel s0) l css) : lenV v = some l.length ∧ elemsOf 6 v s = some css.flatten ∧ css.flatten.length = l.length * 6 := by
  obtain ⟨g1, _⟩ := sn_flat h2
  obtain ⟨a, len, cap, rfl, h3⟩ := cellsOf_len h1
  rw [g1] at h3
  have : len = l.length := by omega
  subst this
  exact ⟨rfl, elems_of h1, g1⟩
theorem SnOwn.more {s0 s : St} {x y : Value} {l m : List Sn} (h : SnOwn s0 s x l) {css : List (List Value)} (h1 : cellsOf 6 y s = some css.flatten) (h2 : All2 (SnRel s0) m css) (hb : l.length + m.length ≤ 1000) : ∃ v t, aappend 6 80 x y s = some (v, t) ∧ SnOwn s0 t v (l ++ m) := by
  obtain ⟨h0, ds, g1, g2⟩ := h
  obtain ⟨e1, e2, e3⟩ := sn_elems h1 h2
  have e4 := (sn_flat g2).1
  obtain ⟨v, t, k1, k2, k3⟩ := own_append (w := 80) g1 h0.1 (by decide) (by decide) e1 e2 e3 (by rw [e3, e4]; omega)
  exact ⟨v, t, k1, h0.trans k3, ds ++ css, by rw [List.flatten_append]; exact k2, all2_app g2 h2⟩
abbrev zSn : List Value := [(.int .i64 0), (.int .i64 0), (.int .u64 0), (.int .i64 0), (.slice none 0 0), (.slice none 0 0)]
theorem sn_leafs {x : Sn} {o r : Value} (ho : isLeaf o = true) (hr : isLeaf r = true) : (cellsV (snV x o r)).all isLeaf = true := by
  rw [show cellsV (snV x o r) = [.int .i64 x.kind, .int .i64 x.client, .int .u64 x.req, .int .i64 x.code, o, r] from rfl]
  simp only [List.all_cons, ho, hr, List.all_nil, Bool.and_true]
  rfl
theorem SnOwn.add {s0 s : St} {v : Value} {l : List Sn} (h : SnOwn s0 s v l) {x : Sn} {o r : Value} (hr : SnRel s0 x (snCells x o r)) (hb : l.length ≤ 1000) : ∃ q, abuildSl 6 zSn 1 [(0, snV x o r)] s = some q ∧ ∃ v' t, aappend 6 80 v q.1 q.2 = some (v', t) ∧ SnOwn s0 t v' (l ++ [x]) := by
  obtain ⟨h0, ds, g1, g2⟩ := h
  have e4 := (sn_flat g2).1
  obtain ⟨o', r', e, q1, q2, q3⟩ := id hr
  cases e
  obtain ⟨q, a1, v', t, a2, a3, a4⟩ := own_add (w := 80) (z := zSn) (v := snV x o r) g1 h0.1 (by decide) (by decide) (by decide) rfl rfl rfl (sn_leafs (ops_leaf q1) (rdy_leaf q2)) (by rw [e4]; omega)
  refine ⟨q, a1, v', t, a2, h0.trans a4, ds ++ [snCells x o r], ?_, all2_app g2 ⟨hr, trivial⟩⟩
  rw [List.flatten_append]
  show Own _ _ _ _ (ds.flatten ++ (snCells x o r ++ []))
  rw [List.append_nil]
  exact a3
theorem SnOwn.len {s0 s s2 : St} {v : Value} {l : List Sn} (h : SnOwn s0 s v l) {e : TypeId} : alenV (.slice e) v s2 = some (.int .i64 ((l.length : Nat) : Int)) := h.list.len
/-- the last one's code is written -/
theorem SnOwn.code {s0 s : St} {v : Value} {l : List Sn} {x : Sn} (h : SnOwn s0 s v (l ++ [x])) (c : Int) (hlen : l.length < 1000) : ∃ p q t, aindexS 6 v (.int .i64 ((l.length : Nat) : Int)) = some p ∧ afieldAddr 3 p = some q ∧ astore 1 q (.int .i64 c) s = some t ∧ SnOwn s0 t v (l ++ [{ x with code := c }]) := by
  obtain ⟨h0, css, g1, g2⟩ := h
  have key : ∀ {l : List Sn} {css : List (List Value)}, All2 (SnRel s0) (l ++ [x]) css → ∃ ds o r, css = ds ++ [snCells x o r] ∧ All2 (SnRel s0) l ds ∧ SnRel s0 x (snCells x o r) := by
    intro l
    induction l with
    | nil => intro css h; cases css with
      | nil => exact h.elim
      | cons d css => cases css with
        | nil =>
          obtain ⟨h1, _⟩ := h
          obtain ⟨o, r, rfl, q⟩ := id h1
          exact ⟨[], o, r, rfl, trivial, h1⟩
        | cons => exact h.2.elim
    | cons a l ih => intro css h; cases css with
      | nil => exact h.elim
      | cons d css =>
        obtain ⟨ds, o, r, e, k1, k2⟩ := ih h.2
        exact ⟨d :: ds, o, r, by rw [e]; rfl, ⟨h.1, k1⟩, k2⟩
  obtain ⟨ds, o, r, rfl, k1, k2⟩ := key g2
  have e4 := (sn_flat k1).1
  have hfl : (ds ++ [snCells x o r]).flatten = ds.flatten ++ snCells x o r := by rw [List.flatten_append]; show _ ++ (_ ++ []) = _; rw [List.append_nil]
  rw [hfl] at g1
  rcases g1 with ⟨_, e⟩ | ⟨b, len, rfl, n1, n2, n3, n4⟩
  · exact absurd e (by simp [snCells])
  · have hl : len = l.length + 1 := by
      rw [List.length_append, e4] at n3
      have : (snCells x o r).length = 6 := rfl
      omega
    subst hl
    have hput : putCells (ds.flatten ++ snCells x o r) (l.length * 6 + 3) [.int .i64 c] = ds.flatten ++ snCells { x with code := c } o r := by
      rw [← e4]
      generalize ds.flatten = A
      unfold putCells
      rw [List.take_length_add_append, Nat.add_assoc, List.drop_length_add_append]
      simp [snCells]
    have hx : Ext s0.heap.length s0 (s.putB b (.row 6 (ds.flatten ++ snCells { x with code := c } o r) .act)) := h0.put n1
    refine ⟨.pointer (some ⟨b, l.length * 6, none⟩), .pointer (some ⟨b, l.length * 6 + 3, none⟩), s.putB b (.row 6 (ds.flatten ++ snCells { x with code := c } o r) .act), by simp [aindexS]; omega, by simp [afieldAddr], ?_, hx, ds ++ [snCells { x with code := c } o r], ?_, all2_app k1 ⟨?_, trivial⟩⟩
    · unfold astore
      have hc : cellsV (.int .i64 c) = [.int .i64 c] := rfl
      simp only [hc, writeN, n2, hput]
      have hle : l.length * 6 + 3 + [(Value.int .i64 c)].length ≤ (ds.flatten ++ snCells x o r).length := by rw [n3]; simp; omega
      rw [if_pos hle]
      rfl
    · rw [List.flatten_append]
      show Own _ _ _ _ (_ ++ (_ ++ []))
      rw [List.append_nil]
      exact .inr ⟨b, l.length + 1, rfl, n1, putB_get (List.getElem?_eq_some_iff.1 n2).1, by rw [List.length_append, e4]; show _ + 6 = _; omega, by omega⟩
    · obtain ⟨o', r', e, q⟩ := k2
      cases e
      exact ⟨_, _, rfl, q⟩

end Go.Proofs.Ytccindbiodofmaa.Ab

/- What is said of what is newly asked. -/
namespace Go.Proofs.Ytccindbiodofmaa.Ab
open Go

theorem jp_app : ∀ (l m : List Sn) (i : Nat) (K : Kn), (judgeP l i K).2.1 = 0 → judgeP (l ++ m) i K = judgeP m (i + l.length) (judgeP l i K).2.2
  | [], m, i, K, _ => by simp [judgeP]
  | x :: l, m, i, K, h => by
    rw [List.cons_append]
    unfold judgeP at h ⊢
    split at h
    · rename_i c
      rw [if_pos c, jp_app l m (i + 1) _ h, List.length_cons, show i + 1 + l.length = i + (l.length + 1) by omega]
      conv => rhs; rw [judgeP.eq_def]
      conv => lhs; rw [judgeP.eq_def]
      simp only [if_pos c]
    · rename_i c; exact absurd h c
theorem look_app {A : Type} {r q : Rq} {a : A} : ∀ {l : List (Rq × A)}, lookR r (l ++ [(q, a)]) = (lookR r l).or (if q = r then some a else none)
  | [] => by
    show (if q = r then some a else none) = _
    rfl
  | p :: l => by
    rw [List.cons_append, lookR, lookR]
    split
    · rfl
    · exact look_app
theorem look_ne {A : Type} {r q : Rq} {a : A} {l : List (Rq × A)} (h : q ≠ r) : lookR r (l ++ [(q, a)]) = lookR r l := by
  rw [look_app, if_neg h, Option.or_none]
end Go.Proofs.Ytccindbiodofmaa.Ab

/- The laws of what is seen: JudgeBegins. -/
namespace Go.Proofs.Ytccindbiodofmaa.Ab
open Go
set_option maxRecDepth 100000

end Go.Proofs.Ytccindbiodofmaa.Ab

/- The laws of what is seen: JudgeMore. -/
namespace Go.Proofs.Ytccindbiodofmaa.Ab
open Go
set_option maxRecDepth 100000

theorem sn_st {x : Sn} {o r : Value} (ho : isLeaf o = true) (hr : isLeaf r = true) : lstore 6 lptr (snV x o r) (.agg #[(.int .i64 0), (.int .i64 0), (.int .u64 0), (.int .i64 0), (.slice none 0 0), (.slice none 0 0)]) = some (snV x o r) := by
  have h2 : ([.int .i64 x.kind, .int .i64 x.client, .int .u64 x.req, .int .i64 x.code, o, r] : List Value).all isLeaf = true := by
    simp only [List.all_cons, ho, hr, List.all_nil, Bool.and_true]
    rfl
  unfold lstore lptr
  simp only
  rw [if_pos ⟨rfl, h2, Nat.le_of_ble_eq_true rfl⟩]
  rfl
end Go.Proofs.Ytccindbiodofmaa.Ab

/- What was asked alone may be taken out. -/
namespace Go.Proofs.Ytccindbiodofmaa.Ab
open Go

abbrev rqOf (x : Sn) : Rq := (x.client, x.req)
structure Less (P : Rq → Bool) (K K' : Kn) : Prop where
  ops : K'.ops = K.ops.filter fun p => !P p.1
  res : K'.res = K.res
  told : K'.told = K.told
  m : K'.m = K.m
theorem jp_kok : ∀ (l : List Sn) (i : Nat) (K : Kn), KOk K i → i + l.length ≤ 1759218604391 → KOk (judgeP l i K).2.2 (i + l.length)
  | [], i, K, h, _ => h
  | x :: l, i, K, h, hl => by
    rw [List.length_cons] at hl ⊢
    have h1 := h.see (by omega) x
    unfold judgeP
    split
    · have := jp_kok l (i + 1) _ h1 (by omega)
      rw [show i + (l.length + 1) = i + 1 + l.length by omega]
      exact this
    · exact ⟨h1.val, h1.ops, h1.res, h1.nd, h1.sub, h1.len, Nat.le_trans h1.cnt (by omega)⟩
end Go.Proofs.Ytccindbiodofmaa.Ab

/- The laws of what is seen: JudgeForgets. -/
namespace Go.Proofs.Ytccindbiodofmaa.Ab
open Go
set_option maxRecDepth 100000

/-- an element, loaded later -/
theorem SnL.at2 {s t : St} {v : Value} {l : List Sn} (h : SnL s v l) (hx : Ext s.heap.length s t) {i : Nat} (hi : i < l.length) : ∃ p o r, aindexS 6 v (.int .i64 (i : Int)) = some p ∧ aload true 6 p t = some (snV l[i] o r) ∧ aload true 6 p (frzS t) = some (snV l[i] o r) ∧ SnRel s l[i] (snCells l[i] o r) := by
  obtain ⟨css, h1, h2⟩ := h
  obtain ⟨g1, g2⟩ := sn_flat h2
  obtain ⟨o, r, e1, e2, e3, e4⟩ := g2 i hi
  have h1' := hx.cells h1
  obtain ⟨q, i0, _, j0⟩ := cells_at h1' (by decide) (i := i) (by rw [g1]; exact Nat.mul_le_mul_right _ hi) (k := .i64)
  obtain ⟨q', i0', _, j0'⟩ := cells_at (s := frzS t) (by rw [cellsOf_frz]; exact h1') (by decide) (i := i) (by rw [g1]; exact Nat.mul_le_mul_right _ hi) (k := .i64)
  rw [i0] at i0'
  cases i0'
  rw [e1] at j0 j0'
  exact ⟨q, o, r, i0, j0, j0', o, r, rfl, e2, e3, e4⟩
theorem lp_1 : afieldAddr 1 lptr = some (.pointer (some ⟨0, 1, none⟩)) := rfl
theorem lp_2 : afieldAddr 2 lptr = some (.pointer (some ⟨0, 2, none⟩)) := rfl
theorem y2m_0 {a : Value} {b : Int} (h : isTup a = false) : aextract 0 (.tuple #[a, .int .i64 b]) = some a := by simp [aextract, h]
theorem y2m_1 {a : Value} {b : Int} : aextract 1 (.tuple #[a, .int .i64 b]) = some (.int .i64 b) := Eq.trans rfl (Eq.refl _)
end Go.Proofs.Ytccindbiodofmaa.Ab

/- What the laws say of operations on a map: plain. -/
namespace Go.Proofs.Ytccindbiodofmaa.Ab
open Go

/-! ### What is found -/
theorem get_append : ∀ (a b : List Rg) (x : BL), cGet (a ++ b) x = (cGet a x).or (cGet b x)
  | [], b, x => by simp [cGet]
  | p :: a, b, x => by
    rw [List.cons_append, cGet_cons, cGet_cons, get_append a b x]
    split <;> rfl
theorem get_filter (f : BL → Bool) (x : BL) : ∀ (m : List Rg), cGet (m.filter fun p => f p.1) x = if f x = true then cGet m x else none
  | [] => by simp [cGet]
  | p :: m => by
    rw [List.filter_cons, cGet_cons]
    by_cases e : (p.1 == x) = true
    · have e1 : p.1 = x := by simpa using e
      rw [if_pos e, e1]
      split
      · rw [cGet_cons, if_pos e]
      · rename_i h
        rw [get_filter f x m, if_neg h]
    · rw [if_neg e]
      split
      · rw [cGet_cons, if_neg e, get_filter f x m]
      · exact get_filter f x m
theorem get_put {m : List Rg} (k v x : BL) : cGet (cPut m k v) x = if x = k then some v else cGet m x := by
  unfold cPut
  rw [get_append, cGet_cons, get_filter (fun y => bl y k), get_filter (fun y => bl k y)]
  by_cases e : x = k
  · subst e
    simp [bl_irrefl]
  · have e1 : ((k, v).1 == x) = false := by simpa using fun h => e h.symm
    rw [if_neg e, e1]
    rcases bl_total e with h | h
    · rw [h, bl_asym h]
      cases cGet m x <;> simp
    · rw [h, bl_asym h]
      simp
theorem get_del {m : List Rg} (k x : BL) : cGet (cDel m k) x = if x = k then none else cGet m x := by
  unfold cDel
  rw [get_filter fun y => y != k]
  by_cases e : x = k
  · simp [e]
  · simp [e]
theorem get_out {m : List Rg} (r : Rg) (x : BL) : cGet (cOut m r) x = if hasR r x = true then none else cGet m x := by
  unfold cOut
  rw [get_filter fun y => !hasR r y]
  cases hasR r x <;> rfl
theorem get_none_of {m : List Rg} {x : BL} (h : ∀ p ∈ m, bl x p.1 = true) : cGet m x = none := cGet_none fun p hp => (beq_of_bl (h p hp)).2
/-- maps that tell the same are the same -/
theorem map_ext : ∀ {a b : List Rg}, Srt a → Srt b → (∀ x, cGet a x = cGet b x) → a = b
  | [], [], _, _, _ => rfl
  | [], q :: b, _, _, h => by
    have := h q.1
    rw [cGet_cons, if_pos (by simp)] at this
    cases this
  | p :: a, [], _, _, h => by
    have := h p.1
    rw [cGet_cons, if_pos (by simp)] at this
    cases this
  | p :: a, q :: b, ha, hb, h => by
    obtain ⟨a1, a2⟩ := srt_cons.1 ha
    obtain ⟨b1, b2⟩ := srt_cons.1 hb
    have hk : p.1 = q.1 := by
      apply Classical.byContradiction
      intro e
      rcases bl_total e with g | g
      · have h1 := h p.1
        rw [cGet_cons, if_pos (by simp), cGet_cons, if_neg (by simpa using fun c => e c.symm), get_none_of fun y hy => bl_trans g (b1 y hy)] at h1
        cases h1
      · have h1 := h q.1
        rw [cGet_cons, if_neg (by simpa using e), cGet_cons, if_pos (by simp), get_none_of fun y hy => bl_trans g (a1 y hy)] at h1
        cases h1
    have hv : p.2 = q.2 := by
      have h1 := h p.1
      rw [cGet_cons, if_pos (by simp), cGet_cons, if_pos (by simp [hk])] at h1
      exact Option.some.inj h1
    have hr : a = b := map_ext a2 b2 fun x => by
      have h1 := h x
      rw [cGet_cons, cGet_cons, ← hk] at h1
      by_cases e : (p.1 == x) = true
      · have e1 : p.1 = x := by simpa using e
        rw [← e1, get_none_of a1, get_none_of fun y hy => hk ▸ b1 y hy]
      · rw [if_neg e, if_neg e] at h1
        exact h1
    rw [hr, Prod.ext hk hv]
theorem has_pt {k x : BL} (hk : ckK k = true) : hasR (ptR k) x = (x == k) := by
  obtain ⟨p1, p2, p3, p4⟩ := pt_facts hk
  by_cases hx : ckK x = true
  · rw [has_iff p2 hx, p1]
    by_cases e : x = k
    · subst e
      rw [bl_irrefl, p4]
      simp
    · have e1 : (x == k) = false := by simpa using e
      rw [e1]
      cases h1 : bl x k
      · cases h2 : ((ptR k).2 == [] || bl x (ptR k).2)
        · rfl
        · exact absurd (p3 x (ckK_len hx).1 h1 h2) e
      · rfl
  · have e : (x == k) = false := by
      rw [beq_eq_false_iff_ne]
      rintro rfl
      exact hx hk
    rw [e]
    unfold hasR
    cases h1 : ckK x
    · simp
    · exact absurd h1 hx

/-! ### One operation, key by key -/
theorem sp_keyed {o : OpT} (h : ckO o = 0) (hk : keyed o.kind = true) : spR o = ptR o.key ∧ ckK o.key = true := by
  have := (ckO_key h).2.1 hk
  refine ⟨?_, this⟩
  unfold spR
  have h2 : (o.key == []) = false := by simpa using (ckK_len this).2
  rw [h2]
  rfl
theorem sp_ranged {o : OpT} (h : ckO o = 0) (hk : ranged o.kind = true) : spR o = (o.lo, o.hi) ∧ ckR (o.lo, o.hi) = true := by
  have := (ckO_key h).2.2.1 hk
  refine ⟨?_, this.2⟩
  unfold spR
  rw [this.1]
  rfl
theorem get_do {m : List Rg} {o : OpT} (ho : ckO o = 0) (x : BL) : cGet (doM m o) x = if hasR (spR o) x && wrt o.kind then (if o.kind = 2 then some o.val else none) else cGet m x := by
  have hk := (ckO_key ho).1
  unfold doM
  rcases kinds hk with e | e | e | e | e
  · rw [e]; simp [wrt]
  · obtain ⟨s1, s2⟩ := sp_keyed ho (by rw [e]; rfl)
    rw [e, s1, has_pt s2, if_pos rfl, get_put]
    by_cases c : x = o.key
    · simp [c, wrt]
    · simp [c]
  · obtain ⟨s1, s2⟩ := sp_keyed ho (by rw [e]; rfl)
    rw [e, s1, has_pt s2, if_neg (by decide), if_pos rfl, get_del]
    by_cases c : x = o.key
    · simp [c, wrt]
    · simp [c]
  · rw [e]; simp [wrt]
  · obtain ⟨s1, s2⟩ := sp_ranged ho (by rw [e]; rfl)
    rw [e, s1, if_neg (by decide), if_neg (by decide), if_pos rfl, get_out]
    cases hasR (o.lo, o.hi) x <;> simp [wrt]
theorem in_do {m : List Rg} (hv : Val m) {o : OpT} (ho : ckO o = 0) {r : Rg} (hd : ∀ x, hasR r x = true → (hasR (spR o) x && wrt o.kind) = false) : cIn (doM m o) r = cIn m r := by
  refine map_ext (List.Pairwise.filter _ (val_do hv ho).1) (List.Pairwise.filter _ hv.1) fun x => ?_
  unfold cIn
  rw [get_filter (fun y => hasR r y), get_filter (fun y => hasR r y), get_do ho]
  by_cases c : hasR r x = true
  · rw [if_pos c, if_pos c, hd x c]
    rfl
  · rw [if_neg c, if_neg c]
theorem doR_in {m : List Rg} (hv : Val m) {o : OpT} (ho : ckO o = 0) : doR m o = doR (cIn m (spR o)) o := by
  have hk := (ckO_key ho).1
  unfold doR
  rcases kinds hk with e | e | e | e | e
  · obtain ⟨s1, s2⟩ := sp_keyed ho (by rw [e]; rfl)
    have : cGet (cIn m (spR o)) o.key = cGet m o.key := by
      unfold cIn
      rw [get_filter (fun y => hasR (spR o) y), s1, has_pt s2]
      simp
    rw [e, if_pos rfl, if_pos rfl, this]
  · rw [e]; rfl
  · rw [e]; rfl
  · obtain ⟨s1, s2⟩ := sp_ranged ho (by rw [e]; rfl)
    rw [e, if_neg (by decide), if_pos rfl, if_neg (by decide), if_pos rfl, s1]
    have : cIn (cIn m (o.lo, o.hi)) (o.lo, o.hi) = cIn m (o.lo, o.hi) := by
      unfold cIn
      rw [List.filter_filter]
      simp
    rw [this]
  · rw [e]; rfl
/-- they do not touch each other -/
def apart (a b : OpT) : Prop := ∀ x, (hasR (spR a) x && hasR (spR b) x) = false
theorem apart_comm {a b : OpT} (h : apart a b) : apart b a := fun x => by rw [Bool.and_comm]; exact h x
theorem doR_apart {m : List Rg} (hv : Val m) {a b : OpT} (ha : ckO a = 0) (hb : ckO b = 0) (h : apart a b ∨ wrt a.kind = false) : doR (doM m a) b = doR m b := by
  rw [doR_in (val_do hv ha) hb, doR_in hv hb, in_do hv ha fun x hx => ?_]
  rcases h with h | h
  · have := h x
    rw [hx, Bool.and_true] at this
    rw [this]; rfl
  · rw [h, Bool.and_false]
theorem doM_apart {m : List Rg} (hv : Val m) {a b : OpT} (ha : ckO a = 0) (hb : ckO b = 0) (h : apart a b ∨ (wrt a.kind = false ∧ wrt b.kind = false)) : doM (doM m a) b = doM (doM m b) a := by
  refine map_ext (val_do (val_do hv ha) hb).1 (val_do (val_do hv hb) ha).1 fun x => ?_
  rw [get_do hb, get_do ha, get_do ha, get_do hb]
  rcases h with h | ⟨h1, h2⟩
  · have := h x
    cases c1 : hasR (spR a) x <;> cases c2 : hasR (spR b) x <;> simp_all
  · rw [h1, h2]
    simp
theorem apart_meet {a b : OpT} (h : meetL (spR a) (spR b) = none) : apart a b := fun x => by
  have := both_has (spR a) (spR b) x
  rw [this, h]
  rfl
/-! ### One after another -/
end Go.Proofs.Ytccindbiodofmaa.Ab

/- Two that are decided side by side. -/
namespace Go.Proofs.Ytccindbiodofmaa.Ab
open Go

/-! ### Lists of operations that do not touch each other -/
theorem swap1 {p : OpT} (hp : ckO p = 0) : ∀ {x : List OpT} {m : List Rg}, Val m → allE x = 0 → (∀ o ∈ x, apart o p) → apM (doM m p) x = doM (apM m x) p ∧ apR (doM m p) x = apR m x ∧ doR (apM m x) p = doR m p
  | [], m, _, _, _ => ⟨rfl, rfl, rfl⟩
  | o :: x, m, hv, hx, ha => by
    obtain ⟨h1, h2⟩ := allE_cons0 hx
    have hop := ha o (by simp)
    have e1 := doM_apart hv hp h1 (.inl (apart_comm hop))
    have e2 : doR (doM m p) o = doR m o := doR_apart hv hp h1 (.inl (apart_comm hop))
    have e3 : doR (doM m o) p = doR m p := doR_apart hv h1 hp (.inl hop)
    obtain ⟨i1, i2, i3⟩ := swap1 hp (x := x) (m := doM m o) (val_do hv h1) h2 fun q hq => ha q (by simp [hq])
    refine ⟨?_, ?_, ?_⟩
    · show apM (doM (doM m p) o) x = doM (apM (doM m o) x) p
      rw [e1]
      exact i1
    · show doR (doM m p) o :: apR (doM (doM m p) o) x = doR m o :: apR (doM m o) x
      rw [e1, e2, i2]
    · show doR (apM (doM m o) x) p = _
      rw [i3, e3]
theorem swapL : ∀ {y x : List OpT} {m : List Rg}, Val m → allE x = 0 → allE y = 0 → (∀ o ∈ x, ∀ p ∈ y, apart o p) → apM (apM m x) y = apM (apM m y) x ∧ apR (apM m x) y = apR m y ∧ apR (apM m y) x = apR m x
  | [], x, m, _, _, _, _ => ⟨rfl, rfl, rfl⟩
  | p :: y, x, m, hv, hx, hy, ha => by
    obtain ⟨h1, h2⟩ := allE_cons0 hy
    obtain ⟨s1, s2, s3⟩ := swap1 h1 hv hx fun o ho => ha o ho p (by simp)
    obtain ⟨i1, i2, i3⟩ := swapL (y := y) (x := x) (m := doM m p) (val_do hv h1) hx h2 fun o ho q hq => ha o ho q (by simp [hq])
    refine ⟨?_, ?_, ?_⟩
    · show apM (doM (apM m x) p) y = apM (apM (doM m p) y) x
      rw [← s1]
      exact i1
    · show doR (apM m x) p :: apR (doM (apM m x) p) y = doR m p :: apR (doM m p) y
      rw [s3, ← s1, i2]
    · show apR (apM (doM m p) y) x = _
      rw [i3, s2]

/-! ### The same is known -/
structure KSim (K K' : Kn) : Prop where
  ops : K'.ops = K.ops
  told : K'.told = K.told
  m : K'.m = K.m
  res : ∀ r, lookR r K'.res = lookR r K.res
theorem sim_see {K K' : Kn} (h : KSim K K') (x : Sn) : (seeP K' x).1 = (seeP K x).1 ∧ KSim (seeP K x).2 (seeP K' x).2 := by
  obtain ⟨h1, h2, h3, h4⟩ := h
  unfold seeP
  rw [h1, h2, h3, h4]
  split
  · exact ⟨rfl, h1, h2, h3, h4⟩
  · split
    · exact ⟨rfl, h1, h2, h3, h4⟩
    · split
      · exact ⟨rfl, rfl, rfl, rfl, h4⟩
      · split
        · exact ⟨rfl, h1, h2, h3, h4⟩
        · split
          · split
            · exact ⟨rfl, h1, h2, h3, h4⟩
            · refine ⟨rfl, rfl, rfl, rfl, fun r => ?_⟩
              show lookR r (K'.res ++ _) = lookR r (K.res ++ _)
              rw [look_app, look_app, h4]
          · split
            · exact ⟨rfl, h1, h2, h3, h4⟩
            · split
              · exact ⟨rfl, h1, h2, h3, h4⟩
              · exact ⟨rfl, rfl, rfl, rfl, h4⟩
theorem sim_judge : ∀ {l : List Sn} {i : Nat} {K K' : Kn}, KSim K K' → (judgeP l i K').2.1 = (judgeP l i K).2.1 ∧ KSim (judgeP l i K).2.2 (judgeP l i K').2.2
  | [], i, K, K', h => ⟨rfl, h⟩
  | x :: l, i, K, K', h => by
    obtain ⟨a, b⟩ := sim_see h x
    unfold judgeP
    rw [a]
    split
    · exact sim_judge b
    · exact ⟨rfl, b⟩

/-! ### What was asked -/
def lastA (r : Rq) (acc : List OpT) : List Sn → List OpT
  | [] => acc
  | x :: l => lastA r (if x.kind = 1 ∧ rqOf x = r then x.ops else acc) l
theorem see_ops {K : Kn} {x : Sn} {r : Rq} (h : (seeP K x).1 = 0) : (lookR r (seeP K x).2.ops).getD [] = if x.kind = 1 ∧ rqOf x = r then x.ops else (lookR r K.ops).getD [] := by
  unfold seeP at h ⊢
  split at h
  · cases h
  rename_i c1
  rw [if_neg c1]
  split at h
  · cases h
  rename_i c2
  rw [if_neg c2]
  by_cases c3 : x.kind = 1
  · rw [if_pos c3]
    show (lookR r (K.ops ++ _)).getD [] = _
    rw [look_app]
    by_cases c4 : rqOf x = r
    · rw [if_pos (c := (x.client, x.req) = r) c4, if_pos (c := x.kind = 1 ∧ rqOf x = r) ⟨c3, c4⟩]
      have hn : lookR r K.ops = none := none_of (by
        unfold twiceP at c2
        rw [c3] at c2
        rw [← c4]
        simpa using c2)
      rw [hn]
      rfl
    · rw [if_neg (c := (x.client, x.req) = r) c4, if_neg (c := x.kind = 1 ∧ rqOf x = r) (fun h => c4 h.2), Option.or_none]
  · rw [if_neg (c := x.kind = 1 ∧ rqOf x = r) (fun h => c3 h.1)]
    rw [if_neg c3]
    split
    · rfl
    · split
      · split <;> rfl
      · split
        · rfl
        · split <;> rfl
theorem last_look {r : Rq} : ∀ {l : List Sn} {i : Nat} {K : Kn}, (judgeP l i K).2.1 = 0 → lastA r ((lookR r K.ops).getD []) l = (lookR r (judgeP l i K).2.2.ops).getD []
  | [], i, K, _ => rfl
  | x :: l, i, K, h => by
    unfold judgeP at h
    split at h
    case isFalse c => exact absurd h c
    rename_i c
    have e : judgeP (x :: l) i K = judgeP l (i + 1) (seeP K x).2 := by rw [judgeP, if_pos c]
    rw [e, lastA, ← see_ops c]
    exact last_look h
theorem see_keeps {K : Kn} {x : Sn} {r : Rq} {o : List OpT} (h : lookR r K.ops = some o) : lookR r (seeP K x).2.ops = some o := by
  unfold seeP
  split
  · exact h
  · split
    · exact h
    · split
      · show lookR r (K.ops ++ _) = _
        rw [look_app, h]
        rfl
      · split
        · exact h
        · split
          · split <;> exact h
          · split
            · exact h
            · split <;> exact h
theorem judge_keeps {r : Rq} {o : List OpT} : ∀ {l : List Sn} {i : Nat} {K : Kn}, lookR r K.ops = some o → lookR r (judgeP l i K).2.2.ops = some o
  | [], i, K, h => h
  | x :: l, i, K, h => by
    unfold judgeP
    split
    · exact judge_keeps (see_keeps h)
    · exact see_keeps h
theorem dec_see {K : Kn} {x : Sn} (hk : x.kind = 2) (h : (seeP K x).1 = 0) : goodS x = true ∧ lookR (rqOf x) K.res = none ∧ lookR (rqOf x) K.told = none ∧ ∃ l, lookR (rqOf x) K.ops = some l ∧ (seeP K x).2 = { K with m := apM K.m l, res := K.res ++ [(rqOf x, apR K.m l)] } := by
  have k1 : ¬ x.kind = 1 := by rw [hk]; decide
  unfold seeP at h ⊢
  split at h
  · cases h
  rename_i c1
  split at h
  · cases h
  rename_i c2
  have hn : lookR (rqOf x) K.res = none := none_of (by
    unfold twiceP at c2
    rw [hk] at c2
    simpa using c2)
  rw [if_neg c1, if_neg c2, if_neg k1]
  cases hl : lookR (x.client, x.req) K.ops with
  | none => rw [hl] at h; cases h
  | some l =>
    rw [hl] at h
    simp only [if_pos hk]
    simp only at h
    split at h
    · cases h
    · rename_i c3
      rw [if_neg c3]
      exact ⟨by simpa using c1, hn, none_of (by simpa using c3), l, rfl, rfl⟩
theorem dec_see' {K : Kn} {x : Sn} {l : List OpT} (hk : x.kind = 2) (hg : goodS x = true) (h1 : lookR (rqOf x) K.ops = some l) (h2 : lookR (rqOf x) K.res = none) (h3 : lookR (rqOf x) K.told = none) : seeP K x = (0, { K with m := apM K.m l, res := K.res ++ [(rqOf x, apR K.m l)] }) := by
  have k1 : ¬ x.kind = 1 := by rw [hk]; decide
  have h1' : lookR (x.client, x.req) K.ops = some l := h1
  have h2' : lookR (x.client, x.req) K.res = none := h2
  have h3' : lookR (x.client, x.req) K.told = none := h3
  unfold seeP
  rw [if_neg (by rw [hg]; simp), if_neg (by unfold twiceP; rw [hk, h2']; simp), if_neg k1, h1', h3']
  simp only [if_pos hk]
  rfl
theorem judge_two {x y : Sn} {l : List Sn} {i : Nat} {K : Kn} (hx : (seeP K x).1 = 0) (hy : (seeP (seeP K x).2 y).1 = 0) : judgeP (x :: y :: l) i K = judgeP l (i + 1 + 1) (seeP (seeP K x).2 y).2 := by
  rw [judgeP, if_pos hx, judgeP, if_pos hy]
theorem turn_plain {l1 l2 : List Sn} {a b : Sn} (h : (judP (l1 ++ a :: b :: l2)).2 = 0) (ha : a.kind = 2) (hb : b.kind = 2) (hl : (l1 ++ a :: b :: l2).length ≤ 100)
    (hd : ∀ o ∈ lastA (rqOf a) [] (l1 ++ a :: b :: l2), ∀ p ∈ lastA (rqOf b) [] (l1 ++ a :: b :: l2), meetL (spR o) (spR p) = none) :
    (judP (l1 ++ b :: a :: l2)).2 = 0 ∧ mapP (l1 ++ b :: a :: l2) = mapP (l1 ++ a :: b :: l2) := by
  have h1 : (judgeP l1 0 Kn.nil).2.1 = 0 := by
    have := jd_take (c := l1.length) (l := l1 ++ a :: b :: l2) (by simp) (.inl h)
    rw [List.take_left] at this
    exact congrArg Prod.snd this
  have e1 := jp_app l1 (a :: b :: l2) 0 Kn.nil h1
  have e2 := jp_app l1 (b :: a :: l2) 0 Kn.nil h1
  have hk := jp_kok l1 0 Kn.nil KOk.nil (by simp at hl; omega)
  have h0 : (judgeP (l1 ++ a :: b :: l2) 0 Kn.nil).2.1 = 0 := h
  have la := last_look (r := rqOf a) h0
  have lb := last_look (r := rqOf b) h0
  rw [show (lookR (rqOf a) Kn.nil.ops).getD [] = [] from rfl] at la
  rw [show (lookR (rqOf b) Kn.nil.ops).getD [] = [] from rfl] at lb
  rw [la, lb] at hd
  rw [e1] at h0 hd
  generalize hK : (judgeP l1 0 Kn.nil).2.2 = K at *
  have hA : (seeP K a).1 = 0 := by
    by_cases c : (seeP K a).1 = 0
    · exact c
    · rw [judgeP, if_neg c] at h0; exact h0
  have hB : (seeP (seeP K a).2 b).1 = 0 := by
    rw [judgeP, if_pos hA] at h0
    by_cases c : (seeP (seeP K a).2 b).1 = 0
    · exact c
    · rw [judgeP, if_neg c] at h0; exact h0
  rw [judge_two hA hB] at e1 h0 hd
  obtain ⟨a1, a2, a3, xa, a4, a5⟩ := dec_see ha hA
  obtain ⟨b1, b2, b3, yb, b4, b5⟩ := dec_see hb hB
  rw [a5] at b2 b3 b4 b5
  simp only at b2 b3 b4 b5
  have hne : rqOf a ≠ rqOf b := fun e => by
    rw [look_app, e, if_pos rfl] at b2
    cases hq : lookR (rqOf b) K.res <;> rw [hq] at b2 <;> cases b2
  have b2' : lookR (rqOf b) K.res = none := by rw [look_ne hne] at b2; exact b2
  -- what was asked
  have ka : lookR (rqOf a) (judgeP l2 (0 + l1.length + 1 + 1) (seeP (seeP K a).2 b).2).2.2.ops = some xa := judge_keeps (see_keeps (see_keeps a4))
  have kb : lookR (rqOf b) (judgeP l2 (0 + l1.length + 1 + 1) (seeP (seeP K a).2 b).2).2.2.ops = some yb := judge_keeps (see_keeps (see_keeps b4))
  rw [ka, kb] at hd
  simp only [Option.getD_some] at hd
  have va := (hk.ops _ (lookR_mem a4)).1
  have vb := (hk.ops _ (lookR_mem b4)).1
  obtain ⟨s1, s2, s3⟩ := swapL hk.val va vb fun o ho p hp => apart_meet (hd o ho p hp)
  have w1 := dec_see' hb b1 b4 b2' b3
  have w2 := dec_see' (K := { K with m := apM K.m yb, res := K.res ++ [(rqOf b, apR K.m yb)] }) ha a1 a4 (by
    show lookR (rqOf a) (K.res ++ _) = none
    rw [look_ne (Ne.symm hne)]
    exact a2) a3
  have w3 : judgeP (b :: a :: l2) (0 + l1.length) K = judgeP l2 (0 + l1.length + 1 + 1) { K with m := apM (apM K.m yb) xa, res := K.res ++ [(rqOf b, apR K.m yb)] ++ [(rqOf a, apR (apM K.m yb) xa)] } := by
    rw [judge_two (by rw [w1]) (by rw [w1]; exact congrArg Prod.fst w2), w1]
    show judgeP l2 _ (seeP { K with m := apM K.m yb, res := K.res ++ [(rqOf b, apR K.m yb)] } a).2 = _
    rw [w2]
  rw [w3] at e2
  rw [a5, b5] at e1 h0
  have hsim : KSim { K with m := apM (apM K.m xa) yb, res := K.res ++ [(rqOf a, apR K.m xa)] ++ [(rqOf b, apR (apM K.m xa) yb)] } { K with m := apM (apM K.m yb) xa, res := K.res ++ [(rqOf b, apR K.m yb)] ++ [(rqOf a, apR (apM K.m yb) xa)] } := by
    refine ⟨rfl, rfl, s1.symm, fun r => ?_⟩
    rw [s2, s3]
    show lookR r (K.res ++ _ ++ _) = lookR r (K.res ++ _ ++ _)
    rw [look_app, look_app, look_app, look_app]
    by_cases c1 : rqOf a = r
    · have c2 : ¬ rqOf b = r := fun e => hne (c1.trans e.symm)
      simp only [if_pos c1, if_neg c2, Option.or_none]
    · simp only [if_neg c1, Option.or_none]
  obtain ⟨z1, z2⟩ := sim_judge (l := l2) (i := 0 + l1.length + 1 + 1) hsim
  constructor
  · unfold judP
    rw [e2]
    exact z1.trans h0
  · unfold mapP
    rw [e1, e2]
    exact z2.m

end Go.Proofs.Ytccindbiodofmaa.Ab

/- The laws of what is seen: JudgeTurns. -/
namespace Go.Proofs.Ytccindbiodofmaa.Ab
open Go
set_option maxRecDepth 100000

/-! ### One of one's own list is written over -/
theorem SnOwn.set {s0 s : St} {v : Value} {l : List Sn} (h : SnOwn s0 s v l) {i : Nat} (hi : i < l.length) {x : Sn} {o r : Value} (hr : SnRel s0 x (snCells x o r)) : ∃ p t, aindexS 6 v (.int .i64 (i : Int)) = some p ∧ astore 6 p (snV x o r) s = some t ∧ SnOwn s0 t v (l.set i x) := by
  obtain ⟨h0, css, g1, g2⟩ := h
  have key : ∀ {l : List Sn} {css : List (List Value)} {i : Nat}, i < l.length → All2 (SnRel s0) l css → putCells css.flatten (i * 6) (snCells x o r) = (css.set i (snCells x o r)).flatten ∧ All2 (SnRel s0) (l.set i x) (css.set i (snCells x o r)) := by
    intro l
    induction l with
    | nil => intro css i hi h; simp at hi
    | cons a l ih => intro css i hi h; cases css with
      | nil => exact h.elim
      | cons d css =>
        obtain ⟨h1, h2⟩ := h
        obtain ⟨o', r', e, _⟩ := id h1
        have hd : d.length = 6 := by rw [e]; rfl
        cases i with
        | zero =>
          refine ⟨?_, hr, h2⟩
          unfold putCells
          rw [Nat.zero_mul, List.take_zero, List.nil_append, Nat.zero_add, List.set_cons_zero, List.flatten_cons, List.flatten_cons]
          rw [show (snCells x o r).length = d.length + 0 by rw [hd]; rfl, List.drop_length_add_append, List.drop_zero]
        | succ i =>
          obtain ⟨k1, k2⟩ := ih (i := i) (by simpa using hi) h2
          refine ⟨?_, h1, k2⟩
          rw [List.set_cons_succ, List.flatten_cons, List.flatten_cons, ← k1]
          unfold putCells
          rw [show (i + 1) * 6 = d.length + i * 6 by rw [hd]; omega, List.take_length_add_append, Nat.add_assoc, List.drop_length_add_append, List.append_assoc, List.append_assoc, List.append_assoc]
  obtain ⟨k1, k2⟩ := key hi g2
  obtain ⟨o', r', e, q1, q2, _⟩ := id hr
  cases e
  have hlf := sn_leafs (x := x) (ops_leaf q1) (rdy_leaf q2)
  have e4 := (sn_flat g2).1
  rcases g1 with ⟨_, e⟩ | ⟨b, len, rfl, n1, n2, n3, n4⟩
  · rw [e] at e4
    simp at e4
    omega
  · have hl : len = l.length := by omega
    subst hl
    refine ⟨.pointer (some ⟨b, i * 6, none⟩), s.putB b (.row 6 (css.set i (snCells x o r)).flatten .act), by simp [aindexS]; omega, ?_, h0.put n1, _, .inr ⟨b, l.length, rfl, n1, putB_get (List.getElem?_eq_some_iff.1 n2).1, by rw [(sn_flat k2).1, List.length_set], n4⟩, k2⟩
    unfold astore
    have hc : cellsV (snV x o r) = snCells x o r := rfl
    rw [hc] at hlf
    simp only [hc]
    rw [if_pos ⟨rfl, hlf⟩]
    unfold writeN
    simp only [n2]
    rw [if_pos (by rw [e4]; show i * 6 + 6 ≤ _; omega), k1]

/-! ### The loops -/
theorem getL_13 {a0 a1 a2 a3 a4 a5 a6 a7 a8 a9 a10 a11 a12 a13 : Value} {l : List Value} : getL (a0 :: a1 :: a2 :: a3 :: a4 :: a5 :: a6 :: a7 :: a8 :: a9 :: a10 :: a11 :: a12 :: a13 :: l) 13 = a13 := Eq.trans rfl (Eq.refl _)
theorem getL_14 {a0 a1 a2 a3 a4 a5 a6 a7 a8 a9 a10 a11 a12 a13 a14 : Value} {l : List Value} : getL (a0 :: a1 :: a2 :: a3 :: a4 :: a5 :: a6 :: a7 :: a8 :: a9 :: a10 :: a11 :: a12 :: a13 :: a14 :: l) 14 = a14 := Eq.trans rfl (Eq.refl _)
theorem getL_15 {a0 a1 a2 a3 a4 a5 a6 a7 a8 a9 a10 a11 a12 a13 a14 a15 : Value} {l : List Value} : getL (a0 :: a1 :: a2 :: a3 :: a4 :: a5 :: a6 :: a7 :: a8 :: a9 :: a10 :: a11 :: a12 :: a13 :: a14 :: a15 :: l) 15 = a15 := Eq.trans rfl (Eq.refl _)
theorem getL_16 {a0 a1 a2 a3 a4 a5 a6 a7 a8 a9 a10 a11 a12 a13 a14 a15 a16 : Value} {l : List Value} : getL (a0 :: a1 :: a2 :: a3 :: a4 :: a5 :: a6 :: a7 :: a8 :: a9 :: a10 :: a11 :: a12 :: a13 :: a14 :: a15 :: a16 :: l) 16 = a16 := Eq.trans rfl (Eq.refl _)
theorem k_meet (a b : Rg) (s : St) : (run Try.prog (libL libT) hints) 16 [rv a, rv b] s = some (meetV (meetL a b), s) :=
  ref02_Meet_of rfl (refMeet_run (fun r s => (known (g := gChk) rfl).trans chk_eq) (fun a b s => ref02_below_of rfl (below_run a b s)) a b s)
theorem k_locks {v : Value} {s : St} {l : List OpT} (h : listOf opC v s = some l) (hl : l.length ≤ 3000000000000) (ha : allE l = 0) : ∃ v' t, (run Try.prog (libL libT) hints) 15 [v] s = some (.tuple #[v', .int .i64 0], t) ∧ Own s.heap.length 3 t v' (encL lkC (locksL l)) ∧ Ext s.heap.length s t := by
  have h1 := refLocks_run (R := (run Try.prog (libL libT) hints)) (fun xs s => known (g := gAllE) rfl) (fun o s => (known (g := gSp) rfl).trans sp_eq) (fun o s => (known (g := gWr) rfl).trans wr_eq) h hl
  rw [if_pos ha] at h1
  obtain ⟨v', t, g1, g2, g3⟩ := h1
  exact ⟨v', t, ref04_Locks_of rfl g1, g2, g3⟩
theorem bq (x : Sn) (a : Sn) (k : Bool) (hk : (x.kind == 1) = k) (c1 c2 : Bool) (h1 : (x.client == a.client) = c1) (h2 : (x.req == a.req) = c2) : (x.kind = 1 ∧ rqOf x = rqOf a) ↔ (k = true ∧ c1 = true ∧ c2 = true) := by
  subst hk h1 h2
  simp only [beq_iff_eq, Prod.mk.injEq]
theorem tj_run {v c m xv yv o r : Value} {n i : Int} {va vb : Value} {s : St} {x a b : Sn} {oa ra ob rb : Value} (h : i + 1 < 9223372036854775808) (h0 : 0 ≤ i) :
    law23_JudgeTurns.j1 (run Try.prog (libL libT) hints) [v, c, .bool true, m, lptr, lptr, xv, yv, lptr, v, .int .i64 n, .int .i64 i, snV a oa ra, snV b ob rb, snV x o r] s = some (.normal, [v, c, .bool true, m, lptr, lptr, xv, (if x.kind = 1 ∧ rqOf x = rqOf b then o else yv), v, .int .i64 n, .int .i64 (i + 1), snV a oa ra, snV b ob rb], s) := by
  have hinc : IntKind.wrap .i64 (i + 1) = i + 1 := wrap_i64 (by omega) (by omega)
  cases k : (x.kind == 1) with
  | false =>
    rw [if_neg (fun q => by have := (bq x b _ k _ _ rfl rfl).1 q; simp at this)]
    simp only [law23_JudgeTurns.j1, getL_13, getL_14, law23_JudgeTurns.j0, lp_0, lp_1, lp_2, sn_0, k, hinc, n_bind, n_map, getL_0, getL_1, getL_2, getL_3, getL_4, getL_5, getL_6, getL_7, getL_8, getL_9, getL_10, getL_11, getL_12, condV_t, condV_f, guardV_tt, guardV_ff, guardV_tf, guardV_ft, guardV_u, apick_t, apick_f, exV_exit, exV_ret, lookE_same, joinK_eq, seqA_n, seqA_e, seqA_r, e_add, e_sub, e_mul, e_eql, e_neq, e_lss, e_leq, e_gtr, e_geq, e_conv, e_not, e_neg, and_guard, or_guard]
  | true =>
    cases c1 : (x.client == b.client) with
    | false =>
      rw [if_neg (fun q => by have := (bq x b _ k _ _ c1 rfl).1 q; simp at this)]
      simp only [law23_JudgeTurns.j1, getL_13, getL_14, law23_JudgeTurns.j0, lp_0, lp_1, lp_2, sn_0, sn_1, k, c1, hinc, n_bind, n_map, getL_0, getL_1, getL_2, getL_3, getL_4, getL_5, getL_6, getL_7, getL_8, getL_9, getL_10, getL_11, getL_12, condV_t, condV_f, guardV_tt, guardV_ff, guardV_tf, guardV_ft, guardV_u, apick_t, apick_f, exV_exit, exV_ret, lookE_same, joinK_eq, seqA_n, seqA_e, seqA_r, e_add, e_sub, e_mul, e_eql, e_neq, e_lss, e_leq, e_gtr, e_geq, e_conv, e_not, e_neg, and_guard, or_guard]
    | true =>
      cases c2 : (x.req == b.req) with
      | false =>
        rw [if_neg (fun q => by have := (bq x b _ k _ _ c1 c2).1 q; simp at this)]
        simp only [law23_JudgeTurns.j1, getL_13, getL_14, law23_JudgeTurns.j0, lp_0, lp_1, lp_2, sn_0, sn_1, sn_2, k, c1, c2, hinc, n_bind, n_map, getL_0, getL_1, getL_2, getL_3, getL_4, getL_5, getL_6, getL_7, getL_8, getL_9, getL_10, getL_11, getL_12, condV_t, condV_f, guardV_tt, guardV_ff, guardV_tf, guardV_ft, guardV_u, apick_t, apick_f, exV_exit, exV_ret, lookE_same, joinK_eq, seqA_n, seqA_e, seqA_r, e_add, e_sub, e_mul, e_eql, e_neq, e_lss, e_leq, e_gtr, e_geq, e_conv, e_not, e_neg, and_guard, or_guard]
      | true =>
        rw [if_pos ((bq x b _ k _ _ c1 c2).2 ⟨rfl, rfl, rfl⟩)]
        have lp_4 : afieldAddr 4 lptr = some (.pointer (some ⟨0, 4, none⟩)) := rfl
        simp only [law23_JudgeTurns.j1, getL_13, getL_14, law23_JudgeTurns.j0, lp_0, lp_1, lp_2, lp_4, sn_0, sn_1, sn_2, sn_4, k, c1, c2, hinc, n_bind, n_map, getL_0, getL_1, getL_2, getL_3, getL_4, getL_5, getL_6, getL_7, getL_8, getL_9, getL_10, getL_11, getL_12, condV_t, condV_f, guardV_tt, guardV_ff, guardV_tf, guardV_ft, guardV_u, apick_t, apick_f, exV_exit, exV_ret, lookE_same, joinK_eq, seqA_n, seqA_e, seqA_r, e_add, e_sub, e_mul, e_eql, e_neq, e_lss, e_leq, e_gtr, e_geq, e_conv, e_not, e_neg, and_guard, or_guard]
theorem tb_loop {v c m : Value} {s : St} {l : List Sn} (h : SnL s v l) (hl : l.length < 140737488355328) {a b : Sn} {oa ra ob rb : Value} : ∀ (rest : List Sn) (i : Nat) (xv yv : Value) (lx ly : List OpT), l.drop i = rest → i ≤ l.length → listOf opC xv s = some lx → listOf opC yv s = some ly →
    ∃ x' y', loopL (law23_JudgeTurns.b0 (run Try.prog (libL libT) hints)) [v, c, .bool true, m, lptr, lptr, xv, yv, v, .int .i64 ((l.length : Nat) : Int), .int .i64 (i : Int), snV a oa ra, snV b ob rb] s = some (.exit 0, [v, c, .bool true, m, lptr, lptr, x', y', snV a oa ra, snV b ob rb], s) ∧ listOf opC x' s = some (lastA (rqOf a) lx rest) ∧ listOf opC y' s = some (lastA (rqOf b) ly rest) := by
  intro rest
  induction rest with
  | nil =>
    intro i xv yv lx ly hi hle hx hy
    have hge := List.drop_eq_nil_iff.1 hi
    have h1 : decide ((i : Int) < ((l.length : Nat) : Int)) = false := by simp; omega
    refine ⟨xv, yv, ?_, hx, hy⟩
    rw [loopL_eq]
    simp only [law23_JudgeTurns.b0, getL_13, getL_14, h1, n_bind, n_map, getL_0, getL_1, getL_2, getL_3, getL_4, getL_5, getL_6, getL_7, getL_8, getL_9, getL_10, getL_11, getL_12, condV_t, condV_f, guardV_tt, guardV_ff, guardV_tf, guardV_ft, guardV_u, apick_t, apick_f, exV_exit, exV_ret, lookE_same, joinK_eq, seqA_n, seqA_e, seqA_r, e_add, e_sub, e_mul, e_eql, e_neq, e_lss, e_leq, e_gtr, e_geq, e_conv, e_not, e_neg, and_guard, or_guard]
  | cons x rest ih =>
    intro i xv yv lx ly hi hle hx hy
    obtain ⟨hlt, he, hd⟩ := drop_get hi
    have h1 : decide ((i : Int) < ((l.length : Nat) : Int)) = true := by simp; omega
    obtain ⟨p, o, r, a1, a2, _, a3, a4, _⟩ := h.at hlt
    rw [he] at a2 a3 a4
    have hj : ∀ xv, law23_JudgeTurns.j1 (run Try.prog (libL libT) hints) [v, c, .bool true, m, lptr, lptr, xv, yv, lptr, v, .int .i64 ((l.length : Nat) : Int), .int .i64 (i : Int), snV a oa ra, snV b ob rb, snV x o r] s = _ := fun xv => tj_run (v := v) (c := c) (m := m) (xv := xv) (yv := yv) (n := ((l.length : Nat) : Int)) (i := (i : Int)) (s := s) (x := x) (a := a) (b := b) (o := o) (r := r) (oa := oa) (ra := ra) (ob := ob) (rb := rb) (va := v) (vb := v) (by omega) (by omega)
    obtain ⟨x', y', k1, k2, k3⟩ := ih (i + 1) (if x.kind = 1 ∧ rqOf x = rqOf a then o else xv) (if x.kind = 1 ∧ rqOf x = rqOf b then o else yv) (if x.kind = 1 ∧ rqOf x = rqOf a then x.ops else lx) (if x.kind = 1 ∧ rqOf x = rqOf b then x.ops else ly) hd (by omega) (by split <;> assumption) (by split <;> assumption)
    refine ⟨x', y', ?_, k2, k3⟩
    rw [loopL_eq]
    rw [show ((i + 1 : Nat) : Int) = (i : Int) + 1 by omega] at k1
    cases k : (x.kind == 1) with
    | false =>
      rw [if_neg (c := x.kind = 1 ∧ rqOf x = rqOf a) (fun q => by have := (bq x a _ k _ _ rfl rfl).1 q; simp at this)] at k1
      simp only [law23_JudgeTurns.b0, getL_13, getL_14, h1, a1, a2, sn_st (ops_leaf a3) (rdy_leaf a4), sn_0, k, hj, n_bind, n_map, getL_0, getL_1, getL_2, getL_3, getL_4, getL_5, getL_6, getL_7, getL_8, getL_9, getL_10, getL_11, getL_12, condV_t, condV_f, guardV_tt, guardV_ff, guardV_tf, guardV_ft, guardV_u, apick_t, apick_f, exV_exit, exV_ret, lookE_same, joinK_eq, seqA_n, seqA_e, seqA_r, e_add, e_sub, e_mul, e_eql, e_neq, e_lss, e_leq, e_gtr, e_geq, e_conv, e_not, e_neg, and_guard, or_guard]
      exact k1
    | true =>
      cases c1 : (x.client == a.client) with
      | false =>
        rw [if_neg (c := x.kind = 1 ∧ rqOf x = rqOf a) (fun q => by have := (bq x a _ k _ _ c1 rfl).1 q; simp at this)] at k1
        simp only [law23_JudgeTurns.b0, getL_13, getL_14, h1, a1, a2, sn_st (ops_leaf a3) (rdy_leaf a4), lp_1, sn_0, sn_1, k, c1, hj, n_bind, n_map, getL_0, getL_1, getL_2, getL_3, getL_4, getL_5, getL_6, getL_7, getL_8, getL_9, getL_10, getL_11, getL_12, condV_t, condV_f, guardV_tt, guardV_ff, guardV_tf, guardV_ft, guardV_u, apick_t, apick_f, exV_exit, exV_ret, lookE_same, joinK_eq, seqA_n, seqA_e, seqA_r, e_add, e_sub, e_mul, e_eql, e_neq, e_lss, e_leq, e_gtr, e_geq, e_conv, e_not, e_neg, and_guard, or_guard]
        exact k1
      | true =>
        cases c2 : (x.req == a.req) with
        | false =>
          rw [if_neg (c := x.kind = 1 ∧ rqOf x = rqOf a) (fun q => by have := (bq x a _ k _ _ c1 c2).1 q; simp at this)] at k1
          simp only [law23_JudgeTurns.b0, getL_13, getL_14, h1, a1, a2, sn_st (ops_leaf a3) (rdy_leaf a4), lp_1, lp_2, sn_0, sn_1, sn_2, k, c1, c2, hj, n_bind, n_map, getL_0, getL_1, getL_2, getL_3, getL_4, getL_5, getL_6, getL_7, getL_8, getL_9, getL_10, getL_11, getL_12, condV_t, condV_f, guardV_tt, guardV_ff, guardV_tf, guardV_ft, guardV_u, apick_t, apick_f, exV_exit, exV_ret, lookE_same, joinK_eq, seqA_n, seqA_e, seqA_r, e_add, e_sub, e_mul, e_eql, e_neq, e_lss, e_leq, e_gtr, e_geq, e_conv, e_not, e_neg, and_guard, or_guard]
          exact k1
        | true =>
          rw [if_pos (c := x.kind = 1 ∧ rqOf x = rqOf a) ((bq x a _ k _ _ c1 c2).2 ⟨rfl, rfl, rfl⟩)] at k1
          simp only [law23_JudgeTurns.b0, getL_13, getL_14, h1, a1, a2, sn_st (ops_leaf a3) (rdy_leaf a4), lp_1, lp_2, sn_0, sn_1, sn_2, sn_4, k, c1, c2, hj, n_bind, n_map, getL_0, getL_1, getL_2, getL_3, getL_4, getL_5, getL_6, getL_7, getL_8, getL_9, getL_10, getL_11, getL_12, condV_t, condV_f, guardV_tt, guardV_ff, guardV_tf, guardV_ft, guardV_u, apick_t, apick_f, exV_exit, exV_ret, lookE_same, joinK_eq, seqA_n, seqA_e, seqA_r, e_add, e_sub, e_mul, e_eql, e_neq, e_lss, e_leq, e_gtr, e_geq, e_conv, e_not, e_neg, and_guard, or_guard]
          exact k1
end Go.Proofs.Ytccindbiodofmaa.Ab

/- The laws of what is seen: JudgeTurns, the law. -/
namespace Go.Proofs.Ytccindbiodofmaa.Ab
open Go
set_option maxRecDepth 100000

theorem lk_st (k : Lk) : lstore 3 lptr (lkV k) (.agg #[(.string ⟨#[]⟩), (.string ⟨#[]⟩), (.bool false)]) = some (lkV k) := rfl
theorem lk_rg (k : Lk) : lload true 2 lptr (lkV k) = some (rv k.1) := rfl
theorem rv_st2 (x : Rg) : lstore 2 lptr (rv x) (.agg #[(.string ⟨#[]⟩), (.string ⟨#[]⟩)]) = some (rv x) := rfl
theorem tq_loop {v c m p q va vb n1 i1 : Value} {s : St} {lq : List Lk} (h : listOf lkC q s = some lq) (hl : lq.length < 140737488355328) {a : Lk} : ∀ (rest : List Lk) (k : Nat), lq.drop k = rest → k ≤ lq.length →
    loopL (law23_JudgeTurns.b2 (run Try.prog (libL libT) hints)) [v, c, .bool true, m, lptr, lptr, q, lptr, p, n1, i1, q, .int .i64 ((lq.length : Nat) : Int), .int .i64 (k : Int), va, vb, lkV a] s = some (if rest.any (fun b => (meetL a.1 b.1).isSome) = true then (.ret, [.bool true], s) else (.exit 4, [v, c, .bool true, m, lptr, lptr, q, p, n1, i1, va, vb], s)) := by
  intro rest
  induction rest with
  | nil =>
    intro k hi hle
    have hge := List.drop_eq_nil_iff.1 hi
    have h1 : decide ((k : Int) < ((lq.length : Nat) : Int)) = false := by simp; omega
    rw [loopL_eq]
    simp only [law23_JudgeTurns.b2, getL_13, getL_14, getL_15, getL_16, h1, n_bind, n_map, getL_0, getL_1, getL_2, getL_3, getL_4, getL_5, getL_6, getL_7, getL_8, getL_9, getL_10, getL_11, getL_12, condV_t, condV_f, guardV_tt, guardV_ff, guardV_tf, guardV_ft, guardV_u, apick_t, apick_f, exV_exit, exV_ret, lookE_same, joinK_eq, seqA_n, seqA_e, seqA_r, e_add, e_sub, e_mul, e_eql, e_neq, e_lss, e_leq, e_gtr, e_geq, e_conv, e_not, e_neg, and_guard, or_guard]
    rfl
  | cons b rest ih =>
    intro k hi hle
    obtain ⟨hlt, he, hd⟩ := drop_get hi
    have h1 : decide ((k : Int) < ((lq.length : Nat) : Int)) = true := by simp; omega
    obtain ⟨x, a1, a2⟩ := list_at h hlt (k := .i64) (n := 3) rfl
    rw [lk_enc, he] at a2
    have hm := k_meet a.1 b.1 s
    have key := ih (k + 1) hd (by omega)
    have hinc := inc_i64 (show k < 140737488355328 by omega)
    rw [loopL_eq, List.any_cons]
    cases hs : (meetL a.1 b.1).isSome with
    | true =>
      simp only [law23_JudgeTurns.b2, getL_13, getL_14, getL_15, getL_16, h1, a1, a2, lk_st, lk_rg, lp_0, ref02_Meet_call, hm, x_meet.1, x_meet.2, rv_st2, hs, n_bind, n_map, getL_0, getL_1, getL_2, getL_3, getL_4, getL_5, getL_6, getL_7, getL_8, getL_9, getL_10, getL_11, getL_12, condV_t, condV_f, guardV_tt, guardV_ff, guardV_tf, guardV_ft, guardV_u, apick_t, apick_f, exV_exit, exV_ret, lookE_same, joinK_eq, seqA_n, seqA_e, seqA_r, e_add, e_sub, e_mul, e_eql, e_neq, e_lss, e_leq, e_gtr, e_geq, e_conv, e_not, e_neg, and_guard, or_guard]
      rfl
    | false =>
      simp only [law23_JudgeTurns.b2, getL_13, getL_14, getL_15, getL_16, h1, a1, a2, lk_st, lk_rg, lp_0, ref02_Meet_call, hm, x_meet.1, x_meet.2, rv_st2, hs, hinc, Bool.false_or, n_bind, n_map, getL_0, getL_1, getL_2, getL_3, getL_4, getL_5, getL_6, getL_7, getL_8, getL_9, getL_10, getL_11, getL_12, condV_t, condV_f, guardV_tt, guardV_ff, guardV_tf, guardV_ft, guardV_u, apick_t, apick_f, exV_exit, exV_ret, lookE_same, joinK_eq, seqA_n, seqA_e, seqA_r, e_add, e_sub, e_mul, e_eql, e_neq, e_lss, e_leq, e_gtr, e_geq, e_conv, e_not, e_neg, and_guard, or_guard]
      exact key
theorem tp_loop {v c m p q va vb : Value} {s : St} {lp lq : List Lk} (hp : listOf lkC p s = some lp) (hpl : lp.length < 140737488355328) (hq : listOf lkC q s = some lq) (hql : lq.length < 140737488355328) : ∀ (rest : List Lk) (i : Nat), lp.drop i = rest → i ≤ lp.length →
    loopL (law23_JudgeTurns.b1 (run Try.prog (libL libT) hints)) [v, c, .bool true, m, lptr, lptr, q, p, .int .i64 ((lp.length : Nat) : Int), .int .i64 (i : Int), va, vb] s = some (if rest.any (fun a => lq.any (fun b => (meetL a.1 b.1).isSome)) = true then (.ret, [.bool true], s) else (.exit 2, [v, c, .bool true, m, lptr, lptr, va, vb], s)) := by
  intro rest
  induction rest with
  | nil =>
    intro i hi hle
    have hge := List.drop_eq_nil_iff.1 hi
    have h1 : decide ((i : Int) < ((lp.length : Nat) : Int)) = false := by simp; omega
    rw [loopL_eq]
    simp only [law23_JudgeTurns.b1, h1, n_bind, n_map, getL_0, getL_1, getL_2, getL_3, getL_4, getL_5, getL_6, getL_7, getL_8, getL_9, getL_10, getL_11, getL_12, condV_t, condV_f, guardV_tt, guardV_ff, guardV_tf, guardV_ft, guardV_u, apick_t, apick_f, exV_exit, exV_ret, lookE_same, joinK_eq, seqA_n, seqA_e, seqA_r, e_add, e_sub, e_mul, e_eql, e_neq, e_lss, e_leq, e_gtr, e_geq, e_conv, e_not, e_neg, and_guard, or_guard]
    rfl
  | cons a rest ih =>
    intro i hi hle
    obtain ⟨hlt, he, hd⟩ := drop_get hi
    have h1 : decide ((i : Int) < ((lp.length : Nat) : Int)) = true := by simp; omega
    obtain ⟨x, a1, a2⟩ := list_at hp hlt (k := .i64) (n := 3) rfl
    rw [lk_enc, he] at a2
    have hin := tq_loop (v := v) (c := c) (m := m) (p := p) (va := va) (vb := vb) (n1 := .int .i64 ((lp.length : Nat) : Int)) (i1 := .int .i64 (i : Int)) hq hql (a := a) lq 0 rfl (Nat.zero_le _)
    rw [show ((0 : Nat) : Int) = 0 from rfl] at hin
    have key := ih (i + 1) hd (by omega)
    have hinc := inc_i64 (show i < 140737488355328 by omega)
    rw [loopL_eq, List.any_cons]
    cases hs : lq.any (fun b => (meetL a.1 b.1).isSome) with
    | true =>
      rw [hs, if_pos rfl] at hin
      simp only [law23_JudgeTurns.b1, h1, a1, a2, lk_st, list_len hq, hin, n_bind, n_map, getL_0, getL_1, getL_2, getL_3, getL_4, getL_5, getL_6, getL_7, getL_8, getL_9, getL_10, getL_11, getL_12, condV_t, condV_f, guardV_tt, guardV_ff, guardV_tf, guardV_ft, guardV_u, apick_t, apick_f, exV_exit, exV_ret, lookE_same, joinK_eq, seqA_n, seqA_e, seqA_r, e_add, e_sub, e_mul, e_eql, e_neq, e_lss, e_leq, e_gtr, e_geq, e_conv, e_not, e_neg, and_guard, or_guard]
      rfl
    | false =>
      rw [hs, if_neg (by simp)] at hin
      simp only [law23_JudgeTurns.b1, h1, a1, a2, lk_st, list_len hq, hin, hinc, Bool.false_or, n_bind, n_map, getL_0, getL_1, getL_2, getL_3, getL_4, getL_5, getL_6, getL_7, getL_8, getL_9, getL_10, getL_11, getL_12, condV_t, condV_f, guardV_tt, guardV_ff, guardV_tf, guardV_ft, guardV_u, apick_t, apick_f, exV_exit, exV_ret, lookE_same, joinK_eq, seqA_n, seqA_e, seqA_r, e_add, e_sub, e_mul, e_eql, e_neq, e_lss, e_leq, e_gtr, e_geq, e_conv, e_not, e_neg, and_guard, or_guard]
      exact key
theorem any_none {x y : List OpT} (h : (locksL x).any (fun a => (locksL y).any (fun b => (meetL a.1 b.1).isSome)) = false) : ∀ o ∈ x, ∀ p ∈ y, meetL (spR o) (spR p) = none := fun o ho p hp => by
  rw [List.any_eq_false] at h
  have h1 := h (spR o, wrt o.kind) (List.mem_map_of_mem (f := fun o : OpT => (spR o, wrt o.kind)) ho)
  rw [Bool.not_eq_true] at h1
  rw [List.any_eq_false] at h1
  have h2 := h1 (spR p, wrt p.kind) (List.mem_map_of_mem (f := fun o : OpT => (spR o, wrt o.kind)) hp)
  exact none_of (by simpa using h2)
theorem set_two {l : List Sn} {j : Nat} (hj : j + 1 < l.length) : ∃ l1 l2, l = l1 ++ l[j]'(by omega) :: l[j + 1] :: l2 ∧ l1.length = j ∧ (l.set j l[j + 1]).set (j + 1) (l[j]'(by omega)) = l1 ++ l[j + 1] :: l[j]'(by omega) :: l2 := by
  have e : l = l.take j ++ l[j]'(by omega) :: l[j + 1] :: l.drop (j + 2) := by
    rw [List.getElem_cons_drop, List.getElem_cons_drop, List.take_append_drop]
  refine ⟨l.take j, l.drop (j + 2), e, by rw [List.length_take]; omega, ?_⟩
  have hlen : (l.take j).length = j := by rw [List.length_take]; omega
  generalize l[j]'(by omega) = a at *
  generalize l[j + 1] = b at *
  generalize l.drop (j + 2) = l2 at *
  generalize l.take j = l1 at *
  subst hlen
  rw [e]
  simp [List.set_append]
theorem cut2_of {n : Nat} (hn : n ≤ 1000) (h2 : 2 ≤ n) (c : Int) : IntKind.wrap .i64 (((n : Nat) : Int) - 1) = ((n : Nat) : Int) - 1 ∧ ((n : Nat) : Int) - 1 ≠ 0 ∧ IntKind.wrap .i64 (c.tmod (((n : Nat) : Int) - 1) + ((n : Nat) : Int)) = c.tmod (((n : Nat) : Int) - 1) + ((n : Nat) : Int) ∧ IntKind.wrap .i64 (c.tmod (((n : Nat) : Int) - 1) + ((n : Nat) : Int) - 1) = c.tmod (((n : Nat) : Int) - 1) + ((n : Nat) : Int) - 1 ∧ ∃ j : Nat, (c.tmod (((n : Nat) : Int) - 1) + ((n : Nat) : Int) - 1).tmod (((n : Nat) : Int) - 1) = (j : Int) ∧ j + 1 < n := by
  have hr1 : -(((n : Nat) : Int) - 1) < c.tmod (((n : Nat) : Int) - 1) ∧ c.tmod (((n : Nat) : Int) - 1) < ((n : Nat) : Int) - 1 := by
    have h1 := Int.lt_tmod_of_pos c (show (0 : Int) < ((n : Nat) : Int) - 1 by omega)
    have h2 := Int.tmod_lt_of_pos c (show (0 : Int) < ((n : Nat) : Int) - 1 by omega)
    exact ⟨h1, h2⟩
  generalize hq : c.tmod (((n : Nat) : Int) - 1) = q at hr1
  refine ⟨by rw [wrap_i64 (by omega) (by omega)], by omega, by rw [wrap_i64 (by omega) (by omega)], by rw [wrap_i64 (by omega) (by omega)], ?_⟩
  have h1 := Int.tmod_nonneg (((n : Nat) : Int) - 1) (show (0 : Int) ≤ q + ((n : Nat) : Int) - 1 by omega)
  have h2 := Int.tmod_lt_of_pos (q + ((n : Nat) : Int) - 1) (show (0 : Int) < ((n : Nat) : Int) - 1 by omega)
  exact ⟨((q + ((n : Nat) : Int) - 1).tmod (((n : Nat) : Int) - 1)).toNat, by omega, by omega⟩
theorem JudgeTurns_law (s : St) (v : Value) (l : List Sn) (h : ListN snN 80 l s v) (c : Int) (hc : (Lit.int .i64 c).wf = true) : ∃ s', (run Try.prog (libL libT) hints) 7 [v, .int .i64 c] s = some (.bool true, s') := by
  obtain ⟨hv, hwf, hl⟩ := sn_list h
  have hlen : ∀ e s2, alenV (.slice e) v s2 = some (.int .i64 ((l.length : Nat) : Int)) := fun e s2 => hv.len
  obtain ⟨m, t1, g1, g2, g3⟩ := Replay_run hv hl
  have gm := OwnC.istup g3
  by_cases he : (judP l).2 = 0
  case neg =>
    refine ⟨t1, law23_JudgeTurns_of rfl ?_⟩
    unfold law23_JudgeTurns
    simp only [law23_live_call, k_live, judge_Replay_call, g1, y2m_0 gm, y2m_1, ne0 he, n_bind, n_map, getL_0, getL_1, getL_2, getL_3, getL_4, getL_5, getL_6, getL_7, getL_8, getL_9, getL_10, getL_11, getL_12, condV_t, condV_f, guardV_tt, guardV_ff, guardV_tf, guardV_ft, guardV_u, apick_t, apick_f, exV_exit, exV_ret, lookE_same, joinK_eq, seqA_n, seqA_e, seqA_r, e_add, e_sub, e_mul, e_eql, e_neq, e_lss, e_leq, e_gtr, e_geq, e_conv, e_not, e_neg, and_guard, or_guard, retV]
    rfl
  have z0 : ((0 : Int) != 0) = false := rfl
  rw [he] at g1
  rw [if_pos he] at g3
  by_cases hsm : l.length < 2
  · have h1 : decide (((l.length : Nat) : Int) < 2) = true := by simp; omega
    refine ⟨t1, law23_JudgeTurns_of rfl ?_⟩
    unfold law23_JudgeTurns
    simp only [law23_live_call, k_live, judge_Replay_call, g1, y2m_0 gm, y2m_1, z0, hlen, h1, n_bind, n_map, getL_0, getL_1, getL_2, getL_3, getL_4, getL_5, getL_6, getL_7, getL_8, getL_9, getL_10, getL_11, getL_12, condV_t, condV_f, guardV_tt, guardV_ff, guardV_tf, guardV_ft, guardV_u, apick_t, apick_f, exV_exit, exV_ret, lookE_same, joinK_eq, seqA_n, seqA_e, seqA_r, e_add, e_sub, e_mul, e_eql, e_neq, e_lss, e_leq, e_gtr, e_geq, e_conv, e_not, e_neg, and_guard, or_guard, retV]
    rfl
  have h0 : decide (((l.length : Nat) : Int) < 2) = false := by simp; omega
  by_cases hbig : 100 < l.length
  · have h1 : decide (((l.length : Nat) : Int) > 100) = true := by simp; omega
    refine ⟨t1, law23_JudgeTurns_of rfl ?_⟩
    unfold law23_JudgeTurns
    simp only [law23_live_call, k_live, judge_Replay_call, g1, y2m_0 gm, y2m_1, z0, hlen, h0, h1, n_bind, n_map, getL_0, getL_1, getL_2, getL_3, getL_4, getL_5, getL_6, getL_7, getL_8, getL_9, getL_10, getL_11, getL_12, condV_t, condV_f, guardV_tt, guardV_ff, guardV_tf, guardV_ft, guardV_u, apick_t, apick_f, exV_exit, exV_ret, lookE_same, joinK_eq, seqA_n, seqA_e, seqA_r, e_add, e_sub, e_mul, e_eql, e_neq, e_lss, e_leq, e_gtr, e_geq, e_conv, e_not, e_neg, and_guard, or_guard, retV]
    rfl
  have h1 : decide (((l.length : Nat) : Int) > 100) = false := by simp; omega
  obtain ⟨w1, w2, w3, w4, j, w5, w6⟩ := cut2_of (n := l.length) (by omega) (by omega) c
  obtain ⟨pa, oa, ra, a1, a2, _, a3⟩ := hv.at2 g2 (i := j) (by omega)
  obtain ⟨pb, ob, rb, b1, b2, _, b3⟩ := hv.at2 g2 (i := j + 1) w6
  obtain ⟨l1, l2, s1, s2, s3⟩ := set_two w6
  generalize ha : l[j]'(by omega) = a at *
  generalize hb : l[j + 1] = b at *
  obtain ⟨_, _, e, a4, a5, _⟩ := id a3
  cases e
  obtain ⟨_, _, e, b4, b5, _⟩ := id b3
  cases e
  have hinc : IntKind.wrap .i64 ((j : Int) + 1) = ((j + 1 : Nat) : Int) := inc_i64 (by omega)
  have sta := sn_st (x := a) (ops_leaf a4) (rdy_leaf a5)
  have stb := sn_st (x := b) (ops_leaf b4) (rdy_leaf b5)
  cases ka : (a.kind != 2) with
  | true =>
    refine ⟨t1, law23_JudgeTurns_of rfl ?_⟩
    unfold law23_JudgeTurns
    simp only [law23_live_call, k_live, judge_Replay_call, g1, y2m_0 gm, y2m_1, z0, hlen, h0, h1, w1, e_rem w2, w3, w4, w5, hinc, a1, a2, b1, b2, sta, stb, sn_0, ka, n_bind, n_map, getL_0, getL_1, getL_2, getL_3, getL_4, getL_5, getL_6, getL_7, getL_8, getL_9, getL_10, getL_11, getL_12, condV_t, condV_f, guardV_tt, guardV_ff, guardV_tf, guardV_ft, guardV_u, apick_t, apick_f, exV_exit, exV_ret, lookE_same, joinK_eq, seqA_n, seqA_e, seqA_r, e_add, e_sub, e_mul, e_eql, e_neq, e_lss, e_leq, e_gtr, e_geq, e_conv, e_not, e_neg, and_guard, or_guard, retV]
    rfl
  | false =>
  cases kb : (b.kind != 2) with
  | true =>
    refine ⟨t1, law23_JudgeTurns_of rfl ?_⟩
    unfold law23_JudgeTurns
    simp only [law23_live_call, k_live, judge_Replay_call, g1, y2m_0 gm, y2m_1, z0, hlen, h0, h1, w1, e_rem w2, w3, w4, w5, hinc, a1, a2, b1, b2, sta, stb, sn_0, ka, kb, n_bind, n_map, getL_0, getL_1, getL_2, getL_3, getL_4, getL_5, getL_6, getL_7, getL_8, getL_9, getL_10, getL_11, getL_12, condV_t, condV_f, guardV_tt, guardV_ff, guardV_tf, guardV_ft, guardV_u, apick_t, apick_f, exV_exit, exV_ret, lookE_same, joinK_eq, seqA_n, seqA_e, seqA_r, e_add, e_sub, e_mul, e_eql, e_neq, e_lss, e_leq, e_gtr, e_geq, e_conv, e_not, e_neg, and_guard, or_guard, retV]
    rfl
  | false =>
  have hka : a.kind = 2 := by simpa using ka
  have hkb : b.kind = 2 := by simpa using kb
  obtain ⟨xv, yv, q1, q2, q3⟩ := tb_loop (c := .int .i64 (j : Int)) (m := m) (hv.ext g2) (by omega) (a := a) (b := b) (oa := oa) (ra := ra) (ob := ob) (rb := rb) l 0 (.slice none 0 0) (.slice none 0 0) [] [] rfl (Nat.zero_le _) (list_nil _) (list_nil _)
  rw [show ((0 : Nat) : Int) = 0 from rfl] at q1
  have hkk := jp_kok l 0 Kn.nil KOk.nil (by omega)
  have hvl : ∀ r, allE (lastA r [] l) = 0 ∧ (lastA r [] l).length ≤ 4 := fun r => by
    have := last_look (r := r) (l := l) (i := 0) (K := Kn.nil) he
    rw [show (lookR r Kn.nil.ops).getD [] = [] from rfl] at this
    rw [this]
    cases hq : lookR r (judgeP l 0 Kn.nil).2.2.ops with
    | none => exact ⟨rfl, by simp⟩
    | some o => exact hkk.ops _ (lookR_mem hq)
  obtain ⟨va1, va2⟩ := hvl (rqOf a)
  obtain ⟨vb1, vb2⟩ := hvl (rqOf b)
  obtain ⟨pv, t2, d1, d2, d3⟩ := k_locks q2 (by omega) va1
  obtain ⟨qv, t3, d4, d5, d6⟩ := k_locks (list_ext d3 q3) (by omega) vb1
  have dp : isTup pv = false := Own.istup d2
  have dq : isTup qv = false := Own.istup d5
  have lp := list_ext d6 (own_list (C := lkC) d2)
  have lq := own_list (C := lkC) d5
  have hll : ∀ x : List OpT, (locksL x).length = x.length := fun x => by unfold locksL; rw [List.length_map]
  have hloop := tp_loop (v := v) (c := .int .i64 (j : Int)) (m := m) (va := snV a oa ra) (vb := snV b ob rb) lp (by rw [hll]; omega) lq (by rw [hll]; omega) (locksL (lastA (rqOf a) [] l)) 0 rfl (Nat.zero_le _)
  rw [show ((0 : Nat) : Int) = 0 from rfl] at hloop
  cases hany : (locksL (lastA (rqOf a) [] l)).any (fun a => (locksL (lastA (rqOf b) [] l)).any (fun b => (meetL a.1 b.1).isSome)) with
  | true =>
    rw [hany, if_pos rfl] at hloop
    refine ⟨t3, law23_JudgeTurns_of rfl ?_⟩
    unfold law23_JudgeTurns
    simp only [law23_live_call, k_live, judge_Replay_call, g1, y2m_0 gm, y2m_1, z0, hlen, h0, h1, w1, e_rem w2, w3, w4, w5, hinc, a1, a2, b1, b2, sta, stb, sn_0, ka, kb, q1, ref04_Locks_call, d1, d4, y2m_0 dp, y2m_0 dq, list_len lp, hloop, n_bind, n_map, getL_0, getL_1, getL_2, getL_3, getL_4, getL_5, getL_6, getL_7, getL_8, getL_9, getL_10, getL_11, getL_12, condV_t, condV_f, guardV_tt, guardV_ff, guardV_tf, guardV_ft, guardV_u, apick_t, apick_f, exV_exit, exV_ret, lookE_same, joinK_eq, seqA_n, seqA_e, seqA_r, e_add, e_sub, e_mul, e_eql, e_neq, e_lss, e_leq, e_gtr, e_geq, e_conv, e_not, e_neg, and_guard, or_guard, retV]
    rfl
  | false =>
    rw [hany, if_neg (by simp)] at hloop
    have hx3 : Ext s.heap.length s t3 := (g2.trans (d3.less g2.1)).trans (d6.less (g2.trans (d3.less g2.1)).1)
    obtain ⟨css, c1, c2⟩ := id hv
    obtain ⟨v4, t4, f1, f2⟩ := (SnOwn.nil hx3).more (hx3.cells c1) c2 (by simp; omega)
    rw [List.nil_append] at f2
    obtain ⟨p5, t5, f3, f4, f5⟩ := f2.set (i := j) (by omega) b3
    obtain ⟨p6, t6, f6, f7, f8⟩ := f5.set (i := j + 1) (by rw [List.length_set]; exact w6) a3
    rw [s3] at f8
    have hle : l.length = (l1 ++ b :: a :: l2).length := by rw [s1]; simp
    obtain ⟨n, t7, f9, f10, f11⟩ := Replay_run f8.list (by omega)
    rw [s1] at he hany
    obtain ⟨e1, e2⟩ := turn_plain he hka hkb (by rw [← s1]; omega) (any_none hany)
    rw [e1] at f9
    rw [if_pos e1, e2, ← s1] at f11
    have hn : isTup n = false := OwnC.istup f11
    have hx7 : Ext t1.heap.length t1 t7 := by
      have hx1 : Ext t1.heap.length t1 t3 := d3.trans (d6.less d3.1)
      have k4 : Ext t1.heap.length t3 t4 := by
        have := aappend_keep f1
        exact ⟨this.1.1, fun b hb => this.1.2 b (by have := hx1.1; omega) (by intro e; cases e)⟩
      have kown : ∀ bb, blkOf v4 = some bb → t1.heap.length ≤ bb := fun bb hbb => by
        have := (aappend_keep f1).2
        rcases this with h | h
        · rw [h] at hbb; cases hbb
        · have := h bb hbb; have := hx1.1; omega
      have kst : ∀ {u u' : St} {p x : Value} {n : Nat}, (∃ bb o, p = .pointer (some ⟨bb, o, none⟩) ∧ t1.heap.length ≤ bb) → astore n p x u = some u' → Ext t1.heap.length u u' := fun {u u' p x n} ⟨bb, o, e, hb⟩ hs => by
        subst e
        simp only [astore] at hs
        split at hs
        · unfold writeN at hs
          split at hs
          · split at hs
            · cases hs
              exact (Ext.refl _ _).put hb
            · cases hs
          · cases hs
        · cases hs
      have kix : ∀ {i : Nat} {p : Value}, aindexS 6 v4 (.int .i64 (i : Int)) = some p → ∃ bb o, p = .pointer (some ⟨bb, o, none⟩) ∧ t1.heap.length ≤ bb := fun {i p} hi => by
        obtain ⟨_, _, hown, _⟩ := f2
        rcases hown with ⟨e, _⟩ | ⟨bb, len, e, _⟩
        · rw [e] at hi; simp [aindexS] at hi
        · have := kown bb (by rw [e]; rfl)
          rw [e] at hi
          simp only [aindexS] at hi
          split at hi
          · cases hi
            exact ⟨_, _, rfl, this⟩
          · cases hi
      have k5 := kst (kix f3) f4
      have k6 := kst (kix f6) f7
      have b4 : t1.heap.length ≤ t3.heap.length := hx1.1
      have b5 := Nat.le_trans b4 k4.1
      have b6 := Nat.le_trans b5 k5.1
      have b7 := Nat.le_trans b6 k6.1
      exact (((hx1.trans k4).trans k5).trans k6).trans (f10.less b7)
    have hsm2 := k_same (L := libT) rfl (list_ext hx7 g3.list) f11.list (by
      have := hkk.room (by omega)
      show (mapP l).length < _
      unfold mapP
      omega)
    have z1 : ((0 : Int) == 0) = true := rfl
    refine ⟨t7, law23_JudgeTurns_of rfl ?_⟩
    unfold law23_JudgeTurns
    simp only [law23_live_call, k_live, judge_Replay_call, g1, y2m_0 gm, y2m_1, z0, hlen, h0, h1, w1, e_rem w2, w3, w4, w5, hinc, a1, a2, b1, b2, sta, stb, sn_0, ka, kb, q1, ref04_Locks_call, d1, d4, y2m_0 dp, y2m_0 dq, list_len lp, hloop, f1, sn_all, f3, f4, f6, f7, f9, y2m_0 hn, z1, ref04_SameMap_call, hsm2, decide_true, n_bind, n_map, getL_0, getL_1, getL_2, getL_3, getL_4, getL_5, getL_6, getL_7, getL_8, getL_9, getL_10, getL_11, getL_12, condV_t, condV_f, guardV_tt, guardV_ff, guardV_tf, guardV_ft, guardV_u, apick_t, apick_f, exV_exit, exV_ret, lookE_same, joinK_eq, seqA_n, seqA_e, seqA_r, e_add, e_sub, e_mul, e_eql, e_neq, e_lss, e_leq, e_gtr, e_geq, e_conv, e_not, e_neg, and_guard, or_guard, retV]
    rfl

end Go.Proofs.Ytccindbiodofmaa.Ab

/- A law's arguments in memory, as the abstract machine has them: bytes. -/
namespace Go.Proofs.Ytccindbiodofmaa.Ab
open Go

end Go.Proofs.Ytccindbiodofmaa.Ab

/- A row's slice of whole numbers is no longer than its weight allows. (Began as the words that print.sh lays for rows over slices.) -/
namespace Go.Proofs.Ytccindbiodofmaa.Ab
open Go Go.ChangeShapes Go.WideShapes
end Go.Proofs.Ytccindbiodofmaa.Ab
