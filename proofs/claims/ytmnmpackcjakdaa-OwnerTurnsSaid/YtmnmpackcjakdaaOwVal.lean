/- Owners: as values; which may be; what one has. -/
import Derived.Test.YtmnmpackcjakdaaStrCmp
import Derived.Test.YtmnmpackcjakdaaBList
set_option linter.unusedVariables false
set_option linter.unusedSimpArgs false
set_option linter.unusedSectionVars false
namespace Go.Proofs.Ytmnmpackcjakdaa.Ab
open Go

theorem condV_ifO {b : Bool} {β : Type} {x y : Option β} : condV (.bool b) x y = if b = true then x else y := by cases b <;> rfl
theorem ret_1 {v : Value} {s : St} (h : noTup v = true := by rfl) : retV [v] s = some (v, s) := by simp [retV, h, resPack]
theorem ret_2 {u v : Value} {s : St} (h : noTup u = true := by rfl) (g : noTup v = true := by rfl) : retV [u, v] s = some (.tuple #[u, v], s) := by simp [retV, h, g, resPack]
theorem inc_i {i : Nat} (h : i < 140737488355328) : IntKind.wrap .i64 ((i : Int) + 1) = ((i + 1 : Nat) : Int) := by rw [wrap_i64 (by omega) (by omega)]; omega
theorem dec_i {i : Nat} (h : i < 140737488355328) : IntKind.wrap .i64 (((i + 1 : Nat) : Int) - 1) = ((i : Nat) : Int) := by rw [wrap_i64 (by omega) (by omega)]; omega

abbrev Ow := BL × Int
def owV (o : Ow) : Value := .agg #[sv o.1, .int .i64 o.2]
def owC : Cod Ow where
  n := 2
  enc o := [sv o.1, .int .i64 o.2]
  pos := by decide
  len _ := rfl
  inj := by
    rintro ⟨a, i⟩ ⟨b, j⟩ h
    simp only [sv, List.cons.injEq, Value.string.injEq, Value.int.injEq, true_and, and_true, ByteArray.mk.injEq, true_and] at h
    have := congrArg Array.toList h.1
    simp only at this
    rw [Prod.mk.injEq]
    exact ⟨this, h.2⟩
  leaf _ := rfl
theorem ow_enc (o : Ow) : Value.agg (owC.enc o).toArray = owV o := rfl
theorem w_st (o p : Ow) : lstore 2 lptr (owV o) (owV p) = some (owV o) := rfl
theorem w_z : (Value.agg #[(.string ⟨#[]⟩), (.int .i64 0)]) = owV ([], 0) := rfl
theorem w_z2 : (Value.agg #[sv [], (.int .i64 0)]) = owV ([], 0) := rfl
theorem w_1 (o : Ow) : lload false 1 (.pointer (some ⟨0, 1, none⟩)) (owV o) = some (.int .i64 o.2) := rfl
theorem w_0 (o : Ow) : lload false 1 lptr (owV o) = some (sv o.1) := rfl
theorem w_box (o : Ow) : lbox (owV o) = some (owV o) := rfl
theorem w_ab (k : BL) (n : Int) : abuild Try.prog 30 [(0, sv k), (1, .int .i64 n)] = some (owV (k, n)) := by kernel_rfl

/-! ### Which may be -/
def shOk (n : Int) : Bool := !(decide (n < 1)) && !(decide (n > 4))
def okF : Option BL → List Ow → Bool
  | _, [] => true
  | none, o :: l => shOk o.2 && okF (some o.1) l
  | some p, o :: l => shOk o.2 && (ckK o.1 && bl p o.1) && okF (some o.1) l
def okO (l : List Ow) : Bool := match l with
  | [] => false
  | o :: r => decide (r.length < 6) && o.1 == [] && okF none (o :: r)
def eO (l : List Ow) : Int := if okO l then 0 else 170
theorem eO_0 {l : List Ow} : (eO l == 0) = okO l := by unfold eO; cases okO l <;> rfl
theorem eO_n {l : List Ow} : (eO l != 0) = !okO l := by unfold eO; cases okO l <;> rfl
def prevO (l : List Ow) : Nat → Option BL
  | 0 => none
  | i + 1 => l[i]?.map (·.1)
theorem drop_nx {α : Type} {l rest : List α} {o : α} {i : Nat} (h : l.drop i = o :: rest) : ∃ hi : i < l.length, l[i] = o ∧ l.drop (i + 1) = rest := by
  have hi : i < l.length := by
    rcases Nat.lt_or_ge i l.length with g | g
    · exact g
    · rw [List.drop_eq_nil_of_le g] at h; cases h
  rw [← List.getElem_cons_drop (h := hi)] at h
  exact ⟨hi, (List.cons.inj h).1, (List.cons.inj h).2⟩

theorem owner_Check_one {R : Caller} (hK : ∀ k s, R 25 [sv k] s = some (.int .i64 (eK k), s)) {v : Value} {s : St} {l : List Ow} (h : listOf owC v s = some l) {i : Nat} (hi : i < l.length) (hl : l.length < 140737488355328) :
    owner_Check.b0 R [v, v, .int .i64 ((l.length : Nat) : Int), .int .i64 (i : Int)] s = if (shOk l[i].2 && (match prevO l i with | none => true | some p => ckK l[i].1 && bl p l[i].1)) = true then some (.normal, [v, v, .int .i64 ((l.length : Nat) : Int), .int .i64 ((i + 1 : Nat) : Int)], s) else some (.ret, [.int .i64 170], s) := by
  have h1 : decide ((i : Int) < ((l.length : Nat) : Int)) = true := by simp; omega
  obtain ⟨p, g1, g2⟩ := list_at h hi (k := .i64) (n := 2) rfl
  rw [ow_enc] at g2
  unfold owner_Check.b0
  simp only [getL_0, getL_1, getL_2, getL_3, e_lss, h1, n_bind, condV_t, g1, g2, nil_sv, w_z, w_z2, w_st, w_1]
  have hsh : shOk l[i].2 = (!(decide (l[i].2 < 1)) && !(decide (l[i].2 > 4))) := rfl
  rw [hsh]
  cases c1 : decide (l[i].2 < 1)
  · cases c2 : decide (l[i].2 > 4)
    · cases i with
      | zero =>
        have c3 : decide (((0 : Nat) : Int) > 0) = false := rfl
        simp only [prevO, w_1, e_gtr, c1, c2, c3, n_bind, n_map, getL_0, getL_1, getL_2, getL_3, getL_4, getL_5, getL_6, getL_7, getL_8, getL_9, getL_10, getL_11, getL_12, condV_t, condV_f, guardV_tt, guardV_ff, guardV_tf, guardV_ft, guardV_u, apick_t, apick_f, exV_exit, exV_ret, lookE_same, joinK_eq, seqA_n, seqA_e, seqA_r, e_add, e_sub, e_mul, e_eql, e_neq, e_lss, e_leq, e_gtr, e_geq, e_conv, e_not, e_neg, and_guard, or_guard, own_id, inc_i (show 0 < 140737488355328 by omega), Bool.not_false, Bool.and_self, if_true]
      | succ j =>
        have c3 : decide (((j + 1 : Nat) : Int) > 0) = true := decide_eq_true (by omega)
        have hj : j < l.length := by omega
        obtain ⟨q, f1, q2, f2, f3⟩ := list_field h hj (j := 0) (c := sv l[j].1) rfl (k := .i64) (n := 2) rfl
        have hp : prevO l (j + 1) = some l[j].1 := by simp only [prevO, List.getElem?_eq_getElem hj, Option.map_some]
        rw [hp]
        cases c4 : ckK l[j + 1].1
        · simp only [w_0, w_1, e_gtr, c1, c2, c3, n_bind, n_map, getL_0, getL_1, getL_2, getL_3, getL_4, getL_5, getL_6, getL_7, getL_8, getL_9, getL_10, getL_11, getL_12, condV_t, condV_f, guardV_tt, guardV_ff, guardV_tf, guardV_ft, guardV_u, apick_t, apick_f, exV_exit, exV_ret, lookE_same, joinK_eq, seqA_n, seqA_e, seqA_r, e_add, e_sub, e_mul, e_eql, e_neq, e_lss, e_leq, e_gtr, e_geq, e_conv, e_not, e_neg, and_guard, or_guard, own_id, span_CheckKey_call, hK, eK_n, c4, Bool.not_false, Bool.not_true, Bool.and_self, Bool.false_and, Bool.and_false, Bool.false_eq_true, if_false]
        · cases c5 : bl l[j].1 l[j + 1].1
          · simp only [w_0, w_1, e_gtr, c1, c2, c3, c4, c5, n_bind, n_map, getL_0, getL_1, getL_2, getL_3, getL_4, getL_5, getL_6, getL_7, getL_8, getL_9, getL_10, getL_11, getL_12, condV_t, condV_f, guardV_tt, guardV_ff, guardV_tf, guardV_ft, guardV_u, apick_t, apick_f, exV_exit, exV_ret, lookE_same, joinK_eq, seqA_n, seqA_e, seqA_r, e_add, e_sub, e_mul, e_eql, e_neq, e_lss, e_leq, e_gtr, e_geq, e_conv, e_not, e_neg, and_guard, or_guard, own_id, span_CheckKey_call, hK, eK_n, dec_i (show j < 140737488355328 by omega), f1, f2, f3, geq_bl, Bool.not_false, Bool.not_true, Bool.and_self, Bool.false_and, Bool.and_false, Bool.false_eq_true, if_false]
          · simp only [w_0, w_1, e_gtr, c1, c2, c3, c4, c5, n_bind, n_map, getL_0, getL_1, getL_2, getL_3, getL_4, getL_5, getL_6, getL_7, getL_8, getL_9, getL_10, getL_11, getL_12, condV_t, condV_f, guardV_tt, guardV_ff, guardV_tf, guardV_ft, guardV_u, apick_t, apick_f, exV_exit, exV_ret, lookE_same, joinK_eq, seqA_n, seqA_e, seqA_r, e_add, e_sub, e_mul, e_eql, e_neq, e_lss, e_leq, e_gtr, e_geq, e_conv, e_not, e_neg, and_guard, or_guard, own_id, span_CheckKey_call, hK, eK_n, dec_i (show j < 140737488355328 by omega), f1, f2, f3, geq_bl, inc_i (show j + 1 < 140737488355328 by omega), Bool.not_false, Bool.not_true, Bool.and_self, Bool.false_and, Bool.and_false, Bool.false_eq_true, if_true]
    · simp only [w_1, e_gtr, c1, c2, n_bind, n_map, getL_0, getL_1, getL_2, getL_3, getL_4, getL_5, getL_6, getL_7, getL_8, getL_9, getL_10, getL_11, getL_12, condV_t, condV_f, guardV_tt, guardV_ff, guardV_tf, guardV_ft, guardV_u, apick_t, apick_f, exV_exit, exV_ret, lookE_same, joinK_eq, seqA_n, seqA_e, seqA_r, e_add, e_sub, e_mul, e_eql, e_neq, e_lss, e_leq, e_gtr, e_geq, e_conv, e_not, e_neg, and_guard, or_guard, own_id, Bool.not_false, Bool.not_true, Bool.and_false, Bool.false_and, Bool.false_eq_true, if_false]
  · simp only [c1, n_bind, n_map, getL_0, getL_1, getL_2, getL_3, getL_4, getL_5, getL_6, getL_7, getL_8, getL_9, getL_10, getL_11, getL_12, condV_t, condV_f, guardV_tt, guardV_ff, guardV_tf, guardV_ft, guardV_u, apick_t, apick_f, exV_exit, exV_ret, lookE_same, joinK_eq, seqA_n, seqA_e, seqA_r, e_add, e_sub, e_mul, e_eql, e_neq, e_lss, e_leq, e_gtr, e_geq, e_conv, e_not, e_neg, and_guard, or_guard, own_id, Bool.not_true, Bool.false_and, Bool.false_eq_true, if_false]
theorem owner_Check_loop {R : Caller} (hK : ∀ k s, R 25 [sv k] s = some (.int .i64 (eK k), s)) {v : Value} {s : St} {l : List Ow} (h : listOf owC v s = some l) (hl : l.length < 140737488355328) : ∀ (rest : List Ow) (i : Nat), l.drop i = rest → i ≤ l.length →
    loopL (owner_Check.b0 R) [v, v, .int .i64 ((l.length : Nat) : Int), .int .i64 (i : Int)] s = if okF (prevO l i) rest = true then some (.exit 0, [], s) else some (.ret, [.int .i64 170], s) := by
  intro rest
  induction rest with
  | nil =>
    intro i hi hle
    have h1 : decide ((i : Int) < ((l.length : Nat) : Int)) = false := by
      have := List.drop_eq_nil_iff.1 hi
      simp; omega
    rw [loopL_eq]
    simp only [owner_Check.b0, h1, n_bind, n_map, getL_0, getL_1, getL_2, getL_3, getL_4, getL_5, getL_6, getL_7, getL_8, getL_9, getL_10, getL_11, getL_12, condV_t, condV_f, guardV_tt, guardV_ff, guardV_tf, guardV_ft, guardV_u, apick_t, apick_f, exV_exit, exV_ret, lookE_same, joinK_eq, seqA_n, seqA_e, seqA_r, e_add, e_sub, e_mul, e_eql, e_neq, e_lss, e_leq, e_gtr, e_geq, e_conv, e_not, e_neg, and_guard, or_guard, okF, if_true]
  | cons o rest ih =>
    intro i hi hle
    obtain ⟨hlt, he, hd⟩ := drop_nx hi
    rw [loopL_eq, owner_Check_one hK h hlt hl, he]
    have hn : prevO l (i + 1) = some o.1 := by simp only [prevO, List.getElem?_eq_getElem hlt, he, Option.map_some]
    have key := ih (i + 1) hd (by omega)
    rw [hn] at key
    cases hp : prevO l i with
    | none =>
      simp only [okF, Bool.and_true]
      by_cases c : shOk o.2 = true
      · simp only [c, Bool.true_and, if_true, seqA_n, key]
      · have c2 : shOk o.2 = false := by simpa using c
        simp only [c2, Bool.false_and, Bool.false_eq_true, if_false, seqA_r]
    | some p =>
      simp only [okF]
      by_cases c : (shOk o.2 && (ckK o.1 && bl p o.1)) = true
      · simp only [c, Bool.true_and, if_true, seqA_n, key]
      · have c2 : (shOk o.2 && (ckK o.1 && bl p o.1)) = false := by simpa using c
        simp only [c2, Bool.false_and, Bool.false_eq_true, if_false, seqA_r]
theorem owner_Check_run {R : Caller} (hK : ∀ k s, R 25 [sv k] s = some (.int .i64 (eK k), s)) {v : Value} {s : St} {l : List Ow} (h : listOf owC v s = some l) (hl : l.length < 140737488355328) : owner_Check R v s = some (.int .i64 (eO l), s) := by
  have key := owner_Check_loop hK h hl l 0 rfl (Nat.zero_le _)
  rw [show ((0 : Nat) : Int) = 0 from rfl] at key
  unfold owner_Check eO okO
  cases l with
  | nil =>
    have c1 : ∀ e s2, alenV (.slice e) v s2 = some (.int .i64 0) := fun e s2 => list_len h
    have z0 : decide ((0 : Int) < 1) = true := rfl
    have z1 : ((0 : Int) == 0) = true := rfl
    simp only [c1, z0, z1, n_bind, n_map, getL_0, getL_1, getL_2, getL_3, getL_4, getL_5, getL_6, getL_7, getL_8, getL_9, getL_10, getL_11, getL_12, condV_t, condV_f, guardV_tt, guardV_ff, guardV_tf, guardV_ft, guardV_u, apick_t, apick_f, exV_exit, exV_ret, lookE_same, joinK_eq, seqA_n, seqA_e, seqA_r, e_add, e_sub, e_mul, e_eql, e_neq, e_lss, e_leq, e_gtr, e_geq, e_conv, e_not, e_neg, and_guard, or_guard, retV]
    rfl
  | cons o r =>
    have c1 : (((o :: r).length : Int) == 0) = false := by simp only [List.length_cons, beq_eq_false_iff_ne]; omega
    have c1b : decide (((o :: r).length : Int) < 1) = false := by simp only [List.length_cons, decide_eq_false_iff_not]; omega
    have c2 : decide (((o :: r).length : Int) > 6) = !decide (r.length < 6) := by
      by_cases g : r.length < 6
      · simp only [g, decide_true, Bool.not_true, decide_eq_false_iff_not, List.length_cons]; omega
      · simp only [g, decide_false, Bool.not_false, decide_eq_true_eq, List.length_cons]; omega
    obtain ⟨p, f1, q, f2, f3⟩ := list_field h (i := 0) (by simp) (j := 0) (c := sv o.1) rfl (k := .i64) (n := 2) rfl
    have f1' : aindexS 2 v (.int .i64 0) = some p := f1
    simp only [list_len h, c1, c1b, c2, nil_sv, n_bind, n_map, getL_0, getL_1, getL_2, getL_3, getL_4, getL_5, getL_6, getL_7, getL_8, getL_9, getL_10, getL_11, getL_12, condV_t, condV_f, guardV_tt, guardV_ff, guardV_tf, guardV_ft, guardV_u, apick_t, apick_f, exV_exit, exV_ret, lookE_same, joinK_eq, seqA_n, seqA_e, seqA_r, e_add, e_sub, e_mul, e_eql, e_neq, e_lss, e_leq, e_gtr, e_geq, e_conv, e_not, e_neg, and_guard, or_guard]
    rcases Bool.eq_false_or_eq_true (decide (r.length < 6)) with g1 | g1
    · rcases Bool.eq_false_or_eq_true (o.1 == []) with g2 | g2
      · simp only [g1, Bool.not_true, n_bind, n_map, getL_0, getL_1, getL_2, getL_3, getL_4, getL_5, getL_6, getL_7, getL_8, getL_9, getL_10, getL_11, getL_12, condV_t, condV_f, guardV_tt, guardV_ff, guardV_tf, guardV_ft, guardV_u, apick_t, apick_f, exV_exit, exV_ret, lookE_same, joinK_eq, seqA_n, seqA_e, seqA_r, e_add, e_sub, e_mul, e_eql, e_neq, e_lss, e_leq, e_gtr, e_geq, e_conv, e_not, e_neg, and_guard, or_guard, f1', f2, f3, e_sneq, g2, list_len h, key]
        simp only [prevO, Bool.true_and]
        rcases Bool.eq_false_or_eq_true (okF none (o :: r)) with g3 | g3
        · simp only [g3, if_true, n_bind, n_map, getL_0, getL_1, getL_2, getL_3, getL_4, getL_5, getL_6, getL_7, getL_8, getL_9, getL_10, getL_11, getL_12, condV_t, condV_f, guardV_tt, guardV_ff, guardV_tf, guardV_ft, guardV_u, apick_t, apick_f, exV_exit, exV_ret, lookE_same, joinK_eq, seqA_n, seqA_e, seqA_r, e_add, e_sub, e_mul, e_eql, e_neq, e_lss, e_leq, e_gtr, e_geq, e_conv, e_not, e_neg, and_guard, or_guard, retV]
          rfl
        · simp only [g3, Bool.false_eq_true, if_false, n_bind, n_map, getL_0, getL_1, getL_2, getL_3, getL_4, getL_5, getL_6, getL_7, getL_8, getL_9, getL_10, getL_11, getL_12, condV_t, condV_f, guardV_tt, guardV_ff, guardV_tf, guardV_ft, guardV_u, apick_t, apick_f, exV_exit, exV_ret, lookE_same, joinK_eq, seqA_n, seqA_e, seqA_r, e_add, e_sub, e_mul, e_eql, e_neq, e_lss, e_leq, e_gtr, e_geq, e_conv, e_not, e_neg, and_guard, or_guard, retV]
          rfl
      · simp only [g1, Bool.not_true, n_bind, n_map, getL_0, getL_1, getL_2, getL_3, getL_4, getL_5, getL_6, getL_7, getL_8, getL_9, getL_10, getL_11, getL_12, condV_t, condV_f, guardV_tt, guardV_ff, guardV_tf, guardV_ft, guardV_u, apick_t, apick_f, exV_exit, exV_ret, lookE_same, joinK_eq, seqA_n, seqA_e, seqA_r, e_add, e_sub, e_mul, e_eql, e_neq, e_lss, e_leq, e_gtr, e_geq, e_conv, e_not, e_neg, and_guard, or_guard, f1', f2, f3, e_sneq, g2, Bool.not_false, Bool.and_false, Bool.false_and, Bool.false_eq_true, if_false, retV]
        rfl
    · simp only [g1, Bool.not_false, n_bind, n_map, getL_0, getL_1, getL_2, getL_3, getL_4, getL_5, getL_6, getL_7, getL_8, getL_9, getL_10, getL_11, getL_12, condV_t, condV_f, guardV_tt, guardV_ff, guardV_tf, guardV_ft, guardV_u, apick_t, apick_f, exV_exit, exV_ret, lookE_same, joinK_eq, seqA_n, seqA_e, seqA_r, e_add, e_sub, e_mul, e_eql, e_neq, e_lss, e_leq, e_gtr, e_geq, e_conv, e_not, e_neg, and_guard, or_guard, Bool.false_and, Bool.false_eq_true, if_false, retV]
      rfl
theorem ref17_Check_one {R : Caller} (hK : ∀ k s, R 38 [sv k] s = some (.int .i64 (eK k), s)) {v : Value} {s : St} {l : List Ow} (h : listOf owC v s = some l) {i : Nat} (hi : i < l.length) (hl : l.length < 140737488355328) :
    ref17_Check.b0 R [v, v, .int .i64 ((l.length : Nat) : Int), .int .i64 (i : Int)] s = if (shOk l[i].2 && (match prevO l i with | none => true | some p => ckK l[i].1 && bl p l[i].1)) = true then some (.normal, [v, v, .int .i64 ((l.length : Nat) : Int), .int .i64 ((i + 1 : Nat) : Int)], s) else some (.ret, [.int .i64 170], s) := by
  have h1 : decide ((i : Int) < ((l.length : Nat) : Int)) = true := by simp; omega
  obtain ⟨p, g1, g2⟩ := list_at h hi (k := .i64) (n := 2) rfl
  rw [ow_enc] at g2
  unfold ref17_Check.b0
  simp only [getL_0, getL_1, getL_2, getL_3, e_lss, h1, n_bind, condV_t, g1, g2, nil_sv, w_z, w_z2, w_st, w_1]
  have hsh : shOk l[i].2 = (!(decide (l[i].2 < 1)) && !(decide (l[i].2 > 4))) := rfl
  rw [hsh]
  cases c1 : decide (l[i].2 < 1)
  · cases c2 : decide (l[i].2 > 4)
    · cases i with
      | zero =>
        have c3 : decide (((0 : Nat) : Int) > 0) = false := rfl
        simp only [prevO, w_1, e_gtr, c1, c2, c3, n_bind, n_map, getL_0, getL_1, getL_2, getL_3, getL_4, getL_5, getL_6, getL_7, getL_8, getL_9, getL_10, getL_11, getL_12, condV_t, condV_f, guardV_tt, guardV_ff, guardV_tf, guardV_ft, guardV_u, apick_t, apick_f, exV_exit, exV_ret, lookE_same, joinK_eq, seqA_n, seqA_e, seqA_r, e_add, e_sub, e_mul, e_eql, e_neq, e_lss, e_leq, e_gtr, e_geq, e_conv, e_not, e_neg, and_guard, or_guard, own_id, inc_i (show 0 < 140737488355328 by omega), Bool.not_false, Bool.and_self, if_true]
      | succ j =>
        have c3 : decide (((j + 1 : Nat) : Int) > 0) = true := decide_eq_true (by omega)
        have hj : j < l.length := by omega
        obtain ⟨q, f1, q2, f2, f3⟩ := list_field h hj (j := 0) (c := sv l[j].1) rfl (k := .i64) (n := 2) rfl
        have hp : prevO l (j + 1) = some l[j].1 := by simp only [prevO, List.getElem?_eq_getElem hj, Option.map_some]
        rw [hp]
        cases c4 : ckK l[j + 1].1
        · simp only [w_0, w_1, e_gtr, c1, c2, c3, n_bind, n_map, getL_0, getL_1, getL_2, getL_3, getL_4, getL_5, getL_6, getL_7, getL_8, getL_9, getL_10, getL_11, getL_12, condV_t, condV_f, guardV_tt, guardV_ff, guardV_tf, guardV_ft, guardV_u, apick_t, apick_f, exV_exit, exV_ret, lookE_same, joinK_eq, seqA_n, seqA_e, seqA_r, e_add, e_sub, e_mul, e_eql, e_neq, e_lss, e_leq, e_gtr, e_geq, e_conv, e_not, e_neg, and_guard, or_guard, own_id, ref02_CheckKey_call, hK, eK_n, c4, Bool.not_false, Bool.not_true, Bool.and_self, Bool.false_and, Bool.and_false, Bool.false_eq_true, if_false]
        · cases c5 : bl l[j].1 l[j + 1].1
          · simp only [w_0, w_1, e_gtr, c1, c2, c3, c4, c5, n_bind, n_map, getL_0, getL_1, getL_2, getL_3, getL_4, getL_5, getL_6, getL_7, getL_8, getL_9, getL_10, getL_11, getL_12, condV_t, condV_f, guardV_tt, guardV_ff, guardV_tf, guardV_ft, guardV_u, apick_t, apick_f, exV_exit, exV_ret, lookE_same, joinK_eq, seqA_n, seqA_e, seqA_r, e_add, e_sub, e_mul, e_eql, e_neq, e_lss, e_leq, e_gtr, e_geq, e_conv, e_not, e_neg, and_guard, or_guard, own_id, ref02_CheckKey_call, hK, eK_n, dec_i (show j < 140737488355328 by omega), f1, f2, f3, geq_bl, Bool.not_false, Bool.not_true, Bool.and_self, Bool.false_and, Bool.and_false, Bool.false_eq_true, if_false]
          · simp only [w_0, w_1, e_gtr, c1, c2, c3, c4, c5, n_bind, n_map, getL_0, getL_1, getL_2, getL_3, getL_4, getL_5, getL_6, getL_7, getL_8, getL_9, getL_10, getL_11, getL_12, condV_t, condV_f, guardV_tt, guardV_ff, guardV_tf, guardV_ft, guardV_u, apick_t, apick_f, exV_exit, exV_ret, lookE_same, joinK_eq, seqA_n, seqA_e, seqA_r, e_add, e_sub, e_mul, e_eql, e_neq, e_lss, e_leq, e_gtr, e_geq, e_conv, e_not, e_neg, and_guard, or_guard, own_id, ref02_CheckKey_call, hK, eK_n, dec_i (show j < 140737488355328 by omega), f1, f2, f3, geq_bl, inc_i (show j + 1 < 140737488355328 by omega), Bool.not_false, Bool.not_true, Bool.and_self, Bool.false_and, Bool.and_false, Bool.false_eq_true, if_true]
    · simp only [w_1, e_gtr, c1, c2, n_bind, n_map, getL_0, getL_1, getL_2, getL_3, getL_4, getL_5, getL_6, getL_7, getL_8, getL_9, getL_10, getL_11, getL_12, condV_t, condV_f, guardV_tt, guardV_ff, guardV_tf, guardV_ft, guardV_u, apick_t, apick_f, exV_exit, exV_ret, lookE_same, joinK_eq, seqA_n, seqA_e, seqA_r, e_add, e_sub, e_mul, e_eql, e_neq, e_lss, e_leq, e_gtr, e_geq, e_conv, e_not, e_neg, and_guard, or_guard, own_id, Bool.not_false, Bool.not_true, Bool.and_false, Bool.false_and, Bool.false_eq_true, if_false]
  · simp only [c1, n_bind, n_map, getL_0, getL_1, getL_2, getL_3, getL_4, getL_5, getL_6, getL_7, getL_8, getL_9, getL_10, getL_11, getL_12, condV_t, condV_f, guardV_tt, guardV_ff, guardV_tf, guardV_ft, guardV_u, apick_t, apick_f, exV_exit, exV_ret, lookE_same, joinK_eq, seqA_n, seqA_e, seqA_r, e_add, e_sub, e_mul, e_eql, e_neq, e_lss, e_leq, e_gtr, e_geq, e_conv, e_not, e_neg, and_guard, or_guard, own_id, Bool.not_true, Bool.false_and, Bool.false_eq_true, if_false]
theorem ref17_Check_loop {R : Caller} (hK : ∀ k s, R 38 [sv k] s = some (.int .i64 (eK k), s)) {v : Value} {s : St} {l : List Ow} (h : listOf owC v s = some l) (hl : l.length < 140737488355328) : ∀ (rest : List Ow) (i : Nat), l.drop i = rest → i ≤ l.length →
    loopL (ref17_Check.b0 R) [v, v, .int .i64 ((l.length : Nat) : Int), .int .i64 (i : Int)] s = if okF (prevO l i) rest = true then some (.exit 0, [], s) else some (.ret, [.int .i64 170], s) := by
  intro rest
  induction rest with
  | nil =>
    intro i hi hle
    have h1 : decide ((i : Int) < ((l.length : Nat) : Int)) = false := by
      have := List.drop_eq_nil_iff.1 hi
      simp; omega
    rw [loopL_eq]
    simp only [ref17_Check.b0, h1, n_bind, n_map, getL_0, getL_1, getL_2, getL_3, getL_4, getL_5, getL_6, getL_7, getL_8, getL_9, getL_10, getL_11, getL_12, condV_t, condV_f, guardV_tt, guardV_ff, guardV_tf, guardV_ft, guardV_u, apick_t, apick_f, exV_exit, exV_ret, lookE_same, joinK_eq, seqA_n, seqA_e, seqA_r, e_add, e_sub, e_mul, e_eql, e_neq, e_lss, e_leq, e_gtr, e_geq, e_conv, e_not, e_neg, and_guard, or_guard, okF, if_true]
  | cons o rest ih =>
    intro i hi hle
    obtain ⟨hlt, he, hd⟩ := drop_nx hi
    rw [loopL_eq, ref17_Check_one hK h hlt hl, he]
    have hn : prevO l (i + 1) = some o.1 := by simp only [prevO, List.getElem?_eq_getElem hlt, he, Option.map_some]
    have key := ih (i + 1) hd (by omega)
    rw [hn] at key
    cases hp : prevO l i with
    | none =>
      simp only [okF, Bool.and_true]
      by_cases c : shOk o.2 = true
      · simp only [c, Bool.true_and, if_true, seqA_n, key]
      · have c2 : shOk o.2 = false := by simpa using c
        simp only [c2, Bool.false_and, Bool.false_eq_true, if_false, seqA_r]
    | some p =>
      simp only [okF]
      by_cases c : (shOk o.2 && (ckK o.1 && bl p o.1)) = true
      · simp only [c, Bool.true_and, if_true, seqA_n, key]
      · have c2 : (shOk o.2 && (ckK o.1 && bl p o.1)) = false := by simpa using c
        simp only [c2, Bool.false_and, Bool.false_eq_true, if_false, seqA_r]
theorem ref17_Check_run {R : Caller} (hK : ∀ k s, R 38 [sv k] s = some (.int .i64 (eK k), s)) {v : Value} {s : St} {l : List Ow} (h : listOf owC v s = some l) (hl : l.length < 140737488355328) : ref17_Check R v s = some (.int .i64 (eO l), s) := by
  have key := ref17_Check_loop hK h hl l 0 rfl (Nat.zero_le _)
  rw [show ((0 : Nat) : Int) = 0 from rfl] at key
  unfold ref17_Check eO okO
  cases l with
  | nil =>
    have c1 : ∀ e s2, alenV (.slice e) v s2 = some (.int .i64 0) := fun e s2 => list_len h
    have z0 : decide ((0 : Int) < 1) = true := rfl
    have z1 : ((0 : Int) == 0) = true := rfl
    simp only [c1, z0, z1, n_bind, n_map, getL_0, getL_1, getL_2, getL_3, getL_4, getL_5, getL_6, getL_7, getL_8, getL_9, getL_10, getL_11, getL_12, condV_t, condV_f, guardV_tt, guardV_ff, guardV_tf, guardV_ft, guardV_u, apick_t, apick_f, exV_exit, exV_ret, lookE_same, joinK_eq, seqA_n, seqA_e, seqA_r, e_add, e_sub, e_mul, e_eql, e_neq, e_lss, e_leq, e_gtr, e_geq, e_conv, e_not, e_neg, and_guard, or_guard, retV]
    rfl
  | cons o r =>
    have c1 : (((o :: r).length : Int) == 0) = false := by simp only [List.length_cons, beq_eq_false_iff_ne]; omega
    have c1b : decide (((o :: r).length : Int) < 1) = false := by simp only [List.length_cons, decide_eq_false_iff_not]; omega
    have c2 : decide (((o :: r).length : Int) > 6) = !decide (r.length < 6) := by
      by_cases g : r.length < 6
      · simp only [g, decide_true, Bool.not_true, decide_eq_false_iff_not, List.length_cons]; omega
      · simp only [g, decide_false, Bool.not_false, decide_eq_true_eq, List.length_cons]; omega
    obtain ⟨p, f1, q, f2, f3⟩ := list_field h (i := 0) (by simp) (j := 0) (c := sv o.1) rfl (k := .i64) (n := 2) rfl
    have f1' : aindexS 2 v (.int .i64 0) = some p := f1
    simp only [list_len h, c1, c1b, c2, nil_sv, n_bind, n_map, getL_0, getL_1, getL_2, getL_3, getL_4, getL_5, getL_6, getL_7, getL_8, getL_9, getL_10, getL_11, getL_12, condV_t, condV_f, guardV_tt, guardV_ff, guardV_tf, guardV_ft, guardV_u, apick_t, apick_f, exV_exit, exV_ret, lookE_same, joinK_eq, seqA_n, seqA_e, seqA_r, e_add, e_sub, e_mul, e_eql, e_neq, e_lss, e_leq, e_gtr, e_geq, e_conv, e_not, e_neg, and_guard, or_guard]
    rcases Bool.eq_false_or_eq_true (decide (r.length < 6)) with g1 | g1
    · rcases Bool.eq_false_or_eq_true (o.1 == []) with g2 | g2
      · simp only [g1, Bool.not_true, n_bind, n_map, getL_0, getL_1, getL_2, getL_3, getL_4, getL_5, getL_6, getL_7, getL_8, getL_9, getL_10, getL_11, getL_12, condV_t, condV_f, guardV_tt, guardV_ff, guardV_tf, guardV_ft, guardV_u, apick_t, apick_f, exV_exit, exV_ret, lookE_same, joinK_eq, seqA_n, seqA_e, seqA_r, e_add, e_sub, e_mul, e_eql, e_neq, e_lss, e_leq, e_gtr, e_geq, e_conv, e_not, e_neg, and_guard, or_guard, f1', f2, f3, e_sneq, g2, list_len h, key]
        simp only [prevO, Bool.true_and]
        rcases Bool.eq_false_or_eq_true (okF none (o :: r)) with g3 | g3
        · simp only [g3, if_true, n_bind, n_map, getL_0, getL_1, getL_2, getL_3, getL_4, getL_5, getL_6, getL_7, getL_8, getL_9, getL_10, getL_11, getL_12, condV_t, condV_f, guardV_tt, guardV_ff, guardV_tf, guardV_ft, guardV_u, apick_t, apick_f, exV_exit, exV_ret, lookE_same, joinK_eq, seqA_n, seqA_e, seqA_r, e_add, e_sub, e_mul, e_eql, e_neq, e_lss, e_leq, e_gtr, e_geq, e_conv, e_not, e_neg, and_guard, or_guard, retV]
          rfl
        · simp only [g3, Bool.false_eq_true, if_false, n_bind, n_map, getL_0, getL_1, getL_2, getL_3, getL_4, getL_5, getL_6, getL_7, getL_8, getL_9, getL_10, getL_11, getL_12, condV_t, condV_f, guardV_tt, guardV_ff, guardV_tf, guardV_ft, guardV_u, apick_t, apick_f, exV_exit, exV_ret, lookE_same, joinK_eq, seqA_n, seqA_e, seqA_r, e_add, e_sub, e_mul, e_eql, e_neq, e_lss, e_leq, e_gtr, e_geq, e_conv, e_not, e_neg, and_guard, or_guard, retV]
          rfl
      · simp only [g1, Bool.not_true, n_bind, n_map, getL_0, getL_1, getL_2, getL_3, getL_4, getL_5, getL_6, getL_7, getL_8, getL_9, getL_10, getL_11, getL_12, condV_t, condV_f, guardV_tt, guardV_ff, guardV_tf, guardV_ft, guardV_u, apick_t, apick_f, exV_exit, exV_ret, lookE_same, joinK_eq, seqA_n, seqA_e, seqA_r, e_add, e_sub, e_mul, e_eql, e_neq, e_lss, e_leq, e_gtr, e_geq, e_conv, e_not, e_neg, and_guard, or_guard, f1', f2, f3, e_sneq, g2, Bool.not_false, Bool.and_false, Bool.false_and, Bool.false_eq_true, if_false, retV]
        rfl
    · simp only [g1, Bool.not_false, n_bind, n_map, getL_0, getL_1, getL_2, getL_3, getL_4, getL_5, getL_6, getL_7, getL_8, getL_9, getL_10, getL_11, getL_12, condV_t, condV_f, guardV_tt, guardV_ff, guardV_tf, guardV_ft, guardV_u, apick_t, apick_f, exV_exit, exV_ret, lookE_same, joinK_eq, seqA_n, seqA_e, seqA_r, e_add, e_sub, e_mul, e_eql, e_neq, e_lss, e_leq, e_gtr, e_geq, e_conv, e_not, e_neg, and_guard, or_guard, Bool.false_and, Bool.false_eq_true, if_false, retV]
      rfl
end Go.Proofs.Ytmnmpackcjakdaa.Ab
