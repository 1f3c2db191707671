/- Owners: ranges, and who has a key. -/
import Derived.Test.YtmnmpackcjakdaaOwVal
set_option linter.unusedVariables false
set_option linter.unusedSimpArgs false
set_option linter.unusedSectionVars false
namespace Go.Proofs.Ytmnmpackcjakdaa.Ab
open Go

def loA (l : List Ow) (i : Nat) : BL := match l[i]? with
  | some o => o.1
  | none => []
def keyR (l : List Ow) (i : Nat) : Rg := (loA l i, loA l (i + 1))
theorem loA_lt {l : List Ow} {i : Nat} (h : i < l.length) : loA l i = l[i].1 := by unfold loA; rw [List.getElem?_eq_getElem h]
theorem loA_ge {l : List Ow} {i : Nat} (h : l.length ≤ i) : loA l i = [] := by unfold loA; rw [List.getElem?_eq_none h]
theorem ow_lo {v : Value} {s : St} {l : List Ow} (h : listOf owC v s = some l) {i : Nat} (hi : i < l.length) : ∃ p, aindexS 2 v (.int .i64 (i : Int)) = some p ∧ ∃ q, afieldAddr 0 p = some q ∧ aload false 1 q s = some (sv (loA l i)) := by
  obtain ⟨p, h1, q, h2, h3⟩ := list_field h hi (j := 0) (c := sv l[i].1) rfl (k := .i64) (n := 2) rfl
  exact ⟨p, h1, q, h2, by rw [loA_lt hi]; exact h3⟩
theorem ow_sh {v : Value} {s : St} {l : List Ow} (h : listOf owC v s = some l) {i : Nat} (hi : i < l.length) : ∃ p, aindexS 2 v (.int .i64 (i : Int)) = some p ∧ ∃ q, afieldAddr 1 p = some q ∧ aload false 1 q s = some (.int .i64 l[i].2) :=
  list_field h hi (j := 1) (c := .int .i64 l[i].2) rfl (k := .i64) (n := 2) rfl
theorem ab_r1 (x : BL) : abuild Try.prog 33 [(0, sv x)] = some (rv (x, [])) := by kernel_rfl
theorem ab_r2 (x y : BL) : abuild Try.prog 33 [(0, sv x), (1, sv y)] = some (rv (x, y)) := by kernel_rfl
theorem st_rvO (x y : Rg) : lstore 2 lptr (rv x) (rv y) = some (rv x) := rfl
theorem st_1O (x : BL) (y : Rg) : lstore 1 (.pointer (some ⟨0, 1, none⟩)) (sv x) (rv y) = some (rv (y.1, x)) := rfl

theorem ret_rv (r : Rg) (s : St) : retV [rv r] s = some (rv r, s) := rfl
theorem ret_int (k : IntKind) (n : Int) (s : St) : retV [.int k n] s = some (.int k n, s) := rfl
theorem ret_bool (b : Bool) (s : St) : retV [.bool b] s = some (.bool b, s) := rfl
theorem ret_rvi (r : Rg) (k : IntKind) (n : Int) (s : St) : retV [rv r, .int k n] s = some (.tuple #[rv r, .int k n], s) := rfl
theorem ret_ii (k q : IntKind) (n m : Int) (s : St) : retV [.int k n, .int q m] s = some (.tuple #[.int k n, .int q m], s) := rfl
theorem ret_ib (k : IntKind) (n : Int) (b : Bool) (s : St) : retV [.int k n, .bool b] s = some (.tuple #[.int k n, .bool b], s) := rfl
theorem keys_run {R : Caller} {v : Value} {s : St} {l : List Ow} (h : listOf owC v s = some l) {i : Nat} (hi : i < l.length) (hl : l.length < 140737488355328) : owner_keys R v (.int .i64 (i : Int)) s = some (rv (keyR l i), s) := by
  obtain ⟨p, f1, q, f2, f3⟩ := ow_lo h hi
  obtain ⟨p', f1', q', f2', f3'⟩ := ow_lo (s := frzS s) (by rw [list_frz]; exact h) hi
  rw [f1] at f1'; cases f1'
  rw [f2] at f2'; cases f2'
  unfold owner_keys
  simp only [e_add, inc_i (show i < 140737488355328 by omega), list_len h, e_eql, n_bind]
  by_cases c : i + 1 = l.length
  · have c1 : (((i + 1 : Nat) : Int) == ((l.length : Nat) : Int)) = true := by rw [c]; exact beq_self_eq_true _
    have c2 : loA l (i + 1) = [] := loA_ge (by omega)
    simp only [c1, n_bind, n_map, getL_0, getL_1, getL_2, getL_3, getL_4, getL_5, getL_6, getL_7, getL_8, getL_9, getL_10, getL_11, getL_12, condV_t, condV_f, guardV_tt, guardV_ff, guardV_tf, guardV_ft, guardV_u, apick_t, apick_f, exV_exit, exV_ret, lookE_same, joinK_eq, seqA_n, seqA_e, seqA_r, e_add, e_sub, e_mul, e_eql, e_neq, e_lss, e_leq, e_gtr, e_geq, e_conv, e_not, e_neg, and_guard, or_guard, f1, f2, f3, ab_r1, nil_sv, z_rv, z_rv2, st_rvO, ld_rv, ret_rv]
    unfold keyR
    rw [c2]
  · have c1 : (((i + 1 : Nat) : Int) == ((l.length : Nat) : Int)) = false := by rw [beq_eq_false_iff_ne]; omega
    obtain ⟨p2, g1, q2, g2, g3⟩ := ow_lo (s := frzS s) (by rw [list_frz]; exact h) (show i + 1 < l.length by omega)
    simp only [c1, n_bind, n_map, getL_0, getL_1, getL_2, getL_3, getL_4, getL_5, getL_6, getL_7, getL_8, getL_9, getL_10, getL_11, getL_12, condV_t, condV_f, guardV_tt, guardV_ff, guardV_tf, guardV_ft, guardV_u, apick_t, apick_f, exV_exit, exV_ret, lookE_same, joinK_eq, seqA_n, seqA_e, seqA_r, e_add, e_sub, e_mul, e_eql, e_neq, e_lss, e_leq, e_gtr, e_geq, e_conv, e_not, e_neg, and_guard, or_guard, f1, f2, f3', g1, g2, g3, ab_r2, nil_sv, z_rv, z_rv2, st_rvO, ld_rv, ret_rv, inc_i (show i < 140737488355328 by omega)]
    rfl
theorem refRange_run {R : Caller} {v : Value} {s : St} {l : List Ow} (h : listOf owC v s = some l) {i : Nat} (hi : i < l.length) (hl : l.length < 140737488355328) : ref17_Range R v (.int .i64 (i : Int)) s = some (rv (keyR l i), s) := by
  obtain ⟨p, f1, q, f2, f3⟩ := ow_lo h hi
  unfold ref17_Range
  by_cases c : i + 1 < l.length
  · have c1 : decide (((i + 1 : Nat) : Int) < ((l.length : Nat) : Int)) = true := decide_eq_true (by omega)
    obtain ⟨p2, g1, q2, g2, g3⟩ := ow_lo h c
    simp only [f1, f2, f3, ab_r1, nil_sv, z_rv, z_rv2, st_rvO, list_len h, e_add, inc_i (show i < 140737488355328 by omega), e_lss, c1, g1, g2, g3, st_1O, ref17_Range.j0, ld_rv, ret_rv, n_bind, n_map, getL_0, getL_1, getL_2, getL_3, getL_4, getL_5, getL_6, getL_7, getL_8, getL_9, getL_10, getL_11, getL_12, condV_t, condV_f, guardV_tt, guardV_ff, guardV_tf, guardV_ft, guardV_u, apick_t, apick_f, exV_exit, exV_ret, lookE_same, joinK_eq, seqA_n, seqA_e, seqA_r, e_add, e_sub, e_mul, e_eql, e_neq, e_lss, e_leq, e_gtr, e_geq, e_conv, e_not, e_neg, and_guard, or_guard]
    rfl
  · have c1 : decide (((i + 1 : Nat) : Int) < ((l.length : Nat) : Int)) = false := decide_eq_false (by omega)
    have c2 : loA l (i + 1) = [] := loA_ge (by omega)
    simp only [f1, f2, f3, ab_r1, nil_sv, z_rv, z_rv2, st_rvO, list_len h, e_add, inc_i (show i < 140737488355328 by omega), e_lss, c1, ref17_Range.j0, ld_rv, ret_rv, n_bind, n_map, getL_0, getL_1, getL_2, getL_3, getL_4, getL_5, getL_6, getL_7, getL_8, getL_9, getL_10, getL_11, getL_12, condV_t, condV_f, guardV_tt, guardV_ff, guardV_tf, guardV_ft, guardV_u, apick_t, apick_f, exV_exit, exV_ret, lookE_same, joinK_eq, seqA_n, seqA_e, seqA_r, e_add, e_sub, e_mul, e_eql, e_neq, e_lss, e_leq, e_gtr, e_geq, e_conv, e_not, e_neg, and_guard, or_guard]
    unfold keyR
    rw [c2]

/-! ### Known: functions of a list of owners -/
open Classical in
noncomputable def gO (F : List Ow → Value) : Sum := fun xs s => (match xs with
  | [v] => (listOf owC v s).bind fun l => if l.length < 140737488355328 then some (F l) else none
  | _ => none).map fun v => (v, s)
theorem gO_eq {F : List Ow → Value} {v : Value} {s : St} {l : List Ow} (h : listOf owC v s = some l) (hl : l.length < 140737488355328) : gO F [v] s = some (F l, s) := by
  simp only [gO, h, Option.bind_some]
  rw [if_pos hl]
  rfl
theorem sumO {lib : Lib} {f : FuncId} {F : List Ow → Value} (hp : ∀ l, plainV (F l) = true) (h : ∀ v s l, listOf owC v s = some l → l.length < 140737488355328 → run Try.prog lib hints f [v] s = some (F l, s)) : SumOk Try.prog lib hints f (gO F) :=
  SumOk.plain (G := fun xs s => match xs with
    | [v] => (listOf owC v s).bind fun l => if l.length < 140737488355328 then some (F l) else none
    | _ => none) fun xs s u hh => by
    split at hh
    · rename_i v
      simp only [Option.bind_eq_some_iff] at hh
      obtain ⟨l, h1, hh⟩ := hh
      split at hh
      · rename_i hc
        cases hh
        exact ⟨hp l, _, h v (frzS s) l (by rw [list_frz]; exact h1) hc⟩
      · cases hh
    · cases hh
/-- of a list and a number -/
def asN : Value → Option Int
  | .int .i64 n => some n
  | _ => none
theorem asN_some {v : Value} {n : Int} (h : asN v = some n) : v = .int .i64 n := by
  unfold asN at h
  split at h
  · cases h; rfl
  · cases h
noncomputable def gON (F : List Ow → Int → Option Value) : Sum := fun xs s => (match xs with
  | [v, w] => (listOf owC v s).bind fun l => (asN w).bind fun n => if l.length < 140737488355328 then F l n else none
  | _ => none).map fun v => (v, s)
theorem gON_eq {F : List Ow → Int → Option Value} {v : Value} {s : St} {l : List Ow} {n : Int} {u : Value} (h : listOf owC v s = some l) (hl : l.length < 140737488355328) (hF : F l n = some u) : gON F [v, .int .i64 n] s = some (u, s) := by
  simp only [gON, h, asN, Option.bind_some]
  rw [if_pos hl, hF]
  rfl
theorem sumON {lib : Lib} {f : FuncId} {F : List Ow → Int → Option Value} (h : ∀ v s l n u, listOf owC v s = some l → l.length < 140737488355328 → F l n = some u → plainV u = true ∧ run Try.prog lib hints f [v, .int .i64 n] s = some (u, s)) : SumOk Try.prog lib hints f (gON F) :=
  SumOk.plain (G := fun xs s => match xs with
    | [v, w] => (listOf owC v s).bind fun l => (asN w).bind fun n => if l.length < 140737488355328 then F l n else none
    | _ => none) fun xs s u hh => by
    split at hh
    · rename_i v w
      simp only [Option.bind_eq_some_iff] at hh
      obtain ⟨l, h1, n, h2, hh⟩ := hh
      split at hh
      · rename_i hc
        rw [asN_some h2]
        have := h v (frzS s) l n u (by rw [list_frz]; exact h1) hc hh
        exact ⟨this.1, _, this.2⟩
      · cases hh
    · cases hh
/-- of a list and a key -/
noncomputable def gOK (F : List Ow → BL → Option Value) : Sum := fun xs s => (match xs with
  | [v, w] => (listOf owC v s).bind fun l => (asBl w).bind fun n => if l.length < 140737488355328 then F l n else none
  | _ => none).map fun v => (v, s)
theorem gOK_eq {F : List Ow → BL → Option Value} {v : Value} {s : St} {l : List Ow} {k : BL} {u : Value} (h : listOf owC v s = some l) (hl : l.length < 140737488355328) (hF : F l k = some u) : gOK F [v, sv k] s = some (u, s) := by
  simp only [gOK, h, asBl_sv, Option.bind_some]
  rw [if_pos hl, hF]
  rfl
theorem sumOK {lib : Lib} {f : FuncId} {F : List Ow → BL → Option Value} (h : ∀ v s l k u, listOf owC v s = some l → l.length < 140737488355328 → F l k = some u → plainV u = true ∧ run Try.prog lib hints f [v, sv k] s = some (u, s)) : SumOk Try.prog lib hints f (gOK F) :=
  SumOk.plain (G := fun xs s => match xs with
    | [v, w] => (listOf owC v s).bind fun l => (asBl w).bind fun n => if l.length < 140737488355328 then F l n else none
    | _ => none) fun xs s u hh => by
    split at hh
    · rename_i v w
      simp only [Option.bind_eq_some_iff] at hh
      obtain ⟨l, h1, n, h2, hh⟩ := hh
      split at hh
      · rename_i hc
        rw [asBl_some h2]
        have := h v (frzS s) l n u (by rw [list_frz]; exact h1) hc hh
        exact ⟨this.1, _, this.2⟩
      · cases hh
    · cases hh

noncomputable def gEO : Sum := gO fun l => .int .i64 (eO l)
def kR (l : List Ow) (n : Int) : Option Value := if 0 ≤ n ∧ n.toNat < l.length then some (rv (keyR l n.toNat)) else none
noncomputable def gKR : Sum := gON kR
theorem kR_eq {l : List Ow} {i : Nat} (h : i < l.length) : kR l (i : Int) = some (rv (keyR l i)) := by
  unfold kR
  rw [Int.toNat_natCast, if_pos ⟨by omega, h⟩]

/-! ### Which range -/
def roV (l : List Ow) (n : Int) : Value := if okO l = true then (if 0 ≤ n ∧ n < (l.length : Int) then .tuple #[rv (keyR l n.toNat), .int .i64 0] else .tuple #[rv ([], []), .int .i64 5]) else .tuple #[rv ([], []), .int .i64 170]
def roR (l : List Ow) (n : Int) : Rg := if okO l = true then (if 0 ≤ n ∧ n < (l.length : Int) then keyR l n.toNat else ([], [])) else ([], [])
def roE (l : List Ow) (n : Int) : Int := if okO l = true then (if 0 ≤ n ∧ n < (l.length : Int) then 0 else 5) else 170
theorem roV_eq (l : List Ow) (n : Int) : roV l n = .tuple #[rv (roR l n), .int .i64 (roE l n)] := by
  unfold roV roR roE
  split
  · split <;> rfl
  · rfl
theorem x_ro0 (l : List Ow) (n : Int) : aextract 0 (roV l n) = some (rv (roR l n)) := by rw [roV_eq]; rfl
theorem x_ro1 (l : List Ow) (n : Int) : aextract 1 (roV l n) = some (.int .i64 (roE l n)) := by rw [roV_eq]; rfl
theorem owner_RangeOf_run {R : Caller} (hE : ∀ xs s, R 19 xs s = gEO xs s) (hK : ∀ xs s, R 40 xs s = gKR xs s) {v : Value} {s : St} {l : List Ow} (h : listOf owC v s = some l) (hl : l.length < 140737488355328) (n : Int) : owner_RangeOf R v (.int .i64 n) s = some (roV l n, s) := by
  unfold owner_RangeOf
  have e1 : gEO [v] s = some (.int .i64 (eO l), s) := gO_eq h hl
  simp only [owner_Check_call, hE, e1, n_bind, e_neq, eO_n]
  unfold roV
  by_cases c : okO l = true
  · rw [if_pos c]
    simp only [c, Bool.not_true, condV_f, list_len h, n_bind, n_map, getL_0, getL_1, getL_2, getL_3, getL_4, getL_5, getL_6, getL_7, getL_8, getL_9, getL_10, getL_11, getL_12, condV_t, condV_f, guardV_tt, guardV_ff, guardV_tf, guardV_ft, guardV_u, apick_t, apick_f, exV_exit, exV_ret, lookE_same, joinK_eq, seqA_n, seqA_e, seqA_r, e_add, e_sub, e_mul, e_eql, e_neq, e_lss, e_leq, e_gtr, e_geq, e_conv, e_not, e_neg, and_guard, or_guard]
    by_cases c1 : n < 0
    · have c2 : decide (n < 0) = true := decide_eq_true c1
      simp only [c2, n_bind, n_map, getL_0, getL_1, getL_2, getL_3, getL_4, getL_5, getL_6, getL_7, getL_8, getL_9, getL_10, getL_11, getL_12, condV_t, condV_f, guardV_tt, guardV_ff, guardV_tf, guardV_ft, guardV_u, apick_t, apick_f, exV_exit, exV_ret, lookE_same, joinK_eq, seqA_n, seqA_e, seqA_r, e_add, e_sub, e_mul, e_eql, e_neq, e_lss, e_leq, e_gtr, e_geq, e_conv, e_not, e_neg, and_guard, or_guard, nil_sv, z_rv, z_rv2, Bool.true_or, ret_rvi]
      rw [if_neg (by omega)]
    · have c2 : decide (n < 0) = false := decide_eq_false c1
      by_cases c3 : n < (l.length : Int)
      · have c4 : decide (n ≥ ((l.length : Nat) : Int)) = false := decide_eq_false (by omega)
        obtain ⟨i, rfl⟩ := Int.eq_ofNat_of_zero_le (show 0 ≤ n by omega)
        have e2 : gKR [v, .int .i64 (i : Int)] s = some (rv (keyR l i), s) := gON_eq h hl (kR_eq (by omega))
        simp only [c2, c4, n_bind, n_map, getL_0, getL_1, getL_2, getL_3, getL_4, getL_5, getL_6, getL_7, getL_8, getL_9, getL_10, getL_11, getL_12, condV_t, condV_f, guardV_tt, guardV_ff, guardV_tf, guardV_ft, guardV_u, apick_t, apick_f, exV_exit, exV_ret, lookE_same, joinK_eq, seqA_n, seqA_e, seqA_r, e_add, e_sub, e_mul, e_eql, e_neq, e_lss, e_leq, e_gtr, e_geq, e_conv, e_not, e_neg, and_guard, or_guard, owner_keys_call, hK, e2, nil_sv, z_rv, z_rv2, st_rvO, ld_rv, Bool.false_or, ret_rvi]
        rw [if_pos ⟨by omega, c3⟩]
        rfl
      · have c4 : decide (n ≥ ((l.length : Nat) : Int)) = true := decide_eq_true (by omega)
        simp only [c2, c4, n_bind, n_map, getL_0, getL_1, getL_2, getL_3, getL_4, getL_5, getL_6, getL_7, getL_8, getL_9, getL_10, getL_11, getL_12, condV_t, condV_f, guardV_tt, guardV_ff, guardV_tf, guardV_ft, guardV_u, apick_t, apick_f, exV_exit, exV_ret, lookE_same, joinK_eq, seqA_n, seqA_e, seqA_r, e_add, e_sub, e_mul, e_eql, e_neq, e_lss, e_leq, e_gtr, e_geq, e_conv, e_not, e_neg, and_guard, or_guard, nil_sv, z_rv, z_rv2, Bool.false_or, ret_rvi]
        rw [if_neg (by omega)]
  · have c2 : okO l = false := by simpa using c
    rw [if_neg c]
    have e3 : eO l = 170 := by unfold eO; rw [c2]; rfl
    simp only [c2, Bool.not_false, condV_t, nil_sv, z_rv, z_rv2, e3, ret_rvi]
theorem ref17_RangeOf_run {R : Caller} (hE : ∀ xs s, R 20 xs s = gEO xs s) (hK : ∀ xs s, R 41 xs s = gKR xs s) {v : Value} {s : St} {l : List Ow} (h : listOf owC v s = some l) (hl : l.length < 140737488355328) (n : Int) : ref17_RangeOf R v (.int .i64 n) s = some (roV l n, s) := by
  unfold ref17_RangeOf
  have e1 : gEO [v] s = some (.int .i64 (eO l), s) := gO_eq h hl
  simp only [ref17_Check_call, hE, e1, n_bind, e_neq, eO_n]
  unfold roV
  by_cases c : okO l = true
  · rw [if_pos c]
    simp only [c, Bool.not_true, condV_f, list_len h, n_bind, n_map, getL_0, getL_1, getL_2, getL_3, getL_4, getL_5, getL_6, getL_7, getL_8, getL_9, getL_10, getL_11, getL_12, condV_t, condV_f, guardV_tt, guardV_ff, guardV_tf, guardV_ft, guardV_u, apick_t, apick_f, exV_exit, exV_ret, lookE_same, joinK_eq, seqA_n, seqA_e, seqA_r, e_add, e_sub, e_mul, e_eql, e_neq, e_lss, e_leq, e_gtr, e_geq, e_conv, e_not, e_neg, and_guard, or_guard]
    by_cases c1 : n < 0
    · have c2 : decide (n < 0) = true := decide_eq_true c1
      simp only [c2, n_bind, n_map, getL_0, getL_1, getL_2, getL_3, getL_4, getL_5, getL_6, getL_7, getL_8, getL_9, getL_10, getL_11, getL_12, condV_t, condV_f, guardV_tt, guardV_ff, guardV_tf, guardV_ft, guardV_u, apick_t, apick_f, exV_exit, exV_ret, lookE_same, joinK_eq, seqA_n, seqA_e, seqA_r, e_add, e_sub, e_mul, e_eql, e_neq, e_lss, e_leq, e_gtr, e_geq, e_conv, e_not, e_neg, and_guard, or_guard, nil_sv, z_rv, z_rv2, Bool.true_or, ret_rvi]
      rw [if_neg (by omega)]
    · have c2 : decide (n < 0) = false := decide_eq_false c1
      by_cases c3 : n < (l.length : Int)
      · have c4 : decide (n ≥ ((l.length : Nat) : Int)) = false := decide_eq_false (by omega)
        obtain ⟨i, rfl⟩ := Int.eq_ofNat_of_zero_le (show 0 ≤ n by omega)
        have e2 : gKR [v, .int .i64 (i : Int)] s = some (rv (keyR l i), s) := gON_eq h hl (kR_eq (by omega))
        simp only [c2, c4, n_bind, n_map, getL_0, getL_1, getL_2, getL_3, getL_4, getL_5, getL_6, getL_7, getL_8, getL_9, getL_10, getL_11, getL_12, condV_t, condV_f, guardV_tt, guardV_ff, guardV_tf, guardV_ft, guardV_u, apick_t, apick_f, exV_exit, exV_ret, lookE_same, joinK_eq, seqA_n, seqA_e, seqA_r, e_add, e_sub, e_mul, e_eql, e_neq, e_lss, e_leq, e_gtr, e_geq, e_conv, e_not, e_neg, and_guard, or_guard, ref17_Range_call, hK, e2, nil_sv, z_rv, z_rv2, st_rvO, ld_rv, Bool.false_or, ret_rvi]
        rw [if_pos ⟨by omega, c3⟩]
        rfl
      · have c4 : decide (n ≥ ((l.length : Nat) : Int)) = true := decide_eq_true (by omega)
        simp only [c2, c4, n_bind, n_map, getL_0, getL_1, getL_2, getL_3, getL_4, getL_5, getL_6, getL_7, getL_8, getL_9, getL_10, getL_11, getL_12, condV_t, condV_f, guardV_tt, guardV_ff, guardV_tf, guardV_ft, guardV_u, apick_t, apick_f, exV_exit, exV_ret, lookE_same, joinK_eq, seqA_n, seqA_e, seqA_r, e_add, e_sub, e_mul, e_eql, e_neq, e_lss, e_leq, e_gtr, e_geq, e_conv, e_not, e_neg, and_guard, or_guard, nil_sv, z_rv, z_rv2, Bool.false_or, ret_rvi]
        rw [if_neg (by omega)]
  · have c2 : okO l = false := by simpa using c
    rw [if_neg c]
    have e3 : eO l = 170 := by unfold eO; rw [c2]; rfl
    simp only [c2, Bool.not_false, condV_t, nil_sv, z_rv, z_rv2, e3, ret_rvi]
noncomputable def gRO : Sum := gON fun l n => some (roV l n)

/-! ### Who has a key -/
def lbO (l : List Ow) (k : BL) : Nat := (l.takeWhile fun o => bl o.1 k).length
def SrtO (l : List Ow) : Prop := l.Pairwise fun a b => bl a.1 b.1 = true
theorem lbO_le (m : List Ow) (k : BL) : lbO m k ≤ m.length := (List.takeWhile_sublist _).length_le
theorem lbO_lt : ∀ {m : List Ow} {k : BL} {j : Nat} (h : j < lbO m k), ∃ hj : j < m.length, bl m[j].1 k = true
  | [], k, j, h => by simp [lbO] at h
  | p :: m, k, j, h => by
    unfold lbO at h
    rw [List.takeWhile_cons] at h
    split at h
    · rename_i hp
      cases j with
      | zero => exact ⟨by simp, hp⟩
      | succ j =>
        obtain ⟨h1, h2⟩ := lbO_lt (m := m) (k := k) (j := j) (by simpa [lbO] using h)
        exact ⟨by simp; omega, by simpa using h2⟩
    · simp at h
theorem lbO_ge : ∀ {m : List Ow} {k : BL} (hs : SrtO m) {j : Nat} (hj : j < m.length) (h : lbO m k ≤ j), bl m[j].1 k = false
  | [], k, _, j, hj, _ => by simp at hj
  | p :: m, k, hs, j, hj, h => by
    unfold lbO at h
    rw [List.takeWhile_cons] at h
    have hs2 := List.pairwise_cons.1 hs
    split at h
    · cases j with
      | zero => simp at h
      | succ j => exact lbO_ge hs2.2 (by simpa using hj) (by simpa [lbO] using h)
    · rename_i hp
      have hp2 : bl p.1 k = false := by simpa using hp
      cases j with
      | zero => exact hp2
      | succ j =>
        have hj2 : j < m.length := by simpa using hj
        have h3 := hs2.1 m[j] (List.getElem_mem _)
        simp only [List.getElem_cons_succ]
        cases e : bl m[j].1 k with
        | false => rfl
        | true => rw [bl_trans h3 e] at hp2; cases hp2
def fndO (m : List Ow) (k : BL) : Bool := match m[lbO m k]? with
  | some p => p.1 == k
  | none => false
theorem Find1_run {R : Caller} (hC : ∀ a b s, R 37 [sv a, sv b] s = some (.int .i64 (cmpL a b), s)) (o : Ow) (k : BL) (s : St) : owner_Find_1 R (owV o) (sv k) s = some (.int .i64 (cmpL o.1 k), s) := by
  unfold owner_Find_1
  simp only [w_box, w_0, strings_Compare_call, hC, n_bind, n_map, getL_0, getL_1, getL_2, getL_3, getL_4, getL_5, getL_6, getL_7, getL_8, getL_9, getL_10, getL_11, getL_12, condV_t, condV_f, guardV_tt, guardV_ff, guardV_tf, guardV_ft, guardV_u, apick_t, apick_f, exV_exit, exV_ret, lookE_same, joinK_eq, seqA_n, seqA_e, seqA_r, e_add, e_sub, e_mul, e_eql, e_neq, e_lss, e_leq, e_gtr, e_geq, e_conv, e_not, e_neg, and_guard, or_guard, ret_int]
def asOw : Value → Option Ow
  | .agg cs => match cs.toList with
    | [.string a, .int .i64 n] => some (a.data.toList, n)
    | _ => none
  | _ => none
theorem asOw_some {v : Value} {o : Ow} (h : asOw v = some o) : v = owV o := by
  unfold asOw at h
  split at h
  · rename_i cs
    split at h
    · rename_i a n e
      cases h
      obtain ⟨l⟩ := cs
      simp only at e
      subst e
      unfold owV
      rw [← sv_of]
    · cases h
  · cases h
def G2OK (F : Ow → BL → Value) : List Value → Option Value
  | [x, y] => (asOw x).bind fun a => (asBl y).map fun b => F a b
  | _ => none
theorem sum2OK {lib : Lib} {f : FuncId} {F : Ow → BL → Value} (h : ∀ r k s, plainV (F r k) = true ∧ ∃ t, run Try.prog lib hints f [owV r, sv k] s = some (F r k, t)) : SumOk Try.prog lib hints f (gP (G2OK F)) := sumP fun xs v s hv => by
  unfold G2OK at hv
  split at hv
  · simp only [Option.bind_eq_some_iff, Option.map_eq_some_iff] at hv
    obtain ⟨r, h1, k, h2, rfl⟩ := hv
    rw [asOw_some h1, asBl_some h2]
    exact h r k s
  · cases hv
def gF1 : Sum := gP (G2OK fun o k => .int .i64 (cmpL o.1 k))
theorem f1_eq {o : Ow} {k : BL} {s : St} : gF1 [owV o, sv k] s = some (.int .i64 (cmpL o.1 k), s) := rfl
theorem bsO_loop {R : Caller} (hC : ∀ p k s, R 36 [owV p, sv k] s = some (.int .i64 (cmpL p.1 k), s)) {v : Value} {s : St} {m : List Ow} (h : listOf owC v s = some m) (hs : SrtO m) (hl : m.length < 140737488355328) (k : BL) (x3 : Value) : ∀ (d i j : Nat), j - i ≤ d → i ≤ lbO m k → lbO m k ≤ j → j ≤ m.length →
    ∃ q, loopL (slices_BinarySearchFunc_api_Owner_api_Owner_string.b0 R) [v, sv k, .func (.func 36) #[] #[], x3, .int .i64 (i : Int), .int .i64 (j : Int)] s = some (.exit 0, [v, sv k, .func (.func 36) #[] #[], x3, .int .i64 ((lbO m k : Nat) : Int)], q) ∧ q = s := by
  intro d
  induction d with
  | zero =>
    intro i j hd h1 h2 h3
    have e : i = lbO m k := by omega
    have h4 : decide ((i : Int) < (j : Int)) = false := by simp; omega
    refine ⟨s, ?_, rfl⟩
    rw [loopL_eq]
    simp only [slices_BinarySearchFunc_api_Owner_api_Owner_string.b0, h4, n_bind, n_map, getL_0, getL_1, getL_2, getL_3, getL_4, getL_5, getL_6, getL_7, getL_8, getL_9, getL_10, getL_11, getL_12, condV_t, condV_f, guardV_tt, guardV_ff, guardV_tf, guardV_ft, guardV_u, apick_t, apick_f, exV_exit, exV_ret, lookE_same, joinK_eq, seqA_n, seqA_e, seqA_r, e_add, e_sub, e_mul, e_eql, e_neq, e_lss, e_leq, e_gtr, e_geq, e_conv, e_not, e_neg, and_guard, or_guard]
    rw [← e]
  | succ d ih =>
    intro i j hd h1 h2 h3
    by_cases hij : i < j
    · have h4 : decide ((i : Int) < (j : Int)) = true := by simp; omega
      have hw1 : IntKind.wrap .i64 ((i : Int) + (j : Int)) = ((i + j : Nat) : Int) := by rw [wrap_i64 (by omega) (by omega)]; omega
      have hw2 : IntKind.wrap .u64 ((i + j : Nat) : Int) = ((i + j : Nat) : Int) := wrap_u64 (by omega) (by omega)
      have hsh : ∀ t o1 o2, abin Try.prog .shr t o1 o2 (.int .u64 ((i + j : Nat) : Int)) (.int .u64 1) = some (.int .u64 (((i + j) / 2 : Nat) : Int)) := fun t o1 o2 => by
        have := u_shr (P := Try.prog) (t := t) (ox := o1) (oy := o2) (k := .u64) (a := i + j) (b := 1) (by show i + j < 2 ^ 64; omega) (k2 := .u64)
        rw [Nat.pow_one] at this
        exact this
      have hw3 : IntKind.wrap .i64 (((i + j) / 2 : Nat) : Int) = (((i + j) / 2 : Nat) : Int) := wrap_i64 (by omega) (by omega)
      have c1 : convInt .u64 (.int .i64 ((i + j : Nat) : Int)) = some (.int .u64 ((i + j : Nat) : Int)) := by rw [e_conv, hw2]
      have c2 : convInt .i64 (.int .u64 (((i + j) / 2 : Nat) : Int)) = some (.int .i64 (((i + j) / 2 : Nat) : Int)) := by rw [e_conv, hw3]
      have hh : (i + j) / 2 < m.length := by omega
      obtain ⟨p, g1, g2⟩ := list_at h hh (k := .i64) (n := 2) rfl
      rw [ow_enc] at g2
      rw [loopL_eq]
      simp only [slices_BinarySearchFunc_api_Owner_api_Owner_string.b0, getL_0, getL_1, getL_2, getL_3, getL_4, getL_5, e_lss, h4, n_bind, condV_t, e_add, hw1, c1]
      simp only [hsh, n_bind, c2, g1, g2, owner_Find_1_call, hC, e_lss, cmp_lt]
      cases hc : bl m[(i + j) / 2].1 k
      · simp only [condV_f, seqA_n]
        exact ih i ((i + j) / 2) (by omega) h1 (by
          rcases Nat.lt_or_ge ((i + j) / 2) (lbO m k) with g | g
          · obtain ⟨_, g3⟩ := lbO_lt g
            rw [g3] at hc; cases hc
          · exact g) (by omega)
      · simp only [condV_t, n_bind, e_add, inc_i (show (i + j) / 2 < 140737488355328 by omega), seqA_n]
        exact ih ((i + j) / 2 + 1) j (by omega) (by
          rcases Nat.lt_or_ge ((i + j) / 2) (lbO m k) with g | g
          · omega
          · rw [lbO_ge hs hh g] at hc; cases hc) h2 h3
    · exact ih i j (by omega) h1 h2 h3
def bsV (m : List Ow) (k : BL) : Value := .tuple #[.int .i64 ((lbO m k : Nat) : Int), .bool (fndO m k)]
theorem x_bs0 (m : List Ow) (k : BL) : aextract 0 (bsV m k) = some (.int .i64 ((lbO m k : Nat) : Int)) := Eq.trans rfl (Eq.refl _)
theorem x_bs1 (m : List Ow) (k : BL) : aextract 1 (bsV m k) = some (.bool (fndO m k)) := Eq.trans rfl (Eq.refl _)
theorem bsO_run {R : Caller} (hC : ∀ p k s, R 36 [owV p, sv k] s = some (.int .i64 (cmpL p.1 k), s)) {v : Value} {s : St} {m : List Ow} (h : listOf owC v s = some m) (hs : SrtO m) (hl : m.length < 140737488355328) (k : BL) :
    slices_BinarySearchFunc_api_Owner_api_Owner_string R v (sv k) (.func (.func 36) #[] #[]) s = some (bsV m k, s) := by
  obtain ⟨q, h1, rfl⟩ := bsO_loop hC h hs hl k (.int .i64 ((m.length : Nat) : Int)) m.length 0 m.length (by omega) (Nat.zero_le _) (lbO_le m k) (Nat.le_refl _)
  rw [show ((0 : Nat) : Int) = 0 from rfl] at h1
  unfold slices_BinarySearchFunc_api_Owner_api_Owner_string
  simp only [list_len h, n_bind, h1, exV_exit, lookE_same, getL_0, getL_1, getL_2, getL_3, getL_4, e_lss]
  have hle := lbO_le m k
  by_cases hlt : lbO m k < m.length
  · have h2 : decide (((lbO m k : Nat) : Int) < ((m.length : Nat) : Int)) = true := by simp; omega
    obtain ⟨p, g1, g2⟩ := list_at h hlt (k := .i64) (n := 2) rfl
    rw [ow_enc] at g2
    have hf : fndO m k = (m[lbO m k].1 == k) := by
      unfold fndO
      rw [List.getElem?_eq_getElem hlt]
    simp only [h2, g1, g2, n_bind, guardV_tt, owner_Find_1_call, hC, e_eql, cmp_0, getL_0, apick_t, ret_ib]
    unfold bsV
    rw [hf]
  · have h2 : decide (((lbO m k : Nat) : Int) < ((m.length : Nat) : Int)) = false := by simp; omega
    have hf : fndO m k = false := by
      unfold fndO
      rw [List.getElem?_eq_none (by omega)]
    simp only [h2, n_bind, guardV_ft, getL_0, apick_f, ret_ib]
    unfold bsV
    rw [hf]

end Go.Proofs.Ytmnmpackcjakdaa.Ab
