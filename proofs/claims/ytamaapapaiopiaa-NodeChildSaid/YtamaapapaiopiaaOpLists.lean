/- Lists of operations, and maps: which may be; what operations touch. -/
import Derived.Test.YtamaapapaiopiaaOpVal
import Derived.Test.YtamaapapaiopiaaBList
set_option linter.unusedVariables false
set_option linter.unusedSimpArgs false
set_option linter.unusedSectionVars false
namespace Go.Proofs.Ytamaapapaiopiaa.Ab
open Go

theorem sv_inj {a b : BL} (h : sv a = sv b) : a = b := by
  unfold sv at h
  injection h with h
  have := congrArg (fun x : ByteArray => x.data.toList) h
  simpa using this
theorem int_inj {k : IntKind} {a b : Int} (h : Value.int k a = .int k b) : a = b := by injection h
theorem bool_inj {a b : Bool} (h : Value.bool a = .bool b) : a = b := by injection h
def prC : Cod Rg where
  n := 2
  enc r := [sv r.1, sv r.2]
  pos := by decide
  len _ := rfl
  inj a b h := by
    simp only [List.cons.injEq, and_true] at h
    exact Prod.ext (sv_inj h.1) (sv_inj h.2)
  leaf _ := rfl
def opC : Cod OpT where
  n := 6
  enc := oC
  pos := by decide
  len _ := rfl
  inj a b h := by
    obtain ⟨a1, a2, a3, a4, a5, a6⟩ := a
    obtain ⟨b1, b2, b3, b4, b5, b6⟩ := b
    simp only [oC, List.cons.injEq, and_true] at h
    obtain ⟨h1, h2, h3, h4, h5, h6⟩ := h
    rw [int_inj h1, sv_inj h2, sv_inj h3, sv_inj h4, sv_inj h5, int_inj h6]
  leaf _ := rfl
abbrev Lk := Rg × Bool
def lkC : Cod Lk where
  n := 3
  enc r := [sv r.1.1, sv r.1.2, .bool r.2]
  pos := by decide
  len _ := rfl
  inj a b h := by
    simp only [List.cons.injEq, and_true] at h
    exact Prod.ext (Prod.ext (sv_inj h.1) (sv_inj h.2.1)) (bool_inj h.2.2)
  leaf _ := rfl
theorem pr_enc (r : Rg) : Value.agg (prC.enc r).toArray = rv r := rfl
theorem op_enc (o : OpT) : Value.agg (opC.enc o).toArray = oV o := rfl
def lkV (k : Lk) : Value := .agg #[sv k.1.1, sv k.1.2, .bool k.2]
theorem lk_enc (k : Lk) : Value.agg (lkC.enc k).toArray = lkV k := rfl
theorem inc_i64 {n : Nat} (h : n < 140737488355328) : IntKind.wrap .i64 ((n : Int) + 1) = ((n + 1 : Nat) : Int) := by rw [wrap_i64 (by omega) (by omega)]; omega
theorem drop_get {α : Type} {l rest : List α} {a : α} {i : Nat} (h : l.drop i = a :: rest) : ∃ hi : i < l.length, l[i] = a ∧ l.drop (i + 1) = rest := by
  have hi : i < l.length := by
    rcases Nat.lt_or_ge i l.length with h1 | h1
    · exact h1
    · rw [List.drop_eq_nil_of_le h1] at h; cases h
  refine ⟨hi, ?_, ?_⟩
  · rw [List.drop_eq_getElem_cons hi] at h
    exact (List.cons.inj h).1
  · rw [List.drop_eq_getElem_cons hi] at h
    exact (List.cons.inj h).2

/-! ### All operations -/
def allE : List OpT → Int
  | [] => 0
  | o :: l => if ckO o = 0 then allE l else ckO o
theorem allE_cons (o : OpT) (l : List OpT) : allE (o :: l) = if ckO o = 0 then allE l else ckO o := rfl
def chkE (l : List OpT) : Int := if l.length = 0 ∨ 4 < l.length then 3 else allE l
def endR (e : Int) : Ex × List Value := if e = 0 then (.exit 0, []) else (.ret, [.int .i64 e])

/-! ### Functions of a list alone -/
noncomputable def gL {α : Type} (C : Cod α) (F : List α → Value) : Sum := fun xs s => (match xs with | [v] => (listOf C v s).bind fun l => if l.length < 140737488355328 then some (F l) else none | _ => none).map fun v => (v, s)
theorem gL_eq {α : Type} {C : Cod α} {F : List α → Value} {v : Value} {s : St} {l : List α} (h : listOf C v s = some l) (hl : l.length < 140737488355328) : gL C F [v] s = some (F l, s) := by
  simp only [gL, h, Option.bind_some, if_pos hl, Option.map_some]
theorem gL_sum {α : Type} {C : Cod α} {F : List α → Value} {lib : Lib} {f : FuncId} (hp : ∀ l, plainV (F l) = true) (h : ∀ v s l, listOf C v s = some l → l.length < 140737488355328 → ∃ t, run Try.prog lib hints f [v] s = some (F l, t)) : SumOk Try.prog lib hints f (gL C F) :=
  SumOk.plain (G := fun xs s => match xs with | [v] => (listOf C v s).bind fun l => if l.length < 140737488355328 then some (F l) else none | _ => none) fun xs s v hh => by
    split at hh
    · rename_i v0
      simp only [Option.bind_eq_some_iff] at hh
      obtain ⟨l, h1, h2⟩ := hh
      split at h2
      · rename_i hl
        cases h2
        exact ⟨hp l, h v0 (frzS s) l (by rw [list_frz]; exact h1) hl⟩
      · cases h2
    · cases hh
noncomputable def gAllE : Sum := gL opC fun l => .int .i64 (allE l)
noncomputable def gChkE : Sum := gL opC fun l => .int .i64 (chkE l)
theorem allE_eq {v : Value} {s : St} {l : List OpT} (h : listOf opC v s = some l) (hl : l.length < 140737488355328) : gAllE [v] s = some (.int .i64 (allE l), s) := gL_eq h hl
theorem chkE_eq {v : Value} {s : St} {l : List OpT} (h : listOf opC v s = some l) (hl : l.length < 140737488355328) : gChkE [v] s = some (.int .i64 (chkE l), s) := gL_eq h hl
theorem many {n : Nat} : (((n : Nat) : Int) == 0 || decide (((n : Nat) : Int) > 4)) = decide (n = 0 ∨ 4 < n) := by
  by_cases h : n = 0
  · subst h; rfl
  · have h1 : (((n : Nat) : Int) == 0) = false := by rw [beq_eq_false_iff_ne]; omega
    rw [h1]
    simp [h]
    omega

/-! ### Maps -/
def mapE (last : BL) : List Rg → Int
  | [] => 0
  | p :: m => if !ckK p.1 then 20 else if !decide (p.2.length ≤ 16) then 2 else if !bl last p.1 then 1 else mapE p.1 m
theorem mapE_cons (last : BL) (p : Rg) (m : List Rg) : mapE last (p :: m) = if !ckK p.1 then 20 else if !decide (p.2.length ≤ 16) then 2 else if !bl last p.1 then 1 else mapE p.1 m := rfl
noncomputable def gMapE : Sum := gL prC fun l => .int .i64 (mapE [] l)
theorem mapE_eq {v : Value} {s : St} {l : List Rg} (h : listOf prC v s = some l) (hl : l.length < 140737488355328) : gMapE [v] s = some (.int .i64 (mapE [] l), s) := gL_eq h hl
theorem map_loop {R : Caller} (hK : ∀ k s, R 30 [sv k] s = some (.int .i64 (eK k), s)) {v : Value} {s : St} {l : List Rg} (h : listOf prC v s = some l) (hl : l.length < 140737488355328) : ∀ (rest : List Rg) (i : Nat) (last : BL), l.drop i = rest → i ≤ l.length →
    loopL (op_CheckMap.b0 R) [sv last, v, .int .i64 ((l.length : Nat) : Int), .int .i64 (i : Int)] s = some ((endR (mapE last rest)).1, (endR (mapE last rest)).2, s) := by
  intro rest
  induction rest with
  | nil =>
    intro i last hi hle
    have h1 : decide ((i : Int) < ((l.length : Nat) : Int)) = false := by
      have := List.drop_eq_nil_iff.1 hi
      simp; omega
    rw [loopL_eq]
    simp only [op_CheckMap.b0, h1, n_bind, n_map, getL_0, getL_1, getL_2, getL_3, getL_4, getL_5, getL_6, getL_7, getL_8, getL_9, getL_10, getL_11, getL_12, condV_t, condV_f, guardV_tt, guardV_ff, guardV_tf, guardV_ft, guardV_u, apick_t, apick_f, exV_exit, exV_ret, lookE_same, joinK_eq, seqA_n, seqA_e, seqA_r, e_add, e_sub, e_mul, e_eql, e_neq, e_lss, e_leq, e_gtr, e_geq, e_conv, e_not, e_neg, and_guard, or_guard]
    rfl
  | cons p rest ih =>
    intro i last hi hle
    obtain ⟨hlt, he, hd⟩ := drop_get hi
    have h1 : decide ((i : Int) < ((l.length : Nat) : Int)) = true := by simp; omega
    obtain ⟨q, h2, h3⟩ := list_at h hlt (k := .i64) (n := 2) rfl
    rw [pr_enc, he] at h3
    rw [loopL_eq]
    simp only [op_CheckMap.b0, h1, h2, h3, z_rv, st_rv, ld_0, ld_1, span_CheckKey_call, hK, eK_n, e_lenV, len16, leq_bl, n_bind, n_map, getL_0, getL_1, getL_2, getL_3, getL_4, getL_5, getL_6, getL_7, getL_8, getL_9, getL_10, getL_11, getL_12, condV_t, condV_f, guardV_tt, guardV_ff, guardV_tf, guardV_ft, guardV_u, apick_t, apick_f, exV_exit, exV_ret, lookE_same, joinK_eq, seqA_n, seqA_e, seqA_r, e_add, e_sub, e_mul, e_eql, e_neq, e_lss, e_leq, e_gtr, e_geq, e_conv, e_not, e_neg, and_guard, or_guard]
    rw [mapE_cons]
    cases c1 : ckK p.1
    · simp only [c1, Bool.not_false, if_true, n_bind, n_map, getL_0, getL_1, getL_2, getL_3, getL_4, getL_5, getL_6, getL_7, getL_8, getL_9, getL_10, getL_11, getL_12, condV_t, condV_f, guardV_tt, guardV_ff, guardV_tf, guardV_ft, guardV_u, apick_t, apick_f, exV_exit, exV_ret, lookE_same, joinK_eq, seqA_n, seqA_e, seqA_r, e_add, e_sub, e_mul, e_eql, e_neq, e_lss, e_leq, e_gtr, e_geq, e_conv, e_not, e_neg, and_guard, or_guard]
      rfl
    · cases c2 : decide (p.2.length ≤ 16)
      · simp only [c2, Bool.not_true, Bool.not_false, if_true, if_false, Bool.false_eq_true, n_bind, n_map, getL_0, getL_1, getL_2, getL_3, getL_4, getL_5, getL_6, getL_7, getL_8, getL_9, getL_10, getL_11, getL_12, condV_t, condV_f, guardV_tt, guardV_ff, guardV_tf, guardV_ft, guardV_u, apick_t, apick_f, exV_exit, exV_ret, lookE_same, joinK_eq, seqA_n, seqA_e, seqA_r, e_add, e_sub, e_mul, e_eql, e_neq, e_lss, e_leq, e_gtr, e_geq, e_conv, e_not, e_neg, and_guard, or_guard, ld_1, e_lenV, len16]
        rfl
      · cases c3 : bl last p.1
        · simp only [c2, c3, Bool.not_true, Bool.not_false, if_true, if_false, Bool.false_eq_true, n_bind, n_map, getL_0, getL_1, getL_2, getL_3, getL_4, getL_5, getL_6, getL_7, getL_8, getL_9, getL_10, getL_11, getL_12, condV_t, condV_f, guardV_tt, guardV_ff, guardV_tf, guardV_ft, guardV_u, apick_t, apick_f, exV_exit, exV_ret, lookE_same, joinK_eq, seqA_n, seqA_e, seqA_r, e_add, e_sub, e_mul, e_eql, e_neq, e_lss, e_leq, e_gtr, e_geq, e_conv, e_not, e_neg, and_guard, or_guard, ld_0, ld_1, e_lenV, len16, leq_bl]
          rfl
        · simp only [c2, c3, Bool.not_true, Bool.not_false, if_true, if_false, Bool.false_eq_true, n_bind, n_map, getL_0, getL_1, getL_2, getL_3, getL_4, getL_5, getL_6, getL_7, getL_8, getL_9, getL_10, getL_11, getL_12, condV_t, condV_f, guardV_tt, guardV_ff, guardV_tf, guardV_ft, guardV_u, apick_t, apick_f, exV_exit, exV_ret, lookE_same, joinK_eq, seqA_n, seqA_e, seqA_r, e_add, e_sub, e_mul, e_eql, e_neq, e_lss, e_leq, e_gtr, e_geq, e_conv, e_not, e_neg, and_guard, or_guard, ld_0, ld_1, e_lenV, len16, leq_bl, inc_i64 (show i < 140737488355328 by omega)]
          exact ih (i + 1) p.1 hd (by omega)
theorem map_run {R : Caller} (hK : ∀ k s, R 30 [sv k] s = some (.int .i64 (eK k), s)) {v : Value} {s : St} {l : List Rg} (h : listOf prC v s = some l) (hl : l.length < 140737488355328) : op_CheckMap R v s = some (.int .i64 (mapE [] l), s) := by
  have h1 := map_loop hK h hl l 0 [] rfl (Nat.zero_le _)
  rw [show ((0 : Nat) : Int) = 0 from rfl] at h1
  unfold op_CheckMap
  simp only [nil_sv, list_len h, h1, n_bind, n_map, getL_0, getL_1, getL_2, getL_3, getL_4, getL_5, getL_6, getL_7, getL_8, getL_9, getL_10, getL_11, getL_12, condV_t, condV_f, guardV_tt, guardV_ff, guardV_tf, guardV_ft, guardV_u, apick_t, apick_f, exV_exit, exV_ret, lookE_same, joinK_eq, seqA_n, seqA_e, seqA_r, e_add, e_sub, e_mul, e_eql, e_neq, e_lss, e_leq, e_gtr, e_geq, e_conv, e_not, e_neg, and_guard, or_guard]
  unfold endR
  by_cases h2 : mapE [] l = 0
  · simp only [if_pos h2, n_bind, n_map, getL_0, getL_1, getL_2, getL_3, getL_4, getL_5, getL_6, getL_7, getL_8, getL_9, getL_10, getL_11, getL_12, condV_t, condV_f, guardV_tt, guardV_ff, guardV_tf, guardV_ft, guardV_u, apick_t, apick_f, exV_exit, exV_ret, lookE_same, joinK_eq, seqA_n, seqA_e, seqA_r, e_add, e_sub, e_mul, e_eql, e_neq, e_lss, e_leq, e_gtr, e_geq, e_conv, e_not, e_neg, and_guard, or_guard, retV, h2]
    rfl
  · simp only [if_neg h2, n_bind, n_map, getL_0, getL_1, getL_2, getL_3, getL_4, getL_5, getL_6, getL_7, getL_8, getL_9, getL_10, getL_11, getL_12, condV_t, condV_f, guardV_tt, guardV_ff, guardV_tf, guardV_ft, guardV_u, apick_t, apick_f, exV_exit, exV_ret, lookE_same, joinK_eq, seqA_n, seqA_e, seqA_r, e_add, e_sub, e_mul, e_eql, e_neq, e_lss, e_leq, e_gtr, e_geq, e_conv, e_not, e_neg, and_guard, or_guard, retV]
    rfl
theorem refMap_loop {R : Caller} (hK : ∀ k s, R 69 [sv k] s = some (.int .i64 (eK k), s)) {v : Value} {s : St} {l : List Rg} (h : listOf prC v s = some l) (hl : l.length < 140737488355328) : ∀ (rest : List Rg) (i : Nat) (last : BL), l.drop i = rest → i ≤ l.length → (i = 0 → last = []) → (∀ hi : 0 < i, ∃ h2 : i - 1 < l.length, last = l[i - 1].1) →
    loopL (ref04_CheckMap.b0 R) [v, v, .int .i64 ((l.length : Nat) : Int), .int .i64 (i : Int)] s = some ((endR (mapE last rest)).1, (endR (mapE last rest)).2, s) := by
  intro rest
  induction rest with
  | nil =>
    intro i last hi hle _ _
    have h1 : decide ((i : Int) < ((l.length : Nat) : Int)) = false := by
      have := List.drop_eq_nil_iff.1 hi
      simp; omega
    rw [loopL_eq]
    simp only [ref04_CheckMap.b0, h1, n_bind, n_map, getL_0, getL_1, getL_2, getL_3, getL_4, getL_5, getL_6, getL_7, getL_8, getL_9, getL_10, getL_11, getL_12, condV_t, condV_f, guardV_tt, guardV_ff, guardV_tf, guardV_ft, guardV_u, apick_t, apick_f, exV_exit, exV_ret, lookE_same, joinK_eq, seqA_n, seqA_e, seqA_r, e_add, e_sub, e_mul, e_eql, e_neq, e_lss, e_leq, e_gtr, e_geq, e_conv, e_not, e_neg, and_guard, or_guard]
    rfl
  | cons p rest ih =>
    intro i last hi hle hz hp
    obtain ⟨hlt, he, hd⟩ := drop_get hi
    have h1 : decide ((i : Int) < ((l.length : Nat) : Int)) = true := by simp; omega
    obtain ⟨q, h2, h3⟩ := list_at h hlt (k := .i64) (n := 2) rfl
    rw [pr_enc, he] at h3
    rw [loopL_eq]
    simp only [ref04_CheckMap.b0, h1, h2, h3, z_rv, st_rv, ld_0, ld_1, ref02_CheckKey_call, hK, eK_n, e_lenV, len16, n_bind, n_map, getL_0, getL_1, getL_2, getL_3, getL_4, getL_5, getL_6, getL_7, getL_8, getL_9, getL_10, getL_11, getL_12, condV_t, condV_f, guardV_tt, guardV_ff, guardV_tf, guardV_ft, guardV_u, apick_t, apick_f, exV_exit, exV_ret, lookE_same, joinK_eq, seqA_n, seqA_e, seqA_r, e_add, e_sub, e_mul, e_eql, e_neq, e_lss, e_leq, e_gtr, e_geq, e_conv, e_not, e_neg, and_guard, or_guard]
    rw [mapE_cons]
    cases c1 : ckK p.1
    · simp only [c1, Bool.not_false, if_true, n_bind, n_map, getL_0, getL_1, getL_2, getL_3, getL_4, getL_5, getL_6, getL_7, getL_8, getL_9, getL_10, getL_11, getL_12, condV_t, condV_f, guardV_tt, guardV_ff, guardV_tf, guardV_ft, guardV_u, apick_t, apick_f, exV_exit, exV_ret, lookE_same, joinK_eq, seqA_n, seqA_e, seqA_r, e_add, e_sub, e_mul, e_eql, e_neq, e_lss, e_leq, e_gtr, e_geq, e_conv, e_not, e_neg, and_guard, or_guard]
      rfl
    · cases c2 : decide (p.2.length ≤ 16)
      · simp only [c2, Bool.not_true, Bool.not_false, if_true, if_false, Bool.false_eq_true, n_bind, n_map, getL_0, getL_1, getL_2, getL_3, getL_4, getL_5, getL_6, getL_7, getL_8, getL_9, getL_10, getL_11, getL_12, condV_t, condV_f, guardV_tt, guardV_ff, guardV_tf, guardV_ft, guardV_u, apick_t, apick_f, exV_exit, exV_ret, lookE_same, joinK_eq, seqA_n, seqA_e, seqA_r, e_add, e_sub, e_mul, e_eql, e_neq, e_lss, e_leq, e_gtr, e_geq, e_conv, e_not, e_neg, and_guard, or_guard, ld_1, e_lenV, len16]
        rfl
      · rcases Nat.eq_zero_or_pos i with h0 | h0
        · have h4 : decide ((i : Int) > 0) = false := by simp; omega
          have h5 : bl last p.1 = true := by rw [hz h0]; exact bl_nil_l (ckK_len c1).2
          simp only [c2, h4, h5, Bool.not_true, Bool.not_false, if_true, if_false, Bool.false_eq_true, n_bind, n_map, getL_0, getL_1, getL_2, getL_3, getL_4, getL_5, getL_6, getL_7, getL_8, getL_9, getL_10, getL_11, getL_12, condV_t, condV_f, guardV_tt, guardV_ff, guardV_tf, guardV_ft, guardV_u, apick_t, apick_f, exV_exit, exV_ret, lookE_same, joinK_eq, seqA_n, seqA_e, seqA_r, e_add, e_sub, e_mul, e_eql, e_neq, e_lss, e_leq, e_gtr, e_geq, e_conv, e_not, e_neg, and_guard, or_guard, ld_0, ld_1, e_lenV, len16, own_id, inc_i64 (show i < 140737488355328 by omega)]
          exact ih (i + 1) p.1 hd (by omega) (by omega) fun _ => ⟨by omega, by simp [he]⟩
        · have h4 : decide ((i : Int) > 0) = true := by simp; omega
          obtain ⟨g1, g2⟩ := hp h0
          have h6 : IntKind.wrap .i64 ((i : Int) - 1) = ((i - 1 : Nat) : Int) := by rw [wrap_i64 (by omega) (by omega)]; omega
          obtain ⟨q2, h7, q3, h8, h9⟩ := list_field h g1 (j := 0) (c := sv last) (by rw [g2]; rfl) (k := .i64) (n := 2) rfl
          cases c3 : bl last p.1
          · simp only [c2, c3, h4, h6, h7, h8, h9, Bool.not_true, Bool.not_false, if_true, if_false, Bool.false_eq_true, n_bind, n_map, getL_0, getL_1, getL_2, getL_3, getL_4, getL_5, getL_6, getL_7, getL_8, getL_9, getL_10, getL_11, getL_12, condV_t, condV_f, guardV_tt, guardV_ff, guardV_tf, guardV_ft, guardV_u, apick_t, apick_f, exV_exit, exV_ret, lookE_same, joinK_eq, seqA_n, seqA_e, seqA_r, e_add, e_sub, e_mul, e_eql, e_neq, e_lss, e_leq, e_gtr, e_geq, e_conv, e_not, e_neg, and_guard, or_guard, ld_0, ld_1, e_lenV, len16, own_id, geq_bl]
            rfl
          · simp only [c2, c3, h4, h6, h7, h8, h9, Bool.not_true, Bool.not_false, if_true, if_false, Bool.false_eq_true, n_bind, n_map, getL_0, getL_1, getL_2, getL_3, getL_4, getL_5, getL_6, getL_7, getL_8, getL_9, getL_10, getL_11, getL_12, condV_t, condV_f, guardV_tt, guardV_ff, guardV_tf, guardV_ft, guardV_u, apick_t, apick_f, exV_exit, exV_ret, lookE_same, joinK_eq, seqA_n, seqA_e, seqA_r, e_add, e_sub, e_mul, e_eql, e_neq, e_lss, e_leq, e_gtr, e_geq, e_conv, e_not, e_neg, and_guard, or_guard, ld_0, ld_1, e_lenV, len16, own_id, geq_bl, inc_i64 (show i < 140737488355328 by omega)]
            exact ih (i + 1) p.1 hd (by omega) (by omega) fun _ => ⟨by omega, by simp [he]⟩
theorem refMap_run {R : Caller} (hK : ∀ k s, R 69 [sv k] s = some (.int .i64 (eK k), s)) {v : Value} {s : St} {l : List Rg} (h : listOf prC v s = some l) (hl : l.length < 140737488355328) : ref04_CheckMap R v s = some (.int .i64 (mapE [] l), s) := by
  have h1 := refMap_loop hK h hl l 0 [] rfl (Nat.zero_le _) (fun _ => rfl) (fun h => absurd h (Nat.lt_irrefl _))
  rw [show ((0 : Nat) : Int) = 0 from rfl] at h1
  unfold ref04_CheckMap
  simp only [list_len h, h1, n_bind, n_map, getL_0, getL_1, getL_2, getL_3, getL_4, getL_5, getL_6, getL_7, getL_8, getL_9, getL_10, getL_11, getL_12, condV_t, condV_f, guardV_tt, guardV_ff, guardV_tf, guardV_ft, guardV_u, apick_t, apick_f, exV_exit, exV_ret, lookE_same, joinK_eq, seqA_n, seqA_e, seqA_r, e_add, e_sub, e_mul, e_eql, e_neq, e_lss, e_leq, e_gtr, e_geq, e_conv, e_not, e_neg, and_guard, or_guard]
  unfold endR
  by_cases h2 : mapE [] l = 0
  · simp only [if_pos h2, n_bind, n_map, getL_0, getL_1, getL_2, getL_3, getL_4, getL_5, getL_6, getL_7, getL_8, getL_9, getL_10, getL_11, getL_12, condV_t, condV_f, guardV_tt, guardV_ff, guardV_tf, guardV_ft, guardV_u, apick_t, apick_f, exV_exit, exV_ret, lookE_same, joinK_eq, seqA_n, seqA_e, seqA_r, e_add, e_sub, e_mul, e_eql, e_neq, e_lss, e_leq, e_gtr, e_geq, e_conv, e_not, e_neg, and_guard, or_guard, retV, h2]
    rfl
  · simp only [if_neg h2, n_bind, n_map, getL_0, getL_1, getL_2, getL_3, getL_4, getL_5, getL_6, getL_7, getL_8, getL_9, getL_10, getL_11, getL_12, condV_t, condV_f, guardV_tt, guardV_ff, guardV_tf, guardV_ft, guardV_u, apick_t, apick_f, exV_exit, exV_ret, lookE_same, joinK_eq, seqA_n, seqA_e, seqA_r, e_add, e_sub, e_mul, e_eql, e_neq, e_lss, e_leq, e_gtr, e_geq, e_conv, e_not, e_neg, and_guard, or_guard, retV]
    rfl

end Go.Proofs.Ytamaapapaiopiaa.Ab
