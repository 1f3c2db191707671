/- Operations, as values; the kinds' forms. -/
import Derived.Test.YtamaapapaiopiaaSpAll
import Derived.Test.YtamaapapaiopiaaOpCmp
set_option linter.unusedVariables false
set_option linter.unusedSimpArgs false
set_option linter.unusedSectionVars false
namespace Go.Proofs.Ytamaapapaiopiaa.Ab
open Go

/-- a || b && c, a && (b || c), as they are worked out -/
theorem or_and {β : Type} {a b c : Bool} {s : St} {K : List Value × St → Value → Option β} :
    ((guardV (.bool a) false (some ([.bool b], s)) (some ([undef], s))).bind fun q => (guardV (getL q.1 0) true (some ([.bool c], q.2)) (some ([undef], q.2))).bind fun q2 => (guardV (.bool a) false ((apick (getL q.1 0) (getL q2.1 0) (.bool false)).bind fun v => some ([v], q2.2)) (some ([undef], q2.2))).bind fun q3 => (apick (.bool a) (.bool true) (getL q3.1 0)).bind (K q3)) = K ([if a = true then undef else .bool (b && c)], s) (.bool (a || (b && c))) := by
  cases a <;> cases b <;> cases c <;> rfl
theorem and_or {β : Type} {a b c : Bool} {s : St} {K : List Value × St → Value → Option β} :
    ((guardV (.bool a) true (some ([.bool b], s)) (some ([undef], s))).bind fun q => (guardV (getL q.1 0) false (some ([.bool c], q.2)) (some ([undef], q.2))).bind fun q2 => (guardV (.bool a) true ((apick (getL q.1 0) (.bool true) (getL q2.1 0)).bind fun v => some ([v], q2.2)) (some ([undef], q2.2))).bind fun q3 => (apick (.bool a) (getL q3.1 0) (.bool false)).bind (K q3)) = K ([if a = true then .bool (b || c) else undef], s) (.bool (a && (b || c))) := by
  cases a <;> cases b <;> cases c <;> rfl
theorem condV_if {b : Bool} {β : Type} {x y : Option β} : condV (.bool b) x y = if b = true then x else y := by cases b <;> rfl
theorem ret1 {v : Value} {s : St} (h : noTup v = true := by rfl) : retV [v] s = some (v, s) := by simp [retV, h, resPack]

structure OpT where
  kind : Int
  key : BL
  val : BL
  lo : BL
  hi : BL
  most : Int
def oC (o : OpT) : List Value := [.int .i64 o.kind, sv o.key, sv o.val, sv o.lo, sv o.hi, .int .i64 o.most]
def oV (o : OpT) : Value := .agg #[.int .i64 o.kind, sv o.key, sv o.val, sv o.lo, sv o.hi, .int .i64 o.most]
theorem oV_eq (o : OpT) : oV o = .agg (oC o).toArray := rfl
def asOp : Value → Option OpT
  | .agg cs => match cs.toList with
    | [.int .i64 k, .string a, .string b, .string c, .string d, .int .i64 m] => some ⟨k, a.data.toList, b.data.toList, c.data.toList, d.data.toList, m⟩
    | _ => none
  | _ => none
theorem asOp_oV {o : OpT} : asOp (oV o) = some o := rfl
theorem asOp_some {v : Value} {o : OpT} (h : asOp v = some o) : v = oV o := by
  unfold asOp at h
  split at h
  · rename_i cs
    split at h
    · rename_i k a b c d m e
      cases h
      obtain ⟨l⟩ := cs
      simp only at e
      subst e
      unfold oV
      rw [← sv_of, ← sv_of, ← sv_of, ← sv_of]
    · cases h
  · cases h
theorem o_box (o : OpT) : lbox (oV o) = some (oV o) := rfl
theorem o_all (o : OpT) : lload true 6 lptr (oV o) = some (oV o) := rfl
theorem o_0 (o : OpT) : lload false 1 lptr (oV o) = some (.int .i64 o.kind) := rfl
theorem o_00 (o : OpT) : lload false 1 (.pointer (some ⟨0, 0, none⟩)) (oV o) = some (.int .i64 o.kind) := rfl
theorem o_1 (o : OpT) : lload false 1 (.pointer (some ⟨0, 1, none⟩)) (oV o) = some (sv o.key) := rfl
theorem o_2 (o : OpT) : lload false 1 (.pointer (some ⟨0, 2, none⟩)) (oV o) = some (sv o.val) := rfl
theorem o_3 (o : OpT) : lload false 1 (.pointer (some ⟨0, 3, none⟩)) (oV o) = some (sv o.lo) := rfl
theorem o_4 (o : OpT) : lload false 1 (.pointer (some ⟨0, 4, none⟩)) (oV o) = some (sv o.hi) := rfl
theorem o_5 (o : OpT) : lload false 1 (.pointer (some ⟨0, 5, none⟩)) (oV o) = some (.int .i64 o.most) := rfl
theorem o_st (o : OpT) : lstore 6 lptr (oV o) (.agg #[(.int .i64 0), (.string ⟨#[]⟩), (.string ⟨#[]⟩), (.string ⟨#[]⟩), (.string ⟨#[]⟩), (.int .i64 0)]) = some (oV o) := rfl
theorem o_st2 (o : OpT) : lstore 6 lptr (oV o) (.agg #[(.int .i64 0), sv [], sv [], sv [], sv [], (.int .i64 0)]) = some (oV o) := rfl
theorem p_0 : afieldAddr 0 lptr = some lptr := rfl
theorem p_1 : afieldAddr 1 lptr = some (.pointer (some ⟨0, 1, none⟩)) := rfl
theorem p_2 : afieldAddr 2 lptr = some (.pointer (some ⟨0, 2, none⟩)) := rfl
theorem p_3 : afieldAddr 3 lptr = some (.pointer (some ⟨0, 3, none⟩)) := rfl
theorem p_4 : afieldAddr 4 lptr = some (.pointer (some ⟨0, 4, none⟩)) := rfl
theorem p_5 : afieldAddr 5 lptr = some (.pointer (some ⟨0, 5, none⟩)) := rfl

def G1O (F : OpT → Value) : List Value → Option Value
  | [v] => (asOp v).map F
  | _ => none
theorem sum1O {lib : Lib} {f : FuncId} {F : OpT → Value} (h : ∀ o s, plainV (F o) = true ∧ ∃ t, run Try.prog lib hints f [oV o] s = some (F o, t)) : SumOk Try.prog lib hints f (gP (G1O F)) := sumP fun xs v s hv => by
  unfold G1O at hv
  split at hv
  · simp only [Option.map_eq_some_iff] at hv
    obtain ⟨k, h1, rfl⟩ := hv
    rw [asOp_some h1]
    exact h k s
  · cases hv
def G1I (F : Int → Value) : List Value → Option Value
  | [.int .i64 k] => some (F k)
  | _ => none
theorem sum1I {lib : Lib} {f : FuncId} {F : Int → Value} (h : ∀ k s, plainV (F k) = true ∧ ∃ t, run Try.prog lib hints f [.int .i64 k] s = some (F k, t)) : SumOk Try.prog lib hints f (gP (G1I F)) := sumP fun xs v s hv => by
  unfold G1I at hv
  split at hv
  · cases hv
    exact h _ s
  · cases hv
theorem sum0 {lib : Lib} {f : FuncId} {v : Value} (h : ∀ s, plainV v = true ∧ ∃ t, run Try.prog lib hints f [] s = some (v, t)) : SumOk Try.prog lib hints f (gP (G0 v)) := sumP fun xs u s hv => by
  unfold G0 at hv
  split at hv
  · cases hv
    exact h s
  · cases hv

/-! ### The forms -/
def formC : Int → List Value
  | 1 => [.bool true, .bool false, .bool false, .bool false, .bool false, .func (.func 89) #[] #[]]
  | 2 => [.bool true, .bool true, .bool false, .bool false, .bool true, .func (.func 90) #[] #[]]
  | 3 => [.bool true, .bool false, .bool false, .bool false, .bool true, .func (.func 91) #[] #[]]
  | 4 => [.bool false, .bool false, .bool true, .bool true, .bool false, .func (.func 92) #[] #[]]
  | 5 => [.bool false, .bool false, .bool true, .bool false, .bool true, .func (.func 93) #[] #[]]
  | _ => [.bool false, .bool false, .bool false, .bool false, .bool false, .nilFunc]
def formV (k : Int) : Value := .agg (formC k).toArray
def formsV : Value := .agg (formC 0 ++ formC 1 ++ formC 2 ++ formC 3 ++ formC 4 ++ formC 5).toArray
def okKind (k : Int) : Bool := decide (1 ≤ k) && decide (k ≤ 5)
theorem kinds {k : Int} (h : okKind k = true) : k = 1 ∨ k = 2 ∨ k = 3 ∨ k = 4 ∨ k = 5 := by
  unfold okKind at h
  simp at h
  omega
theorem noKind {k : Int} (h : okKind k = false) : formV k = formV 0 := by
  have : k ≠ 1 ∧ k ≠ 2 ∧ k ≠ 3 ∧ k ≠ 4 ∧ k ≠ 5 := by
    unfold okKind at h
    simp at h
    refine ⟨?_, ?_, ?_, ?_, ?_⟩ <;> (rintro rfl; revert h; decide)
  unfold formV formC
  obtain ⟨h1, h2, h3, h4, h5⟩ := this
  split <;> simp_all
theorem forms_run {R : Caller} (s : St) : op_forms R s = some (formsV, s) := by kernel_rfl
def fmV (k : Int) : Value := .tuple #[formV k, .bool (okKind k)]
theorem formOf_run {R : Caller} (hF : ∀ s, R 87 [] s = some (formsV, s)) (k : Int) (s : St) : op_formOf R (.int .i64 k) s = some (fmV k, s) := by
  unfold op_formOf fmV
  cases h : okKind k
  · rw [noKind h]
    unfold okKind at h
    have h2 : (decide (k < 1) || decide (k > 5)) = true := by
      simp at h ⊢
      omega
    cases h1 : decide (k < 1) <;> rw [h1] at h2
    · have h3 : decide (k > 5) = true := by simpa using h2
      simp only [e_lss, e_gtr, h1, h3, n_bind, n_map, getL_0, getL_1, getL_2, getL_3, getL_4, getL_5, getL_6, getL_7, getL_8, getL_9, getL_10, getL_11, getL_12, condV_t, condV_f, guardV_tt, guardV_ff, guardV_tf, guardV_ft, guardV_u, apick_t, apick_f, exV_exit, exV_ret, lookE_same, joinK_eq, seqA_n, seqA_e, seqA_r, e_add, e_sub, e_mul, e_eql, e_neq, e_lss, e_leq, e_gtr, e_geq, e_conv, e_not, e_neg, and_guard, or_guard, retV]
      rfl
    · simp only [e_lss, e_gtr, h1, n_bind, n_map, getL_0, getL_1, getL_2, getL_3, getL_4, getL_5, getL_6, getL_7, getL_8, getL_9, getL_10, getL_11, getL_12, condV_t, condV_f, guardV_tt, guardV_ff, guardV_tf, guardV_ft, guardV_u, apick_t, apick_f, exV_exit, exV_ret, lookE_same, joinK_eq, seqA_n, seqA_e, seqA_r, e_add, e_sub, e_mul, e_eql, e_neq, e_lss, e_leq, e_gtr, e_geq, e_conv, e_not, e_neg, and_guard, or_guard, retV]
      rfl
  · have h1 : decide (k < 1) = false := by rcases kinds h with rfl | rfl | rfl | rfl | rfl <;> rfl
    have h2 : decide (k > 5) = false := by rcases kinds h with rfl | rfl | rfl | rfl | rfl <;> rfl
    have h3 : aindexAgg true 6 6 formsV (.int .i64 k) = some (formV k) := by rcases kinds h with rfl | rfl | rfl | rfl | rfl <;> rfl
    have h4 : lstore 6 lptr (formV k) (.agg #[(.bool false), (.bool false), (.bool false), (.bool false), (.bool false), .nilFunc]) = some (formV k) := by rcases kinds h with rfl | rfl | rfl | rfl | rfl <;> rfl
    have h5 : lload true 6 lptr (formV k) = some (formV k) := by rcases kinds h with rfl | rfl | rfl | rfl | rfl <;> rfl
    simp only [e_lss, e_gtr, h1, h2, op_forms_call, hF, h3, h4, h5, n_bind, n_map, getL_0, getL_1, getL_2, getL_3, getL_4, getL_5, getL_6, getL_7, getL_8, getL_9, getL_10, getL_11, getL_12, condV_t, condV_f, guardV_tt, guardV_ff, guardV_tf, guardV_ft, guardV_u, apick_t, apick_f, exV_exit, exV_ret, lookE_same, joinK_eq, seqA_n, seqA_e, seqA_r, e_add, e_sub, e_mul, e_eql, e_neq, e_lss, e_leq, e_gtr, e_geq, e_conv, e_not, e_neg, and_guard, or_guard, retV]
    rfl
theorem form_plain (k : Int) : plainV (fmV k) = true := by
  unfold fmV
  cases h : okKind k
  · rw [noKind h]; rfl
  · rcases kinds h with rfl | rfl | rfl | rfl | rfl <;> rfl
theorem x_fm (k : Int) : aextract 0 (fmV k) = some (formV k) ∧ aextract 1 (fmV k) = some (.bool (okKind k)) := ⟨rfl, rfl⟩
def gForms : Sum := gP (G0 formsV)
def gFm : Sum := gP (G1I fmV)
theorem forms_eq {s : St} : gForms [] s = some (formsV, s) := rfl
theorem fm_eq {k : Int} {s : St} : gFm [.int .i64 k] s = some (fmV k, s) := rfl

/-! ### What may be -/
def keyed (k : Int) : Bool := k == 1 || k == 2 || k == 3
def ranged (k : Int) : Bool := k == 4 || k == 5
def wrt (k : Int) : Bool := k == 2 || k == 3 || k == 5
def ckO (o : OpT) : Int :=
  if !okKind o.kind || (keyed o.kind && (o.lo != [] || o.hi != [])) || (ranged o.kind && o.key != []) || (o.kind != 2 && o.val != []) || (o.kind != 4 && o.most != 0) then 40
  else if keyed o.kind && !ckK o.key then 20
  else if !decide (o.val.length ≤ 16) then 2
  else if ranged o.kind && !ckR (o.lo, o.hi) then 21
  else if o.kind == 4 && (decide (o.most < 1) || decide (o.most > 4)) then 1
  else 0
theorem ckO_bad {o : OpT} (h : okKind o.kind = false) : ckO o = 40 := by unfold ckO; rw [h]; rfl
theorem of_run {R : Caller} (o : OpT) (s : St) : op_of R (oV o) s = some (rv (o.lo, o.hi), s) := by
  unfold op_of
  simp only [o_box, o_3, o_4, ab2, n_bind, n_map, getL_0, getL_1, getL_2, getL_3, getL_4, getL_5, getL_6, getL_7, getL_8, getL_9, getL_10, getL_11, getL_12, condV_t, condV_f, guardV_tt, guardV_ff, guardV_tf, guardV_ft, guardV_u, apick_t, apick_f, exV_exit, exV_ret, lookE_same, joinK_eq, seqA_n, seqA_e, seqA_r, e_add, e_sub, e_mul, e_eql, e_neq, e_lss, e_leq, e_gtr, e_geq, e_conv, e_not, e_neg, and_guard, or_guard, retV]
  rfl
theorem len16 {k : BL} : decide (((k.length : Nat) : Int) > 16) = !decide (k.length ≤ 16) := by
  by_cases h : k.length ≤ 16
  · simp [h]; omega
  · simp [h]; omega
theorem f_ld (k : Int) (h : okKind k = true) : lstore 6 lptr (formV k) (.agg #[(.bool false), (.bool false), (.bool false), (.bool false), (.bool false), .nilFunc]) = some (formV k) ∧
    lload false 1 lptr (formV k) = some (.bool (keyed k)) ∧ lload false 1 (.pointer (some ⟨0, 1, none⟩)) (formV k) = some (.bool (k == 2)) ∧ lload false 1 (.pointer (some ⟨0, 2, none⟩)) (formV k) = some (.bool (ranged k)) ∧ lload false 1 (.pointer (some ⟨0, 3, none⟩)) (formV k) = some (.bool (k == 4)) ∧ lload false 1 (.pointer (some ⟨0, 4, none⟩)) (formV k) = some (.bool (wrt k)) := by
  rcases kinds h with rfl | rfl | rfl | rfl | rfl <;> exact ⟨rfl, rfl, rfl, rfl, rfl, rfl⟩
theorem CheckOp_run {R : Caller} (hF : ∀ k s, R 80 [.int .i64 k] s = some (fmV k, s)) (hO : ∀ o s, R 81 [oV o] s = some (rv (o.lo, o.hi), s)) (hR : ∀ r s, R 82 [rv r] s = some (.int .i64 (eR r), s)) (hK : ∀ k s, R 30 [sv k] s = some (.int .i64 (eK k), s)) (o : OpT) (s : St) : op_CheckOp R (oV o) s = some (.int .i64 (ckO o), s) := by
  unfold op_CheckOp
  simp only [o_box, o_0, op_formOf_call, hF, (x_fm _).1, (x_fm _).2, n_bind, n_map, getL_0, getL_1, getL_2, getL_3, getL_4, getL_5, getL_6, getL_7, getL_8, getL_9, getL_10, getL_11, getL_12, condV_t, condV_f, guardV_tt, guardV_ff, guardV_tf, guardV_ft, guardV_u, apick_t, apick_f, exV_exit, exV_ret, lookE_same, joinK_eq, seqA_n, seqA_e, seqA_r, e_add, e_sub, e_mul, e_eql, e_neq, e_lss, e_leq, e_gtr, e_geq, e_conv, e_not, e_neg, and_guard, or_guard]
  cases hk : okKind o.kind
  · rw [noKind hk, ckO_bad hk]
    have h1 : lstore 6 lptr (formV 0) (.agg #[(.bool false), (.bool false), (.bool false), (.bool false), (.bool false), .nilFunc]) = some (formV 0) := rfl
    simp only [h1, Bool.not_false, n_bind, n_map, getL_0, getL_1, getL_2, getL_3, getL_4, getL_5, getL_6, getL_7, getL_8, getL_9, getL_10, getL_11, getL_12, condV_t, condV_f, guardV_tt, guardV_ff, guardV_tf, guardV_ft, guardV_u, apick_t, apick_f, exV_exit, exV_ret, lookE_same, joinK_eq, seqA_n, seqA_e, seqA_r, e_add, e_sub, e_mul, e_eql, e_neq, e_lss, e_leq, e_gtr, e_geq, e_conv, e_not, e_neg, and_guard, or_guard, op_CheckOp.j0, retV]
    rfl
  obtain ⟨f0, f1, f2, f3, f4, f5⟩ := f_ld o.kind hk
  have hrk : ranged o.kind = !keyed o.kind := by rcases kinds hk with h | h | h | h | h <;> rw [h] <;> rfl
  have hne : ∀ a b : BL, (!(a == [] && b == [])) = (a != [] || b != []) := fun a b => by simp [bne, Bool.not_and]
  have rne : ∀ (o1 o2 : Operand) (r : Rg), abin Try.prog .neq 74 o1 o2 (rv r) (.agg #[sv [], sv []]) = some (.bool (r.1 != [] || r.2 != [])) := fun o1 o2 r => by
    rw [z_rv2, rv_neq, hne]
  have hck : ckO o = if (keyed o.kind && (o.lo != [] || o.hi != [])) || (!keyed o.kind && o.key != []) || (o.kind != 2 && o.val != []) || (o.kind != 4 && o.most != 0) then 40
      else if keyed o.kind && !ckK o.key then 20
      else if !decide (o.val.length ≤ 16) then 2
      else if !keyed o.kind && !ckR (o.lo, o.hi) then 21
      else if o.kind == 4 && (decide (o.most < 1) || decide (o.most > 4)) then 1
      else 0 := by
    unfold ckO
    rw [hk, hrk]
    rfl
  rw [hck]
  have hb2 : (o.kind != 2) = !(o.kind == 2) := rfl
  have hb4 : (o.kind != 4) = !(o.kind == 4) := rfl
  rw [hrk] at f3
  rw [hb2, hb4]
  generalize keyed o.kind = kd at *
  generalize (o.kind == 2) = k2 at *
  generalize (o.kind == 4) = k4 at *
  have hj : ∀ b, op_CheckOp.j0 R [lptr, lptr, .bool b, oV o, formV o.kind] s = some (.int .i64 (if b then 40 else if kd && !ckK o.key then 20
      else if !decide (o.val.length ≤ 16) then 2
      else if !kd && !ckR (o.lo, o.hi) then 21
      else if k4 && (decide (o.most < 1) || decide (o.most > 4)) then 1
      else 0), s) := fun b => by
    unfold op_CheckOp.j0
    cases b
    · simp only [p_0, p_1, p_2, p_3, p_5, o_all, o_1, o_2, o_5, f1, f3, f4, e_lenV, len16, span_CheckKey_call, hK, op_of_call, hO, span_Check_call, hR, eK_n, eR_n, n_bind, n_map, getL_0, getL_1, getL_2, getL_3, getL_4, getL_5, getL_6, getL_7, getL_8, getL_9, getL_10, getL_11, getL_12, condV_t, condV_f, guardV_tt, guardV_ff, guardV_tf, guardV_ft, guardV_u, apick_t, apick_f, exV_exit, exV_ret, lookE_same, joinK_eq, seqA_n, seqA_e, seqA_r, e_add, e_sub, e_mul, e_eql, e_neq, e_lss, e_leq, e_gtr, e_geq, e_conv, e_not, e_neg, and_guard, or_guard]
      cases kd <;> cases h1 : ckK o.key <;> cases h2 : decide (o.val.length ≤ 16) <;> cases h3 : ckR (o.lo, o.hi) <;> cases k4 <;> cases h4 : decide (o.most < 1) <;> cases h5 : decide (o.most > 4) <;>
        simp only [h1, h2, h3, h4, h5, f1, f3, f4, o_1, o_2, o_5, o_all, e_lenV, len16, eK_n, eR_n, op_of_call, hO, span_Check_call, hR, Bool.not_true, Bool.not_false, Bool.and_true, Bool.and_false, Bool.true_and, Bool.false_and, Bool.or_true, Bool.or_false, Bool.true_or, Bool.false_or, if_true, if_false, Bool.false_eq_true, n_bind, n_map, getL_0, getL_1, getL_2, getL_3, getL_4, getL_5, getL_6, getL_7, getL_8, getL_9, getL_10, getL_11, getL_12, condV_t, condV_f, guardV_tt, guardV_ff, guardV_tf, guardV_ft, guardV_u, apick_t, apick_f, exV_exit, exV_ret, lookE_same, joinK_eq, seqA_n, seqA_e, seqA_r, e_add, e_sub, e_mul, e_eql, e_neq, e_lss, e_leq, e_gtr, e_geq, e_conv, e_not, e_neg, and_guard, or_guard, retV] <;> rfl
    · simp only [n_bind, n_map, getL_0, getL_1, getL_2, getL_3, getL_4, getL_5, getL_6, getL_7, getL_8, getL_9, getL_10, getL_11, getL_12, condV_t, condV_f, guardV_tt, guardV_ff, guardV_tf, guardV_ft, guardV_u, apick_t, apick_f, exV_exit, exV_ret, lookE_same, joinK_eq, seqA_n, seqA_e, seqA_r, e_add, e_sub, e_mul, e_eql, e_neq, e_lss, e_leq, e_gtr, e_geq, e_conv, e_not, e_neg, and_guard, or_guard, retV]
      rfl
  simp only [nil_sv, f0, f1, f2, f3, f4, o_1, o_2, o_5, o_all, e_sneq, rne, op_of_call, hO, Bool.not_true, hj, n_bind, n_map, getL_0, getL_1, getL_2, getL_3, getL_4, getL_5, getL_6, getL_7, getL_8, getL_9, getL_10, getL_11, getL_12, condV_t, condV_f, guardV_tt, guardV_ff, guardV_tf, guardV_ft, guardV_u, apick_t, apick_f, exV_exit, exV_ret, lookE_same, joinK_eq, seqA_n, seqA_e, seqA_r, e_add, e_sub, e_mul, e_eql, e_neq, e_lss, e_leq, e_gtr, e_geq, e_conv, e_not, e_neg, and_guard, or_guard]
  cases kd <;> cases h1 : (o.key == []) <;> cases k2 <;> cases h2 : (o.val == []) <;> cases h3 : (o.lo != [] || o.hi != []) <;> cases k4 <;> cases h4 : (o.most != 0) <;>
    simp only [h1, h2, h3, h4, f0, f1, f2, f3, f4, o_1, o_2, o_5, o_all, e_sneq, rne, op_of_call, hO, hj, bne, Bool.not_true, Bool.not_false, Bool.and_true, Bool.and_false, Bool.true_and, Bool.false_and, Bool.or_true, Bool.or_false, Bool.true_or, Bool.false_or, if_true, if_false, Bool.false_eq_true, n_bind, n_map, getL_0, getL_1, getL_2, getL_3, getL_4, getL_5, getL_6, getL_7, getL_8, getL_9, getL_10, getL_11, getL_12, condV_t, condV_f, guardV_tt, guardV_ff, guardV_tf, guardV_ft, guardV_u, apick_t, apick_f, exV_exit, exV_ret, lookE_same, joinK_eq, seqA_n, seqA_e, seqA_r, e_add, e_sub, e_mul, e_eql, e_neq, e_lss, e_leq, e_gtr, e_geq, e_conv, e_not, e_neg, and_guard, or_guard]

end Go.Proofs.Ytamaapapaiopiaa.Ab

/- Operations: the reference's answers, what they write, what they touch. -/
namespace Go.Proofs.Ytamaapapaiopiaa.Ab
open Go

set_option maxHeartbeats 2000000 in
theorem refCheckOp_run {R : Caller} (hR : ∀ r s, R 72 [rv r] s = some (.int .i64 (eR r), s)) (hK : ∀ k s, R 69 [sv k] s = some (.int .i64 (eK k), s)) (o : OpT) (s : St) : ref04_CheckOp R (oV o) s = some (.int .i64 (ckO o), s) := by
  cases hk : okKind o.kind
  · rw [ckO_bad hk]
    have : (o.kind == 1) = false ∧ (o.kind == 2) = false ∧ (o.kind == 3) = false ∧ (o.kind == 4) = false ∧ (o.kind == 5) = false := by
      unfold okKind at hk
      refine ⟨?_, ?_, ?_, ?_, ?_⟩ <;> (rw [beq_eq_false_iff_ne]; intro e; rw [e] at hk; revert hk; decide)
    obtain ⟨k1, k2, k3, k4, k5⟩ := this
    unfold ref04_CheckOp
    simp only [o_box, o_0, k1, k2, k3, k4, k5, Bool.not_false, n_bind, n_map, getL_0, getL_1, getL_2, getL_3, getL_4, getL_5, getL_6, getL_7, getL_8, getL_9, getL_10, getL_11, getL_12, condV_t, condV_f, guardV_tt, guardV_ff, guardV_tf, guardV_ft, guardV_u, apick_t, apick_f, exV_exit, exV_ret, lookE_same, joinK_eq, seqA_n, seqA_e, seqA_r, e_add, e_sub, e_mul, e_eql, e_neq, e_lss, e_leq, e_gtr, e_geq, e_conv, e_not, e_neg, and_guard, or_guard, retV]
    rfl
  · obtain ⟨k, key, val, lo, hi, most⟩ := o
    simp only at hk
    have k11 : ((1 : Int) == 1) = true := rfl
    have k12 : ((1 : Int) == 2) = false := rfl
    have k13 : ((1 : Int) == 3) = false := rfl
    have k14 : ((1 : Int) == 4) = false := rfl
    have k15 : ((1 : Int) == 5) = false := rfl
    have k21 : ((2 : Int) == 1) = false := rfl
    have k22 : ((2 : Int) == 2) = true := rfl
    have k24 : ((2 : Int) == 4) = false := rfl
    have k25 : ((2 : Int) == 5) = false := rfl
    have k31 : ((3 : Int) == 1) = false := rfl
    have k32 : ((3 : Int) == 2) = false := rfl
    have k33 : ((3 : Int) == 3) = true := rfl
    have k34 : ((3 : Int) == 4) = false := rfl
    have k35 : ((3 : Int) == 5) = false := rfl
    have k41 : ((4 : Int) == 1) = false := rfl
    have k42 : ((4 : Int) == 2) = false := rfl
    have k43 : ((4 : Int) == 3) = false := rfl
    have k44 : ((4 : Int) == 4) = true := rfl
    have k51 : ((5 : Int) == 1) = false := rfl
    have k52 : ((5 : Int) == 2) = false := rfl
    have k53 : ((5 : Int) == 3) = false := rfl
    have k54 : ((5 : Int) == 4) = false := rfl
    have k55 : ((5 : Int) == 5) = true := rfl
    unfold ref04_CheckOp ckO
    rw [hk]
    have n12 : ((1 : Int) != 2) = true := rfl
    have n14 : ((1 : Int) != 4) = true := rfl
    have n22 : ((2 : Int) != 2) = false := rfl
    have n24 : ((2 : Int) != 4) = true := rfl
    have n32 : ((3 : Int) != 2) = true := rfl
    have n34 : ((3 : Int) != 4) = true := rfl
    have n42 : ((4 : Int) != 2) = true := rfl
    have n44 : ((4 : Int) != 4) = false := rfl
    have n52 : ((5 : Int) != 2) = true := rfl
    have n54 : ((5 : Int) != 4) = true := rfl
    have hb : ∀ a b : BL, (a != b) = !(a == b) := fun _ _ => rfl
    have rI : ∀ (n : Int) (s : St), retV [.int .i64 n] s = some (.int .i64 n, s) := fun _ _ => rfl
    have hif : ∀ (c : Bool) (n m : Int), (if c = true then some ((Value.int .i64 n), s) else some (.int .i64 m, s)) = some (.int .i64 (if c = true then n else m), s) := fun c n m => by cases c <;> rfl
    rcases kinds hk with rfl | rfl | rfl | rfl | rfl
    all_goals simp only [o_box, o_0, o_1, o_2, o_3, o_4, o_5, nil_sv, e_sneq, keyed, ranged, hb, k11, k12, k13, k14, k15, k21, k22, k24, k25, k31, k32, k33, k34, k35, k41, k42, k43, k44, k51, k52, k53, k54, k55, n12, n14, n22, n24, n32, n34, n42, n44, n52, n54, Bool.not_true, Bool.not_false, Bool.and_true, Bool.and_false, Bool.true_and, Bool.false_and, Bool.or_true, Bool.or_false, Bool.true_or, Bool.false_or, Bool.or_self, Bool.and_self, if_true, if_false, Bool.false_eq_true, ref02_CheckKey_call, hK, ref02_Check_call, hR, e_lenV, len16, ab2, or_and, and_or, eK_n, eR_n, Option.bind_assoc, n_bind, n_map, getL_0, getL_1, getL_2, getL_3, getL_4, getL_5, getL_6, getL_7, getL_8, getL_9, getL_10, getL_11, getL_12, condV_t, condV_f, guardV_tt, guardV_ff, guardV_tf, guardV_ft, guardV_u, apick_t, apick_f, exV_exit, exV_ret, lookE_same, joinK_eq, seqA_n, seqA_e, seqA_r, e_add, e_sub, e_mul, e_eql, e_neq, e_lss, e_leq, e_gtr, e_geq, e_conv, e_not, e_neg, and_guard, or_guard, rI, condV_if, hif]

theorem f_wr (k : Int) : lload false 1 (.pointer (some ⟨0, 4, none⟩)) (formV k) = some (.bool (wrt k)) ∧ lstore 6 lptr (formV k) (.agg #[(.bool false), (.bool false), (.bool false), (.bool false), (.bool false), .nilFunc]) = some (formV k) := by
  cases h : okKind k
  · have : wrt k = false := by
      have h1 : (k == 2) = false ∧ (k == 3) = false ∧ (k == 5) = false := by
        unfold okKind at h
        refine ⟨?_, ?_, ?_⟩ <;> (rw [beq_eq_false_iff_ne]; intro e; rw [e] at h; revert h; decide)
      unfold wrt; rw [h1.1, h1.2.1, h1.2.2]; rfl
    rw [noKind h, this]; exact ⟨rfl, rfl⟩
  · rcases kinds h with rfl | rfl | rfl | rfl | rfl <;> exact ⟨rfl, rfl⟩
theorem Writes_run {R : Caller} (hF : ∀ k s, R 80 [.int .i64 k] s = some (fmV k, s)) (o : OpT) (s : St) : op_Writes R (oV o) s = some (.bool (wrt o.kind), s) := by
  unfold op_Writes
  simp only [o_box, o_0, op_formOf_call, hF, (x_fm _).1, (x_fm _).2, (f_wr _).1, (f_wr _).2, n_bind, n_map, getL_0, getL_1, getL_2, getL_3, getL_4, getL_5, getL_6, getL_7, getL_8, getL_9, getL_10, getL_11, getL_12, condV_t, condV_f, guardV_tt, guardV_ff, guardV_tf, guardV_ft, guardV_u, apick_t, apick_f, exV_exit, exV_ret, lookE_same, joinK_eq, seqA_n, seqA_e, seqA_r, e_add, e_sub, e_mul, e_eql, e_neq, e_lss, e_leq, e_gtr, e_geq, e_conv, e_not, e_neg, and_guard, or_guard, retV]
  rfl
theorem refWrites_run {R : Caller} (o : OpT) (s : St) : ref04_Writes R (oV o) s = some (.bool (wrt o.kind), s) := by
  unfold ref04_Writes
  simp only [o_box, o_0, e_eql, Option.bind_some]
  unfold wrt
  cases h2 : (o.kind == 2) <;> cases h3 : (o.kind == 3) <;> cases h5 : (o.kind == 5) <;> simp only [h2, h3, h5, o_0, n_bind, n_map, getL_0, getL_1, getL_2, getL_3, getL_4, getL_5, getL_6, getL_7, getL_8, getL_9, getL_10, getL_11, getL_12, condV_t, condV_f, guardV_tt, guardV_ff, guardV_tf, guardV_ft, guardV_u, apick_t, apick_f, exV_exit, exV_ret, lookE_same, joinK_eq, seqA_n, seqA_e, seqA_r, e_add, e_sub, e_mul, e_eql, e_neq, e_lss, e_leq, e_gtr, e_geq, e_conv, e_not, e_neg, and_guard, or_guard, retV] <;> rfl

/-- what an operation touches -/
def spR (o : OpT) : Rg := if o.key == [] then (o.lo, o.hi) else ptR o.key
def spL (o : OpT) : Rg × Int := if ckO o == 0 then (spR o, 0) else (([], []), ckO o)
theorem ckO_key {o : OpT} (h : ckO o = 0) : okKind o.kind = true ∧ (keyed o.kind = true → ckK o.key = true) ∧ (ranged o.kind = true → o.key = [] ∧ ckR (o.lo, o.hi) = true) ∧ (keyed o.kind = true → o.lo = [] ∧ o.hi = []) ∧ o.val.length ≤ 16 ∧ (o.kind = 4 → 1 ≤ o.most ∧ o.most ≤ 4) := by
  unfold ckO at h
  split at h
  · cases h
  · rename_i c1
    split at h
    · cases h
    · rename_i c2
      split at h
      · cases h
      · rename_i c3
        split at h
        · cases h
        · rename_i c4
          split at h
          · cases h
          · rename_i c5
            simp only [Bool.not_eq_true, Bool.or_eq_false_iff, Bool.not_eq_false', Bool.and_eq_false_iff] at c1 c2 c3 c4 c5
            obtain ⟨⟨⟨⟨a1, a2⟩, a3⟩, a4⟩, a5⟩ := c1
            refine ⟨a1, fun hk => ?_, fun hr => ⟨?_, ?_⟩, fun hk => ?_, ?_, fun h4 => ?_⟩
            · rcases c2 with c2 | c2
              · rw [hk] at c2; cases c2
              · exact c2
            · rcases a3 with a3 | a3
              · rw [hr] at a3; cases a3
              · simpa [bne] using a3
            · rcases c4 with c4 | c4
              · rw [hr] at c4; cases c4
              · exact c4
            · rcases a2 with a2 | ⟨a2, a3⟩
              · rw [hk] at a2; cases a2
              · exact ⟨by simpa [bne] using a2, by simpa [bne] using a3⟩
            · simpa using c3
            · rw [h4] at c5
              rcases c5 with c5 | c5
              · simp at c5
              · simp at c5; omega
theorem sp_nil {o : OpT} (h : ckO o = 0) (hn : o.key = []) : keyed o.kind = false := by
  cases hk : keyed o.kind with
  | false => rfl
  | true =>
    have := (ckO_key h).2.1 hk
    rw [hn] at this
    cases this
theorem sp_key {o : OpT} (h : ckO o = 0) (hn : o.key ≠ []) : keyed o.kind = true ∧ ckK o.key = true := by
  cases hk : keyed o.kind with
  | true => exact ⟨rfl, (ckO_key h).2.1 hk⟩
  | false =>
    have h1 := (ckO_key h).1
    have h2 : ranged o.kind = true := by
      rcases kinds h1 with e | e | e | e | e <;> rw [e] at hk ⊢ <;> first | rfl | cases hk
    exact absurd ((ckO_key h).2.2.1 h2).1 hn

end Go.Proofs.Ytamaapapaiopiaa.Ab
