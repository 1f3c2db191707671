/- Buffers: what is known, level by level. -/
import Derived.Test.YthnjkakmkmoceaaBuFnd
import Derived.Test.YthnjkakmkmoceaaOpAll2
set_option linter.unusedVariables false
set_option linter.unusedSimpArgs false
set_option linter.unusedSectionVars false
namespace Go.Proofs.Ythnjkakmkmoceaa.Ab
open Go

def gOf : Sum := gP (G1O fun o => rv (o.lo, o.hi))
def gCkO : Sum := gP (G1O fun o => .int .i64 (ckO o))
def gWr : Sum := gP (G1O fun o => .bool (wrt o.kind))
def gAt1 : Sum := gP (G2RK fun p k => .int .i64 (cmpL p.1 k))
theorem of_eq {o : OpT} {s : St} : gOf [oV o] s = some (rv (o.lo, o.hi), s) := rfl
theorem ckO_eq {o : OpT} {s : St} : gCkO [oV o] s = some (.int .i64 (ckO o), s) := rfl
theorem wr_eq {o : OpT} {s : St} : gWr [oV o] s = some (.bool (wrt o.kind), s) := rfl
theorem cmpS_eq {a b : BL} {s : St} : gCmp [sv a, sv b] s = some (.int .i64 (cmpL a b), s) := rfl
theorem at1_eq {p : Rg} {k : BL} {s : St} : gAt1 [rv p, sv k] s = some (.int .i64 (cmpL p.1 k), s) := rfl
def G2OK (F : OpT → BL → Value) : List Value → Option Value
  | [x, y] => (asOp x).bind fun a => (asBl y).map fun b => F a b
  | _ => none
theorem sum2OK {lib : Lib} {f : FuncId} {F : OpT → BL → Value} (h : ∀ r k s, plainV (F r k) = true ∧ ∃ t, run Try.prog lib hints f [oV r, sv k] s = some (F r k, t)) : SumOk Try.prog lib hints f (gP (G2OK F)) := sumP fun xs v s hv => by
  unfold G2OK at hv
  split at hv
  · simp only [Option.bind_eq_some_iff, Option.map_eq_some_iff] at hv
    obtain ⟨r, h1, k, h2, rfl⟩ := hv
    rw [asOp_some h1, asBl_some h2]
    exact h r k s
  · cases hv
def gTch : Sum := gP (G2OK fun o k => .bool (tch o k))
theorem tch_eq {o : OpT} {k : BL} {s : St} : gTch [oV o, sv k] s = some (.bool (tch o k), s) := rfl
theorem say_sum {lib : Lib} {f : FuncId} (h : ∀ v s l k, listOf enC v s = some l → l.length ≤ 140737488351232 → ∃ t, run Try.prog lib hints f [v, sv k] s = some (sayV (findE l k), t)) : SumOk Try.prog lib hints f gSay :=
  SumOk.plain (G := fun xs s => match xs with
  | [v, .string k] => (listOf enC v s).bind fun l => if l.length ≤ 140737488351232 then some (sayV (findE l k.data.toList)) else none
  | _ => none) fun xs s v hh => by
    split at hh
    · rename_i v0 k
      simp only [Option.bind_eq_some_iff] at hh
      obtain ⟨l, h1, h2⟩ := hh
      split at h2
      · rename_i hl
        cases h2
        refine ⟨say_plain _, ?_⟩
        have hk : sv k.data.toList = .string k := by rw [← sv_of]
        rw [← hk]
        exact h v0 (frzS s) l _ (by rw [list_frz]; exact h1) hl
      · cases h2
    · cases hh

def lib0 : List (FuncId × Sum) := []
theorem lib0_ok : LibOk Try.prog (libL lib0) := libOk_nil _
noncomputable def lib1 : List (FuncId × Sum) := (31, gKey) :: lib0
theorem lib1_ok : LibOk Try.prog (libL lib1) := libOk_cons progOk lib0_ok span_CheckKey_ok (sum1K fun k s => ⟨rfl, s, span_CheckKey_of rfl (CheckKey_run k s)⟩)
noncomputable def lib2 : List (FuncId × Sum) := (17, gKey) :: lib1
theorem lib2_ok : LibOk Try.prog (libL lib2) := libOk_cons progOk lib1_ok ref02_CheckKey_ok (sum1K fun k s => ⟨rfl, s, ref02_CheckKey_of rfl (refCheckKey_run k s)⟩)
noncomputable def lib3 : List (FuncId × Sum) := (60, gAll) :: lib2
theorem lib3_ok : LibOk Try.prog (libL lib3) := libOk_cons progOk lib2_ok span_all_ok (sum0 fun s => ⟨rfl, s, span_all_of rfl (all_run s)⟩)
noncomputable def lib4 : List (FuncId × Sum) := (50, gChk) :: lib3
theorem lib4_ok : LibOk Try.prog (libL lib4) := libOk_cons progOk lib3_ok ref02_Check_ok (sum1R fun r s => ⟨rfl, s, ref02_Check_of rfl (refCheck_run r s)⟩)
noncomputable def lib5 : List (FuncId × Sum) := (51, gLeast) :: lib4
theorem lib5_ok : LibOk Try.prog (libL lib5) := libOk_cons progOk lib4_ok span_least_ok (sum2KK fun a b s => ⟨rfl, s, span_least_of rfl (least_run a b s)⟩)
noncomputable def lib6 : List (FuncId × Sum) := (49, gChk) :: lib5
theorem lib6_ok : LibOk Try.prog (libL lib6) := libOk_cons progOk lib5_ok span_Check_ok (sum1R fun r s => ⟨rfl, s, span_Check_of rfl (Check_run (fun s => (known (g := gAll) rfl).trans all_eq) r s)⟩)
noncomputable def lib7 : List (FuncId × Sum) := (32, gHas) :: lib6
theorem lib7_ok : LibOk Try.prog (libL lib7) := libOk_cons progOk lib6_ok span_Has_ok (sum2RK fun r k s => ⟨rfl, s, span_Has_of rfl (Has_run (fun r s => (known (g := gChk) rfl).trans chk_eq) (fun k s => (known (g := gKey) rfl).trans key_eq) r k s)⟩)
noncomputable def lib8 : List (FuncId × Sum) := (37, gHas) :: lib7
theorem lib8_ok : LibOk Try.prog (libL lib8) := libOk_cons progOk lib7_ok ref02_Has_ok (sum2RK fun r k s => ⟨rfl, s, ref02_Has_of rfl (refHas_run (fun r s => (known (g := gChk) rfl).trans chk_eq) (fun k s => (known (g := gKey) rfl).trans key_eq) r k s)⟩)
noncomputable def lib9 : List (FuncId × Sum) := (33, gMeet) :: lib8
theorem lib9_ok : LibOk Try.prog (libL lib9) := libOk_cons progOk lib8_ok span_Meet_ok (sum2RR fun a b s => ⟨meet_plain _, s, span_Meet_of rfl (Meet_run (fun r s => (known (g := gChk) rfl).trans chk_eq) (fun a b s => (known (g := gLeast) rfl).trans least_eq) a b s)⟩)
noncomputable def lib10 : List (FuncId × Sum) := (54, gForms) :: lib9
theorem lib10_ok : LibOk Try.prog (libL lib10) := libOk_cons progOk lib9_ok op_forms_ok (sum0 fun s => ⟨rfl, s, op_forms_of rfl (forms_run s)⟩)
noncomputable def lib11 : List (FuncId × Sum) := (47, gFm) :: lib10
theorem lib11_ok : LibOk Try.prog (libL lib11) := libOk_cons progOk lib10_ok op_formOf_ok (sum1I fun k s => ⟨form_plain k, s, op_formOf_of rfl (formOf_run (fun s => (known (g := gForms) rfl).trans forms_eq) k s)⟩)
noncomputable def lib12 : List (FuncId × Sum) := (48, gOf) :: lib11
theorem lib12_ok : LibOk Try.prog (libL lib12) := libOk_cons progOk lib11_ok op_of_ok (sum1O fun o s => ⟨rfl, s, op_of_of rfl (of_run o s)⟩)
noncomputable def lib13 : List (FuncId × Sum) := (27, gCkO) :: lib12
theorem lib13_ok : LibOk Try.prog (libL lib13) := libOk_cons progOk lib12_ok op_CheckOp_ok (sum1O fun o s => ⟨rfl, s, op_CheckOp_of rfl (CheckOp_run (fun k s => (known (g := gFm) rfl).trans fm_eq) (fun o s => (known (g := gOf) rfl).trans of_eq) (fun r s => (known (g := gChk) rfl).trans chk_eq) (fun k s => (known (g := gKey) rfl).trans key_eq) o s)⟩)
noncomputable def lib14 : List (FuncId × Sum) := (29, gCkO) :: lib13
theorem lib14_ok : LibOk Try.prog (libL lib14) := libOk_cons progOk lib13_ok ref04_CheckOp_ok (sum1O fun o s => ⟨rfl, s, ref04_CheckOp_of rfl (refCheckOp_run (fun r s => (known (g := gChk) rfl).trans chk_eq) (fun k s => (known (g := gKey) rfl).trans key_eq) o s)⟩)
noncomputable def lib15 : List (FuncId × Sum) := (28, gWr) :: lib14
theorem lib15_ok : LibOk Try.prog (libL lib15) := libOk_cons progOk lib14_ok op_Writes_ok (sum1O fun o s => ⟨rfl, s, op_Writes_of rfl (Writes_run (fun k s => (known (g := gFm) rfl).trans fm_eq) o s)⟩)
noncomputable def lib16 : List (FuncId × Sum) := (30, gWr) :: lib15
theorem lib16_ok : LibOk Try.prog (libL lib16) := libOk_cons progOk lib15_ok ref04_Writes_ok (sum1O fun o s => ⟨rfl, s, ref04_Writes_of rfl (refWrites_run o s)⟩)
noncomputable def lib17 : List (FuncId × Sum) := (52, gAllE) :: lib16
theorem lib17_ok : LibOk Try.prog (libL lib17) := libOk_cons progOk lib16_ok op_all_ok (gL_sum (fun _ => rfl) fun v s l h hl => ⟨s, op_all_of rfl (all_run' (fun o s => (known (g := gCkO) rfl).trans ckO_eq) h hl)⟩)
noncomputable def lib18 : List (FuncId × Sum) := (18, gMapE) :: lib17
theorem lib18_ok : LibOk Try.prog (libL lib18) := libOk_cons progOk lib17_ok op_CheckMap_ok (gL_sum (fun _ => rfl) fun v s l h hl => ⟨s, op_CheckMap_of rfl (map_run (fun k s => (known (g := gKey) rfl).trans key_eq) h hl)⟩)
noncomputable def lib19 : List (FuncId × Sum) := (91, gCmp) :: lib18
theorem lib19_ok : LibOk Try.prog (libL lib19) := libOk_direct progOk lib18_ok internal_bytealg_CompareString_ok (fun hl => cmp_known hl)
noncomputable def lib20 : List (FuncId × Sum) := (87, gCmp) :: lib19
theorem lib20_ok : LibOk Try.prog (libL lib20) := libOk_cons progOk lib19_ok strings_Compare_ok (sum2KK fun a b s => ⟨rfl, s, strings_Compare_of rfl (Compare_run (fun a b s => (known (g := gCmp) rfl).trans cmpS_eq) a b s)⟩)
noncomputable def lib21 : List (FuncId × Sum) := (86, gAt1) :: lib20
theorem lib21_ok : LibOk Try.prog (libL lib21) := libOk_cons progOk lib20_ok op_at_1_ok (sum2RK fun p k s => ⟨rfl, s, op_at_1_of rfl (at1_run (fun a b s => (known (g := gCmp) rfl).trans cmpS_eq) p k s)⟩)
noncomputable def lib22 : List (FuncId × Sum) := (76, gAt) :: lib21
theorem lib22_ok : LibOk Try.prog (libL lib22) := libOk_cons progOk lib21_ok op_at_ok (at_sum fun v s m k h hl hs => op_at_of rfl (op_at_run (fun v s m k h hl hs => slices_BinarySearchFunc_api_Pair_api_Pair_string_of rfl (bs_run (fun p k s => (known (g := gAt1) rfl).trans at1_eq) h hs hl k)) h hl hs k))
noncomputable def lib23 : List (FuncId × Sum) := (79, gEnds) :: lib22
theorem lib23_ok : LibOk Try.prog (libL lib23) := libOk_cons progOk lib22_ok op_ends_ok (ends_sum fun v s m r h hl hs => op_ends_of rfl (ends_run (fun xs s => known (g := gAt) rfl) h hl hs r))
noncomputable def lib24 : List (FuncId × Sum) := (77, gIns) :: lib23
theorem lib24_ok : LibOk Try.prog (libL lib24) := libOk_direct progOk lib23_ok slices_Insert_api_Pair_api_Pair_ok (fun hl => ins_known rfl hl)
noncomputable def lib25 : List (FuncId × Sum) := (34, gOf) :: lib24
theorem lib25_ok : LibOk Try.prog (libL lib25) := libOk_cons progOk lib24_ok buffer_of_ok (sum1O fun o s => ⟨rfl, s, buffer_of_of rfl (bof_run o s)⟩)
noncomputable def lib26 : List (FuncId × Sum) := (25, gTch) :: lib25
theorem lib26_ok : LibOk Try.prog (libL lib26) := libOk_cons progOk lib25_ok buffer_touches_ok (sum2OK fun o k s => ⟨rfl, s, buffer_touches_of rfl (touches_run (fun o s => (known (g := gOf) rfl).trans of_eq) (fun r k s => (known (g := gHas) rfl).trans has_eq) o k s)⟩)
noncomputable def lib27 : List (FuncId × Sum) := (26, gTch) :: lib26
theorem lib27_ok : LibOk Try.prog (libL lib27) := libOk_cons progOk lib26_ok ref12_Touches_ok (sum2OK fun o k s => ⟨rfl, s, ref12_Touches_of rfl (Touches_run (fun r k s => (known (g := gHas) rfl).trans has_eq) o k s)⟩)
noncomputable def lib28 : List (FuncId × Sum) := (10, gEB) :: lib27
theorem lib28_ok : LibOk Try.prog (libL lib28) := libOk_cons progOk lib27_ok buffer_Check_ok (gL_sum (fun _ => rfl) fun v s l h hl => ⟨s, buffer_Check_of rfl (buffer_Check_run (fun o s => (known (g := gCkO) rfl).trans ckO_eq) (fun o s => (known (g := gWr) rfl).trans wr_eq) h hl)⟩)
noncomputable def lib29 : List (FuncId × Sum) := (11, gEB) :: lib28
theorem lib29_ok : LibOk Try.prog (libL lib29) := libOk_cons progOk lib28_ok ref12_Check_ok (gL_sum (fun _ => rfl) fun v s l h hl => ⟨s, ref12_Check_of rfl (ref12_Check_run (fun o s => (known (g := gCkO) rfl).trans ckO_eq) (fun o s => (known (g := gWr) rfl).trans wr_eq) h hl)⟩)
noncomputable def lib30 : List (FuncId × Sum) := (8, gSay) :: lib29
theorem lib30_ok : LibOk Try.prog (libL lib30) := libOk_direct progOk lib29_ok buffer_Find_ok (fun hl => find_known (fun o k s => (known (g := gTch) rfl).trans tch_eq) rfl hl)
noncomputable def lib31 : List (FuncId × Sum) := (9, gSay) :: lib30
theorem lib31_ok : LibOk Try.prog (libL lib31) := libOk_cons progOk lib30_ok ref12_Find_ok (say_sum fun v s l k h hl => ⟨s, ref12_Find_of rfl (refFind_run (fun o k s => (known (g := gTch) rfl).trans tch_eq) h (by omega) k)⟩)
noncomputable def lib32 : List (FuncId × Sum) := (7, gTrue) :: lib31
theorem lib32_ok : LibOk Try.prog (libL lib32) := libOk_direct progOk lib31_ok law12_live_ok (fun hl => live_known hl)
noncomputable abbrev libT := lib32
theorem libT_ok : LibOk Try.prog (libL libT) := lib32_ok

theorem k_live {s : St} : (run Try.prog (libL libT) hints) 7 [] s = some (.bool true, s) := (known (g := gTrue) rfl).trans true_eq
section
variable {v : Value} {s : St} {l : List En} (h : listOf enC v s = some l) (hl : l.length ≤ 140737488351232)
include h hl
theorem k_find (k : BL) : (run Try.prog (libL libT) hints) 8 [v, sv k] s = some (sayV (findE l k), s) := (known (g := gSay) rfl).trans (gSay_eq h hl k)
theorem k_rfind (k : BL) : (run Try.prog (libL libT) hints) 9 [v, sv k] s = some (sayV (findE l k), s) := (known (g := gSay) rfl).trans (gSay_eq h hl k)
theorem k_chkE : (run Try.prog (libL libT) hints) 10 [v] s = some (.int .i64 (eB l), s) := (known (g := gEB) rfl).trans (gL_eq h (by omega))
theorem k_rchkE : (run Try.prog (libL libT) hints) 11 [v] s = some (.int .i64 (eB l), s) := (known (g := gEB) rfl).trans (gL_eq h (by omega))
end

theorem x_say (f : Say) : aextract 0 (sayV f) = some (sv f.1) ∧ aextract 1 (sayV f) = some (.bool f.2.1) ∧ aextract 2 (sayV f) = some (.bool f.2.2) := ⟨rfl, rfl, rfl⟩
theorem e_beql {t : TypeId} {ox oy : Operand} {a b : Bool} (h : Try.prog.underlying t = some .bool) : abin Try.prog .eql t ox oy (.bool a) (.bool b) = some (.bool (a == b)) := by
  cases a <;> cases b <;> simp [abin, h, eqSmall]
theorem finds_run (s : St) (v : Value) (l : List En) (h : listOf enC v s = some l) (hl : l.length ≤ 140737488351232) (k : BL) : law12_BufferFinds (run Try.prog (libL libT) hints) v (sv k) s = some (.bool true, s) := by
  unfold law12_BufferFinds
  obtain ⟨x0, x1, x2⟩ := x_say (findE l k)
  have hb : ∀ (n : Int), (n == n) = true := fun n => by simp
  have hs : (((findE l k).1 : BL) == (findE l k).1) = true := by simp
  have hc : ∀ c : Bool, (c == c) = true := fun c => by cases c <;> rfl
  simp only [law12_live_call, k_live, buffer_Find_call, k_find h hl k, ref12_Find_call, k_rfind h hl k, x0, x1, x2, buffer_Check_call, k_chkE h hl, ref12_Check_call, k_rchkE h hl, e_seql, hb, hs, n_bind, n_map, getL_0, getL_1, getL_2, getL_3, getL_4, getL_5, getL_6, getL_7, getL_8, getL_9, getL_10, getL_11, getL_12, condV_t, condV_f, guardV_tt, guardV_ff, guardV_tf, guardV_ft, guardV_u, apick_t, apick_f, exV_exit, exV_ret, lookE_same, joinK_eq, seqA_n, seqA_e, seqA_r, e_add, e_sub, e_mul, e_eql, e_neq, e_lss, e_leq, e_gtr, e_geq, e_conv, e_not, e_neg, and_guard, or_guard]
  have hbe : ∀ (o1 o2 : Operand) (a b : Bool), abin Try.prog .eql 4 o1 o2 (.bool a) (.bool b) = some (.bool (a == b)) := fun o1 o2 a b => e_beql Try.underlying4
  simp only [hbe, hc, n_bind, n_map, getL_0, getL_1, getL_2, getL_3, getL_4, getL_5, getL_6, getL_7, getL_8, getL_9, getL_10, getL_11, getL_12, condV_t, condV_f, guardV_tt, guardV_ff, guardV_tf, guardV_ft, guardV_u, apick_t, apick_f, exV_exit, exV_ret, lookE_same, joinK_eq, seqA_n, seqA_e, seqA_r, e_add, e_sub, e_mul, e_eql, e_neq, e_lss, e_leq, e_gtr, e_geq, e_conv, e_not, e_neg, and_guard, or_guard, ret1 (show noTup (.bool _) = true from rfl)]
theorem BufferFinds_law (s : St) (v : Value) (l : List En) (h : listOf enC v s = some l) (hl : l.length ≤ 1600000000000) (k : ByteArray) (wk : k.size ≤ 140737488351232) : ∃ s', (run Try.prog (libL libT) hints) 3 [v, .string k] s = some (.bool true, s') := by
  rw [sv_of]
  exact ⟨s, law12_BufferFinds_of rfl (finds_run s v l h (by omega) _)⟩

end Go.Proofs.Ythnjkakmkmoceaa.Ab
