/- Operations on a map: what is known, level by level. -/
import Derived.Test.YtdhadhelcpeiaaaOpRef2
set_option linter.unusedVariables false
set_option linter.unusedSimpArgs false
set_option linter.unusedSectionVars false
namespace Go.Proofs.Ytdhadhelcpeiaaa.Ab
open Go

def gPt : Sum := gP (G1K fun k => ptV (ptL k))
def gTrue : Sum := gP (G0 (.bool true))
theorem pt_eq {k : BL} {s : St} : gPt [sv k] s = some (ptV (ptL k), s) := rfl
theorem true_eq {s : St} : gTrue [] s = some (.bool true, s) := rfl
def gOf : Sum := gP (G1O fun o => rv (o.lo, o.hi))
def gCkO : Sum := gP (G1O fun o => .int .i64 (ckO o))
def gWr : Sum := gP (G1O fun o => .bool (wrt o.kind))
def gSp : Sum := gP (G1O fun o => ptV (spL o))
def gAt1 : Sum := gP (G2RK fun p k => .int .i64 (cmpL p.1 k))
theorem of_eq {o : OpT} {s : St} : gOf [oV o] s = some (rv (o.lo, o.hi), s) := rfl
theorem ckO_eq {o : OpT} {s : St} : gCkO [oV o] s = some (.int .i64 (ckO o), s) := rfl
theorem wr_eq {o : OpT} {s : St} : gWr [oV o] s = some (.bool (wrt o.kind), s) := rfl
theorem sp_eq {o : OpT} {s : St} : gSp [oV o] s = some (ptV (spL o), s) := rfl
theorem cmpS_eq {a b : BL} {s : St} : gCmp [sv a, sv b] s = some (.int .i64 (cmpL a b), s) := rfl
theorem at1_eq {p : Rg} {k : BL} {s : St} : gAt1 [rv p, sv k] s = some (.int .i64 (cmpL p.1 k), s) := rfl
def lib0 : List (FuncId × Sum) := []
theorem lib0_ok : LibOk Try.prog (libL lib0) := libOk_nil _
noncomputable def lib1 : List (FuncId × Sum) := (36, gKey) :: lib0
theorem lib1_ok : LibOk Try.prog (libL lib1) := libOk_cons progOk lib0_ok span_CheckKey_ok (sum1K fun k s => ⟨rfl, s, span_CheckKey_of rfl (CheckKey_run k s)⟩)
noncomputable def lib2 : List (FuncId × Sum) := (42, gKey) :: lib1
theorem lib2_ok : LibOk Try.prog (libL lib2) := libOk_cons progOk lib1_ok ref02_CheckKey_ok (sum1K fun k s => ⟨rfl, s, ref02_CheckKey_of rfl (refCheckKey_run k s)⟩)
noncomputable def lib3 : List (FuncId × Sum) := (52, gAll) :: lib2
theorem lib3_ok : LibOk Try.prog (libL lib3) := libOk_cons progOk lib2_ok span_all_ok (sum0 fun s => ⟨rfl, s, span_all_of rfl (all_run s)⟩)
noncomputable def lib4 : List (FuncId × Sum) := (43, gChk) :: lib3
theorem lib4_ok : LibOk Try.prog (libL lib4) := libOk_cons progOk lib3_ok ref02_Check_ok (sum1R fun r s => ⟨rfl, s, ref02_Check_of rfl (refCheck_run r s)⟩)
noncomputable def lib5 : List (FuncId × Sum) := (40, gLeast) :: lib4
theorem lib5_ok : LibOk Try.prog (libL lib5) := libOk_cons progOk lib4_ok span_least_ok (sum2KK fun a b s => ⟨rfl, s, span_least_of rfl (least_run a b s)⟩)
noncomputable def lib6 : List (FuncId × Sum) := (39, gChk) :: lib5
theorem lib6_ok : LibOk Try.prog (libL lib6) := libOk_cons progOk lib5_ok span_Check_ok (sum1R fun r s => ⟨rfl, s, span_Check_of rfl (Check_run (fun s => (known (g := gAll) rfl).trans all_eq) r s)⟩)
noncomputable def lib7 : List (FuncId × Sum) := (18, gHas) :: lib6
theorem lib7_ok : LibOk Try.prog (libL lib7) := libOk_cons progOk lib6_ok span_Has_ok (sum2RK fun r k s => ⟨rfl, s, span_Has_of rfl (Has_run (fun r s => (known (g := gChk) rfl).trans chk_eq) (fun k s => (known (g := gKey) rfl).trans key_eq) r k s)⟩)
noncomputable def lib8 : List (FuncId × Sum) := (57, gHas) :: lib7
theorem lib8_ok : LibOk Try.prog (libL lib8) := libOk_cons progOk lib7_ok ref02_Has_ok (sum2RK fun r k s => ⟨rfl, s, ref02_Has_of rfl (refHas_run (fun r s => (known (g := gChk) rfl).trans chk_eq) (fun k s => (known (g := gKey) rfl).trans key_eq) r k s)⟩)
noncomputable def lib9 : List (FuncId × Sum) := (20, gMeet) :: lib8
theorem lib9_ok : LibOk Try.prog (libL lib9) := libOk_cons progOk lib8_ok span_Meet_ok (sum2RR fun a b s => ⟨meet_plain _, s, span_Meet_of rfl (Meet_run (fun r s => (known (g := gChk) rfl).trans chk_eq) (fun a b s => (known (g := gLeast) rfl).trans least_eq) a b s)⟩)
noncomputable def lib10 : List (FuncId × Sum) := (38, gPt) :: lib9
theorem lib10_ok : LibOk Try.prog (libL lib10) := libOk_cons progOk lib9_ok span_Point_ok (sum1K fun k s => let ⟨t, h⟩ := Point_run (fun k s => (known (g := gKey) rfl).trans key_eq) k s; ⟨rfl, t, span_Point_of rfl h⟩)
noncomputable def lib11 : List (FuncId × Sum) := (41, gPt) :: lib10
theorem lib11_ok : LibOk Try.prog (libL lib11) := libOk_cons progOk lib10_ok ref02_Point_ok (sum1K fun k s => let ⟨t, h⟩ := refPoint_run (fun k s => (known (g := gKey) rfl).trans key_eq) k s; ⟨rfl, t, ref02_Point_of rfl h⟩)
noncomputable def lib12 : List (FuncId × Sum) := (32, gForms) :: lib11
theorem lib12_ok : LibOk Try.prog (libL lib12) := libOk_cons progOk lib11_ok op_forms_ok (sum0 fun s => ⟨rfl, s, op_forms_of rfl (forms_run s)⟩)
noncomputable def lib13 : List (FuncId × Sum) := (35, gFm) :: lib12
theorem lib13_ok : LibOk Try.prog (libL lib13) := libOk_cons progOk lib12_ok op_formOf_ok (sum1I fun k s => ⟨form_plain k, s, op_formOf_of rfl (formOf_run (fun s => (known (g := gForms) rfl).trans forms_eq) k s)⟩)
noncomputable def lib14 : List (FuncId × Sum) := (37, gOf) :: lib13
theorem lib14_ok : LibOk Try.prog (libL lib14) := libOk_cons progOk lib13_ok op_of_ok (sum1O fun o s => ⟨rfl, s, op_of_of rfl (of_run o s)⟩)
noncomputable def lib15 : List (FuncId × Sum) := (24, gCkO) :: lib14
theorem lib15_ok : LibOk Try.prog (libL lib15) := libOk_cons progOk lib14_ok op_CheckOp_ok (sum1O fun o s => ⟨rfl, s, op_CheckOp_of rfl (CheckOp_run (fun k s => (known (g := gFm) rfl).trans fm_eq) (fun o s => (known (g := gOf) rfl).trans of_eq) (fun r s => (known (g := gChk) rfl).trans chk_eq) (fun k s => (known (g := gKey) rfl).trans key_eq) o s)⟩)
noncomputable def lib16 : List (FuncId × Sum) := (25, gCkO) :: lib15
theorem lib16_ok : LibOk Try.prog (libL lib16) := libOk_cons progOk lib15_ok ref04_CheckOp_ok (sum1O fun o s => ⟨rfl, s, ref04_CheckOp_of rfl (refCheckOp_run (fun r s => (known (g := gChk) rfl).trans chk_eq) (fun k s => (known (g := gKey) rfl).trans key_eq) o s)⟩)
noncomputable def lib17 : List (FuncId × Sum) := (15, gWr) :: lib16
theorem lib17_ok : LibOk Try.prog (libL lib17) := libOk_cons progOk lib16_ok op_Writes_ok (sum1O fun o s => ⟨rfl, s, op_Writes_of rfl (Writes_run (fun k s => (known (g := gFm) rfl).trans fm_eq) o s)⟩)
noncomputable def lib18 : List (FuncId × Sum) := (29, gWr) :: lib17
theorem lib18_ok : LibOk Try.prog (libL lib18) := libOk_cons progOk lib17_ok ref04_Writes_ok (sum1O fun o s => ⟨rfl, s, ref04_Writes_of rfl (refWrites_run o s)⟩)
noncomputable def lib19 : List (FuncId × Sum) := (17, gSp) :: lib18
theorem lib19_ok : LibOk Try.prog (libL lib19) := libOk_cons progOk lib18_ok op_Span_ok (sum1O fun o s => ⟨rfl, s, op_Span_of rfl (Span_run (fun o s => (known (g := gCkO) rfl).trans ckO_eq) (fun o s => (known (g := gOf) rfl).trans of_eq) (fun k s => (known (g := gPt) rfl).trans pt_eq) o s)⟩)
noncomputable def lib20 : List (FuncId × Sum) := (21, gSp) :: lib19
theorem lib20_ok : LibOk Try.prog (libL lib20) := libOk_cons progOk lib19_ok ref04_Span_ok (sum1O fun o s => ⟨rfl, s, ref04_Span_of rfl (refSpan_run (fun o s => (known (g := gCkO) rfl).trans ckO_eq) (fun k s => (known (g := gPt) rfl).trans pt_eq) o s)⟩)
noncomputable def lib21 : List (FuncId × Sum) := (30, gAllE) :: lib20
theorem lib21_ok : LibOk Try.prog (libL lib21) := libOk_cons progOk lib20_ok op_all_ok (gL_sum (fun _ => rfl) fun v s l h hl => ⟨s, op_all_of rfl (all_run' (fun o s => (known (g := gCkO) rfl).trans ckO_eq) h hl)⟩)
noncomputable def lib22 : List (FuncId × Sum) := (33, gAllE) :: lib21
theorem lib22_ok : LibOk Try.prog (libL lib22) := libOk_cons progOk lib21_ok ref04_All_ok (gL_sum (fun _ => rfl) fun v s l h hl => ⟨s, ref04_All_of rfl (refAll_run (fun o s => (known (g := gCkO) rfl).trans ckO_eq) h hl)⟩)
noncomputable def lib23 : List (FuncId × Sum) := (26, gChkE) :: lib22
theorem lib23_ok : LibOk Try.prog (libL lib23) := libOk_cons progOk lib22_ok op_Check_ok (gL_sum (fun _ => rfl) fun v s l h hl => ⟨s, op_Check_of rfl (chk_run (fun xs s => known (g := gAllE) rfl) h hl)⟩)
noncomputable def lib24 : List (FuncId × Sum) := (27, gChkE) :: lib23
theorem lib24_ok : LibOk Try.prog (libL lib24) := libOk_cons progOk lib23_ok ref04_Check_ok (gL_sum (fun _ => rfl) fun v s l h hl => ⟨s, ref04_Check_of rfl (refChk_run (fun xs s => known (g := gAllE) rfl) h hl)⟩)
noncomputable def lib25 : List (FuncId × Sum) := (16, gMapE) :: lib24
theorem lib25_ok : LibOk Try.prog (libL lib25) := libOk_cons progOk lib24_ok op_CheckMap_ok (gL_sum (fun _ => rfl) fun v s l h hl => ⟨s, op_CheckMap_of rfl (map_run (fun k s => (known (g := gKey) rfl).trans key_eq) h hl)⟩)
noncomputable def lib26 : List (FuncId × Sum) := (28, gMapE) :: lib25
theorem lib26_ok : LibOk Try.prog (libL lib26) := libOk_cons progOk lib25_ok ref04_CheckMap_ok (gL_sum (fun _ => rfl) fun v s l h hl => ⟨s, ref04_CheckMap_of rfl (refMap_run (fun k s => (known (g := gKey) rfl).trans key_eq) h hl)⟩)
noncomputable def lib27 : List (FuncId × Sum) := (63, gCmp) :: lib26
theorem lib27_ok : LibOk Try.prog (libL lib27) := libOk_direct progOk lib26_ok internal_bytealg_CompareString_ok (fun hl => cmp_known hl)
noncomputable def lib28 : List (FuncId × Sum) := (60, gCmp) :: lib27
theorem lib28_ok : LibOk Try.prog (libL lib28) := libOk_cons progOk lib27_ok strings_Compare_ok (sum2KK fun a b s => ⟨rfl, s, strings_Compare_of rfl (Compare_run (fun a b s => (known (g := gCmp) rfl).trans cmpS_eq) a b s)⟩)
noncomputable def lib29 : List (FuncId × Sum) := (59, gAt1) :: lib28
theorem lib29_ok : LibOk Try.prog (libL lib29) := libOk_cons progOk lib28_ok op_at_1_ok (sum2RK fun p k s => ⟨rfl, s, op_at_1_of rfl (at1_run (fun a b s => (known (g := gCmp) rfl).trans cmpS_eq) p k s)⟩)
noncomputable def lib30 : List (FuncId × Sum) := (53, gAt) :: lib29
theorem lib30_ok : LibOk Try.prog (libL lib30) := libOk_cons progOk lib29_ok op_at_ok (at_sum fun v s m k h hl hs => op_at_of rfl (op_at_run (fun v s m k h hl hs => slices_BinarySearchFunc_api_Pair_api_Pair_string_of rfl (bs_run (fun p k s => (known (g := gAt1) rfl).trans at1_eq) h hs hl k)) h hl hs k))
noncomputable def lib31 : List (FuncId × Sum) := (56, gEnds) :: lib30
theorem lib31_ok : LibOk Try.prog (libL lib31) := libOk_cons progOk lib30_ok op_ends_ok (ends_sum fun v s m r h hl hs => op_ends_of rfl (ends_run (fun xs s => known (g := gAt) rfl) h hl hs r))
noncomputable def lib32 : List (FuncId × Sum) := (54, gIns) :: lib31
theorem lib32_ok : LibOk Try.prog (libL lib32) := libOk_direct progOk lib31_ok slices_Insert_api_Pair_api_Pair_ok (fun hl => ins_known rfl hl)
noncomputable abbrev libS := lib32
theorem libS_ok : LibOk Try.prog (libL libS) := lib32_ok

theorem opHS {R : Caller} (hR : R = (run Try.prog (libL libS) hints)) : OpH R := by
  subst hR
  exact ⟨fun x y s r h => op_get_of rfl h, fun x y s r h => op_put_of rfl h, fun x y s r h => op_del_of rfl h, fun x y s r h => op_scan_of rfl h, fun x y s r h => op_clear_of rfl h, fun xs s => known (g := gAt) rfl, fun xs s => known (g := gIns) rfl, fun o s => (known (g := gOf) rfl).trans of_eq, fun xs s => known (g := gEnds) rfl, fun a b c s r h => slices_Delete_api_Pair_api_Pair_of rfl h, fun a s r h => slices_Clone_api_Pair_api_Pair_of rfl h, fun xs s => known (g := gMapE) rfl, fun xs s => known (g := gAllE) rfl, fun s => (known (g := gForms) rfl).trans forms_eq⟩
theorem refAS {R : Caller} (hR : R = (run Try.prog (libL libS) hints)) : RefA R := by
  subst hR
  exact ⟨⟨fun k v s m h hl => ref04_Find_of rfl (find_run k h hl), fun x y s r h => ref04_put_of rfl h, fun x y s r h => ref04_without_of rfl h, fun x y z s r h => ref04_Within_of rfl h, fun k s => (known (g := gPt) rfl).trans pt_eq, fun r k s => (known (g := gHas) rfl).trans has_eq⟩, fun x y s r h => ref04_Do_of rfl h, fun xs s => known (g := gMapE) rfl, fun xs s => known (g := gAllE) rfl⟩
theorem k_apply {L : List (FuncId × Sum)} (H : OpH (run Try.prog (libL L) hints)) (hno : libL L 11 = none) {v w : Value} {s : St} {m : List Rg} {l : List OpT} (hm : listOf prC v s = some m) (h : listOf opC w s = some l) (hml : m.length + l.length ≤ 6200000000000) (hl : l.length ≤ 1759218604391) :
    if apE m l = 0 then ∃ a r t, (run Try.prog (libL L) hints) 11 [v, w] s = some (.tuple #[a, r, .int .i64 0], t) ∧ OwnC prC s.heap.length t a (apM m l) ∧ Rdy s.heap.length t r (apR m l) ∧ Ext s.heap.length s t
    else (run Try.prog (libL L) hints) 11 [v, w] s = some (.tuple #[.slice none 0 0, .slice none 0 0, .int .i64 (apE m l)], s) := by
  have h1 := Apply_run H hm h hml hl
  split at h1
  · rename_i c
    rw [if_pos c]
    obtain ⟨a, r, t, g1, g2⟩ := h1
    exact ⟨a, r, t, op_Apply_of hno g1, g2⟩
  · rename_i c
    rw [if_neg c]
    exact op_Apply_of hno h1
theorem k_ref {L : List (FuncId × Sum)} (H : RefA (run Try.prog (libL L) hints)) (hno : libL L 12 = none) {v w : Value} {s : St} {m : List Rg} {l : List OpT} (hm : listOf prC v s = some m) (h : listOf opC w s = some l) (hml : m.length ≤ 4400000000000) (hl : l.length ≤ 1759218604391) :
    if apE m l = 0 then ∃ a r t, (run Try.prog (libL L) hints) 12 [v, w] s = some (.tuple #[a, r, .int .i64 0], t) ∧ Own s.heap.length 2 t a (encL prC (apM m l)) ∧ Rdy s.heap.length t r (apR m l) ∧ Ext s.heap.length s t
    else (run Try.prog (libL L) hints) 12 [v, w] s = some (.tuple #[.slice none 0 0, .slice none 0 0, .int .i64 (apE m l)], s) := by
  have h1 := refApply_run H hm h hml hl
  split at h1
  · rename_i c
    rw [if_pos c]
    obtain ⟨a, r, t, g1, g2⟩ := h1
    exact ⟨a, r, t, ref04_Apply_of hno g1, g2⟩
  · rename_i c
    rw [if_neg c]
    exact ref04_Apply_of hno h1
theorem k_same {L : List (FuncId × Sum)} (hno : libL L 13 = none) {v w : Value} {s : St} {a b : List Rg} (ha : listOf prC v s = some a) (hb : listOf prC w s = some b) (hl : a.length < 140737488355328) : (run Try.prog (libL L) hints) 13 [v, w] s = some (.bool (decide (a = b)), s) := ref04_SameMap_of hno (same_run ha hb hl)
theorem k_sameR {L : List (FuncId × Sum)} (hno : libL L 13 = none) (hno2 : libL L 14 = none) {v w : Value} {s : St} {a b : List Rs} (ha : RdyL s v a) (hb : RdyL s w b) (hl : a.length < 140737488355328) (hll : ∀ x ∈ a, x.2.2.length < 140737488355328) : (run Try.prog (libL L) hints) 14 [v, w] s = some (.bool (decide (a = b)), s) := ref04_SameResults_of hno2 (sameR_run (fun v w s a b ha hb hl => k_same hno ha hb hl) ha hb hl hll)

end Go.Proofs.Ytdhadhelcpeiaaa.Ab
