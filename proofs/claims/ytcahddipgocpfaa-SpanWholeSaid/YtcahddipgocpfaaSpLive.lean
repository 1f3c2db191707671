/- The range of a key, and the chapter's examples. -/
import Derived.Test.YtcahddipgocpfaaSpPoint2
set_option linter.unusedVariables false
set_option linter.unusedSimpArgs false
set_option linter.unusedSectionVars false
namespace Go.Proofs.Ytcahddipgocpfaa.Ab
open Go

theorem lit_sv {l : List UInt8} : Value.string ⟨l.toArray⟩ = sv l := rfl
theorem agg_rv {a b : BL} : (Value.agg #[sv a, sv b]) = rv (a, b) := rfl
theorem x_pt {p : Rg × Int} : aextract 0 (ptV p) = some (rv p.1) ∧ aextract 1 (ptV p) = some (.int .i64 p.2) := ⟨rfl, rfl⟩
theorem x_cut {c : Rg × Rg × Int} : aextract 0 (cutV c) = some (rv c.1) ∧ aextract 1 (cutV c) = some (rv c.2.1) ∧ aextract 2 (cutV c) = some (.int .i64 c.2.2) := ⟨rfl, rfl, rfl⟩
def mR : Option Rg → Rg
  | some m => m
  | none => ([], [])
theorem x_meet {m : Option Rg} : aextract 0 (meetV m) = some (rv (mR m)) ∧ aextract 1 (meetV m) = some (.bool m.isSome) := by cases m <;> exact ⟨rfl, rfl⟩
theorem same_bool (o1 o2 : Operand) (a b : Bool) : abin Try.prog .eql 4 o1 o2 (.bool a) (.bool b) = some (.bool (a == b)) := by
  unfold abin
  rw [Try.underlying4]
  rfl
theorem differ_bool (o1 o2 : Operand) (a b : Bool) : abin Try.prog .neq 4 o1 o2 (.bool a) (.bool b) = some (.bool (a != b)) := by
  unfold abin
  rw [Try.underlying4]
  rfl

def gPt : Sum := gP (G1K fun k => ptV (ptL k))
def gTrue : Sum := gP (G0 (.bool true))
theorem pt_eq {k : BL} {s : St} : gPt [sv k] s = some (ptV (ptL k), s) := rfl
theorem true_eq {s : St} : gTrue [] s = some (.bool true, s) := rfl
def lib16 : List (FuncId × Sum) := (18, gPt) :: lib15
def lib17 : List (FuncId × Sum) := (19, gPt) :: lib16
def lib18 : List (FuncId × Sum) := (11, gTrue) :: lib17
abbrev libT := lib18
theorem lib16_ok : LibOk Try.prog (libL lib16) := libOk_cons progOk lib15_ok span_Point_ok (sum1K fun k s => by
  obtain ⟨t, h⟩ := Point_run (R := run Try.prog (libL lib15) hints) (fun k s => (known (g := gKey) rfl).trans key_eq) k s
  exact ⟨rfl, t, span_Point_of rfl h⟩)
theorem lib17_ok : LibOk Try.prog (libL lib17) := libOk_cons progOk lib16_ok ref02_Point_ok (sum1K fun k s => by
  obtain ⟨t, h⟩ := refPoint_run (R := run Try.prog (libL lib16) hints) (fun k s => (known (g := gKey) rfl).trans key_eq) k s
  exact ⟨rfl, t, ref02_Point_of rfl h⟩)

theorem live_run {R : Caller} (hP : ∀ k s, R 18 [sv k] s = some (ptV (ptL k), s)) (hM : ∀ a b s, R 22 [rv a, rv b] s = some (meetV (meetL a b), s)) (hC : ∀ r k s, R 20 [rv r, sv k] s = some (cutV (cutL r k), s)) (s : St) : law02_live R s = some (.bool true, s) := by
  have p1 : ptL [97] = (([97], [97, 0]), 0) := by decide +kernel
  have p2 : meetL ([97], [109]) ([103], []) = some ([103], [109]) := by decide +kernel
  have p3 : meetL ([97], [103]) ([103], []) = none := by decide +kernel
  have p4 : cutL ([], [109]) [103] = (([], [103]), ([103], [109]), 0) := by decide +kernel
  have p5 : cutL ([], [109]) [109] = (([], []), ([], []), 21) := by decide +kernel
  unfold law02_live
  simp only [lit_sv, agg_rv, span_Point_call, span_Meet_call, span_Cut_call, hP, hM, hC, p1, p2, p3, p4, p5, x_pt.1, x_pt.2, x_meet.1, x_meet.2, x_cut.1, x_cut.2.1, x_cut.2.2, st_rv, ld_rv, rv_eql, Option.bind_some, Option.map_some, getL_0, getL_1, getL_2, getL_3, getL_4, getL_5, getL_6, getL_7, getL_8, getL_9, getL_10, getL_11, getL_12, condV_t, condV_f, guardV_tt, guardV_ff, guardV_tf, guardV_ft, guardV_u, apick_t, apick_f, exV_exit, exV_ret, lookE_same, joinK_eq, seqA_n, seqA_e, seqA_r, e_add, e_sub, e_mul, e_eql, e_neq, e_lss, e_leq, e_gtr, e_geq, e_conv, e_not, e_neg, and_guard, or_guard]
  rfl
theorem lib18_ok : LibOk Try.prog (libL lib18) := libOk_cons progOk lib17_ok law02_live_ok (sumP fun xs v s h => by
  unfold G0 at h
  split at h
  · cases h; exact ⟨rfl, s, law02_live_of rfl (live_run (fun k s => (known (g := gPt) rfl).trans pt_eq) (fun a b s => (known (g := gMeet) rfl).trans meet_eq) (fun a b s => (known (g := gCut) rfl).trans cut_eq) s)⟩
  · cases h)

/-! ### What the laws call -/
theorem k_live (s : St) : callV Try.prog (run Try.prog (libL libT) hints) (.func (.func 11) #[] #[]) [] s = some (.bool true, s) := law02_live_call.trans ((known (g := gTrue) rfl).trans true_eq)
theorem k_key (k : BL) (s : St) : callV Try.prog (run Try.prog (libL libT) hints) (.func (.func 12) #[] #[]) [sv k] s = some (.int .i64 (eK k), s) := span_CheckKey_call.trans ((known (g := gKey) rfl).trans key_eq)
theorem k_rkey (k : BL) (s : St) : callV Try.prog (run Try.prog (libL libT) hints) (.func (.func 13) #[] #[]) [sv k] s = some (.int .i64 (eK k), s) := ref02_CheckKey_call.trans ((known (g := gKey) rfl).trans key_eq)
theorem k_chk (r : Rg) (s : St) : callV Try.prog (run Try.prog (libL libT) hints) (.func (.func 14) #[] #[]) [rv r] s = some (.int .i64 (eR r), s) := span_Check_call.trans ((known (g := gChk) rfl).trans chk_eq)
theorem k_rchk (r : Rg) (s : St) : callV Try.prog (run Try.prog (libL libT) hints) (.func (.func 15) #[] #[]) [rv r] s = some (.int .i64 (eR r), s) := ref02_Check_call.trans ((known (g := gChk) rfl).trans chk_eq)
theorem k_has (r : Rg) (k : BL) (s : St) : callV Try.prog (run Try.prog (libL libT) hints) (.func (.func 16) #[] #[]) [rv r, sv k] s = some (.bool (hasR r k), s) := span_Has_call.trans ((known (g := gHas) rfl).trans has_eq)
theorem k_rhas (r : Rg) (k : BL) (s : St) : callV Try.prog (run Try.prog (libL libT) hints) (.func (.func 17) #[] #[]) [rv r, sv k] s = some (.bool (hasR r k), s) := ref02_Has_call.trans ((known (g := gHas) rfl).trans has_eq)
theorem k_meet (a b : Rg) (s : St) : callV Try.prog (run Try.prog (libL libT) hints) (.func (.func 22) #[] #[]) [rv a, rv b] s = some (meetV (meetL a b), s) := span_Meet_call.trans ((known (g := gMeet) rfl).trans meet_eq)
theorem k_rmeet (a b : Rg) (s : St) : callV Try.prog (run Try.prog (libL libT) hints) (.func (.func 23) #[] #[]) [rv a, rv b] s = some (meetV (meetL a b), s) := ref02_Meet_call.trans ((known (g := gMeet) rfl).trans meet_eq)
theorem k_cov (a b : Rg) (s : St) : callV Try.prog (run Try.prog (libL libT) hints) (.func (.func 24) #[] #[]) [rv a, rv b] s = some (.bool (covL a b), s) := span_Covers_call.trans ((known (g := gCov) rfl).trans cov_eq)
theorem k_rcov (a b : Rg) (s : St) : callV Try.prog (run Try.prog (libL libT) hints) (.func (.func 25) #[] #[]) [rv a, rv b] s = some (.bool (covL a b), s) := ref02_Covers_call.trans ((known (g := gCov) rfl).trans cov_eq)
theorem k_cut (r : Rg) (k : BL) (s : St) : callV Try.prog (run Try.prog (libL libT) hints) (.func (.func 20) #[] #[]) [rv r, sv k] s = some (cutV (cutL r k), s) := span_Cut_call.trans ((known (g := gCut) rfl).trans cut_eq)
theorem k_rcut (r : Rg) (k : BL) (s : St) : callV Try.prog (run Try.prog (libL libT) hints) (.func (.func 21) #[] #[]) [rv r, sv k] s = some (cutV (cutL r k), s) := ref02_Cut_call.trans ((known (g := gCut) rfl).trans cut_eq)
theorem k_pt (k : BL) (s : St) : callV Try.prog (run Try.prog (libL libT) hints) (.func (.func 18) #[] #[]) [sv k] s = some (ptV (ptL k), s) := span_Point_call.trans ((known (g := gPt) rfl).trans pt_eq)
theorem k_rpt (k : BL) (s : St) : callV Try.prog (run Try.prog (libL libT) hints) (.func (.func 19) #[] #[]) [sv k] s = some (ptV (ptL k), s) := ref02_Point_call.trans ((known (g := gPt) rfl).trans pt_eq)

end Go.Proofs.Ytcahddipgocpfaa.Ab
