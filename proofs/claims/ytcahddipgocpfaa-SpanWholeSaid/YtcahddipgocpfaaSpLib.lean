/- What is known of the functions of keys and ranges, level by level (all but Point and the examples). -/
import Derived.Test.YtcahddipgocpfaaSpFun6
set_option linter.unusedVariables false
set_option linter.unusedSimpArgs false
set_option linter.unusedSectionVars false
namespace Go.Proofs.Ytcahddipgocpfaa.Ab
open Go

theorem progOk : progW Try.prog = true := by kernel_rfl
def gKey : Sum := gP (G1K fun k => .int .i64 (eK k))
def gChk : Sum := gP (G1R fun r => .int .i64 (eR r))
def gHas : Sum := gP (G2RK fun r k => .bool (hasR r k))
def gLeast : Sum := gP (G2KK fun a b => sv (leastL a b))
def gBelow : Sum := gP (G2KK fun a b => .bool (belowL a b))
def gMeet : Sum := gP (G2RR fun a b => meetV (meetL a b))
def gCov : Sum := gP (G2RR fun a b => .bool (covL a b))
def gCut : Sum := gP (G2RK fun r k => cutV (cutL r k))
def G0 (v : Value) : List Value → Option Value
  | [] => some v
  | _ => none
def gAll : Sum := gP (G0 (rv ([], [])))
theorem key_eq {k : BL} {s : St} : gKey [sv k] s = some (.int .i64 (eK k), s) := rfl
theorem chk_eq {r : Rg} {s : St} : gChk [rv r] s = some (.int .i64 (eR r), s) := rfl
theorem has_eq {r : Rg} {k : BL} {s : St} : gHas [rv r, sv k] s = some (.bool (hasR r k), s) := rfl
theorem least_eq {a b : BL} {s : St} : gLeast [sv a, sv b] s = some (sv (leastL a b), s) := rfl
theorem below_eq {a b : BL} {s : St} : gBelow [sv a, sv b] s = some (.bool (belowL a b), s) := rfl
theorem meet_eq {a b : Rg} {s : St} : gMeet [rv a, rv b] s = some (meetV (meetL a b), s) := rfl
theorem cov_eq {a b : Rg} {s : St} : gCov [rv a, rv b] s = some (.bool (covL a b), s) := rfl
theorem cut_eq {r : Rg} {k : BL} {s : St} : gCut [rv r, sv k] s = some (cutV (cutL r k), s) := rfl
theorem all_eq {s : St} : gAll [] s = some (rv ([], []), s) := rfl
theorem meet_plain (m : Option Rg) : plainV (meetV m) = true := by cases m <;> rfl

def lib1 : List (FuncId × Sum) := [(12, gKey)]
def lib2 : List (FuncId × Sum) := (13, gKey) :: lib1
def lib3 : List (FuncId × Sum) := (26, gAll) :: lib2
def lib4 : List (FuncId × Sum) := (15, gChk) :: lib3
def lib5 : List (FuncId × Sum) := (27, gLeast) :: lib4
def lib6 : List (FuncId × Sum) := (28, gBelow) :: lib5
def lib7 : List (FuncId × Sum) := (14, gChk) :: lib6
def lib8 : List (FuncId × Sum) := (16, gHas) :: lib7
def lib9 : List (FuncId × Sum) := (17, gHas) :: lib8
def lib10 : List (FuncId × Sum) := (22, gMeet) :: lib9
def lib11 : List (FuncId × Sum) := (23, gMeet) :: lib10
def lib12 : List (FuncId × Sum) := (24, gCov) :: lib11
def lib13 : List (FuncId × Sum) := (25, gCov) :: lib12
def lib14 : List (FuncId × Sum) := (20, gCut) :: lib13
def lib15 : List (FuncId × Sum) := (21, gCut) :: lib14

theorem lib1_ok : LibOk Try.prog (libL lib1) := libOk_cons progOk (libOk_nil _) span_CheckKey_ok (sum1K fun k s => ⟨rfl, s, span_CheckKey_of rfl (CheckKey_run k s)⟩)
theorem lib2_ok : LibOk Try.prog (libL lib2) := libOk_cons progOk lib1_ok ref02_CheckKey_ok (sum1K fun k s => ⟨rfl, s, ref02_CheckKey_of rfl (refCheckKey_run k s)⟩)
theorem lib3_ok : LibOk Try.prog (libL lib3) := libOk_cons progOk lib2_ok span_all_ok (sumP fun xs v s h => by
  unfold G0 at h
  split at h
  · cases h; exact ⟨rfl, s, span_all_of rfl (all_run s)⟩
  · cases h)
theorem lib4_ok : LibOk Try.prog (libL lib4) := libOk_cons progOk lib3_ok ref02_Check_ok (sum1R fun r s => ⟨rfl, s, ref02_Check_of rfl (refCheck_run r s)⟩)
theorem lib5_ok : LibOk Try.prog (libL lib5) := libOk_cons progOk lib4_ok span_least_ok (sum2KK fun a b s => ⟨rfl, s, span_least_of rfl (least_run a b s)⟩)
theorem lib6_ok : LibOk Try.prog (libL lib6) := libOk_cons progOk lib5_ok ref02_below_ok (sum2KK fun a b s => ⟨rfl, s, ref02_below_of rfl (below_run a b s)⟩)
theorem lib7_ok : LibOk Try.prog (libL lib7) := libOk_cons progOk lib6_ok span_Check_ok (sum1R fun r s => ⟨rfl, s, span_Check_of rfl (Check_run (fun s => (known (g := gAll) rfl).trans all_eq) r s)⟩)
theorem lib8_ok : LibOk Try.prog (libL lib8) := libOk_cons progOk lib7_ok span_Has_ok (sum2RK fun r k s => ⟨rfl, s, span_Has_of rfl (Has_run (fun r s => (known (g := gChk) rfl).trans chk_eq) (fun k s => (known (g := gKey) rfl).trans key_eq) r k s)⟩)
theorem lib9_ok : LibOk Try.prog (libL lib9) := libOk_cons progOk lib8_ok ref02_Has_ok (sum2RK fun r k s => ⟨rfl, s, ref02_Has_of rfl (refHas_run (fun r s => (known (g := gChk) rfl).trans chk_eq) (fun k s => (known (g := gKey) rfl).trans key_eq) r k s)⟩)
theorem lib10_ok : LibOk Try.prog (libL lib10) := libOk_cons progOk lib9_ok span_Meet_ok (sum2RR fun a b s => ⟨meet_plain _, s, span_Meet_of rfl (Meet_run (fun r s => (known (g := gChk) rfl).trans chk_eq) (fun a b s => (known (g := gLeast) rfl).trans least_eq) a b s)⟩)
theorem lib11_ok : LibOk Try.prog (libL lib11) := libOk_cons progOk lib10_ok ref02_Meet_ok (sum2RR fun a b s => ⟨meet_plain _, s, ref02_Meet_of rfl (refMeet_run (fun r s => (known (g := gChk) rfl).trans chk_eq) (fun a b s => (known (g := gBelow) rfl).trans below_eq) a b s)⟩)
theorem lib12_ok : LibOk Try.prog (libL lib12) := libOk_cons progOk lib11_ok span_Covers_ok (sum2RR fun a b s => ⟨rfl, s, span_Covers_of rfl (Covers_run (fun r s => (known (g := gChk) rfl).trans chk_eq) (fun a b s => (known (g := gLeast) rfl).trans least_eq) a b s)⟩)
theorem lib13_ok : LibOk Try.prog (libL lib13) := libOk_cons progOk lib12_ok ref02_Covers_ok (sum2RR fun a b s => ⟨rfl, s, ref02_Covers_of rfl (refCovers_run (fun r s => (known (g := gChk) rfl).trans chk_eq) (fun a b s => (known (g := gBelow) rfl).trans below_eq) a b s)⟩)
theorem lib14_ok : LibOk Try.prog (libL lib14) := libOk_cons progOk lib13_ok span_Cut_ok (sum2RK fun r k s => ⟨rfl, s, span_Cut_of rfl (Cut_run (fun r s => (known (g := gChk) rfl).trans chk_eq) (fun k s => (known (g := gKey) rfl).trans key_eq) (fun r k s => (known (g := gHas) rfl).trans has_eq) r k s)⟩)
theorem lib15_ok : LibOk Try.prog (libL lib15) := libOk_cons progOk lib14_ok ref02_Cut_ok (sum2RK fun r k s => ⟨rfl, s, ref02_Cut_of rfl (refCut_run (fun r s => (known (g := gChk) rfl).trans chk_eq) (fun k s => (known (g := gKey) rfl).trans key_eq) r k s)⟩)

end Go.Proofs.Ytcahddipgocpfaa.Ab
