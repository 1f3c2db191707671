/- Owners: what is known, level by level; the chapter's examples. -/
import Derived.Test.YtmnmpackcjakdaaOwSplit
import Derived.Test.YtmnmpackcjakdaaBLive
set_option linter.unusedVariables false
set_option linter.unusedSimpArgs false
set_option linter.unusedSectionVars false
namespace Go.Proofs.Ytmnmpackcjakdaa.Ab
open Go

def gTrue : Sum := gP (G0 (.bool true))
theorem true_eq {s : St} : gTrue [] s = some (.bool true, s) := rfl
theorem cmpS_eq {a b : BL} {s : St} : gCmp [sv a, sv b] s = some (.int .i64 (cmpL a b), s) := rfl
theorem sum0 {lib : Lib} {f : FuncId} {v : Value} (h : ∀ s, plainV v = true ∧ ∃ t, run Try.prog lib hints f [] s = some (v, t)) : SumOk Try.prog lib hints f (gP (G0 v)) := sumP fun xs w s hv => by
  unfold G0 at hv
  split at hv
  · cases hv; exact h s
  · cases hv
/-- the chapter's examples: the kernel runs them -/
def libC : List (FuncId × Sum) := [(33, gInsO), (63, gCmp)]
theorem libC1_ok : LibOk Try.prog (libL [(63, gCmp)]) := libOk_direct progOk (libOk_nil _) internal_bytealg_CompareString_ok fun hl => cmp_known hl
theorem libC_ok : LibOk Try.prog (libL libC) := libOk_direct progOk libC1_ok slices_Insert_api_Owner_api_Owner_ok fun hl => insO_known rfl hl
theorem live_says : saysTrue (fnB Try.prog (libL libC) hints 40 9 [] ⟨[]⟩) = true := by kernel_rfl
theorem live_known {l : List (FuncId × Sum)} (_ : LibOk Try.prog (libL l)) : ∀ args s v s', gTrue args s = some (v, s') → ∀ wb ι w (args' : Array Value), Sim wb ι s.heap w → All2 (VRel ι) args args'.toList → Calls Try.prog 9 args' w fun e w' => ∃ v', e = .returned v' ∧ After wb ι s.heap w s'.heap v v' w' := by
  intro args s v s' h wb ι w args' hs ha
  unfold gTrue gP G0 at h
  simp only [Option.map_eq_some_iff] at h
  obtain ⟨u, h, e⟩ := h
  cases e
  split at h
  · cases h
    exact closed_calls progOk libC_ok law17_live_ok live_says hs ha
  · cases h

theorem roV_plain (l : List Ow) (n : Int) : plainV (roV l n) = true := by rw [roV_eq]; rfl
theorem keysOf {R : Caller} {f : FuncId} {v : Value} {s : St} {l : List Ow} {n : Int} {u : Value} (h : listOf owC v s = some l) (hl : l.length < 140737488355328) (hF : kR l n = some u) (hr : ∀ (i : Nat) (hi : i < l.length), R f [v, .int .i64 (i : Int)] s = some (rv (keyR l i), s)) : plainV u = true ∧ R f [v, .int .i64 n] s = some (u, s) := by
  unfold kR at hF
  split at hF
  · rename_i c
    cases hF
    obtain ⟨i, rfl⟩ := Int.eq_ofNat_of_zero_le c.1
    rw [Int.toNat_natCast] at c ⊢
    exact ⟨rfl, hr i c.2⟩
  · cases hF
theorem atOf {R : Caller} {f : FuncId} {v : Value} {s : St} {l : List Ow} {k : BL} {u : Value} (hF : atF l k = some u) (hr : Okay l → ckK k = true → R f [v, sv k] s = some (.int .i64 ((fiO l k : Nat) : Int), s)) : plainV u = true ∧ R f [v, sv k] s = some (u, s) := by
  unfold atF at hF
  split at hF
  · rename_i c
    cases hF
    exact ⟨rfl, hr (okay_iff.1 c.1) c.2⟩
  · cases hF

def lib0 : List (FuncId × Sum) := []
theorem lib0_ok : LibOk Try.prog (libL lib0) := libOk_nil _
noncomputable def lib1 : List (FuncId × Sum) := (25, gKey) :: lib0
theorem lib1_ok : LibOk Try.prog (libL lib1) := libOk_cons progOk lib0_ok span_CheckKey_ok (sum1K fun k s => ⟨rfl, s, span_CheckKey_of rfl (CheckKey_run k s)⟩)
noncomputable def lib2 : List (FuncId × Sum) := (38, gKey) :: lib1
theorem lib2_ok : LibOk Try.prog (libL lib2) := libOk_cons progOk lib1_ok ref02_CheckKey_ok (sum1K fun k s => ⟨rfl, s, ref02_CheckKey_of rfl (refCheckKey_run k s)⟩)
noncomputable def lib3 : List (FuncId × Sum) := (45, gAll) :: lib2
theorem lib3_ok : LibOk Try.prog (libL lib3) := libOk_cons progOk lib2_ok span_all_ok (sum0 fun s => ⟨rfl, s, span_all_of rfl (all_run s)⟩)
noncomputable def lib4 : List (FuncId × Sum) := (43, gChk) :: lib3
theorem lib4_ok : LibOk Try.prog (libL lib4) := libOk_cons progOk lib3_ok ref02_Check_ok (sum1R fun r s => ⟨rfl, s, ref02_Check_of rfl (refCheck_run r s)⟩)
noncomputable def lib5 : List (FuncId × Sum) := (65, gLeast) :: lib4
theorem lib5_ok : LibOk Try.prog (libL lib5) := libOk_cons progOk lib4_ok span_least_ok (sum2KK fun a b s => ⟨rfl, s, span_least_of rfl (least_run a b s)⟩)
noncomputable def lib6 : List (FuncId × Sum) := (66, gBelow) :: lib5
theorem lib6_ok : LibOk Try.prog (libL lib6) := libOk_cons progOk lib5_ok ref02_below_ok (sum2KK fun a b s => ⟨rfl, s, ref02_below_of rfl (below_run a b s)⟩)
noncomputable def lib7 : List (FuncId × Sum) := (23, gChk) :: lib6
theorem lib7_ok : LibOk Try.prog (libL lib7) := libOk_cons progOk lib6_ok span_Check_ok (sum1R fun r s => ⟨rfl, s, span_Check_of rfl (Check_run (fun s => (known (g := gAll) rfl).trans all_eq) r s)⟩)
noncomputable def lib8 : List (FuncId × Sum) := (24, gHas) :: lib7
theorem lib8_ok : LibOk Try.prog (libL lib8) := libOk_cons progOk lib7_ok span_Has_ok (sum2RK fun r k s => ⟨rfl, s, span_Has_of rfl (Has_run (fun r s => (known (g := gChk) rfl).trans chk_eq) (fun k s => (known (g := gKey) rfl).trans key_eq) r k s)⟩)
noncomputable def lib9 : List (FuncId × Sum) := (64, gHas) :: lib8
theorem lib9_ok : LibOk Try.prog (libL lib9) := libOk_cons progOk lib8_ok ref02_Has_ok (sum2RK fun r k s => ⟨rfl, s, ref02_Has_of rfl (refHas_run (fun r s => (known (g := gChk) rfl).trans chk_eq) (fun k s => (known (g := gKey) rfl).trans key_eq) r k s)⟩)
noncomputable def lib10 : List (FuncId × Sum) := (42, gCov) :: lib9
theorem lib10_ok : LibOk Try.prog (libL lib10) := libOk_cons progOk lib9_ok span_Covers_ok (sum2RR fun a b s => ⟨rfl, s, span_Covers_of rfl (Covers_run (fun r s => (known (g := gChk) rfl).trans chk_eq) (fun a b s => (known (g := gLeast) rfl).trans least_eq) a b s)⟩)
noncomputable def lib11 : List (FuncId × Sum) := (44, gCov) :: lib10
theorem lib11_ok : LibOk Try.prog (libL lib11) := libOk_cons progOk lib10_ok ref02_Covers_ok (sum2RR fun a b s => ⟨rfl, s, ref02_Covers_of rfl (refCovers_run (fun r s => (known (g := gChk) rfl).trans chk_eq) (fun a b s => (known (g := gBelow) rfl).trans below_eq) a b s)⟩)
noncomputable def lib12 : List (FuncId × Sum) := (19, gEO) :: lib11
theorem lib12_ok : LibOk Try.prog (libL lib12) := libOk_cons progOk lib11_ok owner_Check_ok (sumO (fun _ => rfl) fun v s l h hl => owner_Check_of rfl (owner_Check_run (fun k s => (known (g := gKey) rfl).trans key_eq) h hl))
noncomputable def lib13 : List (FuncId × Sum) := (20, gEO) :: lib12
theorem lib13_ok : LibOk Try.prog (libL lib13) := libOk_cons progOk lib12_ok ref17_Check_ok (sumO (fun _ => rfl) fun v s l h hl => ref17_Check_of rfl (ref17_Check_run (fun k s => (known (g := gKey) rfl).trans key_eq) h hl))
noncomputable def lib14 : List (FuncId × Sum) := (40, gKR) :: lib13
theorem lib14_ok : LibOk Try.prog (libL lib14) := libOk_cons progOk lib13_ok owner_keys_ok (sumON fun v s l n u h hl hF => keysOf h hl hF fun i hi => owner_keys_of rfl (keys_run h hi hl))
noncomputable def lib15 : List (FuncId × Sum) := (41, gKR) :: lib14
theorem lib15_ok : LibOk Try.prog (libL lib15) := libOk_cons progOk lib14_ok ref17_Range_ok (sumON fun v s l n u h hl hF => keysOf h hl hF fun i hi => ref17_Range_of rfl (refRange_run h hi hl))
noncomputable def lib16 : List (FuncId × Sum) := (17, gRO) :: lib15
theorem lib16_ok : LibOk Try.prog (libL lib16) := libOk_cons progOk lib15_ok owner_RangeOf_ok (sumON fun v s l n u h hl hF => by cases hF; exact ⟨roV_plain l n, owner_RangeOf_of rfl (owner_RangeOf_run (fun xs s => known (g := gEO) rfl) (fun xs s => known (g := gKR) rfl) h hl n)⟩)
noncomputable def lib17 : List (FuncId × Sum) := (18, gRO) :: lib16
theorem lib17_ok : LibOk Try.prog (libL lib17) := libOk_cons progOk lib16_ok ref17_RangeOf_ok (sumON fun v s l n u h hl hF => by cases hF; exact ⟨roV_plain l n, ref17_RangeOf_of rfl (ref17_RangeOf_run (fun xs s => known (g := gEO) rfl) (fun xs s => known (g := gKR) rfl) h hl n)⟩)
noncomputable def lib18 : List (FuncId × Sum) := (63, gCmp) :: lib17
theorem lib18_ok : LibOk Try.prog (libL lib18) := libOk_direct progOk lib17_ok internal_bytealg_CompareString_ok (fun hl => cmp_known hl)
noncomputable def lib19 : List (FuncId × Sum) := (37, gCmp) :: lib18
theorem lib19_ok : LibOk Try.prog (libL lib19) := libOk_cons progOk lib18_ok strings_Compare_ok (sum2KK fun a b s => ⟨rfl, s, strings_Compare_of rfl (Compare_run (fun a b s => (known (g := gCmp) rfl).trans cmpS_eq) a b s)⟩)
noncomputable def lib20 : List (FuncId × Sum) := (36, gF1) :: lib19
theorem lib20_ok : LibOk Try.prog (libL lib20) := libOk_cons progOk lib19_ok owner_Find_1_ok (sum2OK fun o k s => ⟨rfl, s, owner_Find_1_of rfl (Find1_run (fun a b s => (known (g := gCmp) rfl).trans cmpS_eq) o k s)⟩)
noncomputable def lib21 : List (FuncId × Sum) := (35, gBs) :: lib20
theorem lib21_ok : LibOk Try.prog (libL lib21) := libOk_cons progOk lib20_ok slices_BinarySearchFunc_api_Owner_api_Owner_string_ok (bs_sum fun v s l k h hl hs => slices_BinarySearchFunc_api_Owner_api_Owner_string_of rfl (bsO_run (fun p k s => (known (g := gF1) rfl).trans f1_eq) h hs hl k))
noncomputable def lib22 : List (FuncId × Sum) := (15, gFi) :: lib21
theorem lib22_ok : LibOk Try.prog (libL lib22) := libOk_cons progOk lib21_ok owner_Find_ok (sumOK fun v s l k u h hl hF => by cases hF; exact ⟨rfl, owner_Find_of rfl (Find_run (fun xs s => known (g := gEO) rfl) (fun k s => (known (g := gKey) rfl).trans key_eq) (fun xs s => known (g := gBs) rfl) h hl k)⟩)
noncomputable def lib23 : List (FuncId × Sum) := (39, gAtO) :: lib22
theorem lib23_ok : LibOk Try.prog (libL lib23) := libOk_cons progOk lib22_ok ref17_at_ok (sumOK fun v s l k u h hl hF => atOf hF fun hok hk => ref17_at_of rfl (at_runO (fun xs s => known (g := gKR) rfl) (fun r k s => (known (g := gHas) rfl).trans has_eq) h hok hk))
noncomputable def lib24 : List (FuncId × Sum) := (16, gFi) :: lib23
theorem lib24_ok : LibOk Try.prog (libL lib24) := libOk_cons progOk lib23_ok ref17_Find_ok (sumOK fun v s l k u h hl hF => by cases hF; exact ⟨rfl, ref17_Find_of rfl (refFind_run (fun xs s => known (g := gEO) rfl) (fun k s => (known (g := gKey) rfl).trans key_eq) (fun xs s => known (g := gAtO) rfl) h hl k)⟩)
noncomputable def lib25 : List (FuncId × Sum) := (33, gInsO) :: lib24
theorem lib25_ok : LibOk Try.prog (libL lib25) := libOk_direct progOk lib24_ok slices_Insert_api_Owner_api_Owner_ok (fun hl => insO_known rfl hl)
noncomputable def lib26 : List (FuncId × Sum) := (9, gTrue) :: lib25
theorem lib26_ok : LibOk Try.prog (libL lib26) := libOk_direct progOk lib25_ok law17_live_ok (fun hl => live_known hl)
noncomputable abbrev libT := lib26
theorem libT_ok : LibOk Try.prog (libL libT) := lib26_ok

theorem k_live {s : St} : (run Try.prog (libL libT) hints) 9 [] s = some (.bool true, s) := (known (g := gTrue) rfl).trans true_eq
theorem k_chk (r : Rg) (s : St) : (run Try.prog (libL libT) hints) 23 [rv r] s = some (.int .i64 (eR r), s) := (known (g := gChk) rfl).trans chk_eq
theorem k_key (k : BL) (s : St) : (run Try.prog (libL libT) hints) 25 [sv k] s = some (.int .i64 (eK k), s) := (known (g := gKey) rfl).trans key_eq
theorem k_has (r : Rg) (k : BL) (s : St) : (run Try.prog (libL libT) hints) 24 [rv r, sv k] s = some (.bool (hasR r k), s) := (known (g := gHas) rfl).trans has_eq
section
variable {v : Value} {s : St} {l : List Ow} (h : listOf owC v s = some l) (hl : l.length < 140737488355328)
include h hl
theorem k_chkO : (run Try.prog (libL libT) hints) 19 [v] s = some (.int .i64 (eO l), s) := (known (g := gEO) rfl).trans (gO_eq h hl)
theorem k_rchkO : (run Try.prog (libL libT) hints) 20 [v] s = some (.int .i64 (eO l), s) := (known (g := gEO) rfl).trans (gO_eq h hl)
theorem k_ro (n : Int) : (run Try.prog (libL libT) hints) 17 [v, .int .i64 n] s = some (roV l n, s) := (known (g := gRO) rfl).trans (gON_eq h hl rfl)
theorem k_rro (n : Int) : (run Try.prog (libL libT) hints) 18 [v, .int .i64 n] s = some (roV l n, s) := (known (g := gRO) rfl).trans (gON_eq h hl rfl)
theorem k_fi (k : BL) : (run Try.prog (libL libT) hints) 15 [v, sv k] s = some (fiV l k, s) := (known (g := gFi) rfl).trans (gOK_eq h hl rfl)
theorem k_rfi (k : BL) : (run Try.prog (libL libT) hints) 16 [v, sv k] s = some (fiV l k, s) := (known (g := gFi) rfl).trans (gOK_eq h hl rfl)
theorem k_owns (sh : Int) (r : Rg) : (run Try.prog (libL libT) hints) 21 [v, .int .i64 sh, rv r] s = some (.bool (ownsL l sh r), s) := owner_Owns_of rfl (Owns_run (fun xs s => known (g := gEO) rfl) (fun xs s => known (g := gKR) rfl) (fun a b s => (known (g := gCov) rfl).trans cov_eq) h hl sh r)
theorem k_rowns (sh : Int) (r : Rg) : (run Try.prog (libL libT) hints) 22 [v, .int .i64 sh, rv r] s = some (.bool (ownsL l sh r), s) := ref17_Owns_of rfl (refOwns_run (fun xs s => known (g := gEO) rfl) (fun xs s => known (g := gKR) rfl) (fun a b s => (known (g := gCov) rfl).trans cov_eq) (fun r s => (known (g := gChk) rfl).trans chk_eq) h hl sh r)
theorem k_split (k : BL) : GivesO s ((run Try.prog (libL libT) hints) 10 [v, sv k] s) (spE l k) (spM l k) := by
  obtain ⟨a, t, h1, h2⟩ := Split_run (R := (run Try.prog (libL libT) hints)) (fun xs s => known (g := gFi) rfl) (fun a s r h => slices_Clone_api_Owner_api_Owner_of rfl h) (fun xs s => known (g := gInsO) rfl) h hl k
  exact ⟨a, t, owner_Split_of rfl h1, h2⟩
theorem k_rsplit (k : BL) : GivesO s ((run Try.prog (libL libT) hints) 11 [v, sv k] s) (spE l k) (spM l k) := by
  obtain ⟨a, t, h1, h2⟩ := refSplit_run (R := (run Try.prog (libL libT) hints)) (fun xs s => known (g := gFi) rfl) h hl k
  exact ⟨a, t, ref17_Split_of rfl h1, h2⟩
theorem k_give (n sh : Int) : GivesO s ((run Try.prog (libL libT) hints) 12 [v, .int .i64 n, .int .i64 sh] s) (gvE l n sh) (gvM l n sh) := by
  obtain ⟨a, t, h1, h2⟩ := owner_Give_run (R := (run Try.prog (libL libT) hints)) (fun xs s => known (g := gEO) rfl) (fun a s r h => slices_Clone_api_Owner_api_Owner_of rfl h) h hl n sh
  exact ⟨a, t, owner_Give_of rfl h1, h2⟩
theorem k_rgive (n sh : Int) : GivesO s ((run Try.prog (libL libT) hints) 13 [v, .int .i64 n, .int .i64 sh] s) (gvE l n sh) (gvM l n sh) := by
  obtain ⟨a, t, h1, h2⟩ := ref17_Give_run (R := (run Try.prog (libL libT) hints)) (fun xs s => known (g := gEO) rfl) h hl n sh
  exact ⟨a, t, ref17_Give_of rfl h1, h2⟩
end
theorem k_same {v w : Value} {s : St} {a b : List Ow} (ha : listOf owC v s = some a) (hb : listOf owC w s = some b) (hl : a.length < 140737488355328) : (run Try.prog (libL libT) hints) 14 [v, w] s = some (.bool (decide (a = b)), s) := ref17_Same_of rfl (sameO_run ha hb hl)

end Go.Proofs.Ytmnmpackcjakdaa.Ab
