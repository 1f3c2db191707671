/- The chapter's examples: run by the kernel. -/
import Derived.Test.YthnjkakmkmoceaaBuRnd
import Derived.Test.YthnjkakmkmoceaaBLive
import Derived.Test.YthnjkakmkmoceaaStrCmp
set_option linter.unusedVariables false
set_option linter.unusedSimpArgs false
set_option linter.unusedSectionVars false
namespace Go.Proofs.Ythnjkakmkmoceaa.Ab
open Go Go.RowKit

noncomputable def callC : Caller := fnB Try.prog (libL []) hints 40
theorem callC_ok : CallOk Try.prog callC := fnB_sound progOk (libOk_nil _) 40
noncomputable def gFindC : Sum
  | [x0, x1], s => evFind callC x0 x1 s
  | _, _ => none
noncomputable def gSqzC : Sum
  | [x0], s => evSqz callC x0 s
  | _, _ => none
theorem libF_ok : LibOk Try.prog (libL [(8, gFindC)]) := libOk_direct progOk (libOk_nil _) buffer_Find_ok fun _ args s v s' h wb ι w args' hs ha => by
  unfold gFindC at h
  split at h
  · exact find_calls callC_ok h hs ha
  · cases h
noncomputable def libC : List (FuncId × Sum) := [(22, gSqzC), (8, gFindC)]
theorem libC_ok : LibOk Try.prog (libL libC) := libOk_direct progOk libF_ok buffer_Squeeze_ok fun _ args s v s' h wb ι w args' hs ha => by
  unfold gSqzC at h
  split at h
  · exact sqz_calls callC_ok h hs ha
  · cases h
theorem live_says : saysTrue (fnB Try.prog (libL libC) hints 40 7 [] ⟨[]⟩) = true := by kernel_rfl
def gTrue : Sum := gP (G0 (.bool true))
theorem true_eq {s : St} : gTrue [] s = some (.bool true, s) := rfl
theorem live_known {l : List (FuncId × Sum)} (_ : LibOk Try.prog (libL l)) : ∀ args s v s', gTrue args s = some (v, s') → ∀ wb ι w (args' : Array Value), Sim wb ι s.heap w → All2 (VRel ι) args args'.toList → Calls Try.prog 7 args' w fun e w' => ∃ v', e = .returned v' ∧ After wb ι s.heap w s'.heap v v' w' := by
  intro args s v s' h wb ι w args' hs ha
  unfold gTrue gP G0 at h
  simp only [Option.map_eq_some_iff] at h
  obtain ⟨u, h, e⟩ := h
  cases e
  split at h
  · cases h
    exact closed_calls progOk libC_ok law12_live_ok live_says hs ha
  · cases h
end Go.Proofs.Ythnjkakmkmoceaa.Ab
