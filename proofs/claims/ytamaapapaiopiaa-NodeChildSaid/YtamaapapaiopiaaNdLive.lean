/- The chapter's examples: run by the kernel. -/
import Derived.Test.YtamaapapaiopiaaSh
import Derived.Test.YtamaapapaiopiaaBLive
import Derived.Test.YtamaapapaiopiaaStrCmp
set_option linter.unusedVariables false
set_option linter.unusedSimpArgs false
set_option linter.unusedSectionVars false
namespace Go.Proofs.Ytamaapapaiopiaa.Ab
open Go

theorem live_says : saysTrue (fnB Try.prog (libL []) hints 60 7 [] ⟨[]⟩) = true := by kernel_rfl
def gTrue : Sum := gP (G0 (.bool true))
theorem true_eq {s : St} : gTrue [] s = some (.bool true, s) := rfl
theorem live_known {l : List (FuncId × Sum)} (_ : LibOk Try.prog (libL l)) : ∀ args s v s', gTrue args s = some (v, s') → ∀ wb ι w (args' : Array Value), Sim wb ι s.heap w → All2 (VRel ι) args args'.toList → Calls Try.prog 7 args' w fun e w' => ∃ v', e = .returned v' ∧ After wb ι s.heap w s'.heap v v' w' := by
  intro args s v s' h wb ι w args' hs ha
  unfold gTrue gP G0 at h
  simp only [Option.map_eq_some_iff] at h
  obtain ⟨u, h, e⟩ := h
  cases e
  split at h
  · cases h
    exact closed_calls progOk (libOk_nil _) law13_live_ok live_says hs ha
  · cases h
end Go.Proofs.Ytamaapapaiopiaa.Ab
