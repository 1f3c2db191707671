/- A function of no arguments, run by the kernel on an empty heap. -/
import Derived.Test.YtamaapapaiopiaaBView
set_option linter.unusedVariables false
set_option linter.unusedSimpArgs false
set_option linter.unusedSectionVars false
namespace Go.Proofs.Ytamaapapaiopiaa.Ab
open Go

theorem Sim.empty (w : World) : Sim w.heap.size (fun _ => none) [] w where
  dom b x h := by cases h
  row b n cells st h := by simp at h
  map b es clock h := by simp at h
  excl a b h := by simp [ownB] at h
  size := Nat.le_refl _
  loc b n cells st h := by simp at h

def saysTrue (r : Option (Value × St)) : Bool := match r with
  | some (.bool true, _) => true
  | _ => false
theorem closed_calls {P : Program} {lib : Lib} {hints : Hints} (hprog : progW P = true) (hlib : LibOk P lib) {f : FuncId} (hok : funcOk P f = true) {j : Nat} (h : saysTrue (fnB P lib hints j f [] ⟨[]⟩) = true)
    {s : St} {wb : Nat} {ι : Emb} {w : World} {args' : Array Value} (hs : Sim wb ι s.heap w) (ha : All2 (VRel ι) [] args'.toList) : Calls P f args' w fun e w' => ∃ v', e = .returned v' ∧ After wb ι s.heap w s.heap (.bool true) v' w' := by
  unfold saysTrue at h
  split at h
  case h_2 => cases h
  rename_i t hr
  refine (fnB_sound hprog hlib j f [] ⟨[]⟩ _ _ hr hok w.heap.size (fun _ => none) w args' (Sim.empty w) (by
    obtain ⟨l⟩ := args'
    cases l with
    | nil => trivial
    | cons => exact ha.elim)).mono fun e w' ⟨v', he, κ, h1, h2, h3⟩ => ⟨v', he, ?_⟩
  have hsame : ∀ c, c < w.heap.size → w'.heap[c]? = w.heap[c]? := fun c hc => h2.keep c hc fun a y ha => by simp [ownB] at ha
  refine ⟨ι, hs.later hsame h2.size, ⟨.refl _, fun _ _ => rfl, fun b x hx hb => absurd (hs.dom b x hx) (by omega), fun c hc _ => hsame c hc, h2.size, h2.os, h2.tape, h2.output, Nat.le_refl _, fun _ _ h => h⟩, ?_⟩
  have : v' = .bool true := h3.inv_bool
  subst this
  exact .va (.l2 (.l1 (.l0 (.bool _))))

end Go.Proofs.Ytamaapapaiopiaa.Ab
