/- The seat's own program: its functions by the abstract machine. -/
import Derived.Test.YtamaapapaiopiaaBRow
import Derived.Test.YtamaapapaiopiaaProg
import Derived.KernelRfl
set_option linter.unusedVariables false
set_option linter.unusedSimpArgs false
set_option linter.unusedSectionVars false
namespace Go.Proofs.Ytamaapapaiopiaa.Ab
open Go

def hintL (f : Nat) : List (Nat × Tn) → Tn
  | [] => []
  | (g, t) :: l => cond (Nat.beq f g) t (hintL f l)

end Go.Proofs.Ytamaapapaiopiaa.Ab
