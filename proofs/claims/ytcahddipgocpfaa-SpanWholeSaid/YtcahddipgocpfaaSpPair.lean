/- Pairs of strings: as values, and compared. -/
import Derived.Test.YtcahddipgocpfaaLib0
import Derived.Test.YtcahddipgocpfaaBOrd
set_option linter.unusedVariables false
set_option linter.unusedSimpArgs false
set_option linter.unusedSectionVars false
namespace Go.Proofs.Ytcahddipgocpfaa.Ab
open Go

theorem pr_bind {P : Program} {α β : Type} (m : Sem α) (f : α → Sem β) : pureRun P (m >>= f) = (pureRun P m).bind fun a => pureRun P (f a) := by
  show pureRun P (Sem.bind m f) = _
  induction m with
  | pure a => rfl
  | program k ih => simp only [Sem.bind, pureRun]; exact ih P
  | _ => rfl
theorem pr_pure {P : Program} {α : Type} (a : α) : pureRun P (Pure.pure a : Sem α) = some a := rfl
theorem pr_program {P : Program} : pureRun P (program : Sem Program) = some P := rfl
theorem pr_und {P : Program} {t : TypeId} {d : TypeDesc} (h : P.underlying t = some d) : pureRun P (underlying t) = some d := by
  unfold underlying
  rw [pr_bind, pr_program]
  simp only [Option.bind_some, h]
  rfl
theorem pr_str {P : Program} {d : Nat} {t : TypeId} {a b : ByteArray} (h : P.underlying t = some .string) : pureRun P (Op.equalIn (d + 1) t (.string a) (.string b)) = some (a == b) := by
  unfold Op.equalIn
  rw [pr_bind, pr_und h]
  simp only [Option.bind_some, pr_pure]

abbrev BL := List UInt8
abbrev Rg := BL × BL
def rv (r : Rg) : Value := .agg #[sv r.1, sv r.2]
def asBl : Value → Option BL
  | .string a => some a.data.toList
  | _ => none
def asRg : Value → Option Rg
  | .agg cs => match cs.toList with
    | [.string a, .string b] => some (a.data.toList, b.data.toList)
    | _ => none
  | _ => none
theorem asBl_sv {l : BL} : asBl (sv l) = some l := rfl
theorem asRg_rv {r : Rg} : asRg (rv r) = some r := rfl
theorem asBl_some {v : Value} {l : BL} (h : asBl v = some l) : v = sv l := by
  unfold asBl at h
  split at h
  · cases h; exact sv_of _
  · cases h
theorem asRg_some {v : Value} {r : Rg} (h : asRg v = some r) : v = rv r := by
  unfold asRg at h
  split at h
  · rename_i cs
    split at h
    · rename_i a b e
      cases h
      obtain ⟨l⟩ := cs
      simp only at e
      subst e
      unfold rv
      rw [← sv_of, ← sv_of]
    · cases h
  · cases h

theorem bytes_beq {a b : BL} : ((⟨a.toArray⟩ : ByteArray) == ⟨b.toArray⟩) = (a == b) := by
  show (a.toArray == b.toArray) = (a == b)
  simp

theorem rv_eql (o1 o2 : Operand) (a b : Rg) : abin Try.prog .eql 23 o1 o2 (rv a) (rv b) = some (.bool (a.1 == b.1 && a.2 == b.2)) := by
  have hu := pr_und Try.underlying23
  have hg : pureRun Try.prog (eqGuard .eql 23 o1 o2 (.agg #[sv a.1, sv a.2]) (.agg #[sv b.1, sv b.2])) = some () := by kernel_rfl
  have hh : Try.prog.stoodInHeld 23 = false := by kernel_rfl
  have hp : ∀ x y : BL, pureRun Try.prog (part 9 #[sv x, sv y] 0) = some (sv x) ∧ pureRun Try.prog (part 9 #[sv x, sv y] 1) = some (sv y) := fun x y => by
    refine ⟨?_, ?_⟩ <;> kernel_rfl
  have he : ∀ (n : Nat) (x y : BL), pureRun Try.prog (Op.equalIn (n + 1) 9 (sv x) (sv y)) = some (x == y) := fun n x y => by
    unfold sv
    rw [pr_str Try.underlying9, bytes_beq]
  unfold abin aggBin rv
  simp only
  have hc : (constOk (.agg #[sv a.1, sv a.2]) && constOk (.agg #[sv b.1, sv b.2])) = true := rfl
  rw [if_pos hc, pr_bind, hg]
  simp only [Option.bind_some, binOp]
  rw [pr_bind]
  have key : pureRun Try.prog (Op.equal 23 (.agg #[sv a.1, sv a.2]) (.agg #[sv b.1, sv b.2])) = some (a.1 == b.1 && a.2 == b.2) := by
    unfold Op.equal Op.maxDepth Op.equalIn
    rw [pr_bind, hu]
    simp only [Option.bind_some]
    rw [pr_bind, pr_program]
    simp only [Option.bind_some, hh, Bool.false_eq_true, if_false, pr_bind]
    have hLo : ("Lo" ≠ "_") = True := by simp
    have hHi : ("Hi" ≠ "_") = True := by simp
    simp only [List.forIn_toArray, List.forIn_cons, List.forIn_nil]
    cases h1 : (a.1 == b.1)
    · simp only [Option.bind_some, pr_bind, pr_pure, Nat.reduceAdd, hLo, hHi, if_true, (hp _ _).1, (hp _ _).2, he, Bool.not_true, Bool.not_false, Bool.false_eq_true, if_false, Bool.true_and, Bool.false_and, Bool.and_true, h1]
    cases h2 : (a.2 == b.2)
    · simp only [Option.bind_some, pr_bind, pr_pure, Nat.reduceAdd, hLo, hHi, if_true, (hp _ _).1, (hp _ _).2, he, Bool.not_true, Bool.not_false, Bool.false_eq_true, if_false, Bool.true_and, Bool.false_and, Bool.and_true, h1, h2]
    · simp only [Option.bind_some, pr_bind, pr_pure, Nat.reduceAdd, hLo, hHi, if_true, (hp _ _).1, (hp _ _).2, he, Bool.not_true, Bool.not_false, Bool.false_eq_true, if_false, Bool.true_and, Bool.false_and, Bool.and_true, h1, h2]
  rw [key]
  rfl

end Go.Proofs.Ytcahddipgocpfaa.Ab
