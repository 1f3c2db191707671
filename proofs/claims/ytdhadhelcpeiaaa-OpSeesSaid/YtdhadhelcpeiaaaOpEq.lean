/- Pairs, locks: whether two are the same. -/
import Derived.Test.YtdhadhelcpeiaaaOpLocks
set_option linter.unusedVariables false
set_option linter.unusedSimpArgs false
set_option linter.unusedSectionVars false
namespace Go.Proofs.Ytdhadhelcpeiaaa.Ab
open Go

theorem eq_bool (o1 o2 : Operand) (a b : Bool) : abin Try.prog .eql 4 o1 o2 (.bool a) (.bool b) = some (.bool (a == b)) := by
  unfold abin
  rw [Try.underlying4]
  rfl
theorem ne_bool (o1 o2 : Operand) (a b : Bool) : abin Try.prog .neq 4 o1 o2 (.bool a) (.bool b) = some (.bool (a != b)) := by
  unfold abin
  rw [Try.underlying4]
  rfl
theorem pr_eql (o1 o2 : Operand) (a b : Rg) : abin Try.prog .eql 32 o1 o2 (rv a) (rv b) = some (.bool (a.1 == b.1 && a.2 == b.2)) := by
  have hu := pr_und Try.underlying32
  have hg : pureRun Try.prog (eqGuard .eql 32 o1 o2 (.agg #[sv a.1, sv a.2]) (.agg #[sv b.1, sv b.2])) = some () := by kernel_rfl
  have hh : Try.prog.stoodInHeld 32 = false := by kernel_rfl
  have hp : ∀ x y : BL, pureRun Try.prog (part 9 #[sv x, sv y] 0) = some (sv x) ∧ pureRun Try.prog (part 9 #[sv x, sv y] 1) = some (sv y) := fun x y => by
    refine ⟨?_, ?_⟩ <;> kernel_rfl
  have he : ∀ (n : Nat) (x y : BL), pureRun Try.prog (Op.equalIn (n + 1) 9 (sv x) (sv y)) = some (x == y) := fun n x y => by
    unfold sv
    rw [pr_str Try.underlying9, bytes_beq]
  unfold abin aggBin rv
  simp only
  have hc : (constOk (.agg #[sv a.1, sv a.2]) && constOk (.agg #[sv b.1, sv b.2])) = true := rfl
  rw [if_pos hc, pr_bind, hg]
  simp only [Option.bind_some, binOp]
  rw [pr_bind]
  have key : pureRun Try.prog (Op.equal 32 (.agg #[sv a.1, sv a.2]) (.agg #[sv b.1, sv b.2])) = some (a.1 == b.1 && a.2 == b.2) := by
    unfold Op.equal Op.maxDepth Op.equalIn
    rw [pr_bind, hu]
    simp only [Option.bind_some]
    rw [pr_bind, pr_program]
    simp only [Option.bind_some, hh, Bool.false_eq_true, if_false, pr_bind]
    have hKey : ("Key" ≠ "_") = True := by simp
    have hValue : ("Value" ≠ "_") = True := by simp
    simp only [List.forIn_toArray, List.forIn_cons, List.forIn_nil]
    cases h1 : (a.1 == b.1)
    · simp only [Option.bind_some, pr_bind, pr_pure, Nat.reduceAdd, hKey, hValue, if_true, (hp _ _).1, (hp _ _).2, he, Bool.not_true, Bool.not_false, Bool.false_eq_true, if_false, Bool.true_and, Bool.false_and, Bool.and_true, h1]
    cases h2 : (a.2 == b.2)
    · simp only [Option.bind_some, pr_bind, pr_pure, Nat.reduceAdd, hKey, hValue, if_true, (hp _ _).1, (hp _ _).2, he, Bool.not_true, Bool.not_false, Bool.false_eq_true, if_false, Bool.true_and, Bool.false_and, Bool.and_true, h1, h2]
    · simp only [Option.bind_some, pr_bind, pr_pure, Nat.reduceAdd, hKey, hValue, if_true, (hp _ _).1, (hp _ _).2, he, Bool.not_true, Bool.not_false, Bool.false_eq_true, if_false, Bool.true_and, Bool.false_and, Bool.and_true, h1, h2]
  rw [key]
  rfl

theorem pr_neq (o1 o2 : Operand) (a b : Rg) : abin Try.prog .neq 32 o1 o2 (rv a) (rv b) = some (.bool (!(a.1 == b.1 && a.2 == b.2))) := by
  have hu := pr_und Try.underlying32
  have hg : pureRun Try.prog (eqGuard .neq 32 o1 o2 (.agg #[sv a.1, sv a.2]) (.agg #[sv b.1, sv b.2])) = some () := by kernel_rfl
  have h0 := pr_eql o1 o2 a b
  have hg0 : pureRun Try.prog (eqGuard .eql 32 o1 o2 (.agg #[sv a.1, sv a.2]) (.agg #[sv b.1, sv b.2])) = some () := by kernel_rfl
  unfold abin aggBin rv at h0 ⊢
  simp only at h0 ⊢
  have hc : (constOk (.agg #[sv a.1, sv a.2]) && constOk (.agg #[sv b.1, sv b.2])) = true := rfl
  rw [if_pos hc, pr_bind, hg0] at h0
  rw [if_pos hc, pr_bind, hg]
  simp only [Option.bind_some, binOp, pr_bind, pr_pure] at h0 ⊢
  cases e : pureRun Try.prog (Op.equal 32 (.agg #[sv a.1, sv a.2]) (.agg #[sv b.1, sv b.2])) with
  | none => rw [e] at h0; cases h0
  | some r =>
    rw [e] at h0
    simp only [Option.bind_some] at h0 ⊢
    cases h0
    rfl

theorem bln_eqIn (n : Nat) (x y : Bool) : pureRun Try.prog (Op.equalIn (n + 1) 4 (.bool x) (.bool y)) = some (x == y) := by
  unfold Op.equalIn
  rw [pr_bind, pr_und Try.underlying4]
  rfl
theorem str_eqIn (n : Nat) (x y : BL) : pureRun Try.prog (Op.equalIn (n + 1) 9 (sv x) (sv y)) = some (x == y) := by
  unfold sv
  rw [pr_str Try.underlying9, bytes_beq]
theorem rg_eqIn (n : Nat) (a b : Rg) : pureRun Try.prog (Op.equalIn (n + 2) 43 (.agg #[sv a.1, sv a.2]) (.agg #[sv b.1, sv b.2])) = some (a.1 == b.1 && a.2 == b.2) := by
  have hu := pr_und Try.underlying43
  have hh : Try.prog.stoodInHeld 43 = false := by kernel_rfl
  have hp : ∀ x y : BL, pureRun Try.prog (part 9 #[sv x, sv y] 0) = some (sv x) ∧ pureRun Try.prog (part 9 #[sv x, sv y] 1) = some (sv y) := fun x y => by
    refine ⟨?_, ?_⟩ <;> kernel_rfl
  unfold Op.equalIn
  rw [pr_bind, hu]
  simp only [Option.bind_some]
  rw [pr_bind, pr_program]
  simp only [Option.bind_some, hh, Bool.false_eq_true, if_false, pr_bind]
  have hLo : ("Lo" ≠ "_") = True := by simp
  have hHi : ("Hi" ≠ "_") = True := by simp
  simp only [List.forIn_toArray, List.forIn_cons, List.forIn_nil]
  cases h1 : (a.1 == b.1)
  · simp only [Option.bind_some, pr_bind, pr_pure, Nat.reduceAdd, hLo, hHi, if_true, (hp _ _).1, (hp _ _).2, str_eqIn, Bool.not_true, Bool.not_false, Bool.false_eq_true, if_false, Bool.true_and, Bool.false_and, Bool.and_true, h1]
  cases h2 : (a.2 == b.2)
  · simp only [Option.bind_some, pr_bind, pr_pure, Nat.reduceAdd, hLo, hHi, if_true, (hp _ _).1, (hp _ _).2, str_eqIn, Bool.not_true, Bool.not_false, Bool.false_eq_true, if_false, Bool.true_and, Bool.false_and, Bool.and_true, h1, h2]
  · simp only [Option.bind_some, pr_bind, pr_pure, Nat.reduceAdd, hLo, hHi, if_true, (hp _ _).1, (hp _ _).2, str_eqIn, Bool.not_true, Bool.not_false, Bool.false_eq_true, if_false, Bool.true_and, Bool.false_and, Bool.and_true, h1, h2]
theorem lk_eql (o1 o2 : Operand) (a b : Lk) : abin Try.prog .eql 57 o1 o2 (lkV a) (lkV b) = some (.bool (a.1.1 == b.1.1 && a.1.2 == b.1.2 && a.2 == b.2)) := by
  have hu := pr_und Try.underlying57
  have hg : pureRun Try.prog (eqGuard .eql 57 o1 o2 (.agg #[sv a.1.1, sv a.1.2, .bool a.2]) (.agg #[sv b.1.1, sv b.1.2, .bool b.2])) = some () := by kernel_rfl
  have hh : Try.prog.stoodInHeld 57 = false := by kernel_rfl
  have hp : ∀ (x y : BL) (w : Bool), pureRun Try.prog (part 43 #[sv x, sv y, .bool w] 0) = some (.agg #[sv x, sv y]) ∧ pureRun Try.prog (part 4 #[sv x, sv y, .bool w] 2) = some (.bool w) := fun x y w => by
    refine ⟨?_, ?_⟩ <;> kernel_rfl
  unfold abin aggBin lkV
  simp only
  have hc : (constOk (.agg #[sv a.1.1, sv a.1.2, .bool a.2]) && constOk (.agg #[sv b.1.1, sv b.1.2, .bool b.2])) = true := rfl
  rw [if_pos hc, pr_bind, hg]
  simp only [Option.bind_some, binOp]
  rw [pr_bind]
  have key : pureRun Try.prog (Op.equal 57 (.agg #[sv a.1.1, sv a.1.2, .bool a.2]) (.agg #[sv b.1.1, sv b.1.2, .bool b.2])) = some (a.1.1 == b.1.1 && a.1.2 == b.1.2 && a.2 == b.2) := by
    unfold Op.equal Op.maxDepth Op.equalIn
    rw [pr_bind, hu]
    simp only [Option.bind_some]
    rw [pr_bind, pr_program]
    simp only [Option.bind_some, hh, Bool.false_eq_true, if_false, pr_bind]
    have hLo : ("Range" ≠ "_") = True := by simp
    have hHi : ("Write" ≠ "_") = True := by simp
    simp only [List.forIn_toArray, List.forIn_cons, List.forIn_nil]
    cases h1 : (a.1.1 == b.1.1 && a.1.2 == b.1.2)
    · simp only [Option.bind_some, pr_bind, pr_pure, Nat.reduceAdd, hLo, hHi, if_true, (hp _ _ _).1, (hp _ _ _).2, rg_eqIn, bln_eqIn, Bool.not_true, Bool.not_false, Bool.false_eq_true, if_false, Bool.true_and, Bool.false_and, Bool.and_true, h1]
    cases h2 : (a.2 == b.2)
    · simp only [Option.bind_some, pr_bind, pr_pure, Nat.reduceAdd, hLo, hHi, if_true, (hp _ _ _).1, (hp _ _ _).2, rg_eqIn, bln_eqIn, Bool.not_true, Bool.not_false, Bool.false_eq_true, if_false, Bool.true_and, Bool.false_and, Bool.and_true, h1, h2]
    · simp only [Option.bind_some, pr_bind, pr_pure, Nat.reduceAdd, hLo, hHi, if_true, (hp _ _ _).1, (hp _ _ _).2, rg_eqIn, bln_eqIn, Bool.not_true, Bool.not_false, Bool.false_eq_true, if_false, Bool.true_and, Bool.false_and, Bool.and_true, h1, h2]
  rw [key]
  rfl

theorem lk_neq (o1 o2 : Operand) (a b : Lk) : abin Try.prog .neq 57 o1 o2 (lkV a) (lkV b) = some (.bool (!(a.1.1 == b.1.1 && a.1.2 == b.1.2 && a.2 == b.2))) := by
  have hu := pr_und Try.underlying57
  have hg : pureRun Try.prog (eqGuard .neq 57 o1 o2 (.agg #[sv a.1.1, sv a.1.2, .bool a.2]) (.agg #[sv b.1.1, sv b.1.2, .bool b.2])) = some () := by kernel_rfl
  have h0 := lk_eql o1 o2 a b
  have hg0 : pureRun Try.prog (eqGuard .eql 57 o1 o2 (.agg #[sv a.1.1, sv a.1.2, .bool a.2]) (.agg #[sv b.1.1, sv b.1.2, .bool b.2])) = some () := by kernel_rfl
  unfold abin aggBin lkV at h0 ⊢
  simp only at h0 ⊢
  have hc : (constOk (.agg #[sv a.1.1, sv a.1.2, .bool a.2]) && constOk (.agg #[sv b.1.1, sv b.1.2, .bool b.2])) = true := rfl
  rw [if_pos hc, pr_bind, hg0] at h0
  rw [if_pos hc, pr_bind, hg]
  simp only [Option.bind_some, binOp, pr_bind, pr_pure] at h0 ⊢
  cases e : pureRun Try.prog (Op.equal 57 (.agg #[sv a.1.1, sv a.1.2, .bool a.2]) (.agg #[sv b.1.1, sv b.1.2, .bool b.2])) with
  | none => rw [e] at h0; cases h0
  | some r =>
    rw [e] at h0
    simp only [Option.bind_some] at h0 ⊢
    cases h0
    rfl

end Go.Proofs.Ytdhadhelcpeiaaa.Ab
