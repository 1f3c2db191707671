/- Arrays of bytes, compared. -/
import Derived.Test.YtodedkebnmfodaaFxOrder
set_option linter.unusedVariables false
set_option linter.unusedSimpArgs false
set_option linter.unusedSectionVars false
namespace Go.Proofs.Ytodedkebnmfodaa.Ab
open Go

theorem pr_bind {P : Program} {α β : Type} (m : Sem α) (f : α → Sem β) : pureRun P (m >>= f) = (pureRun P m).bind fun a => pureRun P (f a) := by
  show pureRun P (Sem.bind m f) = _
  induction m with
  | pure a => rfl
  | program k ih => simp only [Sem.bind, pureRun]; exact ih P
  | _ => rfl
theorem pr_pure {P : Program} {α : Type} (a : α) : pureRun P (Pure.pure a : Sem α) = some a := rfl
theorem pr_program {P : Program} : pureRun P (program : Sem Program) = some P := rfl
theorem pr_int {P : Program} {d : Nat} {t : TypeId} {k0 k : IntKind} {a b : Int} (h : P.underlying t = some (.int k0)) : pureRun P (Op.equalIn (d + 1) t (.int k a) (.int k b)) = some (a == b) := by
  have hu : pureRun P (underlying t) = some (.int k0) := by
    unfold underlying
    rw [pr_bind, pr_program]
    simp only [Option.bind_some, h]
    rfl
  unfold Op.equalIn
  rw [pr_bind, hu]
  simp only [Option.bind_some, if_true, pr_pure]
theorem same_fix (o1 o2 : Operand) (a b c d e f g h : Int) : abin Try.prog .eql 43 o1 o2 (.agg #[.int .u8 a, .int .u8 b, .int .u8 c, .int .u8 d]) (.agg #[.int .u8 e, .int .u8 f, .int .u8 g, .int .u8 h]) = some (.bool (a == e && (b == f && (c == g && (d == h && true))))) := by
  have hu : pureRun Try.prog (underlying 43) = some (.array 4 5) := by kernel_rfl
  have hs : pureRun Try.prog (sizeOf 5) = some 1 := by kernel_rfl
  have hg : pureRun Try.prog (eqGuard .eql 43 o1 o2 (.agg #[.int .u8 a, .int .u8 b, .int .u8 c, .int .u8 d]) (.agg #[.int .u8 e, .int .u8 f, .int .u8 g, .int .u8 h])) = some () := by kernel_rfl
  have hp : ∀ (x0 x1 x2 x3 : Int), pureRun Try.prog (part 5 #[.int .u8 x0, .int .u8 x1, .int .u8 x2, .int .u8 x3] 0) = some (.int .u8 x0) ∧ pureRun Try.prog (part 5 #[.int .u8 x0, .int .u8 x1, .int .u8 x2, .int .u8 x3] 1) = some (.int .u8 x1) ∧ pureRun Try.prog (part 5 #[.int .u8 x0, .int .u8 x1, .int .u8 x2, .int .u8 x3] 2) = some (.int .u8 x2) ∧ pureRun Try.prog (part 5 #[.int .u8 x0, .int .u8 x1, .int .u8 x2, .int .u8 x3] 3) = some (.int .u8 x3) := fun x0 x1 x2 x3 => by
    refine ⟨?_, ?_, ?_, ?_⟩ <;> kernel_rfl
  have he : ∀ (n : Nat) (x y : Int), pureRun Try.prog (Op.equalIn (n + 1) 5 (.int .u8 x) (.int .u8 y)) = some (x == y) := fun n x y => pr_int Try.underlying5
  unfold abin aggBin
  simp only
  have hc : (constOk (.agg #[.int .u8 a, .int .u8 b, .int .u8 c, .int .u8 d]) && constOk (.agg #[.int .u8 e, .int .u8 f, .int .u8 g, .int .u8 h])) = true := rfl
  rw [if_pos hc, pr_bind, hg]
  simp only [Option.bind_some, binOp]
  rw [pr_bind]
  have key : pureRun Try.prog (Op.equal 43 (.agg #[.int .u8 a, .int .u8 b, .int .u8 c, .int .u8 d]) (.agg #[.int .u8 e, .int .u8 f, .int .u8 g, .int .u8 h])) = some (a == e && (b == f && (c == g && (d == h && true)))) := by
    unfold Op.equal Op.maxDepth Op.equalIn
    rw [pr_bind, hu]
    simp only [Option.bind_some]
    rw [pr_bind, hs]
    simp only [Option.bind_some, pr_bind, Std.Legacy.Range.forIn_eq_forIn_range', Std.Legacy.Range.size, Nat.sub_zero, Nat.add_sub_cancel, Nat.div_one, List.range', List.forIn_cons, List.forIn_nil]
    cases h1 : (a == e)
    · simp only [Option.bind_some, pr_bind, pr_pure, Nat.reduceAdd, Nat.reduceMul, Nat.zero_add, Nat.zero_mul, (hp _ _ _ _).1, (hp _ _ _ _).2.1, (hp _ _ _ _).2.2.1, (hp _ _ _ _).2.2.2, he, h1, Bool.not_true, Bool.not_false, Bool.false_eq_true, if_true, if_false, Bool.true_and, Bool.false_and, Bool.and_true]
    cases h2 : (b == f)
    · simp only [Option.bind_some, pr_bind, pr_pure, Nat.reduceAdd, Nat.reduceMul, Nat.zero_add, Nat.zero_mul, (hp _ _ _ _).1, (hp _ _ _ _).2.1, (hp _ _ _ _).2.2.1, (hp _ _ _ _).2.2.2, he, h1, h2, Bool.not_true, Bool.not_false, Bool.false_eq_true, if_true, if_false, Bool.true_and, Bool.false_and, Bool.and_true]
    cases h3 : (c == g)
    · simp only [Option.bind_some, pr_bind, pr_pure, Nat.reduceAdd, Nat.reduceMul, Nat.zero_add, Nat.zero_mul, (hp _ _ _ _).1, (hp _ _ _ _).2.1, (hp _ _ _ _).2.2.1, (hp _ _ _ _).2.2.2, he, h1, h2, h3, Bool.not_true, Bool.not_false, Bool.false_eq_true, if_true, if_false, Bool.true_and, Bool.false_and, Bool.and_true]
    cases h4 : (d == h)
    · simp only [Option.bind_some, pr_bind, pr_pure, Nat.reduceAdd, Nat.reduceMul, Nat.zero_add, Nat.zero_mul, (hp _ _ _ _).1, (hp _ _ _ _).2.1, (hp _ _ _ _).2.2.1, (hp _ _ _ _).2.2.2, he, h1, h2, h3, h4, Bool.not_true, Bool.not_false, Bool.false_eq_true, if_true, if_false, Bool.true_and, Bool.false_and, Bool.and_true]
    · simp only [Option.bind_some, pr_bind, pr_pure, Nat.reduceAdd, Nat.reduceMul, Nat.zero_add, Nat.zero_mul, (hp _ _ _ _).1, (hp _ _ _ _).2.1, (hp _ _ _ _).2.2.1, (hp _ _ _ _).2.2.2, he, h1, h2, h3, h4, Bool.not_true, Bool.not_false, Bool.false_eq_true, if_true, if_false, Bool.true_and, Bool.false_and, Bool.and_true]
  rw [key]
  rfl

end Go.Proofs.Ytodedkebnmfodaa.Ab
