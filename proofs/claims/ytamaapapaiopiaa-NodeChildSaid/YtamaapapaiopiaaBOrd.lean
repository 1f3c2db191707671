/- Strings, in their order. -/
import Derived.Test.YtamaapapaiopiaaBLaw
set_option linter.unusedVariables false
set_option linter.unusedSimpArgs false
set_option linter.unusedSectionVars false
namespace Go.Proofs.Ytamaapapaiopiaa.Ab
open Go

/-- below, as the machine has it -/
abbrev bl (a b : List UInt8) : Bool := Op.bytesLess a b
theorem bl_nil_r (a : List UInt8) : bl a [] = false := by cases a <;> rfl
theorem bl_nil_l {b : List UInt8} (h : b ≠ []) : bl [] b = true := by
  cases b with
  | nil => exact absurd rfl h
  | cons => rfl
theorem bl_cons {x y : UInt8} {a b : List UInt8} : bl (x :: a) (y :: b) = true ↔ x.toNat < y.toNat ∨ (x = y ∧ bl a b = true) := by
  show (decide (x < y) || (x == y && Op.bytesLess a b)) = true ↔ _
  simp only [Bool.or_eq_true, decide_eq_true_eq, Bool.and_eq_true, beq_iff_eq, UInt8.lt_iff_toNat_lt]
theorem bl_irrefl : ∀ (a : List UInt8), bl a a = false
  | [] => rfl
  | x :: a => by
    have ih := bl_irrefl a
    cases h : bl (x :: a) (x :: a) with
    | false => rfl
    | true =>
      rcases bl_cons.1 h with h | ⟨_, h⟩
      · omega
      · rw [ih] at h; cases h
theorem bl_trans : ∀ {a b c : List UInt8}, bl a b = true → bl b c = true → bl a c = true
  | _, [], _, h, _ => by rw [bl_nil_r] at h; cases h
  | _, _ :: _, [], _, h => by rw [bl_nil_r] at h; cases h
  | [], _ :: _, _ :: _, _, _ => rfl
  | x :: a, y :: b, z :: c, h, g => by
    rw [bl_cons] at h g ⊢
    rcases h with h | ⟨rfl, h⟩
    · rcases g with g | ⟨rfl, g⟩
      · left; omega
      · left; exact h
    · rcases g with g | ⟨rfl, g⟩
      · left; exact g
      · right; exact ⟨rfl, bl_trans h g⟩
theorem bl_total : ∀ {a b : List UInt8}, a ≠ b → bl a b = true ∨ bl b a = true
  | [], [], h => absurd rfl h
  | [], _ :: _, _ => .inl rfl
  | _ :: _, [], _ => .inr rfl
  | x :: a, y :: b, h => by
    rw [bl_cons, bl_cons]
    rcases Nat.lt_trichotomy x.toNat y.toNat with g | g | g
    · left; left; exact g
    · have e : x = y := UInt8.toNat_inj.1 g
      subst e
      have hab : a ≠ b := fun e => h (by rw [e])
      rcases bl_total hab with g | g
      · left; right; exact ⟨rfl, g⟩
      · right; right; exact ⟨rfl, g⟩
    · right; left; exact g
theorem bl_asymm {a b : List UInt8} (h : bl a b = true) : bl b a = false := by
  cases g : bl b a with
  | false => rfl
  | true => have := bl_trans h g; rw [bl_irrefl] at this; cases this
theorem bl_ne {a b : List UInt8} (h : bl a b = true) : a ≠ b := fun e => by rw [e, bl_irrefl] at h; cases h
/-- nothing stands between a text and the same with a byte 0 behind it -/
theorem bl_zero : ∀ {a b : List UInt8}, bl b (a ++ [0]) = (bl b a || b == a)
  | [], [] => rfl
  | [], y :: b => by
    cases h : bl (y :: b) ([] ++ [0]) with
    | false =>
      simp [bl_nil_r]
    | true =>
      rcases bl_cons.1 h with g | ⟨_, g⟩
      · have : (0 : UInt8).toNat = 0 := rfl
        omega
      · rw [bl_nil_r] at g; cases g
  | x :: a, [] => rfl
  | x :: a, y :: b => by
    have ih := bl_zero (a := a) (b := b)
    show (decide (y < x) || (y == x && Op.bytesLess b (a ++ [0]))) = ((decide (y < x) || (y == x && Op.bytesLess b a)) || (y :: b == x :: a))
    have e : (y :: b == x :: a) = (y == x && b == a) := rfl
    have ih' : Op.bytesLess b (a ++ [0]) = (Op.bytesLess b a || b == a) := ih
    rw [ih', e]
    cases decide (y < x) <;> cases (y == x) <;> simp

end Go.Proofs.Ytamaapapaiopiaa.Ab
