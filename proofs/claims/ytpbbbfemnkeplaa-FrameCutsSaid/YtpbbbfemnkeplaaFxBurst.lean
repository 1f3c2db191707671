/- The sum's algebra: what turns it. -/
import Derived.Test.YtpbbbfemnkeplaaFxCrc
set_option linter.unusedVariables false
set_option linter.unusedSimpArgs false
set_option linter.unusedSectionVars false
namespace Go.Proofs.Ytpbbbfemnkeplaa.Ab
open Go

/-- the bytes as one number -/
def leX : List UInt8 → Nat
  | [] => 0
  | c :: l => c.toNat ^^^ 2 ^ 8 * leX l
theorem stpN_add : ∀ (j k r : Nat), stpN (j + k) r = stpN k (stpN j r)
  | 0, k, r => by rw [Nat.zero_add]; rfl
  | j + 1, k, r => by rw [show j + 1 + k = (j + k) + 1 by omega]; exact stpN_add j k (stp r)
theorem sumR_le : ∀ (l : List UInt8) (r : Nat), sumR r l = stpN (8 * l.length) (r ^^^ leX l)
  | [], r => by simp [sumR, leX, stpN]
  | c :: l, r => by
    rw [sumR, sumR_le l, leX, List.length_cons, show 8 * (l.length + 1) = 8 + 8 * l.length by omega, stpN_add, ← Nat.xor_assoc, stpN_xor 8 (r ^^^ c.toNat), stpN_high]
theorem stp_zero {r : Nat} (h : r < 4294967296) (e : stp r = 0) : r = 0 := by
  unfold stp at e
  have h2 := congrArg (· ^^^ (if r % 2 = 1 then 3988292384 else 0)) e
  simp only [Nat.xor_assoc, Nat.xor_self, Nat.xor_zero, Nat.zero_xor] at h2
  split at h2
  · omega
  · omega
theorem stpN_zero : ∀ (k : Nat) {r : Nat}, r < 4294967296 → stpN k r = 0 → r = 0
  | 0, _, _, e => e
  | k + 1, r, h, e => stp_zero h (stpN_zero k (stp_lt h) e)
theorem stpN_nil (k : Nat) : stpN k 0 = 0 := by
  induction k with
  | zero => rfl
  | succ k ih => rw [stpN, show stp 0 = 0 from rfl, ih]
/-- of bytes that differ within a window of 32 bits -/
theorem sum_window {l m : List UInt8} {at_ w : Nat} (hl : m.length = l.length) (hw : w < 4294967296) (hat : at_ ≤ 8 * l.length) (h : leX m = leX l ^^^ 2 ^ at_ * w) : (sumV l = sumV m) ↔ w = 0 := by
  have key : ∀ r, sumR r m = sumR r l ^^^ stpN (8 * l.length - at_) w := fun r => by
    rw [sumR_le, sumR_le, h, hl, ← Nat.xor_assoc, stpN_xor]
    congr 1
    conv => lhs; rw [show 8 * l.length = at_ + (8 * l.length - at_) by omega]
    rw [stpN_add, stpN_high]
  have hk : sumV m = sumV l ^^^ stpN (8 * l.length - at_) w := by
    unfold sumV
    rw [sumT_eq, sumT_eq, key, Nat.xor_assoc, Nat.xor_assoc, Nat.xor_comm (stpN _ _)]
  constructor
  · intro e
    rw [hk] at e
    have : stpN (8 * l.length - at_) w = 0 := by
      have h2 := congrArg (sumV l ^^^ ·) e
      simp only [Nat.xor_self, ← Nat.xor_assoc, Nat.zero_xor] at h2
      exact h2.symm
    exact stpN_zero _ hw this
  · rintro rfl
    rw [hk, stpN_nil, Nat.xor_zero]
theorem pow_xor (n a b : Nat) : 2 ^ n * (a ^^^ b) = 2 ^ n * a ^^^ 2 ^ n * b := by
  apply Nat.eq_of_testBit_eq
  intro i
  rw [Nat.testBit_xor, Nat.testBit_two_pow_mul, Nat.testBit_two_pow_mul, Nat.testBit_two_pow_mul, Nat.testBit_xor]
  by_cases h : n ≤ i <;> simp [h]
/-- one byte turned -/
theorem leX_set : ∀ (l : List UInt8) (i : Nat) (x : UInt8) (h : i < l.length), leX (l.set i (l[i] ^^^ x)) = leX l ^^^ 2 ^ (8 * i) * x.toNat
  | [], i, x, h => by simp at h
  | c :: l, 0, x, h => by
    simp only [List.set_cons_zero, List.getElem_cons_zero, leX, UInt8.toNat_xor, Nat.mul_zero, Nat.pow_zero, Nat.one_mul]
    rw [Nat.xor_assoc, Nat.xor_assoc, Nat.xor_comm x.toNat]
  | c :: l, i + 1, x, h => by
    simp only [List.length_cons] at h
    simp only [List.set_cons_succ, List.getElem_cons_succ, leX]
    rw [leX_set l i x (by omega), pow_xor, ← Nat.xor_assoc, show 8 * (i + 1) = 8 + 8 * i by omega, Nat.pow_add, Nat.mul_assoc]
end Go.Proofs.Ytpbbbfemnkeplaa.Ab
