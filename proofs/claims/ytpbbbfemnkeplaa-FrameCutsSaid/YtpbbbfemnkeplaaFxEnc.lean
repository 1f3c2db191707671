/- Numbers' bytes: how long, what is read behind them, and back. -/
import Derived.Test.YtpbbbfemnkeplaaFxRead
import Derived.Test.YtpbbbfemnkeplaaFxSum
set_option linter.unusedVariables false
set_option linter.unusedSimpArgs false
set_option linter.unusedSectionVars false
namespace Go.Proofs.Ytpbbbfemnkeplaa.Ab
open Go

theorem encF_mono : ∀ (k a b : Nat), a ≤ b → (encF k a).length ≤ (encF k b).length
  | 0, _, _, _ => by simp [encF]
  | k + 1, a, b, h => by
    simp only [encF]
    by_cases hb : b < 128
    · rw [if_pos hb, if_pos (by omega)]
      simp
    · rw [if_neg hb]
      by_cases ha : a < 128
      · rw [if_pos ha]; simp
      · rw [if_neg ha]
        simp only [List.length_cons]
        have := encF_mono k (a / 128) (b / 128) (Nat.div_le_div_right h)
        omega
theorem enc_mono {a b : Nat} (h : a ≤ b) : (enc a).length ≤ (enc b).length := encF_mono 10 a b h
theorem hn_enc {n : Nat} (h : n < 18446744073709551616) : hn (enc n) = n := hn_encF 10 n (Nat.lt_of_lt_of_le h (by decide))
theorem enc_inj {a b : Nat} (ha : a < 18446744073709551616) (hb : b < 18446744073709551616) (h : enc a = enc b) : a = b := by
  rw [← hn_enc ha, ← hn_enc hb, h]
theorem enc_pos {n : Nat} : 0 < (enc n).length := List.length_pos_iff.2 enc_ne
theorem readNum_enc {n : Nat} (h : n < 18446744073709551616) (rest : List UInt8) : readNum (enc n ++ rest) = (n, (enc n).length, 0) := by
  obtain ⟨pre, c, he, h1, h2, h3⟩ := enc_canon h
  have hl := @enc_len n
  have hh := hn_enc h
  rw [he] at hl hh
  simp only [List.length_append, List.length_cons, List.length_nil] at hl
  unfold readNum
  rw [he, List.append_assoc, List.singleton_append, rdN_low pre c rest 0 0 h1 h2 (by omega)]
  have hc : ¬ (0 + pre.length = 9 ∧ 1 < c.toNat) := by
    rintro ⟨hp, hc⟩
    have : hn (pre ++ [c]) = hn pre + 128 ^ pre.length * hn [c] := hn_append pre [c]
    rw [hh] at this
    have e9 : pre.length = 9 := by omega
    rw [e9] at this
    have e1 : hn [c] = c.toNat := by simp only [hn]; omega
    rw [e1] at this
    have : (128 : Nat) ^ 9 * 2 ≤ 128 ^ 9 * c.toNat := Nat.mul_le_mul_left _ hc
    have e2 : (128 : Nat) ^ 9 * 2 = 18446744073709551616 := by decide
    omega
  rw [if_neg hc, if_neg (by rintro ⟨hz, hp⟩; have := h3 hz; rw [this] at hp; simp at hp)]
  simp only [Option.getD_some, Nat.mul_zero, Nat.pow_zero, Nat.one_mul, Nat.zero_add, List.length_append, List.length_cons, List.length_nil, hh]
theorem readNum_cut {n : Nat} (h : n < 18446744073709551616) : readNum ((enc n).take ((enc n).length - 1)) = (0, 0, 10) := by
  obtain ⟨pre, c, he, h1, h2, h3⟩ := enc_canon h
  have hl := @enc_len n
  rw [he] at hl ⊢
  simp only [List.length_append, List.length_cons, List.length_nil, Nat.zero_add, Nat.add_sub_cancel] at hl ⊢
  rw [List.take_left]
  unfold readNum
  rw [rdN_high pre 0 0 (by omega) (fun x hx => h1 x (List.mem_of_mem_take hx)), if_pos (by omega)]
  rfl
/-- what was read, written again -/
theorem enc_readNum {l : List UInt8} (h : (readNum l).2.2 = 0) : enc (readNum l).1 = l.take (readNum l).2.1 := by
  rw [← refRead_eq] at h ⊢
  unfold refRead at h ⊢
  cases hf : findLow 10 l with
  | none =>
    rw [hf] at h
    simp only at h
    split at h <;> cases h
  | some d =>
    rw [hf] at h
    simp only at h ⊢
    split at h
    · rename_i he
      rw [if_pos he]
      exact he
    · cases h

theorem readFix_cut {l : List UInt8} (h : l.length = 3) : readFix l = (0, 10) := by
  unfold readFix
  rw [if_pos (by omega)]
end Go.Proofs.Ytpbbbfemnkeplaa.Ab
