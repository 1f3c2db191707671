/- The two ways to read a number are one. -/
import Derived.Test.YtpbbbfemnkeplaaFxOct
set_option linter.unusedVariables false
set_option linter.unusedSimpArgs false
set_option linter.unusedSectionVars false
namespace Go.Proofs.Ytpbbbfemnkeplaa.Ab
open Go

/-- the value, whatever the bytes -/
def hn : List UInt8 → Nat
  | [] => 0
  | c :: l => hn l * 128 + c.toNat % 128
theorem horner_hn (l : List UInt8) : horner l 0 = hn l % 18446744073709551616 := by
  induction l with
  | nil => rfl
  | cons c l ih =>
    show (horner l 0 * 128 + c.toNat % 128) % 18446744073709551616 = _
    rw [ih, hn]
    omega
def High (l : List UInt8) : Prop := ∀ c ∈ l, 128 ≤ c.toNat
/-- as numbers are written -/
def Canon (u : List UInt8) : Prop := ∃ pre c, u = pre ++ [c] ∧ High pre ∧ c.toNat < 128 ∧ (c.toNat = 0 → pre = [])

theorem hn_encF : ∀ (k n : Nat), n < 128 ^ k → hn (encF k n) = n
  | 0, n, h => by simp at h; subst h; rfl
  | k + 1, n, h => by
    simp only [encF]
    split
    · simp only [hn, ofNat_toNat (show n < 256 by omega)]; omega
    · rw [Nat.pow_succ] at h
      simp only [hn, ofNat_toNat (show n % 128 + 128 < 256 by omega), hn_encF k (n / 128) (by omega)]
      omega
theorem encF_canon : ∀ (k n : Nat), n < 128 ^ (k + 1) → ∃ pre c, encF (k + 1) n = pre ++ [c] ∧ High pre ∧ c.toNat < 128 ∧ (c.toNat = 0 → n = 0 ∧ pre = [])
  | 0, n, h => by
    have hn : n < 128 := by simpa using h
    refine ⟨[], UInt8.ofNat n, by simp [encF, hn], fun c hc => by simp at hc, by rw [ofNat_toNat (by omega)]; exact hn, fun e => ⟨by rw [ofNat_toNat (by omega)] at e; exact e, rfl⟩⟩
  | k + 1, n, h => by
    by_cases hn : n < 128
    · refine ⟨[], UInt8.ofNat n, by simp [encF, hn], fun c hc => by simp at hc, by rw [ofNat_toNat (by omega)]; exact hn, fun e => ⟨by rw [ofNat_toNat (by omega)] at e; exact e, rfl⟩⟩
    · rw [Nat.pow_succ] at h
      obtain ⟨pre, c, h1, h2, h3, h4⟩ := encF_canon k (n / 128) (by omega)
      refine ⟨UInt8.ofNat (n % 128 + 128) :: pre, c, by rw [encF, if_neg hn, h1]; rfl, fun x hx => ?_, h3, fun e => ?_⟩
      · rcases List.mem_cons.1 hx with rfl | hx
        · rw [ofNat_toNat (by omega)]; omega
        · exact h2 x hx
      · have := (h4 e).1; omega
theorem enc_canon {n : Nat} (h : n < 18446744073709551616) : Canon (enc n) := by
  obtain ⟨pre, c, h1, h2, h3, h4⟩ := encF_canon 9 n (Nat.lt_of_lt_of_le h (by decide))
  exact ⟨pre, c, h1, h2, h3, fun e => (h4 e).2⟩
theorem encF_hn : ∀ (pre : List UInt8) (c : UInt8) (k : Nat), High pre → c.toNat < 128 → (c.toNat = 0 → pre = []) → pre.length < k → encF k (hn (pre ++ [c])) = pre ++ [c]
  | [], c, k, _, hc, _, hk => by
    obtain ⟨k, rfl⟩ : ∃ q, k = q + 1 := ⟨k - 1, by simp at hk; omega⟩
    have : hn ([] ++ [c]) = c.toNat := by simp [hn]; omega
    rw [this, encF, if_pos hc]
    simp
  | x :: pre, c, k, hp, hc, h0, hk => by
    obtain ⟨k, rfl⟩ : ∃ q, k = q + 1 := ⟨k - 1, by simp at hk; omega⟩
    have hx : 128 ≤ x.toNat := hp x (by simp)
    have hx2 := x.toNat_lt
    have hpos : 0 < hn (pre ++ [c]) := by
      have key : ∀ (q : List UInt8), 0 < c.toNat → 0 < hn (q ++ [c]) := by
        intro q hc0
        induction q with
        | nil => simp [hn]; omega
        | cons y q ih => simp only [List.cons_append, hn]; omega
      refine key pre ?_
      rcases Nat.eq_zero_or_pos c.toNat with e | e
      · have := h0 e; simp at this
      · exact e
    have hv : hn (x :: pre ++ [c]) = hn (pre ++ [c]) * 128 + x.toNat % 128 := rfl
    rw [hv, encF, if_neg (by omega)]
    have e1 : (hn (pre ++ [c]) * 128 + x.toNat % 128) / 128 = hn (pre ++ [c]) := by omega
    have e2 : (hn (pre ++ [c]) * 128 + x.toNat % 128) % 128 + 128 = x.toNat := by omega
    rw [e1, e2, encF_hn pre c k (fun y hy => hp y (by simp [hy])) hc (fun e => by have := h0 e; simp at this) (by simp at hk; omega)]
    simp

theorem hn_lt : ∀ (l : List UInt8), hn l < 128 ^ l.length
  | [] => by simp [hn]
  | c :: l => by
    have := hn_lt l
    simp only [hn, List.length_cons, Nat.pow_succ]
    omega
theorem hn_append : ∀ (pre l : List UInt8), hn (pre ++ l) = hn pre + 128 ^ pre.length * hn l
  | [], l => by simp [hn]
  | c :: pre, l => by
    simp only [List.cons_append, hn, hn_append pre l, List.length_cons, Nat.pow_succ]
    rw [Nat.add_mul, Nat.mul_assoc, Nat.mul_comm (hn l) 128, ← Nat.mul_assoc]
    omega

/-- just what is canonical and not too great is written as it stands -/
theorem enc_iff {u : List UInt8} (hu : u.length ≤ 10) : enc (horner u 0) = u ↔ Canon u ∧ hn u < 18446744073709551616 := by
  rw [horner_hn]
  constructor
  · intro h
    have hm : hn u % 18446744073709551616 < 18446744073709551616 := Nat.mod_lt _ (by decide)
    have hv := hn_encF 10 (hn u % 18446744073709551616) (Nat.lt_of_lt_of_le hm (by decide))
    have h2 : hn u = hn u % 18446744073709551616 := by
      have : encF 10 (hn u % 18446744073709551616) = u := h
      rw [this] at hv
      exact hv
    refine ⟨?_, by omega⟩
    rw [← h]
    exact enc_canon hm
  · rintro ⟨⟨pre, c, rfl, h1, h2, h3⟩, h4⟩
    rw [Nat.mod_eq_of_lt h4]
    exact encF_hn pre c 10 h1 h2 h3 (by simp at hu; omega)

theorem findLow_some : ∀ {k : Nat} {l : List UInt8} {d : Nat}, findLow k l = some d → ∃ pre c rest, l = pre ++ c :: rest ∧ pre.length = d ∧ d < k ∧ High pre ∧ c.toNat < 128
  | 0, l, d, h => by simp [findLow] at h
  | k + 1, [], d, h => by simp [findLow] at h
  | k + 1, c :: l, d, h => by
    simp only [findLow] at h
    split at h
    · rename_i hc; cases h; exact ⟨[], c, l, rfl, rfl, by omega, fun x hx => by simp at hx, hc⟩
    · rename_i hc
      simp only [Option.map_eq_some_iff] at h
      obtain ⟨e, he, rfl⟩ := h
      obtain ⟨pre, q, rest, rfl, rfl, h3, h4, h5⟩ := findLow_some he
      refine ⟨c :: pre, q, rest, rfl, rfl, by omega, fun x hx => ?_, h5⟩
      simp at hx
      rcases hx with rfl | hx
      · omega
      · exact h4 x hx
theorem findLow_none : ∀ {k : Nat} {l : List UInt8}, findLow k l = none → High (l.take k)
  | 0, l, _ => fun x hx => by simp at hx
  | k + 1, [], _ => fun x hx => by simp at hx
  | k + 1, c :: l, h => by
    simp only [findLow] at h
    split at h
    · cases h
    · rename_i hc
      have h2 : findLow k l = none := by simpa using h
      intro x hx
      simp at hx
      rcases hx with rfl | hx
      · omega
      · exact findLow_none h2 x hx

theorem rdN_low : ∀ (pre : List UInt8) (c : UInt8) (rest : List UInt8) (i n : Nat), High pre → c.toNat < 128 → i + pre.length ≤ 9 →
    rdN i n (pre ++ c :: rest) = if i + pre.length = 9 ∧ 1 < c.toNat then some (0, 0, 11) else if c.toNat = 0 ∧ 0 < i + pre.length then some (0, 0, 11) else some (n + 2 ^ (7 * i) * hn (pre ++ [c]), i + pre.length + 1, 0)
  | [], c, rest, i, n, _, hc, hi => by
    simp only [List.nil_append, rdN, List.length_nil, Nat.add_zero]
    split
    · rfl
    · split
      · rfl
      · simp only [hn, Nat.zero_mul, Nat.zero_add]
        rw [Nat.mul_comm]
  | x :: pre, c, rest, i, n, hp, hc, hi => by
    have hx : 128 ≤ x.toNat := hp x (by simp)
    simp only [List.length_cons] at hi
    rw [List.cons_append, rdN, if_neg (by omega), if_neg (by omega), rdN_low pre c rest (i + 1) _ (fun y hy => hp y (by simp [hy])) hc (by omega)]
    simp only [List.length_cons]
    rw [show i + 1 + pre.length = i + (pre.length + 1) by omega]
    split
    · rfl
    · split
      · rfl
      · congr 2
        simp only [List.cons_append, hn]
        rw [show 7 * (i + 1) = 7 + 7 * i by omega, Nat.pow_add, Nat.mul_add, Nat.add_assoc]
        congr 1
        rw [Nat.mul_comm (x.toNat % 128), Nat.add_comm, show (2 : Nat) ^ 7 = 128 from rfl, ← Nat.mul_assoc, Nat.mul_comm 128 (2 ^ (7 * i)), Nat.mul_assoc, Nat.mul_comm 128, Nat.mul_assoc]
theorem rdN_high : ∀ (l : List UInt8) (i n : Nat), i ≤ 9 → High (l.take (10 - i)) → rdN i n l = if i + l.length ≤ 9 then none else some (0, 0, 11)
  | [], i, n, hi, _ => by simp [rdN, hi]
  | x :: l, i, n, hi, hp => by
    obtain ⟨k, hk⟩ : ∃ k, 10 - i = k + 1 := ⟨9 - i, by omega⟩
    rw [hk] at hp
    have hx : 128 ≤ x.toNat := hp x (by simp)
    by_cases h9 : i = 9
    · subst h9
      rw [rdN, if_pos ⟨rfl, by omega⟩, if_neg (by simp)]
    · rw [rdN, if_neg (by omega), if_neg (by omega), rdN_high l (i + 1) _ (by omega) (fun y hy => hp y (by
        rw [show 10 - (i + 1) = k by omega] at hy
        simp [hy]))]
      simp only [List.length_cons]
      rw [show i + 1 + l.length = i + (l.length + 1) by omega]

theorem refRead_eq (l : List UInt8) : refRead l = readNum l := by
  unfold refRead readNum
  cases hf : findLow 10 l with
  | none =>
    have := findLow_none hf
    rw [rdN_high l 0 0 (by omega) this, Nat.zero_add]
    simp only
    by_cases h : l.length ≤ 9
    · rw [if_pos h, if_neg (by omega)]; rfl
    · rw [if_neg h, if_pos (by omega)]; rfl
  | some d =>
    obtain ⟨pre, c, rest, rfl, rfl, h3, h4, h5⟩ := findLow_some hf
    rw [rdN_low pre c rest 0 0 h4 h5 (by omega)]
    simp only [Nat.zero_add]
    have ht : (pre ++ c :: rest).take (pre.length + 1) = pre ++ [c] := by
      rw [List.take_append, List.take_of_length_le (by omega), Nat.add_sub_cancel_left]
      rfl
    rw [ht]
    have hiff := enc_iff (u := pre ++ [c]) (by simp; omega)
    have hsum : hn (pre ++ [c]) = hn pre + 128 ^ pre.length * (c.toNat % 128) := by rw [hn_append]; simp [hn]
    have hpl := hn_lt pre
    have hcm : c.toNat % 128 = c.toNat := Nat.mod_eq_of_lt h5
    rw [hcm] at hsum
    by_cases h9 : pre.length = 9 ∧ 1 < c.toNat
    · rw [if_pos h9]
      rw [if_neg]
      · rfl
      · intro he
        have := (hiff.1 he).2
        rw [hsum, h9.1] at this
        have h2 : 128 ^ 9 * 2 ≤ 128 ^ 9 * c.toNat := Nat.mul_le_mul_left _ h9.2
        have h3 : (128 : Nat) ^ 9 = 9223372036854775808 := by decide
        omega
    · rw [if_neg h9]
      by_cases h0 : c.toNat = 0 ∧ 0 < pre.length
      · rw [if_pos h0, if_neg]
        · rfl
        · intro he
          obtain ⟨⟨pre2, c2, e1, e2, e3, e4⟩, _⟩ := hiff.1 he
          have e5 := List.append_inj e1 (by have := congrArg List.length e1; simp at this; exact this)
          have e6 : c = c2 := by have := e5.2; simpa using this
          have := e4 (by rw [← e6]; exact h0.1)
          rw [← e5.1] at this
          rw [this] at h0
          simp at h0
      · rw [if_neg h0]
        have hlt : hn (pre ++ [c]) < 18446744073709551616 := by
          rw [hsum]
          by_cases h8 : pre.length ≤ 8
          · have h1 : (128 : Nat) ^ pre.length ≤ 128 ^ 8 := Nat.pow_le_pow_right (by omega) h8
            have h2 : 128 ^ pre.length * c.toNat ≤ 128 ^ 8 * 127 := Nat.mul_le_mul h1 (by omega)
            have h3 : (128 : Nat) ^ 8 = 72057594037927936 := by decide
            omega
          · have e9 : pre.length = 9 := by omega
            rw [e9] at hpl ⊢
            have h2 : 128 ^ 9 * c.toNat ≤ 128 ^ 9 * 1 := Nat.mul_le_mul_left _ (by omega)
            have h3 : (128 : Nat) ^ 9 = 9223372036854775808 := by decide
            omega
        rw [if_pos]
        · rw [horner_hn, Nat.mod_eq_of_lt hlt]
          simp
        · exact hiff.2 ⟨⟨pre, c, rfl, h4, h5, fun e => by
            rcases Nat.eq_zero_or_pos pre.length with h | h
            · exact List.length_eq_zero_iff.1 h
            · exact absurd ⟨e, h⟩ h0⟩, hlt⟩
end Go.Proofs.Ytpbbbfemnkeplaa.Ab
