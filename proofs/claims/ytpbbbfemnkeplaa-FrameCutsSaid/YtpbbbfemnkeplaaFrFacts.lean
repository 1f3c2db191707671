/- Datagrams: what is plain of sealing and opening. -/
import Derived.Test.YtpbbbfemnkeplaaFrOpen
import Derived.Test.YtpbbbfemnkeplaaFxBurst
set_option linter.unusedVariables false
set_option linter.unusedSimpArgs false
set_option linter.unusedSectionVars false
namespace Go.Proofs.Ytpbbbfemnkeplaa.Ab
open Go

theorem leN4 (a b c d : UInt8) : leN 0 [a, b, c, d] = a.toNat + 256 * (b.toNat + 256 * (c.toNat + 256 * d.toNat)) := by
  simp only [leN, Nat.zero_add, Nat.mul_zero, Nat.pow_zero, Nat.mul_one, Nat.reduceAdd, Nat.reduceMul, Nat.reducePow, Nat.add_zero]
  omega
theorem list4 {l : List UInt8} (h : l.length = 4) : ∃ a b c d, l = [a, b, c, d] := by
  match l, h with
  | [a, b, c, d], _ => exact ⟨a, b, c, d, rfl⟩
theorem leN_fix {n : Nat} (h : n < 4294967296) : leN 0 (fixB n) = n := by
  unfold fixB
  rw [leN4]
  rw [ofNat_toNat (by omega), ofNat_toNat (by omega), ofNat_toNat (by omega), ofNat_toNat (by omega)]
  omega
theorem fix_leN {l : List UInt8} (h : l.length = 4) : fixB (leN 0 l) = l := by
  obtain ⟨a, b, c, d, rfl⟩ := list4 h
  have h1 := a.toNat_lt; have h2 := b.toNat_lt; have h3 := c.toNat_lt; have h4 := d.toNat_lt
  rw [leN4]
  unfold fixB
  have e : ∀ (x : UInt8) (n : Nat), n = x.toNat → UInt8.ofNat n = x := fun x n h => by rw [h]; simp
  rw [e a _ (by omega), e b _ (by omega), e c _ (by omega), e d _ (by omega)]
theorem xor_add8 {a b : Nat} (h : a < 256) : a ^^^ 2 ^ 8 * b = a + 256 * b := by
  have h1 := split256 (a + 256 * b)
  have e1 : (a + 256 * b) / 256 = b := by omega
  have e2 : (a + 256 * b) % 256 = a := by omega
  rw [e1, e2] at h1
  rw [h1, Nat.xor_comm]
theorem leX_cons (c : UInt8) (l : List UInt8) : leX (c :: l) = c.toNat + 256 * leX l := xor_add8 c.toNat_lt
theorem leX_4 {l : List UInt8} (h : l.length = 4) : leX l = leN 0 l := by
  obtain ⟨a, b, c, d, rfl⟩ := list4 h
  rw [leN4, leX_cons, leX_cons, leX_cons, leX_cons]
  rfl
theorem leX_app : ∀ (a b : List UInt8), leX (a ++ b) = leX a ^^^ 2 ^ (8 * a.length) * leX b
  | [], b => by simp [leX]
  | c :: a, b => by
    have e : ∀ (c : UInt8) (l : List UInt8), leX (c :: l) = c.toNat ^^^ 2 ^ 8 * leX l := fun _ _ => rfl
    rw [List.cons_append, e, e, leX_app a b, pow_xor, ← Nat.xor_assoc, List.length_cons, show 8 * (a.length + 1) = 8 + 8 * a.length by omega, Nat.pow_add, Nat.mul_assoc]
theorem leX_inj : ∀ {a b : List UInt8}, a.length = b.length → leX a = leX b → a = b
  | [], [], _, _ => rfl
  | [], _ :: _, h, _ => by simp at h
  | _ :: _, [], h, _ => by simp at h
  | c :: a, d :: b, h, e => by
    rw [leX_cons, leX_cons] at e
    have h1 := c.toNat_lt; have h2 := d.toNat_lt
    have e1 : c.toNat = d.toNat := by omega
    rw [UInt8.toNat_inj.1 e1, leX_inj (a := a) (b := b) (by simpa using h) (by omega)]

theorem enc_two {n : Nat} (h : n < 16384) : (enc n).length ≤ 2 := by
  have := enc_mono (a := n) (b := 16383) (by omega)
  have e : (enc 16383).length = 2 := by decide +kernel
  omega
theorem sealB_len (l : List UInt8) : (sealB l).length = 1 + (enc l.length).length + l.length := by simp [sealB]; omega
theorem sealL_len (l : List UInt8) : (sealL l).length = (sealB l).length + 4 := by simp [sealL, fixB_len]
theorem seal_take (l : List UInt8) : (sealL l).take ((sealL l).length - 4) = sealB l := by
  rw [sealL_len, Nat.add_sub_cancel]
  unfold sealL
  exact List.take_left
theorem seal_drop (l : List UInt8) : (sealL l).drop ((sealL l).length - 4) = fixB (sumV (sealB l)) := by
  rw [sealL_len, Nat.add_sub_cancel]
  unfold sealL
  exact List.drop_left
theorem seal_read (l rest : List UInt8) (h : l.length ≤ 4096) : readNum ((sealB l ++ rest).drop 1) = (l.length, (enc l.length).length, 0) := by
  have : (sealB l ++ rest).drop 1 = enc l.length ++ (l ++ rest) := by simp [sealB]
  rw [this]
  exact readNum_enc (by omega) _
theorem seal_read0 (l : List UInt8) (h : l.length ≤ 4096) : readNum ((sealB l).drop 1) = (l.length, (enc l.length).length, 0) := by
  have := seal_read l [] h
  rwa [List.append_nil] at this
theorem open_seal {l : List UInt8} (h : l.length ≤ 4096) : openL (sealL l) = (l, 0) := by
  have h1 := sealB_len l
  have h2 := sealL_len l
  have h3 := enc_two (n := l.length) (by omega)
  have h4 := @enc_pos l.length
  unfold openL
  rw [if_neg (by omega), if_neg (by omega), seal_take, seal_drop, leN_fix (sumV_lt _), if_neg (by simp), seal_read0 l h]
  have h5 : (sealB l).getD 0 0 = 83 := rfl
  rw [if_neg (by rw [h5]; simp; omega)]
  simp only [Prod.mk.injEq, and_true]
  unfold sealB
  rw [show 1 + (enc l.length).length = (enc l.length).length + 1 by omega, List.drop_succ_cons, List.drop_left]
theorem seal_open {b : List UInt8} (h : (openL b).2 = 0) : sealL (openL b).1 = b ∧ (openL b).1.length ≤ 4096 := by
  unfold openL at h ⊢
  split at h
  · cases h
  · split at h
    · cases h
    · split at h
      · cases h
      · split at h
        · cases h
        · rename_i c1 c2 c3 c4
          rw [if_neg c1, if_neg c2, if_neg c3, if_neg c4]
          simp only [not_or, ne_eq, Decidable.not_not, Nat.not_lt] at c3 c4
          obtain ⟨d1, d2, d3, d4⟩ := c4
          have hlen : (b.take (b.length - 4)).length = b.length - 4 := by simp
          have htl : (b.drop (b.length - 4)).length = 4 := by simp; omega
          have hcat : b.take (b.length - 4) ++ b.drop (b.length - 4) = b := List.take_append_drop _ _
          have hf := fix_leN htl
          rw [c3] at hf
          generalize b.take (b.length - 4) = H at *
          have he := enc_readNum d2
          have hk := readNum_k _ d2
          generalize readNum (H.drop 1) = r at *
          obtain ⟨n, k, e⟩ := r
          simp only at *
          have hm : (H.drop (1 + k)).length = n := by simp; omega
          refine ⟨?_, by rw [hm]; exact d3⟩
          have hB : sealB (H.drop (1 + k)) = H := by
            unfold sealB
            rw [hm, he, show 1 + k = 1 + k from rfl, ← List.drop_drop, List.take_append_drop]
            cases H with
            | nil => simp at hlen hk; omega
            | cons c H =>
              simp at d1
              rw [d1]
              rfl
          unfold sealL
          rw [hB, hf, hcat]
theorem seal_pre {l m r : List UInt8} (hl : l.length ≤ 4096) (hm : m.length ≤ 4096) (h : sealL m ++ r = sealL l) : r = [] := by
  have h1 : sealB m ++ (fixB (sumV (sealB m)) ++ r) = sealB l ++ fixB (sumV (sealB l)) := by rw [← List.append_assoc]; exact h
  have h2 := seal_read m (fixB (sumV (sealB m)) ++ r) hm
  rw [h1, seal_read l _ hl] at h2
  have e : l.length = m.length := (Prod.mk.inj h2).1
  have h3 := congrArg List.length h
  rw [List.length_append, sealL_len, sealL_len, sealB_len, sealB_len, e] at h3
  exact List.eq_nil_of_length_eq_zero (by omega)
theorem cut_no {l : List UInt8} {n : Nat} (hl : l.length ≤ 4096) (hn : n < (sealL l).length) : (openL ((sealL l).take n)).2 ≠ 0 := fun h => by
  obtain ⟨h1, h2⟩ := seal_open h
  have h3 := seal_pre hl h2 (r := (sealL l).drop n) (by rw [h1, List.take_append_drop])
  have := congrArg List.length h3
  simp at this
  omega
theorem more_no {l more : List UInt8} (hl : l.length ≤ 4096) (hm : more ≠ []) : (openL (sealL l ++ more)).2 ≠ 0 := fun h => by
  obtain ⟨h1, h2⟩ := seal_open h
  exact hm (seal_pre h2 hl h1.symm)

/-! ### Bursts -/
theorem residue {n : Nat} {B T : List UInt8} (hn : B.length = n) (hT : T.length = 4) (h : leN 0 T = sumV B) : stpN (8 * n) (leX (B ++ T)) = stpN (8 * n) 4294967295 ^^^ 4294967295 := by
  have h1 : sumV B = stpN (8 * n) 4294967295 ^^^ stpN (8 * n) (leX B) ^^^ 4294967295 := by
    unfold sumV
    rw [sumT_eq, sumR_le, stpN_xor, hn]
  rw [leX_app, stpN_xor, hn, stpN_high, leX_4 hT, h, h1]
  generalize stpN (8 * n) 4294967295 = I
  generalize stpN (8 * n) (leX B) = a
  rw [Nat.xor_comm I a, Nat.xor_assoc a I, ← Nat.xor_assoc a a, Nat.xor_self, Nat.zero_xor]
theorem burst_no {l x : List UInt8} {at_ w : Nat} (hl : l.length ≤ 4096) (hx : x.length = (sealL l).length) (hw : w < 4294967296) (hne : w ≠ 0) (h : leX x = leX (sealL l) ^^^ 2 ^ at_ * w) : openL x = ([], 50) := by
  have h1 := sealB_len l
  have h2 := sealL_len l
  have h3 := enc_two (n := l.length) (by omega)
  have h4 := @enc_pos l.length
  unfold openL
  rw [if_neg (by omega), if_neg (by omega), if_pos]
  intro hc
  have r1 := residue (n := (sealB l).length) (B := sealB l) (T := fixB (sumV (sealB l))) rfl fixB_len (leN_fix (sumV_lt _))
  have r2 := residue (n := (sealB l).length) (B := x.take (x.length - 4)) (T := x.drop (x.length - 4)) (by simp; omega) (by simp; omega) hc
  rw [List.take_append_drop, h, stpN_xor] at r2
  have r3 : leX (sealL l) = leX (sealB l ++ fixB (sumV (sealB l))) := rfl
  rw [r3, r1] at r2
  have r4 : stpN (8 * (sealB l).length) (2 ^ at_ * w) = 0 := by
    generalize stpN (8 * (sealB l).length) (2 ^ at_ * w) = D at r2
    generalize stpN (8 * (sealB l).length) 4294967295 ^^^ 4294967295 = I at r2
    have := congrArg (I ^^^ ·) r2
    simp only [← Nat.xor_assoc, Nat.xor_self, Nat.zero_xor] at this
    exact this
  by_cases hat : at_ ≤ 8 * (sealB l).length
  · rw [show 8 * (sealB l).length = at_ + (8 * (sealB l).length - at_) by omega, stpN_add, stpN_high] at r4
    exact hne (stpN_zero _ hw r4)
  · rw [show at_ = 8 * (sealB l).length + (at_ - 8 * (sealB l).length) by omega, Nat.pow_add, Nat.mul_assoc, stpN_high] at r4
    rcases Nat.mul_eq_zero.1 r4 with r | r
    · have := Nat.two_pow_pos (at_ - 8 * (sealB l).length); omega
    · exact hne r
theorem burst_none {l x : List UInt8} (hl : l.length ≤ 4096) (hx : x.length = (sealL l).length) (h : leX x = leX (sealL l)) : openL x = (l, 0) := by
  rw [leX_inj hx h]
  exact open_seal hl

end Go.Proofs.Ytpbbbfemnkeplaa.Ab
