/- Numbers as bytes: what the program's functions do. -/
import Derived.Test.YtpbbbfemnkeplaaSh
import Derived.Test.YtpbbbfemnkeplaaBLaw
set_option linter.unusedVariables false
set_option linter.unusedSimpArgs false
set_option linter.unusedSectionVars false
namespace Go.Proofs.Ytpbbbfemnkeplaa.Ab
open Go

/-- the number that bytes begin with, from the i-th byte on -/
def rdN : Nat → Nat → List UInt8 → Option (Nat × Nat × Int)
  | _, _, [] => none
  | i, n, c :: l =>
    if i = 9 ∧ 1 < c.toNat then some (0, 0, 11)
    else if c.toNat < 128 then (if c.toNat = 0 ∧ 0 < i then some (0, 0, 11) else some (n + c.toNat % 128 * 2 ^ (7 * i), i + 1, 0))
    else rdN (i + 1) (n + c.toNat % 128 * 2 ^ (7 * i)) l
def readNum (l : List UInt8) : Nat × Nat × Int := (rdN 0 0 l).getD (0, 0, 10)

theorem and127 (c : Nat) : c &&& 127 = c % 128 := Nat.and_two_pow_sub_one_eq_mod c 7
theorem or_add {n m i : Nat} (h : n < 2 ^ i) : n ||| m * 2 ^ i = n + m * 2 ^ i := by
  rw [Nat.mul_comm, Nat.or_comm, ← Nat.two_pow_add_eq_or_of_lt h, Nat.add_comm]

theorem ReadNum_loop {R : Caller} {s : St} {v : Value} {l : List UInt8} (h : bytesOf v s = some l) : ∀ (rest : List UInt8) (i n : Nat), i ≤ 9 → l.drop i = rest → n < 2 ^ (7 * i) →
    loopL (octet_ReadNum.b0 R) [.int .u64 (n : Int), v, .int .i64 ((l.length : Nat) : Int), .int .i64 (i : Int)] s =
      match rdN i n rest with
      | none => some (.exit 0, [], s)
      | some r => some (.ret, [.int .u64 (r.1 : Int), .int .i64 (r.2.1 : Int), .int .i64 r.2.2], s)
  | [], i, n, hi, hr, hn => by
    have hle : l.length ≤ i := List.drop_eq_nil_iff.1 hr
    rw [loopL_eq]
    have hc : decide ((i : Int) < ((l.length : Nat) : Int)) = false := by simp; omega
    simp only [octet_ReadNum.b0, Option.bind_some, Option.map_some, getL_0, getL_1, getL_2, getL_3, getL_4, getL_5, getL_6, getL_7, getL_8, getL_9, getL_10, getL_11, getL_12, condV_t, condV_f, guardV_tt, guardV_ff, guardV_tf, guardV_ft, guardV_u, apick_t, apick_f, exV_exit, exV_ret, lookE_same, joinK_eq, seqA_n, seqA_e, seqA_r, e_add, e_sub, e_mul, e_eql, e_neq, e_lss, e_leq, e_gtr, e_geq, e_conv, e_not, e_neg, and_guard, or_guard, hc]
    rfl
  | c :: rest, i, n, hi, hr, hn => by
    have hlt : i < l.length := by
      rcases Nat.lt_or_ge i l.length with hh | hh
      · exact hh
      · rw [List.drop_eq_nil_of_le hh] at hr; cases hr
    have hci : l[i] = c := by
      have := List.drop_eq_getElem_cons hlt
      rw [hr] at this
      exact (List.cons.inj this).1.symm
    have hrest : l.drop (i + 1) = rest := by
      have := List.drop_eq_getElem_cons hlt
      rw [hr] at this
      exact (List.cons.inj this).2.symm
    obtain ⟨p, hp1, hp2⟩ := bytes_at h hlt (k := .i64)
    rw [hci] at hp2
    have hcl := c.toNat_lt
    rw [loopL_eq]
    have hc : decide ((i : Int) < ((l.length : Nat) : Int)) = true := by simp; omega
    simp only [octet_ReadNum.b0, Option.bind_some, Option.map_some, getL_0, getL_1, getL_2, getL_3, getL_4, getL_5, getL_6, getL_7, getL_8, getL_9, getL_10, getL_11, getL_12, condV_t, condV_f, guardV_tt, guardV_ff, guardV_tf, guardV_ft, guardV_u, apick_t, apick_f, exV_exit, exV_ret, lookE_same, joinK_eq, seqA_n, seqA_e, seqA_r, e_add, e_sub, e_mul, e_eql, e_neq, e_lss, e_leq, e_gtr, e_geq, e_conv, e_not, e_neg, and_guard, or_guard, hc, hp1, hp2]
    have hw1 : IntKind.wrap .i64 (7 * (i : Int)) = ((7 * i : Nat) : Int) := by rw [wrap_i64 (by omega) (by omega)]; push_cast; rfl
    have hw2 : IntKind.wrap .i64 ((i : Int) + 1) = ((i + 1 : Nat) : Int) := by rw [wrap_i64 (by omega) (by omega)]; push_cast; rfl
    have h127 : (127 : Int) = ((127 : Nat) : Int) := rfl
    rw [h127]
    simp only [u_and (k := .u8) rfl (show c.toNat < 2 ^ IntKind.bits .u8 from hcl) (show 127 < 2 ^ IntKind.bits .u8 by decide), and127, Option.bind_some, Option.map_some, getL_0, getL_1, getL_2, getL_3, getL_4, getL_5, getL_6, getL_7, getL_8, getL_9, getL_10, getL_11, getL_12, condV_t, condV_f, guardV_tt, guardV_ff, guardV_tf, guardV_ft, guardV_u, apick_t, apick_f, exV_exit, exV_ret, lookE_same, joinK_eq, seqA_n, seqA_e, seqA_r, e_add, e_sub, e_mul, e_eql, e_neq, e_lss, e_leq, e_gtr, e_geq, e_conv, e_not, e_neg, and_guard, or_guard, hw1, hw2]
    by_cases h9 : i = 9 ∧ 1 < c.toNat
    · have hb : (((i : Int) == 9) && decide ((c.toNat : Int) > 1)) = true := by simp; omega
      simp only [hb, Option.bind_some, Option.map_some, getL_0, getL_1, getL_2, getL_3, getL_4, getL_5, getL_6, getL_7, getL_8, getL_9, getL_10, getL_11, getL_12, condV_t, condV_f, guardV_tt, guardV_ff, guardV_tf, guardV_ft, guardV_u, apick_t, apick_f, exV_exit, exV_ret, lookE_same, joinK_eq, seqA_n, seqA_e, seqA_r, e_add, e_sub, e_mul, e_eql, e_neq, e_lss, e_leq, e_gtr, e_geq, e_conv, e_not, e_neg, and_guard, or_guard, rdN, if_pos h9]
      rfl
    · have hb : (((i : Int) == 9) && decide ((c.toNat : Int) > 1)) = false := by
        rw [Bool.eq_false_iff]; simp; omega
      have hc128 : c.toNat % 128 < 128 := Nat.mod_lt _ (by omega)
      have hconv : IntKind.wrap .u64 ((c.toNat % 128 : Nat) : Int) = ((c.toNat % 128 : Nat) : Int) := uwrap rfl (Nat.lt_trans hc128 (by decide))
      have hpow : c.toNat % 128 * 2 ^ (7 * i) < 2 ^ 64 ∧ n + c.toNat % 128 * 2 ^ (7 * i) < 2 ^ (7 * (i + 1)) := by
        refine ⟨?_, ?_⟩
        · by_cases h8 : i ≤ 8
          · calc c.toNat % 128 * 2 ^ (7 * i) < 128 * 2 ^ (7 * i) := Nat.mul_lt_mul_of_pos_right hc128 (Nat.two_pow_pos _)
              _ ≤ 128 * 2 ^ 56 := Nat.mul_le_mul_left _ (Nat.pow_le_pow_right (by omega) (by omega))
              _ < 2 ^ 64 := by decide
          · have e9 : i = 9 := by omega
            have : c.toNat ≤ 1 := by omega
            subst e9
            have h1 : c.toNat % 128 ≤ 1 := by omega
            calc c.toNat % 128 * 2 ^ (7 * 9) ≤ 1 * 2 ^ (7 * 9) := Nat.mul_le_mul_right _ h1
              _ < 2 ^ 64 := by decide
        · have e : 2 ^ (7 * (i + 1)) = 128 * 2 ^ (7 * i) := by rw [show 7 * (i + 1) = 7 + 7 * i by omega, Nat.pow_add]
          rw [e]
          have : (c.toNat % 128 + 1) * 2 ^ (7 * i) ≤ 128 * 2 ^ (7 * i) := Nat.mul_le_mul_right _ (by omega)
          rw [Nat.add_mul] at this
          omega
      have hshl : ∀ t ox oy, abin Try.prog .shl t ox oy (.int .u64 ((c.toNat % 128 : Nat) : Int)) (.int .i64 ((7 * i : Nat) : Int)) = some (.int .u64 ((c.toNat % 128 * 2 ^ (7 * i) : Nat) : Int)) := fun t ox oy => by
        rw [u_shl rfl, show c.toNat % 128 * 2 ^ (7 * i) % 2 ^ IntKind.bits .u64 = c.toNat % 128 * 2 ^ (7 * i) from Nat.mod_eq_of_lt hpow.1]
      have hn64 : n < 2 ^ IntKind.bits .u64 := Nat.lt_of_lt_of_le hn (Nat.pow_le_pow_right (by omega) (show 7 * i ≤ 64 by omega))
      have hor : ∀ t ox oy, abin Try.prog .or t ox oy (.int .u64 (n : Int)) (.int .u64 ((c.toNat % 128 * 2 ^ (7 * i) : Nat) : Int)) = some (.int .u64 ((n + c.toNat % 128 * 2 ^ (7 * i) : Nat) : Int)) := fun t ox oy => by
        rw [u_or rfl hn64 hpow.1, or_add hn]
      have hlt128 : decide ((c.toNat : Int) < 128) = decide (c.toNat < 128) := decide_eq_decide.2 (by omega)
      simp only [hb, Option.bind_some, Option.map_some, getL_0, getL_1, getL_2, getL_3, getL_4, getL_5, getL_6, getL_7, getL_8, getL_9, getL_10, getL_11, getL_12, condV_t, condV_f, guardV_tt, guardV_ff, guardV_tf, guardV_ft, guardV_u, apick_t, apick_f, exV_exit, exV_ret, lookE_same, joinK_eq, seqA_n, seqA_e, seqA_r, e_add, e_sub, e_mul, e_eql, e_neq, e_lss, e_leq, e_gtr, e_geq, e_conv, e_not, e_neg, and_guard, or_guard, hconv, hshl, hor, hlt128]
      rw [rdN, if_neg h9]
      by_cases h1 : c.toNat < 128
      · simp only [decide_eq_true h1, Option.bind_some, Option.map_some, getL_0, getL_1, getL_2, getL_3, getL_4, getL_5, getL_6, getL_7, getL_8, getL_9, getL_10, getL_11, getL_12, condV_t, condV_f, guardV_tt, guardV_ff, guardV_tf, guardV_ft, guardV_u, apick_t, apick_f, exV_exit, exV_ret, lookE_same, joinK_eq, seqA_n, seqA_e, seqA_r, e_add, e_sub, e_mul, e_eql, e_neq, e_lss, e_leq, e_gtr, e_geq, e_conv, e_not, e_neg, and_guard, or_guard, if_pos h1]
        by_cases h2 : c.toNat = 0 ∧ 0 < i
        · have hb2 : (((c.toNat : Int) == 0) && decide ((i : Int) > 0)) = true := by simp; omega
          simp only [hb2, Option.bind_some, Option.map_some, getL_0, getL_1, getL_2, getL_3, getL_4, getL_5, getL_6, getL_7, getL_8, getL_9, getL_10, getL_11, getL_12, condV_t, condV_f, guardV_tt, guardV_ff, guardV_tf, guardV_ft, guardV_u, apick_t, apick_f, exV_exit, exV_ret, lookE_same, joinK_eq, seqA_n, seqA_e, seqA_r, e_add, e_sub, e_mul, e_eql, e_neq, e_lss, e_leq, e_gtr, e_geq, e_conv, e_not, e_neg, and_guard, or_guard, if_pos h2]
          rfl
        · have hb2 : (((c.toNat : Int) == 0) && decide ((i : Int) > 0)) = false := by
            rw [Bool.eq_false_iff]; simp; omega
          simp only [hb2, Option.bind_some, Option.map_some, getL_0, getL_1, getL_2, getL_3, getL_4, getL_5, getL_6, getL_7, getL_8, getL_9, getL_10, getL_11, getL_12, condV_t, condV_f, guardV_tt, guardV_ff, guardV_tf, guardV_ft, guardV_u, apick_t, apick_f, exV_exit, exV_ret, lookE_same, joinK_eq, seqA_n, seqA_e, seqA_r, e_add, e_sub, e_mul, e_eql, e_neq, e_lss, e_leq, e_gtr, e_geq, e_conv, e_not, e_neg, and_guard, or_guard, if_neg h2]
      · simp only [decide_eq_false h1, Option.bind_some, Option.map_some, getL_0, getL_1, getL_2, getL_3, getL_4, getL_5, getL_6, getL_7, getL_8, getL_9, getL_10, getL_11, getL_12, condV_t, condV_f, guardV_tt, guardV_ff, guardV_tf, guardV_ft, guardV_u, apick_t, apick_f, exV_exit, exV_ret, lookE_same, joinK_eq, seqA_n, seqA_e, seqA_r, e_add, e_sub, e_mul, e_eql, e_neq, e_lss, e_leq, e_gtr, e_geq, e_conv, e_not, e_neg, and_guard, or_guard, if_neg h1]
        by_cases h8 : i ≤ 8
        · exact ReadNum_loop h rest (i + 1) _ (by omega) hrest hpow.2
        · omega

theorem ReadNum_run {R : Caller} {s : St} {v : Value} {l : List UInt8} (h : bytesOf v s = some l) : octet_ReadNum R v s = some (.tuple #[.int .u64 ((readNum l).1 : Int), .int .i64 ((readNum l).2.1 : Int), .int .i64 (readNum l).2.2], s) := by
  have := ReadNum_loop (R := R) h l 0 0 (by omega) rfl (by simp)
  unfold octet_ReadNum readNum
  simp only [bytes_len h, Option.bind_some, Option.map_some, getL_0, getL_1, getL_2, getL_3, getL_4, getL_5, getL_6, getL_7, getL_8, getL_9, getL_10, getL_11, getL_12, condV_t, condV_f, guardV_tt, guardV_ff, guardV_tf, guardV_ft, guardV_u, apick_t, apick_f, exV_exit, exV_ret, lookE_same, joinK_eq, seqA_n, seqA_e, seqA_r, e_add, e_sub, e_mul, e_eql, e_neq, e_lss, e_leq, e_gtr, e_geq, e_conv, e_not, e_neg, and_guard, or_guard]
  rw [show (0 : Int) = ((0 : Nat) : Int) from rfl, this]
  cases rdN 0 0 l with
  | none => rfl
  | some r => rfl

/-! ### A number's bytes -/
def encF : Nat → Nat → List UInt8
  | 0, _ => []
  | k + 1, n => if n < 128 then [UInt8.ofNat n] else UInt8.ofNat (n % 128 + 128) :: encF k (n / 128)
def enc (n : Nat) : List UInt8 := encF 10 n
theorem encF_len : ∀ (k n : Nat), (encF k n).length ≤ k
  | 0, _ => by simp [encF]
  | k + 1, n => by
    simp only [encF]
    split
    · simp
    · simp [encF_len k (n / 128)]
theorem encF_ne {k n : Nat} : encF (k + 1) n ≠ [] := by
  simp only [encF]
  split <;> simp
theorem enc_ne {n : Nat} : enc n ≠ [] := encF_ne
theorem enc_len {n : Nat} : (enc n).length ≤ 10 := encF_len 10 n
theorem ofNat_toNat {n : Nat} (h : n < 256) : ((UInt8.ofNat n).toNat : Nat) = n := by simp; omega
theorem bv_one {n : Nat} (h : n < 256) : bv [UInt8.ofNat n] = [.int .u8 ((n : Nat) : Int)] := by
  simp only [bv, List.map_cons, List.map_nil, ofNat_toNat h]
theorem or128 (n : Nat) : n % 256 ||| 128 = n % 128 + 128 := by
  have h : n % 256 = n % 128 + 128 * (n / 128 % 2) := by omega
  rw [h]
  rcases Nat.mod_two_eq_zero_or_one (n / 128) with e | e
  · rw [e, Nat.mul_zero, Nat.add_zero]
    have := or_add (n := n % 128) (m := 1) (i := 7) (Nat.mod_lt _ (by decide))
    simpa using this
  · rw [e, Nat.mul_one]
    have := or_add (n := n % 128) (m := 1) (i := 7) (Nat.mod_lt _ (by decide))
    have h2 : n % 128 + 128 = n % 128 ||| 128 := by simpa using this.symm
    rw [h2, Nat.or_assoc, Nat.or_self]

theorem Num_loop {R : Caller} {N : Nat} : ∀ (k n : Nat) (acc : List UInt8) (s : St) (out : Value), n < 128 ^ (k + 1) → n < 2 ^ 64 → acc.length + k ≤ 100 → Own N 1 s out (bv acc) → N ≤ s.heap.length →
    ∃ (m : Nat) (out' : Value) (s' : St) (pre : List UInt8), loopL (octet_Num.b0 R) [.int .u64 (n : Int), out] s = some (.exit 0, [.int .u64 (m : Int), out'], s') ∧ m < 128 ∧ Own N 1 s' out' (bv (acc ++ pre)) ∧ encF (k + 1) n = pre ++ [UInt8.ofNat m] ∧ Ext N s s' ∧ N ≤ s'.heap.length ∧ pre.length ≤ k
  | 0, n, acc, s, out, h1, h2, h3, h4, h5 => by
    rw [loopL_eq]
    have hc : decide ((n : Int) ≥ 128) = false := by simp; omega
    simp only [octet_Num.b0, Option.bind_some, Option.map_some, getL_0, getL_1, getL_2, getL_3, getL_4, getL_5, getL_6, getL_7, getL_8, getL_9, getL_10, getL_11, getL_12, condV_t, condV_f, guardV_tt, guardV_ff, guardV_tf, guardV_ft, guardV_u, apick_t, apick_f, exV_exit, exV_ret, lookE_same, joinK_eq, seqA_n, seqA_e, seqA_r, e_add, e_sub, e_mul, e_eql, e_neq, e_lss, e_leq, e_gtr, e_geq, e_conv, e_not, e_neg, and_guard, or_guard, hc]
    exact ⟨n, out, s, [], rfl, by simpa using h1, by simpa using h4, by simp [encF]; omega, .refl _ _, h5, by simp⟩
  | k + 1, n, acc, s, out, h1, h2, h3, h4, h5 => by
    rw [loopL_eq]
    by_cases hn : n < 128
    · have hc : decide ((n : Int) ≥ 128) = false := by simp; omega
      simp only [octet_Num.b0, Option.bind_some, Option.map_some, getL_0, getL_1, getL_2, getL_3, getL_4, getL_5, getL_6, getL_7, getL_8, getL_9, getL_10, getL_11, getL_12, condV_t, condV_f, guardV_tt, guardV_ff, guardV_tf, guardV_ft, guardV_u, apick_t, apick_f, exV_exit, exV_ret, lookE_same, joinK_eq, seqA_n, seqA_e, seqA_r, e_add, e_sub, e_mul, e_eql, e_neq, e_lss, e_leq, e_gtr, e_geq, e_conv, e_not, e_neg, and_guard, or_guard, hc]
      exact ⟨n, out, s, [], rfl, hn, by simpa using h4, by rw [encF, if_pos hn]; rfl, .refl _ _, h5, by simp⟩
    · have hc : decide ((n : Int) ≥ 128) = true := by simp; omega
      have hu : ∀ t ox oy, abin Try.prog .or t ox oy (.int .u8 ((n % 256 : Nat) : Int)) (.int .u8 (128 : Int)) = some (.int .u8 ((n % 128 + 128 : Nat) : Int)) := fun t ox oy => by
        rw [show (128 : Int) = ((128 : Nat) : Int) from rfl, u_or rfl (show n % 256 < 2 ^ 8 from Nat.mod_lt _ (by decide)) (show 128 < 2 ^ 8 by decide), or128]
      have hs : ∀ t ox oy, abin Try.prog .shr t ox oy (.int .u64 (n : Int)) (.int .u64 (7 : Int)) = some (.int .u64 ((n / 128 : Nat) : Int)) := fun t ox oy => by
        rw [show (7 : Int) = ((7 : Nat) : Int) from rfl, u_shr (show n < 2 ^ 64 from h2)]
      obtain ⟨r, g1, v', s', g2, g3, g4⟩ := own_add (w := 1) (z := [.int .u8 0]) (v := .int .u8 ((n % 128 + 128 : Nat) : Int)) h4 h5 (by omega) (by omega) (by omega) rfl rfl rfl rfl (by rw [bv_length]; omega)
      simp only [octet_Num.b0, Option.bind_some, Option.map_some, getL_0, getL_1, getL_2, getL_3, getL_4, getL_5, getL_6, getL_7, getL_8, getL_9, getL_10, getL_11, getL_12, condV_t, condV_f, guardV_tt, guardV_ff, guardV_tf, guardV_ft, guardV_u, apick_t, apick_f, exV_exit, exV_ret, lookE_same, joinK_eq, seqA_n, seqA_e, seqA_r, e_add, e_sub, e_mul, e_eql, e_neq, e_lss, e_leq, e_gtr, e_geq, e_conv, e_not, e_neg, and_guard, or_guard, hc, wrapu8, hu, g1, g2, hs]
      have h5' : N ≤ s'.heap.length := Nat.le_trans h5 g4.1
      have hacc : bv acc ++ cellsV (.int .u8 ((n % 128 + 128 : Nat) : Int)) = bv (acc ++ [UInt8.ofNat (n % 128 + 128)]) := by
        rw [bv_append, bv_one (by omega)]; rfl
      rw [hacc] at g3
      obtain ⟨m, out', s2, pre, f1, f2, f3, f4, f5, f6, f7⟩ := Num_loop k (n / 128) (acc ++ [UInt8.ofNat (n % 128 + 128)]) s' v' (by rw [Nat.pow_succ] at h1; omega) (by omega) (by simp; omega) g3 h5'
      refine ⟨m, out', s2, UInt8.ofNat (n % 128 + 128) :: pre, f1, f2, by simpa using f3, ?_, g4.trans f5, f6, by simp; omega⟩
      rw [encF, if_neg hn, f4]
      rfl

theorem Num_run {R : Caller} {n : Nat} (hn : n < 2 ^ 64) (s : St) : ∃ v s', octet_Num R (.int .u64 (n : Int)) s = some (v, s') ∧ Own s.heap.length 1 s' v (bv (enc n)) ∧ Ext s.heap.length s s' := by
  obtain ⟨m, out', s2, pre, f1, f2, f3, f4, f5, f6, f7⟩ := Num_loop (R := R) (N := s.heap.length) 9 n [] s (.slice none 0 0) (Nat.lt_of_lt_of_le hn (by decide)) hn (by simp) (Own.nil _ _ _) (Nat.le_refl _)
  obtain ⟨r, g1, v', s', g2, g3, g4⟩ := own_add (w := 1) (z := [.int .u8 0]) (v := .int .u8 ((m : Nat) : Int)) f3 f6 (by omega) (by omega) (by omega) rfl rfl rfl rfl (by rw [bv_length]; simp; omega)
  have hm : m % 256 = m := by omega
  unfold octet_Num
  simp only [f1, Option.bind_some, Option.map_some, getL_0, getL_1, getL_2, getL_3, getL_4, getL_5, getL_6, getL_7, getL_8, getL_9, getL_10, getL_11, getL_12, condV_t, condV_f, guardV_tt, guardV_ff, guardV_tf, guardV_ft, guardV_u, apick_t, apick_f, exV_exit, exV_ret, lookE_same, joinK_eq, seqA_n, seqA_e, seqA_r, e_add, e_sub, e_mul, e_eql, e_neq, e_lss, e_leq, e_gtr, e_geq, e_conv, e_not, e_neg, and_guard, or_guard, wrapu8, hm, g1, g2]
  have hacc : bv ([] ++ pre) ++ cellsV (.int .u8 ((m : Nat) : Int)) = bv (enc n) := by
    unfold enc
    rw [f4, List.nil_append, bv_append, bv_one (by omega)]; rfl
  rw [hacc] at g3
  refine ⟨v', s', ?_, g3, f5.trans g4⟩
  rcases g3 with ⟨rfl, _⟩ | ⟨b, len, rfl, _⟩ <;> rfl

theorem refNum_run {lib : Lib} (hl : lib 16 = none) : ∀ (k n : Nat), n < 128 ^ (k + 1) → n < 2 ^ 64 → k ≤ 50 → ∀ (s : St), ∃ v s', run Try.prog lib hints 16 [.int .u64 (n : Int)] s = some (v, s') ∧ Own s.heap.length 1 s' v (bv (encF (k + 1) n)) ∧ Ext s.heap.length s s' := by
  intro k
  induction k with
  | zero =>
    intro n h1 h2 _ s
    have hn : n < 128 := by simpa using h1
    have hc : decide ((n : Int) < 128) = true := by simp; omega
    have hm : n % 256 = n := by omega
    have hb : abuildSl 1 [.int .u8 0] 1 [(0, .int .u8 ((n : Nat) : Int))] s = some (newBytes [UInt8.ofNat n] s) := by
      unfold newBytes
      rw [bv_one (by omega)]
      rfl
    refine ⟨_, _, ref01_Num_of hl (r := newBytes [UInt8.ofNat n] s) ?_, ?_, newBytes_ext (Nat.le_refl _)⟩
    · unfold ref01_Num
      simp only [Option.bind_some, Option.map_some, getL_0, getL_1, getL_2, getL_3, getL_4, getL_5, getL_6, getL_7, getL_8, getL_9, getL_10, getL_11, getL_12, condV_t, condV_f, guardV_tt, guardV_ff, guardV_tf, guardV_ft, guardV_u, apick_t, apick_f, exV_exit, exV_ret, lookE_same, joinK_eq, seqA_n, seqA_e, seqA_r, e_add, e_sub, e_mul, e_eql, e_neq, e_lss, e_leq, e_gtr, e_geq, e_conv, e_not, e_neg, and_guard, or_guard, hc, wrapu8, hm, hb]
      rfl
    · rw [encF, if_pos hn]
      exact newBytes_own (Nat.le_refl _) (by simp)
  | succ k ih =>
    intro n h1 h2 hk s
    by_cases hn : n < 128
    · have hc : decide ((n : Int) < 128) = true := by simp; omega
      have hm : n % 256 = n := by omega
      have hb : abuildSl 1 [.int .u8 0] 1 [(0, .int .u8 ((n : Nat) : Int))] s = some (newBytes [UInt8.ofNat n] s) := by
        unfold newBytes
        rw [bv_one (by omega)]
        rfl
      refine ⟨_, _, ref01_Num_of hl (r := newBytes [UInt8.ofNat n] s) ?_, ?_, newBytes_ext (Nat.le_refl _)⟩
      · unfold ref01_Num
        simp only [Option.bind_some, Option.map_some, getL_0, getL_1, getL_2, getL_3, getL_4, getL_5, getL_6, getL_7, getL_8, getL_9, getL_10, getL_11, getL_12, condV_t, condV_f, guardV_tt, guardV_ff, guardV_tf, guardV_ft, guardV_u, apick_t, apick_f, exV_exit, exV_ret, lookE_same, joinK_eq, seqA_n, seqA_e, seqA_r, e_add, e_sub, e_mul, e_eql, e_neq, e_lss, e_leq, e_gtr, e_geq, e_conv, e_not, e_neg, and_guard, or_guard, hc, wrapu8, hm, hb]
        rfl
      · rw [encF, if_pos hn]
        exact newBytes_own (Nat.le_refl _) (by simp)
    · have hc : decide ((n : Int) < 128) = false := by simp; omega
      have hrem : ∀ t ox oy, abin Try.prog .rem t ox oy (.int .u64 (n : Int)) (.int .u64 (128 : Int)) = some (.int .u64 ((n % 128 : Nat) : Int)) := fun t ox oy => by
        rw [e_rem (by decide)]; rfl
      have hquo : ∀ t ox oy, abin Try.prog .quo t ox oy (.int .u64 (n : Int)) (.int .u64 (128 : Int)) = some (.int .u64 ((n / 128 : Nat) : Int)) := fun t ox oy => by
        rw [e_quo (by decide)]
        have : (n : Int).tdiv 128 = ((n / 128 : Nat) : Int) := rfl
        rw [this, wrapu64, Nat.mod_eq_of_lt (by omega)]
      have hm : n % 128 % 256 = n % 128 := by omega
      have hw : IntKind.wrap .u8 (((n % 128 : Nat) : Int) + 128) = ((n % 128 + 128 : Nat) : Int) := by
        rw [show (((n % 128 : Nat) : Int) + 128) = ((n % 128 + 128 : Nat) : Int) by omega, wrapu8, Nat.mod_eq_of_lt (by omega)]
      have hb : abuildSl 1 [.int .u8 0] 1 [(0, .int .u8 ((n % 128 + 128 : Nat) : Int))] s = some (newBytes [UInt8.ofNat (n % 128 + 128)] s) := by
        unfold newBytes
        rw [bv_one (by omega)]
        rfl
      obtain ⟨v, s', g1, g2, g3⟩ := ih (n / 128) (by rw [Nat.pow_succ] at h1; omega) (by omega) (by omega) (newBytes [UInt8.ofNat (n % 128 + 128)] s).2
      have hO : Own s.heap.length 1 s' (newBytes [UInt8.ofNat (n % 128 + 128)] s).1 (bv [UInt8.ofNat (n % 128 + 128)]) :=
        .inr ⟨s.heap.length, 1, rfl, Nat.le_refl _, by rw [g3.2 _ (by simp [newBytes, St.push])]; exact push_get, by simp [bv], by omega⟩
      have hle : s.heap.length ≤ s'.heap.length := Nat.le_trans (by simp [newBytes, St.push]) g3.1
      have hlen := encF_len (k + 1) (n / 128)
      obtain ⟨v2, s2, f1, f2, f3⟩ := own_append (w := 1) hO hle (by omega) (by omega) (y := v) (m := (encF (k + 1) (n / 128)).length) (by
        rcases g2 with ⟨rfl, e⟩ | ⟨b, len, rfl, _, _, e, _⟩
        · rw [bv_inj (m := []) e]; rfl
        · rw [bv_length, Nat.mul_one] at e; rw [e]; rfl) (elems_of g2.cells) (by rw [bv_length, Nat.mul_one]) (by rw [bv_length, bv_length]; simp; omega)
      refine ⟨v2, s2, ref01_Num_of hl (r := (v2, s2)) ?_, ?_, ((newBytes_ext (Nat.le_refl _)).trans (g3.less (by simp [newBytes, St.push]))).trans f3⟩
      · unfold ref01_Num
        simp only [Option.bind_some, Option.map_some, getL_0, getL_1, getL_2, getL_3, getL_4, getL_5, getL_6, getL_7, getL_8, getL_9, getL_10, getL_11, getL_12, condV_t, condV_f, guardV_tt, guardV_ff, guardV_tf, guardV_ft, guardV_u, apick_t, apick_f, exV_exit, exV_ret, lookE_same, joinK_eq, seqA_n, seqA_e, seqA_r, e_add, e_sub, e_mul, e_eql, e_neq, e_lss, e_leq, e_gtr, e_geq, e_conv, e_not, e_neg, and_guard, or_guard, hc, hrem, wrapu8, hm, hw, hb, hquo, ref01_Num_call, g1, f1]
        rcases f2 with ⟨rfl, _⟩ | ⟨b, len, rfl, _⟩ <;> rfl
      · rw [encF, if_neg hn, ← List.singleton_append, bv_append]
        exact f2

end Go.Proofs.Ytpbbbfemnkeplaa.Ab
