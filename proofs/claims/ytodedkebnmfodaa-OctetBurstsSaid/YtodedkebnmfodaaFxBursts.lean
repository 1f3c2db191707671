/- OctetBursts: what the law says. -/
import Derived.Test.YtodedkebnmfodaaFxParts
set_option linter.unusedVariables false
set_option linter.unusedSimpArgs false
set_option linter.unusedSectionVars false
namespace Go.Proofs.Ytodedkebnmfodaa.Ab
open Go

theorem xor_bit {a k : Nat} (h : a < 2 ^ k) : a ^^^ 2 ^ k = a + 2 ^ k := by
  have h1 := Nat.two_pow_add_eq_or_of_lt (i := k) h 1
  have h2 : 2 ^ k * 1 ||| a = 2 ^ k * 1 ^^^ a := by
    apply Nat.eq_of_testBit_eq
    intro i
    rw [Nat.testBit_or, Nat.testBit_xor, Nat.testBit_two_pow_mul]
    by_cases hi : k ≤ i
    · have : a.testBit i = false := Nat.testBit_lt_two_pow (Nat.lt_of_lt_of_le h (Nat.pow_le_pow_right (by omega) hi))
      simp [this]
    · simp [hi]
  rw [Nat.mul_one] at h1 h2
  rw [Nat.xor_comm, ← h2, ← h1, Nat.add_comm]
theorem own_same {α : Type} {s : St} {a : α} : ownR s (a, s) = some (a, s) := by unfold ownR; rw [if_pos (Nat.le_refl _)]

theorem Bursts_loop {R : Caller} {x0 : Value} {w at_ : Nat} (hw : w < 4294967296) {l : List UInt8} (hl : l.length ≤ 100000) (hat : at_ < 8 * l.length) {N : Nat} {c : Value} : ∀ (d k : Nat) (m : List UInt8) (s : St), k + d = 32 → at_ + k ≤ 8 * l.length → m.length = l.length → N ≤ s.heap.length → Own N 1 s c (bv m) → leX m = leX l ^^^ 2 ^ at_ * (w % 2 ^ k) →
    ∃ (m' : List UInt8) (w' : Nat) (s' : St), loopL (law01_OctetBursts.b12 R) [x0, .int .i64 (at_ : Int), .int .u32 (w : Int), .bool true, .int .i64 ((8 * l.length : Nat) : Int), c, .bool (decide (w % 2 ^ k ≠ 0)), .int .i64 (k : Int)] s = some (.exit 0, [x0, .bool true, c, .bool (decide (w' ≠ 0))], s') ∧ Own N 1 s' c (bv m') ∧ m'.length = l.length ∧ leX m' = leX l ^^^ 2 ^ at_ * w' ∧ w' < 4294967296 ∧ Ext N s s' := by
  intro d
  induction d with
  | zero =>
    intro k m s hk hk2 hm hN ho hx
    refine ⟨m, w % 2 ^ k, s, ?_, ho, hm, hx, Nat.lt_of_le_of_lt (Nat.mod_le _ _) hw, .refl _ _⟩
    rw [loopL_eq]
    have h1 : decide ((k : Int) < 32) = false := by simp; omega
    simp only [law01_OctetBursts.b12, h1, Option.bind_some, Option.map_some, getL_0, getL_1, getL_2, getL_3, getL_4, getL_5, getL_6, getL_7, getL_8, getL_9, getL_10, getL_11, getL_12, condV_t, condV_f, guardV_tt, guardV_ff, guardV_tf, guardV_ft, guardV_u, apick_t, apick_f, exV_exit, exV_ret, lookE_same, joinK_eq, seqA_n, seqA_e, seqA_r, e_add, e_sub, e_mul, e_eql, e_neq, e_lss, e_leq, e_gtr, e_geq, e_conv, e_not, e_neg, and_guard, or_guard]
  | succ d IH =>
    intro k m s hk hk2 hm hN ho hx
    have h1 : decide ((k : Int) < 32) = true := by simp; omega
    have h2 : IntKind.wrap .i64 ((at_ : Int) + (k : Int)) = ((at_ + k : Nat) : Int) := by rw [wrap_i64 (by omega) (by omega)]; omega
    by_cases hend : at_ + k = 8 * l.length
    · refine ⟨m, w % 2 ^ k, s, ?_, ho, hm, hx, Nat.lt_of_le_of_lt (Nat.mod_le _ _) hw, .refl _ _⟩
      rw [loopL_eq]
      have h3 : decide (((at_ + k : Nat) : Int) < ((8 * l.length : Nat) : Int)) = false := by simp; omega
      simp only [law01_OctetBursts.b12, h1, h2, h3, Option.bind_some, Option.map_some, getL_0, getL_1, getL_2, getL_3, getL_4, getL_5, getL_6, getL_7, getL_8, getL_9, getL_10, getL_11, getL_12, condV_t, condV_f, guardV_tt, guardV_ff, guardV_tf, guardV_ft, guardV_u, apick_t, apick_f, exV_exit, exV_ret, lookE_same, joinK_eq, seqA_n, seqA_e, seqA_r, e_add, e_sub, e_mul, e_eql, e_neq, e_lss, e_leq, e_gtr, e_geq, e_conv, e_not, e_neg, and_guard, or_guard]
    have h3 : decide (((at_ + k : Nat) : Int) < ((8 * l.length : Nat) : Int)) = true := by simp; omega
    have hsh : ∀ o1 o2, abin Try.prog .shr 30 o1 o2 (.int .u32 (w : Int)) (.int .i64 (k : Int)) = some (.int .u32 ((w / 2 ^ k : Nat) : Int)) := fun o1 o2 => u_shr hw
    have han : ∀ o1 o2, abin Try.prog .and 30 o1 o2 (.int .u32 ((w / 2 ^ k : Nat) : Int)) (.int .u32 (1 : Int)) = some (.int .u32 ((w / 2 ^ k % 2 : Nat) : Int)) := fun o1 o2 => by
      rw [show (1 : Int) = ((1 : Nat) : Int) from rfl, u_and rfl (Nat.lt_of_le_of_lt (Nat.div_le_self _ _) hw) (by decide), Nat.and_one_is_mod]
    have hmod : w % 2 ^ (k + 1) = w % 2 ^ k + 2 ^ k * (w / 2 ^ k % 2) := Nat.mod_pow_succ
    have hw1 : IntKind.wrap .i64 ((k : Int) + 1) = ((k + 1 : Nat) : Int) := by rw [wrap_i64 (by omega) (by omega)]; omega
    rcases Nat.mod_two_eq_zero_or_one (w / 2 ^ k) with hb | hb
    · rw [hb] at hmod han
      have h4 : (((0 : Nat) : Int) == 1) = false := rfl
      obtain ⟨m', w', s', q1, q2⟩ := IH (k + 1) m s (by omega) (by omega) hm hN ho (by rw [hmod, Nat.mul_zero, Nat.add_zero]; exact hx)
      refine ⟨m', w', s', ?_, q2⟩
      rw [hmod, Nat.mul_zero, Nat.add_zero] at q1
      rw [loopL_eq]
      simp only [law01_OctetBursts.b12, law01_OctetBursts.j33, h1, h2, h3, hsh, han, h4, hw1, Option.bind_some, Option.map_some, getL_0, getL_1, getL_2, getL_3, getL_4, getL_5, getL_6, getL_7, getL_8, getL_9, getL_10, getL_11, getL_12, condV_t, condV_f, guardV_tt, guardV_ff, guardV_tf, guardV_ft, guardV_u, apick_t, apick_f, exV_exit, exV_ret, lookE_same, joinK_eq, seqA_n, seqA_e, seqA_r, e_add, e_sub, e_mul, e_eql, e_neq, e_lss, e_leq, e_gtr, e_geq, e_conv, e_not, e_neg, and_guard, or_guard]
      rw [q1]
    · rw [hb] at hmod han
      have h4 : (((1 : Nat) : Int) == 1) = true := rfl
      have hi : (at_ + k) / 8 < m.length := by omega
      have hp : 2 ^ ((at_ + k) % 8) < 256 := Nat.lt_of_lt_of_le (Nat.pow_lt_pow_right (by omega) (Nat.mod_lt _ (by omega))) (by decide : 2 ^ 8 ≤ 256)
      obtain ⟨p, s2, p1, p2, p3, o2, x2⟩ := own_store ho hi (m[(at_ + k) / 8] ^^^ UInt8.ofNat (2 ^ ((at_ + k) % 8))) (k := .i64)
      rw [u8_xor hp] at p3
      have hq : ∀ o1 o2, abin Try.prog .quo 3 o1 o2 (.int .i64 ((at_ + k : Nat) : Int)) (.int .i64 (8 : Int)) = some (.int .i64 (((at_ + k) / 8 : Nat) : Int)) := fun o1 o2 => by
        rw [e_quo (by decide), show (((at_ + k : Nat) : Int)).tdiv 8 = (((at_ + k) / 8 : Nat) : Int) from rfl, wrap_i64 (by omega) (by omega)]
      have hr : ∀ o1 o2, abin Try.prog .rem 3 o1 o2 (.int .i64 ((at_ + k : Nat) : Int)) (.int .i64 (8 : Int)) = some (.int .i64 (((at_ + k) % 8 : Nat) : Int)) := fun o1 o2 => by
        rw [e_rem (by decide)]; rfl
      have hs : ∀ o1 o2, abin Try.prog .shl 5 o1 o2 (.int .u8 (1 : Int)) (.int .i64 (((at_ + k) % 8 : Nat) : Int)) = some (.int .u8 ((2 ^ ((at_ + k) % 8) : Nat) : Int)) := fun o1 o2 => by
        rw [show (1 : Int) = ((1 : Nat) : Int) from rfl, u_shl rfl, Nat.one_mul, show IntKind.u8.bits = 8 from rfl, Nat.mod_eq_of_lt (show 2 ^ ((at_ + k) % 8) < 2 ^ 8 from hp)]
      have hx2 : ∀ o1 o2, abin Try.prog .xor 5 o1 o2 (.int .u8 ((m[(at_ + k) / 8].toNat : Nat) : Int)) (.int .u8 ((2 ^ ((at_ + k) % 8) : Nat) : Int)) = some (.int .u8 ((m[(at_ + k) / 8].toNat ^^^ 2 ^ ((at_ + k) % 8) : Nat) : Int)) := fun o1 o2 => u_xor rfl (UInt8.toNat_lt _) hp
      have hlt : w % 2 ^ k < 2 ^ k := Nat.mod_lt _ (Nat.two_pow_pos k)
      have hx3 : leX (m.set ((at_ + k) / 8) (m[(at_ + k) / 8] ^^^ UInt8.ofNat (2 ^ ((at_ + k) % 8)))) = leX l ^^^ 2 ^ at_ * (w % 2 ^ (k + 1)) := by
        rw [leX_set m _ _ hi, ofNat_toNat hp, hx, hmod, Nat.mul_one, ← xor_bit hlt, pow_xor, Nat.xor_assoc, ← Nat.pow_add, ← Nat.pow_add]
        congr 3
        omega
      have ht : decide (w % 2 ^ (k + 1) ≠ 0) = true := by
        have := Nat.two_pow_pos k
        simp only [decide_eq_true_eq]
        rw [hmod]
        omega
      obtain ⟨m', w', s', q1, q2, q3, q4, q5, q6⟩ := IH (k + 1) _ s2 (by omega) (by omega) (by simpa using hm) (Nat.le_trans hN x2.1) o2 hx3
      refine ⟨m', w', s', ?_, q2, q3, q4, q5, x2.trans q6⟩
      rw [ht] at q1
      have hO : ownR s (undef, s2) = some (undef, s2) := by unfold ownR; rw [if_pos x2.1]
      rw [loopL_eq]
      simp only [law01_OctetBursts.b12, law01_OctetBursts.j33, h1, h2, h3, hsh, han, h4, hw1, hq, hr, hs, hx2, p1, p2, p3, own_same, hO, Option.bind_some, Option.map_some, getL_0, getL_1, getL_2, getL_3, getL_4, getL_5, getL_6, getL_7, getL_8, getL_9, getL_10, getL_11, getL_12, condV_t, condV_f, guardV_tt, guardV_ff, guardV_tf, guardV_ft, guardV_u, apick_t, apick_f, exV_exit, exV_ret, lookE_same, joinK_eq, seqA_n, seqA_e, seqA_r, e_add, e_sub, e_mul, e_eql, e_neq, e_lss, e_leq, e_gtr, e_geq, e_conv, e_not, e_neg, and_guard, or_guard]
      rw [q1]

theorem OctetBursts_law (s : St) (v : Value) (l : List UInt8) (h : bytesOf v s = some l) (hl : l.length ≤ 140737488355328) (a : Int) (wa : (Lit.int .i64 a).wf = true) (y : Int) (wy : (Lit.int .u32 y).wf = true) : ∃ s', (run Try.prog (libL lib16) hints) 5 [v, .int .i64 a, .int .u32 y] s = some (.bool true, s') := by
  obtain ⟨w, rfl, hw⟩ := wf_u32 wy
  have hlen : ∀ s2, alenV (.slice 5) v s2 = some (.int .i64 ((l.length : Nat) : Int)) := fun s2 => bytes_len h
  have hmul : IntKind.wrap .i64 (8 * ((l.length : Nat) : Int)) = ((8 * l.length : Nat) : Int) := by rw [wrap_i64 (by omega) (by omega)]; omega
  have key : ∃ s', law01_OctetBursts (run Try.prog (libL lib16) hints) v (.int .i64 a) (.int .u32 (w : Int)) s = some (.bool true, s') := by
    unfold law01_OctetBursts
    simp only [k_live, hlen, hmul, Option.bind_some, Option.map_some, getL_0, getL_1, getL_2, getL_3, getL_4, getL_5, getL_6, getL_7, getL_8, getL_9, getL_10, getL_11, getL_12, condV_t, condV_f, guardV_tt, guardV_ff, guardV_tf, guardV_ft, guardV_u, apick_t, apick_f, exV_exit, exV_ret, lookE_same, joinK_eq, seqA_n, seqA_e, seqA_r, e_add, e_sub, e_mul, e_eql, e_neq, e_lss, e_leq, e_gtr, e_geq, e_conv, e_not, e_neg, and_guard, or_guard]
    by_cases c1 : l.length = 0
    · have e1 : (((8 * l.length : Nat) : Int) == 0) = true := by rw [c1]; rfl
      simp only [e1, Option.bind_some, Option.map_some, getL_0, getL_1, getL_2, getL_3, getL_4, getL_5, getL_6, getL_7, getL_8, getL_9, getL_10, getL_11, getL_12, condV_t, condV_f, guardV_tt, guardV_ff, guardV_tf, guardV_ft, guardV_u, apick_t, apick_f, exV_exit, exV_ret, lookE_same, joinK_eq, seqA_n, seqA_e, seqA_r, e_add, e_sub, e_mul, e_eql, e_neq, e_lss, e_leq, e_gtr, e_geq, e_conv, e_not, e_neg, and_guard, or_guard, Bool.or_false, Bool.or_true, Bool.true_or, Bool.false_or, retV]
      exact ⟨_, rfl⟩
    have e1 : (((8 * l.length : Nat) : Int) == 0) = false := by rw [beq_eq_false_iff_ne]; omega
    by_cases c2 : 100000 < l.length
    · have e2 : decide (((l.length : Nat) : Int) > 100000) = true := by simp; omega
      simp only [e1, e2, hlen, Option.bind_some, Option.map_some, getL_0, getL_1, getL_2, getL_3, getL_4, getL_5, getL_6, getL_7, getL_8, getL_9, getL_10, getL_11, getL_12, condV_t, condV_f, guardV_tt, guardV_ff, guardV_tf, guardV_ft, guardV_u, apick_t, apick_f, exV_exit, exV_ret, lookE_same, joinK_eq, seqA_n, seqA_e, seqA_r, e_add, e_sub, e_mul, e_eql, e_neq, e_lss, e_leq, e_gtr, e_geq, e_conv, e_not, e_neg, and_guard, or_guard, Bool.or_false, Bool.or_true, Bool.true_or, Bool.false_or, retV]
      exact ⟨_, rfl⟩
    have e2 : decide (((l.length : Nat) : Int) > 100000) = false := by simp; omega
    obtain ⟨c, s1, a1, o1, x1⟩ := own_copy h hl
    obtain ⟨i, hi, ei⟩ := place (a := a) (n := 8 * l.length) (by omega) (by omega)
    have hn0 : ((8 * l.length : Nat) : Int) ≠ 0 := by omega
    obtain ⟨m', w', s2, q1, q2, q3, q4, q5, q6⟩ := Bursts_loop (R := (run Try.prog (libL lib16) hints)) (x0 := v) hw (l := l) (by omega) hi (c := c) (N := s.heap.length) 32 0 l s1 rfl (by omega) rfl x1.1 o1 (by simp [Nat.mod_one])
    have hb : bytesOf v s2 = some l := (x1.trans q6).bytes h
    have z0 : decide (w % 2 ^ 0 ≠ 0) = false := by simp [Nat.mod_one]
    rw [z0] at q1
    have z1 : (((0 : Nat)) : Int) = 0 := rfl
    rw [z1] at q1
    have hs : ((((sumV l : Nat) : Int) != ((sumV m' : Nat) : Int)) == decide (w' ≠ 0)) = true := by
      have := sum_window (l := l) (m := m') (at_ := i) (w := w') q3 q5 (by omega) q4
      by_cases e : w' = 0
      · rw [sums_eq (this.2 e)]; simp [e]
      · rw [sums_ne fun g => e (this.1 g)]; simp [e]
    simp only [e1, e2, hlen, Option.bind_some, Option.map_some, getL_0, getL_1, getL_2, getL_3, getL_4, getL_5, getL_6, getL_7, getL_8, getL_9, getL_10, getL_11, getL_12, condV_t, condV_f, guardV_tt, guardV_ff, guardV_tf, guardV_ft, guardV_u, apick_t, apick_f, exV_exit, exV_ret, lookE_same, joinK_eq, seqA_n, seqA_e, seqA_r, e_add, e_sub, e_mul, e_eql, e_neq, e_lss, e_leq, e_gtr, e_geq, e_conv, e_not, e_neg, and_guard, or_guard, Bool.or_false, a1, e_rem hn0, ei]
    rw [q1]
    simp only [Option.bind_some, Option.map_some, getL_0, getL_1, getL_2, getL_3, getL_4, getL_5, getL_6, getL_7, getL_8, getL_9, getL_10, getL_11, getL_12, condV_t, condV_f, guardV_tt, guardV_ff, guardV_tf, guardV_ft, guardV_u, apick_t, apick_f, exV_exit, exV_ret, lookE_same, joinK_eq, seqA_n, seqA_e, seqA_r, e_add, e_sub, e_mul, e_eql, e_neq, e_lss, e_leq, e_gtr, e_geq, e_conv, e_not, e_neg, and_guard, or_guard, k_Sum hb hl, k_Sum q2.bytes (show m'.length ≤ 140737488355328 by omega), same_bool, hs, retV]
    exact ⟨_, rfl⟩
  obtain ⟨s', h⟩ := key
  exact ⟨s', law01_OctetBursts_of rfl h⟩

end Go.Proofs.Ytodedkebnmfodaa.Ab
