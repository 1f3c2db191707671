/- FrameBursts, FrameCuts: what the laws say. -/
import Derived.Test.YtpbbbfemnkeplaaFrBack
set_option linter.unusedVariables false
set_option linter.unusedSimpArgs false
set_option linter.unusedSectionVars false
namespace Go.Proofs.Ytpbbbfemnkeplaa.Ab
open Go

theorem same_bool (o1 o2 : Operand) (a b : Bool) : abin Try.prog .eql 4 o1 o2 (.bool a) (.bool b) = some (.bool (a == b)) := by
  unfold abin
  rw [Try.underlying4]
  rfl
theorem Bursts_loop {R : Caller} {w at_ : Nat} (hw : w < 4294967296) {l : List UInt8} (hl : l.length ≤ 100000) (hat : at_ < 8 * l.length) {N : Nat} {c : Value} : ∀ (d k : Nat) (m : List UInt8) (s : St), k + d = 32 → at_ + k ≤ 8 * l.length → m.length = l.length → N ≤ s.heap.length → Own N 1 s c (bv m) → leX m = leX l ^^^ 2 ^ at_ * (w % 2 ^ k) →
    ∃ (m' : List UInt8) (w' : Nat) (s' : St), loopL (law05_FrameBursts.b0 R) [.int .i64 (at_ : Int), .int .u32 (w : Int), .bool true, c, .int .i64 ((8 * l.length : Nat) : Int), .bool (decide (w % 2 ^ k ≠ 0)), .int .i64 (k : Int)] s = some (.exit 0, [.bool true, c, .bool (decide (w' ≠ 0))], s') ∧ Own N 1 s' c (bv m') ∧ m'.length = l.length ∧ leX m' = leX l ^^^ 2 ^ at_ * w' ∧ w' < 4294967296 ∧ Ext N s s' := by
  intro d
  induction d with
  | zero =>
    intro k m s hk hk2 hm hN ho hx
    refine ⟨m, w % 2 ^ k, s, ?_, ho, hm, hx, Nat.lt_of_le_of_lt (Nat.mod_le _ _) hw, .refl _ _⟩
    rw [loopL_eq]
    have h1 : decide ((k : Int) < 32) = false := by simp; omega
    simp only [law05_FrameBursts.b0, h1, Option.bind_some, Option.map_some, getL_0, getL_1, getL_2, getL_3, getL_4, getL_5, getL_6, getL_7, getL_8, getL_9, getL_10, getL_11, getL_12, condV_t, condV_f, guardV_tt, guardV_ff, guardV_tf, guardV_ft, guardV_u, apick_t, apick_f, exV_exit, exV_ret, lookE_same, joinK_eq, seqA_n, seqA_e, seqA_r, e_add, e_sub, e_mul, e_eql, e_neq, e_lss, e_leq, e_gtr, e_geq, e_conv, e_not, e_neg, and_guard, or_guard]
  | succ d IH =>
    intro k m s hk hk2 hm hN ho hx
    have h1 : decide ((k : Int) < 32) = true := by simp; omega
    have h2 : IntKind.wrap .i64 ((at_ : Int) + (k : Int)) = ((at_ + k : Nat) : Int) := by rw [wrap_i64 (by omega) (by omega)]; omega
    by_cases hend : at_ + k = 8 * l.length
    · refine ⟨m, w % 2 ^ k, s, ?_, ho, hm, hx, Nat.lt_of_le_of_lt (Nat.mod_le _ _) hw, .refl _ _⟩
      rw [loopL_eq]
      have h3 : decide (((at_ + k : Nat) : Int) < ((8 * l.length : Nat) : Int)) = false := by simp; omega
      simp only [law05_FrameBursts.b0, h1, h2, h3, Option.bind_some, Option.map_some, getL_0, getL_1, getL_2, getL_3, getL_4, getL_5, getL_6, getL_7, getL_8, getL_9, getL_10, getL_11, getL_12, condV_t, condV_f, guardV_tt, guardV_ff, guardV_tf, guardV_ft, guardV_u, apick_t, apick_f, exV_exit, exV_ret, lookE_same, joinK_eq, seqA_n, seqA_e, seqA_r, e_add, e_sub, e_mul, e_eql, e_neq, e_lss, e_leq, e_gtr, e_geq, e_conv, e_not, e_neg, and_guard, or_guard]
    have h3 : decide (((at_ + k : Nat) : Int) < ((8 * l.length : Nat) : Int)) = true := by simp; omega
    have hsh : ∀ o1 o2, abin Try.prog .shr 28 o1 o2 (.int .u32 (w : Int)) (.int .i64 (k : Int)) = some (.int .u32 ((w / 2 ^ k : Nat) : Int)) := fun o1 o2 => u_shr hw
    have han : ∀ o1 o2, abin Try.prog .and 28 o1 o2 (.int .u32 ((w / 2 ^ k : Nat) : Int)) (.int .u32 (1 : Int)) = some (.int .u32 ((w / 2 ^ k % 2 : Nat) : Int)) := fun o1 o2 => by
      rw [show (1 : Int) = ((1 : Nat) : Int) from rfl, u_and rfl (Nat.lt_of_le_of_lt (Nat.div_le_self _ _) hw) (by decide), Nat.and_one_is_mod]
    have hmod : w % 2 ^ (k + 1) = w % 2 ^ k + 2 ^ k * (w / 2 ^ k % 2) := Nat.mod_pow_succ
    have hw1 : IntKind.wrap .i64 ((k : Int) + 1) = ((k + 1 : Nat) : Int) := by rw [wrap_i64 (by omega) (by omega)]; omega
    rcases Nat.mod_two_eq_zero_or_one (w / 2 ^ k) with hb | hb
    · rw [hb] at hmod han
      have h4 : (((0 : Nat) : Int) == 1) = false := rfl
      obtain ⟨m', w', s', q1, q2⟩ := IH (k + 1) m s (by omega) (by omega) hm hN ho (by rw [hmod, Nat.mul_zero, Nat.add_zero]; exact hx)
      refine ⟨m', w', s', ?_, q2⟩
      rw [hmod, Nat.mul_zero, Nat.add_zero] at q1
      rw [loopL_eq]
      simp only [law05_FrameBursts.b0, law05_FrameBursts.j0, h1, h2, h3, hsh, han, h4, hw1, Option.bind_some, Option.map_some, getL_0, getL_1, getL_2, getL_3, getL_4, getL_5, getL_6, getL_7, getL_8, getL_9, getL_10, getL_11, getL_12, condV_t, condV_f, guardV_tt, guardV_ff, guardV_tf, guardV_ft, guardV_u, apick_t, apick_f, exV_exit, exV_ret, lookE_same, joinK_eq, seqA_n, seqA_e, seqA_r, e_add, e_sub, e_mul, e_eql, e_neq, e_lss, e_leq, e_gtr, e_geq, e_conv, e_not, e_neg, and_guard, or_guard]
      rw [q1]
    · rw [hb] at hmod han
      have h4 : (((1 : Nat) : Int) == 1) = true := rfl
      have hi : (at_ + k) / 8 < m.length := by omega
      have hp : 2 ^ ((at_ + k) % 8) < 256 := Nat.lt_of_lt_of_le (Nat.pow_lt_pow_right (by omega) (Nat.mod_lt _ (by omega))) (by decide : 2 ^ 8 ≤ 256)
      obtain ⟨p, s2, p1, p2, p3, o2, x2⟩ := own_store ho hi (m[(at_ + k) / 8] ^^^ UInt8.ofNat (2 ^ ((at_ + k) % 8))) (k := .i64)
      rw [u8_xor hp] at p3
      have hq : ∀ o1 o2, abin Try.prog .quo 3 o1 o2 (.int .i64 ((at_ + k : Nat) : Int)) (.int .i64 (8 : Int)) = some (.int .i64 (((at_ + k) / 8 : Nat) : Int)) := fun o1 o2 => by
        rw [e_quo (by decide), show (((at_ + k : Nat) : Int)).tdiv 8 = (((at_ + k) / 8 : Nat) : Int) from rfl, wrap_i64 (by omega) (by omega)]
      have hr : ∀ o1 o2, abin Try.prog .rem 3 o1 o2 (.int .i64 ((at_ + k : Nat) : Int)) (.int .i64 (8 : Int)) = some (.int .i64 (((at_ + k) % 8 : Nat) : Int)) := fun o1 o2 => by
        rw [e_rem (by decide)]; rfl
      have hs : ∀ o1 o2, abin Try.prog .shl 5 o1 o2 (.int .u8 (1 : Int)) (.int .i64 (((at_ + k) % 8 : Nat) : Int)) = some (.int .u8 ((2 ^ ((at_ + k) % 8) : Nat) : Int)) := fun o1 o2 => by
        rw [show (1 : Int) = ((1 : Nat) : Int) from rfl, u_shl rfl, Nat.one_mul, show IntKind.u8.bits = 8 from rfl, Nat.mod_eq_of_lt (show 2 ^ ((at_ + k) % 8) < 2 ^ 8 from hp)]
      have hx2 : ∀ o1 o2, abin Try.prog .xor 5 o1 o2 (.int .u8 ((m[(at_ + k) / 8].toNat : Nat) : Int)) (.int .u8 ((2 ^ ((at_ + k) % 8) : Nat) : Int)) = some (.int .u8 ((m[(at_ + k) / 8].toNat ^^^ 2 ^ ((at_ + k) % 8) : Nat) : Int)) := fun o1 o2 => u_xor rfl (UInt8.toNat_lt _) hp
      have hlt : w % 2 ^ k < 2 ^ k := Nat.mod_lt _ (Nat.two_pow_pos k)
      have hx3 : leX (m.set ((at_ + k) / 8) (m[(at_ + k) / 8] ^^^ UInt8.ofNat (2 ^ ((at_ + k) % 8)))) = leX l ^^^ 2 ^ at_ * (w % 2 ^ (k + 1)) := by
        rw [leX_set m _ _ hi, ofNat_toNat hp, hx, hmod, Nat.mul_one, ← xor_bit hlt, pow_xor, Nat.xor_assoc, ← Nat.pow_add, ← Nat.pow_add]
        congr 3
        omega
      have ht : decide (w % 2 ^ (k + 1) ≠ 0) = true := by
        have := Nat.two_pow_pos k
        simp only [decide_eq_true_eq]
        rw [hmod]
        omega
      obtain ⟨m', w', s', q1, q2, q3, q4, q5, q6⟩ := IH (k + 1) _ s2 (by omega) (by omega) (by simpa using hm) (Nat.le_trans hN x2.1) o2 hx3
      refine ⟨m', w', s', ?_, q2, q3, q4, q5, x2.trans q6⟩
      rw [ht] at q1
      have hO : ownR s (undef, s2) = some (undef, s2) := by unfold ownR; rw [if_pos x2.1]
      rw [loopL_eq]
      simp only [law05_FrameBursts.b0, law05_FrameBursts.j0, h1, h2, h3, hsh, han, h4, hw1, hq, hr, hs, hx2, p1, p2, p3, own_same, hO, Option.bind_some, Option.map_some, getL_0, getL_1, getL_2, getL_3, getL_4, getL_5, getL_6, getL_7, getL_8, getL_9, getL_10, getL_11, getL_12, condV_t, condV_f, guardV_tt, guardV_ff, guardV_tf, guardV_ft, guardV_u, apick_t, apick_f, exV_exit, exV_ret, lookE_same, joinK_eq, seqA_n, seqA_e, seqA_r, e_add, e_sub, e_mul, e_eql, e_neq, e_lss, e_leq, e_gtr, e_geq, e_conv, e_not, e_neg, and_guard, or_guard]
      rw [q1]

theorem FrameBursts_law (s : St) (v : Value) (l : List UInt8) (h : bytesOf v s = some l) (hl : l.length ≤ 140737488355328) (a : Int) (wa : (Lit.int .i64 a).wf = true) (y : Int) (wy : (Lit.int .u32 y).wf = true) : ∃ s', (run Try.prog (libL libT) hints) 5 [v, .int .i64 a, .int .u32 y] s = some (.bool true, s') := by
  obtain ⟨w, rfl, hw⟩ := wf_u32 wy
  have key : ∃ s', law05_FrameBursts (run Try.prog (libL libT) hints) v (.int .i64 a) (.int .u32 (w : Int)) s = some (.bool true, s') := by
    unfold law05_FrameBursts
    simp only [k_live, bytes_len h, e_gtr, Option.bind_some]
    by_cases c1 : 4096 < l.length
    · have e1 : decide (((l.length : Nat) : Int) > 4096) = true := by simp; omega
      simp only [e1, condV_t, retV]
      exact ⟨_, rfl⟩
    have e1 : decide (((l.length : Nat) : Int) > 4096) = false := by simp; omega
    have c2 : l.length ≤ 4096 := by omega
    have g1 := gSeal_eq h c2
    have y1 : bytesOf (newBytes (sealL l) s).1 (newBytes (sealL l) s).2 = some (sealL l) := newBytes_bytes
    have o1 : Own s.heap.length 1 (newBytes (sealL l) s).2 (newBytes (sealL l) s).1 (bv (sealL l)) := newBytes_own (Nat.le_refl _) sealL_ne
    have n1 : s.heap.length ≤ (newBytes (sealL l) s).2.heap.length := (newBytes_ext (N := s.heap.length) (Nat.le_refl _)).1
    have xx : aextract 0 (pkE (newBytes (sealL l) s).1) = some (newBytes (sealL l) s).1 := xE_0 _
    have hlen : 6 ≤ (sealL l).length ∧ (sealL l).length ≤ 4103 := by
      have := sealL_len l; have := sealB_len l; have := enc_two (n := l.length) (by omega); have := @enc_pos l.length; omega
    have hmul : IntKind.wrap .i64 (8 * (((sealL l).length : Nat) : Int)) = ((8 * (sealL l).length : Nat) : Int) := by rw [wrap_i64 (by omega) (by omega)]; omega
    have e2 : ((((sealL l).length : Nat) : Int) == 0) = false := by rw [beq_eq_false_iff_ne]; omega
    generalize newBytes (sealL l) s = r1 at g1 y1 o1 n1 xx
    have hn0 : ((8 * (sealL l).length : Nat) : Int) ≠ 0 := by omega
    obtain ⟨i, hi, ei⟩ := place (a := a) (n := 8 * (sealL l).length) (by omega) (by omega)
    obtain ⟨m', w', s2, q1, q2, q3, q4, q5, q6⟩ := Bursts_loop (R := (run Try.prog (libL libT) hints)) hw (l := sealL l) (by omega) hi (c := r1.1) (N := s.heap.length) 32 0 (sealL l) r1.2 rfl (by omega) rfl n1 o1 (by simp [Nat.mod_one])
    have z0 : decide (w % 2 ^ 0 ≠ 0) = false := by simp [Nat.mod_one]
    rw [z0] at q1
    have z1 : (((0 : Nat)) : Int) = 0 := rfl
    rw [z1] at q1
    simp only [e1, condV_f, k_seal, g1, xx, xE_1, Option.bind_some, e_neq, z_ne, guardV_ff, bytes_len y1, e_eql, e2, getL_0, apick_f, e_mul, hmul, e_rem hn0, e_add, ei]
    rw [q1]
    by_cases e : w' = 0
    · have e3 : decide (w' ≠ 0) = false := by simp [e]
      have k1 := burst_none c2 q3 (by rw [q4, e, Nat.mul_zero, Nat.xor_zero])
      have k2 := gOpen_ok q2.bytes (by omega) (by rw [k1])
      have xx : aextract 0 (pkE (newBytes (openL m').1 s2).1) = some (newBytes (openL m').1 s2).1 := xE_0 _
      simp only [e3, Option.bind_some, Option.map_some, getL_0, getL_1, getL_2, getL_3, getL_4, getL_5, getL_6, getL_7, getL_8, getL_9, getL_10, getL_11, getL_12, condV_t, condV_f, guardV_tt, guardV_ff, guardV_tf, guardV_ft, guardV_u, apick_t, apick_f, exV_exit, exV_ret, lookE_same, joinK_eq, seqA_n, seqA_e, seqA_r, e_add, e_sub, e_mul, e_eql, e_neq, e_lss, e_leq, e_gtr, e_geq, e_conv, e_not, e_neg, and_guard, or_guard, k_open, k2, xx, xE_1, z_eq, Bool.not_false, retV]
      exact ⟨_, rfl⟩
    · have e3 : decide (w' ≠ 0) = true := by simp [e]
      have k1 := burst_no c2 q3 q5 e q4
      have k2 := gOpen_no q2.bytes (by omega) (by rw [k1]; decide)
      rw [k1] at k2
      have z50 : ((50 : Int) == 50) = true := rfl
      simp only [e3, Option.bind_some, Option.map_some, getL_0, getL_1, getL_2, getL_3, getL_4, getL_5, getL_6, getL_7, getL_8, getL_9, getL_10, getL_11, getL_12, condV_t, condV_f, guardV_tt, guardV_ff, guardV_tf, guardV_ft, guardV_u, apick_t, apick_f, exV_exit, exV_ret, lookE_same, joinK_eq, seqA_n, seqA_e, seqA_r, e_add, e_sub, e_mul, e_eql, e_neq, e_lss, e_leq, e_gtr, e_geq, e_conv, e_not, e_neg, and_guard, or_guard, k_open, k2, xN_0, xN_1, z50, retV]
      exact ⟨_, rfl⟩
  obtain ⟨s', h⟩ := key
  exact ⟨s', law05_FrameBursts_of rfl h⟩

theorem FrameCuts_law (s : St) (v : Value) (l : List UInt8) (h : bytesOf v s = some l) (hl : l.length ≤ 140737488355328) (a : Int) (wa : (Lit.int .i64 a).wf = true) (u : Value) (m : List UInt8) (hu : bytesOf u s = some m) (hm : m.length ≤ 140737488355328) : ∃ s', (run Try.prog (libL libT) hints) 6 [v, .int .i64 a, u] s = some (.bool true, s') := by
  have key : ∃ s', law05_FrameCuts (run Try.prog (libL libT) hints) v (.int .i64 a) u s = some (.bool true, s') := by
    unfold law05_FrameCuts
    simp only [k_live, bytes_len hu, e_gtr, Option.bind_some]
    by_cases c1 : 10000 < m.length
    · have e1 : decide (((m.length : Nat) : Int) > 10000) = true := by simp; omega
      simp only [e1, condV_t, retV]
      exact ⟨_, rfl⟩
    have e1 : decide (((m.length : Nat) : Int) > 10000) = false := by simp; omega
    by_cases c2 : 4096 < l.length
    · have g1 := gSeal_long h c2 hl
      have e3 : ((2 : Int) != 0) = true := rfl
      have e4 : ((2 : Int) == 2) = true := rfl
      have e5 : decide (((l.length : Nat) : Int) > 4096) = true := by simp; omega
      simp only [e1, k_seal, g1, xN_0, xN_1, e3, e4, e5, bytes_len h, Option.bind_some, Option.map_some, getL_0, getL_1, getL_2, getL_3, getL_4, getL_5, getL_6, getL_7, getL_8, getL_9, getL_10, getL_11, getL_12, condV_t, condV_f, guardV_tt, guardV_ff, guardV_tf, guardV_ft, guardV_u, apick_t, apick_f, exV_exit, exV_ret, lookE_same, joinK_eq, seqA_n, seqA_e, seqA_r, e_add, e_sub, e_mul, e_eql, e_neq, e_lss, e_leq, e_gtr, e_geq, e_conv, e_not, e_neg, and_guard, or_guard, retV]
      exact ⟨_, rfl⟩
    have c3 : l.length ≤ 4096 := by omega
    have g1 := gSeal_eq h c3
    have y1 : bytesOf (newBytes (sealL l) s).1 (newBytes (sealL l) s).2 = some (sealL l) := newBytes_bytes
    have x1 : Ext s.heap.length s (newBytes (sealL l) s).2 := newBytes_ext (Nat.le_refl _)
    have xx : aextract 0 (pkE (newBytes (sealL l) s).1) = some (newBytes (sealL l) s).1 := xE_0 _
    have hlen : 6 ≤ (sealL l).length ∧ (sealL l).length ≤ 4103 := by
      have := sealL_len l; have := sealB_len l; have := enc_two (n := l.length) (by omega); have := @enc_pos l.length; omega
    have e2 : ((((sealL l).length : Nat) : Int) == 0) = false := by rw [beq_eq_false_iff_ne]; omega
    generalize newBytes (sealL l) s = r1 at g1 y1 x1 xx
    have hn0 : (((sealL l).length : Nat) : Int) ≠ 0 := by omega
    obtain ⟨i, hi, ei⟩ := place (a := a) (n := (sealL l).length) (by omega) (by omega)
    obtain ⟨p, g2, g3⟩ := bytes_slice y1 (lo := none) (hi := some (.int .i64 (i : Int))) (mx := none) (i := 0) (j := i) rfl (by simp [abound]) (by omega) (by omega) (.inl rfl)
    simp only [List.drop_zero, Nat.sub_zero] at g3
    have k1 := cut_no c3 hi
    have g4 := gOpen_no g3 (by simp; omega) k1
    have k1' : ((openL ((sealL l).take i)).2 != 0) = true := by simp [k1]
    obtain ⟨c, s2, a2, o2, x2⟩ := own_copy y1 (by omega)
    have hu2 := x2.bytes (x1.bytes hu)
    obtain ⟨d, s3, a3, o3, x3⟩ := own_more o2 x2.1 hu2 (by omega)
    have hu3 : bytesOf u s3 = some m := (x2.trans x3).bytes (x1.bytes hu)
    have l0 : ∀ s, alenV (.slice 5) (.slice none 0 0) s = some (.int .i64 0) := fun _ => rfl
    simp only [e1, condV_f, k_seal, g1, xx, xE_1, Option.bind_some, e_neq, z_ne, guardV_ff, bytes_len y1, e_eql, e2, getL_0, apick_f, e_rem hn0, e_add, ei]
    simp only [g2, k_open, g4, xN_0, xN_1, Option.bind_some, a2, a3]
    by_cases e : m = []
    · have k2 := open_seal c3
      have hb := o3.bytes
      rw [e, List.append_nil] at hb
      have k3 := gOpen_ok hb (by omega) (by rw [k2])
      have yy : aextract 0 (pkE (newBytes (openL (sealL l)).1 s3).1) = some (newBytes (openL (sealL l)).1 s3).1 := xE_0 _
      have l1 : ((m.length : Nat) : Int) = 0 := by rw [e]; rfl
      simp only [k3, yy, xE_1, l0, l1, k1', bytes_len hu3, same_bool, beq_self_eq_true, z_eq, Option.bind_some, Option.map_some, getL_0, getL_1, getL_2, getL_3, getL_4, getL_5, getL_6, getL_7, getL_8, getL_9, getL_10, getL_11, getL_12, condV_t, condV_f, guardV_tt, guardV_ff, guardV_tf, guardV_ft, guardV_u, apick_t, apick_f, exV_exit, exV_ret, lookE_same, joinK_eq, seqA_n, seqA_e, seqA_r, e_add, e_sub, e_mul, e_eql, e_neq, e_lss, e_leq, e_gtr, e_geq, e_conv, e_not, e_neg, and_guard, or_guard, retV]
      exact ⟨_, rfl⟩
    · have k2 := more_no c3 e
      have k3 := gOpen_no o3.bytes (by rw [List.length_append]; omega) k2
      have k2' : ((openL (sealL l ++ m)).2 == 0) = false := by simp [k2]
      have l1 : (((m.length : Nat) : Int) == 0) = false := by
        rw [beq_eq_false_iff_ne]
        intro h0
        exact e (List.eq_nil_of_length_eq_zero (by omega))
      simp only [k3, xN_0, xN_1, l0, l1, k1', k2', bytes_len hu3, same_bool, beq_self_eq_true, z_eq, Option.bind_some, Option.map_some, getL_0, getL_1, getL_2, getL_3, getL_4, getL_5, getL_6, getL_7, getL_8, getL_9, getL_10, getL_11, getL_12, condV_t, condV_f, guardV_tt, guardV_ff, guardV_tf, guardV_ft, guardV_u, apick_t, apick_f, exV_exit, exV_ret, lookE_same, joinK_eq, seqA_n, seqA_e, seqA_r, e_add, e_sub, e_mul, e_eql, e_neq, e_lss, e_leq, e_gtr, e_geq, e_conv, e_not, e_neg, and_guard, or_guard, retV]
      exact ⟨_, rfl⟩
  obtain ⟨s', h⟩ := key
  exact ⟨s', law05_FrameCuts_of rfl h⟩

end Go.Proofs.Ytpbbbfemnkeplaa.Ab
