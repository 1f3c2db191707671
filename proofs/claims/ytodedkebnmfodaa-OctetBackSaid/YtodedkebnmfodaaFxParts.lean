/- OctetParts, OctetBursts: what the laws say. -/
import Derived.Test.YtodedkebnmfodaaFxOrder
import Derived.Test.YtodedkebnmfodaaFxOwn
import Derived.Test.YtodedkebnmfodaaFxBurst
set_option linter.unusedVariables false
set_option linter.unusedSimpArgs false
set_option linter.unusedSectionVars false
namespace Go.Proofs.Ytodedkebnmfodaa.Ab
open Go

/-- a place in a list, out of any number -/
theorem place {a : Int} {n : Nat} (hn : 0 < n) (hn2 : n ≤ 1000000) : ∃ i : Nat, i < n ∧ (IntKind.wrap .i64 (a.tmod (n : Int) + (n : Int))).tmod (n : Int) = (i : Int) := by
  have h1 := Int.tmod_lt_of_pos a (show (0 : Int) < (n : Int) by omega)
  have h2 := Int.lt_tmod_of_pos a (show (0 : Int) < (n : Int) by omega)
  rw [wrap_i64 (by omega) (by omega)]
  generalize a.tmod (n : Int) = r at *
  refine ⟨((r + n) % n).toNat, ?_, ?_⟩
  · have := Int.emod_lt_of_pos (r + n) (show (0 : Int) < (n : Int) by omega)
    have := Int.emod_nonneg (r + n) (show (n : Int) ≠ 0 by omega)
    omega
  · rw [Int.tmod_eq_emod_of_nonneg (by omega)]
    have := Int.emod_nonneg (r + n) (show (n : Int) ≠ 0 by omega)
    omega
theorem u8_xor {a : UInt8} {x : Nat} (hx : x < 256) : ((a ^^^ UInt8.ofNat x).toNat : Nat) = a.toNat ^^^ x := by
  rw [UInt8.toNat_xor, ofNat_toNat hx]
theorem sums_ne {a b : Nat} (h : a ≠ b) : (((a : Nat) : Int) != ((b : Nat) : Int)) = true := by
  rw [bne_iff_ne]
  omega
theorem sums_eq {a b : Nat} (h : a = b) : (((a : Nat) : Int) != ((b : Nat) : Int)) = false := by
  subst h
  simp

theorem OctetParts_law (s : St) (v : Value) (l : List UInt8) (h : bytesOf v s = some l) (hl : l.length ≤ 140737488355328) (a : Int) (wa : (Lit.int .i64 a).wf = true) (y : Int) (wy : (Lit.int .u8 y).wf = true) : ∃ s', (run Try.prog (libL lib16) hints) 7 [v, .int .i64 a, .int .u8 y] s = some (.bool true, s') := by
  obtain ⟨x, rfl, hx⟩ := wf_u8 wy
  have hlen : ∀ s2, alenV (.slice 5) v s2 = some (.int .i64 ((l.length : Nat) : Int)) := fun s2 => bytes_len h
  have key : ∃ s', law01_OctetParts (run Try.prog (libL lib16) hints) v (.int .i64 a) (.int .u8 (x : Int)) s = some (.bool true, s') := by
    unfold law01_OctetParts
    simp only [k_live, hlen, Option.bind_some, Option.map_some, getL_0, getL_1, getL_2, getL_3, getL_4, getL_5, getL_6, getL_7, getL_8, getL_9, getL_10, getL_11, getL_12, condV_t, condV_f, guardV_tt, guardV_ff, guardV_tf, guardV_ft, guardV_u, apick_t, apick_f, exV_exit, exV_ret, lookE_same, joinK_eq, seqA_n, seqA_e, seqA_r, e_add, e_sub, e_mul, e_eql, e_neq, e_lss, e_leq, e_gtr, e_geq, e_conv, e_not, e_neg, and_guard, or_guard]
    by_cases c1 : l.length = 0
    · have e1 : (((l.length : Nat) : Int) == 0) = true := by rw [c1]; rfl
      simp only [e1, Option.bind_some, Option.map_some, getL_0, getL_1, getL_2, getL_3, getL_4, getL_5, getL_6, getL_7, getL_8, getL_9, getL_10, getL_11, getL_12, condV_t, condV_f, guardV_tt, guardV_ff, guardV_tf, guardV_ft, guardV_u, apick_t, apick_f, exV_exit, exV_ret, lookE_same, joinK_eq, seqA_n, seqA_e, seqA_r, e_add, e_sub, e_mul, e_eql, e_neq, e_lss, e_leq, e_gtr, e_geq, e_conv, e_not, e_neg, and_guard, or_guard, Bool.or_false, Bool.or_true, Bool.true_or, Bool.false_or, retV]
      exact ⟨_, rfl⟩
    have e1 : (((l.length : Nat) : Int) == 0) = false := by rw [beq_eq_false_iff_ne]; omega
    by_cases c2 : 100000 < l.length
    · have e2 : decide (((l.length : Nat) : Int) > 100000) = true := by simp; omega
      simp only [e1, e2, hlen, Option.bind_some, Option.map_some, getL_0, getL_1, getL_2, getL_3, getL_4, getL_5, getL_6, getL_7, getL_8, getL_9, getL_10, getL_11, getL_12, condV_t, condV_f, guardV_tt, guardV_ff, guardV_tf, guardV_ft, guardV_u, apick_t, apick_f, exV_exit, exV_ret, lookE_same, joinK_eq, seqA_n, seqA_e, seqA_r, e_add, e_sub, e_mul, e_eql, e_neq, e_lss, e_leq, e_gtr, e_geq, e_conv, e_not, e_neg, and_guard, or_guard, Bool.or_false, Bool.or_true, Bool.true_or, Bool.false_or, retV]
      exact ⟨_, rfl⟩
    have e2 : decide (((l.length : Nat) : Int) > 100000) = false := by simp; omega
    by_cases c3 : x = 0
    · have e3 : ((x : Int) == 0) = true := by rw [c3]; rfl
      simp only [e1, e2, e3, hlen, Option.bind_some, Option.map_some, getL_0, getL_1, getL_2, getL_3, getL_4, getL_5, getL_6, getL_7, getL_8, getL_9, getL_10, getL_11, getL_12, condV_t, condV_f, guardV_tt, guardV_ff, guardV_tf, guardV_ft, guardV_u, apick_t, apick_f, exV_exit, exV_ret, lookE_same, joinK_eq, seqA_n, seqA_e, seqA_r, e_add, e_sub, e_mul, e_eql, e_neq, e_lss, e_leq, e_gtr, e_geq, e_conv, e_not, e_neg, and_guard, or_guard, Bool.or_false, Bool.or_true, Bool.true_or, Bool.false_or, retV]
      exact ⟨_, rfl⟩
    have e3 : ((x : Int) == 0) = false := by rw [beq_eq_false_iff_ne]; omega
    obtain ⟨c, s1, a1, o1, x1⟩ := own_copy h hl
    obtain ⟨i, hi, ei⟩ := place (a := a) (n := l.length) (by omega) (by omega)
    obtain ⟨p, s2, p1, p2, p3, o2, x2⟩ := own_store o1 hi (l[i] ^^^ UInt8.ofNat x) (k := .i64)
    rw [u8_xor hx] at p3
    have hn0 : ((l.length : Nat) : Int) ≠ 0 := by omega
    have hb : bytesOf v s2 = some l := (x1.trans x2).bytes h
    have hs : (((sumV l : Nat) : Int) != ((sumV (l.set i (l[i] ^^^ UInt8.ofNat x)) : Nat) : Int)) = true := by
      have := sum_window (l := l) (m := l.set i (l[i] ^^^ UInt8.ofNat x)) (at_ := 8 * i) (w := x) (by simp) (by omega) (by omega) (by rw [leX_set l i _ hi, ofNat_toNat hx])
      exact sums_ne fun e => c3 (this.1 e)
    have hx2 : ∀ o1 o2, abin Try.prog .xor 5 o1 o2 (.int .u8 ((l[i].toNat : Nat) : Int)) (.int .u8 (x : Int)) = some (.int .u8 ((l[i].toNat ^^^ x : Nat) : Int)) := fun o1 o2 => u_xor rfl (l[i].toNat_lt) hx
    simp only [e1, e2, e3, hlen, Option.bind_some, Option.map_some, getL_0, getL_1, getL_2, getL_3, getL_4, getL_5, getL_6, getL_7, getL_8, getL_9, getL_10, getL_11, getL_12, condV_t, condV_f, guardV_tt, guardV_ff, guardV_tf, guardV_ft, guardV_u, apick_t, apick_f, exV_exit, exV_ret, lookE_same, joinK_eq, seqA_n, seqA_e, seqA_r, e_add, e_sub, e_mul, e_eql, e_neq, e_lss, e_leq, e_gtr, e_geq, e_conv, e_not, e_neg, and_guard, or_guard, Bool.or_false, a1, e_rem hn0, ei, p1, p2, hx2, p3, k_Sum hb hl, k_Sum o2.bytes (show (l.set i (l[i] ^^^ UInt8.ofNat x)).length ≤ 140737488355328 by simp; omega), hs, Bool.or_false, Bool.or_true, Bool.true_or, Bool.false_or, retV]
    exact ⟨_, rfl⟩
  obtain ⟨s', h⟩ := key
  exact ⟨s', law01_OctetParts_of rfl h⟩

end Go.Proofs.Ytodedkebnmfodaa.Ab
