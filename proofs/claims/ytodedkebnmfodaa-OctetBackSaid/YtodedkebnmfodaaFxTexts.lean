/- OctetTexts: what the law says. -/
import Derived.Test.YtodedkebnmfodaaFxParts
set_option linter.unusedVariables false
set_option linter.unusedSimpArgs false
set_option linter.unusedSectionVars false
namespace Go.Proofs.Ytodedkebnmfodaa.Ab
open Go

theorem quiet_frz {v : Value} {s : St} : quietR s (v, frzS s) = (v, s) := by
  have := frzS_len s
  unfold quietR
  simp only
  rw [List.drop_eq_nil_of_le (by omega), List.append_nil]
theorem own_sameF {α : Type} {s : St} {a : α} : ownR s (a, s) = some (a, s) := by unfold ownR; rw [if_pos (Nat.le_refl _)]

theorem Texts_loop {R : Caller} {L N : Nat} (hL : L ≤ 140737488355328) {c a0 a1 a3 a4 a5 a6 a7 a8 : Value} : ∀ (d i : Nat) (m : List UInt8) (s : St), i + d = L → m.length = L → N ≤ s.heap.length → Own N 1 s c (bv m) →
    ∃ s', loopL (law01_OctetTexts.b11 R) [a0, a1, c, a3, a4, a5, a6, a7, a8, .int .i64 (L : Int), .int .i64 (i : Int)] s = some (.exit 0, [a0, a1, a3, a4, a5, a6, a7, a8], s') ∧ Ext N s s' := by
  intro d
  induction d with
  | zero =>
    intro i m s hi hm hN ho
    refine ⟨s, ?_, .refl _ _⟩
    rw [loopL_eq]
    have h1 : decide ((i : Int) < (L : Int)) = false := by simp; omega
    simp only [law01_OctetTexts.b11, h1, Option.bind_some, Option.map_some, getL_0, getL_1, getL_2, getL_3, getL_4, getL_5, getL_6, getL_7, getL_8, getL_9, getL_10, getL_11, getL_12, condV_t, condV_f, guardV_tt, guardV_ff, guardV_tf, guardV_ft, guardV_u, apick_t, apick_f, exV_exit, exV_ret, lookE_same, joinK_eq, seqA_n, seqA_e, seqA_r, e_add, e_sub, e_mul, e_eql, e_neq, e_lss, e_leq, e_gtr, e_geq, e_conv, e_not, e_neg, and_guard, or_guard]
  | succ d IH =>
    intro i m s hi hm hN ho
    have hil : i < m.length := by omega
    have h1 : decide ((i : Int) < (L : Int)) = true := by simp; omega
    obtain ⟨p, s2, p1, p2, p3, o2, x2⟩ := own_store ho hil (m[i] + 1) (k := .i64)
    obtain ⟨s', q1, q2⟩ := IH (i + 1) _ s2 (by omega) (by simpa using hm) (Nat.le_trans hN x2.1) o2
    refine ⟨s', ?_, x2.trans q2⟩
    have hw : IntKind.wrap .u8 (((m[i].toNat : Nat) : Int) + 1) = (((m[i] + 1).toNat : Nat) : Int) := by
      rw [show ((m[i].toNat : Nat) : Int) + 1 = ((m[i].toNat + 1 : Nat) : Int) by omega, wrapu8, UInt8.toNat_add]
      rfl
    have hw1 : IntKind.wrap .i64 ((i : Int) + 1) = ((i + 1 : Nat) : Int) := by rw [wrap_i64 (by omega) (by omega)]; omega
    rw [loopL_eq]
    simp only [law01_OctetTexts.b11, h1, p1, p2, hw, p3, hw1, Option.bind_some, Option.map_some, getL_0, getL_1, getL_2, getL_3, getL_4, getL_5, getL_6, getL_7, getL_8, getL_9, getL_10, getL_11, getL_12, condV_t, condV_f, guardV_tt, guardV_ff, guardV_tf, guardV_ft, guardV_u, apick_t, apick_f, exV_exit, exV_ret, lookE_same, joinK_eq, seqA_n, seqA_e, seqA_r, e_add, e_sub, e_mul, e_eql, e_neq, e_lss, e_leq, e_gtr, e_geq, e_conv, e_not, e_neg, and_guard, or_guard]
    exact q1

theorem OctetTexts_law (s : St) (t : ByteArray) (ht : t.size ≤ 140737488351232) (v : Value) (l : List UInt8) (h : bytesOf v s = some l) (hl : l.length ≤ 140737488351232) (a : Int) (wa : (Lit.int .i64 a).wf = true) : ∃ s', (run Try.prog (libL lib16) hints) 8 [.string t, v, .int .i64 a] s = some (.bool true, s') := by
  obtain ⟨ha1, ha2⟩ := wf_i64 wa
  have key : ∃ s', law01_OctetTexts (run Try.prog (libL lib16) hints) (.string t) v (.int .i64 a) s = some (.bool true, s') := by
    unfold law01_OctetTexts
    obtain ⟨c, s1, a1, o1, x1⟩ := own_copy h (by omega)
    have r1 := k_ReadText o1.bytes (by omega) ha1 ha2
    have r2 := k_refReadText (x1.bytes h) (by omega) ha1 ha2
    have hlen : ∀ s2, alenV (.slice 5) c s2 = some (.int .i64 ((l.length : Nat) : Int)) := fun s2 => bytes_len o1.bytes
    obtain ⟨s2, q1, q2⟩ := Texts_loop (R := (run Try.prog (libL lib16) hints)) (L := l.length) (by omega) (a0 := .string t) (a1 := .bool true) (a3 := sv (readText l a).1) (a4 := .int .i64 ((readText l a).2.1 : Int)) (a5 := .int .i64 (readText l a).2.2) (a6 := sv (readText l a).1) (a7 := .int .i64 ((readText l a).2.1 : Int)) (a8 := .int .i64 (readText l a).2.2) l.length 0 l s1 (by omega) rfl x1.1 o1
    rw [show (((0 : Nat)) : Int) = 0 from rfl] at q1
    simp only [k_live, a1, r1, r2, xT_0, xT_1, xT_2, hlen, Option.bind_some, Option.map_some, getL_0, getL_1, getL_2, getL_3, getL_4, getL_5, getL_6, getL_7, getL_8, getL_9, getL_10, getL_11, getL_12, condV_t, condV_f, guardV_tt, guardV_ff, guardV_tf, guardV_ft, guardV_u, apick_t, apick_f, exV_exit, exV_ret, lookE_same, joinK_eq, seqA_n, seqA_e, seqA_r, e_add, e_sub, e_mul, e_eql, e_neq, e_lss, e_leq, e_gtr, e_geq, e_conv, e_not, e_neg, and_guard, or_guard]
    rw [q1]
    by_cases c1 : 100000 < t.size
    · have e1 : decide ((t.size : Int) > 100000) = true := by simp; omega
      simp only [e_lenS, e1, own_sameF, quiet_frz, same_sv, beq_self_eq_true, Option.bind_some, Option.map_some, getL_0, getL_1, getL_2, getL_3, getL_4, getL_5, getL_6, getL_7, getL_8, getL_9, getL_10, getL_11, getL_12, condV_t, condV_f, guardV_tt, guardV_ff, guardV_tf, guardV_ft, guardV_u, apick_t, apick_f, exV_exit, exV_ret, lookE_same, joinK_eq, seqA_n, seqA_e, seqA_r, e_add, e_sub, e_mul, e_eql, e_neq, e_lss, e_leq, e_gtr, e_geq, e_conv, e_not, e_neg, and_guard, or_guard, retV]
      exact ⟨_, rfl⟩
    · have e1 : decide ((t.size : Int) > 100000) = false := by simp; omega
      have ht2 : t.size ≤ 140737488300000 := by omega
      simp only [e_lenS, e1, own_sameF, k_Text ht2, k_refText ht2, new_str, new_strF, quiet_new, quiet_new2, own_new, same_sv, beq_self_eq_true, Option.bind_some, Option.map_some, getL_0, getL_1, getL_2, getL_3, getL_4, getL_5, getL_6, getL_7, getL_8, getL_9, getL_10, getL_11, getL_12, condV_t, condV_f, guardV_tt, guardV_ff, guardV_tf, guardV_ft, guardV_u, apick_t, apick_f, exV_exit, exV_ret, lookE_same, joinK_eq, seqA_n, seqA_e, seqA_r, e_add, e_sub, e_mul, e_eql, e_neq, e_lss, e_leq, e_gtr, e_geq, e_conv, e_not, e_neg, and_guard, or_guard, retV]
      exact ⟨_, rfl⟩
  obtain ⟨s', h⟩ := key
  exact ⟨s', law01_OctetTexts_of rfl h⟩

end Go.Proofs.Ytodedkebnmfodaa.Ab
