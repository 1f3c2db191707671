/- OctetBack: what the law says. -/
import Derived.Test.YtodedkebnmfodaaFxTexts
set_option linter.unusedVariables false
set_option linter.unusedSimpArgs false
set_option linter.unusedSectionVars false
namespace Go.Proofs.Ytodedkebnmfodaa.Ab
open Go

theorem OctetBack_law (s : St) (a : Int) (wa : (Lit.int .u64 a).wf = true) (t : ByteArray) (ht : t.size ≤ 140737488351232) (v : Value) (l : List UInt8) (h : bytesOf v s = some l) (hl : l.length ≤ 140737488351232) : ∃ s', (run Try.prog (libL lib16) hints) 9 [.int .u64 a, .string t, v] s = some (.bool true, s') := by
  obtain ⟨n, rfl, hn⟩ := wf_u64 wa
  have key : ∃ s', law01_OctetBack (run Try.prog (libL lib16) hints) (.int .u64 (n : Int)) (.string t) v s = some (.bool true, s') := by
    unfold law01_OctetBack
    by_cases c1 : 100000 < t.size
    · have e1 : decide ((t.size : Int) > 100000) = true := by simp; omega
      simp only [k_live, e_lenS, e1, Option.bind_some, Option.map_some, getL_0, getL_1, getL_2, getL_3, getL_4, getL_5, getL_6, getL_7, getL_8, getL_9, getL_10, getL_11, getL_12, condV_t, condV_f, guardV_tt, guardV_ff, guardV_tf, guardV_ft, guardV_u, apick_t, apick_f, exV_exit, exV_ret, lookE_same, joinK_eq, seqA_n, seqA_e, seqA_r, e_add, e_sub, e_mul, e_eql, e_neq, e_lss, e_leq, e_gtr, e_geq, e_conv, e_not, e_neg, and_guard, or_guard, retV]
      exact ⟨_, rfl⟩
    have e1 : decide ((t.size : Int) > 100000) = false := by simp; omega
    have ht2 : t.size ≤ 140737488300000 := by omega
    have hlb : (textB t).length = (enc t.size).length + t.size := by unfold textB; rw [List.length_append]; rfl
    have hp2 := @enc_len n
    have hp3 := @enc_len t.size
    -- the number
    have b1 : Own s.heap.length 1 (newBytes (enc n) s).2 (newBytes (enc n) s).1 (bv (enc n)) := newBytes_own (Nat.le_refl _) enc_ne
    have x0 : Ext s.heap.length s (newBytes (enc n) s).2 := newBytes_ext (Nat.le_refl _)
    obtain ⟨c1, s1, a1, o1, x1⟩ := own_moreW b1 x0.1 (x0.bytes h) (by omega)
    have r1 := k_ReadNum o1.bytes
    rw [readNum_enc hn] at r1
    have E1 := x0.trans x1
    -- the text
    have b2 : Own s.heap.length 1 (newBytes (textB t) s1).2 (newBytes (textB t) s1).1 (bv (textB t)) := newBytes_own E1.1 textB_ne
    have x2 : Ext s.heap.length s1 (newBytes (textB t) s1).2 := newBytes_ext E1.1
    have E2 := E1.trans x2
    obtain ⟨c2, s2, a2, o2, x3⟩ := own_moreW b2 E2.1 (E2.bytes h) (by omega)
    have E3 := E2.trans x3
    have r2 := k_ReadText o2.bytes (by rw [List.length_append]; omega) (m := (t.size : Int)) (by omega) (by omega)
    rw [readText_enc ht2] at r2
    -- the later states
    have E4 : Ext s.heap.length s (newBytes (enc n) s2).2 := E3.trans (newBytes_ext E3.1)
    have E5 : Ext s.heap.length s (newBytes (textB t) (newBytes (enc n) s2).2).2 := E4.trans (newBytes_ext E4.1)
    have E6 : Ext s.heap.length s (newBytes (textB t) (newBytes (textB t) (newBytes (enc n) s2).2).2).2 := E5.trans (newBytes_ext E5.1)
    generalize hS : (newBytes (textB t) (newBytes (enc n) s2).2).2 = S5 at E5 E6
    have r3 := k_ReadText (newBytes_bytes (l := textB t) (s := S5)) (by omega) (m := (t.size : Int) - 1) (by omega) (by omega)
    rw [readText_long ht2] at r3
    generalize hS6 : (newBytes (textB t) S5).2 = S6 at E6 r3
    have hv6 := E6.bytes h
    have r4 := k_ReadNum hv6
    have l1 : ∀ s2' s3, alenV (.slice 5) (newBytes (enc n) s2').1 s3 = some (.int .i64 (((enc n).length : Nat) : Int)) := fun s2' s3 => bytes_len (newBytes_bytes (s := s2'))
    have l2 : ∀ s2' s3, alenV (.slice 5) (newBytes (textB t) s2').1 s3 = some (.int .i64 (((textB t).length : Nat) : Int)) := fun s2' s3 => bytes_len (newBytes_bytes (s := s2'))
    have hne : ∀ o1 o2, abin Try.prog .neq 9 o1 o2 (sv t.data.toList) (.string t) = some (.bool false) := fun o1 o2 => by
      rw [sv_of t, e_sneq]
      simp
    have hw : IntKind.wrap .i64 ((t.size : Int) - 1) = (t.size : Int) - 1 := wrap_i64 (by omega) (by omega)
    have hz : ∀ x : Int, (x != x) = false := fun x => by simp
    simp only [k_live, e_lenS, e1, k_Num hn, a1, r1, x3_0, x3_1, x3_2, k_Text ht2, a2, r2, xT_0, xT_1, xT_2, l1, l2, hne, hz, hw, hS, r3, hS6, r4, Bool.or_false, beq_self_eq_true, Option.bind_some, Option.map_some, getL_0, getL_1, getL_2, getL_3, getL_4, getL_5, getL_6, getL_7, getL_8, getL_9, getL_10, getL_11, getL_12, condV_t, condV_f, guardV_tt, guardV_ff, guardV_tf, guardV_ft, guardV_u, apick_t, apick_f, exV_exit, exV_ret, lookE_same, joinK_eq, seqA_n, seqA_e, seqA_r, e_add, e_sub, e_mul, e_eql, e_neq, e_lss, e_leq, e_gtr, e_geq, e_conv, e_not, e_neg, and_guard, or_guard, retV]
    have hlt := readNum_lt l
    by_cases c2 : (readNum l).2.2 = 0
    · have e2 : ((readNum l).2.2 != 0) = false := by simp [c2]
      have hk := readNum_k l c2
      have E7 : Ext s.heap.length s (newBytes (enc (readNum l).1) S6).2 := E6.trans (newBytes_ext E6.1)
      obtain ⟨u, g1, g2⟩ := bytes_slice (E7.bytes h) (lo := none) (hi := some (.int .i64 (((readNum l).2.1 : Nat) : Int))) (mx := none) (i := 0) (j := (readNum l).2.1) rfl (by simp [abound]) (by omega) (by omega) (.inl rfl)
      rw [Nat.sub_zero, List.drop_zero, ← enc_readNum c2, ← bytesOf_frz] at g2
      have g3 : abytesToStr u (frzS (newBytes (enc (readNum l).1) S6).2) = some (sv (enc (readNum l).1)) := bytes_str g2
      simp only [e2, k_Num hlt, quiet_new, quiet_new2, new_strF, g1, g3, same_sv, Option.bind_some, Option.map_some, getL_0, getL_1, getL_2, getL_3, getL_4, getL_5, getL_6, getL_7, getL_8, getL_9, getL_10, getL_11, getL_12, condV_t, condV_f, guardV_tt, guardV_ff, guardV_tf, guardV_ft, guardV_u, apick_t, apick_f, exV_exit, exV_ret, lookE_same, joinK_eq, seqA_n, seqA_e, seqA_r, e_add, e_sub, e_mul, e_eql, e_neq, e_lss, e_leq, e_gtr, e_geq, e_conv, e_not, e_neg, and_guard, or_guard, retV]
      exact ⟨_, rfl⟩
    · have e2 : ((readNum l).2.2 != 0) = true := by simp [c2]
      simp only [e2, quiet_frz, Option.bind_some, Option.map_some, getL_0, getL_1, getL_2, getL_3, getL_4, getL_5, getL_6, getL_7, getL_8, getL_9, getL_10, getL_11, getL_12, condV_t, condV_f, guardV_tt, guardV_ff, guardV_tf, guardV_ft, guardV_u, apick_t, apick_f, exV_exit, exV_ret, lookE_same, joinK_eq, seqA_n, seqA_e, seqA_r, e_add, e_sub, e_mul, e_eql, e_neq, e_lss, e_leq, e_gtr, e_geq, e_conv, e_not, e_neg, and_guard, or_guard, retV]
      exact ⟨_, rfl⟩
  obtain ⟨s', h⟩ := key
  exact ⟨s', law01_OctetBack_of rfl h⟩

end Go.Proofs.Ytodedkebnmfodaa.Ab
