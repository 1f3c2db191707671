/- OctetCuts: what the law says. -/
import Derived.Test.YtodedkebnmfodaaFxParts
set_option linter.unusedVariables false
set_option linter.unusedSimpArgs false
set_option linter.unusedSectionVars false
namespace Go.Proofs.Ytodedkebnmfodaa.Ab
open Go

theorem fix_row {s : St} (n : Nat) : ∃ p s1 s2 u l3, anew [.int .u8 0, .int .u8 0, .int .u8 0, .int .u8 0] s = some (p, s1) ∧ astore 4 p (fixV n) s1 = some s2 ∧ Ext s.heap.length s s2 ∧ asliceArr 4 1 p none (some (.int .i64 3)) none s2 = some u ∧ bytesOf u s2 = some l3 ∧ l3.length = 3 := by
  have hlt : s.heap.length < (s.push (.row 0 [.int .u8 0, .int .u8 0, .int .u8 0, .int .u8 0] .act)).heap.length := by simp [St.push]
  have hget : ((s.push (.row 0 [.int .u8 0, .int .u8 0, .int .u8 0, .int .u8 0] .act)).putB s.heap.length (.row 0 (bv (fixB n)) .act)).heap[s.heap.length]? = some (.row 0 (bv (fixB n)) .act) := by
    simp only [St.putB]
    rw [List.getElem?_set_self hlt]
  have hfl : (bv (fixB n)).length = 4 := rfl
  refine ⟨.pointer (some ⟨s.heap.length, 0, none⟩), s.push (.row 0 [.int .u8 0, .int .u8 0, .int .u8 0, .int .u8 0] .act), (s.push (.row 0 [.int .u8 0, .int .u8 0, .int .u8 0, .int .u8 0] .act)).putB s.heap.length (.row 0 (bv (fixB n)) .act), .slice (some ⟨s.heap.length, 0, none⟩) 3 4, (fixB n).take 3, rfl, ?_, ?_, ?_, ?_, rfl⟩
  · have hc : cellsV (fixV n) = bv (fixB n) := by rw [fixV_eq]; simp [cellsV]
    unfold astore
    simp only [hc]
    rw [if_pos ⟨hfl, rfl⟩]
    unfold writeN
    rw [push_get]
    simp only [hfl]
    rw [if_pos (by simp)]
    rfl
  · refine ⟨by simp [St.push, St.putB], fun c hc => ?_⟩
    simp only [St.putB, St.push]
    rw [List.getElem?_set_ne (by omega), List.getElem?_append_left hc]
  · unfold asliceArr
    simp only [hget]
    rfl
  · unfold bytesOf cellsOf
    simp only [show (3 : Nat) ≤ 4 by decide, if_true]
    unfold readN
    unfold Ab.readRow
    rw [hget]
    clear hget hlt
    generalize fixB n = f at hfl ⊢
    simp only [Option.bind_some, hfl]
    rw [if_pos (by decide)]
    rw [List.drop_zero, show 3 * 1 = 3 from rfl, ← bv_take]
    exact ubs_bv _

theorem OctetCuts_law (s : St) (a : Int) (wa : (Lit.int .u64 a).wf = true) (t : ByteArray) (ht : t.size ≤ 140737488351232) : ∃ s', (run Try.prog (libL lib16) hints) 11 [.int .u64 a, .string t] s = some (.bool true, s') := by
  obtain ⟨n, rfl, hn⟩ := wf_u64 wa
  have key : ∃ s', law01_OctetCuts (run Try.prog (libL lib16) hints) (.int .u64 (n : Int)) (.string t) s = some (.bool true, s') := by
    unfold law01_OctetCuts
    simp only [k_live, e_lenS, Option.bind_some, Option.map_some, getL_0, getL_1, getL_2, getL_3, getL_4, getL_5, getL_6, getL_7, getL_8, getL_9, getL_10, getL_11, getL_12, condV_t, condV_f, guardV_tt, guardV_ff, guardV_tf, guardV_ft, guardV_u, apick_t, apick_f, exV_exit, exV_ret, lookE_same, joinK_eq, seqA_n, seqA_e, seqA_r, e_add, e_sub, e_mul, e_eql, e_neq, e_lss, e_leq, e_gtr, e_geq, e_conv, e_not, e_neg, and_guard, or_guard]
    by_cases c1 : 10000 < t.size
    · have e1 : decide ((t.size : Int) > 10000) = true := by simp; omega
      simp only [e1, Option.bind_some, Option.map_some, getL_0, getL_1, getL_2, getL_3, getL_4, getL_5, getL_6, getL_7, getL_8, getL_9, getL_10, getL_11, getL_12, condV_t, condV_f, guardV_tt, guardV_ff, guardV_tf, guardV_ft, guardV_u, apick_t, apick_f, exV_exit, exV_ret, lookE_same, joinK_eq, seqA_n, seqA_e, seqA_r, e_add, e_sub, e_mul, e_eql, e_neq, e_lss, e_leq, e_gtr, e_geq, e_conv, e_not, e_neg, and_guard, or_guard, retV]
      exact ⟨_, rfl⟩
    have e1 : decide ((t.size : Int) > 10000) = false := by simp; omega
    have ht2 : t.size ≤ 140737488300000 := by omega
    have hlb : (textB t).length = (enc t.size).length + t.size := by unfold textB; rw [List.length_append]; rfl
    have hp := @enc_pos n
    have hp2 := @enc_len n
    have hp3 := @enc_len t.size
    have hp4 := @enc_pos t.size
    obtain ⟨m, hm, hf⟩ : ∃ m : Nat, IntKind.wrap .u32 (n : Int) = ((m : Nat) : Int) ∧ m < 4294967296 := ⟨n % 4294967296, wrapu32, Nat.mod_lt _ (by decide)⟩
    have cut : ∀ {l : List UInt8} {v : Value} {s : St}, bytesOf v s = some l → 0 < l.length → ∃ u, asliceV 1 v none (some (.int .i64 ((l.length - 1 : Nat) : Int))) none = some u ∧ bytesOf u s = some (l.take (l.length - 1)) := by
      intro l v s h hp
      obtain ⟨u, g1, g2⟩ := bytes_slice h (lo := none) (hi := some (.int .i64 ((l.length - 1 : Nat) : Int))) (mx := none) (i := 0) (j := l.length - 1) rfl (by simp [abound]) (by omega) (by omega) (.inl rfl)
      exact ⟨u, g1, by simpa using g2⟩
    have one : ∀ k : Nat, 0 < k → k ≤ 1000000 → IntKind.wrap .i64 ((k : Int) - 1) = ((k - 1 : Nat) : Int) := fun k h1 h2 => by rw [wrap_i64 (by omega) (by omega)]; omega
    have nz : ∀ k : Nat, 0 < k → (((k : Nat) : Int) == 0) = false := fun k hk => by rw [beq_eq_false_iff_ne]; omega
    have la : ∀ s2, alenV (.slice 5) (newBytes (enc n) s).1 s2 = some (.int .i64 (((enc n).length : Nat) : Int)) := fun s2 => bytes_len newBytes_bytes
    have lb : ∀ s2, alenV (.slice 5) (newBytes (textB t) (newBytes (enc n) s).2).1 s2 = some (.int .i64 (((textB t).length : Nat) : Int)) := fun s2 => bytes_len newBytes_bytes
    obtain ⟨p, t1, t2, u, l3, f1, f2, f3, f4, f5, f6⟩ := fix_row (s := (newBytes (textB t) (newBytes (enc n) s).2).2) m
    have ba : bytesOf (newBytes (enc n) s).1 t2 = some (enc n) := f3.bytes old_bytes
    have bb : bytesOf (newBytes (textB t) (newBytes (enc n) s).2).1 t2 = some (textB t) := f3.bytes newBytes_bytes
    obtain ⟨ua, g1, g2⟩ := cut ba hp
    obtain ⟨ub, g3, g4⟩ := cut bb (by omega)
    have r1 := k_ReadNum g2
    rw [readNum_cut hn] at r1
    have r2 := k_ReadText g4 (by rw [List.length_take]; omega) (m := (t.size : Int)) (by omega) (by omega)
    have r3 := k_ReadFixed f5 (by omega)
    rw [readFix_cut f6] at r3
    simp only [e1, k_Num hn, k_Text ht2, hm, k_Fixed hf, f1, f2, f4, la, lb, e_lenS, nz _ hp, nz _ (show 0 < (textB t).length by omega), one _ hp (by omega), one _ (show 0 < (textB t).length by omega) (by omega), g1, g3, r1, r2, r3, x3_0, x3_1, x3_2, xT_0, xT_1, xT_2, xF_0, xF_1, readText_cut ht2, Bool.or_false, beq_self_eq_true, Option.bind_some, Option.map_some, getL_0, getL_1, getL_2, getL_3, getL_4, getL_5, getL_6, getL_7, getL_8, getL_9, getL_10, getL_11, getL_12, condV_t, condV_f, guardV_tt, guardV_ff, guardV_tf, guardV_ft, guardV_u, apick_t, apick_f, exV_exit, exV_ret, lookE_same, joinK_eq, seqA_n, seqA_e, seqA_r, e_add, e_sub, e_mul, e_eql, e_neq, e_lss, e_leq, e_gtr, e_geq, e_conv, e_not, e_neg, and_guard, or_guard, retV]
    exact ⟨_, rfl⟩
  obtain ⟨s', h⟩ := key
  exact ⟨s', law01_OctetCuts_of rfl h⟩

end Go.Proofs.Ytodedkebnmfodaa.Ab
