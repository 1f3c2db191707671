/- The range of a key: what both functions do. -/
import Derived.Test.YtcahddipgocpfaaSpPoint
set_option linter.unusedVariables false
set_option linter.unusedSimpArgs false
set_option linter.unusedSectionVars false
namespace Go.Proofs.Ytcahddipgocpfaa.Ab
open Go

/-! ### Strings, and rows -/
theorem sv_app {a b : BL} : ((⟨a.toArray⟩ : ByteArray) ++ ⟨b.toArray⟩) = ⟨(a ++ b).toArray⟩ := by
  apply ByteArray.ext
  rw [ByteArray.data_append]
  simp
theorem e_sadd {P : Program} {t : TypeId} {o1 o2 : Operand} {a b : BL} (h : a.length + b.length ≤ 9223372036854775807) : abin P .add t o1 o2 (sv a) (sv b) = some (sv (a ++ b)) := by
  simp only [abin, strBin, sv, sv_app]
  rw [if_pos]
  simpa [ByteArray.size] using h
theorem sv_cut {k : BL} {n : Nat} (h : n ≤ k.length) : asliceStrV (sv k) none (some (.int .i64 (n : Int))) none = some (sv (k.take n)) := by
  have e : (⟨k.toArray⟩ : ByteArray).extract 0 n = ⟨(k.take n).toArray⟩ := by
    apply ByteArray.ext
    rw [ByteArray.data_extract]
    simp
  unfold asliceStrV sv asliceStr abound
  simp only [Int.toNat_natCast, Option.bind_some]
  rw [if_pos (by omega)]
  simp only [Option.bind_some]
  rw [if_pos ⟨Nat.zero_le _, by simpa [ByteArray.size] using h⟩, e]
theorem cv_bytes {k : BL} {s : St} (h : k.length ≤ 140737488355328) : convBytes (sv k) s = some (.slice (some ⟨s.heap.length, 0, none⟩) k.length k.length, s.push (.row 1 (bv k) .act)) := by
  unfold convBytes sv
  simp only
  rw [if_pos (by simpa [ByteArray.size] using h)]
  simp [ByteArray.size, bytesV_eq]
theorem ix_row {b n c i : Nat} (h : i < n) : aindexS 1 (.slice (some ⟨b, 0, none⟩) n c) (.int .i64 (i : Int)) = some (.pointer (some ⟨b, i, none⟩)) := by
  unfold aindexS
  simp only [Int.toNat_natCast, Nat.zero_add, Nat.mul_one]
  rw [if_pos (by omega)]
theorem ld_row {s : St} {b i : Nat} {k : BL} (h : readRow s b = some (bv k)) (hi : i < k.length) : aload false 1 (.pointer (some ⟨b, i, none⟩)) s = some (.int .u8 (((k.getD i 0).toNat : Nat) : Int)) := by
  unfold aload
  simp [h, bv, hi]
theorem cut_row {b n c m : Nat} (h : m ≤ c) : asliceV 1 (.slice (some ⟨b, 0, none⟩) n c) none (some (.int .i64 (m : Int))) none = some (.slice (some ⟨b, 0, none⟩) m c) := by
  unfold asliceV asliceSl abound
  simp only [Int.toNat_natCast, Option.isNone_none, Bool.true_or, if_true, Option.bind_some]
  rw [if_pos (by omega)]
  simp only [Option.bind_some]
  rw [if_pos (by omega)]
  simp [cutRow]
theorem str_row {s : St} {b n c : Nat} {k : BL} (h : readRow s b = some (bv k)) (hn : n ≤ k.length) (hc : n ≤ c) : abytesToStr (.slice (some ⟨b, 0, none⟩) n c) s = some (sv (k.take n)) := by
  apply bytes_str
  unfold bytesOf cellsOf
  simp only
  rw [if_pos hc]
  unfold readN
  rw [h]
  simp only [Option.bind_some, Nat.zero_add, Nat.mul_one, bv_length]
  rw [if_pos hn]
  simp only [Option.bind_some, List.drop_zero, ← bv_take]
  exact ubs_bv _
theorem st_row {s : St} {b i n : Nat} {cs : List Value} {v : Value} (h : s.heap[b]? = some (.row n cs .act)) (hi : i < cs.length) (hv : cellsV v = [v]) (hl : isLeaf v = true) : astore 1 (.pointer (some ⟨b, i, none⟩)) v s = some (s.putB b (.row n (cs.set i v) .act)) := by
  have h2 : putCells cs i [v] = cs.set i v := by
    unfold putCells
    rw [List.set_eq_take_append_cons_drop, if_pos hi]
    simp
  unfold astore writeN
  simp only [hv, List.length_singleton, List.all_cons, hl, List.all_nil, Bool.and_self, true_and, if_true, h]
  rw [if_pos (by omega), h2]

/-! ### The range of a key -/
def ptR (k : BL) : Rg := if k.length < 12 then (k, k ++ [0]) else match stripN k 12 with
  | 0 => (k, [])
  | n + 1 => (k, k.take n ++ [k.getD n 0 + 1])
def ptL (k : BL) : Rg × Int := if ckK k then (ptR k, 0) else (([], []), 20)
def ptV (p : Rg × Int) : Value := .tuple #[rv p.1, .int .i64 p.2]
theorem ckK_len {k : BL} (h : ckK k = true) : k.length ≤ 12 ∧ k ≠ [] := by
  unfold ckK at h
  simp at h
  exact ⟨h.2, h.1⟩
theorem ab1 (x : BL) : abuild Try.prog 23 [(0, sv x)] = some (rv (x, [])) := by kernel_rfl
theorem s_0 : (Value.string ⟨#[0]⟩) = sv [0] := rfl
theorem strip_le {k : BL} : ∀ n, stripN k n ≤ n
  | 0 => Nat.le_refl _
  | n + 1 => by
    unfold stripN
    split
    · exact Nat.le_succ_of_le (strip_le n)
    · exact Nat.le_refl _
theorem strip_ne {k : BL} {m : Nat} : ∀ {n}, stripN k n = m + 1 → k.getD m 0 ≠ 255
  | 0, h => by cases h
  | n + 1, h => by
    unfold stripN at h
    split at h
    · exact strip_ne h
    · rename_i h2
      cases h
      simpa using h2
theorem inc_u8 {c : UInt8} (h : c ≠ 255) : IntKind.wrap .u8 ((c.toNat : Int) + 1) = (((c + 1).toNat : Nat) : Int) := by
  have h1 : c.toNat < 256 := c.toNat_lt
  have h2 : c.toNat ≠ 255 := fun e => h (UInt8.toNat_inj.1 e)
  rw [wrap_u8 (by omega) (by omega)]
  rw [UInt8.toNat_add]
  have : (1 : UInt8).toNat = 1 := rfl
  omega

/-- one byte as a string -/
theorem one_str {s : St} {c : UInt8} : ∃ r, abuildSl 1 [(.int .u8 0)] 1 [(0, .int .u8 ((c.toNat : Nat) : Int))] s = some r ∧ s.heap.length ≤ r.2.heap.length ∧ abytesToStr r.1 r.2 = some (sv [c]) := by
  refine ⟨(.slice (some ⟨s.heap.length, 0, none⟩) 1 1, s.push (.row 1 (bv [c]) .act)), rfl, by simp [St.push], ?_⟩
  exact str_row (k := [c]) (n := 1) (by unfold readRow; rw [push_get]) (Nat.le_refl _) (Nat.le_refl _)
theorem refPoint_run {R : Caller} (hK : ∀ k s, R 13 [sv k] s = some (.int .i64 (eK k), s)) (k : BL) (s : St) : ∃ t, ref02_Point R (sv k) s = some (ptV (ptL k), t) := by
  unfold ref02_Point ptL
  simp only [z_rv, ref02_CheckKey_call, hK, eK_n, Option.bind_some, Option.map_some, getL_0, getL_1, getL_2, getL_3, getL_4, getL_5, getL_6, getL_7, getL_8, getL_9, getL_10, getL_11, getL_12, condV_t, condV_f, guardV_tt, guardV_ff, guardV_tf, guardV_ft, guardV_u, apick_t, apick_f, exV_exit, exV_ret, lookE_same, joinK_eq, seqA_n, seqA_e, seqA_r, e_add, e_sub, e_mul, e_eql, e_neq, e_lss, e_leq, e_gtr, e_geq, e_conv, e_not, e_neg, and_guard, or_guard]
  cases h1 : ckK k
  · refine ⟨s, ?_⟩
    simp only [h1, eK_f h1, Bool.not_false, if_false, Bool.false_eq_true, Option.bind_some, Option.map_some, getL_0, getL_1, getL_2, getL_3, getL_4, getL_5, getL_6, getL_7, getL_8, getL_9, getL_10, getL_11, getL_12, condV_t, condV_f, guardV_tt, guardV_ff, guardV_tf, guardV_ft, guardV_u, apick_t, apick_f, exV_exit, exV_ret, lookE_same, joinK_eq, seqA_n, seqA_e, seqA_r, e_add, e_sub, e_mul, e_eql, e_neq, e_lss, e_leq, e_gtr, e_geq, e_conv, e_not, e_neg, and_guard, or_guard, retV]
    rfl
  obtain ⟨h2, h3⟩ := ckK_len h1
  unfold ptR
  by_cases h4 : k.length < 12
  · refine ⟨s, ?_⟩
    have h5 : decide (((k.length : Nat) : Int) < 12) = true := by simp; omega
    have h6 : (k.length + [(0 : UInt8)].length) ≤ 9223372036854775807 := by simp; omega
    simp only [h1, h4, h5, e_lenV, s_0, e_sadd h6, ab2, st_rv, ld_rv, Bool.not_true, if_true, if_false, Bool.false_eq_true, Option.bind_some, Option.map_some, getL_0, getL_1, getL_2, getL_3, getL_4, getL_5, getL_6, getL_7, getL_8, getL_9, getL_10, getL_11, getL_12, condV_t, condV_f, guardV_tt, guardV_ff, guardV_tf, guardV_ft, guardV_u, apick_t, apick_f, exV_exit, exV_ret, lookE_same, joinK_eq, seqA_n, seqA_e, seqA_r, e_add, e_sub, e_mul, e_eql, e_neq, e_lss, e_leq, e_gtr, e_geq, e_conv, e_not, e_neg, and_guard, or_guard, retV]
    rfl
  have h5 : decide (((k.length : Nat) : Int) < 12) = false := by simp; omega
  have h6 : k.length = 12 := by omega
  have hL := refPoint_loop (R := R) (k := k) (c := rv ([], [])) (s := s) 12 (by omega) (by omega)
  have e12 : ((12 : Nat) : Int) = 12 := rfl
  rw [e12] at hL
  simp only [h1, h4, h5, e_lenV, hL, Bool.not_true, if_true, if_false, Bool.false_eq_true, Option.bind_some, Option.map_some, getL_0, getL_1, getL_2, getL_3, getL_4, getL_5, getL_6, getL_7, getL_8, getL_9, getL_10, getL_11, getL_12, condV_t, condV_f, guardV_tt, guardV_ff, guardV_tf, guardV_ft, guardV_u, apick_t, apick_f, exV_exit, exV_ret, lookE_same, joinK_eq, seqA_n, seqA_e, seqA_r, e_add, e_sub, e_mul, e_eql, e_neq, e_lss, e_leq, e_gtr, e_geq, e_conv, e_not, e_neg, and_guard, or_guard]
  have hn := strip_le (k := k) 12
  have hne := fun m => strip_ne (k := k) (m := m) (n := 12)
  generalize stripN k 12 = n at hn hne
  cases n with
  | zero =>
    refine ⟨s, ?_⟩
    have h7 : (((0 : Nat) : Int) == 0) = true := rfl
    simp only [h7, ab1, st_rv, ld_rv, Option.bind_some, Option.map_some, getL_0, getL_1, getL_2, getL_3, getL_4, getL_5, getL_6, getL_7, getL_8, getL_9, getL_10, getL_11, getL_12, condV_t, condV_f, guardV_tt, guardV_ff, guardV_tf, guardV_ft, guardV_u, apick_t, apick_f, exV_exit, exV_ret, lookE_same, joinK_eq, seqA_n, seqA_e, seqA_r, e_add, e_sub, e_mul, e_eql, e_neq, e_lss, e_leq, e_gtr, e_geq, e_conv, e_not, e_neg, and_guard, or_guard, retV]
    rfl
  | succ n =>
    have h7 : (((n + 1 : Nat) : Int) == 0) = false := by rw [beq_eq_false_iff_ne]; omega
    have hw : IntKind.wrap .i64 (((n + 1 : Nat) : Int) - 1) = (n : Int) := by rw [wrap_i64 (by omega) (by omega)]; omega
    obtain ⟨r, g1, g2, g3⟩ := one_str (s := s) (c := k.getD n 0 + 1)
    refine ⟨r.2, ?_⟩
    have h8 : ((k.take n).length + [k.getD n 0 + 1].length) ≤ 9223372036854775807 := by simp; omega
    simp only [h7, hw, sv_cut (show n ≤ k.length by omega), idx_sv (show n < k.length by omega), inc_u8 (hne n rfl), g1, Option.bind_some, Option.map_some, getL_0, getL_1, getL_2, getL_3, getL_4, getL_5, getL_6, getL_7, getL_8, getL_9, getL_10, getL_11, getL_12, condV_t, condV_f, guardV_tt, guardV_ff, guardV_tf, guardV_ft, guardV_u, apick_t, apick_f, exV_exit, exV_ret, lookE_same, joinK_eq, seqA_n, seqA_e, seqA_r, e_add, e_sub, e_mul, e_eql, e_neq, e_lss, e_leq, e_gtr, e_geq, e_conv, e_not, e_neg, and_guard, or_guard]
    have o1 : ownR s (r.1, r.2) = some (r.1, r.2) := if_pos g2
    simp only [o1, g3, Option.bind_some, Option.map_some, getL_0, getL_1, getL_2, getL_3, getL_4, getL_5, getL_6, getL_7, getL_8, getL_9, getL_10, getL_11, getL_12, condV_t, condV_f, guardV_tt, guardV_ff, guardV_tf, guardV_ft, guardV_u, apick_t, apick_f, exV_exit, exV_ret, lookE_same, joinK_eq, seqA_n, seqA_e, seqA_r, e_add, e_sub, e_mul, e_eql, e_neq, e_lss, e_leq, e_gtr, e_geq, e_conv, e_not, e_neg, and_guard, or_guard]
    have o2 : ownR r.2 (sv [k.getD n 0 + 1], r.2) = some (sv [k.getD n 0 + 1], r.2) := own_id
    simp only [o2, e_sadd h8, ab2, st_rv, ld_rv, Option.bind_some, Option.map_some, getL_0, getL_1, getL_2, getL_3, getL_4, getL_5, getL_6, getL_7, getL_8, getL_9, getL_10, getL_11, getL_12, condV_t, condV_f, guardV_tt, guardV_ff, guardV_tf, guardV_ft, guardV_u, apick_t, apick_f, exV_exit, exV_ret, lookE_same, joinK_eq, seqA_n, seqA_e, seqA_r, e_add, e_sub, e_mul, e_eql, e_neq, e_lss, e_leq, e_gtr, e_geq, e_conv, e_not, e_neg, and_guard, or_guard, retV]
    rfl

theorem Point_loop {R : Caller} {k : BL} {z x : Value} {s : St} {b c : Nat} (hr : readRow s b = some (bv k)) : ∀ (n : Nat), n ≤ k.length → n ≤ c → n ≤ 100 → loopL (span_Point.b0 R) [x, lptr, .slice (some ⟨b, 0, none⟩) n c, z] s = some (.exit 0, [x, lptr, .slice (some ⟨b, 0, none⟩) (stripN k n) c, z], s) := by
  intro n
  induction n with
  | zero =>
    intro _ _ _
    rw [loopL_eq]
    have h1 : decide (((0 : Nat) : Int) > 0) = false := rfl
    simp only [span_Point.b0, e_len, h1, Option.bind_some, Option.map_some, getL_0, getL_1, getL_2, getL_3, getL_4, getL_5, getL_6, getL_7, getL_8, getL_9, getL_10, getL_11, getL_12, condV_t, condV_f, guardV_tt, guardV_ff, guardV_tf, guardV_ft, guardV_u, apick_t, apick_f, exV_exit, exV_ret, lookE_same, joinK_eq, seqA_n, seqA_e, seqA_r, e_add, e_sub, e_mul, e_eql, e_neq, e_lss, e_leq, e_gtr, e_geq, e_conv, e_not, e_neg, and_guard, or_guard]
    rfl
  | succ n IH =>
    intro h h0 h2
    rw [loopL_eq]
    have h1 : decide (((n + 1 : Nat) : Int) > 0) = true := by rw [decide_eq_true_eq]; omega
    have hw : IntKind.wrap .i64 (((n + 1 : Nat) : Int) - 1) = (n : Int) := by rw [wrap_i64 (by omega) (by omega)]; omega
    simp only [span_Point.b0, e_len, h1, hw, ix_row (show n < n + 1 by omega), ld_row hr (show n < k.length by omega), is255, Option.bind_some, Option.map_some, getL_0, getL_1, getL_2, getL_3, getL_4, getL_5, getL_6, getL_7, getL_8, getL_9, getL_10, getL_11, getL_12, condV_t, condV_f, guardV_tt, guardV_ff, guardV_tf, guardV_ft, guardV_u, apick_t, apick_f, exV_exit, exV_ret, lookE_same, joinK_eq, seqA_n, seqA_e, seqA_r, e_add, e_sub, e_mul, e_eql, e_neq, e_lss, e_leq, e_gtr, e_geq, e_conv, e_not, e_neg, and_guard, or_guard]
    cases h3 : (k.getD n 0 == 255)
    · simp only [h3, Bool.and_false, Bool.and_true, Option.bind_some, Option.map_some, getL_0, getL_1, getL_2, getL_3, getL_4, getL_5, getL_6, getL_7, getL_8, getL_9, getL_10, getL_11, getL_12, condV_t, condV_f, guardV_tt, guardV_ff, guardV_tf, guardV_ft, guardV_u, apick_t, apick_f, exV_exit, exV_ret, lookE_same, joinK_eq, seqA_n, seqA_e, seqA_r, e_add, e_sub, e_mul, e_eql, e_neq, e_lss, e_leq, e_gtr, e_geq, e_conv, e_not, e_neg, and_guard, or_guard, stripN, if_false, Bool.false_eq_true]
    · simp only [h3, hw, e_len, cut_row (show n ≤ c by omega), Bool.and_true, Option.bind_some, Option.map_some, getL_0, getL_1, getL_2, getL_3, getL_4, getL_5, getL_6, getL_7, getL_8, getL_9, getL_10, getL_11, getL_12, condV_t, condV_f, guardV_tt, guardV_ff, guardV_tf, guardV_ft, guardV_u, apick_t, apick_f, exV_exit, exV_ret, lookE_same, joinK_eq, seqA_n, seqA_e, seqA_r, e_add, e_sub, e_mul, e_eql, e_neq, e_lss, e_leq, e_gtr, e_geq, e_conv, e_not, e_neg, and_guard, or_guard, stripN, if_true]
      exact IH (by omega) (by omega) (by omega)

theorem Point_run {R : Caller} (hK : ∀ k s, R 12 [sv k] s = some (.int .i64 (eK k), s)) (k : BL) (s : St) : ∃ t, span_Point R (sv k) s = some (ptV (ptL k), t) := by
  unfold span_Point ptL
  simp only [z_rv, span_CheckKey_call, hK, eK_n, Option.bind_some, Option.map_some, getL_0, getL_1, getL_2, getL_3, getL_4, getL_5, getL_6, getL_7, getL_8, getL_9, getL_10, getL_11, getL_12, condV_t, condV_f, guardV_tt, guardV_ff, guardV_tf, guardV_ft, guardV_u, apick_t, apick_f, exV_exit, exV_ret, lookE_same, joinK_eq, seqA_n, seqA_e, seqA_r, e_add, e_sub, e_mul, e_eql, e_neq, e_lss, e_leq, e_gtr, e_geq, e_conv, e_not, e_neg, and_guard, or_guard]
  cases h1 : ckK k
  · refine ⟨s, ?_⟩
    simp only [h1, eK_f h1, Bool.not_false, if_false, Bool.false_eq_true, Option.bind_some, Option.map_some, getL_0, getL_1, getL_2, getL_3, getL_4, getL_5, getL_6, getL_7, getL_8, getL_9, getL_10, getL_11, getL_12, condV_t, condV_f, guardV_tt, guardV_ff, guardV_tf, guardV_ft, guardV_u, apick_t, apick_f, exV_exit, exV_ret, lookE_same, joinK_eq, seqA_n, seqA_e, seqA_r, e_add, e_sub, e_mul, e_eql, e_neq, e_lss, e_leq, e_gtr, e_geq, e_conv, e_not, e_neg, and_guard, or_guard, retV]
    rfl
  obtain ⟨h2, h3⟩ := ckK_len h1
  unfold ptR
  by_cases h4 : k.length < 12
  · refine ⟨s, ?_⟩
    have h5 : decide (((k.length : Nat) : Int) < 12) = true := by simp; omega
    have h6 : (k.length + [(0 : UInt8)].length) ≤ 9223372036854775807 := by simp; omega
    simp only [h1, h4, h5, e_lenV, s_0, e_sadd h6, ab2, st_rv, ld_rv, Bool.not_true, if_true, if_false, Bool.false_eq_true, Option.bind_some, Option.map_some, getL_0, getL_1, getL_2, getL_3, getL_4, getL_5, getL_6, getL_7, getL_8, getL_9, getL_10, getL_11, getL_12, condV_t, condV_f, guardV_tt, guardV_ff, guardV_tf, guardV_ft, guardV_u, apick_t, apick_f, exV_exit, exV_ret, lookE_same, joinK_eq, seqA_n, seqA_e, seqA_r, e_add, e_sub, e_mul, e_eql, e_neq, e_lss, e_leq, e_gtr, e_geq, e_conv, e_not, e_neg, and_guard, or_guard, retV]
    rfl
  have h5 : decide (((k.length : Nat) : Int) < 12) = false := by simp; omega
  have h6 : k.length = 12 := by omega
  have hrow : readRow (s.push (.row 1 (bv k) .act)) s.heap.length = some (bv k) := by unfold readRow; rw [push_get]
  have hL := Point_loop (R := R) (k := k) (z := rv ([], [])) (x := sv k) (c := k.length) hrow k.length (Nat.le_refl _) (Nat.le_refl _) (by omega)
  simp only [h1, h4, h5, e_lenV, cv_bytes (show k.length ≤ 140737488355328 by omega), hL, e_len, Bool.not_true, if_true, if_false, Bool.false_eq_true, Option.bind_some, Option.map_some, getL_0, getL_1, getL_2, getL_3, getL_4, getL_5, getL_6, getL_7, getL_8, getL_9, getL_10, getL_11, getL_12, condV_t, condV_f, guardV_tt, guardV_ff, guardV_tf, guardV_ft, guardV_u, apick_t, apick_f, exV_exit, exV_ret, lookE_same, joinK_eq, seqA_n, seqA_e, seqA_r, e_add, e_sub, e_mul, e_eql, e_neq, e_lss, e_leq, e_gtr, e_geq, e_conv, e_not, e_neg, and_guard, or_guard]
  rw [h6]
  have hn := strip_le (k := k) 12
  have hne := fun m => strip_ne (k := k) (m := m) (n := 12)
  generalize stripN k 12 = n at hn hne
  cases n with
  | zero =>
    refine ⟨s.push (.row 1 (bv k) .act), ?_⟩
    have h7 : decide (((0 : Nat) : Int) > 0) = false := rfl
    simp only [h7, span_Point.j0, str_row hrow (show 0 ≤ k.length by omega) (show 0 ≤ 12 by omega), List.take_zero, ab2, st_rv, ld_rv, Option.bind_some, Option.map_some, getL_0, getL_1, getL_2, getL_3, getL_4, getL_5, getL_6, getL_7, getL_8, getL_9, getL_10, getL_11, getL_12, condV_t, condV_f, guardV_tt, guardV_ff, guardV_tf, guardV_ft, guardV_u, apick_t, apick_f, exV_exit, exV_ret, lookE_same, joinK_eq, seqA_n, seqA_e, seqA_r, e_add, e_sub, e_mul, e_eql, e_neq, e_lss, e_leq, e_gtr, e_geq, e_conv, e_not, e_neg, and_guard, or_guard, retV]
    rfl
  | succ n =>
    have h7 : decide (((n + 1 : Nat) : Int) > 0) = true := by rw [decide_eq_true_eq]; omega
    have hw : IntKind.wrap .i64 (((n + 1 : Nat) : Int) - 1) = (n : Int) := by rw [wrap_i64 (by omega) (by omega)]; omega
    have hset : (bv k).set n (.int .u8 (((k.getD n 0 + 1).toNat : Nat) : Int)) = bv (k.set n (k.getD n 0 + 1)) := by simp [bv, List.map_set]
    have hst := st_row (s := s.push (.row 1 (bv k) .act)) (b := s.heap.length) (i := n) (v := .int .u8 (((k.getD n 0 + 1).toNat : Nat) : Int)) push_get (by rw [bv_length]; omega) rfl rfl
    rw [hset] at hst
    have hrow2 : readRow ((s.push (.row 1 (bv k) .act)).putB s.heap.length (.row 1 (bv (k.set n (k.getD n 0 + 1))) .act)) s.heap.length = some (bv (k.set n (k.getD n 0 + 1))) := by
      unfold readRow
      simp [St.putB, St.push]
    have htake : (k.set n (k.getD n 0 + 1)).take (n + 1) = k.take n ++ [k.getD n 0 + 1] := by
      rw [List.take_add_one, List.getElem?_set_self (by omega), List.take_set_of_le (Nat.le_refl _)]
      rfl
    refine ⟨(s.push (.row 1 (bv k) .act)).putB s.heap.length (.row 1 (bv (k.set n (k.getD n 0 + 1))) .act), ?_⟩
    simp only [h7, hw, e_len, ix_row (show n < n + 1 by omega), ld_row hrow (show n < k.length by omega), inc_u8 (hne n rfl), hst, span_Point.j0, str_row hrow2 (show n + 1 ≤ _ by simp; omega) (show n + 1 ≤ 12 by omega), htake, ab2, st_rv, ld_rv, Option.bind_some, Option.map_some, getL_0, getL_1, getL_2, getL_3, getL_4, getL_5, getL_6, getL_7, getL_8, getL_9, getL_10, getL_11, getL_12, condV_t, condV_f, guardV_tt, guardV_ff, guardV_tf, guardV_ft, guardV_u, apick_t, apick_f, exV_exit, exV_ret, lookE_same, joinK_eq, seqA_n, seqA_e, seqA_r, e_add, e_sub, e_mul, e_eql, e_neq, e_lss, e_leq, e_gtr, e_geq, e_conv, e_not, e_neg, and_guard, or_guard, retV]
    rfl

end Go.Proofs.Ytcahddipgocpfaa.Ab
