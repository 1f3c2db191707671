/- OctetNumbers, OctetSums: what the laws say. -/
import Derived.Test.YtodedkebnmfodaaFxLive
set_option linter.unusedVariables false
set_option linter.unusedSimpArgs false
set_option linter.unusedSectionVars false
namespace Go.Proofs.Ytodedkebnmfodaa.Ab
open Go

theorem wf_u64 {a : Int} (h : (Lit.int .u64 a).wf = true) : ∃ n : Nat, a = (n : Int) ∧ n < 18446744073709551616 := by
  simp only [Lit.wf, Bool.and_eq_true, decide_eq_true_eq] at h
  have h1 : (0 : Int) ≤ a := h.1
  have h2 : a ≤ 18446744073709551615 := h.2
  exact ⟨a.toNat, by omega, by omega⟩
theorem wf_u32 {a : Int} (h : (Lit.int .u32 a).wf = true) : ∃ n : Nat, a = (n : Int) ∧ n < 4294967296 := by
  simp only [Lit.wf, Bool.and_eq_true, decide_eq_true_eq] at h
  have h1 : (0 : Int) ≤ a := h.1
  have h2 : a ≤ 4294967295 := h.2
  exact ⟨a.toNat, by omega, by omega⟩
theorem wf_u8 {a : Int} (h : (Lit.int .u8 a).wf = true) : ∃ n : Nat, a = (n : Int) ∧ n < 256 := by
  simp only [Lit.wf, Bool.and_eq_true, decide_eq_true_eq] at h
  have h1 : (0 : Int) ≤ a := h.1
  have h2 : a ≤ 255 := h.2
  exact ⟨a.toNat, by omega, by omega⟩
theorem wf_i64 {a : Int} (h : (Lit.int .i64 a).wf = true) : -9223372036854775808 ≤ a ∧ a < 9223372036854775808 := by
  simp only [Lit.wf, Bool.and_eq_true, decide_eq_true_eq] at h
  have h1 : (-9223372036854775808 : Int) ≤ a := h.1
  have h2 : a ≤ 9223372036854775807 := h.2
  omega

theorem x3_0 {n k : Nat} {e : Int} : aextract 0 (tup3 n k e) = some (.int .u64 n) := rfl
theorem x3_1 {n k : Nat} {e : Int} : aextract 1 (tup3 n k e) = some (.int .i64 k) := rfl
theorem x3_2 {n k : Nat} {e : Int} : aextract 2 (tup3 n k e) = some (.int .i64 e) := rfl
theorem xT_0 {n : List UInt8} {k : Nat} {e : Int} : aextract 0 (tupT n k e) = some (sv n) := rfl
theorem xT_1 {n : List UInt8} {k : Nat} {e : Int} : aextract 1 (tupT n k e) = some (.int .i64 k) := rfl
theorem xT_2 {n : List UInt8} {k : Nat} {e : Int} : aextract 2 (tupT n k e) = some (.int .i64 e) := rfl
theorem xF_0 {n : Nat} {e : Int} : aextract 0 (tupF n e) = some (.int .u32 n) := rfl
theorem xF_1 {n : Nat} {e : Int} : aextract 1 (tupF n e) = some (.int .i64 e) := rfl
theorem same_int {P : Program} {t : TypeId} {o1 o2 : Operand} {k : IntKind} {a : Int} : abin P .eql t o1 o2 (.int k a) (.int k a) = some (.bool true) := by rw [e_eql, beq_self_eq_true]
theorem same_sv {P : Program} {t : TypeId} {o1 o2 : Operand} {a : List UInt8} : abin P .eql t o1 o2 (sv a) (sv a) = some (.bool true) := by rw [e_seql, beq_self_eq_true]


theorem k_live {s : St} : callV Try.prog (run Try.prog (libL lib16) hints) (.func (.func 12) #[] #[]) [] s = some (.bool true, s) := by
  rw [law01_live_call, known (g := gConst (.bool true)) rfl, gConst_eq]
theorem k_Num {n : Nat} (h : n < 18446744073709551616) {s : St} : callV Try.prog (run Try.prog (libL lib16) hints) (.func (.func 15) #[] #[]) [.int .u64 (n : Int)] s = some (newBytes (enc n) s) := by
  rw [octet_Num_call, known (g := gNum) rfl, gNum_eq h]
theorem k_refNum {n : Nat} (h : n < 18446744073709551616) {s : St} : callV Try.prog (run Try.prog (libL lib16) hints) (.func (.func 16) #[] #[]) [.int .u64 (n : Int)] s = some (newBytes (enc n) s) := by
  rw [ref01_Num_call, known (g := gNum) rfl, gNum_eq h]
theorem k_ReadNum {v : Value} {l : List UInt8} {s : St} (h : bytesOf v s = some l) : callV Try.prog (run Try.prog (libL lib16) hints) (.func (.func 13) #[] #[]) [v] s = some (tup3 (readNum l).1 (readNum l).2.1 (readNum l).2.2, s) := by
  rw [octet_ReadNum_call, known (g := gReadNum) rfl, gReadNum_eq h]
theorem k_refReadNum {v : Value} {l : List UInt8} {s : St} (h : bytesOf v s = some l) : callV Try.prog (run Try.prog (libL lib16) hints) (.func (.func 14) #[] #[]) [v] s = some (tup3 (readNum l).1 (readNum l).2.1 (readNum l).2.2, s) := by
  rw [ref01_ReadNum_call, known (g := gReadNum) rfl, gReadNum_eq h]
theorem k_Sum {v : Value} {l : List UInt8} {s : St} (h : bytesOf v s = some l) (hl : l.length ≤ 140737488355328) : callV Try.prog (run Try.prog (libL lib16) hints) (.func (.func 17) #[] #[]) [v] s = some (.int .u32 ((sumV l : Nat) : Int), s) := by
  rw [octet_Sum_call, known (g := gSum) rfl]; unfold gSum; rw [gBytes1_eq h hl]; rfl
theorem k_refSum {v : Value} {l : List UInt8} {s : St} (h : bytesOf v s = some l) (hl : l.length ≤ 140737488355328) : callV Try.prog (run Try.prog (libL lib16) hints) (.func (.func 18) #[] #[]) [v] s = some (.int .u32 ((sumV l : Nat) : Int), s) := by
  rw [ref01_Sum_call, known (g := gSum) rfl]; unfold gSum; rw [gBytes1_eq h hl]; rfl
theorem k_ReadText {v : Value} {l : List UInt8} {s : St} {m : Int} (h : bytesOf v s = some l) (hl : l.length ≤ 150000000000000) (h1 : -9223372036854775808 ≤ m) (h2 : m < 9223372036854775808) : callV Try.prog (run Try.prog (libL lib16) hints) (.func (.func 19) #[] #[]) [v, .int .i64 m] s = some (tupT (readText l m).1 (readText l m).2.1 (readText l m).2.2, s) := by
  rw [octet_ReadText_call, known (g := gReadText) rfl, gReadText_eq h hl h1 h2]
theorem k_refReadText {v : Value} {l : List UInt8} {s : St} {m : Int} (h : bytesOf v s = some l) (hl : l.length ≤ 150000000000000) (h1 : -9223372036854775808 ≤ m) (h2 : m < 9223372036854775808) : callV Try.prog (run Try.prog (libL lib16) hints) (.func (.func 20) #[] #[]) [v, .int .i64 m] s = some (tupT (readText l m).1 (readText l m).2.1 (readText l m).2.2, s) := by
  rw [ref01_ReadText_call, known (g := gReadText) rfl, gReadText_eq h hl h1 h2]
theorem k_Text {t : ByteArray} (h : t.size ≤ 140737488300000) {s : St} : callV Try.prog (run Try.prog (libL lib16) hints) (.func (.func 21) #[] #[]) [.string t] s = some (newBytes (textB t) s) := by
  rw [octet_Text_call, known (g := gText) rfl, gText_eq h]
theorem k_refText {t : ByteArray} (h : t.size ≤ 140737488300000) {s : St} : callV Try.prog (run Try.prog (libL lib16) hints) (.func (.func 22) #[] #[]) [.string t] s = some (newBytes (textB t) s) := by
  rw [ref01_Text_call, known (g := gText) rfl, gText_eq h]
theorem k_Fixed {n : Nat} (h : n < 4294967296) {s : St} : callV Try.prog (run Try.prog (libL lib16) hints) (.func (.func 25) #[] #[]) [.int .u32 (n : Int)] s = some (fixV n, s) := by
  rw [octet_Fixed_call, known (g := gFixed) rfl, gFixed_eq h]
theorem k_refFixed {n : Nat} (h : n < 4294967296) {s : St} : callV Try.prog (run Try.prog (libL lib16) hints) (.func (.func 26) #[] #[]) [.int .u32 (n : Int)] s = some (fixV n, s) := by
  rw [ref01_Fixed_call, known (g := gFixed) rfl, gFixed_eq h]
theorem k_ReadFixed {v : Value} {l : List UInt8} {s : St} (h : bytesOf v s = some l) (hl : l.length ≤ 140737488355328) : callV Try.prog (run Try.prog (libL lib16) hints) (.func (.func 23) #[] #[]) [v] s = some (tupF (readFix l).1 (readFix l).2, s) := by
  rw [octet_ReadFixed_call, known (g := gReadFixed) rfl]; unfold gReadFixed; rw [gBytes1_eq h hl]; rfl
theorem k_refReadFixed {v : Value} {l : List UInt8} {s : St} (h : bytesOf v s = some l) (hl : l.length ≤ 140737488355328) : callV Try.prog (run Try.prog (libL lib16) hints) (.func (.func 24) #[] #[]) [v] s = some (tupF (readFix l).1 (readFix l).2, s) := by
  rw [ref01_ReadFixed_call, known (g := gReadFixed) rfl]; unfold gReadFixed; rw [gBytes1_eq h hl]; rfl

theorem new_str {l : List UInt8} {s : St} : abytesToStr (newBytes l s).1 (newBytes l s).2 = some (sv l) := bytes_str newBytes_bytes
theorem new_strF {l : List UInt8} {s : St} : abytesToStr (newBytes l s).1 (frzS (newBytes l s).2) = some (sv l) := bytes_str (by rw [bytesOf_frz]; exact newBytes_bytes)

theorem own_new {l : List UInt8} {s : St} : ownR s ((newBytes l s).1, (newBytes l s).2) = some (newBytes l s) := by
  unfold ownR
  rw [if_pos (by simp [newBytes, St.push])]

theorem OctetSums_law (s : St) (v : Value) (l : List UInt8) (h : bytesOf v s = some l) (hl : l.length ≤ 140737488355328) : ∃ s', (run Try.prog (libL lib16) hints) 4 [v] s = some (.bool true, s') := by
  have key : ∃ s', law01_OctetSums (run Try.prog (libL lib16) hints) v s = some (.bool true, s') := by
    unfold law01_OctetSums
    simp only [k_live, k_Sum h hl, k_refSum h hl, same_int, Option.bind_some, Option.map_some, getL_0, getL_1, getL_2, getL_3, getL_4, getL_5, getL_6, getL_7, getL_8, getL_9, getL_10, getL_11, getL_12, condV_t, condV_f, guardV_tt, guardV_ff, guardV_tf, guardV_ft, guardV_u, apick_t, apick_f, exV_exit, exV_ret, lookE_same, joinK_eq, seqA_n, seqA_e, seqA_r, e_add, e_sub, e_mul, e_eql, e_neq, e_lss, e_leq, e_gtr, e_geq, e_conv, e_not, e_neg, and_guard, or_guard, retV]
    exact ⟨_, rfl⟩
  obtain ⟨s', h⟩ := key
  exact ⟨s', law01_OctetSums_of rfl h⟩

theorem OctetNumbers_law (s : St) (a : Int) (wa : (Lit.int .u64 a).wf = true) (v : Value) (l : List UInt8) (h : bytesOf v s = some l) (hl : l.length ≤ 140737488355328) : ∃ s', (run Try.prog (libL lib16) hints) 3 [.int .u64 a, v] s = some (.bool true, s') := by
  obtain ⟨n, rfl, hn⟩ := wf_u64 wa
  have key : ∃ s', law01_OctetNumbers (run Try.prog (libL lib16) hints) (.int .u64 (n : Int)) v s = some (.bool true, s') := by
    unfold law01_OctetNumbers
    simp only [k_live, k_ReadNum h, k_refReadNum h, x3_0, x3_1, x3_2, k_Num hn, k_refNum hn, new_str, new_strF, quiet_new, quiet_new2, own_new, same_sv, same_int, Option.bind_some, Option.map_some, getL_0, getL_1, getL_2, getL_3, getL_4, getL_5, getL_6, getL_7, getL_8, getL_9, getL_10, getL_11, getL_12, condV_t, condV_f, guardV_tt, guardV_ff, guardV_tf, guardV_ft, guardV_u, apick_t, apick_f, exV_exit, exV_ret, lookE_same, joinK_eq, seqA_n, seqA_e, seqA_r, e_add, e_sub, e_mul, e_eql, e_neq, e_lss, e_leq, e_gtr, e_geq, e_conv, e_not, e_neg, and_guard, or_guard, retV]
    exact ⟨_, rfl⟩
  obtain ⟨s', h⟩ := key
  exact ⟨s', law01_OctetNumbers_of rfl h⟩

end Go.Proofs.Ytodedkebnmfodaa.Ab
