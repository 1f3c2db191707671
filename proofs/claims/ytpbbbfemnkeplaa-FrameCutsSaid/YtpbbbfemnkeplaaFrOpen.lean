/- Datagrams: opening. -/
import Derived.Test.YtpbbbfemnkeplaaFrFun
set_option linter.unusedVariables false
set_option linter.unusedSimpArgs false
set_option linter.unusedSectionVars false
namespace Go.Proofs.Ytpbbbfemnkeplaa.Ab
open Go

theorem bytes_some {v : Value} {s : St} {l : List UInt8} (h : bytesOf v s = some l) (hl : l ≠ []) : ∃ a len cap, v = .slice (some a) len cap := by
  unfold bytesOf cellsOf at h
  split at h
  · cases h; exact absurd rfl hl
  · exact ⟨_, _, _, rfl⟩
  · cases h
theorem slice_some {a : Addr} {len cap : Nat} {lo hi mx : Option Value} {u : Value} (h : asliceV 1 (.slice (some a) len cap) lo hi mx = some u) : ∃ a' len' cap', u = .slice (some a') len' cap' := by
  unfold asliceV asliceSl at h
  simp only at h
  by_cases hc : (mx.isNone || hi.isSome) = true
  case neg => rw [if_neg hc] at h; cases h
  rw [if_pos hc] at h
  simp only [Option.bind_eq_some_iff] at h
  obtain ⟨m, _, h', _, l, _, h⟩ := h
  split at h
  case isFalse => cases h
  obtain ⟨b, o, sp⟩ := a
  cases sp with
  | none => cases h; exact ⟨_, _, _, rfl⟩
  | some _ => cases h
theorem getD_lt {l : List UInt8} {i : Nat} (h : i < l.length) : l[i] = l.getD i 0 := by simp [h]
theorem u8_neq {c : UInt8} : ((((c.toNat : Nat) : Int) != 83)) = decide (c ≠ 83) := by
  by_cases h : c = 83
  · subst h; rfl
  · have : c.toNat ≠ 83 := fun e => h (UInt8.toNat_inj.1 e)
    simp [h]
    omega
theorem readFix4 {l : List UInt8} (h : l.length = 4) : readFix l = (leN 0 l, 0) := by
  unfold readFix
  rw [if_neg (by omega), List.take_of_length_le (by omega)]

theorem Open_run {R : Caller} (hN : ∀ xs s, R 20 xs s = gReadNum xs s) (hC : ∀ xs s, R 21 xs s = gClone xs s) (hS : ∀ xs s, R 15 xs s = gSum xs s) (hF : ∀ xs s, R 19 xs s = gReadFixed xs s) {v : Value} {s : St} {l : List UInt8} (h : bytesOf v s = some l) (hl : l.length ≤ 140737488355328) :
    if (openL l).2 = 0 then frame_Open R v s = some (pkE (newBytes (openL l).1 s).1, (newBytes (openL l).1 s).2) else frame_Open R v s = some (nilE (openL l).2, s) := by
  unfold openL frame_Open
  simp only [bytes_len h, Option.bind_some, e_gtr, e_lss]
  by_cases c1 : 4103 < l.length
  · have e1 : decide (((l.length : Nat) : Int) > 4103) = true := by simp; omega
    rw [if_pos c1, if_neg (by decide)]
    simp only [e1, condV_t]
    rfl
  have e1 : decide (((l.length : Nat) : Int) > 4103) = false := by simp; omega
  rw [if_neg c1]
  by_cases c2 : l.length < 6
  · have e2 : decide (((l.length : Nat) : Int) < 6) = true := by simp; omega
    rw [if_pos c2, if_neg (by decide)]
    simp only [e1, e2, condV_t, condV_f]
    rfl
  have e2 : decide (((l.length : Nat) : Int) < 6) = false := by simp; omega
  rw [if_neg c2]
  have e3 : IntKind.wrap .i64 (((l.length : Nat) : Int) - 4) = ((l.length - 4 : Nat) : Int) := by rw [wrap_i64 (by omega) (by omega)]; omega
  obtain ⟨a, len, cap, rfl⟩ := bytes_some h (fun e => by rw [e] at c2; simp at c2)
  obtain ⟨hd, g1, g2⟩ := bytes_slice h (lo := none) (hi := some (.int .i64 ((l.length - 4 : Nat) : Int))) (mx := some (.int .i64 ((l.length - 4 : Nat) : Int))) (i := 0) (j := l.length - 4) rfl (by simp [abound]) (by omega) (by omega) (.inr ⟨rfl, fun c => by simp [abound]⟩)
  obtain ⟨tl, g3, g4⟩ := bytes_slice h (lo := some (.int .i64 ((l.length - 4 : Nat) : Int))) (hi := none) (mx := none) (i := l.length - 4) (j := l.length) (by simp [abound]) rfl (by omega) (by omega) (.inl rfl)
  obtain ⟨a2, len2, cap2, rfl⟩ := slice_some g1
  simp only [List.drop_zero, Nat.sub_zero] at g2
  rw [List.take_of_length_le (by simp)] at g4
  have f1 : gReadFixed [tl] s = some (tupF (leN 0 (l.drop (l.length - 4))) 0, s) := by
    unfold gReadFixed
    rw [gBytes1_eq g4 (by simp; omega), readFix4 (by simp; omega), Option.map_some]
  have hlen : (l.take (l.length - 4)).length = l.length - 4 := by simp
  have f2 : gSum [.slice (some a2) len2 cap2] s = some (.int .u32 ((sumV (l.take (l.length - 4)) : Nat) : Int), s) := by
    unfold gSum; rw [gBytes1_eq g2 (by omega), Option.map_some]
  have f3 : ∀ n, aextract 0 (tupF n 0) = some (.int .u32 n) ∧ aextract 1 (tupF n 0) = some (.int .i64 0) := fun n => ⟨rfl, rfl⟩
  have z0 : ((0 : Int) != 0) = false := rfl
  simp only [e1, e2, e3, condV_f, e_sub, Option.bind_some, g1, g3, octet_ReadFixed_call, hF, f1, (f3 _).1, (f3 _).2, e_neq, z0]
  simp only [guardV_ff, octet_Sum_call, hS, f2, Option.bind_some, e_neq, getL_0, apick_f]
  generalize hA : leN 0 (l.drop (l.length - 4)) = A
  generalize hB : sumV (l.take (l.length - 4)) = B
  by_cases c3 : A ≠ B
  · rw [if_pos c3, if_neg (by decide)]
    have e4 : (((A : Nat) : Int) != ((B : Nat) : Int)) = true := by simp; omega
    simp only [e4, condV_t]
    rfl
  rw [if_neg c3]
  have e4 : (((A : Nat) : Int) != ((B : Nat) : Int)) = false := by simp; omega
  clear f1 f2 hA hB
  generalize hH : l.take (l.length - 4) = H at g2 hlen
  obtain ⟨h1v, g5, g6⟩ := bytes_slice g2 (lo := some (.int .i64 1)) (hi := none) (mx := none) (i := 1) (j := H.length) (by simp [abound]) rfl (by omega) (by omega) (.inl rfl)
  rw [List.take_of_length_le (by simp)] at g6
  have f4 : gReadNum [h1v] s = some (tup3 (readNum (H.drop 1)).1 (readNum (H.drop 1)).2.1 (readNum (H.drop 1)).2.2, s) := gReadNum_eq g6
  have hk := readNum_k (H.drop 1)
  have hlt := readNum_lt (H.drop 1)
  have hk0 : (readNum (H.drop 1)).2.1 ≤ 100000 := by
    by_cases e : (readNum (H.drop 1)).2.2 = 0
    · have := (hk e).2
      simp only [List.length_drop] at this
      omega
    · have : (readNum (H.drop 1)).2.1 = 0 := by
        unfold readNum at e ⊢
        cases e5 : rdN 0 0 (H.drop 1) with
        | none => rfl
        | some r => rw [e5] at e; exact ((rdN_k e5).2.1 e).2
      omega
  generalize readNum (H.drop 1) = r at f4 hk hlt hk0
  obtain ⟨n, k, e⟩ := r
  simp only at f4 hk hlt hk0 ⊢
  obtain ⟨p, g7, g8⟩ := bytes_at g2 (i := 0) (by omega) (k := .i64)
  have z00 : ((0 : Nat) : Int) = 0 := rfl
  rw [z00] at g7
  rw [getD_lt (by omega)] at g8
  simp only [e4, condV_f, g5, Option.bind_some, octet_ReadNum_call, hN, f4, x3_0, x3_1, x3_2, g7, g8, e_neq, u8_neq]
  by_cases d1 : H.getD 0 0 ≠ 83
  · have e5 : decide (H.getD 0 0 ≠ 83) = true := decide_eq_true d1
    rw [if_pos (c := H.getD 0 0 ≠ 83 ∨ e ≠ 0 ∨ 4096 < n ∨ l.length - 4 ≠ 1 + k + n) (.inl d1), if_neg (by decide)]
    simp only [e5, Option.bind_some, Option.map_some, getL_0, getL_1, getL_2, getL_3, getL_4, getL_5, getL_6, getL_7, getL_8, getL_9, getL_10, getL_11, getL_12, condV_t, condV_f, guardV_tt, guardV_ff, guardV_tf, guardV_ft, guardV_u, apick_t, apick_f, exV_exit, exV_ret, lookE_same, joinK_eq, seqA_n, seqA_e, seqA_r, e_add, e_sub, e_mul, e_eql, e_neq, e_lss, e_leq, e_gtr, e_geq, e_conv, e_not, e_neg, and_guard, or_guard, bytes_len g2]
    rfl
  have e5 : decide (H.getD 0 0 ≠ 83) = false := decide_eq_false d1
  by_cases d2 : e ≠ 0
  · have e6 : (e != 0) = true := by simp [d2]
    rw [if_pos (c := H.getD 0 0 ≠ 83 ∨ e ≠ 0 ∨ 4096 < n ∨ l.length - 4 ≠ 1 + k + n) (.inr (.inl d2)), if_neg (by decide)]
    simp only [e5, e6, guardV_ff, guardV_tf, apick_t, apick_f, Option.bind_some, getL_0, condV_t]
    rfl
  have e6 : (e != 0) = false := by simpa using d2
  have e0 : e = 0 := by simpa using d2
  have hk2 := hk e0
  simp only [List.length_drop] at hk2
  by_cases d3 : 4096 < n
  · have e7 : decide (((n : Nat) : Int) > 4096) = true := by simp; omega
    rw [if_pos (c := H.getD 0 0 ≠ 83 ∨ e ≠ 0 ∨ 4096 < n ∨ l.length - 4 ≠ 1 + k + n) (.inr (.inr (.inl d3))), if_neg (by decide)]
    simp only [e5, e6, e7, guardV_ff, guardV_tf, apick_t, apick_f, Option.bind_some, getL_0, condV_t, e_gtr]
    rfl
  have e7 : decide (((n : Nat) : Int) > 4096) = false := by simp; omega
  have e8 : IntKind.wrap .i64 (1 + ((k : Nat) : Int)) = ((1 + k : Nat) : Int) := by rw [wrap_i64 (by omega) (by omega)]; omega
  have e9 : IntKind.wrap .i64 ((n : Nat) : Int) = ((n : Nat) : Int) := wrap_i64 (by omega) (by omega)
  have e10 : IntKind.wrap .i64 (((1 + k : Nat) : Int) + ((n : Nat) : Int)) = ((1 + k + n : Nat) : Int) := by rw [wrap_i64 (by omega) (by omega)]; omega
  by_cases d4 : l.length - 4 ≠ 1 + k + n
  · have e11 : (((H.length : Nat) : Int) != ((1 + k + n : Nat) : Int)) = true := by simp; omega
    rw [if_pos (c := H.getD 0 0 ≠ 83 ∨ e ≠ 0 ∨ 4096 < n ∨ l.length - 4 ≠ 1 + k + n) (.inr (.inr (.inr d4))), if_neg (by decide)]
    simp only [e5, e6, e7, e8, e9, e10, e11, guardV_ff, guardV_tf, apick_t, apick_f, Option.bind_some, getL_0, condV_t, e_gtr, e_add, e_conv, e_neq, bytes_len g2]
    rfl
  have e11 : (((H.length : Nat) : Int) != ((1 + k + n : Nat) : Int)) = false := by simp; omega
  rw [if_neg (c := H.getD 0 0 ≠ 83 ∨ e ≠ 0 ∨ 4096 < n ∨ l.length - 4 ≠ 1 + k + n) (by
    rintro (g | g | g | g)
    · exact d1 g
    · exact d2 g
    · exact d3 g
    · exact d4 g), if_pos rfl]
  obtain ⟨bd, g9, g10⟩ := bytes_slice g2 (lo := some (.int .i64 ((1 + k : Nat) : Int))) (hi := none) (mx := none) (i := 1 + k) (j := H.length) (by simp [abound]; omega) rfl (by omega) (by omega) (.inl rfl)
  rw [List.take_of_length_le (by simp)] at g10
  obtain ⟨a3, len3, cap3, rfl⟩ := slice_some g9
  have f5 := gClone_eq g10 (by simp; omega)
  simp only [e5, e6, e7, e8, e9, e10, e11, guardV_ff, apick_f, Option.bind_some, getL_0, condV_f, e_gtr, e_add, e_conv, e_neq, bytes_len g2, g9]
  simp only [slices_Clone_byte_byte_call, hC, f5, Option.bind_some]
  rfl
theorem open_sum {lib : Lib} (hl : lib 10 = none) (hN : lib 20 = some gReadNum) (hC : lib 21 = some gClone) (hS : lib 15 = some gSum) (hF : lib 19 = some gReadFixed) : SumOk Try.prog lib hints 10 gOpen := by
  have key : ∀ (v0 : Value) (s : St) (l : List UInt8), bytesOf v0 s = some l → l.length ≤ 140737488355328 → _ := fun v0 s l h1 hle =>
    Open_run (R := run Try.prog lib hints) (fun xs s => known hN) (fun xs s => known hC) (fun xs s => known hS) (fun xs s => known hF) (s := frzS s) (v := v0) (l := l) (by rw [bytesOf_frz]; exact h1) hle
  refine SumOk.out (.inr rfl) (fun args s v h => ?_) (fun args s l h => ?_)
  · split at h
    · rename_i v0
      simp only [Option.bind_eq_some_iff] at h
      obtain ⟨l, h1, h⟩ := h
      split at h
      case isFalse => cases h
      rename_i hle
      split at h
      case isTrue => cases h
      rename_i h0
      cases h
      have := key v0 s l h1 hle
      rw [if_neg h0] at this
      exact ⟨rfl, _, frame_Open_of hl this⟩
    · cases h
  · split at h
    · rename_i v0
      simp only [Option.bind_eq_some_iff] at h
      obtain ⟨l', h1, h⟩ := h
      split at h
      case isFalse => cases h
      rename_i hle
      split at h
      case isFalse => cases h
      rename_i h0
      cases h
      have := key v0 s l' h1 hle
      rw [if_pos h0] at this
      exact ⟨_, _, frame_Open_of hl this, by rw [frzS_len]; omega, push_get⟩
    · cases h

end Go.Proofs.Ytpbbbfemnkeplaa.Ab
