/- Texts, numbers in four bytes, and what is known of the octet functions. -/
import Derived.Test.YtpbbbfemnkeplaaFxNum
set_option linter.unusedVariables false
set_option linter.unusedSimpArgs false
set_option linter.unusedSectionVars false
namespace Go.Proofs.Ytpbbbfemnkeplaa.Ab
open Go

/-! ### Numbers: as they are known -/
def tup3 (n k : Nat) (e : Int) : Value := .tuple #[.int .u64 (n : Int), .int .i64 (k : Int), .int .i64 e]
def gReadNum : Sum := fun xs s => (match xs with | [v] => (bytesOf v s).map fun l => tup3 (readNum l).1 (readNum l).2.1 (readNum l).2.2 | _ => none).map fun v => (v, s)
def gNum : Sum := fun xs s => (match xs with | [.int .u64 a] => if 0 ≤ a ∧ a < 18446744073709551616 then some (enc a.toNat) else none | _ => none).map fun l => newBytes l s

theorem gReadNum_eq {v : Value} {s : St} {l : List UInt8} (h : bytesOf v s = some l) : gReadNum [v] s = some (tup3 (readNum l).1 (readNum l).2.1 (readNum l).2.2, s) := by
  simp only [gReadNum, h, Option.map_some]
theorem gNum_eq {n : Nat} {s : St} (h : n < 18446744073709551616) : gNum [.int .u64 (n : Int)] s = some (newBytes (enc n) s) := by
  simp only [gNum]
  rw [if_pos (by omega)]
  rfl

theorem ReadNum_sum {lib : Lib} (hl : lib 20 = none) : SumOk Try.prog lib hints 20 gReadNum :=
  SumOk.plain (G := fun xs s => match xs with | [v] => (bytesOf v s).map fun l => tup3 (readNum l).1 (readNum l).2.1 (readNum l).2.2 | _ => none) fun xs s v h => by
    split at h
    · simp only [Option.map_eq_some_iff] at h
      obtain ⟨l, hl2, rfl⟩ := h
      exact ⟨rfl, _, octet_ReadNum_of hl (ReadNum_run (by rw [bytesOf_frz]; exact hl2))⟩
    · cases h
theorem Num_sum {lib : Lib} (hl : lib 13 = none) : SumOk Try.prog lib hints 13 gNum :=
  SumOk.bytes (G := fun xs _ => match xs with | [.int .u64 a] => if 0 ≤ a ∧ a < 18446744073709551616 then some (enc a.toNat) else none | _ => none) fun xs s l h => by
    split at h
    · rename_i a
      split at h
      · rename_i ha
        cases h
        obtain ⟨n, rfl⟩ := Int.eq_ofNat_of_zero_le ha.1
        obtain ⟨v, s', h1, h2, _⟩ := Num_run (R := run Try.prog lib hints) (n := n) (by omega) (frzS s)
        rw [frzS_len] at h2
        exact ⟨enc_ne, v, s', octet_Num_of hl h1, h2⟩
      · cases h
    · cases h
theorem refNum_sum {lib : Lib} (hl : lib 16 = none) : SumOk Try.prog lib hints 16 gNum :=
  SumOk.bytes (G := fun xs _ => match xs with | [.int .u64 a] => if 0 ≤ a ∧ a < 18446744073709551616 then some (enc a.toNat) else none | _ => none) fun xs s l h => by
    split at h
    · rename_i a
      split at h
      · rename_i ha
        cases h
        obtain ⟨n, rfl⟩ := Int.eq_ofNat_of_zero_le ha.1
        have hn : n < 18446744073709551616 := by omega
        obtain ⟨v, s', h1, h2, _⟩ := refNum_run hl 9 n (Nat.lt_of_lt_of_le hn (by decide)) hn (by omega) (frzS s)
        rw [frzS_len] at h2
        exact ⟨enc_ne, v, s', h1, h2⟩
      · cases h
    · cases h

/-! ### The reference's reading of numbers -/
theorem rdN_k : ∀ {l : List UInt8} {i n : Nat} {r : Nat × Nat × Int}, rdN i n l = some r → (r.2.2 = 0 ∨ r.2.2 = 11) ∧ (r.2.2 ≠ 0 → r.1 = 0 ∧ r.2.1 = 0) ∧ (r.2.2 = 0 → i < r.2.1 ∧ r.2.1 ≤ i + l.length)
  | [], i, n, r, h => by simp [rdN] at h
  | c :: l, i, n, r, h => by
    simp only [rdN] at h
    split at h
    · cases h; simp
    · split at h
      · split at h
        · cases h; simp
        · cases h; simp
      · obtain ⟨h1, h2, h3⟩ := rdN_k h
        refine ⟨h1, h2, fun e => ?_⟩
        have := h3 e
        simp
        omega
theorem readNum_k (l : List UInt8) : (readNum l).2.2 = 0 → 0 < (readNum l).2.1 ∧ (readNum l).2.1 ≤ l.length := by
  unfold readNum
  cases h : rdN 0 0 l with
  | none => intro e; simp at e
  | some r => intro e; have := (rdN_k h).2.2 e; simp at this ⊢; omega

/-- the reference's: the first byte below 128, of ten -/
def findLow : Nat → List UInt8 → Option Nat
  | 0, _ => none
  | _ + 1, [] => none
  | k + 1, c :: l => if c.toNat < 128 then some 0 else (findLow k l).map (· + 1)
def horner (l : List UInt8) (n : Nat) : Nat := l.foldr (fun c n => (n * 128 + c.toNat % 128) % 18446744073709551616) n
def refRead (l : List UInt8) : Nat × Nat × Int :=
  match findLow 10 l with
  | some i => if enc (horner (l.take (i + 1)) 0) = l.take (i + 1) then (horner (l.take (i + 1)) 0, i + 1, 0) else (0, 0, 11)
  | none => if 10 ≤ l.length then (0, 0, 11) else (0, 0, 10)
theorem horner_lt {l : List UInt8} {n : Nat} (h : n < 18446744073709551616) : horner l n < 18446744073709551616 := by
  cases l with
  | nil => exact h
  | cons => exact Nat.mod_lt _ (by decide)

theorem refReadNum_inner {R : Caller} {s : St} {v : Value} {l : List UInt8} (h : bytesOf v s = some l) (i : Value) : ∀ (j n : Nat), j ≤ l.length → j ≤ 100 → n < 18446744073709551616 →
    loopL (ref01_ReadNum.b1 R) [v, i, .int .u64 (n : Int), .int .i64 ((j : Int) - 1)] s = some (.exit 2, [v, i, .int .u64 ((horner (l.take j) n : Nat) : Int)], s)
  | 0, n, hj, _, hn => by
    rw [loopL_eq]
    have hc : decide (((0 : Nat) : Int) - 1 ≥ 0) = false := by simp
    simp only [ref01_ReadNum.b1, Option.bind_some, Option.map_some, getL_0, getL_1, getL_2, getL_3, getL_4, getL_5, getL_6, getL_7, getL_8, getL_9, getL_10, getL_11, getL_12, condV_t, condV_f, guardV_tt, guardV_ff, guardV_tf, guardV_ft, guardV_u, apick_t, apick_f, exV_exit, exV_ret, lookE_same, joinK_eq, seqA_n, seqA_e, seqA_r, e_add, e_sub, e_mul, e_eql, e_neq, e_lss, e_leq, e_gtr, e_geq, e_conv, e_not, e_neg, and_guard, or_guard, hc]
    rfl
  | j + 1, n, hj, hj2, hn => by
    rw [loopL_eq]
    have e0 : (((j + 1 : Nat) : Int) - 1) = (j : Int) := by omega
    rw [e0]
    have hc : decide ((j : Int) ≥ 0) = true := by simp
    obtain ⟨p, hp1, hp2⟩ := bytes_at h (i := j) (by omega) (k := .i64)
    have hrem : ∀ t ox oy, abin Try.prog .rem t ox oy (.int .u8 ((l[j].toNat : Nat) : Int)) (.int .u8 (128 : Int)) = some (.int .u8 ((l[j].toNat % 128 : Nat) : Int)) := fun t ox oy => by
      rw [e_rem (by decide)]; rfl
    have hmul : IntKind.wrap .u64 ((n : Int) * (128 : Int)) = ((n * 128 % 18446744073709551616 : Nat) : Int) := by
      rw [show (n : Int) * (128 : Int) = ((n * 128 : Nat) : Int) by omega, wrapu64]
    have hcv : IntKind.wrap .u64 ((l[j].toNat % 128 : Nat) : Int) = ((l[j].toNat % 128 : Nat) : Int) := by rw [wrapu64, Nat.mod_eq_of_lt (by omega)]
    have hadd : IntKind.wrap .u64 (((n * 128 % 18446744073709551616 : Nat) : Int) + ((l[j].toNat % 128 : Nat) : Int)) = (((n * 128 + l[j].toNat % 128) % 18446744073709551616 : Nat) : Int) := by
      rw [show ((n * 128 % 18446744073709551616 : Nat) : Int) + ((l[j].toNat % 128 : Nat) : Int) = ((n * 128 % 18446744073709551616 + l[j].toNat % 128 : Nat) : Int) by omega, wrapu64]
      congr 1
      omega
    have hsub : IntKind.wrap .i64 ((j : Int) - 1) = (j : Int) - 1 := wrap_i64 (by omega) (by omega)
    simp only [ref01_ReadNum.b1, Option.bind_some, Option.map_some, getL_0, getL_1, getL_2, getL_3, getL_4, getL_5, getL_6, getL_7, getL_8, getL_9, getL_10, getL_11, getL_12, condV_t, condV_f, guardV_tt, guardV_ff, guardV_tf, guardV_ft, guardV_u, apick_t, apick_f, exV_exit, exV_ret, lookE_same, joinK_eq, seqA_n, seqA_e, seqA_r, e_add, e_sub, e_mul, e_eql, e_neq, e_lss, e_leq, e_gtr, e_geq, e_conv, e_not, e_neg, and_guard, or_guard, hc]
    rw [hmul]
    simp only [Option.bind_some, Option.map_some, getL_0, getL_1, getL_2, getL_3, getL_4, getL_5, getL_6, getL_7, getL_8, getL_9, getL_10, getL_11, getL_12, condV_t, condV_f, guardV_tt, guardV_ff, guardV_tf, guardV_ft, guardV_u, apick_t, apick_f, exV_exit, exV_ret, lookE_same, joinK_eq, seqA_n, seqA_e, seqA_r, e_add, e_sub, e_mul, e_eql, e_neq, e_lss, e_leq, e_gtr, e_geq, e_conv, e_not, e_neg, and_guard, or_guard, hp1, hp2, hrem]
    rw [hcv, hadd, hsub]
    rw [refReadNum_inner h i j _ (by omega) (by omega) (Nat.mod_lt _ (by decide))]
    have ht : l.take (j + 1) = l.take j ++ [l[j]] := by rw [List.take_succ_eq_append_getElem (by omega)]
    rw [ht]
    simp only [horner, List.foldr_append, List.foldr_cons, List.foldr_nil]

theorem refReadNum_loop {R : Caller} (hR : ∀ xs s, R 16 xs s = gNum xs s) {s : St} {v : Value} {l : List UInt8} (h : bytesOf v s = some l) : ∀ (rest : List UInt8) (i : Nat), i ≤ 10 → l.drop i = rest →
    match findLow (10 - i) rest with
    | some d => ∃ s', loopL (ref01_ReadNum.b0 R) [v, .int .i64 (i : Int)] s = some (.ret, (if enc (horner (l.take (i + d + 1)) 0) = l.take (i + d + 1) then [.int .u64 ((horner (l.take (i + d + 1)) 0 : Nat) : Int), .int .i64 ((i + d + 1 : Nat) : Int), .int .i64 0] else [.int .u64 0, .int .i64 0, .int .i64 11]), s')
    | none => loopL (ref01_ReadNum.b0 R) [v, .int .i64 (i : Int)] s = some (.exit 0, [v], s) := by
  intro rest
  induction rest with
  | nil =>
    intro i hi hr
    have hle : l.length ≤ i := List.drop_eq_nil_iff.1 hr
    have : findLow (10 - i) [] = none := by cases 10 - i <;> rfl
    rw [this]
    simp only
    rw [loopL_eq]
    have hc : decide ((i : Int) < ((l.length : Nat) : Int)) = false := by simp; omega
    simp only [ref01_ReadNum.b0, Option.bind_some, Option.map_some, getL_0, getL_1, getL_2, getL_3, getL_4, getL_5, getL_6, getL_7, getL_8, getL_9, getL_10, getL_11, getL_12, condV_t, condV_f, guardV_tt, guardV_ff, guardV_tf, guardV_ft, guardV_u, apick_t, apick_f, exV_exit, exV_ret, lookE_same, joinK_eq, seqA_n, seqA_e, seqA_r, e_add, e_sub, e_mul, e_eql, e_neq, e_lss, e_leq, e_gtr, e_geq, e_conv, e_not, e_neg, and_guard, or_guard, bytes_len h, hc, Bool.false_and]
  | cons c rest IH =>
    intro i hi hr
    have hlt : i < l.length := by
      rcases Nat.lt_or_ge i l.length with hh | hh
      · exact hh
      · rw [List.drop_eq_nil_of_le hh] at hr; cases hr
    have hci : l[i] = c := by
      have := List.drop_eq_getElem_cons hlt
      rw [hr] at this
      exact (List.cons.inj this).1.symm
    have hrest : l.drop (i + 1) = rest := by
      have := List.drop_eq_getElem_cons hlt
      rw [hr] at this
      exact (List.cons.inj this).2.symm
    by_cases h10 : i = 10
    · subst h10
      have : findLow (10 - 10) (c :: rest) = none := rfl
      rw [this]
      simp only
      rw [loopL_eq]
      have hc : (decide (((10 : Nat) : Int) < ((l.length : Nat) : Int)) && decide (((10 : Nat) : Int) < 10)) = false := by simp
      simp only [ref01_ReadNum.b0, Option.bind_some, Option.map_some, getL_0, getL_1, getL_2, getL_3, getL_4, getL_5, getL_6, getL_7, getL_8, getL_9, getL_10, getL_11, getL_12, condV_t, condV_f, guardV_tt, guardV_ff, guardV_tf, guardV_ft, guardV_u, apick_t, apick_f, exV_exit, exV_ret, lookE_same, joinK_eq, seqA_n, seqA_e, seqA_r, e_add, e_sub, e_mul, e_eql, e_neq, e_lss, e_leq, e_gtr, e_geq, e_conv, e_not, e_neg, and_guard, or_guard, bytes_len h, hc]
    · obtain ⟨k, hk⟩ : ∃ k, 10 - i = k + 1 := ⟨9 - i, by omega⟩
      have hk2 : 10 - (i + 1) = k := by omega
      obtain ⟨p, hp1, hp2⟩ := bytes_at h hlt (k := .i64)
      rw [hci] at hp2
      have hcl := c.toNat_lt
      have hc : (decide ((i : Int) < ((l.length : Nat) : Int)) && decide ((i : Int) < 10)) = true := by simp; omega
      have hw2 : IntKind.wrap .i64 ((i : Int) + 1) = ((i + 1 : Nat) : Int) := by rw [wrap_i64 (by omega) (by omega)]; push_cast; rfl
      rw [hk, findLow]
      by_cases h1 : c.toNat < 128
      · have hb : decide ((c.toNat : Int) ≥ 128) = false := by simp; omega
        rw [if_pos h1]
        simp only [Nat.add_zero]
        rw [loopL_eq]
        have hin := refReadNum_inner (R := R) h (.int .i64 (i : Int)) (i + 1) 0 (by omega) (by omega) (by omega)
        rw [show (((i + 1 : Nat) : Int) - 1) = (i : Int) by omega, show (((0 : Nat) : Int)) = (0 : Int) from rfl] at hin
        have hm64 := horner_lt (l := l.take (i + 1)) (n := 0) (by decide)
        generalize horner (l.take (i + 1)) 0 = m at hin hm64 ⊢
        simp only [ref01_ReadNum.b0, Option.bind_some, Option.map_some, getL_0, getL_1, getL_2, getL_3, getL_4, getL_5, getL_6, getL_7, getL_8, getL_9, getL_10, getL_11, getL_12, condV_t, condV_f, guardV_tt, guardV_ff, guardV_tf, guardV_ft, guardV_u, apick_t, apick_f, exV_exit, exV_ret, lookE_same, joinK_eq, seqA_n, seqA_e, seqA_r, e_add, e_sub, e_mul, e_eql, e_neq, e_lss, e_leq, e_gtr, e_geq, e_conv, e_not, e_neg, and_guard, or_guard, bytes_len h, hc, hp1, hp2, hb]
        rw [hin]
        simp only [Option.bind_some, Option.map_some, getL_0, getL_1, getL_2, getL_3, getL_4, getL_5, getL_6, getL_7, getL_8, getL_9, getL_10, getL_11, getL_12, condV_t, condV_f, guardV_tt, guardV_ff, guardV_tf, guardV_ft, guardV_u, apick_t, apick_f, exV_exit, exV_ret, lookE_same, joinK_eq, seqA_n, seqA_e, seqA_r, e_add, e_sub, e_mul, e_eql, e_neq, e_lss, e_leq, e_gtr, e_geq, e_conv, e_not, e_neg, and_guard, or_guard, ref01_Num_call]
        rw [hR, gNum_eq hm64]
        simp only [Option.bind_some, Option.map_some, getL_0, getL_1, getL_2, getL_3, getL_4, getL_5, getL_6, getL_7, getL_8, getL_9, getL_10, getL_11, getL_12, condV_t, condV_f, guardV_tt, guardV_ff, guardV_tf, guardV_ft, guardV_u, apick_t, apick_f, exV_exit, exV_ret, lookE_same, joinK_eq, seqA_n, seqA_e, seqA_r, e_add, e_sub, e_mul, e_eql, e_neq, e_lss, e_leq, e_gtr, e_geq, e_conv, e_not, e_neg, and_guard, or_guard]
        have hE : Ext s.heap.length s (newBytes (enc m) s).2 := newBytes_ext (Nat.le_refl _)
        have hs1 := bytes_str (s := frzS (newBytes (enc m) s).2) (v := (newBytes (enc m) s).1) (by rw [bytesOf_frz]; exact newBytes_bytes)
        obtain ⟨u, hu1, hu2⟩ := bytes_slice h (lo := none) (hi := some (.int .i64 ((i + 1 : Nat) : Int))) (mx := none) (i := 0) (j := i + 1) (by simp [abound]) (by simp [abound]; omega) (by omega) (by omega) (.inl rfl)
        have hs2 := bytes_str (s := frzS (newBytes (enc m) s).2) (v := u) (by rw [bytesOf_frz]; exact hE.bytes hu2)
        simp only [quiet_new, quiet_new2, hs1, Option.bind_some, Option.map_some, getL_0, getL_1, getL_2, getL_3, getL_4, getL_5, getL_6, getL_7, getL_8, getL_9, getL_10, getL_11, getL_12, condV_t, condV_f, guardV_tt, guardV_ff, guardV_tf, guardV_ft, guardV_u, apick_t, apick_f, exV_exit, exV_ret, lookE_same, joinK_eq, seqA_n, seqA_e, seqA_r, e_add, e_sub, e_mul, e_eql, e_neq, e_lss, e_leq, e_gtr, e_geq, e_conv, e_not, e_neg, and_guard, or_guard, hw2, hu1, hs2]
        rw [List.drop_zero, Nat.sub_zero]
        generalize enc m = em at hE hs1 hs2 ⊢
        have hneq : ∀ t ox oy, abin Try.prog .neq t ox oy (.string ⟨em.toArray⟩) (.string ⟨(l.take (i + 1)).toArray⟩) = some (.bool (!(em == l.take (i + 1)))) := fun t ox oy => e_sneq
        simp only [hneq, Option.bind_some, Option.map_some, getL_0, getL_1, getL_2, getL_3, getL_4, getL_5, getL_6, getL_7, getL_8, getL_9, getL_10, getL_11, getL_12, condV_t, condV_f, guardV_tt, guardV_ff, guardV_tf, guardV_ft, guardV_u, apick_t, apick_f, exV_exit, exV_ret, lookE_same, joinK_eq, seqA_n, seqA_e, seqA_r, e_add, e_sub, e_mul, e_eql, e_neq, e_lss, e_leq, e_gtr, e_geq, e_conv, e_not, e_neg, and_guard, or_guard]
        by_cases heq : em = l.take (i + 1)
        · have hbb : (!(em == l.take (i + 1))) = false := by simp [heq]
          rw [if_pos heq]
          simp only [hbb, Option.bind_some, Option.map_some, getL_0, getL_1, getL_2, getL_3, getL_4, getL_5, getL_6, getL_7, getL_8, getL_9, getL_10, getL_11, getL_12, condV_t, condV_f, guardV_tt, guardV_ff, guardV_tf, guardV_ft, guardV_u, apick_t, apick_f, exV_exit, exV_ret, lookE_same, joinK_eq, seqA_n, seqA_e, seqA_r, e_add, e_sub, e_mul, e_eql, e_neq, e_lss, e_leq, e_gtr, e_geq, e_conv, e_not, e_neg, and_guard, or_guard]
          exact ⟨_, rfl⟩
        · have hbb : (!(em == l.take (i + 1))) = true := by simp [heq]
          rw [if_neg heq]
          simp only [hbb, Option.bind_some, Option.map_some, getL_0, getL_1, getL_2, getL_3, getL_4, getL_5, getL_6, getL_7, getL_8, getL_9, getL_10, getL_11, getL_12, condV_t, condV_f, guardV_tt, guardV_ff, guardV_tf, guardV_ft, guardV_u, apick_t, apick_f, exV_exit, exV_ret, lookE_same, joinK_eq, seqA_n, seqA_e, seqA_r, e_add, e_sub, e_mul, e_eql, e_neq, e_lss, e_leq, e_gtr, e_geq, e_conv, e_not, e_neg, and_guard, or_guard]
          exact ⟨_, rfl⟩
      · have hb : decide ((c.toNat : Int) ≥ 128) = true := by simp; omega
        rw [if_neg h1]
        have ih := IH (i + 1) (by omega) hrest
        rw [hk2] at ih
        rw [loopL_eq]
        simp only [ref01_ReadNum.b0, Option.bind_some, Option.map_some, getL_0, getL_1, getL_2, getL_3, getL_4, getL_5, getL_6, getL_7, getL_8, getL_9, getL_10, getL_11, getL_12, condV_t, condV_f, guardV_tt, guardV_ff, guardV_tf, guardV_ft, guardV_u, apick_t, apick_f, exV_exit, exV_ret, lookE_same, joinK_eq, seqA_n, seqA_e, seqA_r, e_add, e_sub, e_mul, e_eql, e_neq, e_lss, e_leq, e_gtr, e_geq, e_conv, e_not, e_neg, and_guard, or_guard, bytes_len h, hc, hp1, hp2, hb, hw2]
        cases hf : findLow k rest with
        | none => rw [hf] at ih; exact ih
        | some d =>
          rw [hf] at ih
          simp only [Option.map_some] at ih ⊢
          rw [show i + (d + 1) + 1 = i + 1 + d + 1 by omega]
          exact ih

theorem refReadNum_run {R : Caller} (hR : ∀ xs s, R 16 xs s = gNum xs s) {s : St} {v : Value} {l : List UInt8} (h : bytesOf v s = some l) : ∃ s', ref01_ReadNum R v s = some (tup3 (refRead l).1 (refRead l).2.1 (refRead l).2.2, s') := by
  have := refReadNum_loop hR h l 0 (by omega) rfl
  rw [Nat.sub_zero, show (((0 : Nat) : Int)) = (0 : Int) from rfl] at this
  unfold ref01_ReadNum refRead
  cases hf : findLow 10 l with
  | none =>
    rw [hf] at this
    simp only at this ⊢
    simp only [this, Option.bind_some, Option.map_some, getL_0, getL_1, getL_2, getL_3, getL_4, getL_5, getL_6, getL_7, getL_8, getL_9, getL_10, getL_11, getL_12, condV_t, condV_f, guardV_tt, guardV_ff, guardV_tf, guardV_ft, guardV_u, apick_t, apick_f, exV_exit, exV_ret, lookE_same, joinK_eq, seqA_n, seqA_e, seqA_r, e_add, e_sub, e_mul, e_eql, e_neq, e_lss, e_leq, e_gtr, e_geq, e_conv, e_not, e_neg, and_guard, or_guard, bytes_len h]
    by_cases h10 : 10 ≤ l.length
    · have hb : decide (((l.length : Nat) : Int) ≥ 10) = true := by simp; omega
      simp only [hb, Option.bind_some, Option.map_some, getL_0, getL_1, getL_2, getL_3, getL_4, getL_5, getL_6, getL_7, getL_8, getL_9, getL_10, getL_11, getL_12, condV_t, condV_f, guardV_tt, guardV_ff, guardV_tf, guardV_ft, guardV_u, apick_t, apick_f, exV_exit, exV_ret, lookE_same, joinK_eq, seqA_n, seqA_e, seqA_r, e_add, e_sub, e_mul, e_eql, e_neq, e_lss, e_leq, e_gtr, e_geq, e_conv, e_not, e_neg, and_guard, or_guard, if_pos h10]
      exact ⟨_, rfl⟩
    · have hb : decide (((l.length : Nat) : Int) ≥ 10) = false := by simp; omega
      simp only [hb, Option.bind_some, Option.map_some, getL_0, getL_1, getL_2, getL_3, getL_4, getL_5, getL_6, getL_7, getL_8, getL_9, getL_10, getL_11, getL_12, condV_t, condV_f, guardV_tt, guardV_ff, guardV_tf, guardV_ft, guardV_u, apick_t, apick_f, exV_exit, exV_ret, lookE_same, joinK_eq, seqA_n, seqA_e, seqA_r, e_add, e_sub, e_mul, e_eql, e_neq, e_lss, e_leq, e_gtr, e_geq, e_conv, e_not, e_neg, and_guard, or_guard, if_neg h10]
      exact ⟨_, rfl⟩
  | some d =>
    rw [hf] at this
    simp only [Nat.zero_add] at this ⊢
    obtain ⟨s', this⟩ := this
    simp only [this, Option.bind_some, Option.map_some, getL_0, getL_1, getL_2, getL_3, getL_4, getL_5, getL_6, getL_7, getL_8, getL_9, getL_10, getL_11, getL_12, condV_t, condV_f, guardV_tt, guardV_ff, guardV_tf, guardV_ft, guardV_u, apick_t, apick_f, exV_exit, exV_ret, lookE_same, joinK_eq, seqA_n, seqA_e, seqA_r, e_add, e_sub, e_mul, e_eql, e_neq, e_lss, e_leq, e_gtr, e_geq, e_conv, e_not, e_neg, and_guard, or_guard]
    by_cases heq : enc (horner (l.take (d + 1)) 0) = l.take (d + 1)
    · simp only [if_pos heq, Option.bind_some, Option.map_some, getL_0, getL_1, getL_2, getL_3, getL_4, getL_5, getL_6, getL_7, getL_8, getL_9, getL_10, getL_11, getL_12, condV_t, condV_f, guardV_tt, guardV_ff, guardV_tf, guardV_ft, guardV_u, apick_t, apick_f, exV_exit, exV_ret, lookE_same, joinK_eq, seqA_n, seqA_e, seqA_r, e_add, e_sub, e_mul, e_eql, e_neq, e_lss, e_leq, e_gtr, e_geq, e_conv, e_not, e_neg, and_guard, or_guard]
      exact ⟨_, rfl⟩
    · simp only [if_neg heq, Option.bind_some, Option.map_some, getL_0, getL_1, getL_2, getL_3, getL_4, getL_5, getL_6, getL_7, getL_8, getL_9, getL_10, getL_11, getL_12, condV_t, condV_f, guardV_tt, guardV_ff, guardV_tf, guardV_ft, guardV_u, apick_t, apick_f, exV_exit, exV_ret, lookE_same, joinK_eq, seqA_n, seqA_e, seqA_r, e_add, e_sub, e_mul, e_eql, e_neq, e_lss, e_leq, e_gtr, e_geq, e_conv, e_not, e_neg, and_guard, or_guard]
      exact ⟨_, rfl⟩

/-! ### Texts -/
theorem readNum_lt (l : List UInt8) : (readNum l).1 < 18446744073709551616 := by
  have key : ∀ (l : List UInt8) (i n : Nat) (r : Nat × Nat × Int), i ≤ 9 → n < 2 ^ (7 * i) → rdN i n l = some r → r.1 < 18446744073709551616 := by
    intro l
    induction l with
    | nil => intro i n r _ _ h; simp [rdN] at h
    | cons c l ih =>
      intro i n r hi hn h
      have hc128 : c.toNat % 128 < 128 := Nat.mod_lt _ (by omega)
      simp only [rdN] at h
      split at h
      · cases h; simp
      · rename_i h9
        have e : 2 ^ (7 * (i + 1)) = 128 * 2 ^ (7 * i) := by rw [show 7 * (i + 1) = 7 + 7 * i by omega, Nat.pow_add]
        have hnext : n + c.toNat % 128 * 2 ^ (7 * i) < 2 ^ (7 * (i + 1)) := by
          rw [e]
          have : (c.toNat % 128 + 1) * 2 ^ (7 * i) ≤ 128 * 2 ^ (7 * i) := Nat.mul_le_mul_right _ (by omega)
          rw [Nat.add_mul] at this
          omega
        split at h
        · rename_i hlt
          split at h
          · cases h; simp
          · cases h
            show n + c.toNat % 128 * 2 ^ (7 * i) < 18446744073709551616
            by_cases h8 : i ≤ 8
            · exact Nat.lt_of_lt_of_le hnext (Nat.le_trans (Nat.pow_le_pow_right (by omega) (show 7 * (i + 1) ≤ 63 by omega)) (by decide))
            · have e9 : i = 9 := by omega
              subst e9
              have h1 : c.toNat % 128 ≤ 1 := by omega
              have h2 : c.toNat % 128 * 2 ^ (7 * 9) ≤ 1 * 2 ^ (7 * 9) := Nat.mul_le_mul_right _ h1
              have h3 : (2 : Nat) ^ (7 * 9) = 9223372036854775808 := by decide
              omega
        · have hi8 : i ≤ 8 := by omega
          exact ih (i + 1) _ r (by omega) hnext h
  unfold readNum
  cases h : rdN 0 0 l with
  | none => simp
  | some r => exact key l 0 0 r (by omega) (by simp) h


end Go.Proofs.Ytpbbbfemnkeplaa.Ab
