/- Sums: what the program's functions do. -/
import Derived.Test.YtpbbbfemnkeplaaFxSum
set_option linter.unusedVariables false
set_option linter.unusedSimpArgs false
set_option linter.unusedSectionVars false
namespace Go.Proofs.Ytpbbbfemnkeplaa.Ab
open Go

/-- one bit of a sum -/
def stp (r : Nat) : Nat := r / 2 ^^^ (if r % 2 = 1 then 3988292384 else 0)
def stpN : Nat → Nat → Nat
  | 0, r => r
  | k + 1, r => stpN k (stp r)
theorem stp_lt {r : Nat} (h : r < 4294967296) : stp r < 4294967296 := by
  unfold stp
  refine Nat.xor_lt_two_pow (n := 32) (by omega) ?_
  split <;> decide
theorem stpN_lt : ∀ {k r : Nat}, r < 4294967296 → stpN k r < 4294967296
  | 0, _, h => h
  | k + 1, _, h => stpN_lt (k := k) (stp_lt h)

theorem steps_inner {R : Caller} {s : St} {a b c d f g : Value} : ∀ (k j r : Nat), j + k = 8 → r < 4294967296 →
    loopL (octet_steps.b1 R) [a, b, c, .int .u32 (r : Int), d, .int .i64 (j : Int), f, g] s = some (.exit 2, [a, b, c, .int .u32 ((stpN k r : Nat) : Int), d, f, g], s)
  | 0, j, r, hj, hr => by
    rw [loopL_eq]
    have hb : decide ((j : Int) < 8) = false := by simp; omega
    simp only [octet_steps.b1, Option.bind_some, Option.map_some, getL_0, getL_1, getL_2, getL_3, getL_4, getL_5, getL_6, getL_7, getL_8, getL_9, getL_10, getL_11, getL_12, condV_t, condV_f, guardV_tt, guardV_ff, guardV_tf, guardV_ft, guardV_u, apick_t, apick_f, exV_exit, exV_ret, lookE_same, joinK_eq, seqA_n, seqA_e, seqA_r, e_add, e_sub, e_mul, e_eql, e_neq, e_lss, e_leq, e_gtr, e_geq, e_conv, e_not, e_neg, and_guard, or_guard, hb]
    rfl
  | k + 1, j, r, hj, hr => by
    rw [loopL_eq]
    have hb : decide ((j : Int) < 8) = true := by simp; omega
    have w2 : IntKind.wrap .i64 ((j : Int) + 1) = ((j + 1 : Nat) : Int) := by rw [wrap_i64 (by omega) (by omega)]; push_cast; rfl
    have h1 : ∀ t ox oy, abin Try.prog .shr t ox oy (.int .u32 (r : Int)) (.int .u64 1) = some (.int .u32 ((r / 2 : Nat) : Int)) := fun t ox oy => by
      have := u_shr (P := Try.prog) (t := t) (ox := ox) (oy := oy) (k := .u32) (a := r) (b := 1) (show r < 2 ^ 32 from hr) (k2 := .u64)
      rw [Nat.pow_one] at this
      exact this
    have h2 : ∀ t ox oy, abin Try.prog .and t ox oy (.int .u32 (r : Int)) (.int .u32 1) = some (.int .u32 ((r % 2 : Nat) : Int)) := fun t ox oy => by
      have := u_and (P := Try.prog) (t := t) (ox := ox) (oy := oy) (k := .u32) (a := r) (b := 1) rfl (show r < 2 ^ 32 from hr) (by decide)
      rw [Nat.and_one_is_mod] at this
      exact this
    have h3 : ∀ t ox oy, (aun .neg (.int .u32 ((r % 2 : Nat) : Int))).bind (fun v9 => abin Try.prog .and t ox oy (.int .u32 3988292384) v9) = some (.int .u32 ((if r % 2 = 1 then 3988292384 else 0 : Nat) : Int)) := fun t ox oy => by
      rcases Nat.mod_two_eq_zero_or_one r with e | e
      · rw [e]; rfl
      · rw [e]; rfl
    have h4 : ∀ t ox oy, abin Try.prog .xor t ox oy (.int .u32 ((r / 2 : Nat) : Int)) (.int .u32 ((if r % 2 = 1 then 3988292384 else 0 : Nat) : Int)) = some (.int .u32 ((stp r : Nat) : Int)) := fun t ox oy => by
      rw [u_xor rfl (show r / 2 < 2 ^ 32 by omega) (show (if r % 2 = 1 then 3988292384 else 0 : Nat) < 2 ^ 32 by split <;> decide)]
      rfl
    have h5 : ∀ (v : Value) t ox oy (F : Value → Option (Ex × List Value × St)), (aun .neg (.int .u32 ((r % 2 : Nat) : Int))).bind (fun v9 => (abin Try.prog .and t ox oy (.int .u32 3988292384) v9).bind F) = F (.int .u32 ((if r % 2 = 1 then 3988292384 else 0 : Nat) : Int)) := fun v t ox oy F => by
      have := h3 t ox oy
      rw [← Option.bind_assoc, this]
      rfl
    have e_neg' := @e_neg
    clear e_neg'
    simp only [octet_steps.b1, Option.bind_some, getL_0, getL_1, getL_2, getL_3, getL_4, getL_5, getL_6, getL_7, e_lss, e_add, condV_t, hb, h1, h2]
    rw [h5 undef]
    simp only [Option.bind_some, Option.map_some, getL_0, getL_1, getL_2, getL_3, getL_4, getL_5, getL_6, getL_7, getL_8, getL_9, getL_10, getL_11, getL_12, condV_t, condV_f, guardV_tt, guardV_ff, guardV_tf, guardV_ft, guardV_u, apick_t, apick_f, exV_exit, exV_ret, lookE_same, joinK_eq, seqA_n, seqA_e, seqA_r, e_add, e_sub, e_mul, e_eql, e_neq, e_lss, e_leq, e_gtr, e_geq, e_conv, e_not, e_neg, and_guard, or_guard, h4, w2]
    exact steps_inner k (j + 1) (stp r) (by omega) (stp_lt hr)

/-- the table, so far -/
def tabL (n : Nat) : List Value := (List.range n).map fun i => .int .u32 ((stpN 8 i : Nat) : Int)
def tabC (n : Nat) : List Value := tabL n ++ List.replicate (256 - n) (.int .u32 0)
theorem tabL_len (n : Nat) : (tabL n).length = n := by simp [tabL]
theorem tabC_len {n : Nat} (h : n ≤ 256) : (tabC n).length = 256 := by simp [tabC, tabL_len]; omega
theorem tabC_set {n : Nat} (h : n < 256) : (tabC n).set n (.int .u32 ((stpN 8 n : Nat) : Int)) = tabC (n + 1) := by
  unfold tabC
  rw [List.set_append_right _ _ (by rw [tabL_len]; exact Nat.le_refl _), tabL_len, Nat.sub_self]
  obtain ⟨k, hk⟩ : ∃ k, 256 - n = k + 1 := ⟨255 - n, by omega⟩
  rw [hk, show 256 - (n + 1) = k by omega, List.replicate_succ, List.set_cons_zero]
  have : tabL (n + 1) = tabL n ++ [.int .u32 ((stpN 8 n : Nat) : Int)] := by simp [tabL, List.range_succ]
  rw [this, List.append_assoc]
  rfl
theorem tabC_leaf {n : Nat} : (tabC n).all isLeaf = true := by
  simp [tabC, tabL, isLeaf]
theorem steps_outer {R : Caller} {s : St} {c0 : Value} : ∀ (k i : Nat), i + k = 256 →
    loopL (octet_steps.b0 R) [lptr, lptr, .int .i64 (i : Int), c0, .agg (tabC i).toArray] s = some (.exit 0, [lptr, lptr, c0, .agg (tabC 256).toArray], s)
  | 0, i, hi => by
    rw [loopL_eq]
    have hb : decide ((i : Int) < 256) = false := by simp; omega
    obtain rfl : i = 256 := by omega
    simp only [octet_steps.b0, Option.bind_some, Option.map_some, getL_0, getL_1, getL_2, getL_3, getL_4, getL_5, getL_6, getL_7, getL_8, getL_9, getL_10, getL_11, getL_12, condV_t, condV_f, guardV_tt, guardV_ff, guardV_tf, guardV_ft, guardV_u, apick_t, apick_f, exV_exit, exV_ret, lookE_same, joinK_eq, seqA_n, seqA_e, seqA_r, e_add, e_sub, e_mul, e_eql, e_neq, e_lss, e_leq, e_gtr, e_geq, e_conv, e_not, e_neg, and_guard, or_guard, hb]
  | k + 1, i, hi => by
    rw [loopL_eq]
    have hb : decide ((i : Int) < 256) = true := by simp; omega
    have w2 : IntKind.wrap .i64 ((i : Int) + 1) = ((i + 1 : Nat) : Int) := by rw [wrap_i64 (by omega) (by omega)]; push_cast; rfl
    have hcv : IntKind.wrap .u32 (i : Int) = (i : Int) := by rw [wrapu32, Nat.mod_eq_of_lt (by omega)]
    have hin := steps_inner (R := R) (s := s) (a := lptr) (b := lptr) (c := .int .i64 (i : Int)) (d := .int .i64 (i : Int)) (f := c0) (g := .agg (tabC i).toArray) 8 0 i (by omega) (by omega)
    rw [show (((0 : Nat)) : Int) = 0 from rfl] at hin
    simp only [octet_steps.b0, Option.bind_some, Option.map_some, getL_0, getL_1, getL_2, getL_3, getL_4, getL_5, getL_6, getL_7, getL_8, getL_9, getL_10, getL_11, getL_12, condV_t, condV_f, guardV_tt, guardV_ff, guardV_tf, guardV_ft, guardV_u, apick_t, apick_f, exV_exit, exV_ret, lookE_same, joinK_eq, seqA_n, seqA_e, seqA_r, e_add, e_sub, e_mul, e_eql, e_neq, e_lss, e_leq, e_gtr, e_geq, e_conv, e_not, e_neg, and_guard, or_guard, hb]
    rw [hcv, hin]
    simp only [Option.bind_some, Option.map_some, getL_0, getL_1, getL_2, getL_3, getL_4, getL_5, getL_6, getL_7, getL_8, getL_9, getL_10, getL_11, getL_12, condV_t, condV_f, guardV_tt, guardV_ff, guardV_tf, guardV_ft, guardV_u, apick_t, apick_f, exV_exit, exV_ret, lookE_same, joinK_eq, seqA_n, seqA_e, seqA_r, e_add, e_sub, e_mul, e_eql, e_neq, e_lss, e_leq, e_gtr, e_geq, e_conv, e_not, e_neg, and_guard, or_guard, arr_ix (show i < 256 by omega)]
    rw [arr_st (by rw [tabC_len (by omega)]; omega) rfl rfl]
    simp only [Option.bind_some, Option.map_some, getL_0, getL_1, getL_2, getL_3, getL_4, getL_5, getL_6, getL_7, getL_8, getL_9, getL_10, getL_11, getL_12, condV_t, condV_f, guardV_tt, guardV_ff, guardV_tf, guardV_ft, guardV_u, apick_t, apick_f, exV_exit, exV_ret, lookE_same, joinK_eq, seqA_n, seqA_e, seqA_r, e_add, e_sub, e_mul, e_eql, e_neq, e_lss, e_leq, e_gtr, e_geq, e_conv, e_not, e_neg, and_guard, or_guard]
    rw [w2, tabC_set (by omega)]
    exact steps_outer k (i + 1) (by omega)
def tabV : Value := .agg (tabC 256).toArray
theorem tab0 : List.replicate 256 (Value.int .u32 0) = tabC 0 := rfl
theorem steps_run {R : Caller} (s : St) : octet_steps R s = some (tabV, s) := by
  have ho := steps_outer (R := R) (s := s) (c0 := .agg (tabC 0).toArray) 256 0 (by omega)
  rw [show (((0 : Nat)) : Int) = 0 from rfl] at ho
  unfold octet_steps
  rw [tab0]
  simp only [Option.bind_some, Option.map_some, getL_0, getL_1, getL_2, getL_3, getL_4, getL_5, getL_6, getL_7, getL_8, getL_9, getL_10, getL_11, getL_12, condV_t, condV_f, guardV_tt, guardV_ff, guardV_tf, guardV_ft, guardV_u, apick_t, apick_f, exV_exit, exV_ret, lookE_same, joinK_eq, seqA_n, seqA_e, seqA_r, e_add, e_sub, e_mul, e_eql, e_neq, e_lss, e_leq, e_gtr, e_geq, e_conv, e_not, e_neg, and_guard, or_guard, ho]
  rw [arr_all (tabC_len (Nat.le_refl _))]
  simp only [Option.bind_some, Option.map_some, getL_0, getL_1, getL_2, getL_3, getL_4, getL_5, getL_6, getL_7, getL_8, getL_9, getL_10, getL_11, getL_12, condV_t, condV_f, guardV_tt, guardV_ff, guardV_tf, guardV_ft, guardV_u, apick_t, apick_f, exV_exit, exV_ret, lookE_same, joinK_eq, seqA_n, seqA_e, seqA_r, e_add, e_sub, e_mul, e_eql, e_neq, e_lss, e_leq, e_gtr, e_geq, e_conv, e_not, e_neg, and_guard, or_guard]
  rw [arr_put (tabC_len (by omega)) (tabC_len (Nat.le_refl _)) tabC_leaf]
  simp only [Option.bind_some, Option.map_some, getL_0, getL_1, getL_2, getL_3, getL_4, getL_5, getL_6, getL_7, getL_8, getL_9, getL_10, getL_11, getL_12, condV_t, condV_f, guardV_tt, guardV_ff, guardV_tf, guardV_ft, guardV_u, apick_t, apick_f, exV_exit, exV_ret, lookE_same, joinK_eq, seqA_n, seqA_e, seqA_r, e_add, e_sub, e_mul, e_eql, e_neq, e_lss, e_leq, e_gtr, e_geq, e_conv, e_not, e_neg, and_guard, or_guard]
  rw [arr_all (tabC_len (Nat.le_refl _))]
  rfl

/-- the sum, by the table -/
def sumT (r : Nat) : List UInt8 → Nat
  | [] => r
  | c :: l => sumT (r / 256 ^^^ stpN 8 (r % 256 ^^^ c.toNat)) l
/-- the sum, bit by bit -/
def sumR (r : Nat) : List UInt8 → Nat
  | [] => r
  | c :: l => sumR (stpN 8 (r ^^^ c.toNat)) l

theorem Sum_loop {R : Caller} {s : St} {v : Value} {l : List UInt8} (h : bytesOf v s = some l) : ∀ (rest : List UInt8) (i r : Nat), l.drop i = rest → l.length ≤ 140737488355328 → r < 4294967296 →
    loopL (octet_Sum.b0 R) [lptr, .int .u32 (r : Int), v, .int .i64 ((l.length : Nat) : Int), .int .i64 (i : Int), tabV] s = some (.exit 0, [.int .u32 ((sumT r rest : Nat) : Int)], s) ∧ sumT r rest < 4294967296 := by
  intro rest
  induction rest with
  | nil =>
    intro i r hr hlen hlt
    have hle : l.length ≤ i := List.drop_eq_nil_iff.1 hr
    rw [loopL_eq]
    have hc : decide ((i : Int) < ((l.length : Nat) : Int)) = false := by simp; omega
    simp only [octet_Sum.b0, Option.bind_some, Option.map_some, getL_0, getL_1, getL_2, getL_3, getL_4, getL_5, getL_6, getL_7, getL_8, getL_9, getL_10, getL_11, getL_12, condV_t, condV_f, guardV_tt, guardV_ff, guardV_tf, guardV_ft, guardV_u, apick_t, apick_f, exV_exit, exV_ret, lookE_same, joinK_eq, seqA_n, seqA_e, seqA_r, e_add, e_sub, e_mul, e_eql, e_neq, e_lss, e_leq, e_gtr, e_geq, e_conv, e_not, e_neg, and_guard, or_guard, hc]
    exact ⟨rfl, hlt⟩
  | cons c rest IH =>
    intro i r hr hlen hlt
    have hil : i < l.length := by
      rcases Nat.lt_or_ge i l.length with hh | hh
      · exact hh
      · rw [List.drop_eq_nil_of_le hh] at hr; cases hr
    have hci : l[i] = c := by
      have := List.drop_eq_getElem_cons hil
      rw [hr] at this
      exact (List.cons.inj this).1.symm
    have hrest : l.drop (i + 1) = rest := by
      have := List.drop_eq_getElem_cons hil
      rw [hr] at this
      exact (List.cons.inj this).2.symm
    obtain ⟨p, hp1, hp2⟩ := bytes_at h hil (k := .i64)
    rw [hci] at hp2
    have hcl : c.toNat < 256 := c.toNat_lt
    have hc : decide ((i : Int) < ((l.length : Nat) : Int)) = true := by simp; omega
    have w2 : IntKind.wrap .i64 ((i : Int) + 1) = ((i + 1 : Nat) : Int) := by rw [wrap_i64 (by omega) (by omega)]; push_cast; rfl
    have hx : r % 256 ^^^ c.toNat < 256 := Nat.xor_lt_two_pow (n := 8) (Nat.mod_lt _ (by decide)) hcl
    have h1 : ∀ t ox oy, abin Try.prog .shr t ox oy (.int .u32 (r : Int)) (.int .u64 8) = some (.int .u32 ((r / 256 : Nat) : Int)) := fun t ox oy => u_shr (P := Try.prog) (k := .u32) (a := r) (b := 8) (show r < 2 ^ 32 from hlt) (k2 := .u64)
    have h2 : ∀ t ox oy, abin Try.prog .xor t ox oy (.int .u8 ((r % 256 : Nat) : Int)) (.int .u8 ((c.toNat : Nat) : Int)) = some (.int .u8 ((r % 256 ^^^ c.toNat : Nat) : Int)) := fun t ox oy => u_xor rfl (show r % 256 < 2 ^ 8 from Nat.mod_lt _ (by decide)) hcl
    have hst := stpN_lt (k := 8) (r := r % 256 ^^^ c.toNat) (by omega)
    have hld : lload false 1 (.pointer (some ⟨0, r % 256 ^^^ c.toNat, none⟩)) tabV = some (.int .u32 ((stpN 8 (r % 256 ^^^ c.toNat) : Nat) : Int)) := by
      refine arr_ld ?_
      unfold tabC
      rw [List.getElem?_append_left (by rw [tabL_len]; exact hx)]
      simp [tabL, hx]
    have h3 : ∀ t ox oy, abin Try.prog .xor t ox oy (.int .u32 ((r / 256 : Nat) : Int)) (.int .u32 ((stpN 8 (r % 256 ^^^ c.toNat) : Nat) : Int)) = some (.int .u32 ((r / 256 ^^^ stpN 8 (r % 256 ^^^ c.toNat) : Nat) : Int)) := fun t ox oy => u_xor rfl (show r / 256 < 2 ^ 32 by omega) hst
    rw [loopL_eq]
    simp only [octet_Sum.b0, Option.bind_some, Option.map_some, getL_0, getL_1, getL_2, getL_3, getL_4, getL_5, getL_6, getL_7, getL_8, getL_9, getL_10, getL_11, getL_12, condV_t, condV_f, guardV_tt, guardV_ff, guardV_tf, guardV_ft, guardV_u, apick_t, apick_f, exV_exit, exV_ret, lookE_same, joinK_eq, seqA_n, seqA_e, seqA_r, e_add, e_sub, e_mul, e_eql, e_neq, e_lss, e_leq, e_gtr, e_geq, e_conv, e_not, e_neg, and_guard, or_guard, hc, hp1, hp2, h1, wrapu8, h2, arr_ix hx, hld, h3, w2]
    exact IH (i + 1) _ hrest hlen (Nat.xor_lt_two_pow (n := 32) (by omega) hst)

theorem not32 {r : Nat} (h : r < 4294967296) : aun .xor (.int .u32 (r : Int)) = some (.int .u32 ((r ^^^ 4294967295 : Nat) : Int)) := by
  have := u_xor (P := Try.prog) (t := 0) (ox := .tmp 0) (oy := .tmp 0) (k := .u32) (a := 4294967295) (b := r) rfl (by decide) (show r < 2 ^ 32 from h)
  rw [Nat.xor_comm]
  exact this
def sumV (l : List UInt8) : Nat := sumT 4294967295 l ^^^ 4294967295
def sumV2 (l : List UInt8) : Nat := sumR 4294967295 l ^^^ 4294967295
theorem Sum_run {R : Caller} {s : St} (hR : ∀ s, R 25 [] s = some (tabV, s)) {v : Value} {l : List UInt8} (h : bytesOf v s = some l) (hl : l.length ≤ 140737488355328) : octet_Sum R v s = some (.int .u32 ((sumV l : Nat) : Int), s) := by
  obtain ⟨h1, h2⟩ := Sum_loop (R := R) h l 0 4294967295 rfl hl (by decide)
  rw [show (((0 : Nat)) : Int) = 0 from rfl] at h1
  unfold octet_Sum
  simp only [octet_steps_call, hR, Option.bind_some, Option.map_some, getL_0, getL_1, getL_2, getL_3, getL_4, getL_5, getL_6, getL_7, getL_8, getL_9, getL_10, getL_11, getL_12, condV_t, condV_f, guardV_tt, guardV_ff, guardV_tf, guardV_ft, guardV_u, apick_t, apick_f, exV_exit, exV_ret, lookE_same, joinK_eq, seqA_n, seqA_e, seqA_r, e_add, e_sub, e_mul, e_eql, e_neq, e_lss, e_leq, e_gtr, e_geq, e_conv, e_not, e_neg, and_guard, or_guard]
  rw [tab0]
  rw [show tabV = .agg (tabC 256).toArray from rfl, arr_put (tabC_len (by omega)) (tabC_len (Nat.le_refl _)) tabC_leaf]
  simp only [Option.bind_some, Option.map_some, getL_0, getL_1, getL_2, getL_3, getL_4, getL_5, getL_6, getL_7, getL_8, getL_9, getL_10, getL_11, getL_12, condV_t, condV_f, guardV_tt, guardV_ff, guardV_tf, guardV_ft, guardV_u, apick_t, apick_f, exV_exit, exV_ret, lookE_same, joinK_eq, seqA_n, seqA_e, seqA_r, e_add, e_sub, e_mul, e_eql, e_neq, e_lss, e_leq, e_gtr, e_geq, e_conv, e_not, e_neg, and_guard, or_guard, bytes_len h]
  have h1' : loopL (octet_Sum.b0 R) [lptr, .int .u32 4294967295, v, .int .i64 ((l.length : Nat) : Int), .int .i64 0, .agg (tabC 256).toArray] s = some (.exit 0, [.int .u32 ((sumT 4294967295 l : Nat) : Int)], s) := h1
  rw [h1']
  simp only [Option.bind_some, Option.map_some, getL_0, getL_1, getL_2, getL_3, getL_4, getL_5, getL_6, getL_7, getL_8, getL_9, getL_10, getL_11, getL_12, condV_t, condV_f, guardV_tt, guardV_ff, guardV_tf, guardV_ft, guardV_u, apick_t, apick_f, exV_exit, exV_ret, lookE_same, joinK_eq, seqA_n, seqA_e, seqA_r, e_add, e_sub, e_mul, e_eql, e_neq, e_lss, e_leq, e_gtr, e_geq, e_conv, e_not, e_neg, and_guard, or_guard]
  rw [not32 h2]
  rfl

theorem refSum_inner {R : Caller} {s : St} {a b c : Value} : ∀ (k j r : Nat), j + k = 8 → r < 4294967296 →
    loopL (ref01_Sum.b1 R) [.int .u32 (r : Int), .int .i64 (j : Int), a, b, c] s = some (.exit 2, [.int .u32 ((stpN k r : Nat) : Int), a, b, c], s)
  | 0, j, r, hj, hr => by
    rw [loopL_eq]
    have hb : decide ((j : Int) < 8) = false := by simp; omega
    simp only [ref01_Sum.b1, Option.bind_some, Option.map_some, getL_0, getL_1, getL_2, getL_3, getL_4, getL_5, getL_6, getL_7, getL_8, getL_9, getL_10, getL_11, getL_12, condV_t, condV_f, guardV_tt, guardV_ff, guardV_tf, guardV_ft, guardV_u, apick_t, apick_f, exV_exit, exV_ret, lookE_same, joinK_eq, seqA_n, seqA_e, seqA_r, e_add, e_sub, e_mul, e_eql, e_neq, e_lss, e_leq, e_gtr, e_geq, e_conv, e_not, e_neg, and_guard, or_guard, hb]
    rfl
  | k + 1, j, r, hj, hr => by
    rw [loopL_eq]
    have hb : decide ((j : Int) < 8) = true := by simp; omega
    have w2 : IntKind.wrap .i64 ((j : Int) + 1) = ((j + 1 : Nat) : Int) := by rw [wrap_i64 (by omega) (by omega)]; push_cast; rfl
    have h1 : ∀ t ox oy, abin Try.prog .shr t ox oy (.int .u32 (r : Int)) (.int .u64 1) = some (.int .u32 ((r / 2 : Nat) : Int)) := fun t ox oy => by
      have := u_shr (P := Try.prog) (t := t) (ox := ox) (oy := oy) (k := .u32) (a := r) (b := 1) (show r < 2 ^ 32 from hr) (k2 := .u64)
      rw [Nat.pow_one] at this
      exact this
    have h2 : ∀ t ox oy, abin Try.prog .rem t ox oy (.int .u32 (r : Int)) (.int .u32 2) = some (.int .u32 ((r % 2 : Nat) : Int)) := fun t ox oy => by
      rw [e_rem (by decide)]; rfl
    have h4 : ∀ t ox oy, abin Try.prog .xor t ox oy (.int .u32 ((r / 2 : Nat) : Int)) (.int .u32 3988292384) = some (.int .u32 ((r / 2 ^^^ 3988292384 : Nat) : Int)) := fun t ox oy => u_xor rfl (show r / 2 < 2 ^ 32 by omega) (by decide)
    rcases Nat.mod_two_eq_zero_or_one r with e | e
    · have hd : (((r % 2 : Nat) : Int) == 1) = false := by rw [e]; rfl
      simp only [ref01_Sum.b1, ref01_Sum.j0, Option.bind_some, Option.map_some, getL_0, getL_1, getL_2, getL_3, getL_4, getL_5, getL_6, getL_7, getL_8, getL_9, getL_10, getL_11, getL_12, condV_t, condV_f, guardV_tt, guardV_ff, guardV_tf, guardV_ft, guardV_u, apick_t, apick_f, exV_exit, exV_ret, lookE_same, joinK_eq, seqA_n, seqA_e, seqA_r, e_add, e_sub, e_mul, e_eql, e_neq, e_lss, e_leq, e_gtr, e_geq, e_conv, e_not, e_neg, and_guard, or_guard, hb, h1, h2, hd, w2]
      have hs : r / 2 = stp r := by unfold stp; rw [e, if_neg (by decide), Nat.xor_zero]
      rw [hs]
      exact refSum_inner k (j + 1) (stp r) (by omega) (stp_lt hr)
    · have hd : (((r % 2 : Nat) : Int) == 1) = true := by rw [e]; rfl
      simp only [ref01_Sum.b1, ref01_Sum.j0, Option.bind_some, Option.map_some, getL_0, getL_1, getL_2, getL_3, getL_4, getL_5, getL_6, getL_7, getL_8, getL_9, getL_10, getL_11, getL_12, condV_t, condV_f, guardV_tt, guardV_ff, guardV_tf, guardV_ft, guardV_u, apick_t, apick_f, exV_exit, exV_ret, lookE_same, joinK_eq, seqA_n, seqA_e, seqA_r, e_add, e_sub, e_mul, e_eql, e_neq, e_lss, e_leq, e_gtr, e_geq, e_conv, e_not, e_neg, and_guard, or_guard, hb, h1, h2, hd, h4, w2]
      have hs : r / 2 ^^^ 3988292384 = stp r := by unfold stp; rw [e, if_pos rfl]
      rw [hs]
      exact refSum_inner k (j + 1) (stp r) (by omega) (stp_lt hr)

theorem refSum_loop {R : Caller} {s : St} {v : Value} {l : List UInt8} (h : bytesOf v s = some l) : ∀ (rest : List UInt8) (i r : Nat), l.drop i = rest → l.length ≤ 140737488355328 → r < 4294967296 →
    loopL (ref01_Sum.b0 R) [.int .u32 (r : Int), v, .int .i64 ((l.length : Nat) : Int), .int .i64 (i : Int)] s = some (.exit 0, [.int .u32 ((sumR r rest : Nat) : Int)], s) ∧ sumR r rest < 4294967296 := by
  intro rest
  induction rest with
  | nil =>
    intro i r hr hlen hlt
    have hle : l.length ≤ i := List.drop_eq_nil_iff.1 hr
    rw [loopL_eq]
    have hc : decide ((i : Int) < ((l.length : Nat) : Int)) = false := by simp; omega
    simp only [ref01_Sum.b0, Option.bind_some, Option.map_some, getL_0, getL_1, getL_2, getL_3, getL_4, getL_5, getL_6, getL_7, getL_8, getL_9, getL_10, getL_11, getL_12, condV_t, condV_f, guardV_tt, guardV_ff, guardV_tf, guardV_ft, guardV_u, apick_t, apick_f, exV_exit, exV_ret, lookE_same, joinK_eq, seqA_n, seqA_e, seqA_r, e_add, e_sub, e_mul, e_eql, e_neq, e_lss, e_leq, e_gtr, e_geq, e_conv, e_not, e_neg, and_guard, or_guard, hc]
    exact ⟨rfl, hlt⟩
  | cons c rest IH =>
    intro i r hr hlen hlt
    have hil : i < l.length := by
      rcases Nat.lt_or_ge i l.length with hh | hh
      · exact hh
      · rw [List.drop_eq_nil_of_le hh] at hr; cases hr
    have hci : l[i] = c := by
      have := List.drop_eq_getElem_cons hil
      rw [hr] at this
      exact (List.cons.inj this).1.symm
    have hrest : l.drop (i + 1) = rest := by
      have := List.drop_eq_getElem_cons hil
      rw [hr] at this
      exact (List.cons.inj this).2.symm
    obtain ⟨p, hp1, hp2⟩ := bytes_at h hil (k := .i64)
    rw [hci] at hp2
    have hcl : c.toNat < 256 := c.toNat_lt
    have hc : decide ((i : Int) < ((l.length : Nat) : Int)) = true := by simp; omega
    have w2 : IntKind.wrap .i64 ((i : Int) + 1) = ((i + 1 : Nat) : Int) := by rw [wrap_i64 (by omega) (by omega)]; push_cast; rfl
    have hcv : IntKind.wrap .u32 ((c.toNat : Nat) : Int) = ((c.toNat : Nat) : Int) := by rw [wrapu32, Nat.mod_eq_of_lt (by omega)]
    have hx : r ^^^ c.toNat < 4294967296 := Nat.xor_lt_two_pow (n := 32) hlt (by omega)
    have h2 : ∀ t ox oy, abin Try.prog .xor t ox oy (.int .u32 (r : Int)) (.int .u32 ((c.toNat : Nat) : Int)) = some (.int .u32 ((r ^^^ c.toNat : Nat) : Int)) := fun t ox oy => u_xor rfl (show r < 2 ^ 32 from hlt) (show c.toNat < 2 ^ 32 by omega)
    have hin := refSum_inner (R := R) (s := s) (a := v) (b := .int .i64 ((l.length : Nat) : Int)) (c := .int .i64 (i : Int)) 8 0 (r ^^^ c.toNat) (by omega) hx
    rw [show (((0 : Nat)) : Int) = 0 from rfl] at hin
    rw [loopL_eq]
    simp only [ref01_Sum.b0, Option.bind_some, Option.map_some, getL_0, getL_1, getL_2, getL_3, getL_4, getL_5, getL_6, getL_7, getL_8, getL_9, getL_10, getL_11, getL_12, condV_t, condV_f, guardV_tt, guardV_ff, guardV_tf, guardV_ft, guardV_u, apick_t, apick_f, exV_exit, exV_ret, lookE_same, joinK_eq, seqA_n, seqA_e, seqA_r, e_add, e_sub, e_mul, e_eql, e_neq, e_lss, e_leq, e_gtr, e_geq, e_conv, e_not, e_neg, and_guard, or_guard, hc, hp1, hp2]
    rw [hcv]
    simp only [h2, Option.bind_some, Option.map_some, getL_0, getL_1, getL_2, getL_3, getL_4, getL_5, getL_6, getL_7, getL_8, getL_9, getL_10, getL_11, getL_12, condV_t, condV_f, guardV_tt, guardV_ff, guardV_tf, guardV_ft, guardV_u, apick_t, apick_f, exV_exit, exV_ret, lookE_same, joinK_eq, seqA_n, seqA_e, seqA_r, e_add, e_sub, e_mul, e_eql, e_neq, e_lss, e_leq, e_gtr, e_geq, e_conv, e_not, e_neg, and_guard, or_guard, hin, w2]
    exact IH (i + 1) _ hrest hlen (stpN_lt hx)
theorem refSum_run {R : Caller} {s : St} {v : Value} {l : List UInt8} (h : bytesOf v s = some l) (hl : l.length ≤ 140737488355328) : ref01_Sum R v s = some (.int .u32 ((sumV2 l : Nat) : Int), s) := by
  obtain ⟨h1, h2⟩ := refSum_loop (R := R) h l 0 4294967295 rfl hl (by decide)
  rw [show (((0 : Nat)) : Int) = 0 from rfl] at h1
  have h1' : loopL (ref01_Sum.b0 R) [.int .u32 4294967295, v, .int .i64 ((l.length : Nat) : Int), .int .i64 0] s = some (.exit 0, [.int .u32 ((sumR 4294967295 l : Nat) : Int)], s) := h1
  have hx : ∀ t ox oy, abin Try.prog .xor t ox oy (.int .u32 ((sumR 4294967295 l : Nat) : Int)) (.int .u32 4294967295) = some (.int .u32 ((sumR 4294967295 l ^^^ 4294967295 : Nat) : Int)) := fun t ox oy => u_xor rfl (show sumR 4294967295 l < 2 ^ 32 from h2) (by decide)
  unfold ref01_Sum
  simp only [bytes_len h, Option.bind_some, Option.map_some, getL_0, getL_1, getL_2, getL_3, getL_4, getL_5, getL_6, getL_7, getL_8, getL_9, getL_10, getL_11, getL_12, condV_t, condV_f, guardV_tt, guardV_ff, guardV_tf, guardV_ft, guardV_u, apick_t, apick_f, exV_exit, exV_ret, lookE_same, joinK_eq, seqA_n, seqA_e, seqA_r, e_add, e_sub, e_mul, e_eql, e_neq, e_lss, e_leq, e_gtr, e_geq, e_conv, e_not, e_neg, and_guard, or_guard]
  rw [h1']
  simp only [Option.bind_some, Option.map_some, getL_0, getL_1, getL_2, getL_3, getL_4, getL_5, getL_6, getL_7, getL_8, getL_9, getL_10, getL_11, getL_12, condV_t, condV_f, guardV_tt, guardV_ff, guardV_tf, guardV_ft, guardV_u, apick_t, apick_f, exV_exit, exV_ret, lookE_same, joinK_eq, seqA_n, seqA_e, seqA_r, e_add, e_sub, e_mul, e_eql, e_neq, e_lss, e_leq, e_gtr, e_geq, e_conv, e_not, e_neg, and_guard, or_guard]
  rw [hx]
  rfl

/-! ### Both are one -/
theorem xor_mod2 (a b : Nat) : (a ^^^ b) % 2 = 1 ↔ ¬ (a % 2 = 1 ↔ b % 2 = 1) := by
  have h := Nat.testBit_xor a b 0
  simp only [Nat.testBit_zero] at h
  by_cases e : a % 2 = 1 <;> by_cases g : b % 2 = 1 <;> simp [e, g] at h ⊢ <;> omega
theorem stp_xor (a b : Nat) : stp (a ^^^ b) = stp a ^^^ stp b := by
  have h := xor_mod2 a b
  unfold stp
  rw [Nat.xor_div_two]
  generalize 3988292384 = p
  generalize a / 2 = x
  generalize b / 2 = y
  by_cases e : a % 2 = 1 <;> by_cases g : b % 2 = 1
  · rw [if_neg (by simp [h, e, g]), if_pos e, if_pos g, Nat.xor_zero, Nat.xor_comm y p, ← Nat.xor_assoc, Nat.xor_assoc x p p, Nat.xor_self, Nat.xor_zero]
  · rw [if_pos (by simp [h, e, g]), if_pos e, if_neg g, Nat.xor_zero, Nat.xor_assoc, Nat.xor_assoc, Nat.xor_comm y]
  · rw [if_pos (by simp [h, e, g]), if_neg e, if_pos g, Nat.xor_zero, Nat.xor_assoc]
  · rw [if_neg (by simp [h, e, g]), if_neg e, if_neg g]; simp
theorem stpN_xor : ∀ (k a b : Nat), stpN k (a ^^^ b) = stpN k a ^^^ stpN k b
  | 0, _, _ => rfl
  | k + 1, a, b => by rw [stpN, stp_xor, stpN_xor k]; rfl
theorem stp_even (m : Nat) : stp (2 * m) = m := by
  unfold stp
  rw [if_neg (by omega), Nat.xor_zero]
  omega
theorem stpN_high : ∀ (k m : Nat), stpN k (2 ^ k * m) = m
  | 0, m => by simp [stpN]
  | k + 1, m => by
    rw [stpN, show 2 ^ (k + 1) * m = 2 * (2 ^ k * m) by rw [Nat.pow_succ]; rw [Nat.mul_comm (2 ^ k) 2, Nat.mul_assoc], stp_even, stpN_high k]
theorem split256 (r : Nat) : r = 2 ^ 8 * (r / 256) ^^^ r % 256 := by
  have h := Nat.two_pow_add_eq_or_of_lt (i := 8) (show r % 256 < 2 ^ 8 from Nat.mod_lt _ (by decide)) (r / 256)
  have h2 : 2 ^ 8 * (r / 256) ||| r % 256 = 2 ^ 8 * (r / 256) ^^^ r % 256 := by
    apply Nat.eq_of_testBit_eq
    intro i
    rw [Nat.testBit_or, Nat.testBit_xor, Nat.testBit_two_pow_mul]
    by_cases hi : 8 ≤ i
    · have : (r % 256).testBit i = false := Nat.testBit_lt_two_pow (Nat.lt_of_lt_of_le (Nat.mod_lt _ (by decide)) (Nat.pow_le_pow_right (by omega) hi : 2 ^ 8 ≤ 2 ^ i))
      simp [this]
    · simp [hi]
  rw [← h2, ← h]
  omega
theorem sum_step (r c : Nat) : r / 256 ^^^ stpN 8 (r % 256 ^^^ c) = stpN 8 (r ^^^ c) := by
  conv => rhs; rw [split256 r, Nat.xor_assoc, stpN_xor, stpN_high]
theorem sumT_eq : ∀ (l : List UInt8) (r : Nat), sumT r l = sumR r l
  | [], _ => rfl
  | c :: l, r => by rw [sumT, sumR, sum_step, sumT_eq l]
theorem sumV_eq (l : List UInt8) : sumV2 l = sumV l := by unfold sumV2 sumV; rw [sumT_eq]
end Go.Proofs.Ytpbbbfemnkeplaa.Ab
