/- Numbers in four bytes, and sums: what the program's functions do. -/
import Derived.Test.YtpbbbfemnkeplaaFxOct
set_option linter.unusedVariables false
set_option linter.unusedSimpArgs false
set_option linter.unusedSectionVars false
namespace Go.Proofs.Ytpbbbfemnkeplaa.Ab
open Go

/-! ### Four bytes -/
def fixB (n : Nat) : List UInt8 := [UInt8.ofNat (n % 256), UInt8.ofNat (n / 256 % 256), UInt8.ofNat (n / 65536 % 256), UInt8.ofNat (n / 16777216 % 256)]
def fixV (n : Nat) : Value := .agg #[.int .u8 ((n % 256 : Nat) : Int), .int .u8 ((n / 256 % 256 : Nat) : Int), .int .u8 ((n / 65536 % 256 : Nat) : Int), .int .u8 ((n / 16777216 % 256 : Nat) : Int)]
theorem fixV_eq (n : Nat) : fixV n = .agg (bv (fixB n)).toArray := by
  have h : ∀ m : Nat, m % 256 % 256 = m % 256 := fun m => by omega
  simp [fixV, bv, fixB, h]

def fixFill (n : Nat) : Nat → Nat → List Value → List Value
  | 0, _, cs => cs
  | d + 1, i, cs => fixFill n d (i + 1) (cs.set i (.int .u8 ((n / 2 ^ (8 * i) % 256 : Nat) : Int)))
theorem Fixed_loop {R : Caller} {n : Nat} (hn : n < 4294967296) {s : St} {c0 : Value} : ∀ (d i : Nat) (cs : List Value), i + d = 4 → cs.length = 4 →
    loopL (octet_Fixed.b0 R) [.int .u32 (n : Int), lptr, lptr, .int .i64 (i : Int), c0, .agg cs.toArray] s = some (.exit 0, [lptr, lptr, c0, .agg (fixFill n d i cs).toArray], s)
  | 0, i, cs, hi, hc => by
    rw [loopL_eq]
    have hb : decide ((i : Int) < 4) = false := by simp; omega
    simp only [octet_Fixed.b0, Option.bind_some, Option.map_some, getL_0, getL_1, getL_2, getL_3, getL_4, getL_5, getL_6, getL_7, getL_8, getL_9, getL_10, getL_11, getL_12, condV_t, condV_f, guardV_tt, guardV_ff, guardV_tf, guardV_ft, guardV_u, apick_t, apick_f, exV_exit, exV_ret, lookE_same, joinK_eq, seqA_n, seqA_e, seqA_r, e_add, e_sub, e_mul, e_eql, e_neq, e_lss, e_leq, e_gtr, e_geq, e_conv, e_not, e_neg, and_guard, or_guard, hb]
    rfl
  | d + 1, i, cs, hi, hc => by
    rw [loopL_eq]
    have hb : decide ((i : Int) < 4) = true := by simp; omega
    have w : IntKind.wrap .i64 (8 * (i : Int)) = ((8 * i : Nat) : Int) := by rw [wrap_i64 (by omega) (by omega)]; push_cast; rfl
    have w2 : IntKind.wrap .i64 ((i : Int) + 1) = ((i + 1 : Nat) : Int) := by rw [wrap_i64 (by omega) (by omega)]; push_cast; rfl
    have hs : ∀ t ox oy, abin Try.prog .shr t ox oy (.int .u32 (n : Int)) (.int .i64 ((8 * i : Nat) : Int)) = some (.int .u32 ((n / 2 ^ (8 * i) : Nat) : Int)) := fun t ox oy => u_shr (show n < 2 ^ 32 from hn)
    simp only [octet_Fixed.b0, Option.bind_some, Option.map_some, getL_0, getL_1, getL_2, getL_3, getL_4, getL_5, getL_6, getL_7, getL_8, getL_9, getL_10, getL_11, getL_12, condV_t, condV_f, guardV_tt, guardV_ff, guardV_tf, guardV_ft, guardV_u, apick_t, apick_f, exV_exit, exV_ret, lookE_same, joinK_eq, seqA_n, seqA_e, seqA_r, e_add, e_sub, e_mul, e_eql, e_neq, e_lss, e_leq, e_gtr, e_geq, e_conv, e_not, e_neg, and_guard, or_guard, hb, w, hs, wrapu8, arr_ix (show i < 4 by omega), w2]
    rw [arr_st (by omega) rfl rfl]
    simp only [Option.bind_some, Option.map_some, getL_0, getL_1, getL_2, getL_3, getL_4, getL_5, getL_6, getL_7, getL_8, getL_9, getL_10, getL_11, getL_12, condV_t, condV_f, guardV_tt, guardV_ff, guardV_tf, guardV_ft, guardV_u, apick_t, apick_f, exV_exit, exV_ret, lookE_same, joinK_eq, seqA_n, seqA_e, seqA_r, e_add, e_sub, e_mul, e_eql, e_neq, e_lss, e_leq, e_gtr, e_geq, e_conv, e_not, e_neg, and_guard, or_guard]
    exact Fixed_loop hn d (i + 1) _ (by omega) (by simpa using hc)
theorem Fixed_run {R : Caller} {n : Nat} (hn : n < 4294967296) (s : St) : octet_Fixed R (.int .u32 (n : Int)) s = some (fixV n, s) := by
  have hfill : fixFill n 4 0 [.int .u8 0, .int .u8 0, .int .u8 0, .int .u8 0] = [.int .u8 ((n % 256 : Nat) : Int), .int .u8 ((n / 256 % 256 : Nat) : Int), .int .u8 ((n / 65536 % 256 : Nat) : Int), .int .u8 ((n / 16777216 % 256 : Nat) : Int)] := by
    simp [fixFill]
  have hlp := Fixed_loop (R := R) hn (s := s) (c0 := .agg [.int .u8 0, .int .u8 0, .int .u8 0, .int .u8 0].toArray) 4 0 [.int .u8 0, .int .u8 0, .int .u8 0, .int .u8 0] rfl rfl
  rw [hfill] at hlp
  rw [show (((0 : Nat)) : Int) = 0 from rfl] at hlp
  have hbox := arr_box (cs := [.int .u8 0, .int .u8 0, .int .u8 0, .int .u8 0]) rfl
  have e1 := arr_all (n := 4) (cs := [.int .u8 ((n % 256 : Nat) : Int), .int .u8 ((n / 256 % 256 : Nat) : Int), .int .u8 ((n / 65536 % 256 : Nat) : Int), .int .u8 ((n / 16777216 % 256 : Nat) : Int)]) rfl
  have e2 := arr_put (n := 4) (cs := [.int .u8 0, .int .u8 0, .int .u8 0, .int .u8 0]) (ds := [.int .u8 ((n % 256 : Nat) : Int), .int .u8 ((n / 256 % 256 : Nat) : Int), .int .u8 ((n / 65536 % 256 : Nat) : Int), .int .u8 ((n / 16777216 % 256 : Nat) : Int)]) rfl rfl rfl
  unfold octet_Fixed
  simp only [hbox, Option.bind_some, Option.map_some, getL_0, getL_1, getL_2, getL_3, getL_4, getL_5, getL_6, getL_7, getL_8, getL_9, getL_10, getL_11, getL_12, condV_t, condV_f, guardV_tt, guardV_ff, guardV_tf, guardV_ft, guardV_u, apick_t, apick_f, exV_exit, exV_ret, lookE_same, joinK_eq, seqA_n, seqA_e, seqA_r, e_add, e_sub, e_mul, e_eql, e_neq, e_lss, e_leq, e_gtr, e_geq, e_conv, e_not, e_neg, and_guard, or_guard, hlp, e1, e2]
  rfl
/-- the number of bytes, the least first -/
def leN : Nat → List UInt8 → Nat
  | _, [] => 0
  | i, c :: l => c.toNat * 2 ^ (8 * i) + leN (i + 1) l
theorem leN_lt : ∀ (l : List UInt8) (i : Nat), leN i l < 2 ^ (8 * (i + l.length)) ∧ ∃ m, leN i l = m * 2 ^ (8 * i)
  | [], i => ⟨Nat.two_pow_pos _, 0, by simp [leN]⟩
  | c :: l, i => by
    obtain ⟨h1, m, h2⟩ := leN_lt l (i + 1)
    have hc := c.toNat_lt
    have e : 2 ^ (8 * (i + 1)) = 256 * 2 ^ (8 * i) := by rw [show 8 * (i + 1) = 8 + 8 * i by omega, Nat.pow_add]
    refine ⟨?_, c.toNat + m * 256, ?_⟩
    · simp only [leN, List.length_cons]
      rw [show i + (l.length + 1) = i + 1 + l.length by omega]
      -- the rest is a multiple of the next power
      have e2 : 2 ^ (8 * (i + 1 + l.length)) = 2 ^ (8 * l.length) * 2 ^ (8 * (i + 1)) := by rw [← Nat.pow_add]; congr 1; omega
      rw [h2, e2] at h1 ⊢
      have hm : m < 2 ^ (8 * l.length) := Nat.lt_of_mul_lt_mul_right h1
      have h3 : (m + 1) * 2 ^ (8 * (i + 1)) ≤ 2 ^ (8 * l.length) * 2 ^ (8 * (i + 1)) := Nat.mul_le_mul_right _ hm
      have h4 : (c.toNat + 1) * 2 ^ (8 * i) ≤ 256 * 2 ^ (8 * i) := Nat.mul_le_mul_right _ (by omega)
      rw [Nat.add_mul] at h3 h4
      omega
    · simp only [leN]
      rw [h2, e, Nat.add_mul, Nat.mul_assoc]

theorem ReadFixed_loop {R : Caller} {s : St} {v : Value} {l : List UInt8} (h : bytesOf v s = some l) (hl : l.length = 4) : ∀ (rest : List UInt8) (i n : Nat), l.drop i = rest → n < 2 ^ (8 * i) →
    loopL (octet_ReadFixed.b0 R) [.int .u32 (n : Int), v, .int .i64 ((l.length : Nat) : Int), .int .i64 (i : Int)] s = some (.exit 0, [.int .u32 ((n + leN i rest : Nat) : Int)], s) := by
  intro rest
  induction rest with
  | nil =>
    intro i n hr hn
    have hle : l.length ≤ i := List.drop_eq_nil_iff.1 hr
    rw [loopL_eq]
    have hc : decide ((i : Int) < ((l.length : Nat) : Int)) = false := by simp; omega
    simp only [octet_ReadFixed.b0, Option.bind_some, Option.map_some, getL_0, getL_1, getL_2, getL_3, getL_4, getL_5, getL_6, getL_7, getL_8, getL_9, getL_10, getL_11, getL_12, condV_t, condV_f, guardV_tt, guardV_ff, guardV_tf, guardV_ft, guardV_u, apick_t, apick_f, exV_exit, exV_ret, lookE_same, joinK_eq, seqA_n, seqA_e, seqA_r, e_add, e_sub, e_mul, e_eql, e_neq, e_lss, e_leq, e_gtr, e_geq, e_conv, e_not, e_neg, and_guard, or_guard, hc]
    rfl
  | cons c rest IH =>
    intro i n hr hn
    have hlt : i < l.length := by
      rcases Nat.lt_or_ge i l.length with hh | hh
      · exact hh
      · rw [List.drop_eq_nil_of_le hh] at hr; cases hr
    have hci : l[i] = c := by
      have := List.drop_eq_getElem_cons hlt
      rw [hr] at this
      exact (List.cons.inj this).1.symm
    have hrest : l.drop (i + 1) = rest := by
      have := List.drop_eq_getElem_cons hlt
      rw [hr] at this
      exact (List.cons.inj this).2.symm
    obtain ⟨p, hp1, hp2⟩ := bytes_at h hlt (k := .i64)
    rw [hci] at hp2
    have hcl := c.toNat_lt
    have e : 2 ^ (8 * (i + 1)) = 256 * 2 ^ (8 * i) := by rw [show 8 * (i + 1) = 8 + 8 * i by omega, Nat.pow_add]
    have h4 : (c.toNat + 1) * 2 ^ (8 * i) ≤ 256 * 2 ^ (8 * i) := Nat.mul_le_mul_right _ (by omega)
    rw [Nat.add_mul] at h4
    have h32 : 2 ^ (8 * (i + 1)) ≤ 2 ^ 32 := Nat.pow_le_pow_right (by omega) (by omega)
    have hc : decide ((i : Int) < ((l.length : Nat) : Int)) = true := by simp; omega
    have w : IntKind.wrap .i64 (8 * (i : Int)) = ((8 * i : Nat) : Int) := by rw [wrap_i64 (by omega) (by omega)]; push_cast; rfl
    have w2 : IntKind.wrap .i64 ((i : Int) + 1) = ((i + 1 : Nat) : Int) := by rw [wrap_i64 (by omega) (by omega)]; push_cast; rfl
    have hcv : IntKind.wrap .u32 ((c.toNat : Nat) : Int) = ((c.toNat : Nat) : Int) := by rw [wrapu32, Nat.mod_eq_of_lt (by omega)]
    have hsh : ∀ t ox oy, abin Try.prog .shl t ox oy (.int .u32 ((c.toNat : Nat) : Int)) (.int .i64 ((8 * i : Nat) : Int)) = some (.int .u32 ((c.toNat * 2 ^ (8 * i) : Nat) : Int)) := fun t ox oy => by
      rw [u_shl rfl, show c.toNat * 2 ^ (8 * i) % 2 ^ IntKind.bits .u32 = c.toNat * 2 ^ (8 * i) from Nat.mod_eq_of_lt (by show _ < 2 ^ 32; omega)]
    have hor : ∀ t ox oy, abin Try.prog .or t ox oy (.int .u32 (n : Int)) (.int .u32 ((c.toNat * 2 ^ (8 * i) : Nat) : Int)) = some (.int .u32 ((n + c.toNat * 2 ^ (8 * i) : Nat) : Int)) := fun t ox oy => by
      rw [u_or rfl (show n < 2 ^ 32 by omega) (show c.toNat * 2 ^ (8 * i) < 2 ^ 32 by omega), or_add hn]
    rw [loopL_eq]
    simp only [octet_ReadFixed.b0, Option.bind_some, Option.map_some, getL_0, getL_1, getL_2, getL_3, getL_4, getL_5, getL_6, getL_7, getL_8, getL_9, getL_10, getL_11, getL_12, condV_t, condV_f, guardV_tt, guardV_ff, guardV_tf, guardV_ft, guardV_u, apick_t, apick_f, exV_exit, exV_ret, lookE_same, joinK_eq, seqA_n, seqA_e, seqA_r, e_add, e_sub, e_mul, e_eql, e_neq, e_lss, e_leq, e_gtr, e_geq, e_conv, e_not, e_neg, and_guard, or_guard, hc, hp1, hp2, w, w2]
    rw [hcv]
    simp only [Option.bind_some, Option.map_some, getL_0, getL_1, getL_2, getL_3, getL_4, getL_5, getL_6, getL_7, getL_8, getL_9, getL_10, getL_11, getL_12, condV_t, condV_f, guardV_tt, guardV_ff, guardV_tf, guardV_ft, guardV_u, apick_t, apick_f, exV_exit, exV_ret, lookE_same, joinK_eq, seqA_n, seqA_e, seqA_r, e_add, e_sub, e_mul, e_eql, e_neq, e_lss, e_leq, e_gtr, e_geq, e_conv, e_not, e_neg, and_guard, or_guard, hsh, hor]
    rw [IH (i + 1) _ hrest (by omega), leN, Nat.add_assoc]

def tupF (n : Nat) (e : Int) : Value := .tuple #[.int .u32 (n : Int), .int .i64 e]
def readFix (l : List UInt8) : Nat × Int := if l.length < 4 then (0, 10) else (leN 0 (l.take 4), 0)
theorem ReadFixed_run {R : Caller} {s : St} {v : Value} {l : List UInt8} (h : bytesOf v s = some l) : octet_ReadFixed R v s = some (tupF (readFix l).1 (readFix l).2, s) := by
  unfold octet_ReadFixed readFix
  simp only [bytes_len h, Option.bind_some, Option.map_some, getL_0, getL_1, getL_2, getL_3, getL_4, getL_5, getL_6, getL_7, getL_8, getL_9, getL_10, getL_11, getL_12, condV_t, condV_f, guardV_tt, guardV_ff, guardV_tf, guardV_ft, guardV_u, apick_t, apick_f, exV_exit, exV_ret, lookE_same, joinK_eq, seqA_n, seqA_e, seqA_r, e_add, e_sub, e_mul, e_eql, e_neq, e_lss, e_leq, e_gtr, e_geq, e_conv, e_not, e_neg, and_guard, or_guard]
  by_cases h4 : l.length < 4
  · have hb : decide (((l.length : Nat) : Int) < 4) = true := by simp; omega
    simp only [hb, Option.bind_some, Option.map_some, getL_0, getL_1, getL_2, getL_3, getL_4, getL_5, getL_6, getL_7, getL_8, getL_9, getL_10, getL_11, getL_12, condV_t, condV_f, guardV_tt, guardV_ff, guardV_tf, guardV_ft, guardV_u, apick_t, apick_f, exV_exit, exV_ret, lookE_same, joinK_eq, seqA_n, seqA_e, seqA_r, e_add, e_sub, e_mul, e_eql, e_neq, e_lss, e_leq, e_gtr, e_geq, e_conv, e_not, e_neg, and_guard, or_guard, if_pos h4]
    rfl
  · have hb : decide (((l.length : Nat) : Int) < 4) = false := by simp; omega
    obtain ⟨u, hu1, hu2⟩ := bytes_slice h (lo := none) (hi := some (.int .i64 4)) (mx := none) (i := 0) (j := 4) (by simp [abound]) (by simp [abound]) (by omega) (by omega) (.inl rfl)
    have hlp := ReadFixed_loop (R := R) hu2 (by simp; omega) _ 0 0 rfl (by simp)
    simp only [hb, Option.bind_some, Option.map_some, getL_0, getL_1, getL_2, getL_3, getL_4, getL_5, getL_6, getL_7, getL_8, getL_9, getL_10, getL_11, getL_12, condV_t, condV_f, guardV_tt, guardV_ff, guardV_tf, guardV_ft, guardV_u, apick_t, apick_f, exV_exit, exV_ret, lookE_same, joinK_eq, seqA_n, seqA_e, seqA_r, e_add, e_sub, e_mul, e_eql, e_neq, e_lss, e_leq, e_gtr, e_geq, e_conv, e_not, e_neg, and_guard, or_guard, if_neg h4, hu1, bytes_len hu2]
    rw [show (0 : Int) = ((0 : Nat) : Int) from rfl, hlp]
    simp only [Option.bind_some, Option.map_some, getL_0, getL_1, getL_2, getL_3, getL_4, getL_5, getL_6, getL_7, getL_8, getL_9, getL_10, getL_11, getL_12, condV_t, condV_f, guardV_tt, guardV_ff, guardV_tf, guardV_ft, guardV_u, apick_t, apick_f, exV_exit, exV_ret, lookE_same, joinK_eq, seqA_n, seqA_e, seqA_r, e_add, e_sub, e_mul, e_eql, e_neq, e_lss, e_leq, e_gtr, e_geq, e_conv, e_not, e_neg, and_guard, or_guard, List.drop_zero, Nat.sub_zero, Nat.zero_add]
    rfl

theorem fixBuild (a b c d : Int) : abuild Try.prog 34 [(0, .int .u8 a), (1, .int .u8 b), (2, .int .u8 c), (3, .int .u8 d)] = some (.agg #[.int .u8 a, .int .u8 b, .int .u8 c, .int .u8 d]) := by kernel_rfl
theorem refFixed_run {R : Caller} {n : Nat} (hn : n < 4294967296) (s : St) : ref01_Fixed R (.int .u32 (n : Int)) s = some (fixV n, s) := by
  have hs : ∀ (k : Nat) t ox oy, abin Try.prog .shr t ox oy (.int .u32 (n : Int)) (.int .u64 ((k : Nat) : Int)) = some (.int .u32 ((n / 2 ^ k : Nat) : Int)) := fun k t ox oy => u_shr (show n < 2 ^ 32 from hn)
  have hs1 : ∀ t ox oy, abin Try.prog .shr t ox oy (.int .u32 (n : Int)) (.int .u64 8) = some (.int .u32 ((n / 256 : Nat) : Int)) := fun t ox oy => hs 8 t ox oy
  have hs2 : ∀ t ox oy, abin Try.prog .shr t ox oy (.int .u32 (n : Int)) (.int .u64 16) = some (.int .u32 ((n / 65536 : Nat) : Int)) := fun t ox oy => hs 16 t ox oy
  have hs3 : ∀ t ox oy, abin Try.prog .shr t ox oy (.int .u32 (n : Int)) (.int .u64 24) = some (.int .u32 ((n / 16777216 : Nat) : Int)) := fun t ox oy => hs 24 t ox oy
  have hbox := arr_box (cs := [.int .u8 0, .int .u8 0, .int .u8 0, .int .u8 0]) rfl
  have e1 := arr_all (n := 4) (cs := [.int .u8 ((n % 256 : Nat) : Int), .int .u8 ((n / 256 % 256 : Nat) : Int), .int .u8 ((n / 65536 % 256 : Nat) : Int), .int .u8 ((n / 16777216 % 256 : Nat) : Int)]) rfl
  have e2 := arr_put (n := 4) (cs := [.int .u8 0, .int .u8 0, .int .u8 0, .int .u8 0]) (ds := [.int .u8 ((n % 256 : Nat) : Int), .int .u8 ((n / 256 % 256 : Nat) : Int), .int .u8 ((n / 65536 % 256 : Nat) : Int), .int .u8 ((n / 16777216 % 256 : Nat) : Int)]) rfl rfl rfl
  unfold ref01_Fixed
  simp only [hbox, Option.bind_some, Option.map_some, getL_0, getL_1, getL_2, getL_3, getL_4, getL_5, getL_6, getL_7, getL_8, getL_9, getL_10, getL_11, getL_12, condV_t, condV_f, guardV_tt, guardV_ff, guardV_tf, guardV_ft, guardV_u, apick_t, apick_f, exV_exit, exV_ret, lookE_same, joinK_eq, seqA_n, seqA_e, seqA_r, e_add, e_sub, e_mul, e_eql, e_neq, e_lss, e_leq, e_gtr, e_geq, e_conv, e_not, e_neg, and_guard, or_guard, hs1, hs2, hs3, wrapu8, fixBuild, e1, e2]
  rfl

theorem refReadFixed_run {R : Caller} {s : St} {v : Value} {l : List UInt8} (h : bytesOf v s = some l) : ref01_ReadFixed R v s = some (tupF (readFix l).1 (readFix l).2, s) := by
  unfold ref01_ReadFixed readFix
  simp only [bytes_len h, Option.bind_some, Option.map_some, getL_0, getL_1, getL_2, getL_3, getL_4, getL_5, getL_6, getL_7, getL_8, getL_9, getL_10, getL_11, getL_12, condV_t, condV_f, guardV_tt, guardV_ff, guardV_tf, guardV_ft, guardV_u, apick_t, apick_f, exV_exit, exV_ret, lookE_same, joinK_eq, seqA_n, seqA_e, seqA_r, e_add, e_sub, e_mul, e_eql, e_neq, e_lss, e_leq, e_gtr, e_geq, e_conv, e_not, e_neg, and_guard, or_guard]
  by_cases h4 : l.length < 4
  · have hb : decide (((l.length : Nat) : Int) < 4) = true := by simp; omega
    simp only [hb, Option.bind_some, Option.map_some, getL_0, getL_1, getL_2, getL_3, getL_4, getL_5, getL_6, getL_7, getL_8, getL_9, getL_10, getL_11, getL_12, condV_t, condV_f, guardV_tt, guardV_ff, guardV_tf, guardV_ft, guardV_u, apick_t, apick_f, exV_exit, exV_ret, lookE_same, joinK_eq, seqA_n, seqA_e, seqA_r, e_add, e_sub, e_mul, e_eql, e_neq, e_lss, e_leq, e_gtr, e_geq, e_conv, e_not, e_neg, and_guard, or_guard, if_pos h4]
    rfl
  · have hb : decide (((l.length : Nat) : Int) < 4) = false := by simp; omega
    have hf : bytesOf v (frzS s) = some l := by rw [bytesOf_frz]; exact h
    obtain ⟨p0, hp0, hq0⟩ := bytes_at hf (i := 0) (by omega) (k := .i64)
    obtain ⟨p1, hp1, hq1⟩ := bytes_at hf (i := 1) (by omega) (k := .i64)
    obtain ⟨p2, hp2, hq2⟩ := bytes_at hf (i := 2) (by omega) (k := .i64)
    obtain ⟨p3, hp3, hq3⟩ := bytes_at hf (i := 3) (by omega) (k := .i64)
    have hp0 : aindexS 1 v (.int .i64 0) = some p0 := hp0
    have hp1 : aindexS 1 v (.int .i64 1) = some p1 := hp1
    have hp2 : aindexS 1 v (.int .i64 2) = some p2 := hp2
    have hp3 : aindexS 1 v (.int .i64 3) = some p3 := hp3
    have ht : l.take 4 = [l[0], l[1], l[2], l[3]] := by
      clear hp0 hq0 hp1 hq1 hp2 hq2 hp3 hq3 hf h hb
      rcases l with _ | ⟨a, _ | ⟨b, _ | ⟨c, _ | ⟨d, r⟩⟩⟩⟩ <;> first | rfl | (simp at h4)
    rw [ht]
    generalize l[0] = c0 at *
    generalize l[1] = c1 at *
    generalize l[2] = c2 at *
    generalize l[3] = c3 at *
    have l0 := c0.toNat_lt
    have l1 := c1.toNat_lt
    have l2 := c2.toNat_lt
    have l3 := c3.toNat_lt
    have hcv : ∀ c : UInt8, IntKind.wrap .u32 ((c.toNat : Nat) : Int) = ((c.toNat : Nat) : Int) := fun c => by
      have := c.toNat_lt
      rw [wrapu32, Nat.mod_eq_of_lt (by omega)]
    have hsh : ∀ (c : UInt8) (i : Nat) t ox oy, i ≤ 24 → abin Try.prog .shl t ox oy (.int .u32 ((c.toNat : Nat) : Int)) (.int .u64 ((i : Nat) : Int)) = some (.int .u32 ((c.toNat * 2 ^ i : Nat) : Int)) := fun c i t ox oy hi => by
      have := c.toNat_lt
      rw [u_shl rfl, show c.toNat * 2 ^ i % 2 ^ IntKind.bits .u32 = c.toNat * 2 ^ i from Nat.mod_eq_of_lt ?_]
      show _ < 2 ^ 32
      have h5 : 2 ^ i ≤ 2 ^ 24 := Nat.pow_le_pow_right (by omega) hi
      calc c.toNat * 2 ^ i ≤ 255 * 2 ^ 24 := Nat.mul_le_mul (by omega) h5
        _ < 2 ^ 32 := by decide
    have s1 : ∀ t ox oy, abin Try.prog .shl t ox oy (.int .u32 ((c1.toNat : Nat) : Int)) (.int .u64 8) = some (.int .u32 ((c1.toNat * 256 : Nat) : Int)) := fun t ox oy => hsh c1 8 t ox oy (by omega)
    have s2 : ∀ t ox oy, abin Try.prog .shl t ox oy (.int .u32 ((c2.toNat : Nat) : Int)) (.int .u64 16) = some (.int .u32 ((c2.toNat * 65536 : Nat) : Int)) := fun t ox oy => hsh c2 16 t ox oy (by omega)
    have s3 : ∀ t ox oy, abin Try.prog .shl t ox oy (.int .u32 ((c3.toNat : Nat) : Int)) (.int .u64 24) = some (.int .u32 ((c3.toNat * 16777216 : Nat) : Int)) := fun t ox oy => hsh c3 24 t ox oy (by omega)
    have o1 : ∀ t ox oy, abin Try.prog .or t ox oy (.int .u32 ((c0.toNat : Nat) : Int)) (.int .u32 ((c1.toNat * 256 : Nat) : Int)) = some (.int .u32 ((c0.toNat + c1.toNat * 256 : Nat) : Int)) := fun t ox oy => by
      rw [u_or rfl (show c0.toNat < 2 ^ 32 by omega) (show c1.toNat * 256 < 2 ^ 32 by omega), show c1.toNat * 256 = c1.toNat * 2 ^ 8 from rfl, or_add l0]
    have o2 : ∀ t ox oy, abin Try.prog .or t ox oy (.int .u32 ((c0.toNat + c1.toNat * 256 : Nat) : Int)) (.int .u32 ((c2.toNat * 65536 : Nat) : Int)) = some (.int .u32 ((c0.toNat + c1.toNat * 256 + c2.toNat * 65536 : Nat) : Int)) := fun t ox oy => by
      rw [u_or rfl (show c0.toNat + c1.toNat * 256 < 2 ^ 32 by omega) (show c2.toNat * 65536 < 2 ^ 32 by omega), show c2.toNat * 65536 = c2.toNat * 2 ^ 16 from rfl, or_add (show c0.toNat + c1.toNat * 256 < 2 ^ 16 by omega)]
    have o3 : ∀ t ox oy, abin Try.prog .or t ox oy (.int .u32 ((c0.toNat + c1.toNat * 256 + c2.toNat * 65536 : Nat) : Int)) (.int .u32 ((c3.toNat * 16777216 : Nat) : Int)) = some (.int .u32 ((c0.toNat + c1.toNat * 256 + c2.toNat * 65536 + c3.toNat * 16777216 : Nat) : Int)) := fun t ox oy => by
      rw [u_or rfl (show c0.toNat + c1.toNat * 256 + c2.toNat * 65536 < 2 ^ 32 by omega) (show c3.toNat * 16777216 < 2 ^ 32 by omega), show c3.toNat * 16777216 = c3.toNat * 2 ^ 24 from rfl, or_add (show c0.toNat + c1.toNat * 256 + c2.toNat * 65536 < 2 ^ 24 by omega)]
    have hle : leN 0 [c0, c1, c2, c3] = c0.toNat + c1.toNat * 256 + c2.toNat * 65536 + c3.toNat * 16777216 := by
      simp [leN]; omega
    simp only [hb, Option.bind_some, Option.map_some, getL_0, getL_1, getL_2, getL_3, getL_4, getL_5, getL_6, getL_7, getL_8, getL_9, getL_10, getL_11, getL_12, condV_t, condV_f, guardV_tt, guardV_ff, guardV_tf, guardV_ft, guardV_u, apick_t, apick_f, exV_exit, exV_ret, lookE_same, joinK_eq, seqA_n, seqA_e, seqA_r, e_add, e_sub, e_mul, e_eql, e_neq, e_lss, e_leq, e_gtr, e_geq, e_conv, e_not, e_neg, and_guard, or_guard, if_neg h4, hp0, hq0, hp1, hq1, hp2, hq2, hp3, hq3, hcv, s1, s2, s3, o1, o2, o3, hle]
    rfl
end Go.Proofs.Ytpbbbfemnkeplaa.Ab
