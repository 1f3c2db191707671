/- Texts of this proof, packed: RcDec, RcDecS, RcPl2, RcPl3, RcLawC, RcPl4, RcSame, RcSame2, RcSame3, RcLawB, BArg, BSized. -/
import Derived.Test.YtckpcelchhmjcaaGreatPk6
import Derived.SizedLaws
import Derived.ChangeSlices
set_option linter.unusedVariables false
set_option linter.unusedSimpArgs false
set_option linter.unusedSectionVars false
/- The coordinator's state of some bytes. -/
namespace Go.Proofs.YtckpcelchhmjcaaGreat.Ab
open Go

def decCd (b : BL) : Except Int Cd := match readAll 67 pCd b with
  | .error e => .error e
  | .ok a => if eCd a = 0 then .ok a else .error (eCd a)
abbrev zCd : List Value := cdL 0 0 0 0 (.slice none 0 0) (.slice none 0 0) (.slice none 0 0)
theorem body_cd {B : Nat} : Body B zCd oCd pCd (.func (.func 81) #[] #[.pointer (some ⟨B, 0, none⟩)]) := fun N s x hx hBN hrow => by
  obtain ⟨c, cells, s', y, h1, h2⟩ := dcoord_run hx hBN hrow
  exact ⟨c, cells, s', y, (call_cap (fs := []) (cs := [.pointer (some ⟨B, 0, none⟩)]) (xs := [rp N]) record_DecodeCoord_1_ok).trans h1, h2⟩
theorem DecodeCoord_run {b : BL} {v : Value} {s : St} (hv : bytesOf v s = some b) (hl : b.length ≤ 140737488355328) :
    ∃ (u : Value) (e : Int) (t : St), (run Tryz.prog (libL libT) hints) 17 [v] s = some (.tuple #[u, .int .i64 e], t) ∧ Ext s.heap.length s t ∧ ((e ≠ 0 ∧ decCd b = .error e ∧ u = .agg zCd.toArray) ∨ (e = 0 ∧ ∃ a cs, decCd b = .ok a ∧ u = .agg cs.toArray ∧ oCd.own s.heap.length t.heap.length a t cs)) := by
  have hnw : anew [(.int .i64 0), (.int .u64 0), (.int .u64 0), (.int .u64 0), (.slice none 0 0), (.slice none 0 0), (.slice none 0 0)] s = some (.pointer (some ⟨s.heap.length, 0, none⟩), s.push (.row 0 zCd .act)) := rfl
  have hv0 : bytesOf v (s.push (.row 0 zCd .act)) = some b := Ext.bytes (.push _ (Nat.le_refl _) _) hv
  have h0 : (s.push (.row 0 zCd .act)).heap[s.heap.length]? = some (.row 0 zCd .act) := push_get
  obtain ⟨e, s2, r1, r2, r3⟩ := read_run (c := 67) (body_cd (B := s.heap.length)) hv0 hl h0
  have l0 : (s.push (.row 0 zCd .act)).heap.length = s.heap.length + 1 := push_len
  have x0 : Ext s.heap.length s (s.push (.row 0 zCd .act)) := .push _ (Nat.le_refl _) _
  generalize s.push (.row 0 zCd .act) = s0 at *
  have x2 : Ext s.heap.length s s2 := x0.trans ⟨r2.1, fun q hq => r2.2 q (by omega) (by omega) (by omega)⟩
  have hmk : amkFunc 81 [] [.pointer (some ⟨s.heap.length, 0, none⟩)] = some (.func (.func 81) #[] #[.pointer (some ⟨s.heap.length, 0, none⟩)]) := rfl
  have r1' : (run Tryz.prog (libL libT) hints) 68 [v, .int .u8 67, .func (.func 81) #[] #[.pointer (some ⟨s.heap.length, 0, none⟩)]] s0 = some (.int .i64 e, s2) := r1
  have zst : lstore 7 lptr (.agg #[(.int .i64 0), (.int .u64 0), (.int .u64 0), (.int .u64 0), (.slice none 0 0), (.slice none 0 0), (.slice none 0 0)]) (.agg #[(.int .i64 0), (.int .u64 0), (.int .u64 0), (.int .u64 0), (.slice none 0 0), (.slice none 0 0), (.slice none 0 0)]) = some (.agg zCd.toArray) := rfl
  have zld : lload true 7 lptr (.agg zCd.toArray) = some (.agg zCd.toArray) := rfl
  rcases r3 with ⟨he, hr⟩ | ⟨rfl, a, cs, hr, hrow, hown⟩
  · have z1 : (e == 0) = false := by simp [he]
    have z2 : (e != 0) = true := by simp [he]
    refine ⟨.agg zCd.toArray, e, s2, record_DecodeCoord_of rfl ?_, x2, .inl ⟨he, by unfold decCd; rw [hr], rfl⟩⟩
    unfold record_DecodeCoord
    simp only [hnw, hmk, record_read_call, r1', z1, joinK_eq, record_DecodeCoord.j0, z2, zst, zld, ret_e (a := .agg zCd.toArray) rfl, n_bind, n_map, getL_0, getL_1, getL_2, getL_3, getL_4, getL_5, getL_6, getL_7, getL_8, getL_9, getL_10, getL_11, getL_12, condV_t, condV_f, guardV_tt, guardV_ff, guardV_tf, guardV_ft, guardV_u, apick_t, apick_f, exV_exit, exV_ret, lookE_same, joinK_eq, seqA_n, seqA_e, seqA_r, e_add, e_sub, e_mul, e_eql, e_neq, e_lss, e_leq, e_gtr, e_geq, e_conv, e_not, e_neg, and_guard, or_guard]
  · have hlen : cs.length = 7 := oCd.C.len (oCd.rel hown)
    have hlf := oCd.leaf hown
    have ld : aload true 7 (.pointer (some ⟨s.heap.length, 0, none⟩)) s2 = some (.agg cs.toArray) := ld_cells hrow (by simp) hlen
    obtain ⟨s3, c1, x3⟩ := CheckCoord_run (d := a) (s := s2) (v := .agg cs.toArray) ⟨cs, rfl, oCd.rel hown⟩
    have z1 : ((0 : Int) == 0) = true := rfl
    have hrow3 : s3.heap[s.heap.length]? = some (.row 0 cs .act) := ext_get hrow x3
    have ld3 : aload true 7 (.pointer (some ⟨s.heap.length, 0, none⟩)) s3 = some (.agg cs.toArray) := ld_cells hrow3 (by simp) hlen
    have n2 := x2.1
    have x4 : Ext s.heap.length s s3 := x2.trans (x3.less n2)
    by_cases hc : eCd a = 0
    · rw [hc] at c1
      have z2 : ((0 : Int) != 0) = false := rfl
      have cst : lstore 7 lptr (.agg cs.toArray) (.agg #[(.int .i64 0), (.int .u64 0), (.int .u64 0), (.int .u64 0), (.slice none 0 0), (.slice none 0 0), (.slice none 0 0)]) = some (.agg cs.toArray) := arr_put (cs := zCd) rfl hlen hlf
      have cld : lload true 7 lptr (.agg cs.toArray) = some (.agg cs.toArray) := arr_all hlen
      refine ⟨.agg cs.toArray, 0, s3, record_DecodeCoord_of rfl ?_, x4, .inr ⟨rfl, a, cs, by unfold decCd; rw [hr]; simp only [hc, if_true], rfl, OCod.mono _ (OCod.keep _ hown fun q q1 q2 => x3.2 q q2) (by omega) x3.1⟩⟩
      unfold record_DecodeCoord
      simp only [hnw, hmk, record_read_call, r1', z1, ld, record_CheckCoord_call, c1, joinK_eq, record_DecodeCoord.j0, z2, ld3, cst, cld, ret_e (a := .agg cs.toArray) rfl, n_bind, n_map, getL_0, getL_1, getL_2, getL_3, getL_4, getL_5, getL_6, getL_7, getL_8, getL_9, getL_10, getL_11, getL_12, condV_t, condV_f, guardV_tt, guardV_ff, guardV_tf, guardV_ft, guardV_u, apick_t, apick_f, exV_exit, exV_ret, lookE_same, joinK_eq, seqA_n, seqA_e, seqA_r, e_add, e_sub, e_mul, e_eql, e_neq, e_lss, e_leq, e_gtr, e_geq, e_conv, e_not, e_neg, and_guard, or_guard]
    · have z2 : (eCd a != 0) = true := by simp [hc]
      refine ⟨.agg zCd.toArray, eCd a, s3, record_DecodeCoord_of rfl ?_, x4, .inl ⟨hc, by unfold decCd; rw [hr]; simp only [hc, if_false], rfl⟩⟩
      unfold record_DecodeCoord
      simp only [hnw, hmk, record_read_call, r1', z1, ld, record_CheckCoord_call, c1, joinK_eq, record_DecodeCoord.j0, z2, zst, zld, ret_e (a := .agg zCd.toArray) rfl, n_bind, n_map, getL_0, getL_1, getL_2, getL_3, getL_4, getL_5, getL_6, getL_7, getL_8, getL_9, getL_10, getL_11, getL_12, condV_t, condV_f, guardV_tt, guardV_ff, guardV_tf, guardV_ft, guardV_u, apick_t, apick_f, exV_exit, exV_ret, lookE_same, joinK_eq, seqA_n, seqA_e, seqA_r, e_add, e_sub, e_mul, e_eql, e_neq, e_lss, e_leq, e_gtr, e_geq, e_conv, e_not, e_neg, and_guard, or_guard]

end Go.Proofs.YtckpcelchhmjcaaGreat.Ab

/- A shard's state of some bytes. -/
namespace Go.Proofs.YtckpcelchhmjcaaGreat.Ab
open Go

def decSd (b : BL) : Except Int Sd := match readAll 83 pSd b with
  | .error e => .error e
  | .ok a => if eSd a = 0 then .ok a else .error (eSd a)
abbrev zSd : List Value := sdL 0 0 0 0 0 nS nS nS 0 0 [] [] 0 0 0 [] []
theorem body_sd {B : Nat} : Body B zSd oSd pSd (.func (.func 69) #[] #[.pointer (some ⟨B, 0, none⟩)]) := fun N s x hx hBN hrow => by
  obtain ⟨c, cells, s', y, h1, h2⟩ := dshard_run hx hBN hrow
  exact ⟨c, cells, s', y, (call_cap (fs := []) (cs := [.pointer (some ⟨B, 0, none⟩)]) (xs := [rp N]) record_DecodeShard_1_ok).trans h1, h2⟩
theorem DecodeShard_run {b : BL} {v : Value} {s : St} (hv : bytesOf v s = some b) (hl : b.length ≤ 140737488355328) :
    ∃ (u : Value) (e : Int) (t : St), (run Tryz.prog (libL libT) hints) 15 [v] s = some (.tuple #[u, .int .i64 e], t) ∧ Ext s.heap.length s t ∧ ((e ≠ 0 ∧ decSd b = .error e ∧ u = .agg zSd.toArray) ∨ (e = 0 ∧ ∃ a cs, decSd b = .ok a ∧ u = .agg cs.toArray ∧ oSd.own s.heap.length t.heap.length a t cs)) := by
  have hnw : anew [(.int .i64 0), (.int .u64 0), (.int .u64 0), (.int .u64 0), (.int .u64 0), (.slice none 0 0), (.slice none 0 0), (.slice none 0 0), (.int .u64 0), (.int .u64 0), (.string ⟨#[]⟩), (.string ⟨#[]⟩), (.int .u64 0), (.int .u64 0), (.int .u64 0), (.string ⟨#[]⟩), (.string ⟨#[]⟩)] s = some (.pointer (some ⟨s.heap.length, 0, none⟩), s.push (.row 0 zSd .act)) := rfl
  have hv0 : bytesOf v (s.push (.row 0 zSd .act)) = some b := Ext.bytes (.push _ (Nat.le_refl _) _) hv
  have h0 : (s.push (.row 0 zSd .act)).heap[s.heap.length]? = some (.row 0 zSd .act) := push_get
  obtain ⟨e, s2, r1, r2, r3⟩ := read_run (c := 83) (body_sd (B := s.heap.length)) hv0 hl h0
  have l0 : (s.push (.row 0 zSd .act)).heap.length = s.heap.length + 1 := push_len
  have x0 : Ext s.heap.length s (s.push (.row 0 zSd .act)) := .push _ (Nat.le_refl _) _
  generalize s.push (.row 0 zSd .act) = s0 at *
  have x2 : Ext s.heap.length s s2 := x0.trans ⟨r2.1, fun q hq => r2.2 q (by omega) (by omega) (by omega)⟩
  have hmk : amkFunc 69 [] [.pointer (some ⟨s.heap.length, 0, none⟩)] = some (.func (.func 69) #[] #[.pointer (some ⟨s.heap.length, 0, none⟩)]) := rfl
  have r1' : (run Tryz.prog (libL libT) hints) 68 [v, .int .u8 83, .func (.func 69) #[] #[.pointer (some ⟨s.heap.length, 0, none⟩)]] s0 = some (.int .i64 e, s2) := r1
  have zst : lstore 17 lptr (.agg #[(.int .i64 0), (.int .u64 0), (.int .u64 0), (.int .u64 0), (.int .u64 0), (.slice none 0 0), (.slice none 0 0), (.slice none 0 0), (.int .u64 0), (.int .u64 0), (.string ⟨#[]⟩), (.string ⟨#[]⟩), (.int .u64 0), (.int .u64 0), (.int .u64 0), (.string ⟨#[]⟩), (.string ⟨#[]⟩)]) (.agg #[(.int .i64 0), (.int .u64 0), (.int .u64 0), (.int .u64 0), (.int .u64 0), (.slice none 0 0), (.slice none 0 0), (.slice none 0 0), (.int .u64 0), (.int .u64 0), (.string ⟨#[]⟩), (.string ⟨#[]⟩), (.int .u64 0), (.int .u64 0), (.int .u64 0), (.string ⟨#[]⟩), (.string ⟨#[]⟩)]) = some (.agg zSd.toArray) := rfl
  have zld : lload true 17 lptr (.agg zSd.toArray) = some (.agg zSd.toArray) := rfl
  rcases r3 with ⟨he, hr⟩ | ⟨rfl, a, cs, hr, hrow, hown⟩
  · have z1 : (e == 0) = false := by simp [he]
    have z2 : (e != 0) = true := by simp [he]
    refine ⟨.agg zSd.toArray, e, s2, record_DecodeShard_of rfl ?_, x2, .inl ⟨he, by unfold decSd; rw [hr], rfl⟩⟩
    unfold record_DecodeShard
    simp only [hnw, hmk, record_read_call, r1', z1, joinK_eq, record_DecodeShard.j0, z2, zst, zld, ret_e (a := .agg zSd.toArray) rfl, n_bind, n_map, getL_0, getL_1, getL_2, getL_3, getL_4, getL_5, getL_6, getL_7, getL_8, getL_9, getL_10, getL_11, getL_12, condV_t, condV_f, guardV_tt, guardV_ff, guardV_tf, guardV_ft, guardV_u, apick_t, apick_f, exV_exit, exV_ret, lookE_same, joinK_eq, seqA_n, seqA_e, seqA_r, e_add, e_sub, e_mul, e_eql, e_neq, e_lss, e_leq, e_gtr, e_geq, e_conv, e_not, e_neg, and_guard, or_guard]
  · have hlen : cs.length = 17 := oSd.C.len (oSd.rel hown)
    have hlf := oSd.leaf hown
    have ld : aload true 17 (.pointer (some ⟨s.heap.length, 0, none⟩)) s2 = some (.agg cs.toArray) := ld_cells hrow (by simp) hlen
    obtain ⟨s3, c1, x3⟩ := CheckShard_run (d := a) (s := s2) (v := .agg cs.toArray) ⟨cs, rfl, oSd.rel hown⟩
    have z1 : ((0 : Int) == 0) = true := rfl
    have hrow3 : s3.heap[s.heap.length]? = some (.row 0 cs .act) := ext_get hrow x3
    have ld3 : aload true 17 (.pointer (some ⟨s.heap.length, 0, none⟩)) s3 = some (.agg cs.toArray) := ld_cells hrow3 (by simp) hlen
    have n2 := x2.1
    have x4 : Ext s.heap.length s s3 := x2.trans (x3.less n2)
    by_cases hc : eSd a = 0
    · rw [hc] at c1
      have z2 : ((0 : Int) != 0) = false := rfl
      have cst : lstore 17 lptr (.agg cs.toArray) (.agg #[(.int .i64 0), (.int .u64 0), (.int .u64 0), (.int .u64 0), (.int .u64 0), (.slice none 0 0), (.slice none 0 0), (.slice none 0 0), (.int .u64 0), (.int .u64 0), (.string ⟨#[]⟩), (.string ⟨#[]⟩), (.int .u64 0), (.int .u64 0), (.int .u64 0), (.string ⟨#[]⟩), (.string ⟨#[]⟩)]) = some (.agg cs.toArray) := arr_put (cs := zSd) rfl hlen hlf
      have cld : lload true 17 lptr (.agg cs.toArray) = some (.agg cs.toArray) := arr_all hlen
      refine ⟨.agg cs.toArray, 0, s3, record_DecodeShard_of rfl ?_, x4, .inr ⟨rfl, a, cs, by unfold decSd; rw [hr]; simp only [hc, if_true], rfl, OCod.mono _ (OCod.keep _ hown fun q q1 q2 => x3.2 q q2) (by omega) x3.1⟩⟩
      unfold record_DecodeShard
      simp only [hnw, hmk, record_read_call, r1', z1, ld, record_CheckShard_call, c1, joinK_eq, record_DecodeShard.j0, z2, ld3, cst, cld, ret_e (a := .agg cs.toArray) rfl, n_bind, n_map, getL_0, getL_1, getL_2, getL_3, getL_4, getL_5, getL_6, getL_7, getL_8, getL_9, getL_10, getL_11, getL_12, condV_t, condV_f, guardV_tt, guardV_ff, guardV_tf, guardV_ft, guardV_u, apick_t, apick_f, exV_exit, exV_ret, lookE_same, joinK_eq, seqA_n, seqA_e, seqA_r, e_add, e_sub, e_mul, e_eql, e_neq, e_lss, e_leq, e_gtr, e_geq, e_conv, e_not, e_neg, and_guard, or_guard]
    · have z2 : (eSd a != 0) = true := by simp [hc]
      refine ⟨.agg zSd.toArray, eSd a, s3, record_DecodeShard_of rfl ?_, x4, .inl ⟨hc, by unfold decSd; rw [hr]; simp only [hc, if_false], rfl⟩⟩
      unfold record_DecodeShard
      simp only [hnw, hmk, record_read_call, r1', z1, ld, record_CheckShard_call, c1, joinK_eq, record_DecodeShard.j0, z2, zst, zld, ret_e (a := .agg zSd.toArray) rfl, n_bind, n_map, getL_0, getL_1, getL_2, getL_3, getL_4, getL_5, getL_6, getL_7, getL_8, getL_9, getL_10, getL_11, getL_12, condV_t, condV_f, guardV_tt, guardV_ff, guardV_tf, guardV_ft, guardV_u, apick_t, apick_f, exV_exit, exV_ret, lookE_same, joinK_eq, seqA_n, seqA_e, seqA_r, e_add, e_sub, e_mul, e_eql, e_neq, e_lss, e_leq, e_gtr, e_geq, e_conv, e_not, e_neg, and_guard, or_guard]

end Go.Proofs.YtckpcelchhmjcaaGreat.Ab

/- What a state that may be is bounded by; its bytes are read as it (plain laws). -/
namespace Go.Proofs.YtckpcelchhmjcaaGreat.Ab
open Go

theorem eN_len {n : Int} : (eN n).length ≤ 10 := enc_len
theorem eN_one {n : Int} (h : 0 ≤ n ∧ n ≤ 127) : (eN n).length = 1 := by unfold eN; rw [enc_small (by omega)]; rfl
theorem tB_one {k : BL} {m : Nat} (h : k.length ≤ m) (hm : m ≤ 127) : (tB k).length ≤ m + 1 := by unfold tB; rw [List.length_append, enc_small (by omega)]; simp only [List.length_singleton]; omega
theorem tB_eq {k : BL} (h : k.length ≤ 127) : (tB k).length = k.length + 1 := by unfold tB; rw [List.length_append, enc_small (by omega)]; simp only [List.length_singleton]; omega
theorem flatB_len {α : Type} {f : α → BL} {m : Nat} : ∀ {l : List α}, (∀ a ∈ l, (f a).length ≤ m) → (l.flatMap f).length ≤ l.length * m
  | [], _ => by simp
  | a :: l, h => by
    have h1 := flatB_len (l := l) fun x hx => h x (List.mem_cons_of_mem _ hx)
    have h2 := h a (List.mem_cons_self ..)
    simp only [List.flatMap_cons, List.length_append, List.length_cons, Nat.succ_mul]
    omega
theorem eList_len {α : Type} {f : α → BL} {m k : Nat} {l : List α} (hl : l.length ≤ k) (hk : k ≤ 127) (h : ∀ a ∈ l, (f a).length ≤ m) : (eList f l).length ≤ k * m + 1 := by
  have h1 := flatB_len h
  have h2 : l.length * m ≤ k * m := Nat.mul_le_mul_right _ hl
  unfold eList
  rw [List.length_append, enc_small (by omega)]
  simp only [List.length_singleton]
  omega

theorem ckKl {k : BL} (h : ckK k = true) : k.length ≤ 12 := by
  simp only [ckK, Bool.and_eq_true, decide_eq_true_eq] at h
  exact h.2
theorem ckRl {r : Rg} (h : ckR r = true) : r.1.length ≤ 12 ∧ r.2.length ≤ 12 := by
  simp only [ckR, Bool.and_eq_true, decide_eq_true_eq] at h
  exact h.1
theorem eR_len {r : Rg} (h : eR r = 0) : r.1.length ≤ 12 ∧ r.2.length ≤ 12 := by
  unfold eR at h
  split at h
  · exact ckRl (by assumption)
  · cases h
theorem okF_b : ∀ {l : List Ow} {p : Option BL}, okF p l = true → (p = none → ∀ o ∈ l.head?, o.1.length ≤ 12) → ∀ o ∈ l, o.1.length ≤ 12 ∧ 1 ≤ o.2 ∧ o.2 ≤ 4
  | [], _, _, _, o, ho => by cases ho
  | x :: l, p, h, h0, o, ho => by
    have hx : shOk x.2 = true ∧ x.1.length ≤ 12 ∧ okF (some x.1) l = true := by
      cases p with
      | none =>
        simp only [okF, Bool.and_eq_true] at h
        exact ⟨h.1, h0 rfl x rfl, h.2⟩
      | some p =>
        simp only [okF, Bool.and_eq_true] at h
        exact ⟨h.1.1, ckKl h.1.2.1, h.2⟩
    rcases List.mem_cons.1 ho with rfl | ho
    · have := hx.1
      simp only [shOk, Bool.and_eq_true, Bool.not_eq_true', decide_eq_false_iff_not] at this
      exact ⟨hx.2.1, by omega, by omega⟩
    · exact okF_b hx.2.2 (fun h => by cases h) o ho
theorem eO_b {l : List Ow} (h : eO l = 0) : l.length ≤ 6 ∧ ∀ o ∈ l, o.1.length ≤ 12 ∧ 1 ≤ o.2 ∧ o.2 ≤ 4 := by
  have h1 : okO l = true := by
    have := eO_0 (l := l)
    rw [h] at this
    exact this.symm
  unfold okO at h1
  cases l with
  | nil => cases h1
  | cons x r =>
    simp only [Bool.and_eq_true, decide_eq_true_eq, beq_iff_eq] at h1
    refine ⟨by simp only [List.length_cons]; omega, okF_b h1.2 fun _ o ho => ?_⟩
    have : o = x := by simpa using ho.symm
    rw [this, h1.1.2]
    exact Nat.zero_le _
structure OpB (o : OpT) : Prop where
  kind : 0 ≤ o.kind ∧ o.kind ≤ 127
  most : 0 ≤ o.most ∧ o.most ≤ 127
  key : o.key.length ≤ 12
  val : o.val.length ≤ 16
  lo : o.lo.length ≤ 12
  hi : o.hi.length ≤ 12
  sum : o.key.length + o.val.length + o.lo.length + o.hi.length ≤ 28
theorem ckO_b {o : OpT} (h : ckO o = 0) : OpB o := by
  have hm := (ckO_ok h).2
  unfold ckO at h
  split at h
  · cases h
  · rename_i c
    simp only [Bool.or_eq_true, not_or, Bool.not_eq_true', Bool.and_eq_true, not_and, bne_iff_ne, ne_eq, Decidable.not_not] at c
    obtain ⟨⟨⟨⟨c1, c2⟩, c3⟩, c4⟩, c5⟩ := c
    have hk := kinds (by simpa using c1 : okKind o.kind = true)
    split at h
    · cases h
    · rename_i d1
      split at h
      · cases h
      · rename_i d2
        split at h
        · cases h
        · rename_i d3
          split at h
          · cases h
          · rename_i d4
            simp only [Bool.not_eq_true', decide_eq_false_iff_not, Decidable.not_not] at d2
            have hmost : 0 ≤ o.most ∧ o.most ≤ 127 := by
              by_cases h4 : o.kind = 4
              · simp only [h4, beq_self_eq_true, Bool.true_and, Bool.or_eq_true, decide_eq_true_eq, not_or] at d4
                exact ⟨by omega, by omega⟩
              · have := c5 h4
                exact ⟨by omega, by omega⟩
            by_cases hr : ranged o.kind = true
            · have hkey := c3 hr
              simp only [hr, Bool.true_and, Bool.not_eq_true', Bool.not_eq_false] at d3
              obtain ⟨r1, r2⟩ := ckRl d3
              have hv : o.val = [] := c4 (by
                intro e
                rw [e] at hr
                revert hr
                decide)
              exact ⟨⟨by omega, by omega⟩, hmost, by rw [hkey]; exact Nat.zero_le _, by rw [hv]; exact Nat.zero_le _, r1, r2, by rw [hkey, hv]; simp only [List.length_nil]; simp only at r1 r2; omega⟩
            · have hkd : keyed o.kind = true := by
                rcases hk with e | e | e | e | e <;> rw [e] at hr ⊢ <;> first | rfl | exact absurd rfl hr
              simp only [hkd, Bool.true_and, Bool.not_eq_true', Bool.not_eq_false] at d1
              have r1 := ckKl d1
              have h2 := c2 hkd
              have hlo : o.lo = [] := by
                by_cases e : o.lo = []
                · exact e
                · simp [e] at h2
              have hhi : o.hi = [] := by
                by_cases e : o.hi = []
                · exact e
                · simp [e] at h2
              exact ⟨⟨by omega, by omega⟩, hmost, r1, d2, by rw [hlo]; exact Nat.zero_le _, by rw [hhi]; exact Nat.zero_le _, by rw [hlo, hhi]; simp only [List.length_nil]; omega⟩
theorem OpB.len {o : OpT} (h : OpB o) : (eOp o).length ≤ 34 := by
  unfold eOp
  simp only [List.length_append, eN_one h.kind, eN_one h.most, tB_eq (Nat.le_trans h.key (by decide)), tB_eq (Nat.le_trans h.val (by decide)), tB_eq (Nat.le_trans h.lo (by decide)), tB_eq (Nat.le_trans h.hi (by decide))]
  have := h.sum
  omega
theorem OpB.cut {o : OpT} (h : OpB o) : Cut pOp (eOp o) o :=
  cut_op ⟨h.kind.1, Int.le_trans h.kind.2 (by decide)⟩ ⟨h.most.1, Int.le_trans h.most.2 (by decide)⟩ (Nat.le_trans h.key (by decide)) (Nat.le_trans h.val (by decide)) (Nat.le_trans h.lo (by decide)) (Nat.le_trans h.hi (by decide))

structure SdW (d : Sd) : Prop where
  nums : ∀ n ∈ [d.boot, d.ver, d.epoch, d.move, d.low, d.frozen, d.im, d.ia, d.inx], inN64 n
  fin : ∀ n ∈ d.fin, inN64 n
  held : ∀ h ∈ d.held, inN64 h.1
  short : d.fin.length ≤ reachBytes
  shortH : d.held.length ≤ reachBytes
theorem short_of {B n : Nat} (hB : 0 < B) (h : n * B ≤ reachBytes) : n ≤ reachBytes := Nat.le_trans (Nat.le_mul_of_pos_right n hB) h
theorem sd_w {d : Sd} {s : St} {v : Value} (h : NArg sdN d s v) : SdW d := by
  obtain ⟨cs, rfl, hr⟩ := h
  obtain ⟨ow, he, fi, rfl, hs⟩ := sd_inv hr
  refine ⟨?_, lst_u hs.fi, fun x hx => ?_, short_of (by decide) hs.fi.1, short_of (by decide) hs.he.1⟩
  · intro n hn
    simp only [List.mem_cons, List.not_mem_nil, or_false] at hn
    rcases hn with rfl | rfl | rfl | rfl | rfl | rfl | rfl | rfl | rfl
    · exact wf_64 hs.wboot
    · exact wf_64 hs.wver
    · exact wf_64 hs.wepoch
    · exact wf_64 hs.wmove
    · exact wf_64 hs.wlow
    · exact wf_64 hs.wfrozen
    · exact wf_64 hs.wim
    · exact wf_64 hs.wia
    · exact wf_64 hs.winx
  · obtain ⟨i, hi, rfl⟩ := List.getElem_of_mem hx
    obtain ⟨_, _, cs, _, _, _, _, h1⟩ := listN_get hs.he hi (n := 2) rfl (ag := true) (.inl rfl)
    obtain ⟨_, rfl, w, _⟩ := ho_inv h1
    exact wf_64 w

structure SdB (d : Sd) : Prop where
  id : 0 ≤ d.id ∧ d.id ≤ 127
  owl : d.owners.length ≤ 6
  ow : ∀ o ∈ d.owners, o.1.length ≤ 12 ∧ 1 ≤ o.2 ∧ o.2 ≤ 4
  hel : d.held.length ≤ 6
  he : ∀ h ∈ d.held, h.2.length ≤ 24 ∧ ∀ o ∈ h.2, OpB o
  fi : d.fin.length ≤ 64
  cold : d.cold.1.length ≤ 12 ∧ d.cold.2.length ≤ 12
  ir : d.ir.1.length ≤ 12 ∧ d.ir.2.length ≤ 12
theorem eSd_b {d : Sd} (h : eSd d = 0) (w : SdW d) : SdB d := by
  unfold eSd at h
  by_cases c : bad1 d = true
  · rw [if_pos c] at h; cases h
  · rw [if_neg c] at h
    by_cases g : good2 d = true
    · simp only [bad1, Bool.or_eq_true, not_or, decide_eq_true_eq, bne_iff_ne, ne_eq, Decidable.not_not] at c
      obtain ⟨⟨⟨⟨⟨⟨c1, c2⟩, c3⟩, c4⟩, c5⟩, c6⟩, c7⟩ := c
      simp only [good2, Bool.and_eq_true, Bool.not_eq_true'] at g
      obtain ⟨⟨⟨_, g2⟩, _⟩, _⟩ := g
      have e := eO_b c3
      have hw := w.short
      have hw2 := w.shortH
      unfold reachBytes at hw hw2
      rw [wrap_i64 (by omega) (by omega)] at c5
      refine ⟨⟨by omega, by omega⟩, e.1, e.2, by omega, fun x hx => ?_, by omega, eR_len c7, eR_len c6⟩
      have h1 := List.any_eq_false.1 g2 x hx
      simp only [badHo, Bool.or_eq_true, not_or, Bool.not_eq_true, List.any_eq_false, Bool.not_eq_true', beq_eq_false_iff_ne, ne_eq, Decidable.not_not, decide_eq_false_iff_not] at h1
      obtain ⟨⟨⟨_, h2⟩, _⟩, h4⟩ := h1
      exact ⟨by omega, fun o ho => ckO_b (h4 o ho)⟩
    · rw [if_neg g] at h; cases h
theorem ow_len {o : Ow} (h : o.1.length ≤ 12 ∧ 1 ≤ o.2 ∧ o.2 ≤ 4) : (eOw o).length ≤ 14 := by
  unfold eOw
  rw [List.length_append, eN_one ⟨by omega, by omega⟩]
  have := tB_one h.1 (by decide)
  omega
theorem pr_len {r : Rg} {m n : Nat} (h : r.1.length ≤ m ∧ r.2.length ≤ n) (hm : m ≤ 127) (hn : n ≤ 127) : (ePr r).length ≤ m + n + 2 := by
  unfold ePr
  rw [List.length_append]
  have := tB_one h.1 hm
  have := tB_one h.2 hn
  omega
theorem nums_len {l : List Int} : (l.flatMap eN).length ≤ l.length * 10 := flatB_len fun _ _ => eN_len
def bodySd (d : Sd) : BL := eN d.id ++ ([d.boot, d.ver, d.epoch, d.move].flatMap eN ++ (eList eOw d.owners ++ (eList eHo d.held ++ (eList eN d.fin ++ ([d.low, d.frozen].flatMap eN ++ (ePr d.cold ++ ([d.im, d.ia, d.inx].flatMap eN ++ ePr d.ir)))))))
theorem encSd_body (d : Sd) : encSd d = [83] ++ bodySd d := by
  unfold encSd bodySd
  simp only [List.flatMap_cons, List.flatMap_nil, List.append_assoc, List.append_nil, List.singleton_append, List.cons_append]
theorem bodySd_len {d : Sd} (h : SdB d) : (bodySd d).length ≤ 8000 := by
  have h0 := eN_one h.id
  have h1 := nums_len (l := [d.boot, d.ver, d.epoch, d.move])
  have h2 := eList_len (f := eOw) h.owl (by decide) fun o ho => ow_len (h.ow o ho)
  have h3 := eList_len (f := eHo) h.hel (by decide) (m := 827) fun x hx => by
    have := eList_len (f := eOp) (h.he x hx).1 (by decide) fun o ho => ((h.he x hx).2 o ho).len
    have := @eN_len x.1
    unfold eHo
    rw [List.length_append]
    omega
  have h4 := eList_len (f := eN) h.fi (by decide) (m := 10) fun n _ => eN_len
  have h5 := nums_len (l := [d.low, d.frozen])
  have h6 := pr_len h.cold (by decide) (by decide)
  have h7 := nums_len (l := [d.im, d.ia, d.inx])
  have h8 := pr_len h.ir (by decide) (by decide)
  unfold bodySd
  simp only [List.length_append, List.length_cons, List.length_nil] at *
  omega
theorem cut_sd {d : Sd} (h : SdB d) (w : SdW d) : Cut pSd (bodySd d) d := by
  have hn : ∀ {l : List Int}, (∀ n ∈ l, n ∈ [d.boot, d.ver, d.epoch, d.move, d.low, d.frozen, d.im, d.ia, d.inx]) → Cut (pU.rep l.length) (l.flatMap eN) l := fun hl => cut_nums fun n hn => w.nums n (hl n hn)
  have k : Cut pSd (eN d.id ++ ([d.boot, d.ver, d.epoch, d.move].flatMap eN ++ (eList eOw d.owners ++ (eList eHo d.held ++ (eList eN d.fin ++ ([d.low, d.frozen].flatMap eN ++ (ePr d.cold ++ ([d.im, d.ia, d.inx].flatMap eN ++ (ePr d.ir ++ []))))))))) d := by
    refine Cut.bind (a := d.id) (cut_i ⟨h.id.1, Int.le_trans h.id.2 (by decide)⟩) ?_
    refine Cut.bind (a := [d.boot, d.ver, d.epoch, d.move]) (hn (l := [d.boot, d.ver, d.epoch, d.move]) (by simp)) ?_
    refine Cut.bind (a := d.owners) (cut_many (e := eOw) (Nat.le_trans h.owl (by decide)) fun o ho => cut_ow (Nat.le_trans (h.ow o ho).1 (by decide)) ⟨by have := (h.ow o ho).2; omega, by have := (h.ow o ho).2; omega⟩) ?_
    refine Cut.bind (a := d.held) (cut_many (e := eHo) (Nat.le_trans h.hel (by decide)) fun x hx => cut_ho (w.held x hx) (Nat.le_trans (h.he x hx).1 (by decide)) fun o ho => ((h.he x hx).2 o ho).cut) ?_
    refine Cut.bind (a := d.fin) (cut_many (e := eN) (Nat.le_trans h.fi (by decide)) fun n hn => cut_u (w.fin n hn)) ?_
    refine Cut.bind (a := [d.low, d.frozen]) (hn (l := [d.low, d.frozen]) (by simp)) ?_
    refine Cut.bind (a := d.cold) (cut_pr (Nat.le_trans h.cold.1 (by decide)) (Nat.le_trans h.cold.2 (by decide))) ?_
    refine Cut.bind (a := [d.im, d.ia, d.inx]) (hn (l := [d.im, d.ia, d.inx]) (by simp)) ?_
    exact Cut.bind (a := d.ir) (cut_pr (Nat.le_trans h.ir.1 (by decide)) (Nat.le_trans h.ir.2 (by decide))) (Cut.pure d)
  rw [List.append_nil] at k
  exact k
theorem sd_back {d : Sd} (hz : eSd d = 0) (w : SdW d) : decSd (encSd d) = .ok d ∧ (∀ k, k < (encSd d).length → decSd ((encSd d).take k) = .error 10) ∧ (∀ m, decSd (encSd d ++ [m]) = .error 11) ∧ 0 < (encSd d).length ∧ (encSd d).length ≤ 8001 := by
  have hb := eSd_b hz w
  have hl := bodySd_len hb
  obtain ⟨h1, h2, h3⟩ := cut_all (c := 83) (cut_sd hb w) (by omega)
  rw [← encSd_body] at h1 h2 h3
  refine ⟨?_, fun k hk => ?_, fun m => ?_, ?_, ?_⟩
  · unfold decSd
    have h1 : readAll 83 pSd (encSd d) = .ok d := h1
    rw [h1]
    simp only [hz, if_true]
  · unfold decSd
    have h2 : readAll 83 pSd ((encSd d).take k) = .error 10 := h2 k hk
    rw [h2]
  · unfold decSd
    have h3 : readAll 83 pSd (encSd d ++ [m]) = .error 11 := h3 m
    rw [h3]
  · rw [encSd_body]; simp
  · rw [encSd_body]; simp only [List.length_append, List.length_singleton]; omega

end Go.Proofs.YtckpcelchhmjcaaGreat.Ab

/- The coordinator's state: what it is bounded by; its bytes are read as it (plain laws). -/
namespace Go.Proofs.YtckpcelchhmjcaaGreat.Ab
open Go

structure CdW (c : Cd) : Prop where
  nums : ∀ n ∈ [c.boot, c.ver, c.epoch], inN64 n
  de : ∀ d ∈ c.decided, inN64 d.1 ∧ inN64 d.2.2.1 ∧ inN64 d.2.2.2.1
  la : ∀ a ∈ c.last, inN64 a.2.1 ∧ inN64 a.2.2.1
theorem cd_w {c : Cd} {s : St} {v : Value} (h : NArg cdN c s v) : CdW c := by
  obtain ⟨cs, rfl, hr⟩ := h
  obtain ⟨ow, de, la, rfl, hs⟩ := cd_inv hr
  refine ⟨?_, fun x hx => ?_, fun x hx => ?_⟩
  · intro n hn
    simp only [List.mem_cons, List.not_mem_nil, or_false] at hn
    rcases hn with rfl | rfl | rfl
    · exact wf_64 hs.wboot
    · exact wf_64 hs.wver
    · exact wf_64 hs.wepoch
  · obtain ⟨i, hi, rfl⟩ := List.getElem_of_mem hx
    obtain ⟨_, _, cs, _, _, _, _, h1⟩ := listN_get hs.de hi (n := 5) rfl (ag := true) (.inl rfl)
    obtain ⟨_, rfl, _, w1, _, w2, w3⟩ := de_inv h1
    exact ⟨wf_64 w1, wf_64 w2, wf_64 w3⟩
  · obtain ⟨i, hi, rfl⟩ := List.getElem_of_mem hx
    obtain ⟨_, _, cs, _, _, _, _, h1⟩ := listN_get hs.la hi (n := 4) rfl (ag := true) (.inl rfl)
    obtain ⟨_, rfl, _, _, w2, w3⟩ := la_inv h1
    exact ⟨wf_64 w2, wf_64 w3⟩
structure RsB (r : Rs) : Prop where
  val : r.2.1.length ≤ 16
  prl : r.2.2.length ≤ 4
  pr : ∀ p ∈ r.2.2, p.1.length ≤ 12 ∧ p.2.length ≤ 16
structure CdB (c : Cd) : Prop where
  sh : 0 ≤ c.shards ∧ c.shards ≤ 127
  owl : c.owners.length ≤ 6
  ow : ∀ o ∈ c.owners, o.1.length ≤ 12 ∧ 1 ≤ o.2 ∧ o.2 ≤ 4
  del : c.decided.length ≤ 8
  de : ∀ d ∈ c.decided, (0 ≤ d.2.1 ∧ d.2.1 ≤ 127) ∧ d.2.2.2.2.length ≤ 4 ∧ ∀ n ∈ d.2.2.2.2, 0 ≤ n ∧ n ≤ 127
  lal : c.last.length ≤ 4
  la : ∀ a ∈ c.last, (0 ≤ a.1 ∧ a.1 ≤ 127) ∧ a.2.2.2.length ≤ 4 ∧ ∀ r ∈ a.2.2.2, RsB r
theorem rises_len : ∀ {l : List Int} {k : Int}, 0 ≤ k → k ≤ 4 → (∀ n ∈ l, 1 ≤ n ∧ n ≤ 4) → risesK (fun n : Int => IntKind.wrap .u64 n) (some k) l = true → (l.length : Int) ≤ 4 - k
  | [], _, _, h4, _, _ => by simp only [List.length_nil]; omega
  | n :: l, k, h0, h4, hn, h => by
    have h1 := hn n (List.mem_cons_self ..)
    simp only [risesK, Bool.and_eq_true, decide_eq_true_eq] at h
    rw [wrap_pos ⟨by omega, by omega⟩] at h
    have := rises_len (l := l) (k := n) (by omega) (by omega) (fun x hx => hn x (List.mem_cons_of_mem _ hx)) h.2
    simp only [List.length_cons]
    omega
theorem rises_len0 {l : List Int} (hn : ∀ n ∈ l, 1 ≤ n ∧ n ≤ 4) (h : risesK (fun n : Int => IntKind.wrap .u64 n) none l = true) : l.length ≤ 4 := by
  cases l with
  | nil => exact Nat.zero_le _
  | cons n l =>
    have h1 := hn n (List.mem_cons_self ..)
    simp only [risesK] at h
    rw [wrap_pos ⟨by omega, by omega⟩] at h
    have := rises_len (l := l) (k := n) (by omega) (by omega) (fun x hx => hn x (List.mem_cons_of_mem _ hx)) h
    simp only [List.length_cons]
    omega
theorem cli_b {n : Int} (h : cliOk n = true) : 0 ≤ n ∧ n ≤ 127 := by
  simp only [cliOk, Bool.and_eq_true, decide_eq_true_eq] at h
  exact ⟨by omega, by omega⟩
theorem resOk_b {l : List Rs} (h : resOk l = true) : l.length ≤ 4 ∧ ∀ r ∈ l, RsB r := by
  simp only [resOk, Bool.and_eq_true, decide_eq_true_eq, Bool.not_eq_true'] at h
  refine ⟨by omega, fun r hr => ?_⟩
  have h1 := List.any_eq_false.1 h.2 r hr
  simp only [badRs, Bool.or_eq_true, not_or, Bool.not_eq_true, List.any_eq_false, decide_eq_false_iff_not] at h1
  refine ⟨by omega, by omega, fun p hp => ?_⟩
  have h2 := h1.2 p hp
  simp only [badPr, Bool.or_eq_false_iff, decide_eq_false_iff_not, bne_eq_false_iff_eq] at h2
  refine ⟨?_, by omega⟩
  have h3 := h2.1
  unfold eK at h3
  split at h3
  · exact ckKl (by assumption)
  · cases h3
theorem eCd_b {c : Cd} (h : eCd c = 0) : CdB c := by
  unfold eCd at h
  by_cases k : bad1C c = true
  · rw [if_pos k] at h; cases h
  · rw [if_neg k] at h
    by_cases g : good2C c = true
    · simp only [bad1C, Bool.or_eq_true, not_or, decide_eq_true_eq, bne_iff_ne, ne_eq, Decidable.not_not] at k
      obtain ⟨⟨⟨⟨⟨c1, c2⟩, _⟩, c3⟩, c4⟩, c5⟩ := k
      simp only [good2C, Bool.and_eq_true, Bool.not_eq_true'] at g
      obtain ⟨⟨⟨⟨_, g2⟩, g3⟩, _⟩, _⟩ := g
      have e := eO_b c3
      refine ⟨⟨by omega, by omega⟩, e.1, e.2, by omega, fun d hd => ?_, by omega, fun a ha => ?_⟩
      · have h1 := List.any_eq_false.1 g2 d hd
        simp only [badDe, Bool.or_eq_true, not_or, Bool.not_eq_true, Bool.not_eq_false', List.any_eq_false] at h1
        obtain ⟨⟨⟨⟨_, h2⟩, _⟩, h3⟩, h4⟩ := h1
        have hn : ∀ n ∈ d.2.2.2.2, 1 ≤ n ∧ n ≤ 4 := fun n hn => by
          have := h3 n hn
          simp only [aboveB, Bool.or_eq_false_iff, decide_eq_false_iff_not] at this
          exact ⟨by omega, by omega⟩
        exact ⟨cli_b h2, rises_len0 hn h4, fun n h => by have := hn n h; exact ⟨by omega, by omega⟩⟩
      · have h1 := List.any_eq_false.1 g3 a ha
        simp only [badLa, Bool.or_eq_true, not_or, Bool.not_eq_true, Bool.not_eq_false'] at h1
        exact ⟨cli_b h1.1, resOk_b h1.2⟩
    · rw [if_neg g] at h; cases h
theorem RsB.len {r : Rs} (h : RsB r) : (eRs r).length ≤ 139 := by
  have h1 := tB_one h.val (by decide)
  have h2 := eList_len (f := ePr) h.prl (by decide) fun p hp => pr_len (h.pr p hp) (by decide) (by decide)
  unfold eRs
  simp only [List.length_append, List.length_singleton]
  omega
theorem RsB.cut {r : Rs} (h : RsB r) : Cut pRs (eRs r) r :=
  cut_rs (Nat.le_trans h.val (by decide)) (Nat.le_trans h.prl (by decide)) fun p hp => cut_pr (Nat.le_trans (h.pr p hp).1 (by decide)) (Nat.le_trans (h.pr p hp).2 (by decide))
def bodyCd (c : Cd) : BL := eN c.shards ++ ([c.boot, c.ver, c.epoch].flatMap eN ++ (eList eOw c.owners ++ (eList eDe c.decided ++ eList eLa c.last)))
theorem encCd_body (c : Cd) : encCd c = [67] ++ bodyCd c := by
  unfold encCd bodyCd
  simp only [List.flatMap_cons, List.flatMap_nil, List.append_assoc, List.append_nil, List.singleton_append, List.cons_append]
theorem bodyCd_len {c : Cd} (h : CdB c) : (bodyCd c).length ≤ 8000 := by
  have h0 := eN_one h.sh
  have h1 := nums_len (l := [c.boot, c.ver, c.epoch])
  have h2 := eList_len (f := eOw) h.owl (by decide) fun o ho => ow_len (h.ow o ho)
  have h3 := eList_len (f := eDe) h.del (by decide) (m := 36) fun x hx => by
    have q := h.de x hx
    have := eList_len (f := eN) q.2.1 (by decide) (m := 1) fun n hn => Nat.le_of_eq (eN_one (q.2.2 n hn))
    have := @eN_len x.1
    have := eN_one q.1
    have := @eN_len x.2.2.1
    have := @eN_len x.2.2.2.1
    unfold eDe
    simp only [List.length_append]
    omega
  have h4 := eList_len (f := eLa) h.lal (by decide) (m := 578) fun x hx => by
    have q := h.la x hx
    have := eList_len (f := eRs) q.2.1 (by decide) (m := 139) fun r hr => (q.2.2 r hr).len
    have := eN_one q.1
    have := @eN_len x.2.1
    have := @eN_len x.2.2.1
    unfold eLa
    simp only [List.length_append]
    omega
  unfold bodyCd
  simp only [List.length_append, List.length_cons, List.length_nil] at *
  omega
theorem cut_cd {c : Cd} (h : CdB c) (w : CdW c) : Cut pCd (bodyCd c) c := by
  have k : Cut pCd (eN c.shards ++ ([c.boot, c.ver, c.epoch].flatMap eN ++ (eList eOw c.owners ++ (eList eDe c.decided ++ (eList eLa c.last ++ []))))) c := by
    refine Cut.bind (a := c.shards) (cut_i ⟨h.sh.1, Int.le_trans h.sh.2 (by decide)⟩) ?_
    refine Cut.bind (a := [c.boot, c.ver, c.epoch]) (cut_nums (l := [c.boot, c.ver, c.epoch]) w.nums) ?_
    refine Cut.bind (a := c.owners) (cut_many (e := eOw) (Nat.le_trans h.owl (by decide)) fun o ho => cut_ow (Nat.le_trans (h.ow o ho).1 (by decide)) ⟨by have := (h.ow o ho).2; omega, by have := (h.ow o ho).2; omega⟩) ?_
    refine Cut.bind (a := c.decided) (cut_many (e := eDe) (Nat.le_trans h.del (by decide)) fun x hx => cut_de (w.de x hx).1 ⟨(h.de x hx).1.1, Int.le_trans (h.de x hx).1.2 (by decide)⟩ (w.de x hx).2.1 (w.de x hx).2.2 (Nat.le_trans (h.de x hx).2.1 (by decide)) fun n hn => ⟨((h.de x hx).2.2 n hn).1, Int.le_trans ((h.de x hx).2.2 n hn).2 (by decide)⟩) ?_
    exact Cut.bind (a := c.last) (cut_many (e := eLa) (Nat.le_trans h.lal (by decide)) fun x hx => cut_la ⟨(h.la x hx).1.1, Int.le_trans (h.la x hx).1.2 (by decide)⟩ (w.la x hx).1 (w.la x hx).2 (Nat.le_trans (h.la x hx).2.1 (by decide)) fun r hr => ((h.la x hx).2.2 r hr).cut) (Cut.pure c)
  rw [List.append_nil] at k
  exact k
theorem cd_back {c : Cd} (hz : eCd c = 0) (w : CdW c) : decCd (encCd c) = .ok c ∧ (∀ k, k < (encCd c).length → decCd ((encCd c).take k) = .error 10) ∧ (∀ m, decCd (encCd c ++ [m]) = .error 11) ∧ 0 < (encCd c).length ∧ (encCd c).length ≤ 8001 := by
  have hb := eCd_b hz
  have hl := bodyCd_len hb
  obtain ⟨h1, h2, h3⟩ := cut_all (c := 67) (cut_cd hb w) (by omega)
  rw [← encCd_body] at h1 h2 h3
  refine ⟨?_, fun k hk => ?_, fun m => ?_, ?_, ?_⟩
  · unfold decCd
    have h1 : readAll 67 pCd (encCd c) = .ok c := h1
    rw [h1]
    simp only [hz, if_true]
  · unfold decCd
    have h2 : readAll 67 pCd ((encCd c).take k) = .error 10 := h2 k hk
    rw [h2]
  · unfold decCd
    have h3 : readAll 67 pCd (encCd c ++ [m]) = .error 11 := h3 m
    rw [h3]
  · rw [encCd_body]; simp
  · rw [encCd_body]; simp only [List.length_append, List.length_singleton]; omega

end Go.Proofs.YtckpcelchhmjcaaGreat.Ab

/- A state's bytes, cut, are none; with a byte more neither. -/
namespace Go.Proofs.YtckpcelchhmjcaaGreat.Ab
open Go

theorem place {a : Int} {n : Nat} (hn : 0 < n) (hn2 : n ≤ 1000000) : ∃ i : Nat, i < n ∧ (IntKind.wrap .i64 (a.tmod (n : Int) + (n : Int))).tmod (n : Int) = (i : Int) := by
  have h1 := Int.tmod_lt_of_pos a (show (0 : Int) < (n : Int) by omega)
  have h2 := Int.lt_tmod_of_pos a (show (0 : Int) < (n : Int) by omega)
  rw [wrap_i64 (by omega) (by omega)]
  generalize a.tmod (n : Int) = r at *
  refine ⟨((r + n) % n).toNat, ?_, ?_⟩
  · have := Int.emod_lt_of_pos (r + n) (show (0 : Int) < (n : Int) by omega)
    have := Int.emod_nonneg (r + n) (show (n : Int) ≠ 0 by omega)
    omega
  · rw [Int.tmod_eq_emod_of_nonneg (by omega)]
    have := Int.emod_nonneg (r + n) (show (n : Int) ≠ 0 by omega)
    omega
theorem y2_0 {a b : Value} (h : noTup a = true) : aextract 0 (.tuple #[a, b]) = some a := by cases a <;> first | rfl | (cases h; done)
theorem y2_1 {a : Value} {n : Int} : aextract 1 (.tuple #[a, .int .i64 n]) = some (.int .i64 n) := rfl
theorem encS {d : Sd} {s : St} {v : Value} (h : NArg sdN d s v) : ∃ x t, (run Tryz.prog (libL libT) hints) 7 [v] s = some (.tuple #[x, .int .i64 (eSd d)], t) ∧ Own s.heap.length 1 t x (bv (if eSd d = 0 then encSd d else [])) ∧ Ext s.heap.length s t :=
  EncodeShard_run h fun hz => by have := (sd_back hz (sd_w h)).2.2.2.2; omega
theorem encC {d : Cd} {s : St} {v : Value} (h : NArg cdN d s v) : ∃ x t, (run Tryz.prog (libL libT) hints) 9 [v] s = some (.tuple #[x, .int .i64 (eCd d)], t) ∧ Own s.heap.length 1 t x (bv (if eCd d = 0 then encCd d else [])) ∧ Ext s.heap.length s t :=
  EncodeCoord_run h fun hz => by have := (cd_back hz (cd_w h)).2.2.2.2; omega
theorem dshard_err {b : BL} {v : Value} {s : St} {e : Int} (hv : bytesOf v s = some b) (hl : b.length ≤ 140737488355328) (he : decSd b = .error e) : ∃ t, (run Tryz.prog (libL libT) hints) 15 [v] s = some (.tuple #[.agg zSd.toArray, .int .i64 e], t) ∧ Ext s.heap.length s t := by
  obtain ⟨u, e', t, h1, h2, h3⟩ := DecodeShard_run hv hl
  rcases h3 with ⟨_, h4, rfl⟩ | ⟨_, a, cs, h4, _⟩
  · rw [he] at h4
    injection h4 with h4
    subst h4
    exact ⟨t, h1, h2⟩
  · rw [he] at h4
    cases h4
theorem dcoord_err {b : BL} {v : Value} {s : St} {e : Int} (hv : bytesOf v s = some b) (hl : b.length ≤ 140737488355328) (he : decCd b = .error e) : ∃ t, (run Tryz.prog (libL libT) hints) 17 [v] s = some (.tuple #[.agg zCd.toArray, .int .i64 e], t) ∧ Ext s.heap.length s t := by
  obtain ⟨u, e', t, h1, h2, h3⟩ := DecodeCoord_run hv hl
  rcases h3 with ⟨_, h4, rfl⟩ | ⟨_, a, cs, h4, _⟩
  · rw [he] at h4
    injection h4 with h4
    subst h4
    exact ⟨t, h1, h2⟩
  · rw [he] at h4
    cases h4
theorem zst_sd : lstore 17 lptr (.agg zSd.toArray) (.agg #[(.int .i64 0), (.int .u64 0), (.int .u64 0), (.int .u64 0), (.int .u64 0), (.slice none 0 0), (.slice none 0 0), (.slice none 0 0), (.int .u64 0), (.int .u64 0), (.string ⟨#[]⟩), (.string ⟨#[]⟩), (.int .u64 0), (.int .u64 0), (.int .u64 0), (.string ⟨#[]⟩), (.string ⟨#[]⟩)]) = some (.agg zSd.toArray) := rfl
theorem zst_cd : lstore 7 lptr (.agg zCd.toArray) (.agg #[(.int .i64 0), (.int .u64 0), (.int .u64 0), (.int .u64 0), (.slice none 0 0), (.slice none 0 0), (.slice none 0 0)]) = some (.agg zCd.toArray) := rfl
section
variable {s : St} {x2 : Int} {c : UInt8}
end
end Go.Proofs.YtckpcelchhmjcaaGreat.Ab

/- What is read of some bytes, written again, is these bytes (plain laws). -/
namespace Go.Proofs.YtckpcelchhmjcaaGreat.Ab
open Go

def Con {α : Type} (p : Par α) (e : α → BL) : Prop := ∀ b a r, p b = .ok (a, r) → b = e a ++ r
theorem bindP_ok {α β : Type} {p : Par α} {q : α → Par β} {b r : BL} {d : β} (h : (p.bind q) b = .ok (d, r)) : ∃ a r1, p b = .ok (a, r1) ∧ q a r1 = .ok (d, r) := by
  unfold Par.bind at h
  split at h
  · rename_i a r1 h1
    exact ⟨a, r1, h1, h⟩
  · cases h
theorem purP_ok {α : Type} {a d : α} {b r : BL} (h : (Par.pure a) b = .ok (d, r)) : a = d ∧ b = r := by
  unfold Par.pure at h
  cases h
  exact ⟨rfl, rfl⟩
theorem con_num : Con pNumR enc := fun b a r h => by
  unfold pNumR at h
  split at h
  · cases h
  · rename_i h1
    have h0 : (readNum b).2.2 = 0 := by simpa using h1
    injection h with h
    injection h with h2 h3
    rw [← h2, ← h3, enc_readNum h0, List.take_append_drop]
theorem con_u : Con pU eN := fun b a r h => by
  obtain ⟨n, r1, h1, h2⟩ := bindP_ok h
  obtain ⟨rfl, rfl⟩ := purP_ok h2
  have := con_num b n _ h1
  simpa [eN] using this
theorem con_intR : Con pIntR enc := fun b a r h => by
  obtain ⟨n, r1, h1, h2⟩ := bindP_ok h
  split at h2
  · cases h2
  · obtain ⟨rfl, rfl⟩ := purP_ok h2
    exact con_num b n _ h1
theorem con_i : Con pI eN := fun b a r h => by
  obtain ⟨n, r1, h1, h2⟩ := bindP_ok h
  obtain ⟨rfl, rfl⟩ := purP_ok h2
  have := con_intR b n _ h1
  simpa [eN] using this
theorem con_text : Con pTx tB := fun b a r h => by
  unfold pTx pText at h
  split at h
  · cases h
  · rename_i h0
    split at h
    · cases h
    · rename_i h1
      injection h with h
      injection h with h2 h3
      have hk := readNum_k b
      have g0 : (readText b 255).2.2 = 0 := by simpa using h1
      unfold readText at g0 h2 h3
      split at g0
      · exact absurd g0 (by assumption)
      · rename_i e0
        have e1 : (readNum b).2.2 = 0 := by simpa using e0
        rw [if_neg e0] at h2 h3
        split at g0
        · cases g0
        · rename_i e2
          rw [if_neg e2] at h2 h3
          split at g0
          · cases g0
          · rename_i e3
            rw [if_neg e3] at h2 h3
            simp only at h2 h3
            have hl : a.length = (readNum b).1 := by rw [← h2, List.length_take, List.length_drop]; omega
            have he := enc_readNum e1
            unfold tB
            rw [hl, he, ← h2, ← h3, List.append_assoc, ← List.drop_drop, List.take_append_drop, List.take_append_drop]
theorem con_flag : Con pFlagR fun f => [if f = true then 1 else 0] := fun b a r h => by
  cases b with
  | nil => cases h
  | cons c l =>
    have h : (if 1 < c.toNat then Except.error 11 else Except.ok (c.toNat == 1, l) : Except Int (Bool × BL)) = .ok (a, r) := h
    split at h
    · cases h
    · rename_i hc
      injection h with h
      injection h with h1 h2
      subst h1 h2
      by_cases e : c.toNat = 1
      · have : c = 1 := UInt8.toNat_inj.1 e
        subst this
        rfl
      · have : c = 0 := UInt8.toNat_inj.1 (by show c.toNat = 0; omega)
        subst this
        rfl
theorem con_rep {α : Type} {p : Par α} {e : α → BL} (h : Con p e) : ∀ k b l r, (p.rep k) b = .ok (l, r) → b = l.flatMap e ++ r ∧ l.length = k
  | 0, b, l, r, g => by
    obtain ⟨rfl, rfl⟩ := purP_ok g
    exact ⟨rfl, rfl⟩
  | k + 1, b, l, r, g => by
    obtain ⟨a, r1, h1, g⟩ := bindP_ok g
    obtain ⟨m, r2, h2, g⟩ := bindP_ok g
    obtain ⟨rfl, rfl⟩ := purP_ok g
    obtain ⟨h3, h4⟩ := con_rep h k r1 m _ h2
    rw [h b a r1 h1, h3]
    exact ⟨by simp, by simp [h4]⟩
theorem con_many {α : Type} {p : Par α} {e : α → BL} (h : Con p e) : Con (pMany p) (eList e) := fun b l r g => by
  obtain ⟨k, r1, h1, g⟩ := bindP_ok g
  obtain ⟨h2, rfl⟩ := con_rep h k r1 l r g
  rw [con_intR b _ r1 h1, h2]
  unfold eList
  rw [List.append_assoc]
theorem con_pr : Con pPr ePr := fun b a r h => by
  obtain ⟨x, r1, h1, h⟩ := bindP_ok h
  obtain ⟨y, r2, h2, h⟩ := bindP_ok h
  obtain ⟨rfl, rfl⟩ := purP_ok h
  rw [con_text _ _ _ h1, con_text _ _ _ h2]
  simp [ePr]
theorem con_ow : Con pOw eOw := fun b a r h => by
  obtain ⟨x, r1, h1, h⟩ := bindP_ok h
  obtain ⟨y, r2, h2, h⟩ := bindP_ok h
  obtain ⟨rfl, rfl⟩ := purP_ok h
  rw [con_text _ _ _ h1, con_i _ _ _ h2]
  simp [eOw]
theorem len4 {α : Type} {l : List α} (h : l.length = 4) (z : α) : l = [l.getD 0 z, l.getD 1 z, l.getD 2 z, l.getD 3 z] := by
  match l, h with
  | [a, b, c, d], _ => rfl
theorem len3 {α : Type} {l : List α} (h : l.length = 3) (z : α) : l = [l.getD 0 z, l.getD 1 z, l.getD 2 z] := by
  match l, h with
  | [a, b, c], _ => rfl
theorem len2 {α : Type} {l : List α} (h : l.length = 2) (z : α) : l = [l.getD 0 z, l.getD 1 z] := by
  match l, h with
  | [a, b], _ => rfl
theorem con_op : Con pOp eOp := fun b a r h => by
  obtain ⟨k, r1, h1, h⟩ := bindP_ok h
  obtain ⟨l, r2, h2, h⟩ := bindP_ok h
  obtain ⟨m, r3, h3, h⟩ := bindP_ok h
  obtain ⟨rfl, rfl⟩ := purP_ok h
  obtain ⟨g1, g2⟩ := con_rep con_text _ _ _ _ h2
  rw [con_i _ _ _ h1, g1, con_i _ _ _ h3, len4 g2 []]
  simp [eOp]
theorem con_ho : Con pHo eHo := fun b a r h => by
  obtain ⟨t, r1, h1, h⟩ := bindP_ok h
  obtain ⟨l, r2, h2, h⟩ := bindP_ok h
  obtain ⟨rfl, rfl⟩ := purP_ok h
  rw [con_u _ _ _ h1, con_many con_op _ _ _ h2]
  simp [eHo]
theorem con_de : Con pDe eDe := fun b a r h => by
  obtain ⟨t, r1, h1, h⟩ := bindP_ok h
  obtain ⟨c, r2, h2, h⟩ := bindP_ok h
  obtain ⟨l, r3, h3, h⟩ := bindP_ok h
  obtain ⟨q, r4, h4, h⟩ := bindP_ok h
  obtain ⟨rfl, rfl⟩ := purP_ok h
  obtain ⟨g1, g2⟩ := con_rep con_u _ _ _ _ h3
  rw [con_u _ _ _ h1, con_i _ _ _ h2, g1, con_many con_i _ _ _ h4, len2 g2 0]
  simp [eDe]
theorem con_rs : Con pRs eRs := fun b a r h => by
  obtain ⟨f, r1, h1, h⟩ := bindP_ok h
  obtain ⟨t, r2, h2, h⟩ := bindP_ok h
  obtain ⟨l, r3, h3, h⟩ := bindP_ok h
  obtain ⟨rfl, rfl⟩ := purP_ok h
  rw [con_flag _ _ _ h1, con_text _ _ _ h2, con_many con_pr _ _ _ h3]
  simp [eRs]
theorem con_la : Con pLa eLa := fun b a r h => by
  obtain ⟨c, r2, h2, h⟩ := bindP_ok h
  obtain ⟨l, r3, h3, h⟩ := bindP_ok h
  obtain ⟨q, r4, h4, h⟩ := bindP_ok h
  obtain ⟨rfl, rfl⟩ := purP_ok h
  obtain ⟨g1, g2⟩ := con_rep con_u _ _ _ _ h3
  rw [con_i _ _ _ h2, g1, con_many con_rs _ _ _ h4, len2 g2 0]
  simp [eLa]
theorem con_sd : Con pSd bodySd := fun b a r h => by
  obtain ⟨i, r1, h1, h⟩ := bindP_ok h
  obtain ⟨ns, r2, h2, h⟩ := bindP_ok h
  obtain ⟨o, r3, h3, h⟩ := bindP_ok h
  obtain ⟨he, r4, h4, h⟩ := bindP_ok h
  obtain ⟨f, r5, h5, h⟩ := bindP_ok h
  obtain ⟨ms, r6, h6, h⟩ := bindP_ok h
  obtain ⟨c, r7, h7, h⟩ := bindP_ok h
  obtain ⟨qs, r8, h8, h⟩ := bindP_ok h
  obtain ⟨x, r9, h9, h⟩ := bindP_ok h
  obtain ⟨rfl, rfl⟩ := purP_ok h
  obtain ⟨g1, g2⟩ := con_rep con_u _ _ _ _ h2
  obtain ⟨g3, g4⟩ := con_rep con_u _ _ _ _ h6
  obtain ⟨g5, g6⟩ := con_rep con_u _ _ _ _ h8
  rw [con_i _ _ _ h1, g1, con_many con_ow _ _ _ h3, con_many con_ho _ _ _ h4, con_many con_u _ _ _ h5, g3, con_pr _ _ _ h7, g5, con_pr _ _ _ h9, len4 g2 0, len2 g4 0, len3 g6 0]
  simp [bodySd]
theorem con_cd : Con pCd bodyCd := fun b a r h => by
  obtain ⟨i, r1, h1, h⟩ := bindP_ok h
  obtain ⟨ns, r2, h2, h⟩ := bindP_ok h
  obtain ⟨o, r3, h3, h⟩ := bindP_ok h
  obtain ⟨d, r4, h4, h⟩ := bindP_ok h
  obtain ⟨l, r5, h5, h⟩ := bindP_ok h
  obtain ⟨rfl, rfl⟩ := purP_ok h
  obtain ⟨g1, g2⟩ := con_rep con_u _ _ _ _ h2
  rw [con_i _ _ _ h1, g1, con_many con_ow _ _ _ h3, con_many con_de _ _ _ h4, con_many con_la _ _ _ h5, len3 g2 0]
  simp [bodyCd]
theorem con_all {α : Type} {p : Par α} {e : α → BL} (h : Con p e) {c : UInt8} {b : BL} {a : α} (hr : readAll c.toNat p b = .ok a) : b = [c] ++ e a ∧ b.length ≤ 8192 := by
  unfold readAll at hr
  split at hr
  · cases hr
  · rename_i hl
    split at hr
    · cases hr
    · rename_i a' h1
      cases hr
      obtain ⟨u, r1, h2, h3⟩ := bindP_ok h1
      refine ⟨?_, by omega⟩
      have h4 := h _ _ _ h3
      rw [List.append_nil] at h4
      cases b with
      | nil => cases h2
      | cons d l =>
        have h2 : (if d.toNat = c.toNat then Except.ok ((), l) else Except.error 11 : Except Int (Unit × BL)) = .ok (u, r1) := h2
        split at h2
        · rename_i hd
          cases h2
          rw [UInt8.toNat_inj.1 hd, h4]
          rfl
        · cases h2
    · cases hr
theorem decSd_enc {b : BL} {d : Sd} (h : decSd b = .ok d) : encSd d = b ∧ eSd d = 0 ∧ b.length ≤ 8192 ∧ ∃ e, e ≠ 0 ∧ decCd b = .error e := by
  unfold decSd at h
  split at h
  · cases h
  · rename_i a h1
    split at h
    · rename_i hz
      cases h
      obtain ⟨h2, h3⟩ := con_all (c := 83) con_sd (by exact h1)
      refine ⟨by rw [encSd_body, h2], hz, h3, 11, by decide, ?_⟩
      have : readAll 67 pCd b = .error 11 := by
        unfold readAll
        rw [if_neg (by omega), h2]
        rfl
      unfold decCd
      rw [this]
    · cases h
theorem decCd_enc {b : BL} {d : Cd} (h : decCd b = .ok d) : encCd d = b ∧ eCd d = 0 ∧ b.length ≤ 8192 := by
  unfold decCd at h
  split at h
  · cases h
  · rename_i a h1
    split at h
    · rename_i hz
      cases h
      obtain ⟨h2, h3⟩ := con_all (c := 67) con_cd (by exact h1)
      exact ⟨by rw [encCd_body, h2], hz, h3⟩
    · cases h

end Go.Proofs.YtckpcelchhmjcaaGreat.Ab

/- Two that hold the same state are the same: the document's comparisons. -/
namespace Go.Proofs.YtckpcelchhmjcaaGreat.Ab
open Go

theorem listN_cell {α : Type} {C : NCod α} {B : Nat} {l : List α} {s : St} {v : Value} (h : ListN C B l s v) {i : Nat} (hi : i < l.length) {n : Nat} (hn : n = C.n) : ∃ (b : Nat) (cs : List Value), aindexS n v (.int .i64 (i : Int)) = some (.pointer (some ⟨b, i * n, none⟩)) ∧ C.rel l[i] s cs ∧ cs.length = n ∧ aload true n (.pointer (some ⟨b, i * n, none⟩)) s = some (.agg cs.toArray) ∧ aload true n (.pointer (some ⟨b, i * n, none⟩)) (frzS s) = some (.agg cs.toArray) ∧ ∀ j x, cs[j]? = some x → aload false 1 (.pointer (some ⟨b, i * n + j, none⟩)) (frzS s) = some x := by
  subst hn
  obtain ⟨b, cells, c, rfl, h1, h2, h3, h4⟩ := listN_row h hi
  have h1f : readRow (frzS s) b = some cells := by rw [readRow_frz]; exact h1
  have hle : (i + 1) * C.n ≤ cells.length := by rw [h2]; exact Nat.mul_le_mul_right _ hi
  rw [Nat.add_mul, Nat.one_mul] at hle
  have hcl := C.len h4
  refine ⟨b, c, by simp [aindexS]; omega, h4, hcl, ?_, ?_, fun j x hx => ?_⟩
  · simp only [aload, if_true, readN, h1, Option.bind_some]
    rw [if_pos hle, h3]
    rfl
  · simp only [aload, if_true, readN, h1f, Option.bind_some]
    rw [if_pos hle, h3]
    rfl
  · simp only [aload, h1f, Option.bind_some, Bool.false_eq_true, if_false]
    have hj : j < c.length := (List.getElem?_eq_some_iff.1 hx).1
    rw [← h3, List.getElem?_take, if_pos (by omega), List.getElem?_drop] at hx
    exact hx
theorem drop_lt {α : Type} {l rest : List α} {a : α} {i : Nat} (h : l.drop i = a :: rest) : ∃ hi : i < l.length, l[i] = a ∧ l.drop (i + 1) = rest := by
  have hi : i < l.length := by
    rcases Nat.lt_or_ge i l.length with g | g
    · exact g
    · rw [List.drop_eq_nil_of_le g] at h; cases h
  rw [List.drop_eq_getElem_cons hi] at h
  exact ⟨hi, (List.cons.inj h).1, (List.cons.inj h).2⟩

theorem op_same (o1 o2 : Operand) (a : OpT) : abin Tryz.prog .neq 72 o1 o2 (oV a) (oV a) = some (.bool false) := by
  have hg : pureRun Tryz.prog (eqGuard .neq 72 o1 o2 (.agg (opC.enc a).toArray) (.agg (opC.enc a).toArray)) = some () := by kernel_rfl
  have key : ∀ m n, m = n + 2 → pureRun Tryz.prog (Op.equalIn m 72 (oV a) (oV a)) = some ([a.kind == a.kind, a.key == a.key, a.val == a.val, a.lo == a.lo, a.hi == a.hi, a.most == a.most].all id) := fun m n h => by
    subst h
    exact pr_struct Tryz.underlying72 (by kernel_rfl) ⟨by decide, ⟨_, _, by kernel_rfl, by kernel_rfl, in_int Tryz.underlying3⟩, by decide, ⟨_, _, by kernel_rfl, by kernel_rfl, in_str _ _ _⟩, by decide, ⟨_, _, by kernel_rfl, by kernel_rfl, in_str _ _ _⟩, by decide, ⟨_, _, by kernel_rfl, by kernel_rfl, in_str _ _ _⟩, by decide, ⟨_, _, by kernel_rfl, by kernel_rfl, in_str _ _ _⟩, by decide, ⟨_, _, by kernel_rfl, by kernel_rfl, in_int Tryz.underlying3⟩, trivial⟩
  have := ab_neqS (xs := opC.enc a) (ys := opC.enc a) (opC.leaf a) (opC.leaf a) hg (by unfold Op.equal; exact key _ 9998 max_2R)
  exact this.trans (by simp)
theorem ow_same (o1 o2 : Operand) (a : Ow) : abin Tryz.prog .neq 54 o1 o2 (owV a) (owV a) = some (.bool false) := by
  have hg : pureRun Tryz.prog (eqGuard .neq 54 o1 o2 (.agg (owC.enc a).toArray) (.agg (owC.enc a).toArray)) = some () := by kernel_rfl
  have key : ∀ m n, m = n + 2 → pureRun Tryz.prog (Op.equalIn m 54 (owV a) (owV a)) = some ([a.1 == a.1, a.2 == a.2].all id) := fun m n h => by
    subst h
    exact pr_struct Tryz.underlying54 (by kernel_rfl) ⟨by decide, ⟨_, _, by kernel_rfl, by kernel_rfl, in_str _ _ _⟩, by decide, ⟨_, _, by kernel_rfl, by kernel_rfl, in_int Tryz.underlying3⟩, trivial⟩
  have := ab_neqS (xs := owC.enc a) (ys := owC.enc a) (owC.leaf a) (owC.leaf a) hg (by unfold Op.equal; exact key _ 9998 max_2R)
  exact this.trans (by simp)
theorem rg_same (o1 o2 : Operand) (a : Rg) : abin Tryz.prog .neq 27 o1 o2 (rv a) (rv a) = some (.bool false) := by
  have hg : pureRun Tryz.prog (eqGuard .neq 27 o1 o2 (.agg (prC.enc a).toArray) (.agg (prC.enc a).toArray)) = some () := by kernel_rfl
  have := ab_neqS (xs := prC.enc a) (ys := prC.enc a) (prC.leaf a) (prC.leaf a) hg (by unfold Op.equal; exact in_rgM _ 9998 max_2R a a)
  exact this.trans (by simp)
theorem in_same (o1 o2 : Operand) (a : In4) : abin Tryz.prog .neq 29 o1 o2 (.agg (inL a).toArray) (.agg (inL a).toArray) = some (.bool false) := by
  have hg : pureRun Tryz.prog (eqGuard .neq 29 o1 o2 (.agg (inL a).toArray) (.agg (inL a).toArray)) = some () := by kernel_rfl
  have := ab_neqS (inL_leaf a) (inL_leaf a) hg (by unfold Op.equal; exact in_in _ 9997 max_3R a a)
  exact this.trans (by simp [inEq])
section
variable {v w : Value} {s : St}
theorem sameOps_loop {l : List OpT} (hv : ListN (.ofC opC fun _ => True) 80 l s v) (hw : ListN (.ofC opC fun _ => True) 80 l s w) (hl : l.length < 140737488355328) : ∀ (rest : List OpT) (i : Nat), l.drop i = rest → i ≤ l.length →
    loopL (ref04_SameOps.b0 (run Tryz.prog (libL libT) hints)) [v, w, .int .i64 ((l.length : Nat) : Int), .int .i64 (i : Int)] s = some (.exit 0, [], s) := by
  intro rest
  induction rest with
  | nil =>
    intro i h1 hle
    have := List.drop_eq_nil_iff.1 h1
    have hd : decide ((i : Int) < ((l.length : Nat) : Int)) = false := by simp; omega
    rw [loopL_eq]
    simp only [ref04_SameOps.b0, hd, n_bind, n_map, getL_0, getL_1, getL_2, getL_3, getL_4, getL_5, getL_6, getL_7, getL_8, getL_9, getL_10, getL_11, getL_12, condV_t, condV_f, guardV_tt, guardV_ff, guardV_tf, guardV_ft, guardV_u, apick_t, apick_f, exV_exit, exV_ret, lookE_same, joinK_eq, seqA_n, seqA_e, seqA_r, e_add, e_sub, e_mul, e_eql, e_neq, e_lss, e_leq, e_gtr, e_geq, e_conv, e_not, e_neg, and_guard, or_guard]
  | cons o rest ih =>
    intro i h1 hle
    obtain ⟨hi, he, hd⟩ := drop_lt h1
    have hdc : decide ((i : Int) < ((l.length : Nat) : Int)) = true := by simp; omega
    obtain ⟨b, cs, a1, a2, a3, a4, a5, a6⟩ := listN_cell hv hi (n := 6) rfl
    obtain ⟨b', cs', b1, b2, b3, b4, b5, b6⟩ := listN_cell hw hi (n := 6) rfl
    obtain ⟨rfl, _⟩ := a2
    obtain ⟨rfl, _⟩ := b2
    have hs : ∀ o1 o2, abin Tryz.prog .neq 72 o1 o2 (.agg (opC.enc l[i]).toArray) (.agg (opC.enc l[i]).toArray) = some (.bool false) := fun o1 o2 => op_same o1 o2 l[i]
    rw [loopL_eq, ← ih (i + 1) hd hi]
    simp only [ref04_SameOps.b0, hdc, a1, a5, b1, b5, hs, inc_i64 (show i < 140737488355328 by omega), n_bind, n_map, getL_0, getL_1, getL_2, getL_3, getL_4, getL_5, getL_6, getL_7, getL_8, getL_9, getL_10, getL_11, getL_12, condV_t, condV_f, guardV_tt, guardV_ff, guardV_tf, guardV_ft, guardV_u, apick_t, apick_f, exV_exit, exV_ret, lookE_same, joinK_eq, seqA_n, seqA_e, seqA_r, e_add, e_sub, e_mul, e_eql, e_neq, e_lss, e_leq, e_gtr, e_geq, e_conv, e_not, e_neg, and_guard, or_guard]
theorem sameOps_run {l : List OpT} (hv : ListN (.ofC opC fun _ => True) 80 l s v) (hw : ListN (.ofC opC fun _ => True) 80 l s w) : (run Tryz.prog (libL libT) hints) 80 [v, w] s = some (.bool true, s) := by
  have hl : l.length < 140737488355328 := listN_short hv (by decide)
  have h1 : loopL (ref04_SameOps.b0 (run Tryz.prog (libL libT) hints)) [v, w, .int .i64 ((l.length : Nat) : Int), .int .i64 0] s = some (.exit 0, [], s) := sameOps_loop hv hw hl l 0 rfl (Nat.zero_le _)
  have hr : retV [.bool true] s = some (.bool true, s) := ret1 rfl
  refine ref04_SameOps_of rfl ?_
  unfold ref04_SameOps
  simp only [listN_lenR hv, listN_lenR hw, bne_self_eq_false, h1, hr, n_bind, n_map, getL_0, getL_1, getL_2, getL_3, getL_4, getL_5, getL_6, getL_7, getL_8, getL_9, getL_10, getL_11, getL_12, condV_t, condV_f, guardV_tt, guardV_ff, guardV_tf, guardV_ft, guardV_u, apick_t, apick_f, exV_exit, exV_ret, lookE_same, joinK_eq, seqA_n, seqA_e, seqA_r, e_add, e_sub, e_mul, e_eql, e_neq, e_lss, e_leq, e_gtr, e_geq, e_conv, e_not, e_neg, and_guard, or_guard]
theorem sameOw_loop {l : List Ow} (hv : ListN (.ofC owC fun _ => True) 24 l s v) (hw : ListN (.ofC owC fun _ => True) 24 l s w) (hl : l.length < 140737488355328) : ∀ (rest : List Ow) (i : Nat), l.drop i = rest → i ≤ l.length →
    loopL (ref17_Same.b0 (run Tryz.prog (libL libT) hints)) [v, w, .int .i64 ((l.length : Nat) : Int), .int .i64 (i : Int)] s = some (.exit 0, [], s) := by
  intro rest
  induction rest with
  | nil =>
    intro i h1 hle
    have := List.drop_eq_nil_iff.1 h1
    have hd : decide ((i : Int) < ((l.length : Nat) : Int)) = false := by simp; omega
    rw [loopL_eq]
    simp only [ref17_Same.b0, hd, n_bind, n_map, getL_0, getL_1, getL_2, getL_3, getL_4, getL_5, getL_6, getL_7, getL_8, getL_9, getL_10, getL_11, getL_12, condV_t, condV_f, guardV_tt, guardV_ff, guardV_tf, guardV_ft, guardV_u, apick_t, apick_f, exV_exit, exV_ret, lookE_same, joinK_eq, seqA_n, seqA_e, seqA_r, e_add, e_sub, e_mul, e_eql, e_neq, e_lss, e_leq, e_gtr, e_geq, e_conv, e_not, e_neg, and_guard, or_guard]
  | cons o rest ih =>
    intro i h1 hle
    obtain ⟨hi, he, hd⟩ := drop_lt h1
    have hdc : decide ((i : Int) < ((l.length : Nat) : Int)) = true := by simp; omega
    obtain ⟨b, cs, a1, a2, a3, a4, a5, a6⟩ := listN_cell hv hi (n := 2) rfl
    obtain ⟨b', cs', b1, b2, b3, b4, b5, b6⟩ := listN_cell hw hi (n := 2) rfl
    obtain ⟨rfl, _⟩ := a2
    obtain ⟨rfl, _⟩ := b2
    have hs : ∀ o1 o2, abin Tryz.prog .neq 54 o1 o2 (.agg (owC.enc l[i]).toArray) (.agg (owC.enc l[i]).toArray) = some (.bool false) := fun o1 o2 => ow_same o1 o2 l[i]
    rw [loopL_eq, ← ih (i + 1) hd hi]
    simp only [ref17_Same.b0, hdc, a1, a5, b1, b5, hs, inc_i64 (show i < 140737488355328 by omega), n_bind, n_map, getL_0, getL_1, getL_2, getL_3, getL_4, getL_5, getL_6, getL_7, getL_8, getL_9, getL_10, getL_11, getL_12, condV_t, condV_f, guardV_tt, guardV_ff, guardV_tf, guardV_ft, guardV_u, apick_t, apick_f, exV_exit, exV_ret, lookE_same, joinK_eq, seqA_n, seqA_e, seqA_r, e_add, e_sub, e_mul, e_eql, e_neq, e_lss, e_leq, e_gtr, e_geq, e_conv, e_not, e_neg, and_guard, or_guard]
theorem sameOw_run {l : List Ow} (hv : ListN (.ofC owC fun _ => True) 24 l s v) (hw : ListN (.ofC owC fun _ => True) 24 l s w) : (run Tryz.prog (libL libT) hints) 79 [v, w] s = some (.bool true, s) := by
  have hl : l.length < 140737488355328 := listN_short hv (by decide)
  have h1 : loopL (ref17_Same.b0 (run Tryz.prog (libL libT) hints)) [v, w, .int .i64 ((l.length : Nat) : Int), .int .i64 0] s = some (.exit 0, [], s) := sameOw_loop hv hw hl l 0 rfl (Nat.zero_le _)
  have hr : retV [.bool true] s = some (.bool true, s) := ret1 rfl
  refine ref17_Same_of rfl ?_
  unfold ref17_Same
  simp only [listN_lenR hv, listN_lenR hw, bne_self_eq_false, h1, hr, n_bind, n_map, getL_0, getL_1, getL_2, getL_3, getL_4, getL_5, getL_6, getL_7, getL_8, getL_9, getL_10, getL_11, getL_12, condV_t, condV_f, guardV_tt, guardV_ff, guardV_tf, guardV_ft, guardV_u, apick_t, apick_f, exV_exit, exV_ret, lookE_same, joinK_eq, seqA_n, seqA_e, seqA_r, e_add, e_sub, e_mul, e_eql, e_neq, e_lss, e_leq, e_gtr, e_geq, e_conv, e_not, e_neg, and_guard, or_guard]
theorem sameM_run {l : List Rg} (hv : ListN (.ofC prC fun _ => True) 32 l s v) (hw : ListN (.ofC prC fun _ => True) 32 l s w) : (run Tryz.prog (libL libT) hints) 129 [v, w] s = some (.bool true, s) := by
  have hl : l.length < 140737488355328 := listN_short hv (by decide)
  have := ref04_SameMap_of (lib := libL libT) rfl (same_run (R := (run Tryz.prog (libL libT) hints)) (ListN.plain hv).1 (ListN.plain hw).1 hl)
  rw [decide_eq_true rfl] at this
  exact this

theorem sameRs_loop {l : List Rs} (hv : ListN rsN 48 l s v) (hw : ListN rsN 48 l s w) (hl : l.length < 140737488355328) : ∀ (rest : List Rs) (i : Nat), l.drop i = rest → i ≤ l.length →
    loopL (ref04_SameResults.b0 (run Tryz.prog (libL libT) hints)) [v, w, .int .i64 ((l.length : Nat) : Int), .int .i64 (i : Int)] s = some (.exit 0, [], s) := by
  intro rest
  induction rest with
  | nil =>
    intro i h1 hle
    have := List.drop_eq_nil_iff.1 h1
    have hd : decide ((i : Int) < ((l.length : Nat) : Int)) = false := by simp; omega
    rw [loopL_eq]
    simp only [ref04_SameResults.b0, hd, n_bind, n_map, getL_0, getL_1, getL_2, getL_3, getL_4, getL_5, getL_6, getL_7, getL_8, getL_9, getL_10, getL_11, getL_12, condV_t, condV_f, guardV_tt, guardV_ff, guardV_tf, guardV_ft, guardV_u, apick_t, apick_f, exV_exit, exV_ret, lookE_same, joinK_eq, seqA_n, seqA_e, seqA_r, e_add, e_sub, e_mul, e_eql, e_neq, e_lss, e_leq, e_gtr, e_geq, e_conv, e_not, e_neg, and_guard, or_guard]
  | cons o rest ih =>
    intro i h1 hle
    obtain ⟨hi, he, hd⟩ := drop_lt h1
    have hdc : decide ((i : Int) < ((l.length : Nat) : Int)) = true := by simp; omega
    obtain ⟨b, cs, a1, a2, a3, a4, a5, a6⟩ := listN_cell hv hi (n := 3) rfl
    obtain ⟨b', cs', b1, b2, b3, b4, b5, b6⟩ := listN_cell hw hi (n := 3) rfl
    obtain ⟨p, rfl, hp, _⟩ := rs_inv a2
    obtain ⟨q, rfl, hq, _⟩ := rs_inv b2
    have hm := sameM_run hp hq
    have e1 : ∀ o1 o2, abin Tryz.prog .neq 4 o1 o2 (.bool l[i].1) (.bool l[i].1) = some (.bool false) := fun o1 o2 => by rw [ne_bool]; simp
    have e2 : ∀ o1 o2, abin Tryz.prog .neq 9 o1 o2 (sv l[i].2.1) (sv l[i].2.1) = some (.bool false) := fun o1 o2 => by
      have := e_sneq (P := Tryz.prog) (t := 9) (ox := o1) (oy := o2) (a := l[i].2.1) (b := l[i].2.1)
      rw [show (!(l[i].2.1 == l[i].2.1)) = false by simp] at this
      exact this
    rw [loopL_eq, ← ih (i + 1) hd hi]
    simp only [ref04_SameResults.b0, hdc, a1, b1, ad_atR, a6 0 _ rfl, a6 1 _ rfl, a6 2 _ rfl, b6 0 _ rfl, b6 1 _ rfl, b6 2 _ rfl, e1, e2, ref04_SameMap_call, hm, own_id, Bool.not_true, inc_i64 (show i < 140737488355328 by omega), n_bind, n_map, getL_0, getL_1, getL_2, getL_3, getL_4, getL_5, getL_6, getL_7, getL_8, getL_9, getL_10, getL_11, getL_12, condV_t, condV_f, guardV_tt, guardV_ff, guardV_tf, guardV_ft, guardV_u, apick_t, apick_f, exV_exit, exV_ret, lookE_same, joinK_eq, seqA_n, seqA_e, seqA_r, e_add, e_sub, e_mul, e_eql, e_neq, e_lss, e_leq, e_gtr, e_geq, e_conv, e_not, e_neg, and_guard, or_guard]
theorem sameRs_run {l : List Rs} (hv : ListN rsN 48 l s v) (hw : ListN rsN 48 l s w) : (run Tryz.prog (libL libT) hints) 86 [v, w] s = some (.bool true, s) := by
  have hl : l.length < 140737488355328 := listN_short hv (by decide)
  have h1 : loopL (ref04_SameResults.b0 (run Tryz.prog (libL libT) hints)) [v, w, .int .i64 ((l.length : Nat) : Int), .int .i64 0] s = some (.exit 0, [], s) := sameRs_loop hv hw hl l 0 rfl (Nat.zero_le _)
  have hr : retV [.bool true] s = some (.bool true, s) := ret1 rfl
  refine ref04_SameResults_of rfl ?_
  unfold ref04_SameResults
  simp only [listN_lenR hv, listN_lenR hw, bne_self_eq_false, h1, hr, n_bind, n_map, getL_0, getL_1, getL_2, getL_3, getL_4, getL_5, getL_6, getL_7, getL_8, getL_9, getL_10, getL_11, getL_12, condV_t, condV_f, guardV_tt, guardV_ff, guardV_tf, guardV_ft, guardV_u, apick_t, apick_f, exV_exit, exV_ret, lookE_same, joinK_eq, seqA_n, seqA_e, seqA_r, e_add, e_sub, e_mul, e_eql, e_neq, e_lss, e_leq, e_gtr, e_geq, e_conv, e_not, e_neg, and_guard, or_guard]

end
end Go.Proofs.YtckpcelchhmjcaaGreat.Ab

/- Two that hold the same shard's state are the same. -/
namespace Go.Proofs.YtckpcelchhmjcaaGreat.Ab
open Go

theorem num_cell {k : IntKind} {a : Int} {s : St} {u : Value} {cs : List Value} (h : (wfN k).rel a s cs) (g : Shape false u cs) : u = .int k a := by
  obtain ⟨h1, _⟩ := h
  have g : cs = [u] := g
  rw [g] at h1
  exact (List.cons.inj h1).1
section
variable {d : Sd} {s : St} {ow he fi ow' he' fi' : Value} (hs : SdIn d s ow he fi) (hs' : SdIn d s ow' he' fi')
include hs hs'
theorem sameS_b0 (hl : d.held.length < 140737488355328) : ∀ (rest : List Ho) (i : Nat), d.held.drop i = rest → i ≤ d.held.length →
    loopL (ref19_SameShard.b0 (run Tryz.prog (libL libT) hints)) [lptr, lptr, .int .i64 ((d.held.length : Nat) : Int), .int .i64 (i : Int), .agg (sdCells d ow he fi).toArray, .agg (sdCells d ow' he' fi').toArray] s = some (.exit 0, [lptr, lptr, .agg (sdCells d ow he fi).toArray, .agg (sdCells d ow' he' fi').toArray], s) := by
  have p6 : afieldAddr 6 lptr = some (.pointer (some ⟨0, 6, none⟩)) := rfl
  have i6 : lload false 1 (.pointer (some ⟨0, 6, none⟩)) (.agg (sdCells d ow he fi).toArray) = some he := rfl
  have j6 : lload false 1 (.pointer (some ⟨0, 6, none⟩)) (.agg (sdCells d ow' he' fi').toArray) = some he' := rfl
  generalize (Value.agg (sdCells d ow he fi).toArray) = u at *
  generalize (Value.agg (sdCells d ow' he' fi').toArray) = u' at *
  intro rest
  induction rest with
  | nil =>
    intro i h1 hle
    have := List.drop_eq_nil_iff.1 h1
    have hd : decide ((i : Int) < ((d.held.length : Nat) : Int)) = false := by simp; omega
    rw [loopL_eq]
    simp only [ref19_SameShard.b0, hd, n_bind, n_map, getL_0, getL_1, getL_2, getL_3, getL_4, getL_5, getL_6, getL_7, getL_8, getL_9, getL_10, getL_11, getL_12, condV_t, condV_f, guardV_tt, guardV_ff, guardV_tf, guardV_ft, guardV_u, apick_t, apick_f, exV_exit, exV_ret, lookE_same, joinK_eq, seqA_n, seqA_e, seqA_r, e_add, e_sub, e_mul, e_eql, e_neq, e_lss, e_leq, e_gtr, e_geq, e_conv, e_not, e_neg, and_guard, or_guard]
  | cons o rest ih =>
    intro i h1 hle
    obtain ⟨hi, he0, hd⟩ := drop_lt h1
    have hdc : decide ((i : Int) < ((d.held.length : Nat) : Int)) = true := by simp; omega
    obtain ⟨b, cs, a1, a2, a3, a4, a5, a6⟩ := listN_cell hs.he hi (n := 2) rfl
    obtain ⟨b', cs', b1, b2, b3, b4, b5, b6⟩ := listN_cell hs'.he hi (n := 2) rfl
    obtain ⟨p, rfl, _, hp⟩ := ho_inv a2
    obtain ⟨q, rfl, _, hq⟩ := ho_inv b2
    have hm := sameOps_run hp hq
    rw [loopL_eq, ← ih (i + 1) hd hi]
    simp only [ref19_SameShard.b0, hdc, p6, i6, j6, a1, b1, ad_atR, a6 0 _ rfl, a6 1 _ rfl, b6 0 _ rfl, b6 1 _ rfl, bne_self_eq_false, ref04_SameOps_call, hm, own_id, Bool.not_true, inc_i64 (show i < 140737488355328 by omega), n_bind, n_map, getL_0, getL_1, getL_2, getL_3, getL_4, getL_5, getL_6, getL_7, getL_8, getL_9, getL_10, getL_11, getL_12, condV_t, condV_f, guardV_tt, guardV_ff, guardV_tf, guardV_ft, guardV_u, apick_t, apick_f, exV_exit, exV_ret, lookE_same, joinK_eq, seqA_n, seqA_e, seqA_r, e_add, e_sub, e_mul, e_eql, e_neq, e_lss, e_leq, e_gtr, e_geq, e_conv, e_not, e_neg, and_guard, or_guard]
theorem sameS_b1 (hl : d.fin.length < 140737488355328) : ∀ (rest : List Int) (i : Nat), d.fin.drop i = rest → i ≤ d.fin.length →
    loopL (ref19_SameShard.b1 (run Tryz.prog (libL libT) hints)) [lptr, lptr, .int .i64 ((d.fin.length : Nat) : Int), .int .i64 (i : Int), .agg (sdCells d ow he fi).toArray, .agg (sdCells d ow' he' fi').toArray] s = some (.exit 2, [], s) := by
  have p7 : afieldAddr 7 lptr = some (.pointer (some ⟨0, 7, none⟩)) := rfl
  have i7 : lload false 1 (.pointer (some ⟨0, 7, none⟩)) (.agg (sdCells d ow he fi).toArray) = some fi := rfl
  have j7 : lload false 1 (.pointer (some ⟨0, 7, none⟩)) (.agg (sdCells d ow' he' fi').toArray) = some fi' := rfl
  generalize (Value.agg (sdCells d ow he fi).toArray) = u at *
  generalize (Value.agg (sdCells d ow' he' fi').toArray) = u' at *
  intro rest
  induction rest with
  | nil =>
    intro i h1 hle
    have := List.drop_eq_nil_iff.1 h1
    have hd : decide ((i : Int) < ((d.fin.length : Nat) : Int)) = false := by simp; omega
    rw [loopL_eq]
    simp only [ref19_SameShard.b1, hd, n_bind, n_map, getL_0, getL_1, getL_2, getL_3, getL_4, getL_5, getL_6, getL_7, getL_8, getL_9, getL_10, getL_11, getL_12, condV_t, condV_f, guardV_tt, guardV_ff, guardV_tf, guardV_ft, guardV_u, apick_t, apick_f, exV_exit, exV_ret, lookE_same, joinK_eq, seqA_n, seqA_e, seqA_r, e_add, e_sub, e_mul, e_eql, e_neq, e_lss, e_leq, e_gtr, e_geq, e_conv, e_not, e_neg, and_guard, or_guard]
  | cons o rest ih =>
    intro i h1 hle
    obtain ⟨hi, he0, hd⟩ := drop_lt h1
    have hdc : decide ((i : Int) < ((d.fin.length : Nat) : Int)) = true := by simp; omega
    obtain ⟨p, x, cs, a1, _, a2, a3, a4⟩ := listN_get hs.fi hi (n := 1) rfl (ag := false) (.inr rfl)
    obtain ⟨q, y, cs', b1, _, b2, b3, b4⟩ := listN_get hs'.fi hi (n := 1) rfl (ag := false) (.inr rfl)
    rw [num_cell a4 a3] at a2
    rw [num_cell b4 b3] at b2
    rw [loopL_eq, ← ih (i + 1) hd hi]
    simp only [ref19_SameShard.b1, hdc, p7, i7, j7, a1, b1, a2, b2, bne_self_eq_false, inc_i64 (show i < 140737488355328 by omega), n_bind, n_map, getL_0, getL_1, getL_2, getL_3, getL_4, getL_5, getL_6, getL_7, getL_8, getL_9, getL_10, getL_11, getL_12, condV_t, condV_f, guardV_tt, guardV_ff, guardV_tf, guardV_ft, guardV_u, apick_t, apick_f, exV_exit, exV_ret, lookE_same, joinK_eq, seqA_n, seqA_e, seqA_r, e_add, e_sub, e_mul, e_eql, e_neq, e_lss, e_leq, e_gtr, e_geq, e_conv, e_not, e_neg, and_guard, or_guard]
end
theorem SameShard_run {d : Sd} {s : St} {v w : Value} (h : NArg sdN d s v) (g : NArg sdN d s w) : (run Tryz.prog (libL libT) hints) 16 [v, w] s = some (.bool true, s) := by
  obtain ⟨cs, rfl, hr⟩ := h
  obtain ⟨ow, he, fi, rfl, hs⟩ := sd_inv hr
  obtain ⟨cs', rfl, gr⟩ := g
  obtain ⟨ow', he', fi', rfl, hs'⟩ := sd_inv gr
  have hbx := lbox_cs (sd_leaf hs)
  have gbx := lbox_cs (sd_leaf hs')
  have L0 : loopL (ref19_SameShard.b0 (run Tryz.prog (libL libT) hints)) [lptr, lptr, .int .i64 ((d.held.length : Nat) : Int), .int .i64 0, .agg (sdCells d ow he fi).toArray, .agg (sdCells d ow' he' fi').toArray] s = some (.exit 0, [lptr, lptr, .agg (sdCells d ow he fi).toArray, .agg (sdCells d ow' he' fi').toArray], s) := sameS_b0 hs hs' (listN_short hs.he (by decide)) d.held 0 rfl (Nat.zero_le _)
  have L1 : loopL (ref19_SameShard.b1 (run Tryz.prog (libL libT) hints)) [lptr, lptr, .int .i64 ((d.fin.length : Nat) : Int), .int .i64 0, .agg (sdCells d ow he fi).toArray, .agg (sdCells d ow' he' fi').toArray] s = some (.exit 2, [], s) := sameS_b1 hs hs' (listN_short hs.fi (by decide)) d.fin 0 rfl (Nat.zero_le _)
  have hO := sameOw_run hs.ow hs'.ow
  have p7 : afieldAddr 7 lptr = some (.pointer (some ⟨0, 7, none⟩)) := rfl
  have ld : ∀ ow he fi, lload false 1 lptr (.agg (sdCells d ow he fi).toArray) = some (.int .i64 d.id) ∧ lload false 1 (.pointer (some ⟨0, 1, none⟩)) (.agg (sdCells d ow he fi).toArray) = some (.int .u64 d.boot) ∧ lload false 1 (.pointer (some ⟨0, 2, none⟩)) (.agg (sdCells d ow he fi).toArray) = some (.int .u64 d.ver) ∧ lload false 1 (.pointer (some ⟨0, 3, none⟩)) (.agg (sdCells d ow he fi).toArray) = some (.int .u64 d.epoch) ∧ lload false 1 (.pointer (some ⟨0, 4, none⟩)) (.agg (sdCells d ow he fi).toArray) = some (.int .u64 d.move) ∧ lload false 1 (.pointer (some ⟨0, 5, none⟩)) (.agg (sdCells d ow he fi).toArray) = some ow ∧ lload false 1 (.pointer (some ⟨0, 6, none⟩)) (.agg (sdCells d ow he fi).toArray) = some he ∧ lload false 1 (.pointer (some ⟨0, 7, none⟩)) (.agg (sdCells d ow he fi).toArray) = some fi ∧ lload false 1 (.pointer (some ⟨0, 8, none⟩)) (.agg (sdCells d ow he fi).toArray) = some (.int .u64 d.low) ∧ lload false 1 (.pointer (some ⟨0, 9, none⟩)) (.agg (sdCells d ow he fi).toArray) = some (.int .u64 d.frozen) ∧ lload true 2 (.pointer (some ⟨0, 10, none⟩)) (.agg (sdCells d ow he fi).toArray) = some (rv d.cold) ∧ lload true 5 (.pointer (some ⟨0, 12, none⟩)) (.agg (sdCells d ow he fi).toArray) = some (.agg (inL (d.im, d.ia, d.inx, d.ir)).toArray) := fun ow he fi => ⟨rfl, rfl, rfl, rfl, rfl, rfl, rfl, rfl, rfl, rfl, rfl, rfl⟩
  obtain ⟨l0, l1, l2, l3, l4, l5, l6, l7, l8, l9, l10, l12⟩ := ld ow he fi
  obtain ⟨k0, k1, k2, k3, k4, k5, k6, k7, k8, k9, k10, k12⟩ := ld ow' he' fi'
  generalize (Value.agg (sdCells d ow he fi).toArray) = u at *
  generalize (Value.agg (sdCells d ow' he' fi').toArray) = u' at *
  have hrt : retV [.bool true] s = some (.bool true, s) := ret1 rfl
  refine ref19_SameShard_of rfl ?_
  unfold ref19_SameShard
  simp only [hbx, gbx, l0, l1, l2, l3, l4, l5, l6, l7, l8, l9, l10, l12, k0, k1, k2, k3, k4, k5, k6, k7, k8, k9, k10, k12, bne_self_eq_false, ref17_Same_call, hO, Bool.not_true, listN_lenR hs.he, listN_lenR hs'.he, listN_lenR hs.fi, listN_lenR hs'.fi, rg_same, in_same, L0, L1, p7, hrt, n_bind, n_map, getL_0, getL_1, getL_2, getL_3, getL_4, getL_5, getL_6, getL_7, getL_8, getL_9, getL_10, getL_11, getL_12, condV_t, condV_f, guardV_tt, guardV_ff, guardV_tf, guardV_ft, guardV_u, apick_t, apick_f, exV_exit, exV_ret, lookE_same, joinK_eq, seqA_n, seqA_e, seqA_r, e_add, e_sub, e_mul, e_eql, e_neq, e_lss, e_leq, e_gtr, e_geq, e_conv, e_not, e_neg, and_guard, or_guard]

end Go.Proofs.YtckpcelchhmjcaaGreat.Ab

/- Two that hold the same coordinator's state are the same. -/
namespace Go.Proofs.YtckpcelchhmjcaaGreat.Ab
open Go

theorem sameC_b1 {l : List Int} {s : St} {T0 T1 T4 T5 T6 T9 T10 X Y x y : Value} (hx : ListN (wfN .i64) 8 l s x) (hy : ListN (wfN .i64) 8 l s y) (gx : lload false 1 (.pointer (some ⟨0, 4, none⟩)) X = some x) (gy : lload false 1 (.pointer (some ⟨0, 4, none⟩)) Y = some y) (hl : l.length < 140737488355328) : ∀ (rest : List Int) (i : Nat), l.drop i = rest → i ≤ l.length →
    loopL (ref19_SameCoord.b1 (run Tryz.prog (libL libT) hints)) [T0, T1, lptr, lptr, T4, T5, T6, .int .i64 ((l.length : Nat) : Int), .int .i64 (i : Int), T9, T10, X, Y] s = some (.exit 2, [T0, T1, T4, T5, T6, T9, T10], s) := by
  have p4 : afieldAddr 4 lptr = some (.pointer (some ⟨0, 4, none⟩)) := rfl
  intro rest
  induction rest with
  | nil =>
    intro i h1 hle
    have := List.drop_eq_nil_iff.1 h1
    have hd : decide ((i : Int) < ((l.length : Nat) : Int)) = false := by simp; omega
    rw [loopL_eq]
    simp only [ref19_SameCoord.b1, hd, n_bind, n_map, getL_0, getL_1, getL_2, getL_3, getL_4, getL_5, getL_6, getL_7, getL_8, getL_9, getL_10, getL_11, getL_12, condV_t, condV_f, guardV_tt, guardV_ff, guardV_tf, guardV_ft, guardV_u, apick_t, apick_f, exV_exit, exV_ret, lookE_same, joinK_eq, seqA_n, seqA_e, seqA_r, e_add, e_sub, e_mul, e_eql, e_neq, e_lss, e_leq, e_gtr, e_geq, e_conv, e_not, e_neg, and_guard, or_guard]
  | cons o rest ih =>
    intro i h1 hle
    obtain ⟨hi, he0, hd⟩ := drop_lt h1
    have hdc : decide ((i : Int) < ((l.length : Nat) : Int)) = true := by simp; omega
    obtain ⟨p, u, cs, a1, _, a2, a3, a4⟩ := listN_get hx hi (n := 1) rfl (ag := false) (.inr rfl)
    obtain ⟨q, w, cs', b1, _, b2, b3, b4⟩ := listN_get hy hi (n := 1) rfl (ag := false) (.inr rfl)
    rw [num_cell a4 a3] at a2
    rw [num_cell b4 b3] at b2
    rw [loopL_eq, ← ih (i + 1) hd hi]
    simp only [ref19_SameCoord.b1, hdc, p4, gx, gy, a1, b1, a2, b2, bne_self_eq_false, inc_i64 (show i < 140737488355328 by omega), n_bind, n_map, getL_0, getL_1, getL_2, getL_3, getL_4, getL_5, getL_6, getL_7, getL_8, getL_9, getL_10, getL_11, getL_12, condV_t, condV_f, guardV_tt, guardV_ff, guardV_tf, guardV_ft, guardV_u, apick_t, apick_f, exV_exit, exV_ret, lookE_same, joinK_eq, seqA_n, seqA_e, seqA_r, e_add, e_sub, e_mul, e_eql, e_neq, e_lss, e_leq, e_gtr, e_geq, e_conv, e_not, e_neg, and_guard, or_guard]
section
variable {d : Cd} {s : St} {ow de la ow' de' la' : Value} (hs : CdIn d s ow de la) (hs' : CdIn d s ow' de' la')
include hs hs'
theorem sameC_b0 (hl : d.decided.length < 140737488355328) : ∀ (rest : List De) (i : Nat), d.decided.drop i = rest → i ≤ d.decided.length →
    loopL (ref19_SameCoord.b0 (run Tryz.prog (libL libT) hints)) [lptr, lptr, de, .int .i64 ((d.decided.length : Nat) : Int), .int .i64 (i : Int), .agg (cdCells d ow de la).toArray, .agg (cdCells d ow' de' la').toArray] s = some (.exit 0, [lptr, lptr, .agg (cdCells d ow de la).toArray, .agg (cdCells d ow' de' la').toArray], s) := by
  have p5 : afieldAddr 5 lptr = some (.pointer (some ⟨0, 5, none⟩)) := rfl
  have j5 : lload false 1 (.pointer (some ⟨0, 5, none⟩)) (.agg (cdCells d ow' de' la').toArray) = some de' := rfl
  generalize (Value.agg (cdCells d ow de la).toArray) = u at *
  generalize (Value.agg (cdCells d ow' de' la').toArray) = u' at *
  intro rest
  induction rest with
  | nil =>
    intro i h1 hle
    have := List.drop_eq_nil_iff.1 h1
    have hd : decide ((i : Int) < ((d.decided.length : Nat) : Int)) = false := by simp; omega
    rw [loopL_eq]
    simp only [ref19_SameCoord.b0, hd, n_bind, n_map, getL_0, getL_1, getL_2, getL_3, getL_4, getL_5, getL_6, getL_7, getL_8, getL_9, getL_10, getL_11, getL_12, condV_t, condV_f, guardV_tt, guardV_ff, guardV_tf, guardV_ft, guardV_u, apick_t, apick_f, exV_exit, exV_ret, lookE_same, joinK_eq, seqA_n, seqA_e, seqA_r, e_add, e_sub, e_mul, e_eql, e_neq, e_lss, e_leq, e_gtr, e_geq, e_conv, e_not, e_neg, and_guard, or_guard]
  | cons o rest ih =>
    intro i h1 hle
    obtain ⟨hi, he0, hd⟩ := drop_lt h1
    have hdc : decide ((i : Int) < ((d.decided.length : Nat) : Int)) = true := by simp; omega
    obtain ⟨b, cs, a1, a2, a3, a4, a5, a6⟩ := listN_cell hs.de hi (n := 5) rfl
    obtain ⟨b', cs', b1, b2, b3, b4, b5, b6⟩ := listN_cell hs'.de hi (n := 5) rfl
    obtain ⟨p, rfl, hp, _⟩ := de_inv a2
    obtain ⟨q, rfl, hq, _⟩ := de_inv b2
    have b2' := hq
    generalize d.decided[i] = e at *
    have st : ∀ z : Value, isLeaf z = true → lstore 5 lptr (.agg [.int .u64 e.1, .int .i64 e.2.1, .int .u64 e.2.2.1, .int .u64 e.2.2.2.1, z].toArray) (.agg #[(.int .u64 0), (.int .i64 0), (.int .u64 0), (.int .u64 0), (.slice none 0 0)]) = some (.agg [.int .u64 e.1, .int .i64 e.2.1, .int .u64 e.2.2.1, .int .u64 e.2.2.2.1, z].toArray) := fun z hz => arr_put (cs := [(.int .u64 0), (.int .i64 0), (.int .u64 0), (.int .u64 0), (.slice none 0 0)]) rfl rfl (by simp only [List.all_cons, hz, List.all_nil]; rfl)
    have st1 := st p (listN_leafR hp)
    have st2 := st q (listN_leafR hq)
    have ld : ∀ z : Value, lload false 1 lptr (.agg [.int .u64 e.1, .int .i64 e.2.1, .int .u64 e.2.2.1, .int .u64 e.2.2.2.1, z].toArray) = some (.int .u64 e.1) ∧ lload false 1 (.pointer (some ⟨0, 1, none⟩)) (.agg [.int .u64 e.1, .int .i64 e.2.1, .int .u64 e.2.2.1, .int .u64 e.2.2.2.1, z].toArray) = some (.int .i64 e.2.1) ∧ lload false 1 (.pointer (some ⟨0, 2, none⟩)) (.agg [.int .u64 e.1, .int .i64 e.2.1, .int .u64 e.2.2.1, .int .u64 e.2.2.2.1, z].toArray) = some (.int .u64 e.2.2.1) ∧ lload false 1 (.pointer (some ⟨0, 3, none⟩)) (.agg [.int .u64 e.1, .int .i64 e.2.1, .int .u64 e.2.2.1, .int .u64 e.2.2.2.1, z].toArray) = some (.int .u64 e.2.2.2.1) ∧ lload false 1 (.pointer (some ⟨0, 4, none⟩)) (.agg [.int .u64 e.1, .int .i64 e.2.1, .int .u64 e.2.2.1, .int .u64 e.2.2.2.1, z].toArray) = some z := fun z => ⟨rfl, rfl, rfl, rfl, rfl⟩
    obtain ⟨l0, l1, l2, l3, l4⟩ := ld p
    obtain ⟨k0, k1, k2, k3, k4⟩ := ld q
    generalize (Value.agg [.int .u64 e.1, .int .i64 e.2.1, .int .u64 e.2.2.1, .int .u64 e.2.2.2.1, p].toArray) = X at *
    generalize (Value.agg [.int .u64 e.1, .int .i64 e.2.1, .int .u64 e.2.2.1, .int .u64 e.2.2.2.1, q].toArray) = Y at *
    have L : loopL (ref19_SameCoord.b1 (run Tryz.prog (libL libT) hints)) [lptr, lptr, lptr, lptr, de, .int .i64 ((d.decided.length : Nat) : Int), .int .i64 (i : Int), .int .i64 ((e.2.2.2.2.length : Nat) : Int), .int .i64 0, u, u', X, Y] s = some (.exit 2, [lptr, lptr, de, .int .i64 ((d.decided.length : Nat) : Int), .int .i64 (i : Int), u, u'], s) := sameC_b1 hp hq l4 k4 (listN_short hp (by decide)) _ 0 rfl (Nat.zero_le _)
    rw [loopL_eq, ← ih (i + 1) hd hi]
    simp only [ref19_SameCoord.b0, hdc, a1, a4, st1, p5, j5, b1, b4, st2, l0, l1, l2, l3, l4, k0, k1, k2, k3, k4, bne_self_eq_false, listN_lenR hp, listN_lenR hq, L, inc_i64 (show i < 140737488355328 by omega), n_bind, n_map, getL_0, getL_1, getL_2, getL_3, getL_4, getL_5, getL_6, getL_7, getL_8, getL_9, getL_10, getL_11, getL_12, condV_t, condV_f, guardV_tt, guardV_ff, guardV_tf, guardV_ft, guardV_u, apick_t, apick_f, exV_exit, exV_ret, lookE_same, joinK_eq, seqA_n, seqA_e, seqA_r, e_add, e_sub, e_mul, e_eql, e_neq, e_lss, e_leq, e_gtr, e_geq, e_conv, e_not, e_neg, and_guard, or_guard]
theorem sameC_b2 (hl : d.last.length < 140737488355328) : ∀ (rest : List La) (i : Nat), d.last.drop i = rest → i ≤ d.last.length →
    loopL (ref19_SameCoord.b2 (run Tryz.prog (libL libT) hints)) [lptr, la, .int .i64 ((d.last.length : Nat) : Int), .int .i64 (i : Int), .agg (cdCells d ow' de' la').toArray] s = some (.exit 4, [], s) := by
  have p6 : afieldAddr 6 lptr = some (.pointer (some ⟨0, 6, none⟩)) := rfl
  have j6 : lload false 1 (.pointer (some ⟨0, 6, none⟩)) (.agg (cdCells d ow' de' la').toArray) = some la' := rfl
  generalize (Value.agg (cdCells d ow' de' la').toArray) = u' at *
  intro rest
  induction rest with
  | nil =>
    intro i h1 hle
    have := List.drop_eq_nil_iff.1 h1
    have hd : decide ((i : Int) < ((d.last.length : Nat) : Int)) = false := by simp; omega
    rw [loopL_eq]
    simp only [ref19_SameCoord.b2, hd, n_bind, n_map, getL_0, getL_1, getL_2, getL_3, getL_4, getL_5, getL_6, getL_7, getL_8, getL_9, getL_10, getL_11, getL_12, condV_t, condV_f, guardV_tt, guardV_ff, guardV_tf, guardV_ft, guardV_u, apick_t, apick_f, exV_exit, exV_ret, lookE_same, joinK_eq, seqA_n, seqA_e, seqA_r, e_add, e_sub, e_mul, e_eql, e_neq, e_lss, e_leq, e_gtr, e_geq, e_conv, e_not, e_neg, and_guard, or_guard]
  | cons o rest ih =>
    intro i h1 hle
    obtain ⟨hi, he0, hd⟩ := drop_lt h1
    have hdc : decide ((i : Int) < ((d.last.length : Nat) : Int)) = true := by simp; omega
    obtain ⟨b, cs, a1, a2, a3, a4, a5, a6⟩ := listN_cell hs.la hi (n := 4) rfl
    obtain ⟨b', cs', b1, b2, b3, b4, b5, b6⟩ := listN_cell hs'.la hi (n := 4) rfl
    obtain ⟨p, rfl, hp, _⟩ := la_inv a2
    obtain ⟨q, rfl, hq, _⟩ := la_inv b2
    have b2' := hq
    generalize d.last[i] = e at *
    have st : ∀ z : Value, isLeaf z = true → lstore 4 lptr (.agg [.int .i64 e.1, .int .u64 e.2.1, .int .u64 e.2.2.1, z].toArray) (.agg #[(.int .i64 0), (.int .u64 0), (.int .u64 0), (.slice none 0 0)]) = some (.agg [.int .i64 e.1, .int .u64 e.2.1, .int .u64 e.2.2.1, z].toArray) := fun z hz => arr_put (cs := [(.int .i64 0), (.int .u64 0), (.int .u64 0), (.slice none 0 0)]) rfl rfl (by simp only [List.all_cons, hz, List.all_nil]; rfl)
    have st1 := st p (listN_leafR hp)
    have st2 := st q (listN_leafR hq)
    have ld : ∀ z : Value, lload false 1 lptr (.agg [.int .i64 e.1, .int .u64 e.2.1, .int .u64 e.2.2.1, z].toArray) = some (.int .i64 e.1) ∧ lload false 1 (.pointer (some ⟨0, 1, none⟩)) (.agg [.int .i64 e.1, .int .u64 e.2.1, .int .u64 e.2.2.1, z].toArray) = some (.int .u64 e.2.1) ∧ lload false 1 (.pointer (some ⟨0, 2, none⟩)) (.agg [.int .i64 e.1, .int .u64 e.2.1, .int .u64 e.2.2.1, z].toArray) = some (.int .u64 e.2.2.1) ∧ lload false 1 (.pointer (some ⟨0, 3, none⟩)) (.agg [.int .i64 e.1, .int .u64 e.2.1, .int .u64 e.2.2.1, z].toArray) = some z := fun z => ⟨rfl, rfl, rfl, rfl⟩
    obtain ⟨l0, l1, l2, l3⟩ := ld p
    obtain ⟨k0, k1, k2, k3⟩ := ld q
    generalize (Value.agg [.int .i64 e.1, .int .u64 e.2.1, .int .u64 e.2.2.1, p].toArray) = X at *
    generalize (Value.agg [.int .i64 e.1, .int .u64 e.2.1, .int .u64 e.2.2.1, q].toArray) = Y at *
    have hm := sameRs_run hp hq
    rw [loopL_eq, ← ih (i + 1) hd hi]
    simp only [ref19_SameCoord.b2, hdc, a1, a4, st1, p6, j6, b1, b4, st2, l0, l1, l2, l3, k0, k1, k2, k3, bne_self_eq_false, ref04_SameResults_call, hm, Bool.not_true, inc_i64 (show i < 140737488355328 by omega), n_bind, n_map, getL_0, getL_1, getL_2, getL_3, getL_4, getL_5, getL_6, getL_7, getL_8, getL_9, getL_10, getL_11, getL_12, condV_t, condV_f, guardV_tt, guardV_ff, guardV_tf, guardV_ft, guardV_u, apick_t, apick_f, exV_exit, exV_ret, lookE_same, joinK_eq, seqA_n, seqA_e, seqA_r, e_add, e_sub, e_mul, e_eql, e_neq, e_lss, e_leq, e_gtr, e_geq, e_conv, e_not, e_neg, and_guard, or_guard]
end
theorem SameCoord_run {d : Cd} {s : St} {v w : Value} (h : NArg cdN d s v) (g : NArg cdN d s w) : (run Tryz.prog (libL libT) hints) 18 [v, w] s = some (.bool true, s) := by
  obtain ⟨cs, rfl, hr⟩ := h
  obtain ⟨ow, de, la, rfl, hs⟩ := cd_inv hr
  obtain ⟨cs', rfl, gr⟩ := g
  obtain ⟨ow', de', la', rfl, hs'⟩ := cd_inv gr
  have hbx := lbox_cs (cd_leaf hs)
  have gbx := lbox_cs (cd_leaf hs')
  have L0 : loopL (ref19_SameCoord.b0 (run Tryz.prog (libL libT) hints)) [lptr, lptr, de, .int .i64 ((d.decided.length : Nat) : Int), .int .i64 0, .agg (cdCells d ow de la).toArray, .agg (cdCells d ow' de' la').toArray] s = some (.exit 0, [lptr, lptr, .agg (cdCells d ow de la).toArray, .agg (cdCells d ow' de' la').toArray], s) := sameC_b0 hs hs' (listN_short hs.de (by decide)) d.decided 0 rfl (Nat.zero_le _)
  have L1 : loopL (ref19_SameCoord.b2 (run Tryz.prog (libL libT) hints)) [lptr, la, .int .i64 ((d.last.length : Nat) : Int), .int .i64 0, .agg (cdCells d ow' de' la').toArray] s = some (.exit 4, [], s) := sameC_b2 hs hs' (listN_short hs.la (by decide)) d.last 0 rfl (Nat.zero_le _)
  have hO := sameOw_run hs.ow hs'.ow
  have p6 : afieldAddr 6 lptr = some (.pointer (some ⟨0, 6, none⟩)) := rfl
  have ld : ∀ ow de la, lload false 1 lptr (.agg (cdCells d ow de la).toArray) = some (.int .i64 d.shards) ∧ lload false 1 (.pointer (some ⟨0, 1, none⟩)) (.agg (cdCells d ow de la).toArray) = some (.int .u64 d.boot) ∧ lload false 1 (.pointer (some ⟨0, 2, none⟩)) (.agg (cdCells d ow de la).toArray) = some (.int .u64 d.ver) ∧ lload false 1 (.pointer (some ⟨0, 3, none⟩)) (.agg (cdCells d ow de la).toArray) = some (.int .u64 d.epoch) ∧ lload false 1 (.pointer (some ⟨0, 4, none⟩)) (.agg (cdCells d ow de la).toArray) = some ow ∧ lload false 1 (.pointer (some ⟨0, 5, none⟩)) (.agg (cdCells d ow de la).toArray) = some de ∧ lload false 1 (.pointer (some ⟨0, 6, none⟩)) (.agg (cdCells d ow de la).toArray) = some la := fun ow de la => ⟨rfl, rfl, rfl, rfl, rfl, rfl, rfl⟩
  obtain ⟨l0, l1, l2, l3, l4, l5, l6⟩ := ld ow de la
  obtain ⟨k0, k1, k2, k3, k4, k5, k6⟩ := ld ow' de' la'
  generalize (Value.agg (cdCells d ow de la).toArray) = u at *
  generalize (Value.agg (cdCells d ow' de' la').toArray) = u' at *
  have hrt : retV [.bool true] s = some (.bool true, s) := ret1 rfl
  refine ref19_SameCoord_of rfl ?_
  unfold ref19_SameCoord
  simp only [hbx, gbx, l0, l1, l2, l3, l4, l5, l6, k0, k1, k2, k3, k4, k5, k6, bne_self_eq_false, ref17_Same_call, hO, Bool.not_true, listN_lenR hs.de, listN_lenR hs'.de, listN_lenR hs.la, listN_lenR hs'.la, L0, L1, p6, hrt, n_bind, n_map, getL_0, getL_1, getL_2, getL_3, getL_4, getL_5, getL_6, getL_7, getL_8, getL_9, getL_10, getL_11, getL_12, condV_t, condV_f, guardV_tt, guardV_ff, guardV_tf, guardV_ft, guardV_u, apick_t, apick_f, exV_exit, exV_ret, lookE_same, joinK_eq, seqA_n, seqA_e, seqA_r, e_add, e_sub, e_mul, e_eql, e_neq, e_lss, e_leq, e_gtr, e_geq, e_conv, e_not, e_neg, and_guard, or_guard]

end Go.Proofs.YtckpcelchhmjcaaGreat.Ab

/- There and back, both ways. -/
namespace Go.Proofs.YtckpcelchhmjcaaGreat.Ab
open Go

theorem dshard_ok {b : BL} {v : Value} {s : St} {d : Sd} (hv : bytesOf v s = some b) (hl : b.length ≤ 140737488355328) (he : decSd b = .ok d) : ∃ (cs : List Value) (t : St), (run Tryz.prog (libL libT) hints) 15 [v] s = some (.tuple #[.agg cs.toArray, .int .i64 0], t) ∧ Ext s.heap.length s t ∧ cs.length = 17 ∧ cs.all isLeaf = true ∧ NArg sdN d t (.agg cs.toArray) := by
  obtain ⟨u, e', t, h1, h2, h3⟩ := DecodeShard_run hv hl
  rcases h3 with ⟨_, h4, rfl⟩ | ⟨rfl, a, cs, h4, rfl, ho⟩
  · rw [he] at h4
    cases h4
  · rw [he] at h4
    cases h4
    have hr : sdN.rel d t cs := oSd.rel ho
    exact ⟨cs, t, h1, h2, sdN.len hr, oSd.leaf ho, cs, rfl, hr⟩
theorem dcoord_ok {b : BL} {v : Value} {s : St} {d : Cd} (hv : bytesOf v s = some b) (hl : b.length ≤ 140737488355328) (he : decCd b = .ok d) : ∃ (cs : List Value) (t : St), (run Tryz.prog (libL libT) hints) 17 [v] s = some (.tuple #[.agg cs.toArray, .int .i64 0], t) ∧ Ext s.heap.length s t ∧ cs.length = 7 ∧ cs.all isLeaf = true ∧ NArg cdN d t (.agg cs.toArray) := by
  obtain ⟨u, e', t, h1, h2, h3⟩ := DecodeCoord_run hv hl
  rcases h3 with ⟨_, h4, rfl⟩ | ⟨rfl, a, cs, h4, rfl, ho⟩
  · rw [he] at h4
    cases h4
  · rw [he] at h4
    cases h4
    have hr : cdN.rel d t cs := oCd.rel ho
    exact ⟨cs, t, h1, h2, cdN.len hr, oCd.leaf ho, cs, rfl, hr⟩
theorem sst_sd {cs : List Value} (h : cs.length = 17) (g : cs.all isLeaf = true) : lstore 17 lptr (.agg cs.toArray) (.agg #[(.int .i64 0), (.int .u64 0), (.int .u64 0), (.int .u64 0), (.int .u64 0), (.slice none 0 0), (.slice none 0 0), (.slice none 0 0), (.int .u64 0), (.int .u64 0), (.string ⟨#[]⟩), (.string ⟨#[]⟩), (.int .u64 0), (.int .u64 0), (.int .u64 0), (.string ⟨#[]⟩), (.string ⟨#[]⟩)]) = some (.agg cs.toArray) := arr_put (cs := zSd) rfl h g
theorem sst_cd {cs : List Value} (h : cs.length = 7) (g : cs.all isLeaf = true) : lstore 7 lptr (.agg cs.toArray) (.agg #[(.int .i64 0), (.int .u64 0), (.int .u64 0), (.int .u64 0), (.slice none 0 0), (.slice none 0 0), (.slice none 0 0)]) = some (.agg cs.toArray) := arr_put (cs := zCd) rfl h g
theorem ntup (a : Array Value) : noTup (.agg a) = true := rfl
theorem err_ne {b : BL} {e : Int} {v : Value} {s : St} (hv : bytesOf v s = some b) (hl : b.length ≤ 140737488355328) (he : decSd b = .error e) : e ≠ 0 := by
  obtain ⟨u, e', t, h1, h2, h3⟩ := DecodeShard_run hv hl
  rcases h3 with ⟨h5, h4, rfl⟩ | ⟨rfl, a, cs, h4, rfl, ho⟩
  · rw [he] at h4
    injection h4 with h4
    rw [h4]
    exact h5
  · rw [he] at h4
    cases h4
theorem err_neC {b : BL} {e : Int} {v : Value} {s : St} (hv : bytesOf v s = some b) (hl : b.length ≤ 140737488355328) (he : decCd b = .error e) : e ≠ 0 := by
  obtain ⟨u, e', t, h1, h2, h3⟩ := DecodeCoord_run hv hl
  rcases h3 with ⟨h5, h4, rfl⟩ | ⟨rfl, a, cs, h4, rfl, ho⟩
  · rw [he] at h4
    injection h4 with h4
    rw [h4]
    exact h5
  · rw [he] at h4
    cases h4
theorem seq_same (o1 o2 : Operand) (b : BL) : abin Tryz.prog .eql 9 o1 o2 (.string ⟨b.toArray⟩) (.string ⟨b.toArray⟩) = some (.bool true) := by
  have := e_seql (P := Tryz.prog) (t := 9) (ox := o1) (oy := o2) (a := b) (b := b)
  rw [show (b == b) = true by simp] at this
  exact this
theorem back_j0 {x : Value} {b : BL} {s : St} (hb : bytesOf x s = some b) (hl : b.length ≤ 100000) : ∃ t, law19_RecordBack.j0 (run Tryz.prog (libL libT) hints) [x, .bool true] s = some (.bool true, t) := by
  have hr : ∀ s, retV [.bool true] s = some (.bool true, s) := fun s => ret1 rfl
  have z0 : ((0 : Int) == 0) = true := rfl
  cases hd : decSd b with
  | ok d =>
    obtain ⟨g1, g2, g3, e, g4, g5⟩ := decSd_enc hd
    obtain ⟨cs, t1, a1, x1, c1, c2, c3⟩ := dshard_ok hb (by omega) hd
    obtain ⟨t2, a2, x2⟩ := dcoord_err (x1.bytes hb) (by omega) g5
    have n2 := c3.ext x2
    obtain ⟨y, t3, a3, o3, x3⟩ := encS n2
    rw [g2] at a3
    rw [if_pos g2, g1] at o3
    have q1 := bytes_str o3.bytes
    have q2 := bytes_str (x3.bytes (x2.bytes (x1.bytes hb)))
    have hld : lload true 17 lptr (.agg cs.toArray) = some (.agg cs.toArray) := arr_all c1
    have hne : (e != 0) = true := by simp [g4]
    refine ⟨t3, ?_⟩
    unfold law19_RecordBack.j0
    simp only [record_DecodeShard_call, a1, record_DecodeCoord_call, a2, y2_0 (ntup _), y2_1, sst_sd c1 c2, zst_cd, z0, hld, record_EncodeShard_call, a3, y2_0 o3.notup, q1, q2, seq_same, hne, hr, n_bind, n_map, getL_0, getL_1, getL_2, getL_3, getL_4, getL_5, getL_6, getL_7, getL_8, getL_9, getL_10, getL_11, getL_12, condV_t, condV_f, guardV_tt, guardV_ff, guardV_tf, guardV_ft, guardV_u, apick_t, apick_f, exV_exit, exV_ret, lookE_same, joinK_eq, seqA_n, seqA_e, seqA_r, e_add, e_sub, e_mul, e_eql, e_neq, e_lss, e_leq, e_gtr, e_geq, e_conv, e_not, e_neg, and_guard, or_guard]
  | error e =>
    have he := err_ne hb (by omega) hd
    obtain ⟨t1, a1, x1⟩ := dshard_err hb (by omega) hd
    have he0 : (e == 0) = false := by simp [he]
    cases hc : decCd b with
    | ok d =>
      obtain ⟨g1, g2, g3⟩ := decCd_enc hc
      obtain ⟨cs, t2, a2, x2, c1, c2, c3⟩ := dcoord_ok (x1.bytes hb) (by omega) hc
      obtain ⟨y, t3, a3, o3, x3⟩ := encC c3
      rw [g2] at a3
      rw [if_pos g2, g1] at o3
      have q1 := bytes_str o3.bytes
      have q2 := bytes_str (x3.bytes (x2.bytes (x1.bytes hb)))
      have hld : lload true 7 lptr (.agg cs.toArray) = some (.agg cs.toArray) := arr_all c1
      refine ⟨t3, ?_⟩
      unfold law19_RecordBack.j0
      simp only [record_DecodeShard_call, a1, record_DecodeCoord_call, a2, y2_0 (ntup _), y2_1, sst_cd c1 c2, zst_sd, z0, he0, hld, record_EncodeCoord_call, a3, y2_0 o3.notup, q1, q2, seq_same, hr, n_bind, n_map, getL_0, getL_1, getL_2, getL_3, getL_4, getL_5, getL_6, getL_7, getL_8, getL_9, getL_10, getL_11, getL_12, condV_t, condV_f, guardV_tt, guardV_ff, guardV_tf, guardV_ft, guardV_u, apick_t, apick_f, exV_exit, exV_ret, lookE_same, joinK_eq, seqA_n, seqA_e, seqA_r, e_add, e_sub, e_mul, e_eql, e_neq, e_lss, e_leq, e_gtr, e_geq, e_conv, e_not, e_neg, and_guard, or_guard]
    | error e2 =>
      have he2 := err_neC (x1.bytes hb) (by omega) hc
      obtain ⟨t2, a2, x2⟩ := dcoord_err (x1.bytes hb) (by omega) hc
      have he3 : (e2 == 0) = false := by simp [he2]
      refine ⟨t2, ?_⟩
      unfold law19_RecordBack.j0
      simp only [record_DecodeShard_call, a1, record_DecodeCoord_call, a2, y2_0 (ntup _), y2_1, zst_cd, zst_sd, he0, he3, hr, n_bind, n_map, getL_0, getL_1, getL_2, getL_3, getL_4, getL_5, getL_6, getL_7, getL_8, getL_9, getL_10, getL_11, getL_12, condV_t, condV_f, guardV_tt, guardV_ff, guardV_tf, guardV_ft, guardV_u, apick_t, apick_f, exV_exit, exV_ret, lookE_same, joinK_eq, seqA_n, seqA_e, seqA_r, e_add, e_sub, e_mul, e_eql, e_neq, e_lss, e_leq, e_gtr, e_geq, e_conv, e_not, e_neg, and_guard, or_guard]
theorem back_j1 {x v1 : Value} {b : BL} {s : St} {c : Cd} (hb : bytesOf x s = some b) (hl : b.length ≤ 100000) (h1 : NArg cdN c s v1) : ∃ t, law19_RecordBack.j1 (run Tryz.prog (libL libT) hints) [x, lptr, .bool true, v1] s = some (.bool true, t) := by
  have hl1 : lload true 7 lptr v1 = some v1 := by
    obtain ⟨cs, rfl, hr⟩ := h1
    exact arr_all (cdN.len hr)
  obtain ⟨y, t1, a1, o1, x1⟩ := encC h1
  have n1 := h1.ext x1
  obtain ⟨t2, a2, x2⟩ := CheckCoord_run n1
  have n2 := n1.ext x2
  by_cases hz : eCd c = 0
  · rw [if_pos hz] at o1
    rw [hz] at a1 a2
    obtain ⟨b1, _, _, b4, b5⟩ := cd_back hz (cd_w h1)
    have hy := x2.bytes o1.bytes
    obtain ⟨cs, t3, a3, x3, c1, c2, c3⟩ := dcoord_ok hy (by omega) b1
    have n3 := n2.ext x3
    have hS := SameCoord_run n3 c3
    have hld : lload true 7 lptr (.agg cs.toArray) = some (.agg cs.toArray) := arr_all c1
    have z0 : ((0 : Int) == 0) = true := rfl
    have z1 : ((0 : Int) != 0) = false := rfl
    have hlen : decide ((((encCd c).length : Nat) : Int) > 8192) = false := by simp; omega
    obtain ⟨t4, g4⟩ := back_j0 (x3.bytes (x2.bytes (x1.bytes hb))) hl
    have hx := x3.bytes hy
    refine ⟨t4, ?_⟩
    unfold law19_RecordBack.j1
    simp only [hl1, record_EncodeCoord_call, a1, y2_0 o1.notup, y2_1, record_CheckCoord_call, a2, z0, record_DecodeCoord_call, a3, y2_0 (ntup _), sst_cd c1 c2, z1, hld, ref19_SameCoord_call, hS, Bool.not_true, bytes_len hx, hlen, joinK_eq, g4, n_bind, n_map, getL_0, getL_1, getL_2, getL_3, getL_4, getL_5, getL_6, getL_7, getL_8, getL_9, getL_10, getL_11, getL_12, condV_t, condV_f, guardV_tt, guardV_ff, guardV_tf, guardV_ft, guardV_u, apick_t, apick_f, exV_exit, exV_ret, lookE_same, joinK_eq, seqA_n, seqA_e, seqA_r, e_add, e_sub, e_mul, e_eql, e_neq, e_lss, e_leq, e_gtr, e_geq, e_conv, e_not, e_neg, and_guard, or_guard]
  · have z0 : (eCd c == 0) = false := by simp [hz]
    obtain ⟨t4, g4⟩ := back_j0 (x2.bytes (x1.bytes hb)) hl
    refine ⟨t4, ?_⟩
    unfold law19_RecordBack.j1
    simp only [hl1, record_EncodeCoord_call, a1, y2_0 o1.notup, y2_1, record_CheckCoord_call, a2, z0, joinK_eq, g4, n_bind, n_map, getL_0, getL_1, getL_2, getL_3, getL_4, getL_5, getL_6, getL_7, getL_8, getL_9, getL_10, getL_11, getL_12, condV_t, condV_f, guardV_tt, guardV_ff, guardV_tf, guardV_ft, guardV_u, apick_t, apick_f, exV_exit, exV_ret, lookE_same, joinK_eq, seqA_n, seqA_e, seqA_r, e_add, e_sub, e_mul, e_eql, e_neq, e_lss, e_leq, e_gtr, e_geq, e_conv, e_not, e_neg, and_guard, or_guard]
theorem RecordBack_law (s : St) (d : Sd) (v : Value) (h : NArg sdN d s v) (c0 : Cd) (v1 : Value) (h1 : NArg cdN c0 s v1) (x : Value) (b : BL) (hb : bytesOf x s = some b) (hl : b.length ≤ 140737488351232) : ∃ s', (run Tryz.prog (libL libT) hints) 4 [v, v1, x] s = some (.bool true, s') := by
  have hb0 : lbox v = some v := by
    obtain ⟨cs, rfl, hr⟩ := h
    obtain ⟨ow, he, fi, rfl, hs⟩ := sd_inv hr
    exact lbox_cs (sd_leaf hs)
  have hb1 : lbox v1 = some v1 := by
    obtain ⟨cs, rfl, hr⟩ := h1
    obtain ⟨ow, he, fi, rfl, hs⟩ := cd_inv hr
    exact lbox_cs (cd_leaf hs)
  have hl0 : lload true 17 lptr v = some v := by
    obtain ⟨cs, rfl, hr⟩ := h
    exact arr_all (sdN.len hr)
  by_cases hbig : 100000 < b.length
  · have e1 : decide (((b.length : Nat) : Int) > 100000) = true := by simp; omega
    have hr : ∀ s, retV [.bool true] s = some (.bool true, s) := fun s => ret1 rfl
    refine ⟨s, law19_RecordBack_of rfl ?_⟩
    unfold law19_RecordBack
    simp only [hb0, hb1, law19_live_call, k_live, bytes_len hb, e1, hr, n_bind, n_map, getL_0, getL_1, getL_2, getL_3, getL_4, getL_5, getL_6, getL_7, getL_8, getL_9, getL_10, getL_11, getL_12, condV_t, condV_f, guardV_tt, guardV_ff, guardV_tf, guardV_ft, guardV_u, apick_t, apick_f, exV_exit, exV_ret, lookE_same, joinK_eq, seqA_n, seqA_e, seqA_r, e_add, e_sub, e_mul, e_eql, e_neq, e_lss, e_leq, e_gtr, e_geq, e_conv, e_not, e_neg, and_guard, or_guard]
  · have e1 : decide (((b.length : Nat) : Int) > 100000) = false := by simp; omega
    have hls : b.length ≤ 100000 := by omega
    obtain ⟨y, t1, a1, o1, x1⟩ := encS h
    have n1 := h.ext x1
    obtain ⟨t2, a2, x2⟩ := CheckShard_run n1
    have n2 := n1.ext x2
    by_cases hz : eSd d = 0
    · rw [if_pos hz] at o1
      rw [hz] at a1 a2
      obtain ⟨b1, _, _, b4, b5⟩ := sd_back hz (sd_w h)
      have hy := x2.bytes o1.bytes
      obtain ⟨cs, t3, a3, x3, c1, c2, c3⟩ := dshard_ok hy (by omega) b1
      have n3 := n2.ext x3
      have hS := SameShard_run n3 c3
      have hld : lload true 17 lptr (.agg cs.toArray) = some (.agg cs.toArray) := arr_all c1
      have z0 : ((0 : Int) == 0) = true := rfl
      have z1 : ((0 : Int) != 0) = false := rfl
      have hlen : decide ((((encSd d).length : Nat) : Int) > 8192) = false := by simp; omega
      obtain ⟨t4, g4⟩ := back_j1 (x3.bytes (x2.bytes (x1.bytes hb))) hls (((h1.ext x1).ext x2).ext x3)
      have hx := x3.bytes hy
      refine ⟨t4, law19_RecordBack_of rfl ?_⟩
      unfold law19_RecordBack
      simp only [hb0, hb1, law19_live_call, k_live, bytes_len hb, e1, hl0, record_EncodeShard_call, a1, y2_0 o1.notup, y2_1, record_CheckShard_call, a2, z0, record_DecodeShard_call, a3, y2_0 (ntup _), sst_sd c1 c2, z1, hld, ref19_SameShard_call, hS, Bool.not_true, bytes_len hx, hlen, joinK_eq, g4, n_bind, n_map, getL_0, getL_1, getL_2, getL_3, getL_4, getL_5, getL_6, getL_7, getL_8, getL_9, getL_10, getL_11, getL_12, condV_t, condV_f, guardV_tt, guardV_ff, guardV_tf, guardV_ft, guardV_u, apick_t, apick_f, exV_exit, exV_ret, lookE_same, joinK_eq, seqA_n, seqA_e, seqA_r, e_add, e_sub, e_mul, e_eql, e_neq, e_lss, e_leq, e_gtr, e_geq, e_conv, e_not, e_neg, and_guard, or_guard]
    · have z0 : (eSd d == 0) = false := by simp [hz]
      obtain ⟨t4, g4⟩ := back_j1 (x2.bytes (x1.bytes hb)) hls ((h1.ext x1).ext x2)
      refine ⟨t4, law19_RecordBack_of rfl ?_⟩
      unfold law19_RecordBack
      simp only [hb0, hb1, law19_live_call, k_live, bytes_len hb, e1, hl0, record_EncodeShard_call, a1, y2_0 o1.notup, y2_1, record_CheckShard_call, a2, z0, joinK_eq, g4, n_bind, n_map, getL_0, getL_1, getL_2, getL_3, getL_4, getL_5, getL_6, getL_7, getL_8, getL_9, getL_10, getL_11, getL_12, condV_t, condV_f, guardV_tt, guardV_ff, guardV_tf, guardV_ft, guardV_u, apick_t, apick_f, exV_exit, exV_ret, lookE_same, joinK_eq, seqA_n, seqA_e, seqA_r, e_add, e_sub, e_mul, e_eql, e_neq, e_lss, e_leq, e_gtr, e_geq, e_conv, e_not, e_neg, and_guard, or_guard]

end Go.Proofs.YtckpcelchhmjcaaGreat.Ab

/- A law's arguments in memory, as the abstract machine has them: bytes. -/
namespace Go.Proofs.YtckpcelchhmjcaaGreat.Ab
open Go

theorem bytes_of_ints : ∀ {l : List Int}, (∀ n ∈ l, (Lit.int .u8 n).wf = true) → ∃ u : List UInt8, ints .u8 l = bv u ∧ u.length = l.length
  | [], _ => ⟨[], rfl, rfl⟩
  | n :: l, h => by
    obtain ⟨u, h1, h2⟩ := bytes_of_ints (l := l) fun m hm => h m (List.mem_cons_of_mem _ hm)
    have hw := h n (List.mem_cons_self ..)
    simp only [Lit.wf, Bool.and_eq_true, decide_eq_true_eq] at hw
    have hlo : (0 : Int) ≤ n := hw.1
    have hhi : n ≤ 255 := hw.2
    obtain ⟨m, rfl⟩ := Int.eq_ofNat_of_zero_le hlo
    refine ⟨UInt8.ofNat m :: u, ?_, by simp [h2]⟩
    have e : (UInt8.ofNat m).toNat = m := by
      rw [UInt8.toNat_ofNat']
      exact Nat.mod_eq_of_lt (by omega)
    have h1' : List.map (Value.int IntKind.u8) l = bv u := h1
    show Value.int IntKind.u8 (m : Int) :: List.map (Value.int IntKind.u8) l = Value.int .u8 (((UInt8.ofNat m).toNat : Nat) : Int) :: bv u
    rw [h1', e]

theorem arg_bytes {H : List Blk} {a : Option Addr} {len : Nat} {u : List UInt8} (hl : u.length = len) (hn : a = none → u = []) : bytesOf (sliceArg H.length a len) ⟨H ++ [Blk.row 0 (bv u) .ro]⟩ = some u := by
  cases a with
  | none => rw [hn rfl]; rfl
  | some x =>
    subst hl
    unfold bytesOf sliceArg
    simp only [cellsOf, Nat.le_refl, if_true, readN, Ab.readRow, List.getElem?_append_right (Nat.le_refl _), Nat.sub_self, List.getElem?_cons_zero, Option.bind_some, Nat.mul_one, Nat.zero_add, bv_length]
    rw [List.drop_zero, ← bv_length, List.take_length]
    exact ubs_bv u

theorem sim_bytes {W : World} {ι : Emb} {H : List Blk} (h : Sim W.heap.size ι H W) (hro : H.all roB = true) {a : Option Addr} {len cap : Nat} {zs : List Int} (hr : IsRow .u8 W a len cap zs) :
    ∃ (u : List UInt8) (B : Blk), u.length = len ∧ bytesOf (sliceArg H.length a len) ⟨H ++ [B]⟩ = some u ∧
    ∃ κ, ι.le κ ∧ Sim W.heap.size κ (H ++ [B]) W ∧ (H ++ [B]).all roB = true ∧ VRel κ (sliceArg H.length a len) (.slice a len cap) := by
  obtain ⟨l, h1, h2, h3, h4⟩ := sim_ints h hro hr
  obtain ⟨u, h5, h6⟩ := bytes_of_ints h2
  rw [h5] at h4
  refine ⟨u, _, h6.trans h1, arg_bytes (h6.trans h1) (fun e => ?_), h4⟩
  have := h3 e
  rw [this] at h6
  exact List.eq_nil_of_length_eq_zero h6

end Go.Proofs.YtckpcelchhmjcaaGreat.Ab

/- A row's slice of whole numbers is no longer than its weight allows. (Began as the words that print.sh lays for rows over slices.) -/
namespace Go.Proofs.YtckpcelchhmjcaaGreat.Ab
open Go Go.ChangeShapes Go.WideShapes
theorem sized_ints {H : Type} {enc : TypeId × Value → H} {P : Program} {W : World} {base : Nat} {spare : Nat → Bool} {held : Bool} {t e : TypeId} {k : IntKind} {a : Option Addr} {len cap : Nat} {d : DataW H} {ps : List MemPlace} {ts : List TypeId} {ds : List (DataW H)} {j : Nat}
    (hsz : (DataW.weightsEach P ts ds).all (· ≤ reachBytes) = true) (ht : ts[j]? = some t) (hd : ds[j]? = some d) (hu : P.underlying t = some (.slice e)) (he : P.underlying e = some (.int k)) (hc : P.cellsOf e = 1) {B : Nat} (hB : P.bytesOf e = B)
    (h : DataW.Trod enc P W base spare held t (.slice a len cap) d ps) : len * B ≤ 140737488351232 := by
  obtain ⟨fuel, hf⟩ := h
  rcases open_ints hu he hc hf with ⟨hcs, _⟩ | ⟨x, l, c, zs, hcs, _, hl, _, hz, hx, _, _⟩
  · simp [Value.cells] at hcs
    obtain ⟨rfl, rfl, rfl⟩ := hcs
    simp
  · simp [Value.cells] at hcs
    obtain ⟨rfl, rfl, rfl⟩ := hcs
    obtain ⟨hx, _⟩ := Prod.mk.inj hx
    subst hx
    have z := sized_slice hsz ht hd hu
    rw [hB] at z
    have hl2 : len ≤ zs.length := by
      rw [hz]
      split
      · exact hl
      · exact Nat.le_refl _
    have h1 : (lits (H := H) k (zs.take len)).length + (lits (H := H) k (zs.drop len)).length = zs.length := by
      simp [lits]
      omega
    rw [h1] at z
    exact Nat.le_trans (Nat.mul_le_mul_right _ hl2) z
end Go.Proofs.YtckpcelchhmjcaaGreat.Ab
