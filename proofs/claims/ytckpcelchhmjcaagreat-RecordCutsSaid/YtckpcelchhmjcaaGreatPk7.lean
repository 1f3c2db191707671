/- Texts of this proof, packed: RcLawC, BArg, BSized. -/
import Derived.Test.YtckpcelchhmjcaaGreatPk6
import Derived.SizedLaws
import Derived.ChangeSlices
set_option linter.unusedVariables false
set_option linter.unusedSimpArgs false
set_option linter.unusedSectionVars false
/- A state's bytes, cut, are none; with a byte more neither. -/
namespace Go.Proofs.YtckpcelchhmjcaaGreat.Ab
open Go

theorem place {a : Int} {n : Nat} (hn : 0 < n) (hn2 : n ≤ 1000000) : ∃ i : Nat, i < n ∧ (IntKind.wrap .i64 (a.tmod (n : Int) + (n : Int))).tmod (n : Int) = (i : Int) := by
  have h1 := Int.tmod_lt_of_pos a (show (0 : Int) < (n : Int) by omega)
  have h2 := Int.lt_tmod_of_pos a (show (0 : Int) < (n : Int) by omega)
  rw [wrap_i64 (by omega) (by omega)]
  generalize a.tmod (n : Int) = r at *
  refine ⟨((r + n) % n).toNat, ?_, ?_⟩
  · have := Int.emod_lt_of_pos (r + n) (show (0 : Int) < (n : Int) by omega)
    have := Int.emod_nonneg (r + n) (show (n : Int) ≠ 0 by omega)
    omega
  · rw [Int.tmod_eq_emod_of_nonneg (by omega)]
    have := Int.emod_nonneg (r + n) (show (n : Int) ≠ 0 by omega)
    omega
theorem wf_u8 {a : Int} (h : (Lit.int .u8 a).wf = true) : ∃ c : UInt8, a = ((c.toNat : Nat) : Int) := by
  simp only [Lit.wf, Bool.and_eq_true, decide_eq_true_eq] at h
  have h1 : (0 : Int) ≤ a := h.1
  have h2 : a ≤ 255 := h.2
  refine ⟨UInt8.ofNat a.toNat, ?_⟩
  rw [ofNat_toNat (by omega)]
  omega
theorem y2_0 {a b : Value} (h : noTup a = true) : aextract 0 (.tuple #[a, b]) = some a := by cases a <;> first | rfl | (cases h; done)
theorem y2_1 {a : Value} {n : Int} : aextract 1 (.tuple #[a, .int .i64 n]) = some (.int .i64 n) := rfl
/-- what is written of a state -/
theorem encS {d : Sd} {s : St} {v : Value} (h : NArg sdN d s v) : ∃ x t, (run Tryz.prog (libL libT) hints) 7 [v] s = some (.tuple #[x, .int .i64 (eSd d)], t) ∧ Own s.heap.length 1 t x (bv (if eSd d = 0 then encSd d else [])) ∧ Ext s.heap.length s t :=
  EncodeShard_run h fun hz => by have := (sd_back hz (sd_w h)).2.2.2.2; omega
theorem encC {d : Cd} {s : St} {v : Value} (h : NArg cdN d s v) : ∃ x t, (run Tryz.prog (libL libT) hints) 9 [v] s = some (.tuple #[x, .int .i64 (eCd d)], t) ∧ Own s.heap.length 1 t x (bv (if eCd d = 0 then encCd d else [])) ∧ Ext s.heap.length s t :=
  EncodeCoord_run h fun hz => by have := (cd_back hz (cd_w h)).2.2.2.2; omega
theorem dshard_err {b : BL} {v : Value} {s : St} {e : Int} (hv : bytesOf v s = some b) (hl : b.length ≤ 140737488355328) (he : decSd b = .error e) : ∃ t, (run Tryz.prog (libL libT) hints) 15 [v] s = some (.tuple #[.agg zSd.toArray, .int .i64 e], t) ∧ Ext s.heap.length s t := by
  obtain ⟨u, e', t, h1, h2, h3⟩ := DecodeShard_run hv hl
  rcases h3 with ⟨_, h4, rfl⟩ | ⟨_, a, cs, h4, _⟩
  · rw [he] at h4
    injection h4 with h4
    subst h4
    exact ⟨t, h1, h2⟩
  · rw [he] at h4
    cases h4
theorem dcoord_err {b : BL} {v : Value} {s : St} {e : Int} (hv : bytesOf v s = some b) (hl : b.length ≤ 140737488355328) (he : decCd b = .error e) : ∃ t, (run Tryz.prog (libL libT) hints) 17 [v] s = some (.tuple #[.agg zCd.toArray, .int .i64 e], t) ∧ Ext s.heap.length s t := by
  obtain ⟨u, e', t, h1, h2, h3⟩ := DecodeCoord_run hv hl
  rcases h3 with ⟨_, h4, rfl⟩ | ⟨_, a, cs, h4, _⟩
  · rw [he] at h4
    injection h4 with h4
    subst h4
    exact ⟨t, h1, h2⟩
  · rw [he] at h4
    cases h4
theorem zst_sd : lstore 17 lptr (.agg zSd.toArray) (.agg #[(.int .i64 0), (.int .u64 0), (.int .u64 0), (.int .u64 0), (.int .u64 0), (.slice none 0 0), (.slice none 0 0), (.slice none 0 0), (.int .u64 0), (.int .u64 0), (.string ⟨#[]⟩), (.string ⟨#[]⟩), (.int .u64 0), (.int .u64 0), (.int .u64 0), (.string ⟨#[]⟩), (.string ⟨#[]⟩)]) = some (.agg zSd.toArray) := rfl
theorem zst_cd : lstore 7 lptr (.agg zCd.toArray) (.agg #[(.int .i64 0), (.int .u64 0), (.int .u64 0), (.int .u64 0), (.slice none 0 0), (.slice none 0 0), (.slice none 0 0)]) = some (.agg zCd.toArray) := rfl
/-- the bytes are cut, and appended to -/
theorem cut_and_more {y : Value} {s : St} {l : BL} (y1 : bytesOf y s = some l) (hl : l.length ≤ 8200) (a : Int) (h0 : 0 < l.length) (c : UInt8) :
    ∃ (i : Nat) (p : Value), i < l.length ∧ (IntKind.wrap .i64 (a.tmod ((l.length : Nat) : Int) + ((l.length : Nat) : Int))).tmod ((l.length : Nat) : Int) = (i : Int) ∧ asliceV 1 y none (some (.int .i64 (i : Int))) none = some p ∧ bytesOf p s = some (l.take i) ∧
      ∀ s', Ext s.heap.length s s' → ∃ x s1 z s2, aappend 1 1 (.slice none 0 0) y s' = some (x, s1) ∧ aappend 1 1 x (newBytes [c] s1).1 (newBytes [c] s1).2 = some (z, s2) ∧ bytesOf z s2 = some (l ++ [c]) ∧ Ext s.heap.length s s2 := by
  obtain ⟨i, hi, ei⟩ := place (a := a) (n := l.length) h0 (by omega)
  obtain ⟨p, g2, g3⟩ := bytes_slice y1 (lo := none) (hi := some (.int .i64 (i : Int))) (mx := none) (i := 0) (j := i) rfl (by simp [abound]) (by omega) (by omega) (.inl rfl)
  simp only [List.drop_zero, Nat.sub_zero] at g3
  refine ⟨i, p, hi, ei, g2, g3, fun s' hx => ?_⟩
  obtain ⟨x, s1, a2, o2, x2⟩ := own_copy (hx.bytes y1) (by omega)
  have hn : bytesOf (newBytes [c] s1).1 (newBytes [c] s1).2 = some [c] := newBytes_bytes
  have xn : Ext s1.heap.length s1 (newBytes [c] s1).2 := newBytes_ext (Nat.le_refl _)
  have o2' : Own s'.heap.length 1 (newBytes [c] s1).2 x (bv l) := own_pushW o2
  obtain ⟨z, s2, a3, o3, x3⟩ := own_more o2' (Nat.le_trans x2.1 xn.1) hn (by simp only [List.length_singleton]; omega)
  exact ⟨x, s1, z, s2, a2, a3, o3.bytes, hx.trans ((x2.trans (xn.less x2.1)).trans x3 |>.less hx.1)⟩
section
variable {s : St} {x2 : Int} {c : UInt8}
theorem cuts_j1 {y : Value} {c0 : Cd} (w : CdW c0) (hy : Own s.heap.length 1 s y (bv (if eCd c0 = 0 then encCd c0 else [])) ∨ bytesOf y s = some (if eCd c0 = 0 then encCd c0 else [])) : ∃ t, law19_RecordCuts.j1 (run Tryz.prog (libL libT) hints) [.int .i64 x2, .int .u8 ((c.toNat : Nat) : Int), .bool true, y, .int .i64 (eCd c0)] s = some (.bool true, t) := by
  have hy : bytesOf y s = some (if eCd c0 = 0 then encCd c0 else []) := by
    rcases hy with h | h
    · exact h.bytes
    · exact h
  have hr : ∀ s, retV [.bool true] s = some (.bool true, s) := fun s => ret1 rfl
  by_cases hz : eCd c0 = 0
  · rw [if_pos hz] at hy
    obtain ⟨b1, b2, b3, b4, b5⟩ := cd_back hz w
    obtain ⟨i, p, hi, ei, g2, g3, hm⟩ := cut_and_more hy (by omega) x2 b4 c
    obtain ⟨t1, k1, e1⟩ := dcoord_err g3 (by rw [List.length_take]; omega) (b2 i hi)
    obtain ⟨x, s1, z, s2, a1, a2, a3, a4⟩ := hm t1 e1
    obtain ⟨t2, k2, e2⟩ := dcoord_err a3 (by rw [List.length_append]; simp only [List.length_singleton]; omega) (b3 c)
    have n1 : ((((encCd c0).length : Nat) : Int) == 0) = false := by rw [beq_eq_false_iff_ne]; omega
    have hn0 : (((encCd c0).length : Nat) : Int) ≠ 0 := by omega
    have z0 : ((0 : Int) == 0) = true := rfl
    have q1 : ((10 : Int) != 10) = false := rfl
    have q2 : ((11 : Int) != 11) = false := rfl
    have hnb : abuildSl 1 [(.int .u8 0)] 1 [(0, (.int .u8 ((c.toNat : Nat) : Int)))] s1 = some (newBytes [c] s1) := rfl
    have hna : noTup (.agg zCd.toArray) = true := rfl
    refine ⟨t2, ?_⟩
    unfold law19_RecordCuts.j1
    simp only [hz, z0, bytes_len hy, n1, e_rem hn0, ei, g2, record_DecodeCoord_call, k1, y2_0 hna, y2_1, zst_cd, a1, hnb, a2, k2, q1, q2, joinK_eq, law19_RecordCuts.j0, hr, n_bind, n_map, getL_0, getL_1, getL_2, getL_3, getL_4, getL_5, getL_6, getL_7, getL_8, getL_9, getL_10, getL_11, getL_12, condV_t, condV_f, guardV_tt, guardV_ff, guardV_tf, guardV_ft, guardV_u, apick_t, apick_f, exV_exit, exV_ret, lookE_same, joinK_eq, seqA_n, seqA_e, seqA_r, e_add, e_sub, e_mul, e_eql, e_neq, e_lss, e_leq, e_gtr, e_geq, e_conv, e_not, e_neg, and_guard, or_guard]
  · have z0 : (eCd c0 == 0) = false := by simp [hz]
    refine ⟨s, ?_⟩
    unfold law19_RecordCuts.j1
    simp only [z0, joinK_eq, law19_RecordCuts.j0, hr, n_bind, n_map, getL_0, getL_1, getL_2, getL_3, getL_4, getL_5, getL_6, getL_7, getL_8, getL_9, getL_10, getL_11, getL_12, condV_t, condV_f, guardV_tt, guardV_ff, guardV_tf, guardV_ft, guardV_u, apick_t, apick_f, exV_exit, exV_ret, lookE_same, joinK_eq, seqA_n, seqA_e, seqA_r, e_add, e_sub, e_mul, e_eql, e_neq, e_lss, e_leq, e_gtr, e_geq, e_conv, e_not, e_neg, and_guard, or_guard]
end
theorem RecordCuts_law (s : St) (d : Sd) (v : Value) (h : NArg sdN d s v) (c0 : Cd) (v1 : Value) (h1 : NArg cdN c0 s v1) (a : Int) (wa : (Lit.int .i64 a).wf = true) (m : Int) (wm : (Lit.int .u8 m).wf = true) : ∃ s', (run Tryz.prog (libL libT) hints) 5 [v, v1, .int .i64 a, .int .u8 m] s = some (.bool true, s') := by
  obtain ⟨c, rfl⟩ := wf_u8 wm
  have hb0 : lbox v = some v := by
    obtain ⟨cs, rfl, hr⟩ := h
    obtain ⟨ow, he, fi, rfl, hs⟩ := sd_inv hr
    exact lbox_cs (sd_leaf hs)
  have hb1 : lbox v1 = some v1 := by
    obtain ⟨cs, rfl, hr⟩ := h1
    obtain ⟨ow, he, fi, rfl, hs⟩ := cd_inv hr
    exact lbox_cs (cd_leaf hs)
  have hl0 : lload true 17 lptr v = some v := by
    obtain ⟨cs, rfl, hr⟩ := h
    exact arr_all (sdN.len hr)
  have hl1 : lload true 7 lptr v1 = some v1 := by
    obtain ⟨cs, rfl, hr⟩ := h1
    exact arr_all (cdN.len hr)
  obtain ⟨y, t1, e1, o1, x1⟩ := encS h
  obtain ⟨y', t2, e2, o2, x2⟩ := encC (h1.ext x1)
  have w := cd_w h1
  by_cases hz : eSd d = 0
  · rw [if_pos hz] at o1
    have hy : bytesOf y t2 = some (encSd d) := x2.bytes o1.bytes
    obtain ⟨b1, b2, b3, b4, b5⟩ := sd_back hz (sd_w h)
    obtain ⟨i, p, hi, ei, g2, g3, hm⟩ := cut_and_more hy (by omega) a b4 c
    obtain ⟨t3, k1, e3⟩ := dshard_err g3 (by rw [List.length_take]; omega) (b2 i hi)
    obtain ⟨x, s1, z, s2, a1, a2, a3, a4⟩ := hm t3 e3
    obtain ⟨t4, k2, e4⟩ := dshard_err a3 (by rw [List.length_append]; simp only [List.length_singleton]; omega) (b3 c)
    have n1 : ((((encSd d).length : Nat) : Int) == 0) = false := by rw [beq_eq_false_iff_ne]; omega
    have hn0 : (((encSd d).length : Nat) : Int) ≠ 0 := by omega
    have z0 : ((0 : Int) == 0) = true := rfl
    have q1 : ((10 : Int) != 10) = false := rfl
    have q2 : ((11 : Int) != 11) = false := rfl
    have hnb : abuildSl 1 [(.int .u8 0)] 1 [(0, (.int .u8 ((c.toNat : Nat) : Int)))] s1 = some (newBytes [c] s1) := rfl
    have hna : noTup (.agg zSd.toArray) = true := rfl
    obtain ⟨t5, g5⟩ := cuts_j1 (s := t4) (x2 := a) (c := c) w (.inr ((a4.trans (e4.less a4.1)).bytes o2.bytes))
    refine ⟨t5, law19_RecordCuts_of rfl ?_⟩
    unfold law19_RecordCuts
    simp only [hb0, hb1, law19_live_call, k_live, hl0, hl1, record_EncodeShard_call, e1, record_EncodeCoord_call, e2, y2_0 o1.notup, y2_0 o2.notup, hz, z0, bytes_len hy, n1, e_rem hn0, ei, g2, record_DecodeShard_call, k1, y2_0 hna, y2_1, zst_sd, a1, hnb, a2, k2, q1, q2, joinK_eq, g5, n_bind, n_map, getL_0, getL_1, getL_2, getL_3, getL_4, getL_5, getL_6, getL_7, getL_8, getL_9, getL_10, getL_11, getL_12, condV_t, condV_f, guardV_tt, guardV_ff, guardV_tf, guardV_ft, guardV_u, apick_t, apick_f, exV_exit, exV_ret, lookE_same, joinK_eq, seqA_n, seqA_e, seqA_r, e_add, e_sub, e_mul, e_eql, e_neq, e_lss, e_leq, e_gtr, e_geq, e_conv, e_not, e_neg, and_guard, or_guard]
  · have z0 : (eSd d == 0) = false := by simp [hz]
    obtain ⟨t5, g5⟩ := cuts_j1 (s := t2) (x2 := a) (c := c) w (.inr o2.bytes)
    refine ⟨t5, law19_RecordCuts_of rfl ?_⟩
    unfold law19_RecordCuts
    simp only [hb0, hb1, law19_live_call, k_live, hl0, hl1, record_EncodeShard_call, e1, record_EncodeCoord_call, e2, y2_0 o1.notup, y2_0 o2.notup, y2_1, z0, joinK_eq, g5, n_bind, n_map, getL_0, getL_1, getL_2, getL_3, getL_4, getL_5, getL_6, getL_7, getL_8, getL_9, getL_10, getL_11, getL_12, condV_t, condV_f, guardV_tt, guardV_ff, guardV_tf, guardV_ft, guardV_u, apick_t, apick_f, exV_exit, exV_ret, lookE_same, joinK_eq, seqA_n, seqA_e, seqA_r, e_add, e_sub, e_mul, e_eql, e_neq, e_lss, e_leq, e_gtr, e_geq, e_conv, e_not, e_neg, and_guard, or_guard]

end Go.Proofs.YtckpcelchhmjcaaGreat.Ab

/- A law's arguments in memory, as the abstract machine has them: bytes. -/
namespace Go.Proofs.YtckpcelchhmjcaaGreat.Ab
open Go

end Go.Proofs.YtckpcelchhmjcaaGreat.Ab

/- A row's slice of whole numbers is no longer than its weight allows. (Began as the words that print.sh lays for rows over slices.) -/
namespace Go.Proofs.YtckpcelchhmjcaaGreat.Ab
open Go Go.ChangeShapes Go.WideShapes
end Go.Proofs.YtckpcelchhmjcaaGreat.Ab
