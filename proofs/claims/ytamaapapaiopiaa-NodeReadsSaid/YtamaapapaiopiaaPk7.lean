/- Texts of this proof, packed: NdDecS, SamePr, SameVal, SameEnt, NdSame, BWrite, NdSpoil, NdLawR, BArg, BSized. -/
import Derived.Test.YtamaapapaiopiaaPk6
import Derived.SizedLaws
import Derived.ChangeSlices
set_option linter.unusedVariables false
set_option linter.unusedSimpArgs false
set_option linter.unusedSectionVars false
/- Nodes are read: the document's Decode; both tell the same. -/
namespace Go.Proofs.Ytamaapapaiopiaa.Ab
open Go

theorem rdec_end {b : BL} (hb : ¬ 480 < b.length) {N : Nat} {s1 : St} {y : BL × Int} {n : Nd} {cs : List Value} (hy : Rd N s1 y) (hd : Does pNode (b, 0) n y) (ho : oNode.own (N + 1) s1.heap.length n s1 cs) :
    ∃ (s2 : St) (u : Value) (e : Int), (if y.2 = 0 ∧ y.1 ≠ [] then (run Try.prog (libL libT) hints) 24 [rp N, .int .i64 11] s1 = some (undef, s2) else s2 = s1) ∧
    ref13_Decode.j0 (run Try.prog (libL libT) hints) [lptr, rp N, lptr, zN, .agg cs.toArray] s2 = some (.tuple #[u, .int .i64 e], s2) ∧ FrM N s1.heap.length s1 s2 ∧ IsDec b (N + 1) s2.heap.length s2 u e := by
  obtain ⟨v, h⟩ := id hy
  have hN := h.lt
  have hlen : cs.length = 5 := oNode.C.len (oNode.rel ho)
  have hlf := oNode.leaf ho
  by_cases h0 : y.2 = 0
  · have z2 : (y.2 != 0) = false := by simp [h0]
    by_cases hr : y.1 = []
    · have c1 := rCheck_run (n := n) (s := s1) (v := .agg cs.toArray) ⟨cs, rfl, oNode.rel ho⟩
      by_cases he : eN n = 0
      · have e2 : (eN n != 0) = false := by simp [he]
        refine ⟨s1, .agg cs.toArray, 0, by rw [if_neg (by simp [hr])], ?_, .refl _ _ _, .inl ⟨n, cs, by rw [decN_chk hb hd h0 hr, if_neg (by simp [he])], rfl, rfl, ho⟩⟩
        unfold ref13_Decode.j0
        simp only [rp_nil, rp_f0, rp_f1, h.ld1, z2, zN_ld hlen, ref13_Check_call, c1, e2, zN_st hlen hlf, ret2N (a := .agg cs.toArray) rfl, n_bind, n_map, getL_0, getL_1, getL_2, getL_3, getL_4, getL_5, getL_6, getL_7, getL_8, getL_9, getL_10, getL_11, getL_12, condV_t, condV_f, guardV_tt, guardV_ff, guardV_tf, guardV_ft, guardV_u, apick_t, apick_f, exV_exit, exV_ret, lookE_same, joinK_eq, seqA_n, seqA_e, seqA_r, e_add, e_sub, e_mul, e_eql, e_neq, e_lss, e_leq, e_gtr, e_geq, e_conv, e_not, e_neg, and_guard, or_guard]
      · have e2 : (eN n != 0) = true := by simp [he]
        refine ⟨s1, zN, eN n, by rw [if_neg (by simp [hr])], ?_, .refl _ _ _, .inr ⟨by rw [decN_chk hb hd h0 hr, if_pos he], he, rfl⟩⟩
        unfold ref13_Decode.j0
        simp only [rp_nil, rp_f0, rp_f1, h.ld1, z2, zN_ld hlen, ref13_Check_call, c1, e2, zN_z, zN_l, ret2N (a := zN) rfl, n_bind, n_map, getL_0, getL_1, getL_2, getL_3, getL_4, getL_5, getL_6, getL_7, getL_8, getL_9, getL_10, getL_11, getL_12, condV_t, condV_f, guardV_tt, guardV_ff, guardV_tf, guardV_ft, guardV_u, apick_t, apick_f, exV_exit, exV_ret, lookE_same, joinK_eq, seqA_n, seqA_e, seqA_r, e_add, e_sub, e_mul, e_eql, e_neq, e_lss, e_leq, e_gtr, e_geq, e_conv, e_not, e_neg, and_guard, or_guard]
    · obtain ⟨v3, h3⟩ := h.seterr 11
      have e2 : ((11 : Int) != 0) = true := rfl
      refine ⟨setR N v 11 s1, zN, 11, by rw [if_pos ⟨h0, hr⟩]; exact rfail_run h h0 11, ?_, setR_keep.frM (Nat.le_refl _), .inr ⟨decN_more hb hd h0 hr, by decide, rfl⟩⟩
      unfold ref13_Decode.j0
      simp only [rp_nil, rp_f0, rp_f1, h3.ld1, e2, own_id, zN_z, zN_l, ret2N (a := zN) rfl, n_bind, n_map, getL_0, getL_1, getL_2, getL_3, getL_4, getL_5, getL_6, getL_7, getL_8, getL_9, getL_10, getL_11, getL_12, condV_t, condV_f, guardV_tt, guardV_ff, guardV_tf, guardV_ft, guardV_u, apick_t, apick_f, exV_exit, exV_ret, lookE_same, joinK_eq, seqA_n, seqA_e, seqA_r, e_add, e_sub, e_mul, e_eql, e_neq, e_lss, e_leq, e_gtr, e_geq, e_conv, e_not, e_neg, and_guard, or_guard]
  · have z2 : (y.2 != 0) = true := by simp [h0]
    refine ⟨s1, zN, y.2, by rw [if_neg (by simp [h0])], ?_, .refl _ _ _, .inr ⟨decN_err hb hd h0, h0, rfl⟩⟩
    unfold ref13_Decode.j0
    simp only [rp_nil, rp_f0, rp_f1, h.ld1, z2, own_id, zN_z, zN_l, ret2N (a := zN) rfl, n_bind, n_map, getL_0, getL_1, getL_2, getL_3, getL_4, getL_5, getL_6, getL_7, getL_8, getL_9, getL_10, getL_11, getL_12, condV_t, condV_f, guardV_tt, guardV_ff, guardV_tf, guardV_ft, guardV_u, apick_t, apick_f, exV_exit, exV_ret, lookE_same, joinK_eq, seqA_n, seqA_e, seqA_r, e_add, e_sub, e_mul, e_eql, e_neq, e_lss, e_leq, e_gtr, e_geq, e_conv, e_not, e_neg, and_guard, or_guard]
theorem rdecode_run {s : St} {v : Value} {b : BL} (h : bytesOf v s = some b) (hl : b.length ≤ 140737488355328) : ∃ u e s', (run Try.prog (libL libT) hints) 9 [v] s = some (.tuple #[u, .int .i64 e], s') ∧ Ext s.heap.length s s' ∧ IsDec b s.heap.length s'.heap.length s' u e := by
  by_cases hb : 480 < b.length
  · have d1 : decide (((b.length : Nat) : Int) > 480) = true := by simp; omega
    refine ⟨zN, 2, s, ref13_Decode_of rfl ?_, .refl _ _, .inr ⟨by unfold decN; rw [if_pos hb], by decide, rfl⟩⟩
    unfold ref13_Decode
    simp only [bytes_len h, d1, ret2N (a := zN) rfl, n_bind, n_map, getL_0, getL_1, getL_2, getL_3, getL_4, getL_5, getL_6, getL_7, getL_8, getL_9, getL_10, getL_11, getL_12, condV_t, condV_f, guardV_tt, guardV_ff, guardV_tf, guardV_ft, guardV_u, apick_t, apick_f, exV_exit, exV_ret, lookE_same, joinK_eq, seqA_n, seqA_e, seqA_r, e_add, e_sub, e_mul, e_eql, e_neq, e_lss, e_leq, e_gtr, e_geq, e_conv, e_not, e_neg, and_guard, or_guard]
  · have d1 : decide (((b.length : Nat) : Int) > 480) = false := by simp; omega
    have hr := rd_new h hl
    obtain ⟨n, u1, cs, s1, y, f1, f2, f3, f4, f5, f6⟩ := rnode_run _ _ hr
    have f1 : (run Try.prog (libL libT) hints) 23 [rp s.heap.length] (s.push (.row 0 [v, .int .i64 0] .act)) = some (u1, s1) := f1
    have f4 : u1 = .agg cs.toArray := f4
    subst f4
    have hnew : (abuild Try.prog 59 [(0, v)]).bind (fun v2 => (anew (cellsV v2) s)) = some (rp s.heap.length, s.push (.row 0 [v, .int .i64 0] .act)) := by
      have h1 : abuild Try.prog 59 [(0, v)] = ((afill (placeS [(0, 1), (1, 1)]) [.slice none 0 0, .int .i64 0] [(0, v)]).map fun cs => .agg cs.toArray) := by kernel_rfl
      rw [h1]
      obtain ⟨a, len, cap, rfl⟩ := bytes_form h
      rfl
    obtain ⟨v2, hb1, hb2⟩ := Option.bind_eq_some_iff.1 hnew
    have hlen0 : (s.push (.row 0 [v, .int .i64 0] .act)).heap.length = s.heap.length + 1 := push_len
    rw [hlen0] at f5
    have hx0 : Ext s.heap.length s (s.push (.row 0 [v, .int .i64 0] .act)) := .push _ (Nat.le_refl _) _
    have hx1 : Ext s.heap.length s s1 := hx0.trans (frM_ext (f3.frM (by rw [hlen0]; omega)))
    obtain ⟨s2, u, e, k0, k1, k2, k3⟩ := rdec_end hb f2 f6 f5
    have hN := f2.lt
    refine ⟨u, e, s2, ref13_Decode_of rfl ?_, hx1.trans (frM_ext ⟨k2.1, fun c h1 h2 => k2.2 c (by omega) h2⟩), k3.mono (by omega)⟩
    have hlen : cs.length = 5 := oNode.C.len (oNode.rel f5)
    have hlf := oNode.leaf f5
    obtain ⟨vr, hvr⟩ := f2
    rw [← k1]
    by_cases h0 : y.2 = 0
    · have z1 : (y.2 == 0) = true := by simp [h0]
      by_cases hre : y.1 = []
      · have d2 : decide (((y.1.length : Nat) : Int) > 0) = false := by rw [hre]; rfl
        rw [if_neg (by simp [hre])] at k0
        subst k0
        unfold ref13_Decode
        simp only [bytes_len h, d1, hb1, hb2, ref13_R_node_call, f1, zN_st hlen hlf, rp_nil, rp_f0, rp_f1, hvr.ld1, hvr.ld0, z1, bytes_len hvr.byt, d2, Bool.and_false, n_bind, n_map, getL_0, getL_1, getL_2, getL_3, getL_4, getL_5, getL_6, getL_7, getL_8, getL_9, getL_10, getL_11, getL_12, condV_t, condV_f, guardV_tt, guardV_ff, guardV_tf, guardV_ft, guardV_u, apick_t, apick_f, exV_exit, exV_ret, lookE_same, joinK_eq, seqA_n, seqA_e, seqA_r, e_add, e_sub, e_mul, e_eql, e_neq, e_lss, e_leq, e_gtr, e_geq, e_conv, e_not, e_neg, and_guard, or_guard]
      · have d2 : decide (((y.1.length : Nat) : Int) > 0) = true := by
          have : 0 < y.1.length := List.length_pos_iff.2 hre
          simp; omega
        rw [if_pos ⟨h0, hre⟩] at k0
        unfold ref13_Decode
        simp only [bytes_len h, d1, hb1, hb2, ref13_R_node_call, f1, zN_st hlen hlf, rp_nil, rp_f0, rp_f1, hvr.ld1, hvr.ld0, z1, bytes_len hvr.byt, d2, Bool.and_true, ref13_R_fail_call, k0, n_bind, n_map, getL_0, getL_1, getL_2, getL_3, getL_4, getL_5, getL_6, getL_7, getL_8, getL_9, getL_10, getL_11, getL_12, condV_t, condV_f, guardV_tt, guardV_ff, guardV_tf, guardV_ft, guardV_u, apick_t, apick_f, exV_exit, exV_ret, lookE_same, joinK_eq, seqA_n, seqA_e, seqA_r, e_add, e_sub, e_mul, e_eql, e_neq, e_lss, e_leq, e_gtr, e_geq, e_conv, e_not, e_neg, and_guard, or_guard]
    · have z1 : (y.2 == 0) = false := by simp [h0]
      rw [if_neg (by simp [h0])] at k0
      subst k0
      unfold ref13_Decode
      simp only [bytes_len h, d1, hb1, hb2, ref13_R_node_call, f1, zN_st hlen hlf, rp_nil, rp_f0, rp_f1, hvr.ld1, hvr.ld0, z1, bytes_len hvr.byt, Bool.false_and, n_bind, n_map, getL_0, getL_1, getL_2, getL_3, getL_4, getL_5, getL_6, getL_7, getL_8, getL_9, getL_10, getL_11, getL_12, condV_t, condV_f, guardV_tt, guardV_ff, guardV_tf, guardV_ft, guardV_u, apick_t, apick_f, exV_exit, exV_ret, lookE_same, joinK_eq, seqA_n, seqA_e, seqA_r, e_add, e_sub, e_mul, e_eql, e_neq, e_lss, e_leq, e_gtr, e_geq, e_conv, e_not, e_neg, and_guard, or_guard]

end Go.Proofs.Ytamaapapaiopiaa.Ab

/- Pairs, maps: whether two are the same. -/
namespace Go.Proofs.Ytamaapapaiopiaa.Ab
open Go

theorem eq_bool (o1 o2 : Operand) (a b : Bool) : abin Try.prog .eql 4 o1 o2 (.bool a) (.bool b) = some (.bool (a == b)) := by
  unfold abin
  rw [Try.underlying4]
  rfl
theorem ne_bool (o1 o2 : Operand) (a b : Bool) : abin Try.prog .neq 4 o1 o2 (.bool a) (.bool b) = some (.bool (a != b)) := by
  unfold abin
  rw [Try.underlying4]
  rfl
theorem pr_eql (o1 o2 : Operand) (a b : Rg) : abin Try.prog .eql 45 o1 o2 (rv a) (rv b) = some (.bool (a.1 == b.1 && a.2 == b.2)) := by
  have hu := pr_und Try.underlying45
  have hg : pureRun Try.prog (eqGuard .eql 45 o1 o2 (.agg #[sv a.1, sv a.2]) (.agg #[sv b.1, sv b.2])) = some () := by kernel_rfl
  have hh : Try.prog.stoodInHeld 45 = false := by kernel_rfl
  have hp : ∀ x y : BL, pureRun Try.prog (part 9 #[sv x, sv y] 0) = some (sv x) ∧ pureRun Try.prog (part 9 #[sv x, sv y] 1) = some (sv y) := fun x y => by
    refine ⟨?_, ?_⟩ <;> kernel_rfl
  have he : ∀ (n : Nat) (x y : BL), pureRun Try.prog (Op.equalIn (n + 1) 9 (sv x) (sv y)) = some (x == y) := fun n x y => by
    unfold sv
    rw [pr_str Try.underlying9, bytes_beq]
  unfold abin aggBin rv
  simp only
  have hc : (constOk (.agg #[sv a.1, sv a.2]) && constOk (.agg #[sv b.1, sv b.2])) = true := rfl
  rw [if_pos hc, pr_bind, hg]
  simp only [Option.bind_some, binOp]
  rw [pr_bind]
  have key : pureRun Try.prog (Op.equal 45 (.agg #[sv a.1, sv a.2]) (.agg #[sv b.1, sv b.2])) = some (a.1 == b.1 && a.2 == b.2) := by
    unfold Op.equal Op.maxDepth Op.equalIn
    rw [pr_bind, hu]
    simp only [Option.bind_some]
    rw [pr_bind, pr_program]
    simp only [Option.bind_some, hh, Bool.false_eq_true, if_false, pr_bind]
    have hKey : ("Key" ≠ "_") = True := by simp
    have hValue : ("Value" ≠ "_") = True := by simp
    simp only [List.forIn_toArray, List.forIn_cons, List.forIn_nil]
    cases h1 : (a.1 == b.1)
    · simp only [Option.bind_some, pr_bind, pr_pure, Nat.reduceAdd, hKey, hValue, if_true, (hp _ _).1, (hp _ _).2, he, Bool.not_true, Bool.not_false, Bool.false_eq_true, if_false, Bool.true_and, Bool.false_and, Bool.and_true, h1]
    cases h2 : (a.2 == b.2)
    · simp only [Option.bind_some, pr_bind, pr_pure, Nat.reduceAdd, hKey, hValue, if_true, (hp _ _).1, (hp _ _).2, he, Bool.not_true, Bool.not_false, Bool.false_eq_true, if_false, Bool.true_and, Bool.false_and, Bool.and_true, h1, h2]
    · simp only [Option.bind_some, pr_bind, pr_pure, Nat.reduceAdd, hKey, hValue, if_true, (hp _ _).1, (hp _ _).2, he, Bool.not_true, Bool.not_false, Bool.false_eq_true, if_false, Bool.true_and, Bool.false_and, Bool.and_true, h1, h2]
  rw [key]
  rfl

theorem pr_neq (o1 o2 : Operand) (a b : Rg) : abin Try.prog .neq 45 o1 o2 (rv a) (rv b) = some (.bool (!(a.1 == b.1 && a.2 == b.2))) := by
  have hu := pr_und Try.underlying45
  have hg : pureRun Try.prog (eqGuard .neq 45 o1 o2 (.agg #[sv a.1, sv a.2]) (.agg #[sv b.1, sv b.2])) = some () := by kernel_rfl
  have h0 := pr_eql o1 o2 a b
  have hg0 : pureRun Try.prog (eqGuard .eql 45 o1 o2 (.agg #[sv a.1, sv a.2]) (.agg #[sv b.1, sv b.2])) = some () := by kernel_rfl
  unfold abin aggBin rv at h0 ⊢
  simp only at h0 ⊢
  have hc : (constOk (.agg #[sv a.1, sv a.2]) && constOk (.agg #[sv b.1, sv b.2])) = true := rfl
  rw [if_pos hc, pr_bind, hg0] at h0
  rw [if_pos hc, pr_bind, hg]
  simp only [Option.bind_some, binOp, pr_bind, pr_pure] at h0 ⊢
  cases e : pureRun Try.prog (Op.equal 45 (.agg #[sv a.1, sv a.2]) (.agg #[sv b.1, sv b.2])) with
  | none => rw [e] at h0; cases h0
  | some r =>
    rw [e] at h0
    simp only [Option.bind_some] at h0 ⊢
    cases h0
    rfl

theorem same_loop {R : Caller} {v w : Value} {s : St} {a b : List Rg} (ha : listOf prC v s = some a) (hb : listOf prC w s = some b) (hab : a.length = b.length) (hl : a.length < 140737488355328) : ∀ (ra rb : List Rg) (i : Nat), a.drop i = ra → b.drop i = rb → i ≤ a.length →
    loopL (ref04_SameMap.b0 R) [v, w, .int .i64 ((a.length : Nat) : Int), .int .i64 (i : Int)] s = some (if ra = rb then (.exit 0, [], s) else (.ret, [.bool false], s)) := by
  intro ra
  induction ra with
  | nil =>
    intro rb i h1 h2 hle
    have hge := List.drop_eq_nil_iff.1 h1
    have hrb : rb = [] := by rw [← h2]; exact List.drop_eq_nil_of_le (by omega)
    have hd : decide ((i : Int) < ((a.length : Nat) : Int)) = false := by simp; omega
    rw [hrb, if_pos rfl, loopL_eq]
    simp only [ref04_SameMap.b0, hd, n_bind, n_map, getL_0, getL_1, getL_2, getL_3, getL_4, getL_5, getL_6, getL_7, getL_8, getL_9, getL_10, getL_11, getL_12, condV_t, condV_f, guardV_tt, guardV_ff, guardV_tf, guardV_ft, guardV_u, apick_t, apick_f, exV_exit, exV_ret, lookE_same, joinK_eq, seqA_n, seqA_e, seqA_r, e_add, e_sub, e_mul, e_eql, e_neq, e_lss, e_leq, e_gtr, e_geq, e_conv, e_not, e_neg, and_guard, or_guard]
  | cons p ra ih =>
    intro rb i h1 h2 hle
    obtain ⟨hlt, he, hd⟩ := drop_get h1
    have hdc : decide ((i : Int) < ((a.length : Nat) : Int)) = true := by simp; omega
    cases rb with
    | nil =>
      have := List.drop_eq_nil_iff.1 h2
      omega
    | cons q rb =>
      obtain ⟨hlt2, he2, hd2⟩ := drop_get h2
      obtain ⟨x, a1, a2⟩ := list_at (s := frzS s) (by rw [list_frz]; exact ha) hlt (k := .i64) (n := 2) rfl
      obtain ⟨y, b1, b2⟩ := list_at (s := frzS s) (by rw [list_frz]; exact hb) hlt2 (k := .i64) (n := 2) rfl
      rw [pr_enc, he] at a2
      rw [pr_enc, he2] at b2
      have key := ih rb (i + 1) hd hd2 (by omega)
      rw [loopL_eq]
      simp only [ref04_SameMap.b0, hdc, a1, a2, b1, b2, pr_neq, n_bind, n_map, getL_0, getL_1, getL_2, getL_3, getL_4, getL_5, getL_6, getL_7, getL_8, getL_9, getL_10, getL_11, getL_12, condV_t, condV_f, guardV_tt, guardV_ff, guardV_tf, guardV_ft, guardV_u, apick_t, apick_f, exV_exit, exV_ret, lookE_same, joinK_eq, seqA_n, seqA_e, seqA_r, e_add, e_sub, e_mul, e_eql, e_neq, e_lss, e_leq, e_gtr, e_geq, e_conv, e_not, e_neg, and_guard, or_guard]
      by_cases e : p = q
      · subst e
        have e1 : (!(p.1 == p.1 && p.2 == p.2)) = false := by simp
        simp only [e1, inc_i64 (show i < 140737488355328 by omega), n_bind, n_map, getL_0, getL_1, getL_2, getL_3, getL_4, getL_5, getL_6, getL_7, getL_8, getL_9, getL_10, getL_11, getL_12, condV_t, condV_f, guardV_tt, guardV_ff, guardV_tf, guardV_ft, guardV_u, apick_t, apick_f, exV_exit, exV_ret, lookE_same, joinK_eq, seqA_n, seqA_e, seqA_r, e_add, e_sub, e_mul, e_eql, e_neq, e_lss, e_leq, e_gtr, e_geq, e_conv, e_not, e_neg, and_guard, or_guard]
        rw [key]
        simp
      · have e1 : (!(p.1 == q.1 && p.2 == q.2)) = true := by
          simp only [Bool.not_eq_true', Bool.and_eq_false_iff, beq_eq_false_iff_ne]
          by_cases c : p.1 = q.1
          · exact .inr fun d => e (Prod.ext c d)
          · exact .inl c
        simp only [e1, n_bind, n_map, getL_0, getL_1, getL_2, getL_3, getL_4, getL_5, getL_6, getL_7, getL_8, getL_9, getL_10, getL_11, getL_12, condV_t, condV_f, guardV_tt, guardV_ff, guardV_tf, guardV_ft, guardV_u, apick_t, apick_f, exV_exit, exV_ret, lookE_same, joinK_eq, seqA_n, seqA_e, seqA_r, e_add, e_sub, e_mul, e_eql, e_neq, e_lss, e_leq, e_gtr, e_geq, e_conv, e_not, e_neg, and_guard, or_guard]
        rw [if_neg fun c => e (List.cons.inj c).1]
theorem same_run {R : Caller} {v w : Value} {s : St} {a b : List Rg} (ha : listOf prC v s = some a) (hb : listOf prC w s = some b) (hl : a.length < 140737488355328) : ref04_SameMap R v w s = some (.bool (decide (a = b)), s) := by
  unfold ref04_SameMap
  simp only [list_len ha, list_len hb, n_bind, n_map, getL_0, getL_1, getL_2, getL_3, getL_4, getL_5, getL_6, getL_7, getL_8, getL_9, getL_10, getL_11, getL_12, condV_t, condV_f, guardV_tt, guardV_ff, guardV_tf, guardV_ft, guardV_u, apick_t, apick_f, exV_exit, exV_ret, lookE_same, joinK_eq, seqA_n, seqA_e, seqA_r, e_add, e_sub, e_mul, e_eql, e_neq, e_lss, e_leq, e_gtr, e_geq, e_conv, e_not, e_neg, and_guard, or_guard]
  by_cases e : a.length = b.length
  · have h1 := same_loop (R := R) ha hb e hl a b 0 rfl rfl (Nat.zero_le _)
    rw [show ((0 : Nat) : Int) = 0 from rfl] at h1
    have e1 : (((a.length : Nat) : Int) != ((b.length : Nat) : Int)) = false := by simp [e]
    simp only [e1, h1, n_bind, n_map, getL_0, getL_1, getL_2, getL_3, getL_4, getL_5, getL_6, getL_7, getL_8, getL_9, getL_10, getL_11, getL_12, condV_t, condV_f, guardV_tt, guardV_ff, guardV_tf, guardV_ft, guardV_u, apick_t, apick_f, exV_exit, exV_ret, lookE_same, joinK_eq, seqA_n, seqA_e, seqA_r, e_add, e_sub, e_mul, e_eql, e_neq, e_lss, e_leq, e_gtr, e_geq, e_conv, e_not, e_neg, and_guard, or_guard]
    by_cases c : a = b
    · rw [if_pos c]
      simp only [c, n_bind, n_map, getL_0, getL_1, getL_2, getL_3, getL_4, getL_5, getL_6, getL_7, getL_8, getL_9, getL_10, getL_11, getL_12, condV_t, condV_f, guardV_tt, guardV_ff, guardV_tf, guardV_ft, guardV_u, apick_t, apick_f, exV_exit, exV_ret, lookE_same, joinK_eq, seqA_n, seqA_e, seqA_r, e_add, e_sub, e_mul, e_eql, e_neq, e_lss, e_leq, e_gtr, e_geq, e_conv, e_not, e_neg, and_guard, or_guard, retV]
      rfl
    · rw [if_neg c]
      simp only [c, n_bind, n_map, getL_0, getL_1, getL_2, getL_3, getL_4, getL_5, getL_6, getL_7, getL_8, getL_9, getL_10, getL_11, getL_12, condV_t, condV_f, guardV_tt, guardV_ff, guardV_tf, guardV_ft, guardV_u, apick_t, apick_f, exV_exit, exV_ret, lookE_same, joinK_eq, seqA_n, seqA_e, seqA_r, e_add, e_sub, e_mul, e_eql, e_neq, e_lss, e_leq, e_gtr, e_geq, e_conv, e_not, e_neg, and_guard, or_guard, retV]
      rfl
  · have e1 : (((a.length : Nat) : Int) != ((b.length : Nat) : Int)) = true := by simp; omega
    have e2 : ¬ a = b := fun h => e (by rw [h])
    simp only [e1, e2, n_bind, n_map, getL_0, getL_1, getL_2, getL_3, getL_4, getL_5, getL_6, getL_7, getL_8, getL_9, getL_10, getL_11, getL_12, condV_t, condV_f, guardV_tt, guardV_ff, guardV_tf, guardV_ft, guardV_u, apick_t, apick_f, exV_exit, exV_ret, lookE_same, joinK_eq, seqA_n, seqA_e, seqA_r, e_add, e_sub, e_mul, e_eql, e_neq, e_lss, e_leq, e_gtr, e_geq, e_conv, e_not, e_neg, and_guard, or_guard, retV]
    rfl

end Go.Proofs.Ytamaapapaiopiaa.Ab

/- Structs: whether two are the same. -/
namespace Go.Proofs.Ytamaapapaiopiaa.Ab
open Go

def FieldsEq (P : Program) (d : Nat) (xs ys : Array Value) : List Field → List Bool → Prop
  | [], [] => True
  | f :: fs, e :: es => f.name ≠ "_" ∧ (∃ p q, pureRun P (part f.type xs f.offset) = some p ∧ pureRun P (part f.type ys f.offset) = some q ∧ pureRun P (Op.equalIn d f.type p q) = some e) ∧ FieldsEq P d xs ys fs es
  | _, _ => False
theorem forIn_fields {P : Program} {d : Nat} {xs ys : Array Value} : ∀ {fs : List Field} {es : List Bool}, FieldsEq P d xs ys fs es →
    pureRun P (ForIn.forIn fs ((none, ()) : Option Bool × Unit) (fun f __s =>
      if f.name ≠ "_" then do
        let __do_lift ← part f.type xs f.offset
        let __do_lift_1 ← part f.type ys f.offset
        let __do_lift ← Op.equalIn d f.type __do_lift __do_lift_1
        if (!__do_lift) = true then Pure.pure (ForInStep.done (some false, ()))
        else Pure.pure (ForInStep.yield (none, ()))
      else Pure.pure (ForInStep.yield (none, ()))) : Sem (Option Bool × Unit)) = some (if es.all id = true then none else some false, ())
  | [], [], _ => rfl
  | f :: fs, e :: es, ⟨hn, ⟨p, q, h1, h2, h3⟩, h⟩ => by
    have ih := forIn_fields h
    rw [List.forIn_cons, pr_bind, if_pos hn, pr_bind, h1, Option.bind_some, pr_bind, h2, Option.bind_some, pr_bind, h3, Option.bind_some]
    cases e with
    | false => rfl
    | true =>
      simp only [Bool.not_true, Bool.false_eq_true, if_false, pr_pure, Option.bind_some]
      rw [ih]
      rfl
theorem pr_struct {P : Program} {t : TypeId} {fs : Array Field} {d : Nat} {xs ys : Array Value} (hu : P.underlying t = some (.struct fs)) (hh : P.stoodInHeld t = false) {es : List Bool} (h : FieldsEq P d xs ys fs.toList es) : pureRun P (Op.equalIn (d + 1) t (.agg xs) (.agg ys)) = some (es.all id) := by
  unfold Op.equalIn
  rw [pr_bind, pr_und hu]
  simp only [Option.bind_some]
  rw [pr_bind, pr_program]
  simp only [Option.bind_some, hh, Bool.false_eq_true, if_false, pr_bind]
  have := forIn_fields h
  obtain ⟨l⟩ := fs
  simp only [List.forIn_toArray] at this ⊢
  rw [this]
  simp only [Option.bind_some]
  cases es.all id <;> rfl
theorem ab_eqlS {P : Program} {t : TypeId} {ox oy : Operand} {xs ys : List Value} {b : Bool} (hx : xs.all leafOk = true) (hy : ys.all leafOk = true) (hg : pureRun P (eqGuard .eql t ox oy (.agg xs.toArray) (.agg ys.toArray)) = some ()) (h : pureRun P (Op.equal t (.agg xs.toArray) (.agg ys.toArray)) = some b) : abin P .eql t ox oy (.agg xs.toArray) (.agg ys.toArray) = some (.bool b) := by
  unfold abin aggBin
  simp only
  have hc : (constOk (.agg xs.toArray) && constOk (.agg ys.toArray)) = true := by simp only [constOk, hx, hy, Bool.and_self]
  rw [if_pos hc, pr_bind, hg]
  simp only [Option.bind_some, binOp, pr_bind, h, pr_pure]
theorem ab_neqS {P : Program} {t : TypeId} {ox oy : Operand} {xs ys : List Value} {b : Bool} (hx : xs.all leafOk = true) (hy : ys.all leafOk = true) (hg : pureRun P (eqGuard .neq t ox oy (.agg xs.toArray) (.agg ys.toArray)) = some ()) (h : pureRun P (Op.equal t (.agg xs.toArray) (.agg ys.toArray)) = some b) : abin P .neq t ox oy (.agg xs.toArray) (.agg ys.toArray) = some (.bool (!b)) := by
  unfold abin aggBin
  simp only
  have hc : (constOk (.agg xs.toArray) && constOk (.agg ys.toArray)) = true := by simp only [constOk, hx, hy, Bool.and_self]
  rw [if_pos hc, pr_bind, hg]
  simp only [Option.bind_some, binOp, pr_bind, h, pr_pure]
theorem in_str (n : Nat) (x y : BL) : pureRun Try.prog (Op.equalIn (n + 1) 9 (sv x) (sv y)) = some (x == y) := by
  unfold sv
  rw [pr_str Try.underlying9, bytes_beq]
theorem in_int {n : Nat} {t : TypeId} {k : IntKind} {x y : Int} (h : Try.prog.underlying t = some (.int k)) : pureRun Try.prog (Op.equalIn (n + 1) t (.int k x) (.int k y)) = some (x == y) := by
  unfold Op.equalIn
  rw [pr_bind, pr_und h]
  simp only [Option.bind_some, if_true, pr_pure]
theorem in_bool (n : Nat) (x y : Bool) : pureRun Try.prog (Op.equalIn (n + 1) 4 (.bool x) (.bool y)) = some (x == y) := by
  unfold Op.equalIn
  rw [pr_bind, pr_und Try.underlying4]
  rfl

end Go.Proofs.Ytamaapapaiopiaa.Ab

/- Operations, entries: whether two are the same. -/
namespace Go.Proofs.Ytamaapapaiopiaa.Ab
open Go

instance decOp : DecidableEq OpT := fun a b => decidable_of_iff (a.kind = b.kind ∧ a.key = b.key ∧ a.val = b.val ∧ a.lo = b.lo ∧ a.hi = b.hi ∧ a.most = b.most) (by cases a; cases b; simp)
def opEqs (a b : OpT) : List Bool := [a.kind == b.kind, a.key == b.key, a.val == b.val, a.lo == b.lo, a.hi == b.hi, a.most == b.most]
theorem opEqs_all (a b : OpT) : (opEqs a b).all id = decide (a = b) := by
  obtain ⟨a1, a2, a3, a4, a5, a6⟩ := a
  obtain ⟨b1, b2, b3, b4, b5, b6⟩ := b
  rw [Bool.eq_iff_iff]
  simp only [opEqs, List.all_cons, List.all_nil, id, Bool.and_eq_true, beq_iff_eq, decide_eq_true_eq, OpT.mk.injEq, and_true]
theorem in_op (n : Nat) (a b : OpT) : pureRun Try.prog (Op.equalIn (n + 2) 64 (oV a) (oV b)) = some (decide (a = b)) := by
  rw [← opEqs_all]
  exact pr_struct Try.underlying64 (by kernel_rfl) ⟨by decide, ⟨_, _, by kernel_rfl, by kernel_rfl, in_int Try.underlying3⟩, by decide, ⟨_, _, by kernel_rfl, by kernel_rfl, in_str _ _ _⟩, by decide, ⟨_, _, by kernel_rfl, by kernel_rfl, in_str _ _ _⟩, by decide, ⟨_, _, by kernel_rfl, by kernel_rfl, in_str _ _ _⟩, by decide, ⟨_, _, by kernel_rfl, by kernel_rfl, in_str _ _ _⟩, by decide, ⟨_, _, by kernel_rfl, by kernel_rfl, in_int Try.underlying3⟩, trivial⟩
theorem in_en (n : Nat) (a b : En) : pureRun Try.prog (Op.equalIn (n + 3) 66 (enV a) (enV b)) = some (decide (a = b)) := by
  have h : pureRun Try.prog (Op.equalIn (n + 3) 66 (enV a) (enV b)) = some ([a.1 == b.1, decide (a.2 = b.2)].all id) :=
    pr_struct Try.underlying66 (by kernel_rfl) ⟨by decide, ⟨_, _, by kernel_rfl, by kernel_rfl, in_int Try.underlying62⟩, by decide, ⟨oV a.2, oV b.2, by kernel_rfl, by kernel_rfl, in_op n a.2 b.2⟩, trivial⟩
  rw [h]
  obtain ⟨a1, a2⟩ := a
  obtain ⟨b1, b2⟩ := b
  refine congrArg some ?_
  rw [Bool.eq_iff_iff]
  simp
theorem in_enM (m n : Nat) (h : m = n + 3) (a b : En) : pureRun Try.prog (Op.equalIn m 66 (enV a) (enV b)) = some (decide (a = b)) := by
  subst h
  exact in_en n a b
theorem max_3 : Op.maxDepth = 9997 + 3 := by decide
theorem en_equal (a b : En) : pureRun Try.prog (Op.equal 66 (enV a) (enV b)) = some (decide (a = b)) := by
  unfold Op.equal
  exact in_enM _ 9997 max_3 a b
theorem en_neq (o1 o2 : Operand) (a b : En) : abin Try.prog .neq 66 o1 o2 (enV a) (enV b) = some (.bool (!decide (a = b))) := by
  have hg : pureRun Try.prog (eqGuard .neq 66 o1 o2 (.agg (enC.enc a).toArray) (.agg (enC.enc b).toArray)) = some () := by kernel_rfl
  exact ab_neqS (xs := enC.enc a) (ys := enC.enc b) (enC.leaf a) (enC.leaf b) hg (en_equal a b)

end Go.Proofs.Ytamaapapaiopiaa.Ab

/- Nodes: whether two are the same; a node is written over. -/
namespace Go.Proofs.Ytamaapapaiopiaa.Ab
open Go

/-! ### Lists that are the same -/
theorem eqE_loop {R : Caller} {v w : Value} {s : St} {a : List En} (ha : listOf enC v s = some a) (hb : listOf enC w s = some a) (hl : a.length < 140737488355328) : ∀ (ra : List En) (i : Nat), a.drop i = ra → i ≤ a.length →
    loopL (ref12_Same.b0 R) [v, w, .int .i64 ((a.length : Nat) : Int), .int .i64 (i : Int)] s = some (.exit 0, [], s) := by
  intro ra
  induction ra with
  | nil =>
    intro i h1 hle
    have hge := List.drop_eq_nil_iff.1 h1
    have hd : decide ((i : Int) < ((a.length : Nat) : Int)) = false := by simp; omega
    rw [loopL_eq]
    simp only [ref12_Same.b0, hd, n_bind, n_map, getL_0, getL_1, getL_2, getL_3, getL_4, getL_5, getL_6, getL_7, getL_8, getL_9, getL_10, getL_11, getL_12, condV_t, condV_f, guardV_tt, guardV_ff, guardV_tf, guardV_ft, guardV_u, apick_t, apick_f, exV_exit, exV_ret, lookE_same, joinK_eq, seqA_n, seqA_e, seqA_r, e_add, e_sub, e_mul, e_eql, e_neq, e_lss, e_leq, e_gtr, e_geq, e_conv, e_not, e_neg, and_guard, or_guard]
  | cons p ra ih =>
    intro i h1 hle
    obtain ⟨hlt, he, hd⟩ := drop_get h1
    have hdc : decide ((i : Int) < ((a.length : Nat) : Int)) = true := by simp; omega
    obtain ⟨x, a1, a2⟩ := list_at (s := frzS s) (by rw [list_frz]; exact ha) hlt (k := .i64) (n := 7) rfl
    obtain ⟨y, b1, b2⟩ := list_at (s := frzS s) (by rw [list_frz]; exact hb) hlt (k := .i64) (n := 7) rfl
    rw [en_enc, he] at a2 b2
    have key := ih (i + 1) hd (by omega)
    have hq : (!decide (p = p)) = false := by simp
    rw [loopL_eq]
    simp only [ref12_Same.b0, hdc, a1, a2, b1, b2, en_neq, hq, inc_i64 (show i < 140737488355328 by omega), n_bind, n_map, getL_0, getL_1, getL_2, getL_3, getL_4, getL_5, getL_6, getL_7, getL_8, getL_9, getL_10, getL_11, getL_12, condV_t, condV_f, guardV_tt, guardV_ff, guardV_tf, guardV_ft, guardV_u, apick_t, apick_f, exV_exit, exV_ret, lookE_same, joinK_eq, seqA_n, seqA_e, seqA_r, e_add, e_sub, e_mul, e_eql, e_neq, e_lss, e_leq, e_gtr, e_geq, e_conv, e_not, e_neg, and_guard, or_guard]
    exact key
theorem eqE_run {v w : Value} {s : St} {a : List En} (ha : listOf enC v s = some a) (hb : listOf enC w s = some a) (hl : a.length < 140737488355328) : (run Try.prog (libL libT) hints) 26 [v, w] s = some (.bool true, s) := by
  have key := eqE_loop (R := (run Try.prog (libL libT) hints)) ha hb hl a 0 rfl (Nat.zero_le _)
  rw [show ((0 : Nat) : Int) = 0 from rfl] at key
  have hq : (((a.length : Nat) : Int) != ((a.length : Nat) : Int)) = false := by simp
  refine ref12_Same_of rfl ?_
  unfold ref12_Same
  simp only [list_len ha, list_len hb, hq, key, n_bind, n_map, getL_0, getL_1, getL_2, getL_3, getL_4, getL_5, getL_6, getL_7, getL_8, getL_9, getL_10, getL_11, getL_12, condV_t, condV_f, guardV_tt, guardV_ff, guardV_tf, guardV_ft, guardV_u, apick_t, apick_f, exV_exit, exV_ret, lookE_same, joinK_eq, seqA_n, seqA_e, seqA_r, e_add, e_sub, e_mul, e_eql, e_neq, e_lss, e_leq, e_gtr, e_geq, e_conv, e_not, e_neg, and_guard, or_guard]
  exact ret1 rfl
theorem leafs_frz {v : Value} {s : St} {l : List BL} (h : listOf strC v s = some l) : listOf strC v (frzS s) = some l := by rw [list_frz]; exact h
theorem listN_frz {α : Type} {C : NCod α} {B : Nat} {l : List α} {s : St} {v : Value} (h : ListN C B l s v) (hC : ∀ a cs, C.rel a s cs → C.rel a (frzS s) cs) {i : Nat} (hn : C.n = 1) (hi : i < l.length) : ∃ p c, aindexS 1 v (.int .i64 (i : Int)) = some p ∧ aload false 1 p (frzS s) = some c ∧ aload false 1 p s = some c ∧ C.rel l[i] s [c] := by
  obtain ⟨p, c, h1, h2, h3⟩ := listN_at hn h hi
  refine ⟨p, c, h1, ?_, h2, h3⟩
  unfold aload at h2 ⊢
  split at h2
  · simp only [Bool.false_eq_true, if_false] at h2 ⊢
    rw [readRow_frz]
    exact h2
  · cases h2
section
variable {v w : Value} {s : St} {f f' : Bool} {p k q b p' k' q' b' : Value}
theorem sm0_loop {a : List Int} (ha : listOf (intC .i64) k s = some a) (hb : listOf (intC .i64) k' s = some a) (hl : a.length < 140737488355328) : ∀ (ra : List Int) (i : Nat), a.drop i = ra → i ≤ a.length →
    loopL (ref13_Same.b0 (run Try.prog (libL libT) hints)) [lptr, lptr, .int .i64 ((a.length : Nat) : Int), .int .i64 (i : Int), ndV f p k q b, ndV f' p' k' q' b'] s = some (.exit 0, [lptr, lptr, ndV f p k q b, ndV f' p' k' q' b'], s) := by
  have l2 : lload false 1 (.pointer (some ⟨0, 2, none⟩)) (ndV f p k q b) = some k := rfl
  have l2' : lload false 1 (.pointer (some ⟨0, 2, none⟩)) (ndV f' p' k' q' b') = some k' := rfl
  intro ra
  induction ra with
  | nil =>
    intro i h1 hle
    have hge := List.drop_eq_nil_iff.1 h1
    have hd : decide ((i : Int) < ((a.length : Nat) : Int)) = false := by simp; omega
    rw [loopL_eq]
    simp only [ref13_Same.b0, hd, n_bind, n_map, getL_0, getL_1, getL_2, getL_3, getL_4, getL_5, getL_6, getL_7, getL_8, getL_9, getL_10, getL_11, getL_12, condV_t, condV_f, guardV_tt, guardV_ff, guardV_tf, guardV_ft, guardV_u, apick_t, apick_f, exV_exit, exV_ret, lookE_same, joinK_eq, seqA_n, seqA_e, seqA_r, e_add, e_sub, e_mul, e_eql, e_neq, e_lss, e_leq, e_gtr, e_geq, e_conv, e_not, e_neg, and_guard, or_guard]
  | cons x ra ih =>
    intro i h1 hle
    obtain ⟨hlt, he, hd⟩ := drop_get h1
    have hdc : decide ((i : Int) < ((a.length : Nat) : Int)) = true := by simp; omega
    obtain ⟨x1, a1, a2⟩ := int_at (s := frzS s) (by rw [list_frz]; exact ha) hlt
    obtain ⟨y1, b1, b2⟩ := int_at (s := frzS s) (by rw [list_frz]; exact hb) hlt
    have key := ih (i + 1) hd (by omega)
    have hq : (a[i] != a[i]) = false := by simp
    rw [loopL_eq]
    simp only [ref13_Same.b0, hdc, p_2, l2, l2', a1, a2, b1, b2, hq, inc_i64 (show i < 140737488355328 by omega), n_bind, n_map, getL_0, getL_1, getL_2, getL_3, getL_4, getL_5, getL_6, getL_7, getL_8, getL_9, getL_10, getL_11, getL_12, condV_t, condV_f, guardV_tt, guardV_ff, guardV_tf, guardV_ft, guardV_u, apick_t, apick_f, exV_exit, exV_ret, lookE_same, joinK_eq, seqA_n, seqA_e, seqA_r, e_add, e_sub, e_mul, e_eql, e_neq, e_lss, e_leq, e_gtr, e_geq, e_conv, e_not, e_neg, and_guard, or_guard]
    exact key
theorem sm1_loop {a : List BL} (ha : listOf strC q s = some a) (hb : listOf strC q' s = some a) (hl : a.length < 140737488355328) : ∀ (ra : List BL) (i : Nat), a.drop i = ra → i ≤ a.length →
    loopL (ref13_Same.b1 (run Try.prog (libL libT) hints)) [lptr, lptr, .int .i64 ((a.length : Nat) : Int), .int .i64 (i : Int), ndV f p k q b, ndV f' p' k' q' b'] s = some (.exit 2, [lptr, lptr, ndV f p k q b, ndV f' p' k' q' b'], s) := by
  have l2 : lload false 1 (.pointer (some ⟨0, 3, none⟩)) (ndV f p k q b) = some q := rfl
  have l2' : lload false 1 (.pointer (some ⟨0, 3, none⟩)) (ndV f' p' k' q' b') = some q' := rfl
  intro ra
  induction ra with
  | nil =>
    intro i h1 hle
    have hge := List.drop_eq_nil_iff.1 h1
    have hd : decide ((i : Int) < ((a.length : Nat) : Int)) = false := by simp; omega
    rw [loopL_eq]
    simp only [ref13_Same.b1, hd, n_bind, n_map, getL_0, getL_1, getL_2, getL_3, getL_4, getL_5, getL_6, getL_7, getL_8, getL_9, getL_10, getL_11, getL_12, condV_t, condV_f, guardV_tt, guardV_ff, guardV_tf, guardV_ft, guardV_u, apick_t, apick_f, exV_exit, exV_ret, lookE_same, joinK_eq, seqA_n, seqA_e, seqA_r, e_add, e_sub, e_mul, e_eql, e_neq, e_lss, e_leq, e_gtr, e_geq, e_conv, e_not, e_neg, and_guard, or_guard]
  | cons x ra ih =>
    intro i h1 hle
    obtain ⟨hlt, he, hd⟩ := drop_get h1
    have hdc : decide ((i : Int) < ((a.length : Nat) : Int)) = true := by simp; omega
    obtain ⟨x1, a1, a2⟩ := str_at (s := frzS s) (by rw [list_frz]; exact ha) hlt
    obtain ⟨y1, b1, b2⟩ := str_at (s := frzS s) (by rw [list_frz]; exact hb) hlt
    have key := ih (i + 1) hd (by omega)
    have hq : (!(a[i] == a[i])) = false := by simp
    rw [loopL_eq]
    simp only [ref13_Same.b1, hdc, p_3, l2, l2', a1, a2, b1, b2, e_sneq, hq, inc_i64 (show i < 140737488355328 by omega), n_bind, n_map, getL_0, getL_1, getL_2, getL_3, getL_4, getL_5, getL_6, getL_7, getL_8, getL_9, getL_10, getL_11, getL_12, condV_t, condV_f, guardV_tt, guardV_ff, guardV_tf, guardV_ft, guardV_u, apick_t, apick_f, exV_exit, exV_ret, lookE_same, joinK_eq, seqA_n, seqA_e, seqA_r, e_add, e_sub, e_mul, e_eql, e_neq, e_lss, e_leq, e_gtr, e_geq, e_conv, e_not, e_neg, and_guard, or_guard]
    exact key
theorem sm2_loop {a : List (List En)} (ha : ListN (.list enN 88) 24 a s b) (hb : ListN (.list enN 88) 24 a s b') (hl : a.length < 140737488355328) : ∀ (ra : List (List En)) (i : Nat), a.drop i = ra → i ≤ a.length →
    loopL (ref13_Same.b2 (run Try.prog (libL libT) hints)) [lptr, lptr, .int .i64 ((a.length : Nat) : Int), .int .i64 (i : Int), ndV f p k q b, ndV f' p' k' q' b'] s = some (.exit 4, [], s) := by
  have l2 : lload false 1 (.pointer (some ⟨0, 4, none⟩)) (ndV f p k q b) = some b := rfl
  have l2' : lload false 1 (.pointer (some ⟨0, 4, none⟩)) (ndV f' p' k' q' b') = some b' := rfl
  intro ra
  induction ra with
  | nil =>
    intro i h1 hle
    have hge := List.drop_eq_nil_iff.1 h1
    have hd : decide ((i : Int) < ((a.length : Nat) : Int)) = false := by simp; omega
    rw [loopL_eq]
    simp only [ref13_Same.b2, hd, n_bind, n_map, getL_0, getL_1, getL_2, getL_3, getL_4, getL_5, getL_6, getL_7, getL_8, getL_9, getL_10, getL_11, getL_12, condV_t, condV_f, guardV_tt, guardV_ff, guardV_tf, guardV_ft, guardV_u, apick_t, apick_f, exV_exit, exV_ret, lookE_same, joinK_eq, seqA_n, seqA_e, seqA_r, e_add, e_sub, e_mul, e_eql, e_neq, e_lss, e_leq, e_gtr, e_geq, e_conv, e_not, e_neg, and_guard, or_guard]
  | cons x ra ih =>
    intro i h1 hle
    obtain ⟨hlt, he, hd⟩ := drop_get h1
    have hdc : decide ((i : Int) < ((a.length : Nat) : Int)) = true := by simp; omega
    obtain ⟨x1, c1, a1, a2, _, a3⟩ := listN_frz ha (fun l cs h => by
      obtain ⟨v, rfl, g1, g2⟩ := h
      refine ⟨v, rfl, g1, ?_⟩
      rcases g2 with g2 | ⟨bb, css, st, kk, g3, g4, g5, g6⟩
      · exact .inl g2
      · refine .inr ⟨bb, css, .ro, kk, g3, ?_, by simp, g6⟩
        rw [frzS_get, g4]
        cases st with
        | dead => exact absurd rfl g5
        | act => rfl
        | ro => rfl) rfl hlt
    obtain ⟨y1, c2, b1, b2, _, b3⟩ := listN_frz hb (fun l cs h => by
      obtain ⟨v, rfl, g1, g2⟩ := h
      refine ⟨v, rfl, g1, ?_⟩
      rcases g2 with g2 | ⟨bb, css, st, kk, g3, g4, g5, g6⟩
      · exact .inl g2
      · refine .inr ⟨bb, css, .ro, kk, g3, ?_, by simp, g6⟩
        rw [frzS_get, g4]
        cases st with
        | dead => exact absurd rfl g5
        | act => rfl
        | ro => rfl) rfl hlt
    obtain ⟨d1, d2⟩ := row_plain a3
    obtain ⟨d3, _⟩ := row_plain b3
    have key := ih (i + 1) hd (by omega)
    rw [loopL_eq]
    simp only [ref13_Same.b2, hdc, p_4, l2, l2', a1, a2, b1, b2, ref12_Same_call, eqE_run d1 d3 d2, own_id, Bool.not_true, inc_i64 (show i < 140737488355328 by omega), n_bind, n_map, getL_0, getL_1, getL_2, getL_3, getL_4, getL_5, getL_6, getL_7, getL_8, getL_9, getL_10, getL_11, getL_12, condV_t, condV_f, guardV_tt, guardV_ff, guardV_tf, guardV_ft, guardV_u, apick_t, apick_f, exV_exit, exV_ret, lookE_same, joinK_eq, seqA_n, seqA_e, seqA_r, e_add, e_sub, e_mul, e_eql, e_neq, e_lss, e_leq, e_gtr, e_geq, e_conv, e_not, e_neg, and_guard, or_guard]
    exact key
end
/-- two of the same -/
theorem Same_run {n : Nd} {s : St} {v w : Value} (h : NArg nodeC n s v) (g : NArg nodeC n s w) : (run Try.prog (libL libT) hints) 10 [v, w] s = some (.bool true, s) := by
  obtain ⟨p, k, q, b, rfl, hp, hk, hq, hb⟩ := node_inv h
  obtain ⟨p', k', q', b', rfl, hp', hk', hq', hb'⟩ := node_inv g
  have hlf : leafs p k q b := ⟨listN_leaf hp, listN_leaf hk, listN_leaf hq, listN_leaf hb⟩
  have hlf' : leafs p' k' q' b' := ⟨listN_leaf hp', listN_leaf hk', listN_leaf hq', listN_leaf hb'⟩
  have hv : (.agg #[.bool n.leaf, p, k, q, b] : Value) = ndV n.leaf p k q b := rfl
  have hv' : (.agg #[.bool n.leaf, p', k', q', b'] : Value) = ndV n.leaf p' k' q' b' := rfl
  rw [hv, hv']
  obtain ⟨p1, _, p2⟩ := hp.plain
  obtain ⟨k1, _, k2⟩ := hk.plain
  obtain ⟨q1, _, q2⟩ := (ListN.plain (C := strC) (Pr := fun k => k.length ≤ reachBytes) hq)
  obtain ⟨p1', _, _⟩ := hp'.plain
  obtain ⟨k1', _, _⟩ := hk'.plain
  obtain ⟨q1', _, _⟩ := (ListN.plain (C := strC) (Pr := fun k => k.length ≤ reachBytes) hq')
  have b2 : n.bufs.length * 24 ≤ 140737488351232 := hb.1
  have lb : ∀ e s, alenV (.slice e) b s = some (.int .i64 ((n.bufs.length : Nat) : Int)) := fun e s => listN_len hb
  have lb' : ∀ e s, alenV (.slice e) b' s = some (.int .i64 ((n.bufs.length : Nat) : Int)) := fun e s => listN_len hb'
  have f0 : ∀ p k q b, lload false 1 lptr (ndV n.leaf p k q b) = some (.bool n.leaf) := fun p k q b => rfl
  have f1 : ∀ p k q b, lload false 1 (.pointer (some ⟨0, 1, none⟩)) (ndV n.leaf p k q b) = some p := fun p k q b => rfl
  have f2 : ∀ p k q b, lload false 1 (.pointer (some ⟨0, 2, none⟩)) (ndV n.leaf p k q b) = some k := fun p k q b => rfl
  have f3 : ∀ p k q b, lload false 1 (.pointer (some ⟨0, 3, none⟩)) (ndV n.leaf p k q b) = some q := fun p k q b => rfl
  have f4 : ∀ p k q b, lload false 1 (.pointer (some ⟨0, 4, none⟩)) (ndV n.leaf p k q b) = some b := fun p k q b => rfl
  have hS : (run Try.prog (libL libT) hints) 25 [p, p'] s = some (.bool true, s) := by
    have := ref04_SameMap_of (lib := libL libT) rfl (same_run (R := (run Try.prog (libL libT) hints)) p1 p1' (by omega))
    simpa using this
  have key0 := sm0_loop (f := n.leaf) (f' := n.leaf) (p := p) (q := q) (b := b) (p' := p') (q' := q') (b' := b') k1 k1' (by omega) n.kids 0 rfl (Nat.zero_le _)
  have key1 := sm1_loop (f := n.leaf) (f' := n.leaf) (p := p) (k := k) (b := b) (p' := p') (k' := k') (b' := b') q1 q1' (by omega) n.pivots 0 rfl (Nat.zero_le _)
  have key2 := sm2_loop (f := n.leaf) (f' := n.leaf) (p := p) (k := k) (q := q) (p' := p') (k' := k') (q' := q') hb hb' (by omega) n.bufs 0 rfl (Nat.zero_le _)
  rw [show ((0 : Nat) : Int) = 0 from rfl] at key0 key1 key2
  have e0 : (n.leaf != n.leaf) = false := by simp
  have e1 : (((n.kids.length : Nat) : Int) != ((n.kids.length : Nat) : Int)) = false := by simp
  have e2 : (((n.pivots.length : Nat) : Int) != ((n.pivots.length : Nat) : Int)) = false := by simp
  have e3 : (((n.bufs.length : Nat) : Int) != ((n.bufs.length : Nat) : Int)) = false := by simp
  refine ref13_Same_of rfl ?_
  unfold ref13_Same
  simp only [nd_box n.leaf p k q b hlf, nd_box n.leaf p' k' q' b' hlf', f0, f1, f2, f3, f4, ne_bool, e0, ref04_SameMap_call, hS, Bool.not_true, list_len k1, list_len k1', e1, list_len q1, list_len q1', e2, lb, lb', e3, Bool.or_self, key0, p_3, p_4, key1, key2, n_bind, n_map, getL_0, getL_1, getL_2, getL_3, getL_4, getL_5, getL_6, getL_7, getL_8, getL_9, getL_10, getL_11, getL_12, condV_t, condV_f, guardV_tt, guardV_ff, guardV_tf, guardV_ft, guardV_u, apick_t, apick_f, exV_exit, exV_ret, lookE_same, joinK_eq, seqA_n, seqA_e, seqA_r, e_add, e_sub, e_mul, e_eql, e_neq, e_lss, e_leq, e_gtr, e_geq, e_conv, e_not, e_neg, and_guard, or_guard]
  exact ret1 rfl

end Go.Proofs.Ytamaapapaiopiaa.Ab

/- Rows of one's own are written over. -/
namespace Go.Proofs.Ytamaapapaiopiaa.Ab
open Go

def RowA (s : St) (B n L : Nat) : Prop := ∃ cells, s.heap[B]? = some (.row n cells .act) ∧ cells.length = L
structure Wr (B : Nat) (s t : St) : Prop where
  len : t.heap.length = s.heap.length
  oth : ∀ c, c ≠ B → t.heap[c]? = s.heap[c]?
  row : ∀ n L, RowA s B n L → RowA t B n L
theorem Wr.refl (B : Nat) (s : St) : Wr B s s := ⟨rfl, fun _ _ => rfl, fun _ _ h => h⟩
theorem Wr.trans {B : Nat} {s t u : St} (h : Wr B s t) (g : Wr B t u) : Wr B s u := ⟨g.len.trans h.len, fun c hc => (g.oth c hc).trans (h.oth c hc), fun n L hr => g.row n L (h.row n L hr)⟩
theorem Wr.rowA {B B' n L : Nat} {s t : St} (h : Wr B s t) (hr : RowA s B' n L) : RowA t B' n L := by
  by_cases c : B' = B
  · subst c; exact h.row n L hr
  · obtain ⟨cells, h1, h2⟩ := hr
    exact ⟨cells, by rw [h.oth B' c]; exact h1, h2⟩
/-- some of the blocks are written, none below lo -/
structure Wrs (lo : Nat) (s t : St) : Prop where
  len : t.heap.length = s.heap.length
  oth : ∀ c, c < lo → t.heap[c]? = s.heap[c]?
  row : ∀ B n L, RowA s B n L → RowA t B n L
theorem Wrs.refl (lo : Nat) (s : St) : Wrs lo s s := ⟨rfl, fun _ _ => rfl, fun _ _ _ h => h⟩
theorem Wrs.trans {lo : Nat} {s t u : St} (h : Wrs lo s t) (g : Wrs lo t u) : Wrs lo s u := ⟨g.len.trans h.len, fun c hc => (g.oth c hc).trans (h.oth c hc), fun B n L hr => g.row B n L (h.row B n L hr)⟩
theorem Wr.wrs {B lo : Nat} {s t : St} (h : Wr B s t) (hB : lo ≤ B) : Wrs lo s t := ⟨h.len, fun c hc => h.oth c (by omega), fun _ _ _ hr => h.rowA hr⟩
theorem Wrs.ext {lo : Nat} {s t : St} (h : Wrs lo s t) : Ext lo s t := ⟨by rw [h.len]; exact Nat.le_refl _, fun b hb => h.oth b hb⟩
theorem rowA_write {s : St} {B n L off : Nat} {v : Value} (h : RowA s B n L) (ho : off < L) (hv : isLeaf v = true) (hc : cellsV v = [v]) : ∃ t, astore 1 (.pointer (some ⟨B, off, none⟩)) v s = some t ∧ Wr B s t ∧ ∀ cells, s.heap[B]? = some (.row n cells .act) → t.heap[B]? = some (.row n (cells.set off v) .act) := by
  obtain ⟨cells, h1, h2⟩ := h
  have hB : B < s.heap.length := (List.getElem?_eq_some_iff.1 h1).1
  refine ⟨_, st_cell h1 (by omega) hv hc, ⟨putB_len, fun c hcc => putB_ne hcc, fun n' L' hr => ?_⟩, fun cells' h' => ?_⟩
  · obtain ⟨cells', g1, g2⟩ := hr
    rw [h1] at g1
    cases g1
    exact ⟨_, putB_get hB, by simpa using g2⟩
  · rw [h1] at h'
    cases h'
    exact putB_get hB
/-- a list's row -/
theorem OList.rowA {α : Type} {O : OCod α} {B lo hi : Nat} {l : List α} {s : St} {v : Value} (h : OList O B lo hi l s v) : (v = .slice none 0 0 ∧ l = []) ∨ ∃ b, v = .slice (some ⟨b, 0, none⟩) l.length l.length ∧ lo ≤ b ∧ b < hi ∧ RowA s b O.C.n (l.length * O.C.n) := by
  rcases h.2 with h | ⟨b, css, h1, h2, h3, h4, h5, h6⟩
  · exact .inl h
  · exact .inr ⟨b, h1, h2, h3, _, h5, (flat_len h6).1⟩

end Go.Proofs.Ytamaapapaiopiaa.Ab

/- A node is written over. -/
namespace Go.Proofs.Ytamaapapaiopiaa.Ab
open Go

theorem zz_leaf : isLeaf (.string ⟨#[122, 122]⟩) = true ∧ cellsV (.string ⟨#[122, 122]⟩) = [.string ⟨#[122, 122]⟩] := ⟨rfl, rfl⟩
theorem alen_s {a : Option Addr} {len cap : Nat} {e : TypeId} {s : St} : alenV (.slice e) (.slice a len cap) s = some (.int .i64 (len : Int)) := rfl
section
variable {f : Bool} {p k q b : Value} {B len : Nat} (hlen : len < 140737488355328)
include hlen
theorem sp0_loop : ∀ (m i : Nat) (s : St), i + m = len → RowA s B 2 (len * 2) →
    ∃ t, loopL (law13_spoil.b0 (run Try.prog (libL libT) hints)) [lptr, .int .i64 (len : Int), .int .i64 (i : Int), ndV f (.slice (some ⟨B, 0, none⟩) len len) k q b] s = some (.exit 0, [lptr, ndV f (.slice (some ⟨B, 0, none⟩) len len) k q b], t) ∧ Wr B s t := by
  have l1 : lload false 1 (.pointer (some ⟨0, 1, none⟩)) (ndV f (.slice (some ⟨B, 0, none⟩) len len) k q b) = some (.slice (some ⟨B, 0, none⟩) len len) := rfl
  intro m
  induction m with
  | zero =>
    intro i s hi hr
    have h1 : decide ((i : Int) < (len : Int)) = false := by simp; omega
    refine ⟨s, ?_, .refl _ _⟩
    rw [loopL_eq]
    simp only [law13_spoil.b0, h1, n_bind, n_map, getL_0, getL_1, getL_2, getL_3, getL_4, getL_5, getL_6, getL_7, getL_8, getL_9, getL_10, getL_11, getL_12, condV_t, condV_f, guardV_tt, guardV_ff, guardV_tf, guardV_ft, guardV_u, apick_t, apick_f, exV_exit, exV_ret, lookE_same, joinK_eq, seqA_n, seqA_e, seqA_r, e_add, e_sub, e_mul, e_eql, e_neq, e_lss, e_leq, e_gtr, e_geq, e_conv, e_not, e_neg, and_guard, or_guard]
  | succ m ih =>
    intro i s hi hr
    have h1 : decide ((i : Int) < (len : Int)) = true := by simp; omega
    obtain ⟨t, g1, g2, _⟩ := rowA_write (off := i * 2 + 0) hr (by omega) zz_leaf.1 zz_leaf.2
    obtain ⟨u, g3, g4⟩ := ih (i + 1) t (by omega) (g2.row _ _ hr)
    have hix : aindexS 2 (.slice (some ⟨B, 0, none⟩) len len) (.int .i64 (i : Int)) = some (.pointer (some ⟨B, i * 2, none⟩)) := by simp [aindexS]; omega
    refine ⟨u, ?_, g2.trans g4⟩
    rw [loopL_eq, ← g3]
    simp only [law13_spoil.b0, h1, p_1, l1, hix, ad_at, g1, inc_i64 (show i < 140737488355328 by omega), n_bind, n_map, getL_0, getL_1, getL_2, getL_3, getL_4, getL_5, getL_6, getL_7, getL_8, getL_9, getL_10, getL_11, getL_12, condV_t, condV_f, guardV_tt, guardV_ff, guardV_tf, guardV_ft, guardV_u, apick_t, apick_f, exV_exit, exV_ret, lookE_same, joinK_eq, seqA_n, seqA_e, seqA_r, e_add, e_sub, e_mul, e_eql, e_neq, e_lss, e_leq, e_gtr, e_geq, e_conv, e_not, e_neg, and_guard, or_guard]
theorem sp1_loop : ∀ (m i : Nat) (s : St), i + m = len → RowA s B 1 (len * 1) →
    ∃ t, loopL (law13_spoil.b1 (run Try.prog (libL libT) hints)) [lptr, .int .i64 (len : Int), .int .i64 (i : Int), ndV f p (.slice (some ⟨B, 0, none⟩) len len) q b] s = some (.exit 2, [lptr, ndV f p (.slice (some ⟨B, 0, none⟩) len len) q b], t) ∧ Wr B s t := by
  have l1 : lload false 1 (.pointer (some ⟨0, 2, none⟩)) (ndV f p (.slice (some ⟨B, 0, none⟩) len len) q b) = some (.slice (some ⟨B, 0, none⟩) len len) := rfl
  intro m
  induction m with
  | zero =>
    intro i s hi hr
    have h1 : decide ((i : Int) < (len : Int)) = false := by simp; omega
    refine ⟨s, ?_, .refl _ _⟩
    rw [loopL_eq]
    simp only [law13_spoil.b1, h1, n_bind, n_map, getL_0, getL_1, getL_2, getL_3, getL_4, getL_5, getL_6, getL_7, getL_8, getL_9, getL_10, getL_11, getL_12, condV_t, condV_f, guardV_tt, guardV_ff, guardV_tf, guardV_ft, guardV_u, apick_t, apick_f, exV_exit, exV_ret, lookE_same, joinK_eq, seqA_n, seqA_e, seqA_r, e_add, e_sub, e_mul, e_eql, e_neq, e_lss, e_leq, e_gtr, e_geq, e_conv, e_not, e_neg, and_guard, or_guard]
  | succ m ih =>
    intro i s hi hr
    have h1 : decide ((i : Int) < (len : Int)) = true := by simp; omega
    obtain ⟨t, g1, g2, _⟩ := rowA_write (off := i) (v := .int .i64 (-7)) hr (by omega) rfl rfl
    obtain ⟨u, g3, g4⟩ := ih (i + 1) t (by omega) (g2.row _ _ hr)
    have hix : aindexS 1 (.slice (some ⟨B, 0, none⟩) len len) (.int .i64 (i : Int)) = some (.pointer (some ⟨B, i, none⟩)) := by simp [aindexS]; omega
    refine ⟨u, ?_, g2.trans g4⟩
    rw [loopL_eq, ← g3]
    simp only [law13_spoil.b1, h1, p_2, l1, hix, g1, inc_i64 (show i < 140737488355328 by omega), n_bind, n_map, getL_0, getL_1, getL_2, getL_3, getL_4, getL_5, getL_6, getL_7, getL_8, getL_9, getL_10, getL_11, getL_12, condV_t, condV_f, guardV_tt, guardV_ff, guardV_tf, guardV_ft, guardV_u, apick_t, apick_f, exV_exit, exV_ret, lookE_same, joinK_eq, seqA_n, seqA_e, seqA_r, e_add, e_sub, e_mul, e_eql, e_neq, e_lss, e_leq, e_gtr, e_geq, e_conv, e_not, e_neg, and_guard, or_guard]
theorem sp2_loop : ∀ (m i : Nat) (s : St), i + m = len → RowA s B 1 (len * 1) →
    ∃ t, loopL (law13_spoil.b2 (run Try.prog (libL libT) hints)) [lptr, .int .i64 (len : Int), .int .i64 (i : Int), ndV f p k (.slice (some ⟨B, 0, none⟩) len len) b] s = some (.exit 4, [lptr, ndV f p k (.slice (some ⟨B, 0, none⟩) len len) b], t) ∧ Wr B s t := by
  have l1 : lload false 1 (.pointer (some ⟨0, 3, none⟩)) (ndV f p k (.slice (some ⟨B, 0, none⟩) len len) b) = some (.slice (some ⟨B, 0, none⟩) len len) := rfl
  intro m
  induction m with
  | zero =>
    intro i s hi hr
    have h1 : decide ((i : Int) < (len : Int)) = false := by simp; omega
    refine ⟨s, ?_, .refl _ _⟩
    rw [loopL_eq]
    simp only [law13_spoil.b2, h1, n_bind, n_map, getL_0, getL_1, getL_2, getL_3, getL_4, getL_5, getL_6, getL_7, getL_8, getL_9, getL_10, getL_11, getL_12, condV_t, condV_f, guardV_tt, guardV_ff, guardV_tf, guardV_ft, guardV_u, apick_t, apick_f, exV_exit, exV_ret, lookE_same, joinK_eq, seqA_n, seqA_e, seqA_r, e_add, e_sub, e_mul, e_eql, e_neq, e_lss, e_leq, e_gtr, e_geq, e_conv, e_not, e_neg, and_guard, or_guard]
  | succ m ih =>
    intro i s hi hr
    have h1 : decide ((i : Int) < (len : Int)) = true := by simp; omega
    obtain ⟨t, g1, g2, _⟩ := rowA_write (off := i) hr (by omega) zz_leaf.1 zz_leaf.2
    obtain ⟨u, g3, g4⟩ := ih (i + 1) t (by omega) (g2.row _ _ hr)
    have hix : aindexS 1 (.slice (some ⟨B, 0, none⟩) len len) (.int .i64 (i : Int)) = some (.pointer (some ⟨B, i, none⟩)) := by simp [aindexS]; omega
    refine ⟨u, ?_, g2.trans g4⟩
    rw [loopL_eq, ← g3]
    simp only [law13_spoil.b2, h1, p_3, l1, hix, g1, inc_i64 (show i < 140737488355328 by omega), n_bind, n_map, getL_0, getL_1, getL_2, getL_3, getL_4, getL_5, getL_6, getL_7, getL_8, getL_9, getL_10, getL_11, getL_12, condV_t, condV_f, guardV_tt, guardV_ff, guardV_tf, guardV_ft, guardV_u, apick_t, apick_f, exV_exit, exV_ret, lookE_same, joinK_eq, seqA_n, seqA_e, seqA_r, e_add, e_sub, e_mul, e_eql, e_neq, e_lss, e_leq, e_gtr, e_geq, e_conv, e_not, e_neg, and_guard, or_guard]
end
theorem sp4_loop {f : Bool} {p k q : Value} {Bo lo2 i A1 A2 b2 n2 : Nat} {P2 P3 : Value} (hi : i < lo2) {B2 len : Nat} (hlen : len < 140737488355328) {ocells : List Value} (hoc : ocells[i]? = some (.slice (some ⟨B2, 0, none⟩) len len)) (hne : B2 ≠ Bo) : ∀ (m j : Nat) (s : St), j + m = len → RowA s B2 7 (len * 7) → s.heap[Bo]? = some (.row 1 ocells .act) →
    ∃ t, loopL (law13_spoil.b4 (run Try.prog (libL libT) hints)) [lptr, .int .i64 (i : Int), P2, P3, .int .i64 (len : Int), .int .i64 (j : Int), ndV f p k q (.slice (some ⟨Bo, 0, none⟩) lo2 lo2)] s = some (.exit 8, [lptr, .int .i64 (i : Int), P2, P3, ndV f p k q (.slice (some ⟨Bo, 0, none⟩) lo2 lo2)], t) ∧ Wr B2 s t := by
  have l1 : lload false 1 (.pointer (some ⟨0, 4, none⟩)) (ndV f p k q (.slice (some ⟨Bo, 0, none⟩) lo2 lo2)) = some (.slice (some ⟨Bo, 0, none⟩) lo2 lo2) := rfl
  have hix0 : aindexS 1 (.slice (some ⟨Bo, 0, none⟩) lo2 lo2) (.int .i64 (i : Int)) = some (.pointer (some ⟨Bo, i, none⟩)) := by simp [aindexS]; omega
  intro m
  induction m with
  | zero =>
    intro j s hj hr ho
    have h1 : decide ((j : Int) < (len : Int)) = false := by simp; omega
    refine ⟨s, ?_, .refl _ _⟩
    rw [loopL_eq]
    simp only [law13_spoil.b4, h1, n_bind, n_map, getL_0, getL_1, getL_2, getL_3, getL_4, getL_5, getL_6, getL_7, getL_8, getL_9, getL_10, getL_11, getL_12, condV_t, condV_f, guardV_tt, guardV_ff, guardV_tf, guardV_ft, guardV_u, apick_t, apick_f, exV_exit, exV_ret, lookE_same, joinK_eq, seqA_n, seqA_e, seqA_r, e_add, e_sub, e_mul, e_eql, e_neq, e_lss, e_leq, e_gtr, e_geq, e_conv, e_not, e_neg, and_guard, or_guard]
  | succ m ih =>
    intro j s hj hr ho
    have h1 : decide ((j : Int) < (len : Int)) = true := by simp; omega
    obtain ⟨t, g1, g2, _⟩ := rowA_write (off := j * 7 + 0) (v := .int .u64 0) hr (by omega) rfl rfl
    obtain ⟨u, g3, g4⟩ := ih (j + 1) t (by omega) (g2.row _ _ hr) (by rw [g2.oth Bo (Ne.symm hne)]; exact ho)
    have hix : aindexS 7 (.slice (some ⟨B2, 0, none⟩) len len) (.int .i64 (j : Int)) = some (.pointer (some ⟨B2, j * 7, none⟩)) := by simp [aindexS]; omega
    have hl := ld_cell (i := i) ho (by simp) hoc
    refine ⟨u, ?_, g2.trans g4⟩
    rw [loopL_eq, ← g3]
    simp only [law13_spoil.b4, h1, p_4, l1, hix0, hl, hix, ad_at, g1, inc_i64 (show j < 140737488355328 by omega), n_bind, n_map, getL_0, getL_1, getL_2, getL_3, getL_4, getL_5, getL_6, getL_7, getL_8, getL_9, getL_10, getL_11, getL_12, condV_t, condV_f, guardV_tt, guardV_ff, guardV_tf, guardV_ft, guardV_u, apick_t, apick_f, exV_exit, exV_ret, lookE_same, joinK_eq, seqA_n, seqA_e, seqA_r, e_add, e_sub, e_mul, e_eql, e_neq, e_lss, e_leq, e_gtr, e_geq, e_conv, e_not, e_neg, and_guard, or_guard]
theorem sp3_loop {f : Bool} {p k q : Value} {Bo len lo : Nat} (hlen : len < 140737488355328) (hlo : lo ≤ Bo) : ∀ (m i : Nat) (s : St) (ocells : List Value), i + m = len → s.heap[Bo]? = some (.row 1 ocells .act) → ocells.length = len →
    (∀ j, i ≤ j → j < len → ∃ c, ocells[j]? = some c ∧ (c = .slice none 0 0 ∨ ∃ B2 n2, c = .slice (some ⟨B2, 0, none⟩) n2 n2 ∧ n2 < 140737488355328 ∧ lo ≤ B2 ∧ B2 ≠ Bo ∧ RowA s B2 7 (n2 * 7))) →
    ∃ t, loopL (law13_spoil.b3 (run Try.prog (libL libT) hints)) [lptr, .int .i64 (len : Int), .int .i64 (i : Int), ndV f p k q (.slice (some ⟨Bo, 0, none⟩) len len)] s = some (.exit 6, [], t) ∧ Wrs lo s t := by
  have l1 : lload false 1 (.pointer (some ⟨0, 4, none⟩)) (ndV f p k q (.slice (some ⟨Bo, 0, none⟩) len len)) = some (.slice (some ⟨Bo, 0, none⟩) len len) := rfl
  intro m
  induction m with
  | zero =>
    intro i s ocells hi ho hol hc
    have h1 : decide ((i : Int) < (len : Int)) = false := by simp; omega
    refine ⟨s, ?_, .refl _ _⟩
    rw [loopL_eq]
    simp only [law13_spoil.b3, h1, n_bind, n_map, getL_0, getL_1, getL_2, getL_3, getL_4, getL_5, getL_6, getL_7, getL_8, getL_9, getL_10, getL_11, getL_12, condV_t, condV_f, guardV_tt, guardV_ff, guardV_tf, guardV_ft, guardV_u, apick_t, apick_f, exV_exit, exV_ret, lookE_same, joinK_eq, seqA_n, seqA_e, seqA_r, e_add, e_sub, e_mul, e_eql, e_neq, e_lss, e_leq, e_gtr, e_geq, e_conv, e_not, e_neg, and_guard, or_guard]
  | succ m ih =>
    intro i s ocells hi ho hol hc
    have h1 : decide ((i : Int) < (len : Int)) = true := by simp; omega
    have hix0 : aindexS 1 (.slice (some ⟨Bo, 0, none⟩) len len) (.int .i64 (i : Int)) = some (.pointer (some ⟨Bo, i, none⟩)) := by simp [aindexS]; omega
    obtain ⟨c, hci, hcc⟩ := hc i (Nat.le_refl _) (by omega)
    have hl := ld_cell (i := i) ho (by simp) hci
    have inner : ∃ (n2 : Nat) (t : St), (∀ e s', alenV (.slice e) c s' = some (.int .i64 (n2 : Int))) ∧ loopL (law13_spoil.b4 (run Try.prog (libL libT) hints)) [lptr, .int .i64 (i : Int), .int .i64 (len : Int), .int .i64 (i : Int), .int .i64 (n2 : Int), .int .i64 0, ndV f p k q (.slice (some ⟨Bo, 0, none⟩) len len)] s = some (.exit 8, [lptr, .int .i64 (i : Int), .int .i64 (len : Int), .int .i64 (i : Int), ndV f p k q (.slice (some ⟨Bo, 0, none⟩) len len)], t) ∧ Wrs lo s t ∧ t.heap[Bo]? = some (.row 1 ocells .act) := by
      rcases hcc with rfl | ⟨B2, n2, rfl, hn2, hlo2, hne, hr⟩
      · refine ⟨0, s, fun e s' => rfl, ?_, .refl _ _, ho⟩
        have h0 : decide ((0 : Int) < ((0 : Nat) : Int)) = false := rfl
        rw [loopL_eq]
        simp only [law13_spoil.b4, h0, n_bind, n_map, getL_0, getL_1, getL_2, getL_3, getL_4, getL_5, getL_6, getL_7, getL_8, getL_9, getL_10, getL_11, getL_12, condV_t, condV_f, guardV_tt, guardV_ff, guardV_tf, guardV_ft, guardV_u, apick_t, apick_f, exV_exit, exV_ret, lookE_same, joinK_eq, seqA_n, seqA_e, seqA_r, e_add, e_sub, e_mul, e_eql, e_neq, e_lss, e_leq, e_gtr, e_geq, e_conv, e_not, e_neg, and_guard, or_guard]
      · obtain ⟨t, g1, g2⟩ := sp4_loop (f := f) (p := p) (k := k) (q := q) (Bo := Bo) (lo2 := len) (i := i) (A1 := 0) (A2 := 0) (b2 := 0) (n2 := 0) (P2 := .int .i64 (len : Int)) (P3 := .int .i64 (i : Int)) (by omega) hn2 hci hne n2 0 s (by omega) hr ho
        exact ⟨n2, t, fun e s' => rfl, g1, g2.wrs hlo2, by rw [g2.oth Bo (Ne.symm hne)]; exact ho⟩
    obtain ⟨n2, t, i1, i2, i3, i4⟩ := inner
    obtain ⟨t2, j1, j2, j3⟩ := rowA_write (off := i) (v := .slice none 0 0) (n := 1) (L := len) ⟨ocells, i4, hol⟩ (by omega) rfl rfl
    have j4 := j3 ocells i4
    obtain ⟨u, k1, k2⟩ := ih (i + 1) t2 (ocells.set i (.slice none 0 0)) (by omega) j4 (by simpa using hol) (fun j hj1 hj2 => by
      obtain ⟨cj, e1, e2⟩ := hc j (by omega) hj2
      refine ⟨cj, by rw [List.getElem?_set_ne (by omega)]; exact e1, ?_⟩
      rcases e2 with e2 | ⟨B3, n3, f1, f2, f3, f4, f5⟩
      · exact .inl e2
      · exact .inr ⟨B3, n3, f1, f2, f3, f4, j2.rowA (i3.row _ _ _ f5)⟩)
    refine ⟨u, ?_, i3.trans ((j2.wrs hlo).trans k2)⟩
    rw [loopL_eq, ← k1]
    simp only [law13_spoil.b3, h1, p_4, l1, hix0, hl, i1, i2, j1, inc_i64 (show i < 140737488355328 by omega), n_bind, n_map, getL_0, getL_1, getL_2, getL_3, getL_4, getL_5, getL_6, getL_7, getL_8, getL_9, getL_10, getL_11, getL_12, condV_t, condV_f, guardV_tt, guardV_ff, guardV_tf, guardV_ft, guardV_u, apick_t, apick_f, exV_exit, exV_ret, lookE_same, joinK_eq, seqA_n, seqA_e, seqA_r, e_add, e_sub, e_mul, e_eql, e_neq, e_lss, e_leq, e_gtr, e_geq, e_conv, e_not, e_neg, and_guard, or_guard]
theorem spoil_nil {s : St} : ∃ t, (run Try.prog (libL libT) hints) 11 [zN] s = some (undef, t) ∧ Wrs s.heap.length s t := by
  refine ⟨s, law13_spoil_of rfl ?_, .refl _ _⟩
  have hz : zN = ndV false (.slice none 0 0) (.slice none 0 0) (.slice none 0 0) (.slice none 0 0) := rfl
  have h0 : decide ((0 : Int) < ((0 : Nat) : Int)) = false := rfl
  have f1 : ∀ p k q b, lload false 1 (.pointer (some ⟨0, 1, none⟩)) (ndV false p k q b) = some p := fun p k q b => rfl
  have f2 : ∀ p k q b, lload false 1 (.pointer (some ⟨0, 2, none⟩)) (ndV false p k q b) = some k := fun p k q b => rfl
  have f3 : ∀ p k q b, lload false 1 (.pointer (some ⟨0, 3, none⟩)) (ndV false p k q b) = some q := fun p k q b => rfl
  have f4 : ∀ p k q b, lload false 1 (.pointer (some ⟨0, 4, none⟩)) (ndV false p k q b) = some b := fun p k q b => rfl
  have hb := nd_box false (.slice none 0 0) (.slice none 0 0) (.slice none 0 0) (.slice none 0 0) ⟨rfl, rfl, rfl, rfl⟩
  rw [hz]
  unfold law13_spoil
  simp only [hb, f1, alen_s, n_bind, n_map, getL_0, getL_1, getL_2, getL_3, getL_4, getL_5, getL_6, getL_7, getL_8, getL_9, getL_10, getL_11, getL_12, condV_t, condV_f, guardV_tt, guardV_ff, guardV_tf, guardV_ft, guardV_u, apick_t, apick_f, exV_exit, exV_ret, lookE_same, joinK_eq, seqA_n, seqA_e, seqA_r, e_add, e_sub, e_mul, e_eql, e_neq, e_lss, e_leq, e_gtr, e_geq, e_conv, e_not, e_neg, and_guard, or_guard]
  rw [loopL_eq]
  simp only [law13_spoil.b0, h0, p_2, f2, alen_s, n_bind, n_map, getL_0, getL_1, getL_2, getL_3, getL_4, getL_5, getL_6, getL_7, getL_8, getL_9, getL_10, getL_11, getL_12, condV_t, condV_f, guardV_tt, guardV_ff, guardV_tf, guardV_ft, guardV_u, apick_t, apick_f, exV_exit, exV_ret, lookE_same, joinK_eq, seqA_n, seqA_e, seqA_r, e_add, e_sub, e_mul, e_eql, e_neq, e_lss, e_leq, e_gtr, e_geq, e_conv, e_not, e_neg, and_guard, or_guard]
  rw [loopL_eq]
  simp only [law13_spoil.b1, h0, p_3, f3, alen_s, n_bind, n_map, getL_0, getL_1, getL_2, getL_3, getL_4, getL_5, getL_6, getL_7, getL_8, getL_9, getL_10, getL_11, getL_12, condV_t, condV_f, guardV_tt, guardV_ff, guardV_tf, guardV_ft, guardV_u, apick_t, apick_f, exV_exit, exV_ret, lookE_same, joinK_eq, seqA_n, seqA_e, seqA_r, e_add, e_sub, e_mul, e_eql, e_neq, e_lss, e_leq, e_gtr, e_geq, e_conv, e_not, e_neg, and_guard, or_guard]
  rw [loopL_eq]
  simp only [law13_spoil.b2, h0, p_4, f4, alen_s, n_bind, n_map, getL_0, getL_1, getL_2, getL_3, getL_4, getL_5, getL_6, getL_7, getL_8, getL_9, getL_10, getL_11, getL_12, condV_t, condV_f, guardV_tt, guardV_ff, guardV_tf, guardV_ft, guardV_u, apick_t, apick_f, exV_exit, exV_ret, lookE_same, joinK_eq, seqA_n, seqA_e, seqA_r, e_add, e_sub, e_mul, e_eql, e_neq, e_lss, e_leq, e_gtr, e_geq, e_conv, e_not, e_neg, and_guard, or_guard]
  rw [loopL_eq]
  simp only [law13_spoil.b3, h0, ret0, n_bind, n_map, getL_0, getL_1, getL_2, getL_3, getL_4, getL_5, getL_6, getL_7, getL_8, getL_9, getL_10, getL_11, getL_12, condV_t, condV_f, guardV_tt, guardV_ff, guardV_tf, guardV_ft, guardV_u, apick_t, apick_f, exV_exit, exV_ret, lookE_same, joinK_eq, seqA_n, seqA_e, seqA_r, e_add, e_sub, e_mul, e_eql, e_neq, e_lss, e_leq, e_gtr, e_geq, e_conv, e_not, e_neg, and_guard, or_guard]

theorem all2_at {α β : Type} {R : α → β → Prop} : ∀ {l : List α} {m : List β}, All2 R l m → l.length = m.length ∧ ∀ i (h1 : i < l.length) (h2 : i < m.length), R l[i] m[i]
  | [], [], _ => ⟨rfl, fun i h => by simp at h⟩
  | a :: l, b :: m, ⟨h1, h2⟩ => by
    obtain ⟨g1, g2⟩ := all2_at h2
    refine ⟨by simp [g1], fun i h1' h2' => ?_⟩
    cases i with
    | zero => exact h1
    | succ i => simpa using g2 i (by simpa using h1') (by simpa using h2')
theorem spoil_run {n : Nd} {lo hi : Nat} {s : St} {cs : List Value} (h : oNode.own lo hi n s cs) : ∃ t, (run Try.prog (libL libT) hints) 11 [.agg cs.toArray] s = some (undef, t) ∧ Wrs lo s t := by
  obtain ⟨p, k, q, b, m1, m2, m3, rfl, lm1, lm2, lm3, lm4, hp, hk, hq, hb⟩ := oNode_inv h
  have hv : (.agg [.bool n.leaf, p, k, q, b].toArray : Value) = ndV n.leaf p k q b := rfl
  have hbx := nd_box n.leaf p k q b ⟨hp.leaf, hk.leaf, hq.leaf, hb.leaf⟩
  have f1 : ∀ p k q b, lload false 1 (.pointer (some ⟨0, 1, none⟩)) (ndV n.leaf p k q b) = some p := fun p k q b => rfl
  have f2 : ∀ p k q b, lload false 1 (.pointer (some ⟨0, 2, none⟩)) (ndV n.leaf p k q b) = some k := fun p k q b => rfl
  have f3 : ∀ p k q b, lload false 1 (.pointer (some ⟨0, 3, none⟩)) (ndV n.leaf p k q b) = some q := fun p k q b => rfl
  have f4 : ∀ p k q b, lload false 1 (.pointer (some ⟨0, 4, none⟩)) (ndV n.leaf p k q b) = some b := fun p k q b => rfl
  have h0 : decide ((0 : Int) < ((0 : Nat) : Int)) = false := rfl
  have r1 : n.pairs.length * 32 ≤ 140737488351232 := hp.1
  have r2 : n.kids.length * 8 ≤ 140737488351232 := hk.1
  have r3 : n.pivots.length * 16 ≤ 140737488351232 := hq.1
  have r4 : n.bufs.length * 24 ≤ 140737488351232 := hb.1
  have s1 : ∃ t L, (∀ e s', alenV (.slice e) p s' = some (.int .i64 L)) ∧ loopL (law13_spoil.b0 (run Try.prog (libL libT) hints)) [lptr, .int .i64 L, .int .i64 0, ndV n.leaf p k q b] s = some (.exit 0, [lptr, ndV n.leaf p k q b], t) ∧ Wrs lo s t ∧ ∀ c, m1 ≤ c → t.heap[c]? = s.heap[c]? := by
    rcases hp.rowA with ⟨rfl, _⟩ | ⟨B, rfl, g1, g2, g3⟩
    · refine ⟨s, _, fun e s' => alen_s, ?_, .refl _ _, fun _ _ => rfl⟩
      rw [loopL_eq]
      simp only [law13_spoil.b0, h0, n_bind, n_map, getL_0, getL_1, getL_2, getL_3, getL_4, getL_5, getL_6, getL_7, getL_8, getL_9, getL_10, getL_11, getL_12, condV_t, condV_f, guardV_tt, guardV_ff, guardV_tf, guardV_ft, guardV_u, apick_t, apick_f, exV_exit, exV_ret, lookE_same, joinK_eq, seqA_n, seqA_e, seqA_r, e_add, e_sub, e_mul, e_eql, e_neq, e_lss, e_leq, e_gtr, e_geq, e_conv, e_not, e_neg, and_guard, or_guard]
    · obtain ⟨t, j1, j2⟩ := sp0_loop (f := n.leaf) (k := k) (q := q) (b := b) (show n.pairs.length < 140737488355328 by omega) n.pairs.length 0 s (by omega) g3
      exact ⟨t, _, fun e s' => alen_s, j1, j2.wrs g1, fun c hc => j2.oth c (by omega)⟩
  obtain ⟨t1, L1, a1, a2, a3, a4⟩ := s1
  have s2 : ∃ t L, (∀ e s', alenV (.slice e) k s' = some (.int .i64 L)) ∧ loopL (law13_spoil.b1 (run Try.prog (libL libT) hints)) [lptr, .int .i64 L, .int .i64 0, ndV n.leaf p k q b] t1 = some (.exit 2, [lptr, ndV n.leaf p k q b], t) ∧ Wrs lo t1 t ∧ ∀ c, m2 ≤ c → t.heap[c]? = t1.heap[c]? := by
    rcases hk.rowA with ⟨rfl, _⟩ | ⟨B, rfl, g1, g2, g3⟩
    · refine ⟨t1, _, fun e s' => alen_s, ?_, .refl _ _, fun _ _ => rfl⟩
      rw [loopL_eq]
      simp only [law13_spoil.b1, h0, n_bind, n_map, getL_0, getL_1, getL_2, getL_3, getL_4, getL_5, getL_6, getL_7, getL_8, getL_9, getL_10, getL_11, getL_12, condV_t, condV_f, guardV_tt, guardV_ff, guardV_tf, guardV_ft, guardV_u, apick_t, apick_f, exV_exit, exV_ret, lookE_same, joinK_eq, seqA_n, seqA_e, seqA_r, e_add, e_sub, e_mul, e_eql, e_neq, e_lss, e_leq, e_gtr, e_geq, e_conv, e_not, e_neg, and_guard, or_guard]
    · obtain ⟨t, j1, j2⟩ := sp1_loop (f := n.leaf) (p := p) (q := q) (b := b) (show n.kids.length < 140737488355328 by omega) n.kids.length 0 t1 (by omega) (a3.row _ _ _ g3)
      exact ⟨t, _, fun e s' => alen_s, j1, j2.wrs (by omega), fun c hc => j2.oth c (by omega)⟩
  obtain ⟨t2, L2, b1, b2, b3, b4⟩ := s2
  have s3 : ∃ t L, (∀ e s', alenV (.slice e) q s' = some (.int .i64 L)) ∧ loopL (law13_spoil.b2 (run Try.prog (libL libT) hints)) [lptr, .int .i64 L, .int .i64 0, ndV n.leaf p k q b] t2 = some (.exit 4, [lptr, ndV n.leaf p k q b], t) ∧ Wrs lo t2 t ∧ ∀ c, m3 ≤ c → t.heap[c]? = t2.heap[c]? := by
    rcases hq.rowA with ⟨rfl, _⟩ | ⟨B, rfl, g1, g2, g3⟩
    · refine ⟨t2, _, fun e s' => alen_s, ?_, .refl _ _, fun _ _ => rfl⟩
      rw [loopL_eq]
      simp only [law13_spoil.b2, h0, n_bind, n_map, getL_0, getL_1, getL_2, getL_3, getL_4, getL_5, getL_6, getL_7, getL_8, getL_9, getL_10, getL_11, getL_12, condV_t, condV_f, guardV_tt, guardV_ff, guardV_tf, guardV_ft, guardV_u, apick_t, apick_f, exV_exit, exV_ret, lookE_same, joinK_eq, seqA_n, seqA_e, seqA_r, e_add, e_sub, e_mul, e_eql, e_neq, e_lss, e_leq, e_gtr, e_geq, e_conv, e_not, e_neg, and_guard, or_guard]
    · obtain ⟨t, j1, j2⟩ := sp2_loop (f := n.leaf) (p := p) (k := k) (b := b) (show n.pivots.length < 140737488355328 by omega) n.pivots.length 0 t2 (by omega) (b3.row _ _ _ (a3.row _ _ _ g3))
      exact ⟨t, _, fun e s' => alen_s, j1, j2.wrs (by omega), fun c hc => j2.oth c (by omega)⟩
  obtain ⟨t3, L3, c1, c2, c3, c4⟩ := s3
  have hb3 : OList (oEn.list 88) 24 m3 hi n.bufs t3 b := hb.keep fun c e1 e2 => by rw [c4 c e1, b4 c (by omega), a4 c (by omega)]
  have s4 : ∃ t L, (∀ e s', alenV (.slice e) b s' = some (.int .i64 L)) ∧ loopL (law13_spoil.b3 (run Try.prog (libL libT) hints)) [lptr, .int .i64 L, .int .i64 0, ndV n.leaf p k q b] t3 = some (.exit 6, [], t) ∧ Wrs lo t3 t := by
    rcases hb3.2 with ⟨rfl, _⟩ | ⟨B, css, rfl, g1, g2, g3, g4, g5⟩
    · refine ⟨t3, _, fun e s' => alen_s, ?_, .refl _ _⟩
      rw [loopL_eq]
      simp only [law13_spoil.b3, h0, n_bind, n_map, getL_0, getL_1, getL_2, getL_3, getL_4, getL_5, getL_6, getL_7, getL_8, getL_9, getL_10, getL_11, getL_12, condV_t, condV_f, guardV_tt, guardV_ff, guardV_tf, guardV_ft, guardV_u, apick_t, apick_f, exV_exit, exV_ret, lookE_same, joinK_eq, seqA_n, seqA_e, seqA_r, e_add, e_sub, e_mul, e_eql, e_neq, e_lss, e_leq, e_gtr, e_geq, e_conv, e_not, e_neg, and_guard, or_guard]
    · have hfl := (flat_len g5).1
      have hln : css.flatten.length = n.bufs.length := by rw [hfl]; exact Nat.mul_one _
      obtain ⟨t, j1, j2⟩ := sp3_loop (f := n.leaf) (p := p) (k := k) (q := q) (Bo := B) (lo := lo) (show n.bufs.length < 140737488355328 by omega) (by omega) n.bufs.length 0 t3 css.flatten (by omega) g4 hln (fun j _ hj => by
        have key : ∀ (l : List (List En)) (css : List (List Value)), All2 (fun a c => (oEn.list 88).own m3 B a t3 c) l css → ∀ j, j < l.length → ∃ c, css.flatten[j]? = some c ∧ ∃ x, OList oEn 88 m3 B x t3 c := by
          intro l
          induction l with
          | nil => intro css _ j hj; simp at hj
          | cons a l ih =>
            intro css h j hj
            cases css with
            | nil => exact h.elim
            | cons c css =>
              obtain ⟨⟨v, rfl, h1⟩, h2⟩ := h
              cases j with
              | zero => exact ⟨v, rfl, a, h1⟩
              | succ j =>
                obtain ⟨c', e1, e2⟩ := ih css h2 j (by simpa using hj)
                exact ⟨c', by simpa using e1, e2⟩
        obtain ⟨c, e1, x, e2⟩ := key _ _ g5 j hj
        refine ⟨c, e1, ?_⟩
        rcases e2.rowA with ⟨rfl, _⟩ | ⟨B2, rfl, e3, e4, e5⟩
        · exact .inl rfl
        · have r5 : x.length * 88 ≤ 140737488351232 := e2.1
          exact .inr ⟨B2, x.length, rfl, by omega, by omega, by omega, e5⟩)
      exact ⟨t, _, fun e s' => alen_s, j1, j2⟩
  obtain ⟨t4, L4, d1, d2, d3⟩ := s4
  refine ⟨t4, law13_spoil_of rfl ?_, a3.trans (b3.trans (c3.trans d3))⟩
  rw [hv]
  unfold law13_spoil
  simp only [hbx, f1, a1, a2, p_2, f2, b1, b2, p_3, f3, c1, c2, p_4, f4, d1, d2, ret0, n_bind, n_map, getL_0, getL_1, getL_2, getL_3, getL_4, getL_5, getL_6, getL_7, getL_8, getL_9, getL_10, getL_11, getL_12, condV_t, condV_f, guardV_tt, guardV_ff, guardV_tf, guardV_ft, guardV_u, apick_t, apick_f, exV_exit, exV_ret, lookE_same, joinK_eq, seqA_n, seqA_e, seqA_r, e_add, e_sub, e_mul, e_eql, e_neq, e_lss, e_leq, e_gtr, e_geq, e_conv, e_not, e_neg, and_guard, or_guard]

end Go.Proofs.Ytamaapapaiopiaa.Ab

/- Which node any bytes are. -/
namespace Go.Proofs.Ytamaapapaiopiaa.Ab
open Go

theorem own_zero {lo hi : Nat} {s : St} (h : lo ≤ hi) : oNode.own lo hi ⟨false, [], [], [], []⟩ s [(.bool false), (.slice none 0 0), (.slice none 0 0), (.slice none 0 0), (.slice none 0 0)] :=
  oNode_mk (n := ⟨false, [], [], [], []⟩) (Nat.le_refl _) (Nat.le_refl _) (Nat.le_refl _) h .nil .nil .nil .nil
theorem IsDec.two {b : BL} {lo hi lo' hi' : Nat} {s s' : St} {u u' : Value} {e e' : Int} (h : IsDec b lo hi s u e) (g : IsDec b lo' hi' s' u' e') (hl : lo ≤ hi) (hl' : lo' ≤ hi') : e = e' ∧ ∃ n cs cs', u = .agg cs.toArray ∧ u' = .agg cs'.toArray ∧ oNode.own lo hi n s cs ∧ oNode.own lo' hi' n s' cs' := by
  rcases h with ⟨n, cs, h1, h2, h3, h4⟩ | ⟨h1, h2, h3⟩
  · rcases g with ⟨n', cs', g1, g2, g3, g4⟩ | ⟨g1, g2, g3⟩
    · rw [h1] at g1
      cases g1
      exact ⟨by rw [h2, g2], n, cs, cs', h3, g3, h4, g4⟩
    · rw [h1] at g1
      cases g1
  · rcases g with ⟨n', cs', g1, g2, g3, g4⟩ | ⟨g1, g2, g3⟩
    · rw [h1] at g1
      cases g1
    · rw [h1] at g1
      cases g1
      exact ⟨rfl, _, _, _, h3, g3, own_zero hl, own_zero hl'⟩
theorem y2_0 {a b : Value} (h : noTup a = true) : aextract 0 (.tuple #[a, b]) = some a := by cases a <;> first | rfl | (cases h; done)
theorem y2_1 {a : Value} {n : Int} : aextract 1 (.tuple #[a, .int .i64 n]) = some (.int .i64 n) := rfl
theorem reads_loop {x0 own : Value} {b : BL} (hb : b.length ≤ 100000) : ∀ (m i : Nat) (s : St), i + m = 2 → bytesOf x0 s = some b → bytesOf own s = some b →
    ∃ t, loopL (law13_NodeReads.b0 (run Try.prog (libL libT) hints)) [x0, .bool true, own, .int .i64 (i : Int)] s = some (.exit 0, [.bool true], t) := by
  intro m
  induction m with
  | zero =>
    intro i s hi h0 h1
    have d1 : decide ((i : Int) < 2) = false := by simp; omega
    refine ⟨s, ?_⟩
    rw [loopL_eq]
    simp only [law13_NodeReads.b0, d1, n_bind, n_map, getL_0, getL_1, getL_2, getL_3, getL_4, getL_5, getL_6, getL_7, getL_8, getL_9, getL_10, getL_11, getL_12, condV_t, condV_f, guardV_tt, guardV_ff, guardV_tf, guardV_ft, guardV_u, apick_t, apick_f, exV_exit, exV_ret, lookE_same, joinK_eq, seqA_n, seqA_e, seqA_r, e_add, e_sub, e_mul, e_eql, e_neq, e_lss, e_leq, e_gtr, e_geq, e_conv, e_not, e_neg, and_guard, or_guard]
  | succ m ih =>
    intro i s hi h0 h1
    have d1 : decide ((i : Int) < 2) = true := by simp; omega
    obtain ⟨u, e, s1, a1, a2, a3⟩ := decode_run h1 (by omega)
    obtain ⟨u', e', s2, b1, b2, b3⟩ := rdecode_run (a2.bytes h0) (by omega)
    obtain ⟨rfl, n, cs, cs', rfl, rfl, c1, c2⟩ := a3.two b3 a2.1 b2.1
    have c3 : oNode.own s.heap.length s1.heap.length n s2 cs := oNode.keep c1 fun c e1 e2 => b2.2 c e2
    have hS := Same_run (n := n) (s := s2) (v := .agg cs.toArray) (w := .agg cs'.toArray) ⟨cs, rfl, oNode.rel c3⟩ ⟨cs', rfl, oNode.rel c2⟩
    obtain ⟨s3, d2, d3⟩ := spoil_run c3
    have hx : Ext s.heap.length s s3 := a2.trans ((b2.less a2.1).trans d3.ext)
    have l1 : cs.length = 5 := oNode.C.len (oNode.rel c1)
    have l2 : cs'.length = 5 := oNode.C.len (oNode.rel c2)
    have f1 := oNode.leaf c1
    have f2 := oNode.leaf c2
    have hz : (e != e) = false := by simp
    have t1 := bytes_str (b2.bytes (a2.bytes h1))
    have t2 := bytes_str (b2.bytes (a2.bytes h0))
    have hq : abin Try.prog .neq 9 (.tmp 39) (.tmp 41) (.string ⟨b.toArray⟩) (.string ⟨b.toArray⟩) = some (.bool false) := by
      have := e_sneq (P := Try.prog) (t := 9) (ox := .tmp 39) (oy := .tmp 41) (a := b) (b := b)
      rw [show (!(b == b)) = false by simp] at this
      exact this
    obtain ⟨t, g⟩ := ih (i + 1) s3 (by omega) (hx.bytes h0) (hx.bytes h1)
    refine ⟨t, ?_⟩
    rw [loopL_eq, ← g]
    simp only [law13_NodeReads.b0, d1, node_Decode_call, a1, y2_0 (a := .agg cs.toArray) rfl, y2_1, zN_st l1 f1, ref13_Decode_call, b1, y2_0 (a := .agg cs'.toArray) rfl, zN_st l2 f2, hz, zN_ld l1, zN_ld l2, ref13_Same_call, hS, Bool.not_true, Bool.or_self, t1, t2, hq, law13_spoil_call, d2, inc_i64 (show i < 140737488355328 by omega), n_bind, n_map, getL_0, getL_1, getL_2, getL_3, getL_4, getL_5, getL_6, getL_7, getL_8, getL_9, getL_10, getL_11, getL_12, condV_t, condV_f, guardV_tt, guardV_ff, guardV_tf, guardV_ft, guardV_u, apick_t, apick_f, exV_exit, exV_ret, lookE_same, joinK_eq, seqA_n, seqA_e, seqA_r, e_add, e_sub, e_mul, e_eql, e_neq, e_lss, e_leq, e_gtr, e_geq, e_conv, e_not, e_neg, and_guard, or_guard]
theorem NodeReads_law (s : St) (v : Value) (b : BL) (h : bytesOf v s = some b) (hl : b.length ≤ 140737488351232) : ∃ s', (run Try.prog (libL libT) hints) 3 [v] s = some (.bool true, s') := by
  have hr : ∀ s, retV [.bool true] s = some (.bool true, s) := fun s => ret1 rfl
  by_cases hb : 100000 < b.length
  · have d1 : decide (((b.length : Nat) : Int) > 100000) = true := by simp; omega
    refine ⟨s, law13_NodeReads_of rfl ?_⟩
    unfold law13_NodeReads
    simp only [law13_live_call, k_live, bytes_len h, d1, hr, n_bind, n_map, getL_0, getL_1, getL_2, getL_3, getL_4, getL_5, getL_6, getL_7, getL_8, getL_9, getL_10, getL_11, getL_12, condV_t, condV_f, guardV_tt, guardV_ff, guardV_tf, guardV_ft, guardV_u, apick_t, apick_f, exV_exit, exV_ret, lookE_same, joinK_eq, seqA_n, seqA_e, seqA_r, e_add, e_sub, e_mul, e_eql, e_neq, e_lss, e_leq, e_gtr, e_geq, e_conv, e_not, e_neg, and_guard, or_guard]
  · have d1 : decide (((b.length : Nat) : Int) > 100000) = false := by simp; omega
    obtain ⟨w, s1, a1, a2, a3⟩ := own_copy h (by omega)
    obtain ⟨t, g⟩ := reads_loop (x0 := v) (own := w) (b := b) (by omega) 2 0 s1 rfl (a3.bytes h) a2.bytes
    have g' : loopL (law13_NodeReads.b0 (run Try.prog (libL libT) hints)) [v, .bool true, w, .int .i64 0] s1 = some (.exit 0, [.bool true], t) := g
    refine ⟨t, law13_NodeReads_of rfl ?_⟩
    unfold law13_NodeReads
    simp only [law13_live_call, k_live, bytes_len h, d1, a1, g', hr, n_bind, n_map, getL_0, getL_1, getL_2, getL_3, getL_4, getL_5, getL_6, getL_7, getL_8, getL_9, getL_10, getL_11, getL_12, condV_t, condV_f, guardV_tt, guardV_ff, guardV_tf, guardV_ft, guardV_u, apick_t, apick_f, exV_exit, exV_ret, lookE_same, joinK_eq, seqA_n, seqA_e, seqA_r, e_add, e_sub, e_mul, e_eql, e_neq, e_lss, e_leq, e_gtr, e_geq, e_conv, e_not, e_neg, and_guard, or_guard]

end Go.Proofs.Ytamaapapaiopiaa.Ab

/- A law's arguments in memory, as the abstract machine has them: bytes. -/
namespace Go.Proofs.Ytamaapapaiopiaa.Ab
open Go

theorem bytes_of_ints : ∀ {l : List Int}, (∀ n ∈ l, (Lit.int .u8 n).wf = true) → ∃ u : List UInt8, ints .u8 l = bv u ∧ u.length = l.length
  | [], _ => ⟨[], rfl, rfl⟩
  | n :: l, h => by
    obtain ⟨u, h1, h2⟩ := bytes_of_ints (l := l) fun m hm => h m (List.mem_cons_of_mem _ hm)
    have hw := h n (List.mem_cons_self ..)
    simp only [Lit.wf, Bool.and_eq_true, decide_eq_true_eq] at hw
    have hlo : (0 : Int) ≤ n := hw.1
    have hhi : n ≤ 255 := hw.2
    obtain ⟨m, rfl⟩ := Int.eq_ofNat_of_zero_le hlo
    refine ⟨UInt8.ofNat m :: u, ?_, by simp [h2]⟩
    have e : (UInt8.ofNat m).toNat = m := by
      rw [UInt8.toNat_ofNat']
      exact Nat.mod_eq_of_lt (by omega)
    have h1' : List.map (Value.int IntKind.u8) l = bv u := h1
    show Value.int IntKind.u8 (m : Int) :: List.map (Value.int IntKind.u8) l = Value.int .u8 (((UInt8.ofNat m).toNat : Nat) : Int) :: bv u
    rw [h1', e]

theorem arg_bytes {H : List Blk} {a : Option Addr} {len : Nat} {u : List UInt8} (hl : u.length = len) (hn : a = none → u = []) : bytesOf (sliceArg H.length a len) ⟨H ++ [Blk.row 0 (bv u) .ro]⟩ = some u := by
  cases a with
  | none => rw [hn rfl]; rfl
  | some x =>
    subst hl
    unfold bytesOf sliceArg
    simp only [cellsOf, Nat.le_refl, if_true, readN, Ab.readRow, List.getElem?_append_right (Nat.le_refl _), Nat.sub_self, List.getElem?_cons_zero, Option.bind_some, Nat.mul_one, Nat.zero_add, bv_length]
    rw [List.drop_zero, ← bv_length, List.take_length]
    exact ubs_bv u

theorem sim_bytes {W : World} {ι : Emb} {H : List Blk} (h : Sim W.heap.size ι H W) (hro : H.all roB = true) {a : Option Addr} {len cap : Nat} {zs : List Int} (hr : IsRow .u8 W a len cap zs) :
    ∃ (u : List UInt8) (B : Blk), u.length = len ∧ bytesOf (sliceArg H.length a len) ⟨H ++ [B]⟩ = some u ∧
    ∃ κ, ι.le κ ∧ Sim W.heap.size κ (H ++ [B]) W ∧ (H ++ [B]).all roB = true ∧ VRel κ (sliceArg H.length a len) (.slice a len cap) := by
  obtain ⟨l, h1, h2, h3, h4⟩ := sim_ints h hro hr
  obtain ⟨u, h5, h6⟩ := bytes_of_ints h2
  rw [h5] at h4
  refine ⟨u, _, h6.trans h1, arg_bytes (h6.trans h1) (fun e => ?_), h4⟩
  have := h3 e
  rw [this] at h6
  exact List.eq_nil_of_length_eq_zero h6

/-- the bytes of an argument, behind later ones -/
theorem bytes_more {H : List Blk} {B : Blk} {v : Value} {u : List UInt8} (h : bytesOf v ⟨H⟩ = some u) : bytesOf v ⟨H ++ [B]⟩ = some u :=
  Ext.bytes (s := ⟨H⟩) (s' := ⟨H ++ [B]⟩) ⟨by simp, fun b hb => by simp only; rw [List.getElem?_append_left hb]⟩ h

end Go.Proofs.Ytamaapapaiopiaa.Ab

/- A row's slice of whole numbers is no longer than its weight allows. (Began as the words that print.sh lays for rows over slices.) -/
namespace Go.Proofs.Ytamaapapaiopiaa.Ab
open Go Go.ChangeShapes Go.WideShapes
theorem sized_ints {H : Type} {enc : TypeId × Value → H} {P : Program} {W : World} {base : Nat} {spare : Nat → Bool} {held : Bool} {t e : TypeId} {k : IntKind} {a : Option Addr} {len cap : Nat} {d : DataW H} {ps : List MemPlace} {ts : List TypeId} {ds : List (DataW H)} {j : Nat}
    (hsz : (DataW.weightsEach P ts ds).all (· ≤ reachBytes) = true) (ht : ts[j]? = some t) (hd : ds[j]? = some d) (hu : P.underlying t = some (.slice e)) (he : P.underlying e = some (.int k)) (hc : P.cellsOf e = 1) {B : Nat} (hB : P.bytesOf e = B)
    (h : DataW.Trod enc P W base spare held t (.slice a len cap) d ps) : len * B ≤ 140737488351232 := by
  obtain ⟨fuel, hf⟩ := h
  rcases open_ints hu he hc hf with ⟨hcs, _⟩ | ⟨x, l, c, zs, hcs, _, hl, _, hz, hx, _, _⟩
  · simp [Value.cells] at hcs
    obtain ⟨rfl, rfl, rfl⟩ := hcs
    simp
  · simp [Value.cells] at hcs
    obtain ⟨rfl, rfl, rfl⟩ := hcs
    obtain ⟨hx, _⟩ := Prod.mk.inj hx
    subst hx
    have z := sized_slice hsz ht hd hu
    rw [hB] at z
    have hl2 : len ≤ zs.length := by
      rw [hz]
      split
      · exact hl
      · exact Nat.le_refl _
    have h1 : (lits (H := H) k (zs.take len)).length + (lits (H := H) k (zs.drop len)).length = zs.length := by
      simp [lits]
      omega
    rw [h1] at z
    exact Nat.le_trans (Nat.mul_le_mul_right _ hl2) z
end Go.Proofs.Ytamaapapaiopiaa.Ab
