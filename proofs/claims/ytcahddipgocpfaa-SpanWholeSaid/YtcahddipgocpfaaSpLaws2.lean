/- The laws of keys and ranges without the document's answer. -/
import Derived.Test.YtcahddipgocpfaaSpLaws
import Derived.Test.YtcahddipgocpfaaSpFacts
set_option linter.unusedVariables false
set_option linter.unusedSimpArgs false
set_option linter.unusedSectionVars false
namespace Go.Proofs.Ytcahddipgocpfaa.Ab
open Go

theorem rv_neq (o1 o2 : Operand) (a b : Rg) : abin Try.prog .neq 23 o1 o2 (rv a) (rv b) = some (.bool (!(a.1 == b.1 && a.2 == b.2))) := by
  have hu := pr_und Try.underlying23
  have hg : pureRun Try.prog (eqGuard .neq 23 o1 o2 (.agg #[sv a.1, sv a.2]) (.agg #[sv b.1, sv b.2])) = some () := by kernel_rfl
  have h0 := rv_eql o1 o2 a b
  have hg0 : pureRun Try.prog (eqGuard .eql 23 o1 o2 (.agg #[sv a.1, sv a.2]) (.agg #[sv b.1, sv b.2])) = some () := by kernel_rfl
  unfold abin aggBin rv at h0 ⊢
  simp only at h0 ⊢
  have hc : (constOk (.agg #[sv a.1, sv a.2]) && constOk (.agg #[sv b.1, sv b.2])) = true := rfl
  rw [if_pos hc, pr_bind, hg0] at h0
  rw [if_pos hc, pr_bind, hg]
  simp only [Option.bind_some, binOp, pr_bind, pr_pure] at h0 ⊢
  cases e : pureRun Try.prog (Op.equal 23 (.agg #[sv a.1, sv a.2]) (.agg #[sv b.1, sv b.2])) with
  | none => rw [e] at h0; cases h0
  | some r =>
    rw [e] at h0
    simp only [Option.bind_some] at h0 ⊢
    cases h0
    rfl

theorem SpanPoints_law (s : St) (k : ByteArray) (_ : k.size ≤ 140737488351232) (o : ByteArray) (_ : o.size ≤ 140737488351232) : ∃ s', (run Try.prog (libL libT) hints) 5 [.string k, .string o] s = some (.bool true, s') := by
  rw [sv_of k, sv_of o]
  generalize k.data.toList = k
  generalize o.data.toList = o
  refine ⟨s, law02_SpanPoints_of rfl ?_⟩
  unfold law02_SpanPoints
  simp only [z_rv, st_rv, ld_rv, k_live, k_pt, x_pt.1, x_pt.2, Option.bind_some, Option.map_some, getL_0, getL_1, getL_2, getL_3, getL_4, getL_5, getL_6, getL_7, getL_8, getL_9, getL_10, getL_11, getL_12, condV_t, condV_f, guardV_tt, guardV_ff, guardV_tf, guardV_ft, guardV_u, apick_t, apick_f, exV_exit, exV_ret, lookE_same, joinK_eq, seqA_n, seqA_e, seqA_r, e_add, e_sub, e_mul, e_eql, e_neq, e_lss, e_leq, e_gtr, e_geq, e_conv, e_not, e_neg, and_guard, or_guard]
  unfold ptL
  by_cases h : ckK k = true
  · obtain ⟨_, h1, h2, h3⟩ := pt_facts h
    have h4 : hasR (ptR k) k = true := by
      rw [has_iff h1 h]
      have : (ptR k).1 = k := (pt_facts h).1
      rw [this, bl_irrefl, h3]
      rfl
    have h5 : (o == k || !hasR (ptR k) o) = true := by
      cases e : hasR (ptR k) o with
      | false => simp
      | true =>
        by_cases ho : ckK o = true
        · rw [has_iff h1 ho] at e
          have e1 : (ptR k).1 = k := (pt_facts h).1
          rw [e1] at e
          simp only [Bool.and_eq_true, Bool.not_eq_true'] at e
          rw [h2 o (ckK_len ho).1 e.1 e.2]
          simp
        · simp [hasR, ho] at e
    have e0 : (((0 : Int) != 0)) = false := rfl
    simp only [if_pos h, e0, k_chk, k_has, h4, eR_0, h1, e_seql, Option.bind_some, Option.map_some, getL_0, getL_1, getL_2, getL_3, getL_4, getL_5, getL_6, getL_7, getL_8, getL_9, getL_10, getL_11, getL_12, condV_t, condV_f, guardV_tt, guardV_ff, guardV_tf, guardV_ft, guardV_u, apick_t, apick_f, exV_exit, exV_ret, lookE_same, joinK_eq, seqA_n, seqA_e, seqA_r, e_add, e_sub, e_mul, e_eql, e_neq, e_lss, e_leq, e_gtr, e_geq, e_conv, e_not, e_neg, and_guard, or_guard]
    cases h6 : (o == k)
    · rw [h6] at h5
      simp only [Bool.false_or] at h5
      simp only [h6, h5, k_has, Option.bind_some, Option.map_some, getL_0, getL_1, getL_2, getL_3, getL_4, getL_5, getL_6, getL_7, getL_8, getL_9, getL_10, getL_11, getL_12, condV_t, condV_f, guardV_tt, guardV_ff, guardV_tf, guardV_ft, guardV_u, apick_t, apick_f, exV_exit, exV_ret, lookE_same, joinK_eq, seqA_n, seqA_e, seqA_r, e_add, e_sub, e_mul, e_eql, e_neq, e_lss, e_leq, e_gtr, e_geq, e_conv, e_not, e_neg, and_guard, or_guard, retV]
      rfl
    · simp only [h6, Option.bind_some, Option.map_some, getL_0, getL_1, getL_2, getL_3, getL_4, getL_5, getL_6, getL_7, getL_8, getL_9, getL_10, getL_11, getL_12, condV_t, condV_f, guardV_tt, guardV_ff, guardV_tf, guardV_ft, guardV_u, apick_t, apick_f, exV_exit, exV_ret, lookE_same, joinK_eq, seqA_n, seqA_e, seqA_r, e_add, e_sub, e_mul, e_eql, e_neq, e_lss, e_leq, e_gtr, e_geq, e_conv, e_not, e_neg, and_guard, or_guard, retV]
      rfl
  · have h1 : ckK k = false := by simpa using h
    have e0 : (((20 : Int) != 0)) = true := rfl
    have e1 : (eK k != 0) = true := by rw [eK_n, h1]; rfl
    simp only [if_neg h, e0, k_key, e1, Option.bind_some, Option.map_some, getL_0, getL_1, getL_2, getL_3, getL_4, getL_5, getL_6, getL_7, getL_8, getL_9, getL_10, getL_11, getL_12, condV_t, condV_f, guardV_tt, guardV_ff, guardV_tf, guardV_ft, guardV_u, apick_t, apick_f, exV_exit, exV_ret, lookE_same, joinK_eq, seqA_n, seqA_e, seqA_r, e_add, e_sub, e_mul, e_eql, e_neq, e_lss, e_leq, e_gtr, e_geq, e_conv, e_not, e_neg, and_guard, or_guard, retV]
    rfl

theorem SpanNext_law (s : St) (k : ByteArray) (_ : k.size ≤ 140737488351232) (o : ByteArray) (_ : o.size ≤ 140737488351232) : ∃ s', (run Try.prog (libL libT) hints) 7 [.string k, .string o] s = some (.bool true, s') := by
  rw [sv_of k, sv_of o]
  generalize k.data.toList = k
  generalize o.data.toList = o
  refine ⟨s, law02_SpanNext_of rfl ?_⟩
  unfold law02_SpanNext
  simp only [z_rv, z_rv2, nil_sv, st_rv, ld_rv, k_live, k_pt, x_pt.1, x_pt.2, Option.bind_some, Option.map_some, getL_0, getL_1, getL_2, getL_3, getL_4, getL_5, getL_6, getL_7, getL_8, getL_9, getL_10, getL_11, getL_12, condV_t, condV_f, guardV_tt, guardV_ff, guardV_tf, guardV_ft, guardV_u, apick_t, apick_f, exV_exit, exV_ret, lookE_same, joinK_eq, seqA_n, seqA_e, seqA_r, e_add, e_sub, e_mul, e_eql, e_neq, e_lss, e_leq, e_gtr, e_geq, e_conv, e_not, e_neg, and_guard, or_guard]
  unfold ptL
  by_cases h : ckK k = true
  · have e0 : (((0 : Int) != 0)) = false := rfl
    simp only [if_pos h, e0, k_key, eK_n, Option.bind_some, Option.map_some, getL_0, getL_1, getL_2, getL_3, getL_4, getL_5, getL_6, getL_7, getL_8, getL_9, getL_10, getL_11, getL_12, condV_t, condV_f, guardV_tt, guardV_ff, guardV_tf, guardV_ft, guardV_u, apick_t, apick_f, exV_exit, exV_ret, lookE_same, joinK_eq, seqA_n, seqA_e, seqA_r, e_add, e_sub, e_mul, e_eql, e_neq, e_lss, e_leq, e_gtr, e_geq, e_conv, e_not, e_neg, and_guard, or_guard]
    by_cases ho : ckK o = true
    · obtain ⟨h0, h1, h2, h3⟩ := pt_facts h
      have h4 := h2 o (ckK_len ho).1
      have h5 := ckR_lt h1
      rw [h0] at h5
      have gtr_bl : ∀ (t : TypeId) (o1 o2 : Operand) (a b : BL), abin Try.prog .gtr t o1 o2 (sv a) (sv b) = some (.bool (bl b a)) := fun t o1 o2 a b => by
        have e := leq_bl (P := Try.prog) (t := t) (o1 := o1) (o2 := o2) (a := a) (b := b)
        rw [e_sleq] at e
        simp only [Option.some.injEq, Value.bool.injEq] at e
        rw [e_sgtr, e, Bool.not_not]
      have hq : bl k o = true → (ptR k).2 ≠ [] ∧ bl o (ptR k).2 = false := fun g => by
        have g2 := bl_asymm g
        by_cases e1 : ((ptR k).2 == [] || bl o (ptR k).2) = true
        · have := h4 g2 e1
          rw [this, bl_irrefl] at g
          cases g
        · simp only [Bool.not_eq_true, Bool.or_eq_false_iff] at e1
          exact ⟨by simpa using e1.1, e1.2⟩
      simp only [ho, h0, ld_0, ld_1, e_seql, e_sneq, leq_bl, geq_bl, gtr_bl, beq_self_eq_true, Bool.not_true, Option.bind_some, Option.map_some, getL_0, getL_1, getL_2, getL_3, getL_4, getL_5, getL_6, getL_7, getL_8, getL_9, getL_10, getL_11, getL_12, condV_t, condV_f, guardV_tt, guardV_ff, guardV_tf, guardV_ft, guardV_u, apick_t, apick_f, exV_exit, exV_ret, lookE_same, joinK_eq, seqA_n, seqA_e, seqA_r, e_add, e_sub, e_mul, e_eql, e_neq, e_lss, e_leq, e_gtr, e_geq, e_conv, e_not, e_neg, and_guard, or_guard]
      cases h6 : bl k o
      · cases h7 : ((ptR k).2 == [])
        · rw [h7] at h5
          simp only [Bool.false_or] at h5
          simp only [h5, h6, h7, Bool.not_false, ld_0, ld_1, e_seql, gtr_bl, Option.bind_some, Option.map_some, getL_0, getL_1, getL_2, getL_3, getL_4, getL_5, getL_6, getL_7, getL_8, getL_9, getL_10, getL_11, getL_12, condV_t, condV_f, guardV_tt, guardV_ff, guardV_tf, guardV_ft, guardV_u, apick_t, apick_f, exV_exit, exV_ret, lookE_same, joinK_eq, seqA_n, seqA_e, seqA_r, e_add, e_sub, e_mul, e_eql, e_neq, e_lss, e_leq, e_gtr, e_geq, e_conv, e_not, e_neg, and_guard, or_guard, retV]
          rfl
        · simp only [h6, h7, Bool.not_false, Option.bind_some, Option.map_some, getL_0, getL_1, getL_2, getL_3, getL_4, getL_5, getL_6, getL_7, getL_8, getL_9, getL_10, getL_11, getL_12, condV_t, condV_f, guardV_tt, guardV_ff, guardV_tf, guardV_ft, guardV_u, apick_t, apick_f, exV_exit, exV_ret, lookE_same, joinK_eq, seqA_n, seqA_e, seqA_r, e_add, e_sub, e_mul, e_eql, e_neq, e_lss, e_leq, e_gtr, e_geq, e_conv, e_not, e_neg, and_guard, or_guard, retV]
          rfl
      · obtain ⟨g1, g2⟩ := hq h6
        have h7 : ((ptR k).2 == []) = false := by simp [g1]
        rw [h7] at h5
        simp only [Bool.false_or] at h5
        simp only [h5, h6, h7, g2, Bool.not_false, Bool.not_true, ld_0, ld_1, e_seql, e_sneq, geq_bl, gtr_bl, Option.bind_some, Option.map_some, getL_0, getL_1, getL_2, getL_3, getL_4, getL_5, getL_6, getL_7, getL_8, getL_9, getL_10, getL_11, getL_12, condV_t, condV_f, guardV_tt, guardV_ff, guardV_tf, guardV_ft, guardV_u, apick_t, apick_f, exV_exit, exV_ret, lookE_same, joinK_eq, seqA_n, seqA_e, seqA_r, e_add, e_sub, e_mul, e_eql, e_neq, e_lss, e_leq, e_gtr, e_geq, e_conv, e_not, e_neg, and_guard, or_guard, retV]
        rfl
    · have h1 : ckK o = false := by simpa using ho
      simp only [h1, Bool.not_false, Option.bind_some, Option.map_some, getL_0, getL_1, getL_2, getL_3, getL_4, getL_5, getL_6, getL_7, getL_8, getL_9, getL_10, getL_11, getL_12, condV_t, condV_f, guardV_tt, guardV_ff, guardV_tf, guardV_ft, guardV_u, apick_t, apick_f, exV_exit, exV_ret, lookE_same, joinK_eq, seqA_n, seqA_e, seqA_r, e_add, e_sub, e_mul, e_eql, e_neq, e_lss, e_leq, e_gtr, e_geq, e_conv, e_not, e_neg, and_guard, or_guard, retV]
      rfl
  · have e0 : (((20 : Int) != 0)) = true := rfl
    simp only [if_neg h, e0, Option.bind_some, Option.map_some, getL_0, getL_1, getL_2, getL_3, getL_4, getL_5, getL_6, getL_7, getL_8, getL_9, getL_10, getL_11, getL_12, condV_t, condV_f, guardV_tt, guardV_ff, guardV_tf, guardV_ft, guardV_u, apick_t, apick_f, exV_exit, exV_ret, lookE_same, joinK_eq, seqA_n, seqA_e, seqA_r, e_add, e_sub, e_mul, e_eql, e_neq, e_lss, e_leq, e_gtr, e_geq, e_conv, e_not, e_neg, and_guard, or_guard, retV]
    rfl

theorem SpanParts_law (s : St) (a1 a2 : ByteArray) (_ : a1.size ≤ maxLen) (_ : a2.size ≤ maxLen) (b1 b2 : ByteArray) (_ : b1.size ≤ maxLen) (_ : b2.size ≤ maxLen) (c1 c2 : ByteArray) (_ : c1.size ≤ maxLen) (_ : c2.size ≤ maxLen) : ∃ s', (run Try.prog (libL libT) hints) 6 [.agg #[.string a1, .string a2], .agg #[.string b1, .string b2], .agg #[.string c1, .string c2]] s = some (.bool true, s') := by
  rw [rv_of, rv_of, rv_of]
  generalize ((a1.data.toList, a2.data.toList) : Rg) = a
  generalize ((b1.data.toList, b2.data.toList) : Rg) = b
  generalize ((c1.data.toList, c2.data.toList) : Rg) = c
  refine ⟨s, law02_SpanParts_of rfl ?_⟩
  unfold law02_SpanParts
  simp only [z_rv, box_rv, ld_rv, st_rv, k_live, k_meet, x_meet.1, x_meet.2, Option.bind_some, Option.map_some, getL_0, getL_1, getL_2, getL_3, getL_4, getL_5, getL_6, getL_7, getL_8, getL_9, getL_10, getL_11, getL_12, condV_t, condV_f, guardV_tt, guardV_ff, guardV_tf, guardV_ft, guardV_u, apick_t, apick_f, exV_exit, exV_ret, lookE_same, joinK_eq, seqA_n, seqA_e, seqA_r, e_add, e_sub, e_mul, e_eql, e_neq, e_lss, e_leq, e_gtr, e_geq, e_conv, e_not, e_neg, and_guard, or_guard]
  cases h1 : meetL a b with
  | none =>
    simp only [h1, Option.isSome_none, Bool.not_false, Option.bind_some, Option.map_some, getL_0, getL_1, getL_2, getL_3, getL_4, getL_5, getL_6, getL_7, getL_8, getL_9, getL_10, getL_11, getL_12, condV_t, condV_f, guardV_tt, guardV_ff, guardV_tf, guardV_ft, guardV_u, apick_t, apick_f, exV_exit, exV_ret, lookE_same, joinK_eq, seqA_n, seqA_e, seqA_r, e_add, e_sub, e_mul, e_eql, e_neq, e_lss, e_leq, e_gtr, e_geq, e_conv, e_not, e_neg, and_guard, or_guard, retV]
    rfl
  | some x =>
    cases h2 : meetL b c with
    | none =>
      simp only [h1, h2, Option.isSome_none, Option.isSome_some, Bool.not_true, Bool.not_false, Option.bind_some, Option.map_some, getL_0, getL_1, getL_2, getL_3, getL_4, getL_5, getL_6, getL_7, getL_8, getL_9, getL_10, getL_11, getL_12, condV_t, condV_f, guardV_tt, guardV_ff, guardV_tf, guardV_ft, guardV_u, apick_t, apick_f, exV_exit, exV_ret, lookE_same, joinK_eq, seqA_n, seqA_e, seqA_r, e_add, e_sub, e_mul, e_eql, e_neq, e_lss, e_leq, e_gtr, e_geq, e_conv, e_not, e_neg, and_guard, or_guard, retV]
      rfl
    | some y =>
      have h3 := meet_parts h1 h2
      simp only [h1, h2, mR, Option.isSome_some, Bool.not_true, z_rv, ld_rv, st_rv, k_meet, x_meet.1, x_meet.2, h3, rv_eql, same_bool, beq_self_eq_true, Bool.and_self, Option.bind_some, Option.map_some, getL_0, getL_1, getL_2, getL_3, getL_4, getL_5, getL_6, getL_7, getL_8, getL_9, getL_10, getL_11, getL_12, condV_t, condV_f, guardV_tt, guardV_ff, guardV_tf, guardV_ft, guardV_u, apick_t, apick_f, exV_exit, exV_ret, lookE_same, joinK_eq, seqA_n, seqA_e, seqA_r, e_add, e_sub, e_mul, e_eql, e_neq, e_lss, e_leq, e_gtr, e_geq, e_conv, e_not, e_neg, and_guard, or_guard, retV]
      rfl

theorem SpanWhole_law (s : St) (a1 a2 : ByteArray) (_ : a1.size ≤ maxLen) (_ : a2.size ≤ maxLen) (b1 b2 : ByteArray) (_ : b1.size ≤ maxLen) (_ : b2.size ≤ maxLen) (c1 c2 : ByteArray) (_ : c1.size ≤ maxLen) (_ : c2.size ≤ maxLen) (k : ByteArray) (_ : k.size ≤ 140737488351232) : ∃ s', (run Try.prog (libL libT) hints) 10 [.agg #[.string a1, .string a2], .agg #[.string b1, .string b2], .agg #[.string c1, .string c2], .string k] s = some (.bool true, s') := by
  rw [rv_of, rv_of, rv_of, sv_of k]
  generalize ((a1.data.toList, a2.data.toList) : Rg) = a
  generalize ((b1.data.toList, b2.data.toList) : Rg) = b
  generalize ((c1.data.toList, c2.data.toList) : Rg) = c
  generalize k.data.toList = k
  refine ⟨s, law02_SpanWhole_of rfl ?_⟩
  unfold law02_SpanWhole
  have hd : ∀ b : Bool, (b != b) = false := fun b => by cases b <;> rfl
  simp only [z_rv, box_rv, ld_rv, st_rv, k_live, k_cov, k_chk, k_has, k_key, eR_0, eK_0, cov_all, has_all, own_some, own_id, differ_bool, hd, Option.bind_some, Option.map_some, getL_0, getL_1, getL_2, getL_3, getL_4, getL_5, getL_6, getL_7, getL_8, getL_9, getL_10, getL_11, getL_12, condV_t, condV_f, guardV_tt, guardV_ff, guardV_tf, guardV_ft, guardV_u, apick_t, apick_f, exV_exit, exV_ret, lookE_same, joinK_eq, seqA_n, seqA_e, seqA_r, e_add, e_sub, e_mul, e_eql, e_neq, e_lss, e_leq, e_gtr, e_geq, e_conv, e_not, e_neg, and_guard, or_guard]
  have ht := @cov_trans a b c
  have ha := @cov_anti a b
  cases h1 : covL a b <;> cases h2 : covL b c <;> cases h3 : covL a c <;> cases h4 : covL b a <;> first
    | (have h5 := ht h1 h2; rw [h3] at h5; cases h5; done)
    | (simp only [h1, h2, h3, h4, ld_rv, k_cov, rv_eql, ha h1 h4, beq_self_eq_true, Bool.and_self, Bool.not_true, Bool.not_false, Option.bind_some, Option.map_some, getL_0, getL_1, getL_2, getL_3, getL_4, getL_5, getL_6, getL_7, getL_8, getL_9, getL_10, getL_11, getL_12, condV_t, condV_f, guardV_tt, guardV_ff, guardV_tf, guardV_ft, guardV_u, apick_t, apick_f, exV_exit, exV_ret, lookE_same, joinK_eq, seqA_n, seqA_e, seqA_r, e_add, e_sub, e_mul, e_eql, e_neq, e_lss, e_leq, e_gtr, e_geq, e_conv, e_not, e_neg, and_guard, or_guard, retV]; rfl)
    | (simp only [h1, h2, h3, h4, ld_rv, k_cov, Bool.not_true, Bool.not_false, Option.bind_some, Option.map_some, getL_0, getL_1, getL_2, getL_3, getL_4, getL_5, getL_6, getL_7, getL_8, getL_9, getL_10, getL_11, getL_12, condV_t, condV_f, guardV_tt, guardV_ff, guardV_tf, guardV_ft, guardV_u, apick_t, apick_f, exV_exit, exV_ret, lookE_same, joinK_eq, seqA_n, seqA_e, seqA_r, e_add, e_sub, e_mul, e_eql, e_neq, e_lss, e_leq, e_gtr, e_geq, e_conv, e_not, e_neg, and_guard, or_guard, retV]; rfl)

theorem SpanBoth_law (s : St) (a1 a2 : ByteArray) (_ : a1.size ≤ maxLen) (_ : a2.size ≤ maxLen) (b1 b2 : ByteArray) (_ : b1.size ≤ maxLen) (_ : b2.size ≤ maxLen) (k : ByteArray) (_ : k.size ≤ 140737488351232) (c : ByteArray) (_ : c.size ≤ 140737488351232) : ∃ s', (run Try.prog (libL libT) hints) 9 [.agg #[.string a1, .string a2], .agg #[.string b1, .string b2], .string k, .string c] s = some (.bool true, s') := by
  rw [rv_of, rv_of, sv_of k, sv_of c]
  generalize ((a1.data.toList, a2.data.toList) : Rg) = a
  generalize ((b1.data.toList, b2.data.toList) : Rg) = b
  generalize k.data.toList = k
  generalize c.data.toList = c
  refine ⟨s, law02_SpanBoth_of rfl ?_⟩
  unfold law02_SpanBoth
  have hd : ∀ b : Bool, (b != b) = false := fun b => by cases b <;> rfl
  have hc := meet_comm b a
  have hb := both_has a b k
  have hv := @cov_meet a b
  have key : ∀ (x y z : Bool), (x && y) = z → ∀ {β : Type} (t : St) (K : Value → List Value × St → Option β), ((guardV (.bool x) true (some ([.bool y], t)) (some ([undef], t))).bind fun q => (apick (.bool x) (getL q.1 0) (.bool false)).bind fun v => K v q) = K (.bool z) ([if x = true then .bool y else undef], t) := fun x y z h β t K => by
    subst h
    cases x <;> rfl
  simp only [z_rv, box_rv, ld_rv, st_rv, k_live, k_meet, k_has, hc, x_meet.1, x_meet.2, rv_neq, differ_bool, hd, beq_self_eq_true, Bool.and_self, Bool.not_true, key _ _ _ hb, Option.bind_some, Option.map_some, getL_0, getL_1, getL_2, getL_3, getL_4, getL_5, getL_6, getL_7, getL_8, getL_9, getL_10, getL_11, getL_12, condV_t, condV_f, guardV_tt, guardV_ff, guardV_tf, guardV_ft, guardV_u, apick_t, apick_f, exV_exit, exV_ret, lookE_same, joinK_eq, seqA_n, seqA_e, seqA_r, e_add, e_sub, e_mul, e_eql, e_neq, e_lss, e_leq, e_gtr, e_geq, e_conv, e_not, e_neg, and_guard, or_guard]
  have hcut : (cutL a c).2.2 = 0 → ckR a = true ∧ ckK c = true ∧ (c == a.1 || !hasR a c) = false ∧ cutL a c = ((a.1, c), (c, a.2), 0) := by
    unfold cutL
    split
    · split
      · split
        · intro h; cases h
        · intro _; exact ⟨by assumption, by assumption, by rename_i h0 _; exact Bool.eq_false_iff.2 h0, rfl⟩
      · intro h; cases h
    · intro h; cases h
  cases e : meetL a b with
  | none =>
    have hv2 : covL a b = false := by
      cases e2 : covL a b with
      | false => rfl
      | true => rw [hv e2] at e; cases e
    simp only [e, hv2, Option.isSome_none, Bool.false_and, hd, k_has, k_cov, k_cut, ld_rv, differ_bool, Option.bind_some, Option.map_some, getL_0, getL_1, getL_2, getL_3, getL_4, getL_5, getL_6, getL_7, getL_8, getL_9, getL_10, getL_11, getL_12, condV_t, condV_f, guardV_tt, guardV_ff, guardV_tf, guardV_ft, guardV_u, apick_t, apick_f, exV_exit, exV_ret, lookE_same, joinK_eq, seqA_n, seqA_e, seqA_r, e_add, e_sub, e_mul, e_eql, e_neq, e_lss, e_leq, e_gtr, e_geq, e_conv, e_not, e_neg, and_guard, or_guard]
    by_cases hz : (cutL a c).2.2 = 0
    · obtain ⟨c1, c2, c3, c4⟩ := hcut hz
      obtain ⟨h8, h9⟩ := cut_facts (k := k) c1 c2 c3
      have e0 : ((0 : Int) != 0) = false := rfl
      cases h7 : hasR (c, a.2) k <;> cases h6 : hasR (a.1, c) k <;> cases h5 : hasR a k <;> rw [h5, h6, h7] at h8 <;> rw [h6, h7] at h9 <;> first
        | (cases h8; done)
        | (cases h9; done)
        | (simp only [c4, e0, h5, h6, h7, z_rv, ld_rv, st_rv, k_has, x_cut.1, x_cut.2.1, x_cut.2.2, own_some, own_id, differ_bool, same_bool, hd, bne_self_eq_false, beq_self_eq_true, Bool.not_true, Bool.not_false, show (false != true) = true from rfl, show (true != false) = true from rfl, show (false == false) = true from rfl, show (true == true) = true from rfl, Option.bind_some, Option.map_some, getL_0, getL_1, getL_2, getL_3, getL_4, getL_5, getL_6, getL_7, getL_8, getL_9, getL_10, getL_11, getL_12, condV_t, condV_f, guardV_tt, guardV_ff, guardV_tf, guardV_ft, guardV_u, apick_t, apick_f, exV_exit, exV_ret, lookE_same, joinK_eq, seqA_n, seqA_e, seqA_r, e_add, e_sub, e_mul, e_eql, e_neq, e_lss, e_leq, e_gtr, e_geq, e_conv, e_not, e_neg, and_guard, or_guard, retV]; rfl)
    · have e1 : ((cutL a c).2.2 != 0) = true := by simpa using hz
      simp only [e1, z_rv, ld_rv, st_rv, x_cut.1, x_cut.2.1, x_cut.2.2, Option.bind_some, Option.map_some, getL_0, getL_1, getL_2, getL_3, getL_4, getL_5, getL_6, getL_7, getL_8, getL_9, getL_10, getL_11, getL_12, condV_t, condV_f, guardV_tt, guardV_ff, guardV_tf, guardV_ft, guardV_u, apick_t, apick_f, exV_exit, exV_ret, lookE_same, joinK_eq, seqA_n, seqA_e, seqA_r, e_add, e_sub, e_mul, e_eql, e_neq, e_lss, e_leq, e_gtr, e_geq, e_conv, e_not, e_neg, and_guard, or_guard, retV]
      rfl
  | some m =>
    have hv3 : covL a b = true → m = b := fun e2 => by rw [hv e2] at e; cases e; rfl
    cases e4 : hasR m k <;> cases e2 : covL a b
    all_goals try cases hv3 e2
    all_goals simp only [e, mR, e2, e4, Option.isSome_some, Bool.true_and, Bool.not_true, beq_self_eq_true, Bool.and_self, hd, k_has, k_cov, k_cut, z_rv, st_rv, ld_rv, rv_neq, differ_bool, Option.bind_some, Option.map_some, getL_0, getL_1, getL_2, getL_3, getL_4, getL_5, getL_6, getL_7, getL_8, getL_9, getL_10, getL_11, getL_12, condV_t, condV_f, guardV_tt, guardV_ff, guardV_tf, guardV_ft, guardV_u, apick_t, apick_f, exV_exit, exV_ret, lookE_same, joinK_eq, seqA_n, seqA_e, seqA_r, e_add, e_sub, e_mul, e_eql, e_neq, e_lss, e_leq, e_gtr, e_geq, e_conv, e_not, e_neg, and_guard, or_guard]
    all_goals by_cases hz : (cutL a c).2.2 = 0
    all_goals first
      | (have e1 : ((cutL a c).2.2 != 0) = true := by simpa using hz
         simp only [e1, z_rv, ld_rv, st_rv, x_cut.1, x_cut.2.1, x_cut.2.2, Option.bind_some, Option.map_some, getL_0, getL_1, getL_2, getL_3, getL_4, getL_5, getL_6, getL_7, getL_8, getL_9, getL_10, getL_11, getL_12, condV_t, condV_f, guardV_tt, guardV_ff, guardV_tf, guardV_ft, guardV_u, apick_t, apick_f, exV_exit, exV_ret, lookE_same, joinK_eq, seqA_n, seqA_e, seqA_r, e_add, e_sub, e_mul, e_eql, e_neq, e_lss, e_leq, e_gtr, e_geq, e_conv, e_not, e_neg, and_guard, or_guard, retV]
         rfl)
      | (obtain ⟨c1, c2, c3, c4⟩ := hcut hz
         obtain ⟨h8, h9⟩ := cut_facts (k := k) c1 c2 c3
         have e0 : ((0 : Int) != 0) = false := rfl
         cases h7 : hasR (c, a.2) k <;> cases h6 : hasR (a.1, c) k <;> cases h5 : hasR a k <;> rw [h5, h6, h7] at h8 <;> rw [h6, h7] at h9 <;> first
          | (cases h8; done)
          | (cases h9; done)
          | (simp only [c4, e0, h5, h6, h7, z_rv, ld_rv, st_rv, k_has, x_cut.1, x_cut.2.1, x_cut.2.2, own_some, own_id, differ_bool, same_bool, hd, bne_self_eq_false, beq_self_eq_true, Bool.not_true, Bool.not_false, show (false != true) = true from rfl, show (true != false) = true from rfl, show (false == false) = true from rfl, show (true == true) = true from rfl, Option.bind_some, Option.map_some, getL_0, getL_1, getL_2, getL_3, getL_4, getL_5, getL_6, getL_7, getL_8, getL_9, getL_10, getL_11, getL_12, condV_t, condV_f, guardV_tt, guardV_ff, guardV_tf, guardV_ft, guardV_u, apick_t, apick_f, exV_exit, exV_ret, lookE_same, joinK_eq, seqA_n, seqA_e, seqA_r, e_add, e_sub, e_mul, e_eql, e_neq, e_lss, e_leq, e_gtr, e_geq, e_conv, e_not, e_neg, and_guard, or_guard, retV]; rfl))

end Go.Proofs.Ytcahddipgocpfaa.Ab
