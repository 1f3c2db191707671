/- Owners: lists of one's own; compared. -/
import Derived.Test.YtmnmpackcjakdaaOwFind
import Derived.Test.YtmnmpackcjakdaaOwIns
import Derived.Test.YtmnmpackcjakdaaBList2
set_option linter.unusedVariables false
set_option linter.unusedSimpArgs false
set_option linter.unusedSectionVars false
namespace Go.Proofs.Ytmnmpackcjakdaa.Ab
open Go

theorem room24 {q : Nat} (h : q ≤ 6500000000000) : roomA q 24 := .inr (by omega)
theorem ow_nil {o1 o2 : Operand} : abin Try.prog .eql 22 o1 o2 (.slice none 0 0) (.slice none 0 0) = some (.bool true) := by
  unfold abin
  rw [Try.underlying22]
  rfl
theorem ow_some {o1 o2 : Operand} {a : Addr} {len cap : Nat} : abin Try.prog .eql 22 o1 o2 (.slice (some a) len cap) (.slice none 0 0) = some (.bool false) := by
  unfold abin
  rw [Try.underlying22]
  rfl
theorem cloneO_run {R : Caller} {v : Value} {s : St} {m : List Ow} (h : listOf owC v s = some m) (hl : m.length ≤ 6500000000000) :
    ∃ v' t, slices_Clone_api_Owner_api_Owner R v s = some (v', t) ∧ OwnC owC s.heap.length t v' m ∧ Ext s.heap.length s t := by
  unfold slices_Clone_api_Owner_api_Owner
  obtain ⟨a, cap, rfl⟩ := list_shape h
  cases a with
  | none =>
    have hn := (listOf_iff owC).1 h
    unfold cellsOf at hn
    split at hn
    · rename_i e
      injection e with _ e1 e2
      have hm : m = [] := List.eq_nil_of_length_eq_zero e1
      subst hm
      subst e2
      refine ⟨.slice none 0 0, s, ?_, .inl ⟨rfl, rfl⟩, .refl _ _⟩
      simp only [List.length_nil, ow_nil, n_bind, n_map, getL_0, getL_1, getL_2, getL_3, getL_4, getL_5, getL_6, getL_7, getL_8, getL_9, getL_10, getL_11, getL_12, condV_t, condV_f, guardV_tt, guardV_ff, guardV_tf, guardV_ft, guardV_u, apick_t, apick_f, exV_exit, exV_ret, lookE_same, joinK_eq, seqA_n, seqA_e, seqA_r, e_add, e_sub, e_mul, e_eql, e_neq, e_lss, e_leq, e_gtr, e_geq, e_conv, e_not, e_neg, and_guard, or_guard, retV]
      rfl
    · rename_i e; injection e with e _ _; cases e
    · cases hn
  | some a =>
    have e1 : abuildSl 2 [(.string ⟨#[]⟩), (.int .i64 0)] 0 [] s = some (.slice (some ⟨s.heap.length, 0, none⟩) 0 0, s.push (.row 2 [] .act)) := rfl
    have hx : Ext s.heap.length s (s.push (.row 2 [] .act)) := .push _ (Nat.le_refl _) _
    have h2 := list_ext hx h
    have he : elemsOf 2 (.slice (some a) m.length cap) (s.push (.row 2 [] .act)) = some (encL owC m) := list_elems h2
    simp only [ow_some, e1, n_bind, n_map, getL_0, getL_1, getL_2, getL_3, getL_4, getL_5, getL_6, getL_7, getL_8, getL_9, getL_10, getL_11, getL_12, condV_t, condV_f, guardV_tt, guardV_ff, guardV_tf, guardV_ft, guardV_u, apick_t, apick_f, exV_exit, exV_ret, lookE_same, joinK_eq, seqA_n, seqA_e, seqA_r, e_add, e_sub, e_mul, e_eql, e_neq, e_lss, e_leq, e_gtr, e_geq, e_conv, e_not, e_neg, and_guard, or_guard]
    unfold aappend
    rw [if_pos (by decide), list_lenV h2, he]
    simp only [Option.bind_some, Nat.zero_add]
    rw [if_pos (room24 hl)]
    by_cases hm : m.length = 0
    · have : m = [] := List.eq_nil_of_length_eq_zero hm
      subst this
      refine ⟨.slice (some ⟨s.heap.length, 0, none⟩) 0 0, s.push (.row 2 [] .act), rfl, .inr ⟨s.heap.length, 0, [], rfl, Nat.le_refl _, push_get, rfl, rfl⟩, hx⟩
    · rw [if_neg (by omega), push_get]
      simp only
      rw [if_pos ⟨trivial, trivial, rfl⟩]
      have hlen2 : (s.push (.row 2 [] .act)).heap.length = ((s.push (.row 2 [] .act)).putB s.heap.length (.row 2 [] .dead)).heap.length := by simp [St.putB]
      have hpl : (s.push (.row 2 [] .act)).heap.length = s.heap.length + 1 := push_len
      refine ⟨.slice (some ⟨(s.push (.row 2 [] .act)).heap.length, 0, none⟩) m.length m.length, ((s.push (.row 2 [] .act)).putB s.heap.length (.row 2 [] .dead)).push (.row 2 (encL owC m) .act), ?_, .inr ⟨(s.push (.row 2 [] .act)).heap.length, m.length, [], rfl, by omega, ?_, ?_, rfl⟩, ?_⟩
      · simp only [Option.bind_some, retV, List.nil_append]
        rfl
      · rw [List.append_nil, hlen2]
        exact push_get
      · rw [List.append_nil, encL_len]
      · refine ⟨by simp [St.putB, St.push], fun c hc => ?_⟩
        rw [push_old (by simp [St.putB, St.push]; omega)]
        simp only [St.putB]
        rw [List.getElem?_set_ne (by omega), push_old hc]
theorem insO_ok {N : Nat} {s : St} {v : Value} {m : List Ow} (h : OwnC owC N s v m) (hN : N ≤ s.heap.length) (p : Ow) {i : Nat} (hi : i ≤ m.length) (hb : m.length + 1 ≤ 6500000000000) :
    ∃ v' t, gInsO [v, .int .i64 (i : Int), .slice (some ⟨s.heap.length, 0, none⟩) 1 1] (s.push (.row 2 (owC.enc p) .act)) = some (v', t) ∧ OwnC owC N t v' (m.take i ++ p :: m.drop i) ∧ Keep (blkOf v) s t ∧ Fresh s v v' ∧ (∀ c, blkOf v' = some c → N ≤ c) := by
  have hk0 : Keep (blkOf v) s (s.push (.row 2 (owC.enc p) .act)) := (Ext.push _ (Nat.le_refl _) _).keep
  have h1 : OwnC owC N (s.push (.row 2 (owC.enc p) .act)) v m := by
    rcases h with h | ⟨b, cap, rest, rfl, h1, h2, h3⟩
    · exact .inl h
    · exact .inr ⟨b, cap, rest, rfl, h1, by rw [push_old (List.getElem?_eq_some_iff.1 h2).1]; exact h2, h3⟩
  have hy : listOf owC (.slice (some ⟨s.heap.length, 0, none⟩) 1 1) (s.push (.row 2 (owC.enc p) .act)) = some [p] := by
    refine (listOf_iff owC).2 ?_
    simp only [cellsOf, Nat.le_refl, if_true, readN, Ab.readRow, push_get, Option.bind_some]
    rfl
  have hroom := room24 hb
  have hlv := list_lenV h.list
  unfold gInsO
  simp only
  rw [if_pos (by omega), Int.toNat_natCast, hlv]
  by_cases he : i = m.length
  · subst he
    rw [if_pos rfl]
    have hsl : (asliceV 2 v (some (.int .i64 ((m.length : Nat) : Int))) none none).isSome = true := by
      obtain ⟨u, hu, _⟩ := list_slice h.list (lo := some (.int .i64 ((m.length : Nat) : Int))) (hi := none) (mx := none) (i := m.length) (j := m.length) (by simp [abound]) rfl (Nat.le_refl _) (Nat.le_refl _) (.inl rfl) (n := 2) rfl
      rw [hu]; rfl
    rw [if_pos ⟨hsl, by simp [lenV], by simp [lenV]⟩]
    obtain ⟨v', t, g1, g2, g3, g4, g5⟩ := ownC_push (w := 24) h1 (by rw [push_len]; omega) (by decide) hy hroom (n := 2) rfl
    rw [g1]
    refine ⟨v', t, ?_, ?_, hk0.trans g3, ?_, g5⟩
    · simp only [Option.bind_some, retV, List.all_cons, g2.notup]
      rfl
    · rw [List.take_length, List.drop_length]
      exact g2
    · rcases g4 with g4 | g4
      · exact .inl g4
      · exact .inr fun c hc => by have := g4 c hc; rw [push_len] at this; omega
  · rw [if_neg (by simp; omega)]
    have hlt : i < m.length := by omega
    rcases h1 with ⟨_, rfl⟩ | ⟨b, cap, rest, rfl, e1, e2, e3, e4⟩
    · simp at hlt
    have hbl : b < s.heap.length := by
      rcases h with ⟨h0, _⟩ | ⟨b', cap', rest', h0, _, h5, _⟩
      · cases h0
      · cases h0; exact (List.getElem?_eq_some_iff.1 h5).1
    have hle : m.length ≤ cap := OwnC.cap_le (N := N) (s := s) (b := b) (len := m.length) e3
    have hel : (encL owC m).length = m.length * 2 := encL_len owC m
    unfold gInsMid
    simp only [e2, push_get]
    rw [if_pos (by
      refine ⟨?_, ?_, by omega, hlt, hle, by show m.length * 2 ≤ _; rw [List.length_append]; omega, by decide, Nat.le_refl 2, by decide, hroom⟩ <;> first | trivial | rfl)]
    have htk : (encL owC m ++ rest).take (i * 2) = encL owC (m.take i) := by
      rw [List.take_append_of_le_length (by omega)]
      exact encL_take owC m i
    have hdr : ((encL owC m ++ rest).take (m.length * 2)).drop (i * 2) = encL owC (m.drop i) := by
      rw [← hel, List.take_left]
      exact encL_drop owC m i
    have hnew : ((owC.enc p).drop 0).take (1 * 2) = encL owC [p] := rfl
    rw [htk, hdr, hnew]
    have hlen2 : (s.push (.row 2 (owC.enc p) .act)).heap.length = ((s.push (.row 2 (owC.enc p) .act)).putB b (.row 2 (encL owC m ++ rest) .dead)).heap.length := by simp [St.putB]
    refine ⟨_, _, rfl, .inr ⟨(s.push (.row 2 (owC.enc p) .act)).heap.length, m.length + 1, [], ?_, ?_, ?_, ?_, rfl⟩, ?_, .inr fun c hc => ?_, fun c hc => ?_⟩
    · congr 1
      simp
      omega
    · rw [push_len]; omega
    · have : encL owC (m.take i) ++ encL owC [p] ++ encL owC (m.drop i) = encL owC (m.take i ++ p :: m.drop i) := by
        rw [List.append_assoc, encL_append]; rfl
      rw [List.append_nil, this, hlen2]
      exact push_get
    · rw [List.append_nil, encL_len]
      congr 1
      simp
      omega
    · exact hk0.trans (putB_keep.trans (Ext.push _ (Nat.le_refl _) _).keep)
    · have hpl : (s.push (.row 2 (owC.enc p) .act)).heap.length = s.heap.length + 1 := push_len
      cases hc
      show s.heap.length ≤ (s.push (.row 2 (owC.enc p) .act)).heap.length
      omega
    · have hpl : (s.push (.row 2 (owC.enc p) .act)).heap.length = s.heap.length + 1 := push_len
      cases hc
      show N ≤ (s.push (.row 2 (owC.enc p) .act)).heap.length
      omega

/-! ### Compared -/
theorem pr_intO {P : Program} {d : Nat} {t : TypeId} {k : IntKind} {a b : Int} (h : P.underlying t = some (.int k)) : pureRun P (Op.equalIn (d + 1) t (.int k a) (.int k b)) = some (a == b) := by
  unfold Op.equalIn
  rw [pr_bind, pr_und h]
  simp only [Option.bind_some, if_true, pr_pure]
theorem ow_eql (o1 o2 : Operand) (a b : Ow) : abin Try.prog .eql 30 o1 o2 (owV a) (owV b) = some (.bool (a.1 == b.1 && a.2 == b.2)) := by
  have hu := pr_und Try.underlying30
  have hg : pureRun Try.prog (eqGuard .eql 30 o1 o2 (.agg #[sv a.1, .int .i64 a.2]) (.agg #[sv b.1, .int .i64 b.2])) = some () := by kernel_rfl
  have hh : Try.prog.stoodInHeld 30 = false := by kernel_rfl
  have hp0 : ∀ (x : BL) (y : Int), pureRun Try.prog (part 9 #[sv x, .int .i64 y] 0) = some (sv x) := fun x y => by kernel_rfl
  have hp1 : ∀ (x : BL) (y : Int), pureRun Try.prog (part 3 #[sv x, .int .i64 y] 1) = some (.int .i64 y) := fun x y => by kernel_rfl
  have he : ∀ (n : Nat) (x y : BL), pureRun Try.prog (Op.equalIn (n + 1) 9 (sv x) (sv y)) = some (x == y) := fun n x y => by
    unfold sv
    rw [pr_str Try.underlying9, bytes_beq]
  have hi : ∀ (n : Nat) (x y : Int), pureRun Try.prog (Op.equalIn (n + 1) 3 (.int .i64 x) (.int .i64 y)) = some (x == y) := fun n x y => pr_intO Try.underlying3
  unfold abin aggBin owV
  simp only
  have hc : (constOk (.agg #[sv a.1, .int .i64 a.2]) && constOk (.agg #[sv b.1, .int .i64 b.2])) = true := rfl
  rw [if_pos hc, pr_bind, hg]
  simp only [Option.bind_some, binOp]
  rw [pr_bind]
  have key : pureRun Try.prog (Op.equal 30 (.agg #[sv a.1, .int .i64 a.2]) (.agg #[sv b.1, .int .i64 b.2])) = some (a.1 == b.1 && a.2 == b.2) := by
    unfold Op.equal Op.maxDepth Op.equalIn
    rw [pr_bind, hu]
    simp only [Option.bind_some]
    rw [pr_bind, pr_program]
    simp only [Option.bind_some, hh, Bool.false_eq_true, if_false, pr_bind]
    have hLo : ("Lo" ≠ "_") = True := by simp
    have hHi : ("Shard" ≠ "_") = True := by simp
    simp only [List.forIn_toArray, List.forIn_cons, List.forIn_nil]
    cases h1 : (a.1 == b.1)
    · simp only [Option.bind_some, pr_bind, pr_pure, Nat.reduceAdd, hLo, hHi, if_true, hp0, hp1, he, hi, Bool.not_true, Bool.not_false, Bool.false_eq_true, if_false, Bool.true_and, Bool.false_and, Bool.and_true, h1]
    cases h2 : (a.2 == b.2)
    · simp only [Option.bind_some, pr_bind, pr_pure, Nat.reduceAdd, hLo, hHi, if_true, hp0, hp1, he, hi, Bool.not_true, Bool.not_false, Bool.false_eq_true, if_false, Bool.true_and, Bool.false_and, Bool.and_true, h1, h2]
    · simp only [Option.bind_some, pr_bind, pr_pure, Nat.reduceAdd, hLo, hHi, if_true, hp0, hp1, he, hi, Bool.not_true, Bool.not_false, Bool.false_eq_true, if_false, Bool.true_and, Bool.false_and, Bool.and_true, h1, h2]
  rw [key]
  rfl
theorem ow_neq (o1 o2 : Operand) (a b : Ow) : abin Try.prog .neq 30 o1 o2 (owV a) (owV b) = some (.bool (!(a.1 == b.1 && a.2 == b.2))) := by
  have hg : pureRun Try.prog (eqGuard .neq 30 o1 o2 (.agg #[sv a.1, .int .i64 a.2]) (.agg #[sv b.1, .int .i64 b.2])) = some () := by kernel_rfl
  have h0 := ow_eql o1 o2 a b
  have hg0 : pureRun Try.prog (eqGuard .eql 30 o1 o2 (.agg #[sv a.1, .int .i64 a.2]) (.agg #[sv b.1, .int .i64 b.2])) = some () := by kernel_rfl
  unfold abin aggBin owV at h0 ⊢
  simp only at h0 ⊢
  have hc : (constOk (.agg #[sv a.1, .int .i64 a.2]) && constOk (.agg #[sv b.1, .int .i64 b.2])) = true := rfl
  rw [if_pos hc, pr_bind, hg0] at h0
  rw [if_pos hc, pr_bind, hg]
  simp only [Option.bind_some, binOp, pr_bind, pr_pure] at h0 ⊢
  cases e : pureRun Try.prog (Op.equal 30 (.agg #[sv a.1, .int .i64 a.2]) (.agg #[sv b.1, .int .i64 b.2])) with
  | none => rw [e] at h0; cases h0
  | some r =>
    rw [e] at h0
    simp only [Option.bind_some] at h0 ⊢
    cases h0
    rfl
theorem sameO_loop {R : Caller} {v w : Value} {s : St} {a b : List Ow} (ha : listOf owC v s = some a) (hb : listOf owC w s = some b) (hab : a.length = b.length) (hl : a.length < 140737488355328) : ∀ (ra rb : List Ow) (i : Nat), a.drop i = ra → b.drop i = rb → i ≤ a.length →
    loopL (ref17_Same.b0 R) [v, w, .int .i64 ((a.length : Nat) : Int), .int .i64 (i : Int)] s = some (if ra = rb then (.exit 0, [], s) else (.ret, [.bool false], s)) := by
  intro ra
  induction ra with
  | nil =>
    intro rb i h1 h2 hle
    have hge := List.drop_eq_nil_iff.1 h1
    have hrb : rb = [] := by rw [← h2]; exact List.drop_eq_nil_of_le (by omega)
    have hd : decide ((i : Int) < ((a.length : Nat) : Int)) = false := by simp; omega
    rw [hrb, if_pos rfl, loopL_eq]
    simp only [ref17_Same.b0, hd, n_bind, n_map, getL_0, getL_1, getL_2, getL_3, getL_4, getL_5, getL_6, getL_7, getL_8, getL_9, getL_10, getL_11, getL_12, condV_t, condV_f, guardV_tt, guardV_ff, guardV_tf, guardV_ft, guardV_u, apick_t, apick_f, exV_exit, exV_ret, lookE_same, joinK_eq, seqA_n, seqA_e, seqA_r, e_add, e_sub, e_mul, e_eql, e_neq, e_lss, e_leq, e_gtr, e_geq, e_conv, e_not, e_neg, and_guard, or_guard]
  | cons p ra ih =>
    intro rb i h1 h2 hle
    obtain ⟨hlt, he, hd⟩ := drop_nx h1
    have hdc : decide ((i : Int) < ((a.length : Nat) : Int)) = true := by simp; omega
    cases rb with
    | nil =>
      have := List.drop_eq_nil_iff.1 h2
      omega
    | cons q rb =>
      obtain ⟨hlt2, he2, hd2⟩ := drop_nx h2
      obtain ⟨x, a1, a2⟩ := list_at (s := frzS s) (by rw [list_frz]; exact ha) hlt (k := .i64) (n := 2) rfl
      obtain ⟨y, b1, b2⟩ := list_at (s := frzS s) (by rw [list_frz]; exact hb) hlt2 (k := .i64) (n := 2) rfl
      rw [ow_enc, he] at a2
      rw [ow_enc, he2] at b2
      have key := ih rb (i + 1) hd hd2 (by omega)
      rw [loopL_eq]
      simp only [ref17_Same.b0, hdc, a1, a2, b1, b2, ow_neq, n_bind, n_map, getL_0, getL_1, getL_2, getL_3, getL_4, getL_5, getL_6, getL_7, getL_8, getL_9, getL_10, getL_11, getL_12, condV_t, condV_f, guardV_tt, guardV_ff, guardV_tf, guardV_ft, guardV_u, apick_t, apick_f, exV_exit, exV_ret, lookE_same, joinK_eq, seqA_n, seqA_e, seqA_r, e_add, e_sub, e_mul, e_eql, e_neq, e_lss, e_leq, e_gtr, e_geq, e_conv, e_not, e_neg, and_guard, or_guard]
      by_cases e : p = q
      · subst e
        have e1 : (!(p.1 == p.1 && p.2 == p.2)) = false := by simp
        simp only [e1, inc_i (show i < 140737488355328 by omega), n_bind, n_map, getL_0, getL_1, getL_2, getL_3, getL_4, getL_5, getL_6, getL_7, getL_8, getL_9, getL_10, getL_11, getL_12, condV_t, condV_f, guardV_tt, guardV_ff, guardV_tf, guardV_ft, guardV_u, apick_t, apick_f, exV_exit, exV_ret, lookE_same, joinK_eq, seqA_n, seqA_e, seqA_r, e_add, e_sub, e_mul, e_eql, e_neq, e_lss, e_leq, e_gtr, e_geq, e_conv, e_not, e_neg, and_guard, or_guard]
        rw [key]
        simp
      · have e1 : (!(p.1 == q.1 && p.2 == q.2)) = true := by
          simp only [Bool.not_eq_true', Bool.and_eq_false_iff, beq_eq_false_iff_ne]
          by_cases c : p.1 = q.1
          · exact .inr fun d => e (Prod.ext c d)
          · exact .inl c
        simp only [e1, n_bind, n_map, getL_0, getL_1, getL_2, getL_3, getL_4, getL_5, getL_6, getL_7, getL_8, getL_9, getL_10, getL_11, getL_12, condV_t, condV_f, guardV_tt, guardV_ff, guardV_tf, guardV_ft, guardV_u, apick_t, apick_f, exV_exit, exV_ret, lookE_same, joinK_eq, seqA_n, seqA_e, seqA_r, e_add, e_sub, e_mul, e_eql, e_neq, e_lss, e_leq, e_gtr, e_geq, e_conv, e_not, e_neg, and_guard, or_guard]
        rw [if_neg fun c => e (List.cons.inj c).1]
theorem sameO_run {R : Caller} {v w : Value} {s : St} {a b : List Ow} (ha : listOf owC v s = some a) (hb : listOf owC w s = some b) (hl : a.length < 140737488355328) : ref17_Same R v w s = some (.bool (decide (a = b)), s) := by
  unfold ref17_Same
  simp only [list_len ha, list_len hb, n_bind, n_map, getL_0, getL_1, getL_2, getL_3, getL_4, getL_5, getL_6, getL_7, getL_8, getL_9, getL_10, getL_11, getL_12, condV_t, condV_f, guardV_tt, guardV_ff, guardV_tf, guardV_ft, guardV_u, apick_t, apick_f, exV_exit, exV_ret, lookE_same, joinK_eq, seqA_n, seqA_e, seqA_r, e_add, e_sub, e_mul, e_eql, e_neq, e_lss, e_leq, e_gtr, e_geq, e_conv, e_not, e_neg, and_guard, or_guard]
  by_cases e : a.length = b.length
  · have h1 := sameO_loop (R := R) ha hb e hl a b 0 rfl rfl (Nat.zero_le _)
    rw [show ((0 : Nat) : Int) = 0 from rfl] at h1
    have e1 : (((a.length : Nat) : Int) != ((b.length : Nat) : Int)) = false := by simp [e]
    simp only [e1, h1, n_bind, n_map, getL_0, getL_1, getL_2, getL_3, getL_4, getL_5, getL_6, getL_7, getL_8, getL_9, getL_10, getL_11, getL_12, condV_t, condV_f, guardV_tt, guardV_ff, guardV_tf, guardV_ft, guardV_u, apick_t, apick_f, exV_exit, exV_ret, lookE_same, joinK_eq, seqA_n, seqA_e, seqA_r, e_add, e_sub, e_mul, e_eql, e_neq, e_lss, e_leq, e_gtr, e_geq, e_conv, e_not, e_neg, and_guard, or_guard]
    by_cases c : a = b
    · rw [if_pos c]
      simp only [c, n_bind, n_map, getL_0, getL_1, getL_2, getL_3, getL_4, getL_5, getL_6, getL_7, getL_8, getL_9, getL_10, getL_11, getL_12, condV_t, condV_f, guardV_tt, guardV_ff, guardV_tf, guardV_ft, guardV_u, apick_t, apick_f, exV_exit, exV_ret, lookE_same, joinK_eq, seqA_n, seqA_e, seqA_r, e_add, e_sub, e_mul, e_eql, e_neq, e_lss, e_leq, e_gtr, e_geq, e_conv, e_not, e_neg, and_guard, or_guard, retV]
      rfl
    · rw [if_neg c]
      simp only [c, n_bind, n_map, getL_0, getL_1, getL_2, getL_3, getL_4, getL_5, getL_6, getL_7, getL_8, getL_9, getL_10, getL_11, getL_12, condV_t, condV_f, guardV_tt, guardV_ff, guardV_tf, guardV_ft, guardV_u, apick_t, apick_f, exV_exit, exV_ret, lookE_same, joinK_eq, seqA_n, seqA_e, seqA_r, e_add, e_sub, e_mul, e_eql, e_neq, e_lss, e_leq, e_gtr, e_geq, e_conv, e_not, e_neg, and_guard, or_guard, retV]
      rfl
  · have e1 : (((a.length : Nat) : Int) != ((b.length : Nat) : Int)) = true := by simp; omega
    have e2 : ¬ a = b := fun h => e (by rw [h])
    simp only [e1, e2, n_bind, n_map, getL_0, getL_1, getL_2, getL_3, getL_4, getL_5, getL_6, getL_7, getL_8, getL_9, getL_10, getL_11, getL_12, condV_t, condV_f, guardV_tt, guardV_ff, guardV_tf, guardV_ft, guardV_u, apick_t, apick_f, exV_exit, exV_ret, lookE_same, joinK_eq, seqA_n, seqA_e, seqA_r, e_add, e_sub, e_mul, e_eql, e_neq, e_lss, e_leq, e_gtr, e_geq, e_conv, e_not, e_neg, and_guard, or_guard, retV]
    rfl

end Go.Proofs.Ytmnmpackcjakdaa.Ab
