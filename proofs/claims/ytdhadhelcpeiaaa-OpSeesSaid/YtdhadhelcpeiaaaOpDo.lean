/- What single operations do to a map, and tell. -/
import Derived.Test.YtdhadhelcpeiaaaOpAt
import Derived.Test.YtdhadhelcpeiaaaBList2
set_option linter.unusedVariables false
set_option linter.unusedSimpArgs false
set_option linter.unusedSectionVars false
namespace Go.Proofs.Ytdhadhelcpeiaaa.Ab
open Go

theorem room32 {q : Nat} (h : q ≤ 6500000000000) : roomA q 32 := .inr (by omega)
/-- what is told: found, value, pairs -/
def tellV (f : Bool) (v : BL) (p : Value) : Value := .agg #[.bool f, sv v, p]
theorem res_0 : (Value.agg #[(.bool false), sv [], (.slice none 0 0)]) = tellV false [] (.slice none 0 0) := rfl
theorem res_00 : (Value.agg #[(.bool false), (.string ⟨#[]⟩), (.slice none 0 0)]) = tellV false [] (.slice none 0 0) := rfl
theorem res_st (f : Bool) (v : BL) (p : Value) (h : isLeaf p = true) (g : Bool) (w : BL) (q : Value) : lstore 3 lptr (tellV f v p) (tellV g w q) = some (tellV f v p) := by
  cases p <;> first | rfl | (cases h; done)
theorem res_ld (f : Bool) (v : BL) (p : Value) : lload true 3 lptr (tellV f v p) = some (tellV f v p) := rfl
theorem lb_lt_of {m : List Rg} {k : BL} (h : fnd m k = true) : ∃ hj : lb m k < m.length, m[lb m k].1 = k := by
  unfold fnd at h
  split at h
  · rename_i p e
    obtain ⟨h1, h2⟩ := List.getElem?_eq_some_iff.1 e
    exact ⟨h1, by rw [h2]; simpa using h⟩
  · cases h
theorem op_at_call' {R : Caller} {xs : List Value} {s : St} : callV Try.prog R (.func (.func 53) #[] #[]) xs s = R 53 xs s := op_at_call
def getR (m : List Rg) (k : BL) : Bool × BL := if fnd m k then (true, (m[lb m k]?.getD ([], [])).2) else (false, [])
theorem get_run {R : Caller} (hA : ∀ xs s, R 53 xs s = gAt xs s) {v : Value} {s : St} {m : List Rg} (h : listOf prC v s = some m) (hl : m.length < 140737488355328) (hs : Srt m) (o : OpT) (hnt : noTup v = true) : op_get R v (oV o) s = some (.tuple #[v, tellV (getR m o.key).1 (getR m o.key).2 (.slice none 0 0)], s) := by
  unfold op_get getR
  simp only [o_box, o_1, op_at_call, hA, at_eq h hl hs, x_at0, x_at1, res_00, n_bind, n_map, getL_0, getL_1, getL_2, getL_3, getL_4, getL_5, getL_6, getL_7, getL_8, getL_9, getL_10, getL_11, getL_12, condV_t, condV_f, guardV_tt, guardV_ff, guardV_tf, guardV_ft, guardV_u, apick_t, apick_f, exV_exit, exV_ret, lookE_same, joinK_eq, seqA_n, seqA_e, seqA_r, e_add, e_sub, e_mul, e_eql, e_neq, e_lss, e_leq, e_gtr, e_geq, e_conv, e_not, e_neg, and_guard, or_guard]
  cases hf : fnd m o.key
  · simp only [Bool.not_false, if_false, Bool.false_eq_true, n_bind, n_map, getL_0, getL_1, getL_2, getL_3, getL_4, getL_5, getL_6, getL_7, getL_8, getL_9, getL_10, getL_11, getL_12, condV_t, condV_f, guardV_tt, guardV_ff, guardV_tf, guardV_ft, guardV_u, apick_t, apick_f, exV_exit, exV_ret, lookE_same, joinK_eq, seqA_n, seqA_e, seqA_r, e_add, e_sub, e_mul, e_eql, e_neq, e_lss, e_leq, e_gtr, e_geq, e_conv, e_not, e_neg, and_guard, or_guard, retV, List.all_cons, hnt]
    rfl
  · obtain ⟨hj, _⟩ := lb_lt_of hf
    obtain ⟨p, g1, q, g2, g3⟩ := list_field h hj (j := 1) (c := sv m[lb m o.key].2) rfl (k := .i64) (n := 2) rfl
    have hb : ∀ x : BL, abuild Try.prog 34 [(0, (.bool true)), (1, sv x)] = some (tellV true x (.slice none 0 0)) := fun x => by kernel_rfl
    have hg : (m[lb m o.key]?.getD ([], [])).2 = m[lb m o.key].2 := by rw [List.getElem?_eq_getElem hj]; rfl
    simp only [Bool.not_true, if_true, n_bind, n_map, getL_0, getL_1, getL_2, getL_3, getL_4, getL_5, getL_6, getL_7, getL_8, getL_9, getL_10, getL_11, getL_12, condV_t, condV_f, guardV_tt, guardV_ff, guardV_tf, guardV_ft, guardV_u, apick_t, apick_f, exV_exit, exV_ret, lookE_same, joinK_eq, seqA_n, seqA_e, seqA_r, e_add, e_sub, e_mul, e_eql, e_neq, e_lss, e_leq, e_gtr, e_geq, e_conv, e_not, e_neg, and_guard, or_guard, g1, g2, g3, own_id, hb, res_st _ _ (.slice none 0 0) rfl, res_ld, hg, retV, List.all_cons, hnt]
    rfl

/-! ### Insert -/
def putL (m : List Rg) (k v : BL) : List Rg := if fnd m k then m.set (lb m k) ((m[lb m k]?.getD ([], [])).1, v) else m.take (lb m k) ++ (k, v) :: m.drop (lb m k)
theorem blk_lt_keep {B : Option Nat} {s t u : St} (h : Keep B s t) (g : Keep B t u) : Keep B s u := h.trans g
theorem ins_ok {N : Nat} {s : St} {v : Value} {m : List Rg} (h : OwnC prC N s v m) (hN : N ≤ s.heap.length) (p : Rg) {i : Nat} (hi : i ≤ m.length) (hb : m.length + 1 ≤ 6500000000000) :
    ∃ v' t, gIns [v, .int .i64 (i : Int), .slice (some ⟨s.heap.length, 0, none⟩) 1 1] (s.push (.row 2 (prC.enc p) .act)) = some (v', t) ∧ OwnC prC N t v' (m.take i ++ p :: m.drop i) ∧ Keep (blkOf v) s t ∧ Fresh s v v' ∧ (∀ c, blkOf v' = some c → N ≤ c) := by
  have hk0 : Keep (blkOf v) s (s.push (.row 2 (prC.enc p) .act)) := (Ext.push _ (Nat.le_refl _) _).keep
  have h1 : OwnC prC N (s.push (.row 2 (prC.enc p) .act)) v m := by
    rcases h with h | ⟨b, cap, rest, rfl, h1, h2, h3⟩
    · exact .inl h
    · exact .inr ⟨b, cap, rest, rfl, h1, by rw [push_old (List.getElem?_eq_some_iff.1 h2).1]; exact h2, h3⟩
  have hy : listOf prC (.slice (some ⟨s.heap.length, 0, none⟩) 1 1) (s.push (.row 2 (prC.enc p) .act)) = some [p] := by
    refine (listOf_iff prC).2 ?_
    simp only [cellsOf, Nat.le_refl, if_true, readN, Ab.readRow, push_get, Option.bind_some]
    rfl
  have hroom := room32 hb
  have hlv := list_lenV h.list
  unfold gIns
  simp only
  rw [if_pos (by omega), Int.toNat_natCast, hlv]
  by_cases he : i = m.length
  · subst he
    rw [if_pos rfl]
    have hsl : (asliceV 2 v (some (.int .i64 ((m.length : Nat) : Int))) none none).isSome = true := by
      obtain ⟨u, hu, _⟩ := list_slice h.list (lo := some (.int .i64 ((m.length : Nat) : Int))) (hi := none) (mx := none) (i := m.length) (j := m.length) (by simp [abound]) rfl (Nat.le_refl _) (Nat.le_refl _) (.inl rfl) (n := 2) rfl
      rw [hu]; rfl
    rw [if_pos ⟨hsl, by simp [lenV], by simp [lenV]⟩]
    obtain ⟨v', t, g1, g2, g3, g4, g5⟩ := ownC_push (w := 32) h1 (by rw [push_len]; omega) (by decide) hy hroom (n := 2) rfl
    rw [g1]
    refine ⟨v', t, ?_, ?_, hk0.trans g3, ?_, g5⟩
    · simp only [Option.bind_some, retV, List.all_cons, g2.notup]
      rfl
    · rw [List.take_length, List.drop_length]
      exact g2
    · rcases g4 with g4 | g4
      · exact .inl g4
      · exact .inr fun c hc => by have := g4 c hc; rw [push_len] at this; omega
  · rw [if_neg (by simp; omega)]
    have hlt : i < m.length := by omega
    rcases h1 with ⟨_, rfl⟩ | ⟨b, cap, rest, rfl, e1, e2, e3, e4⟩
    · simp at hlt
    have hbl : b < s.heap.length := by
      rcases h with ⟨h0, _⟩ | ⟨b', cap', rest', h0, _, h5, _⟩
      · cases h0
      · cases h0; exact (List.getElem?_eq_some_iff.1 h5).1
    have hle : m.length ≤ cap := OwnC.cap_le (N := N) (s := s) (b := b) (len := m.length) e3
    have hel : (encL prC m).length = m.length * 2 := encL_len prC m
    unfold gInsMid
    simp only [e2, push_get]
    rw [if_pos (by
      refine ⟨?_, ?_, by omega, hlt, hle, by show m.length * 2 ≤ _; rw [List.length_append]; omega, by decide, Nat.le_refl 2, by decide, hroom⟩ <;> first | trivial | rfl)]
    have htk : (encL prC m ++ rest).take (i * 2) = encL prC (m.take i) := by
      rw [List.take_append_of_le_length (by omega)]
      exact encL_take prC m i
    have hdr : ((encL prC m ++ rest).take (m.length * 2)).drop (i * 2) = encL prC (m.drop i) := by
      rw [← hel, List.take_left]
      exact encL_drop prC m i
    have hnew : ((prC.enc p).drop 0).take (1 * 2) = encL prC [p] := rfl
    rw [htk, hdr, hnew]
    have hlen2 : (s.push (.row 2 (prC.enc p) .act)).heap.length = ((s.push (.row 2 (prC.enc p) .act)).putB b (.row 2 (encL prC m ++ rest) .dead)).heap.length := by simp [St.putB]
    refine ⟨_, _, rfl, .inr ⟨(s.push (.row 2 (prC.enc p) .act)).heap.length, m.length + 1, [], ?_, ?_, ?_, ?_, rfl⟩, ?_, .inr fun c hc => ?_, fun c hc => ?_⟩
    · congr 1
      simp
      omega
    · rw [push_len]; omega
    · have : encL prC (m.take i) ++ encL prC [p] ++ encL prC (m.drop i) = encL prC (m.take i ++ p :: m.drop i) := by
        rw [List.append_assoc, encL_append]; rfl
      rw [List.append_nil, this, hlen2]
      exact push_get
    · rw [List.append_nil, encL_len]
      congr 1
      simp
      omega
    · exact hk0.trans (putB_keep.trans (Ext.push _ (Nat.le_refl _) _).keep)
    · have hpl : (s.push (.row 2 (prC.enc p) .act)).heap.length = s.heap.length + 1 := push_len
      cases hc
      show s.heap.length ≤ (s.push (.row 2 (prC.enc p) .act)).heap.length
      omega
    · have hpl : (s.push (.row 2 (prC.enc p) .act)).heap.length = s.heap.length + 1 := push_len
      cases hc
      show N ≤ (s.push (.row 2 (prC.enc p) .act)).heap.length
      omega
theorem pr_build (k v : BL) : abuild Try.prog 32 [(0, sv k), (1, sv v)] = some (rv (k, v)) := by kernel_rfl
theorem pr_one (p : Rg) (s : St) : abuildSl 2 [(.string ⟨#[]⟩), (.string ⟨#[]⟩)] 1 [(0, rv p)] s = some (.slice (some ⟨s.heap.length, 0, none⟩) 1 1, s.push (.row 2 (prC.enc p) .act)) := by
  obtain ⟨a, b⟩ := p
  rfl
theorem put_run {R : Caller} (hA : ∀ xs s, R 53 xs s = gAt xs s) (hI : ∀ xs s, R 54 xs s = gIns xs s) {N : Nat} {v : Value} {s : St} {m : List Rg} (h : OwnC prC N s v m) (hN : N ≤ s.heap.length) (hl : m.length + 1 ≤ 6500000000000) (hs : Srt m) (o : OpT) :
    ∃ v' t, op_put R v (oV o) s = some (.tuple #[v', tellV false [] (.slice none 0 0)], t) ∧ OwnC prC N t v' (putL m o.key o.val) ∧ Keep (blkOf v) s t ∧ Fresh s v v' ∧ (∀ c, blkOf v' = some c → N ≤ c) := by
  unfold op_put putL
  simp only [o_box, o_1, o_2, op_at_call, hA, at_eq h.list (by omega) hs, x_at0, x_at1, res_00, n_bind, n_map, getL_0, getL_1, getL_2, getL_3, getL_4, getL_5, getL_6, getL_7, getL_8, getL_9, getL_10, getL_11, getL_12, condV_t, condV_f, guardV_tt, guardV_ff, guardV_tf, guardV_ft, guardV_u, apick_t, apick_f, exV_exit, exV_ret, lookE_same, joinK_eq, seqA_n, seqA_e, seqA_r, e_add, e_sub, e_mul, e_eql, e_neq, e_lss, e_leq, e_gtr, e_geq, e_conv, e_not, e_neg, and_guard, or_guard]
  cases hf : fnd m o.key
  · obtain ⟨v', t, g1, g2, g3, g4, g5⟩ := ins_ok h hN (o.key, o.val) (lb_le m o.key) hl
    refine ⟨v', t, ?_, g2, g3, g4, g5⟩
    simp only [Bool.not_false, if_false, Bool.false_eq_true, n_bind, n_map, getL_0, getL_1, getL_2, getL_3, getL_4, getL_5, getL_6, getL_7, getL_8, getL_9, getL_10, getL_11, getL_12, condV_t, condV_f, guardV_tt, guardV_ff, guardV_tf, guardV_ft, guardV_u, apick_t, apick_f, exV_exit, exV_ret, lookE_same, joinK_eq, seqA_n, seqA_e, seqA_r, e_add, e_sub, e_mul, e_eql, e_neq, e_lss, e_leq, e_gtr, e_geq, e_conv, e_not, e_neg, and_guard, or_guard, o_1, o_2, pr_build, pr_one, slices_Insert_api_Pair_api_Pair_call, hI, g1, retV, List.all_cons, g2.notup]
    rfl
  · obtain ⟨hj, hk⟩ := lb_lt_of hf
    have hg : (m[lb m o.key]?.getD ([], [])).1 = m[lb m o.key].1 := by rw [List.getElem?_eq_getElem hj]; rfl
    obtain ⟨p, q, t, g1, g2, g3, g4, g5⟩ := ownC_set h hj (k := 1) (a := (m[lb m o.key].1, o.val)) (x := sv o.val) (by decide) rfl rfl rfl (kd := .i64) (n := 2) rfl
    refine ⟨v, t, ?_, by rw [if_pos rfl, hg]; exact g4, g5, .inl rfl, fun c hc => (h.blk c hc).1⟩
    simp only [Bool.not_true, n_bind, n_map, getL_0, getL_1, getL_2, getL_3, getL_4, getL_5, getL_6, getL_7, getL_8, getL_9, getL_10, getL_11, getL_12, condV_t, condV_f, guardV_tt, guardV_ff, guardV_tf, guardV_ft, guardV_u, apick_t, apick_f, exV_exit, exV_ret, lookE_same, joinK_eq, seqA_n, seqA_e, seqA_r, e_add, e_sub, e_mul, e_eql, e_neq, e_lss, e_leq, e_gtr, e_geq, e_conv, e_not, e_neg, and_guard, or_guard, o_2, g1, g2, g3, retV, List.all_cons, h.notup]
    rfl
theorem Delete_run {R : Caller} {N : Nat} {v : Value} {s : St} {m : List Rg} (h : OwnC prC N s v m) (hl : m.length ≤ 6500000000000) {i j : Nat} (hij : i ≤ j) (hj : j ≤ m.length) :
    ∃ v' t, slices_Delete_api_Pair_api_Pair R v (.int .i64 (i : Int)) (.int .i64 (j : Int)) s = some (v', t) ∧ OwnC prC N t v' (m.take i ++ m.drop j) ∧ Keep (blkOf v) s t ∧ blkOf v' = blkOf v := by
  have hsl : ∃ u, asliceV 2 v (some (.int .i64 (i : Int))) (some (.int .i64 (j : Int))) (some (.int .i64 ((m.length : Nat) : Int))) = some u := by
    rcases h with ⟨rfl, rfl⟩ | ⟨b, cap, rest, rfl, e1, e2, e3, e4⟩
    · simp only [List.length_nil] at hj
      obtain rfl : j = 0 := by omega
      obtain rfl : i = 0 := by omega
      exact ⟨_, rfl⟩
    · have hle : m.length ≤ cap := OwnC.cap_le (N := N) (s := s) (b := b) (len := m.length) e3
      simp only [asliceV, asliceSl, abound, Int.toNat_natCast, Option.isNone_some, Option.isSome_some, Bool.or_true, if_true, Option.bind_some]
      rw [if_pos (by omega), if_pos (by omega), if_pos (by omega)]
      simp only [Option.bind_some]
      rw [if_pos (by omega)]
      exact ⟨_, rfl⟩
  obtain ⟨u, hu⟩ := hsl
  unfold slices_Delete_api_Pair_api_Pair
  simp only [list_len h.list, hu, n_bind, e_eql]
  by_cases he : i = j
  · subst he
    have h1 : ((i : Int) == (i : Int)) = true := beq_self_eq_true _
    refine ⟨v, s, ?_, by rw [List.take_append_drop]; exact h, .refl _ _, rfl⟩
    simp only [h1, condV_t, retV, List.all_cons, h.notup]
    rfl
  · have h1 : ((i : Int) == (j : Int)) = false := by rw [beq_eq_false_iff_ne]; omega
    obtain ⟨v4, v5, v6, v8, s2, t, g1, g2, g3, g4, g5, g6, g7, g8, g9, g10⟩ := ownC_del (w := 32) h (show i < j by omega) hj (by decide) (room32 hl) (z := [(.string ⟨#[]⟩), (.string ⟨#[]⟩)]) rfl rfl (n := 2) rfl
    refine ⟨v6, t, ?_, g8, g9, g10⟩
    simp only [h1, condV_f, n_bind, g1, g2, g3, own_ok g4, g5, g6, g7, retV, List.all_cons, g8.notup]
    rfl

end Go.Proofs.Ytdhadhelcpeiaaa.Ab
